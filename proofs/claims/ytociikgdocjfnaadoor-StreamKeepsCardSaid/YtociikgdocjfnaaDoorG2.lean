/- Printed walks, part 2: each function's model, and that the code comes to it. -/
import Derived.Test.YtociikgdocjfnaaDoorProg
import Derived.Test.YtociikgdocjfnaaDoorSx9
import Derived.Test.YtociikgdocjfnaaDoorG1
namespace Go.Proofs.YtociikgdocjfnaaDoor.Sx
open Go

/-! shutter/attr.Get -/
def attr_Get.m (x0 : Int) : Option (api_Attr × GoErr) :=
  ((six_Get.m x0).bind fun t8 => (if t8.2 = GoErr.nil then (if (bAnd .i64 t8.1 2) = 0 then (some ((⟨((bAnd .i64 t8.1 32) != 0), ((bAnd .i64 t8.1 16) != 0), (bAnd .i64 (w64 (Int.tdiv t8.1 4)) 3), ((bAnd .i64 t8.1 1) != 0)⟩ : api_Attr), GoErr.nil)) else (some ((⟨false, false, 0, false⟩ : api_Attr), (GoErr.no 3)))) else (some ((⟨false, false, 0, false⟩ : api_Attr), (GoErr.no 3)))))

set_option maxRecDepth 100000 in
theorem attr_Get.calls {I : Gh} {h : Heap} {x0 : Int} (hB : Bd I h)  {r : (api_Attr × GoErr)}
    (H : attr_Get.m x0 = some r) :
    Ret Tryd.prog 85 #[.int .u8 x0] h (fun v h' => ∃ (I' : Gh) (v33 : Value), .tuple #[.agg #[.bool r.1.Protected, .bool r.1.Numeric, .int .i64 r.1.Show, .bool r.1.Modified], v33] = v ∧ Pst No I h I' h' ∧ ErrV I' h' r.2 v33) := by
  unfold attr_Get.m at H
  refine ret_of2 (args := [.int .u8 x0]) (rs := [.cell 2 24, .tmp 3]) (N := 33) Tryd.func85 rfl rfl rfl (Nat.le_of_ble_eq_true rfl) ?_
  have pt0 : Pst No I h I h := Pst.refl hB
  refine cwp_seq ?_
  refine cwp_region ?_
  refine lwp_op (by kernel_rfl) (owp_alloc [.bool false, .bool false, .int .i64 0, .bool false] (.agg #[.bool false, .bool false, .int .i64 0, .bool false]) hB (by kernel_rfl) (by kernel_rfl) ?_)
  intro b1 h2 hc3 p4 o5
  have pt6 := pt0.no p4
  have fr7 : No b1 ∨ h.size ≤ b1 := .inr (Nat.le_trans pt0.size hc3)
  refine lwp_run 1 (by kernel_rfl) ?_
  refine lwp_nil ?_
  refine cwp_seq ?_
  refine cwp_region ?_
  refine lwp_run 1 (by kernel_rfl) ?_
  obtain ⟨t8, m9, H⟩ := bind_some H
  refine lwp_op (by kernel_rfl) (owp_callF (by kernel_rfl) (six_Get.calls (I := I) p4.bd m9) ?_)
  rintro v10 h11 ⟨v14, rfl, rfl, q16⟩
  refine lwp_run 5 (by kernel_rfl) ?_
  refine lwp_nil ?_
  refine cwp_seq ?_
  refine cwp_seq ?_
  refine cwp_region ?_
  refine lwp_run 1 (by kernel_rfl) ?_
  rcases q16.cases with ⟨c17, rfl⟩ | ⟨c17, t18, u19, rfl⟩
  · rw [if_pos c17] at H
    refine lwp_run 4 (by kernel_rfl) ?_
    by_cases c20 : (bAnd .i64 t8.1 2) = 0
    · rw [if_pos c20] at H
      refine lwp_op (by kernel_rfl) (owp_pure ((.bool false)) (pr_bool (by kernel_rfl) (neF c20)) ?_)
      refine lwp_run 1 (by kernel_rfl) ?_
      refine lwp_nil ?_
      refine cwp_false (by kernel_rfl) ?_
      refine cwp_skip ?_
      refine cwp_seq ?_
      refine cwp_region ?_
      refine lwp_run 13 (by kernel_rfl) ?_
      refine lwp_op (by kernel_rfl) (owp_storeN 0 [.bool ((bAnd .i64 t8.1 32) != 0), .bool ((bAnd .i64 t8.1 16) != 0), .int .i64 (bAnd .i64 (w64 (Int.tdiv t8.1 4)) 3), .bool ((bAnd .i64 t8.1 1) != 0)] p4.bd o5 (by kernel_rfl) (by kernel_rfl) (by simp [Value.oneCell']) (by kernel_rfl) (Nat.le_of_ble_eq_true rfl) ?_)
      intro h21 p22 o23
      have pt24 := pt6.own p22 (one_nw fr7)
      refine lwp_run 1 (by kernel_rfl) ?_
      refine lwp_nil ?_
      refine cwp_ret ?_
      obtain rfl := Option.some.inj H
      show Exists _
      exact ⟨[.agg #[.bool ((bAnd .i64 t8.1 32) != 0), .bool ((bAnd .i64 t8.1 16) != 0), .int .i64 (bAnd .i64 (w64 (Int.tdiv t8.1 4)) 3), .bool ((bAnd .i64 t8.1 1) != 0)], .nilIface], (.cons (.agg (by kernel_rfl) (by kernel_rfl) (by kernel_rfl) (o23.seg_ 0 4 (Nat.le_of_ble_eq_true rfl))) (.cons (.tmp (by kernel_rfl)) .nil)), I, (.nilIface), rfl, pt24, (show ErrV I h21 GoErr.nil .nilIface from rfl)⟩
    · rw [if_neg c20] at H
      refine lwp_op (by kernel_rfl) (owp_pure ((.bool true)) (pr_bool (by kernel_rfl) (neT c20)) ?_)
      refine lwp_run 1 (by kernel_rfl) ?_
      refine lwp_nil ?_
      refine cwp_true (by kernel_rfl) ?_
      refine cwp_seq ?_
      refine cwp_region ?_
      refine lwp_run 2 (by kernel_rfl) ?_
      refine lwp_op (by kernel_rfl) (owp_storeN 0 [.bool false, .bool false, .int .i64 0, .bool false] p4.bd o5 (by kernel_rfl) (by kernel_rfl) (by simp [Value.oneCell']) (by kernel_rfl) (Nat.le_of_ble_eq_true rfl) ?_)
      intro h25 p26 o27
      have pt28 := pt6.own p26 (one_nw fr7)
      refine lwp_run 1 (by kernel_rfl) ?_
      refine lwp_nil ?_
      refine cwp_ret ?_
      obtain rfl := Option.some.inj H
      show Exists _
      exact ⟨[.agg #[.bool false, .bool false, .int .i64 0, .bool false], .iface 78 (.int .i64 3)], (.cons (.agg (by kernel_rfl) (by kernel_rfl) (by kernel_rfl) (o27.seg_ 0 4 (Nat.le_of_ble_eq_true rfl))) (.cons (.tmp (by kernel_rfl)) .nil)), I, (.iface 78 (.int .i64 3)), rfl, pt28, (show ErrV I h25 (GoErr.no 3) (.iface 78 (.int .i64 3)) from rfl)⟩
  · rw [if_neg c17] at H
    refine lwp_run 6 (by kernel_rfl) ?_
    refine lwp_nil ?_
    refine cwp_true (by kernel_rfl) ?_
    refine cwp_seq ?_
    refine cwp_region ?_
    refine lwp_run 2 (by kernel_rfl) ?_
    refine lwp_op (by kernel_rfl) (owp_storeN 0 [.bool false, .bool false, .int .i64 0, .bool false] p4.bd o5 (by kernel_rfl) (by kernel_rfl) (by simp [Value.oneCell']) (by kernel_rfl) (Nat.le_of_ble_eq_true rfl) ?_)
    intro h29 p30 o31
    have pt32 := pt6.own p30 (one_nw fr7)
    refine lwp_run 1 (by kernel_rfl) ?_
    refine lwp_nil ?_
    refine cwp_ret ?_
    obtain rfl := Option.some.inj H
    show Exists _
    exact ⟨[.agg #[.bool false, .bool false, .int .i64 0, .bool false], .iface 78 (.int .i64 3)], (.cons (.agg (by kernel_rfl) (by kernel_rfl) (by kernel_rfl) (o31.seg_ 0 4 (Nat.le_of_ble_eq_true rfl))) (.cons (.tmp (by kernel_rfl)) .nil)), I, (.iface 78 (.int .i64 3)), rfl, pt32, (show ErrV I h29 (GoErr.no 3) (.iface 78 (.int .i64 3)) from rfl)⟩

/-! shutter/order.start -/
def order_start.m (x0 : bytes_Cursor) : Option (api_Attr × bytes_Cursor) :=
  ((bytes_Cursor_Peek.m x0).bind fun t20 => ((attr_Get.m t20.1).bind fun t35 => ((order_taken.m t20.2.2 t35.2).bind fun t72 => (some (t35.1, t72)))))

set_option maxRecDepth 100000 in
theorem order_start.calls {I : Gh} {h : Heap} {b0 : Nat} {x0 : bytes_Cursor} {a1 : Option Addr} {c2 : Nat} {v5 : Value} (hB : Bd I h) (o8 : OwnB I h b0 [.slice a1 x0.b'.length c2, .int .i64 x0.at', v5] 88) (r4 : Rd (tInt .u8) I h a1 c2 x0.b') (q7 : ErrV I h x0.err' v5) {r : (api_Attr × bytes_Cursor)}
    (H : order_start.m x0 = some r) :
    Ret Tryd.prog 58 #[.pointer (some ⟨b0, 0, none⟩)] h (fun v h' => ∃ (I' : Gh) (a100 : Option Addr) (c101 : Nat) (v104 : Value), .agg #[.bool r.1.Protected, .bool r.1.Numeric, .int .i64 r.1.Show, .bool r.1.Modified] = v ∧ Pst (One b0) I h I' h' ∧ Rd (tInt .u8) I' h' a100 c101 r.2.b' ∧ ErrV I' h' r.2.err' v104 ∧ OwnB I' h' b0 [.slice a100 r.2.b'.length c101, .int .i64 r.2.at', v104] 88) := by
  unfold order_start.m at H
  refine ret_of2 (args := [.pointer (some ⟨b0, 0, none⟩)]) (rs := [.cell 2 24]) (N := 21) Tryd.func58 rfl rfl rfl (Nat.le_of_ble_eq_true rfl) ?_
  have pt0 : Pst (One b0) I h I h := Pst.refl hB
  have nw_b0 : (One b0) b0 ∨ h.size ≤ b0 := .inl rfl
  refine cwp_seq ?_
  refine cwp_region ?_
  refine lwp_op (by kernel_rfl) (owp_alloc [.bool false, .bool false, .int .i64 0, .bool false] (.agg #[.bool false, .bool false, .int .i64 0, .bool false]) hB (by kernel_rfl) (by kernel_rfl) ?_)
  intro b9 h10 hc11 p12 o13
  have pt14 := pt0.no p12
  have fr15 : (One b0) b9 ∨ h.size ≤ b9 := .inr (Nat.le_trans pt0.size hc11)
  have d16 := ne_new o8.lt hc11
  refine lwp_nil ?_
  refine cwp_seq ?_
  refine cwp_region ?_
  refine lwp_run 1 (by kernel_rfl) ?_
  have f17 := o8.post p12 (fun x => x.elim)
  have f18 := r4.up (p12.up hB (fun _ x => x.elim))
  have f19 := ErrV.up (p12.up hB (fun _ x => x.elim)) q7
  obtain ⟨t20, m21, H⟩ := bind_some H
  refine lwp_op (by kernel_rfl) (owp_callF (by kernel_rfl) (bytes_Cursor_Peek.calls (I := I) p12.bd f17 f18 f19 m21) ?_)
  rintro v22 h23 ⟨I24, a26, c27, v30, rfl, p25, r29, q32, o33⟩
  have pt34 := pt14.own p25 (one_nw nw_b0)
  refine lwp_run 5 (by kernel_rfl) ?_
  refine lwp_nil ?_
  refine cwp_seq ?_
  refine cwp_region ?_
  refine lwp_run 1 (by kernel_rfl) ?_
  obtain ⟨t35, m36, H⟩ := bind_some H
  refine lwp_op (by kernel_rfl) (owp_callF (by kernel_rfl) (attr_Get.calls (I := I24) p25.bd m36) ?_)
  rintro v37 h38 ⟨I39, v41, rfl, p40, q43⟩
  have pt44 := pt34.no p40
  refine lwp_run 3 (by kernel_rfl) ?_
  refine lwp_op (by kernel_rfl) (owp_alloc [.bool false, .bool false, .int .i64 0, .bool false] (.agg #[.bool false, .bool false, .int .i64 0, .bool false]) p40.bd (by kernel_rfl) (by kernel_rfl) ?_)
  intro b45 h46 hc47 p48 o49
  have pt50 := pt44.no p48
  have fr51 : (One b0) b45 ∨ h.size ≤ b45 := .inr (Nat.le_trans pt44.size hc47)
  have f52 := o33.post p40 (fun x => x.elim)
  have d53 := ne_new f52.lt hc47
  have f54 := o13.post p25 d16
  have f55 := f54.post p40 (fun x => x.elim)
  have d56 := ne_new f55.lt hc47
  refine lwp_op (by kernel_rfl) (owp_storeN 0 [.bool t35.1.Protected, .bool t35.1.Numeric, .int .i64 t35.1.Show, .bool t35.1.Modified] p48.bd o49 (by kernel_rfl) (by kernel_rfl) (by simp [Value.oneCell']) (by kernel_rfl) (Nat.le_of_ble_eq_true rfl) ?_)
  intro h57 p58 o59
  have pt60 := pt50.own p58 (one_nw fr51)
  refine lwp_run 1 (by kernel_rfl) ?_
  refine lwp_nil ?_
  refine cwp_seq ?_
  refine cwp_region ?_
  refine lwp_run 2 (by kernel_rfl) ?_
  have f61 := o33.post p40 (fun x => x.elim)
  have f62 := f61.post p48 (fun x => x.elim)
  have f63 := f62.post p58 (fun e => d53 e.symm)
  have f64 := r29.up (p40.up p25.bd (fun _ x => x.elim))
  have f65 := f64.up (p48.up p40.bd (fun _ x => x.elim))
  have f66 := f65.up (p58.up p48.bd (one_not o49.no))
  have f67 := ErrV.up (p40.up p25.bd (fun _ x => x.elim)) q32
  have f68 := ErrV.up (p48.up p40.bd (fun _ x => x.elim)) f67
  have f69 := ErrV.up (p58.up p48.bd (one_not o49.no)) f68
  have f70 := ErrV.up (p48.up p40.bd (fun _ x => x.elim)) q43
  have f71 := ErrV.up (p58.up p48.bd (one_not o49.no)) f70
  obtain ⟨t72, m73, H⟩ := bind_some H
  refine lwp_op (by kernel_rfl) (owp_callF (by kernel_rfl) (order_taken.calls (I := I39) p58.bd f63 f66 f69 f71 m73) ?_)
  rintro v74 h75 ⟨I76, a78, c79, v82, rfl, p77, r81, q84, o85⟩
  have pt86 := pt60.own p77 (one_nw nw_b0)
  refine lwp_nil ?_
  refine cwp_seq ?_
  refine cwp_region ?_
  have f87 := o59.post p77 d53
  refine lwp_op (by kernel_rfl) (owp_loadN (by kernel_rfl) (by kernel_rfl) (by kernel_rfl) (f87.seg_ 0 4 (Nat.le_of_ble_eq_true rfl)) ?_)
  have f88 := o13.post p25 d16
  have f89 := f88.post p40 (fun x => x.elim)
  have f90 := f89.post p48 (fun x => x.elim)
  have f91 := f90.post p58 (fun e => d56 e.symm)
  have f92 := f91.post p77 d16
  refine lwp_op (by kernel_rfl) (owp_storeN 0 [.bool t35.1.Protected, .bool t35.1.Numeric, .int .i64 t35.1.Show, .bool t35.1.Modified] p77.bd f92 (by kernel_rfl) (by kernel_rfl) (by simp [Value.oneCell']) (by kernel_rfl) (Nat.le_of_ble_eq_true rfl) ?_)
  intro h93 p94 o95
  have pt96 := pt86.own p94 (one_nw fr15)
  refine lwp_nil ?_
  refine cwp_ret ?_
  obtain rfl := Option.some.inj H
  have f97 := r81.up (p94.up p77.bd (one_not f92.no))
  have f98 := ErrV.up (p94.up p77.bd (one_not f92.no)) q84
  have f99 := o85.post p94 (fun e => d16 e.symm)
  show Exists _
  exact ⟨[.agg #[.bool t35.1.Protected, .bool t35.1.Numeric, .int .i64 t35.1.Show, .bool t35.1.Modified]], (.cons (.agg (by kernel_rfl) (by kernel_rfl) (by kernel_rfl) (o95.seg_ 0 4 (Nat.le_of_ble_eq_true rfl))) .nil), I76, a78, c79, (v82), rfl, pt96, f97, f98, f99⟩

/-! shutter/addr.spot -/
def addr_spot.m (x0 : Int) (x1 : GoErr) : Option GoErr :=
  (some (GoErr.spot x0 x1))

set_option maxRecDepth 100000 in
theorem addr_spot.calls {I : Gh} {h : Heap} {x0 : Int} {x1 : GoErr} {v1 : Value} (hB : Bd I h) (q3 : ErrV I h x1 v1) {r : GoErr}
    (H : addr_spot.m x0 x1 = some r) :
    Ret Tryd.prog 96 #[.int .i64 x0, v1] h (fun v h' => ∃ (I' : Gh) (v19 : Value), v19 = v ∧ Pst No I h I' h' ∧ ErrV I' h' r v19) := by
  unfold addr_spot.m at H
  refine ret_of (args := [.int .i64 x0, v1]) (rs := [.tmp 4]) (N := 10) Tryd.func96 rfl rfl rfl (Nat.le_of_ble_eq_true rfl) ?_
  have pt0 : Pst No I h I h := Pst.refl hB
  refine cwp_seq ?_
  refine cwp_region ?_
  refine lwp_run 1 (by kernel_rfl) ?_
  refine lwp_nil ?_
  refine cwp_seq ?_
  refine cwp_region ?_
  refine lwp_run 2 (by kernel_rfl) ?_
  rcases q3.cases with ⟨c4, rfl⟩ | ⟨c4, t5, u6, rfl⟩
  · refine lwp_run 1 (by kernel_rfl) ?_
    refine lwp_op (by kernel_rfl) (owp_box [.int .i64 x0, .nilIface] hB (by kernel_rfl) ?_)
    intro b7 h8 hc9 p10 o11
    have pt12 := pt0.no p10
    have fr13 : No b7 ∨ h.size ≤ b7 := .inr (Nat.le_trans pt0.size hc9)
    have f14 := ErrV.up (p10.up hB (fun _ x => x.elim)) q3
    have pt15 := post_fzB o11 p10.bd pt12 fr13
    have bd16 := bd_fzB o11 p10.bd
    have q17 := mk_spot (a := x0) (e := x1) o11 f14
    refine lwp_run 2 (by kernel_rfl) ?_
    refine lwp_nil ?_
    refine cwp_ret ?_
    obtain rfl := Option.some.inj H
    show Exists _
    exact ⟨(.iface 102 (.pointer (some ⟨b7, 0, none⟩))), by kernel_rfl, (Fz I (some ⟨b7, 0, none⟩)), ((.iface 102 (.pointer (some ⟨b7, 0, none⟩)))), rfl, pt15, q17⟩
  · refine lwp_run 1 (by kernel_rfl) ?_
    refine lwp_op (by kernel_rfl) (owp_box [.int .i64 x0, (.iface t5 u6)] hB (by kernel_rfl) ?_)
    intro b7 h8 hc9 p10 o11
    have pt12 := pt0.no p10
    have fr13 : No b7 ∨ h.size ≤ b7 := .inr (Nat.le_trans pt0.size hc9)
    have f14 := ErrV.up (p10.up hB (fun _ x => x.elim)) q3
    have pt15 := post_fzB o11 p10.bd pt12 fr13
    have bd16 := bd_fzB o11 p10.bd
    have q17 := mk_spot (a := x0) (e := x1) o11 f14
    refine lwp_run 2 (by kernel_rfl) ?_
    refine lwp_nil ?_
    refine cwp_ret ?_
    obtain rfl := Option.some.inj H
    show Exists _
    exact ⟨(.iface 102 (.pointer (some ⟨b7, 0, none⟩))), by kernel_rfl, (Fz I (some ⟨b7, 0, none⟩)), ((.iface 102 (.pointer (some ⟨b7, 0, none⟩)))), rfl, pt15, q17⟩

/-! shutter/addr.short -/
def addr_short.l1.m (K : Nat) (x0 : (List Int)) : Nat → Int → Int → Option ((Int × GoErr) ⊕ (Int))
  | 0, _, _ => none
  | k + 1, x9, x10 => (letJ (α := Bool → Option ((Int × GoErr) ⊕ (Int))) (fun (x24 : Bool) => (bif x24 then (if 0 ≤ x10 then (if x10 < (x0.length : Int) then ((six_Get.m (at_ x0 x10)).bind fun t32 => (if t32.2 = GoErr.nil then (addr_short.l1.m K x0 k (bOr .i64 (shl .i64 x9 6) t32.1) (w64 (x10 + 1))) else ((addr_spot.m x10 t32.2).bind fun t44 => (some (Sum.inl (0, t44)))))) else none) else none) else (some (Sum.inr x9)))) fun (j25 : Bool → Option ((Int × GoErr) ⊕ (Int))) => (if x10 < 2 then (j25 true) else (j25 false)))
def addr_short.m (K : Nat) (x0 : (List Int)) : Option (Int × GoErr) :=
  ((addr_short.l1.m K x0 K 0 0).bind fun s12 => match s12 with | .inl q => (some q) | .inr x16 => (some (x16, GoErr.nil)))

set_option maxRecDepth 100000 in
theorem addr_short.calls {I B : Gh} {h : Heap} {K : Nat} {x0 : List Int} {a1 : Option Addr} {c2 : Nat} (hB : Bd I h) (hBB : Bd B h) (r4 : Rd (tInt .u8) (Or2 I B) h a1 c2 x0) {r : (Int × GoErr)}
    (H : addr_short.m K x0 = some r) :
    Ret Tryd.prog 95 #[.slice a1 x0.length c2] h (fun v h' => ∃ (I' : Gh) (v55 : Value), .tuple #[.int .i64 r.1, v55] = v ∧ Pst No I h I' h' ∧ ErrV I' h' r.2 v55) := by
  unfold addr_short.m at H
  refine ret_of (args := [.slice a1 x0.length c2]) (rs := [.tmp 2, .tmp 3]) (N := 30) Tryd.func95 rfl rfl rfl (Nat.le_of_ble_eq_true rfl) ?_
  have pt0 : Pst No I h I h := Pst.refl hB
  refine cwp_seq ?_
  refine cwp_region ?_
  refine lwp_run 2 (by kernel_rfl) ?_
  refine lwp_nil ?_
  refine cwp_seq ?_
  refine cwp_region ?_
  refine lwp_run 1 (by kernel_rfl) ?_
  refine lwp_nil ?_
  refine cwp_seq ?_
  refine cwp_seq ?_
  refine cwp_region ?_
  refine lwp_run 1 (by kernel_rfl) ?_
  refine lwp_nil ?_
  refine cwp_block ?_
  obtain ⟨s12, m17, HR18⟩ := bind_some H
  refine cwp_loopE 0 (fun ρ' h13 => ∃ (x16 : Int) (I14 : Gh), Sum.inr x16 = s12 ∧ Fits [(4, .int .i64 x16)] ρ' ∧ Pst No I h I14 h13) ?_ ?_
  · refine cwp_loop (fun k' ρ' h5 => ∃ (x9 : Int) (x10 : Int) (I6 : Gh), addr_short.l1.m K x0 k' x9 x10 = some s12 ∧ Fits [(0, .slice a1 x0.length c2), (4, .int .i64 x9), (8, .int .i64 x10)] ρ' ∧ Pst No I h I6 h5 ∧ Rd (tInt .u8) (Or2 I6 B) h5 a1 c2 x0) K ⟨0, 0, I, m17, ⟨by kernel_rfl, by kernel_rfl, by kernel_rfl, trivial⟩, pt0, r4⟩ ?_
    clear m17
    rintro k' ρ' h5 ⟨x9, x10, I6, H, hf, pt7, r8⟩
    cases k' with
    | zero => cases H
    | succ k =>
      rw [addr_short.l1.m] at H
      refine cwp_fits _ hf ?_
      obtain ⟨j25, e54, H⟩ := letJ_some H
      refine cwp_join (fun ρ' h20 => ∃ (x24 : Bool) (I21 : Gh), j25 x24 = some s12 ∧ Fits [(0, .slice a1 x0.length c2), (4, .int .i64 x9), (8, .int .i64 x10), (9, .bool x24)] ρ' ∧ Pst No I h I21 h20 ∧ Rd (tInt .u8) (Or2 I21 B) h20 a1 c2 x0) ?_ ?_
      · refine cwp_region ?_
        by_cases c19 : x10 < 2
        · rw [if_pos c19] at H
          refine lwp_op (by kernel_rfl) (owp_pure ((.bool true)) (pr_bool (by kernel_rfl) (decide_eq_true c19)) ?_)
          refine lwp_nil ?_
          exact ⟨true, I6, H, ⟨by kernel_rfl, by kernel_rfl, by kernel_rfl, by kernel_rfl, trivial⟩, pt7, r8⟩
        · rw [if_neg c19] at H
          refine lwp_op (by kernel_rfl) (owp_pure ((.bool false)) (pr_bool (by kernel_rfl) (decide_eq_false c19)) ?_)
          refine lwp_nil ?_
          exact ⟨false, I6, H, ⟨by kernel_rfl, by kernel_rfl, by kernel_rfl, by kernel_rfl, trivial⟩, pt7, r8⟩
      · clear H
        rintro ρ' h20 ⟨x24, I21, H, hf, pt22, r23⟩
        refine cwp_fits _ hf ?_
        subst e54
        try dsimp only at H
        refine cwp_seq ?_
        cases x24
        · rw [cond_false] at H
          refine cwp_false (by kernel_rfl) ?_
          refine cwp_exit ?_
          obtain rfl := Option.some.inj H
          show Exists _
          exact ⟨x9, I21, rfl, ⟨by kernel_rfl, trivial⟩, pt22⟩
        · rw [cond_true] at H
          refine cwp_true (by kernel_rfl) ?_
          refine cwp_skip ?_
          refine cwp_seq ?_
          refine cwp_block ?_
          refine cwp_seq ?_
          refine cwp_region ?_
          refine lwp_run 2 (by kernel_rfl) ?_
          refine lwp_nil ?_
          refine cwp_seq ?_
          refine cwp_region ?_
          obtain ⟨c26, H⟩ := guard_pos H
          obtain ⟨c27, H⟩ := guard_pos H
          refine lwp_run 2 (by kernel_rfl) ?_
          have hs28 := (r23.toSl).isSome c26 c27
          refine lwp_op (by kernel_rfl) (owp_pure (elemPtr a1 (x10.toNat * 1)) (pr_indexElem (e := 5) (r23.toSl) (k := .i64) (by kernel_rfl) (by kernel_rfl) (by kernel_rfl) (by kernel_rfl) c26 c27) ?_)
          obtain ⟨cs29, hs30, rp31⟩ := (r23.toSl).seg c26 c27
          obtain rfl := rep_int rp31
          refine lwp_op (by kernel_rfl) (owp_load (by kernel_rfl) (by kernel_rfl) (seg_cell (f := 0) hs30 rfl) ?_)
          obtain ⟨t32, m33, H⟩ := bind_some H
          refine lwp_op (by kernel_rfl) (owp_callF (by kernel_rfl) (six_Get.calls (I := I21) pt22.bd m33) ?_)
          rintro v34 h35 ⟨v38, rfl, rfl, q40⟩
          refine lwp_run 5 (by kernel_rfl) ?_
          refine lwp_nil ?_
          refine cwp_seq ?_
          refine cwp_seq ?_
          refine cwp_region ?_
          refine lwp_run 1 (by kernel_rfl) ?_
          rcases q40.cases with ⟨c41, rfl⟩ | ⟨c41, t42, u43, rfl⟩
          · rw [if_pos c41] at H
            refine lwp_run 1 (by kernel_rfl) ?_
            refine lwp_nil ?_
            refine cwp_false (by kernel_rfl) ?_
            refine cwp_skip ?_
            refine cwp_region ?_
            refine lwp_run 5 (by kernel_rfl) ?_
            refine lwp_nil ?_
            refine cwp_region ?_
            refine lwp_run 2 (by kernel_rfl) ?_
            refine lwp_nil ?_
            show Exists _
            exact ⟨k, Nat.lt_succ_self _, (bOr .i64 (shl .i64 x9 6) t32.1), (w64 (x10 + 1)), I21, H, ⟨by kernel_rfl, by kernel_rfl, by kernel_rfl, trivial⟩, pt22, r23⟩
          · rw [if_neg c41] at H
            refine lwp_run 1 (by kernel_rfl) ?_
            refine lwp_nil ?_
            refine cwp_true (by kernel_rfl) ?_
            refine cwp_seq ?_
            refine cwp_region ?_
            refine lwp_run 2 (by kernel_rfl) ?_
            obtain ⟨t44, m45, H⟩ := bind_some H
            refine lwp_op (by kernel_rfl) (owp_callF (by kernel_rfl) (addr_spot.calls (I := I21) pt22.bd q40 m45) ?_)
            rintro v46 h47 ⟨I48, v50, rfl, p49, q52⟩
            have pt53 := pt22.no p49
            refine lwp_run 2 (by kernel_rfl) ?_
            refine lwp_nil ?_
            refine cwp_ret ?_
            obtain rfl := Option.some.inj H
            obtain rfl := Option.some.inj HR18
            show Exists _
            exact ⟨.tuple #[.int .i64 0, v50], by kernel_rfl, I48, (v50), rfl, pt53, q52⟩
  · rintro ρ' h13 ⟨x16, I14, rfl, hf, pt15⟩
    have H := HR18
    try dsimp only at H
    refine cwp_fits _ hf ?_
    refine cwp_seq ?_
    refine cwp_region ?_
    refine lwp_run 3 (by kernel_rfl) ?_
    refine lwp_nil ?_
    refine cwp_ret ?_
    obtain rfl := Option.some.inj H
    show Exists _
    exact ⟨.tuple #[.int .i64 x16, .nilIface], by kernel_rfl, I14, (.nilIface), rfl, pt15, (show ErrV I14 h13 GoErr.nil .nilIface from rfl)⟩

/-! shutter/addr.Get -/
def addr_Get.m (K : Nat) (x0 : (List Int)) (x1 : Int) : Option (Int × GoErr) :=
  ((addr_sized.m x1).bind fun t5 => bif t5 then (if (x0.length : Int) < 2 then (some (0, (GoErr.no 2))) else (if 0 < (x0.length : Int) then (if 1 < (x0.length : Int) then (letJ (α := Bool → Option (Int × GoErr)) (fun (x32 : Bool) => (bif x32 then ((addr_short.m K x0).bind fun t34 => (if t34.2 = GoErr.nil then (if t34.1 ≥ x1 then (some (0, (GoErr.no 4))) else (some (t34.1, GoErr.nil))) else (some (0, t34.2)))) else (if (at_ x0 0) > 63 then ((addr_spot.m 0 (GoErr.no 3)).bind fun t53 => (some (0, t53))) else (if (bOr .i64 (shl .i64 (w64 ((at_ x0 0))) 8) (w64 ((at_ x0 1)))) ≥ x1 then (some (0, (GoErr.no 4))) else (some ((bOr .i64 (shl .i64 (w64 ((at_ x0 0))) 8) (w64 ((at_ x0 1)))), GoErr.nil)))))) fun (j33 : Bool → Option (Int × GoErr)) => ((addr_Long.m x1).bind fun t22 => bif t22 then (j33 false) else (j33 true))) else none) else none)) else (some (0, (GoErr.no 1))))

set_option maxRecDepth 100000 in
theorem addr_Get.calls {I B : Gh} {h : Heap} {K : Nat} {x0 : List Int} {a1 : Option Addr} {c2 : Nat} {x1 : Int} (hB : Bd I h) (hBB : Bd B h) (r4 : Rd (tInt .u8) (Or2 I B) h a1 c2 x0) {r : (Int × GoErr)}
    (H : addr_Get.m K x0 x1 = some r) :
    Ret Tryd.prog 87 #[.slice a1 x0.length c2, .int .i64 x1] h (fun v h' => ∃ (I' : Gh) (v65 : Value), .tuple #[.int .i64 r.1, v65] = v ∧ Pst No I h I' h' ∧ ErrV I' h' r.2 v65) := by
  unfold addr_Get.m at H
  refine ret_of (args := [.slice a1 x0.length c2, .int .i64 x1]) (rs := [.tmp 4, .tmp 5]) (N := 52) Tryd.func87 rfl rfl rfl (Nat.le_of_ble_eq_true rfl) ?_
  have pt0 : Pst No I h I h := Pst.refl hB
  refine cwp_seq ?_
  refine cwp_region ?_
  refine lwp_run 2 (by kernel_rfl) ?_
  refine lwp_nil ?_
  refine cwp_seq ?_
  refine cwp_seq ?_
  refine cwp_region ?_
  refine lwp_run 1 (by kernel_rfl) ?_
  obtain ⟨t5, m6, H⟩ := bind_some H
  refine lwp_op (by kernel_rfl) (owp_callF (by kernel_rfl) (addr_sized.calls (I := I) hB m6) ?_)
  rintro v7 h8 ⟨_, rfl, rfl⟩
  cases t5
  · rw [cond_false] at H
    refine lwp_run 1 (by kernel_rfl) ?_
    refine lwp_nil ?_
    refine cwp_true (by kernel_rfl) ?_
    refine cwp_seq ?_
    refine cwp_region ?_
    refine lwp_run 3 (by kernel_rfl) ?_
    refine lwp_nil ?_
    refine cwp_ret ?_
    obtain rfl := Option.some.inj H
    show Exists _
    exact ⟨.tuple #[.int .i64 0, .iface 78 (.int .i64 1)], by kernel_rfl, I, (.iface 78 (.int .i64 1)), rfl, pt0, (show ErrV I h (GoErr.no 1) (.iface 78 (.int .i64 1)) from rfl)⟩
  · rw [cond_true] at H
    refine lwp_run 1 (by kernel_rfl) ?_
    refine lwp_nil ?_
    refine cwp_false (by kernel_rfl) ?_
    refine cwp_skip ?_
    refine cwp_seq ?_
    refine cwp_seq ?_
    refine cwp_region ?_
    refine lwp_run 2 (by kernel_rfl) ?_
    by_cases c11 : (x0.length : Int) < 2
    · rw [if_pos c11] at H
      refine lwp_op (by kernel_rfl) (owp_pure ((.bool true)) (pr_bool (by kernel_rfl) (decide_eq_true c11)) ?_)
      refine lwp_nil ?_
      refine cwp_true (by kernel_rfl) ?_
      refine cwp_seq ?_
      refine cwp_region ?_
      refine lwp_run 3 (by kernel_rfl) ?_
      refine lwp_nil ?_
      refine cwp_ret ?_
      obtain rfl := Option.some.inj H
      show Exists _
      exact ⟨.tuple #[.int .i64 0, .iface 78 (.int .i64 2)], by kernel_rfl, I, (.iface 78 (.int .i64 2)), rfl, pt0, (show ErrV I h (GoErr.no 2) (.iface 78 (.int .i64 2)) from rfl)⟩
    · rw [if_neg c11] at H
      refine lwp_op (by kernel_rfl) (owp_pure ((.bool false)) (pr_bool (by kernel_rfl) (decide_eq_false c11)) ?_)
      refine lwp_nil ?_
      refine cwp_false (by kernel_rfl) ?_
      refine cwp_skip ?_
      refine cwp_seq ?_
      refine cwp_regionD (Keep No h) 11 (by kernel_rfl) ?_
      obtain ⟨c12, H⟩ := guard_pos H
      refine awp_run (fuel := 10) [0] Keep.refl (by kernel_rfl) ?_
      have hs13 := (r4.toSl).isSome (by decide) c12
      refine awp_pure 1 (elemPtr a1 ((0 : Int).toNat * 1)) rfl (by kernel_rfl) (by kernel_rfl) (pr_indexElem (e := 5) (r4.toSl) (k := .i64) (by kernel_rfl) (by kernel_rfl) (by kernel_rfl) (by kernel_rfl) (by decide) c12) Keep.refl ?_
      obtain ⟨cs14, hs15, rp16⟩ := (r4.toSl).seg (by decide) c12
      obtain rfl := rep_int rp16
      refine awp_load 2 rfl (by kernel_rfl) (by kernel_rfl) (by kernel_rfl) (by kernel_rfl) Keep.refl (seg_cell (f := 0) hs15 rfl) (fun _ _ x => x.elim) ?_
      obtain ⟨c17, H⟩ := guard_pos H
      refine awp_run (fuel := 5) [3, 4, 5] Keep.refl (by kernel_rfl) ?_
      have hs18 := (r4.toSl).isSome (by decide) c17
      refine awp_pure 6 (elemPtr a1 ((1 : Int).toNat * 1)) rfl (by kernel_rfl) (by kernel_rfl) (pr_indexElem (e := 5) (r4.toSl) (k := .i64) (by kernel_rfl) (by kernel_rfl) (by kernel_rfl) (by kernel_rfl) (by decide) c17) Keep.refl ?_
      obtain ⟨cs19, hs20, rp21⟩ := (r4.toSl).seg (by decide) c17
      obtain rfl := rep_int rp21
      refine awp_load 7 rfl (by kernel_rfl) (by kernel_rfl) (by kernel_rfl) (by kernel_rfl) Keep.refl (seg_cell (f := 0) hs20 rfl) (fun _ _ x => x.elim) ?_
      refine awp_run (fuel := 0) [8, 9, 10] Keep.refl (by kernel_rfl) ?_
      refine awp_nil (by kernel_rfl) ?_ 0
      refine cwp_seq ?_
      refine cwp_block ?_
      obtain ⟨j33, e64, H⟩ := letJ_some H
      refine cwp_join (fun ρ' h28 => ∃ (x32 : Bool) (I29 : Gh), j33 x32 = some r ∧ Fits [(0, .slice a1 x0.length c2), (1, .int .i64 x1), (6, .int .i64 (bOr .i64 (shl .i64 (w64 ((at_ x0 0))) 8) (w64 ((at_ x0 1))))), (27, .bool x32)] ρ' ∧ Pst No I h I29 h28 ∧ Rd (tInt .u8) (Or2 I29 B) h28 a1 c2 x0) ?_ ?_
      · refine cwp_region ?_
        refine lwp_run 1 (by kernel_rfl) ?_
        obtain ⟨t22, m23, H⟩ := bind_some H
        refine lwp_op (by kernel_rfl) (owp_callF (by kernel_rfl) (addr_Long.calls (I := I) hB m23) ?_)
        rintro v24 h25 ⟨_, rfl, rfl⟩
        cases t22
        · rw [cond_false] at H
          refine lwp_run 2 (by kernel_rfl) ?_
          refine lwp_nil ?_
          exact ⟨true, I, H, ⟨by kernel_rfl, by kernel_rfl, by kernel_rfl, by kernel_rfl, trivial⟩, pt0, r4⟩
        · rw [cond_true] at H
          refine lwp_run 2 (by kernel_rfl) ?_
          refine lwp_nil ?_
          exact ⟨false, I, H, ⟨by kernel_rfl, by kernel_rfl, by kernel_rfl, by kernel_rfl, trivial⟩, pt0, r4⟩
      · clear H
        rintro ρ' h28 ⟨x32, I29, H, hf, pt30, r31⟩
        refine cwp_fits _ hf ?_
        subst e64
        try dsimp only at H
        cases x32
        · rw [cond_false] at H
          refine cwp_false (by kernel_rfl) ?_
          refine cwp_seq ?_
          refine cwp_region ?_
          refine lwp_run 1 (by kernel_rfl) ?_
          have hs48 := (r31.toSl).isSome (by decide) c12
          refine lwp_op (by kernel_rfl) (owp_pure (elemPtr a1 ((0 : Int).toNat * 1)) (pr_indexElem (e := 5) (r31.toSl) (k := .i64) (by kernel_rfl) (by kernel_rfl) (by kernel_rfl) (by kernel_rfl) (by decide) c12) ?_)
          obtain ⟨cs49, hs50, rp51⟩ := (r31.toSl).seg (by decide) c12
          obtain rfl := rep_int rp51
          refine lwp_op (by kernel_rfl) (owp_load (by kernel_rfl) (by kernel_rfl) (seg_cell (f := 0) hs50 rfl) ?_)
          by_cases c52 : (at_ x0 0) > 63
          · rw [if_pos c52] at H
            refine lwp_op (by kernel_rfl) (owp_pure ((.bool true)) (pr_bool (by kernel_rfl) (decide_eq_true c52)) ?_)
            refine lwp_run 1 (by kernel_rfl) ?_
            refine lwp_nil ?_
            refine cwp_true (by kernel_rfl) ?_
            refine cwp_seq ?_
            refine cwp_region ?_
            refine lwp_run 1 (by kernel_rfl) ?_
            obtain ⟨t53, m54, H⟩ := bind_some H
            refine lwp_op (by kernel_rfl) (owp_callF (by kernel_rfl) (addr_spot.calls (I := I29) pt30.bd (show ErrV I29 h28 (GoErr.no 3) (.iface 78 (.int .i64 3)) from rfl) m54) ?_)
            rintro v55 h56 ⟨I57, v59, rfl, p58, q61⟩
            have pt62 := pt30.no p58
            refine lwp_run 2 (by kernel_rfl) ?_
            refine lwp_nil ?_
            refine cwp_ret ?_
            obtain rfl := Option.some.inj H
            show Exists _
            exact ⟨.tuple #[.int .i64 0, v59], by kernel_rfl, I57, (v59), rfl, pt62, q61⟩
          · rw [if_neg c52] at H
            refine lwp_op (by kernel_rfl) (owp_pure ((.bool false)) (pr_bool (by kernel_rfl) (decide_eq_false c52)) ?_)
            refine lwp_run 1 (by kernel_rfl) ?_
            refine lwp_nil ?_
            refine cwp_false (by kernel_rfl) ?_
            refine cwp_skip ?_
            refine cwp_seq ?_
            refine cwp_seq ?_
            refine cwp_region ?_
            refine lwp_run 2 (by kernel_rfl) ?_
            by_cases c63 : (bOr .i64 (shl .i64 (w64 ((at_ x0 0))) 8) (w64 ((at_ x0 1)))) ≥ x1
            · rw [if_pos c63] at H
              refine lwp_op (by kernel_rfl) (owp_pure ((.bool true)) (pr_bool (by kernel_rfl) (decide_eq_true c63)) ?_)
              refine lwp_nil ?_
              refine cwp_true (by kernel_rfl) ?_
              refine cwp_seq ?_
              refine cwp_region ?_
              refine lwp_run 3 (by kernel_rfl) ?_
              refine lwp_nil ?_
              refine cwp_ret ?_
              obtain rfl := Option.some.inj H
              show Exists _
              exact ⟨.tuple #[.int .i64 0, .iface 78 (.int .i64 4)], by kernel_rfl, I29, (.iface 78 (.int .i64 4)), rfl, pt30, (show ErrV I29 h28 (GoErr.no 4) (.iface 78 (.int .i64 4)) from rfl)⟩
            · rw [if_neg c63] at H
              refine lwp_op (by kernel_rfl) (owp_pure ((.bool false)) (pr_bool (by kernel_rfl) (decide_eq_false c63)) ?_)
              refine lwp_nil ?_
              refine cwp_false (by kernel_rfl) ?_
              refine cwp_skip ?_
              refine cwp_seq ?_
              refine cwp_region ?_
              refine lwp_run 3 (by kernel_rfl) ?_
              refine lwp_nil ?_
              refine cwp_ret ?_
              obtain rfl := Option.some.inj H
              show Exists _
              exact ⟨.tuple #[.int .i64 (bOr .i64 (shl .i64 (w64 ((at_ x0 0))) 8) (w64 ((at_ x0 1)))), .nilIface], by kernel_rfl, I29, (.nilIface), rfl, pt30, (show ErrV I29 h28 GoErr.nil .nilIface from rfl)⟩
        · rw [cond_true] at H
          refine cwp_true (by kernel_rfl) ?_
          refine cwp_seq ?_
          refine cwp_region ?_
          refine lwp_run 1 (by kernel_rfl) ?_
          obtain ⟨t34, m35, H⟩ := bind_some H
          refine lwp_op (by kernel_rfl) (owp_callF (by kernel_rfl) (addr_short.calls (I := I29) (B := (Or2 I29 B)) pt30.bd (bdOr pt30.bd (hBB.mono pt30.size)) (Rd.mono (I' := Or2 I29 (Or2 I29 B)) r31 (fun _ x => Or.inr x)) m35) ?_)
          rintro v36 h37 ⟨I38, v40, rfl, p39, q42⟩
          have pt43 := pt30.no p39
          refine lwp_run 5 (by kernel_rfl) ?_
          refine lwp_nil ?_
          refine cwp_seq ?_
          refine cwp_seq ?_
          refine cwp_region ?_
          refine lwp_run 1 (by kernel_rfl) ?_
          rcases q42.cases with ⟨c44, rfl⟩ | ⟨c44, t45, u46, rfl⟩
          · rw [if_pos c44] at H
            refine lwp_run 1 (by kernel_rfl) ?_
            refine lwp_nil ?_
            refine cwp_false (by kernel_rfl) ?_
            refine cwp_skip ?_
            refine cwp_region ?_
            refine lwp_run 2 (by kernel_rfl) ?_
            refine lwp_nil ?_
            refine cwp_seq ?_
            refine cwp_seq ?_
            refine cwp_region ?_
            refine lwp_run 2 (by kernel_rfl) ?_
            by_cases c47 : t34.1 ≥ x1
            · rw [if_pos c47] at H
              refine lwp_op (by kernel_rfl) (owp_pure ((.bool true)) (pr_bool (by kernel_rfl) (decide_eq_true c47)) ?_)
              refine lwp_nil ?_
              refine cwp_true (by kernel_rfl) ?_
              refine cwp_seq ?_
              refine cwp_region ?_
              refine lwp_run 3 (by kernel_rfl) ?_
              refine lwp_nil ?_
              refine cwp_ret ?_
              obtain rfl := Option.some.inj H
              show Exists _
              exact ⟨.tuple #[.int .i64 0, .iface 78 (.int .i64 4)], by kernel_rfl, I38, (.iface 78 (.int .i64 4)), rfl, pt43, (show ErrV I38 h37 (GoErr.no 4) (.iface 78 (.int .i64 4)) from rfl)⟩
            · rw [if_neg c47] at H
              refine lwp_op (by kernel_rfl) (owp_pure ((.bool false)) (pr_bool (by kernel_rfl) (decide_eq_false c47)) ?_)
              refine lwp_nil ?_
              refine cwp_false (by kernel_rfl) ?_
              refine cwp_skip ?_
              refine cwp_seq ?_
              refine cwp_region ?_
              refine lwp_run 3 (by kernel_rfl) ?_
              refine lwp_nil ?_
              refine cwp_ret ?_
              obtain rfl := Option.some.inj H
              show Exists _
              exact ⟨.tuple #[.int .i64 t34.1, .nilIface], by kernel_rfl, I38, (.nilIface), rfl, pt43, (show ErrV I38 h37 GoErr.nil .nilIface from rfl)⟩
          · rw [if_neg c44] at H
            refine lwp_run 1 (by kernel_rfl) ?_
            refine lwp_nil ?_
            refine cwp_true (by kernel_rfl) ?_
            refine cwp_seq ?_
            refine cwp_region ?_
            refine lwp_run 3 (by kernel_rfl) ?_
            refine lwp_nil ?_
            refine cwp_ret ?_
            obtain rfl := Option.some.inj H
            show Exists _
            exact ⟨.tuple #[.int .i64 0, (.iface t45 u46)], by kernel_rfl, I38, ((.iface t45 u46)), rfl, pt43, q42⟩

/-! (*shutter/bytes.Cursor).Addr -/
def bytes_Cursor_Addr.m (K : Nat) (x0 : bytes_Cursor) (x1 : Int) : Option (Int × bytes_Cursor) :=
  (if x0.err' = GoErr.nil then (if 0 ≤ x0.at' then (if x0.at' ≤ (x0.b'.length : Int) then ((addr_Get.m K (sub x0.b' x0.at' (x0.b'.length : Int)) x1).bind fun t19 => ((bytes_Cursor_Fail.m x0 t19.2).bind fun t33 => (if t19.2 = GoErr.nil then (some (t19.1, (⟨t33.b', (w64 (t33.at' + 2)), t33.err'⟩ : bytes_Cursor))) else (some (t19.1, t33))))) else none) else none) else (some (0, x0)))

set_option maxRecDepth 100000 in
theorem bytes_Cursor_Addr.calls {I : Gh} {h : Heap} {K : Nat} {b0 : Nat} {x0 : bytes_Cursor} {a1 : Option Addr} {c2 : Nat} {v5 : Value} {x1 : Int} (hB : Bd I h) (o8 : OwnB I h b0 [.slice a1 x0.b'.length c2, .int .i64 x0.at', v5] 88) (r4 : Rd (tInt .u8) I h a1 c2 x0.b') (q7 : ErrV I h x0.err' v5) {r : (Int × bytes_Cursor)}
    (H : bytes_Cursor_Addr.m K x0 x1 = some r) :
    Ret Tryd.prog 59 #[.pointer (some ⟨b0, 0, none⟩), .int .i64 x1] h (fun v h' => ∃ (I' : Gh) (a58 : Option Addr) (c59 : Nat) (v62 : Value), .int .i64 r.1 = v ∧ Pst (One b0) I h I' h' ∧ Rd (tInt .u8) I' h' a58 c59 r.2.b' ∧ ErrV I' h' r.2.err' v62 ∧ OwnB I' h' b0 [.slice a58 r.2.b'.length c59, .int .i64 r.2.at', v62] 88) := by
  unfold bytes_Cursor_Addr.m at H
  refine ret_of (args := [.pointer (some ⟨b0, 0, none⟩), .int .i64 x1]) (rs := [.tmp 4]) (N := 39) Tryd.func59 rfl rfl rfl (Nat.le_of_ble_eq_true rfl) ?_
  have pt0 : Pst (One b0) I h I h := Pst.refl hB
  have nw_b0 : (One b0) b0 ∨ h.size ≤ b0 := .inl rfl
  refine cwp_seq ?_
  refine cwp_region ?_
  refine lwp_run 1 (by kernel_rfl) ?_
  refine lwp_nil ?_
  refine cwp_seq ?_
  refine cwp_seq ?_
  refine cwp_region ?_
  refine lwp_run 3 (by kernel_rfl) ?_
  refine lwp_op (by kernel_rfl) (owp_load (by kernel_rfl) (by kernel_rfl) (o8.cell (off := 2) rfl) ?_)
  rcases q7.cases with ⟨c9, rfl⟩ | ⟨c9, t10, u11, rfl⟩
  · rw [if_pos c9] at H
    refine lwp_run 1 (by kernel_rfl) ?_
    refine lwp_nil ?_
    refine cwp_false (by kernel_rfl) ?_
    refine cwp_skip ?_
    refine cwp_seq ?_
    refine cwp_regionD (Keep No h) 16 (by kernel_rfl) ?_
    refine awp_run (fuel := 13) [0, 1, 2] Keep.refl (by kernel_rfl) ?_
    refine awp_load 3 rfl (by kernel_rfl) (by kernel_rfl) (by kernel_rfl) (by kernel_rfl) Keep.refl (o8.cell (off := 0) rfl) (fun _ _ x => x.elim) ?_
    refine awp_run (fuel := 9) [4, 5, 6] Keep.refl (by kernel_rfl) ?_
    refine awp_load 7 rfl (by kernel_rfl) (by kernel_rfl) (by kernel_rfl) (by kernel_rfl) Keep.refl (o8.cell (off := 1) rfl) (fun _ _ x => x.elim) ?_
    obtain ⟨c12, H⟩ := guard_pos H
    obtain ⟨c13, H⟩ := guard_pos H
    obtain ⟨a16, c17, r15, e18⟩ := r4.part (lo := x0.at') (hi := (x0.b'.length : Int)) c12 c13 (Int.le_refl _)
    refine awp_pure 8 ((.slice a16 ((sub x0.b' x0.at' (x0.b'.length : Int)).length) c17)) rfl (by kernel_rfl) (by kernel_rfl) (pr_slice_l (e := 5) (r4.toSl) e18 (by kernel_rfl) (k1 := .i64) (by kernel_rfl) (by kernel_rfl) (by kernel_rfl) c12 c13 (Int.le_refl _)) Keep.refl ?_
    refine awp_run (fuel := 6) [9] Keep.refl (by kernel_rfl) ?_
    obtain ⟨t19, m20, H⟩ := bind_some H
    refine awp_op 10 (by kernel_rfl) rfl (by kernel_rfl) (owp_callF (by kernel_rfl) (addr_Get.calls (I := I) (B := I) hB hB (Rd.mono (I' := Or2 I I) r15 (fun _ x => Or.inr x)) m20) ?_)
    rintro v21 h22 ⟨I23, v25, rfl, p24, q27⟩
    have pt28 := pt0.no p24
    have hK29 := Keep.post (M := No) Keep.refl (Nat.le_refl _) p24 (fun _ x => x.elim)
    refine ⟨hK29, ?_⟩
    refine awp_run (fuel := 0) [11, 12, 13, 14, 15] hK29 (by kernel_rfl) ?_
    refine awp_nil (by kernel_rfl) ?_ 0
    refine cwp_seq ?_
    refine cwp_region ?_
    refine lwp_run 2 (by kernel_rfl) ?_
    have f30 := o8.post p24 (fun x => x.elim)
    have f31 := r4.up (p24.up hB (fun _ x => x.elim))
    have f32 := ErrV.up (p24.up hB (fun _ x => x.elim)) q7
    obtain ⟨t33, m34, H⟩ := bind_some H
    refine lwp_op (by kernel_rfl) (owp_callF (by kernel_rfl) (bytes_Cursor_Fail.calls (I := I23) p24.bd f30 f31 f32 q27 m34) ?_)
    rintro v35 h36 ⟨I37, a39, c40, v43, rfl, p38, r42, q45, o46⟩
    have pt47 := pt28.own p38 (one_nw nw_b0)
    refine lwp_nil ?_
    refine cwp_seq ?_
    refine cwp_seq ?_
    refine cwp_region ?_
    refine lwp_run 1 (by kernel_rfl) ?_
    have f48 := ErrV.up (p38.up p24.bd (one_not f30.no)) q27
    rcases f48.cases with ⟨c49, rfl⟩ | ⟨c49, t50, u51, rfl⟩
    · rw [if_pos c49] at H
      refine lwp_run 1 (by kernel_rfl) ?_
      refine lwp_nil ?_
      refine cwp_true (by kernel_rfl) ?_
      refine cwp_region ?_
      refine lwp_run 3 (by kernel_rfl) ?_
      refine lwp_op (by kernel_rfl) (owp_load (by kernel_rfl) (by kernel_rfl) (o46.cell (off := 1) rfl) ?_)
      refine lwp_run 3 (by kernel_rfl) ?_
      refine lwp_op (by kernel_rfl) (owp_store1 1 (.int .i64 (w64 (t33.at' + 2))) p38.bd o46 (by kernel_rfl) (by kernel_rfl) rfl (by kernel_rfl) (Nat.le_of_ble_eq_true rfl) ?_)
      intro h52 p53 o54
      have pt55 := pt47.own p53 (one_nw nw_b0)
      refine lwp_nil ?_
      refine cwp_seq ?_
      refine cwp_region ?_
      refine lwp_run 2 (by kernel_rfl) ?_
      refine lwp_nil ?_
      refine cwp_ret ?_
      obtain rfl := Option.some.inj H
      have f56 := r42.up (p53.up p38.bd (one_not o46.no))
      have f57 := ErrV.up (p53.up p38.bd (one_not o46.no)) q45
      show Exists _
      exact ⟨.int .i64 t19.1, by kernel_rfl, I37, a39, c40, (v43), rfl, pt55, f56, f57, o54⟩
    · rw [if_neg c49] at H
      refine lwp_run 1 (by kernel_rfl) ?_
      refine lwp_nil ?_
      refine cwp_false (by kernel_rfl) ?_
      refine cwp_skip ?_
      refine cwp_seq ?_
      refine cwp_region ?_
      refine lwp_run 2 (by kernel_rfl) ?_
      refine lwp_nil ?_
      refine cwp_ret ?_
      obtain rfl := Option.some.inj H
      show Exists _
      exact ⟨.int .i64 t19.1, by kernel_rfl, I37, a39, c40, (v43), rfl, pt47, r42, q45, o46⟩
  · rw [if_neg c9] at H
    refine lwp_run 1 (by kernel_rfl) ?_
    refine lwp_nil ?_
    refine cwp_true (by kernel_rfl) ?_
    refine cwp_seq ?_
    refine cwp_region ?_
    refine lwp_run 1 (by kernel_rfl) ?_
    refine lwp_nil ?_
    refine cwp_ret ?_
    obtain rfl := Option.some.inj H
    show Exists _
    exact ⟨.int .i64 0, by kernel_rfl, I, a1, c2, ((.iface t10 u11)), rfl, pt0, r4, q7, o8⟩

/-! shutter/order.char -/
def order_char.m (x0 : bytes_Cursor) : Option (Int × bytes_Cursor) :=
  ((bytes_Cursor_Peek.m x0).bind fun t9 => ((attr_Char.m t9.1).bind fun t24 => bif t24 then ((order_taken.m t9.2.2 GoErr.nil).bind fun t30 => (some (t9.1, t30))) else ((order_taken.m t9.2.2 (GoErr.no 3)).bind fun t45 => (some (t9.1, t45)))))

set_option maxRecDepth 100000 in
theorem order_char.calls {I : Gh} {h : Heap} {b0 : Nat} {x0 : bytes_Cursor} {a1 : Option Addr} {c2 : Nat} {v5 : Value} (hB : Bd I h) (o8 : OwnB I h b0 [.slice a1 x0.b'.length c2, .int .i64 x0.at', v5] 88) (r4 : Rd (tInt .u8) I h a1 c2 x0.b') (q7 : ErrV I h x0.err' v5) {r : (Int × bytes_Cursor)}
    (H : order_char.m x0 = some r) :
    Ret Tryd.prog 60 #[.pointer (some ⟨b0, 0, none⟩)] h (fun v h' => ∃ (I' : Gh) (a60 : Option Addr) (c61 : Nat) (v64 : Value), .int .u8 r.1 = v ∧ Pst (One b0) I h I' h' ∧ Rd (tInt .u8) I' h' a60 c61 r.2.b' ∧ ErrV I' h' r.2.err' v64 ∧ OwnB I' h' b0 [.slice a60 r.2.b'.length c61, .int .i64 r.2.at', v64] 88) := by
  unfold order_char.m at H
  refine ret_of (args := [.pointer (some ⟨b0, 0, none⟩)]) (rs := [.tmp 2]) (N := 19) Tryd.func60 rfl rfl rfl (Nat.le_of_ble_eq_true rfl) ?_
  have pt0 : Pst (One b0) I h I h := Pst.refl hB
  have nw_b0 : (One b0) b0 ∨ h.size ≤ b0 := .inl rfl
  refine cwp_seq ?_
  refine cwp_region ?_
  refine lwp_run 1 (by kernel_rfl) ?_
  refine lwp_nil ?_
  refine cwp_seq ?_
  refine cwp_region ?_
  refine lwp_run 1 (by kernel_rfl) ?_
  obtain ⟨t9, m10, H⟩ := bind_some H
  refine lwp_op (by kernel_rfl) (owp_callF (by kernel_rfl) (bytes_Cursor_Peek.calls (I := I) hB o8 r4 q7 m10) ?_)
  rintro v11 h12 ⟨I13, a15, c16, v19, rfl, p14, r18, q21, o22⟩
  have pt23 := pt0.own p14 (one_nw nw_b0)
  refine lwp_run 5 (by kernel_rfl) ?_
  refine lwp_nil ?_
  refine cwp_seq ?_
  refine cwp_region ?_
  refine lwp_run 1 (by kernel_rfl) ?_
  refine lwp_nil ?_
  refine cwp_seq ?_
  refine cwp_seq ?_
  refine cwp_region ?_
  refine lwp_run 1 (by kernel_rfl) ?_
  obtain ⟨t24, m25, H⟩ := bind_some H
  refine lwp_op (by kernel_rfl) (owp_callF (by kernel_rfl) (attr_Char.calls (I := I13) p14.bd m25) ?_)
  rintro v26 h27 ⟨_, rfl, rfl⟩
  cases t24
  · rw [cond_false] at H
    refine lwp_run 1 (by kernel_rfl) ?_
    refine lwp_nil ?_
    refine cwp_true (by kernel_rfl) ?_
    refine cwp_region ?_
    refine lwp_run 2 (by kernel_rfl) ?_
    refine lwp_nil ?_
    refine cwp_seq ?_
    refine cwp_region ?_
    refine lwp_run 2 (by kernel_rfl) ?_
    obtain ⟨t45, m46, H⟩ := bind_some H
    refine lwp_op (by kernel_rfl) (owp_callF (by kernel_rfl) (order_taken.calls (I := I13) p14.bd o22 r18 q21 (show ErrV I13 h12 (GoErr.no 3) (.iface 78 (.int .i64 3)) from rfl) m46) ?_)
    rintro v47 h48 ⟨I49, a51, c52, v55, rfl, p50, r54, q57, o58⟩
    have pt59 := pt23.own p50 (one_nw nw_b0)
    refine lwp_nil ?_
    refine cwp_seq ?_
    refine cwp_region ?_
    refine lwp_run 2 (by kernel_rfl) ?_
    refine lwp_nil ?_
    refine cwp_ret ?_
    obtain rfl := Option.some.inj H
    show Exists _
    exact ⟨.int .u8 t9.1, by kernel_rfl, I49, a51, c52, (v55), rfl, pt59, r54, q57, o58⟩
  · rw [cond_true] at H
    refine lwp_run 1 (by kernel_rfl) ?_
    refine lwp_nil ?_
    refine cwp_false (by kernel_rfl) ?_
    refine cwp_skip ?_
    refine cwp_seq ?_
    refine cwp_region ?_
    refine lwp_run 2 (by kernel_rfl) ?_
    obtain ⟨t30, m31, H⟩ := bind_some H
    refine lwp_op (by kernel_rfl) (owp_callF (by kernel_rfl) (order_taken.calls (I := I13) p14.bd o22 r18 q21 (show ErrV I13 h12 GoErr.nil .nilIface from rfl) m31) ?_)
    rintro v32 h33 ⟨I34, a36, c37, v40, rfl, p35, r39, q42, o43⟩
    have pt44 := pt23.own p35 (one_nw nw_b0)
    refine lwp_nil ?_
    refine cwp_seq ?_
    refine cwp_region ?_
    refine lwp_run 2 (by kernel_rfl) ?_
    refine lwp_nil ?_
    refine cwp_ret ?_
    obtain rfl := Option.some.inj H
    show Exists _
    exact ⟨.int .u8 t9.1, by kernel_rfl, I34, a36, c37, (v40), rfl, pt44, r39, q42, o43⟩

/-! (*shutter/bytes.Cursor).Err -/
def bytes_Cursor_Err.m (x0 : bytes_Cursor) : Option (GoErr × bytes_Cursor) :=
  (some (x0.err', x0))

set_option maxRecDepth 100000 in
theorem bytes_Cursor_Err.calls {I : Gh} {h : Heap} {b0 : Nat} {x0 : bytes_Cursor} {a1 : Option Addr} {c2 : Nat} {v5 : Value} (hB : Bd I h) (o8 : OwnB I h b0 [.slice a1 x0.b'.length c2, .int .i64 x0.at', v5] 88) (r4 : Rd (tInt .u8) I h a1 c2 x0.b') (q7 : ErrV I h x0.err' v5) {r : (GoErr × bytes_Cursor)}
    (H : bytes_Cursor_Err.m x0 = some r) :
    Ret Tryd.prog 25 #[.pointer (some ⟨b0, 0, none⟩)] h (fun v h' => ∃ (I' : Gh) (v9 : Value) (a12 : Option Addr) (c13 : Nat) (v16 : Value), v9 = v ∧ Pst (One b0) I h I' h' ∧ ErrV I' h' r.1 v9 ∧ Rd (tInt .u8) I' h' a12 c13 r.2.b' ∧ ErrV I' h' r.2.err' v16 ∧ OwnB I' h' b0 [.slice a12 r.2.b'.length c13, .int .i64 r.2.at', v16] 88) := by
  unfold bytes_Cursor_Err.m at H
  refine ret_of (args := [.pointer (some ⟨b0, 0, none⟩)]) (rs := [.tmp 2]) (N := 7) Tryd.func25 rfl rfl rfl (Nat.le_of_ble_eq_true rfl) ?_
  have pt0 : Pst (One b0) I h I h := Pst.refl hB
  have nw_b0 : (One b0) b0 ∨ h.size ≤ b0 := .inl rfl
  refine cwp_seq ?_
  refine cwp_region ?_
  refine lwp_run 1 (by kernel_rfl) ?_
  refine lwp_nil ?_
  refine cwp_seq ?_
  refine cwp_region ?_
  refine lwp_run 3 (by kernel_rfl) ?_
  refine lwp_op (by kernel_rfl) (owp_load (by kernel_rfl) (by kernel_rfl) (o8.cell (off := 2) rfl) ?_)
  refine lwp_run 1 (by kernel_rfl) ?_
  refine lwp_nil ?_
  refine cwp_ret ?_
  obtain rfl := Option.some.inj H
  show Exists _
  exact ⟨v5, by kernel_rfl, I, (v5), a1, c2, (v5), rfl, pt0, q7, r4, q7, o8⟩

/-! shutter/order.Get -/
def order_Get.m (K : Nat) (x0 : bytes_Cursor) (x1 : Int) : Option (api_Order × bytes_Cursor) :=
  (letJ (α := Int → Bool → (List Int) → Int → GoErr → Option (api_Order × bytes_Cursor)) (fun (x39 : Int) (x40 : Bool) (x41 : List Int) (x46 : Int) (x47 : GoErr) => (bif x40 then ((attr_Char.m x39).bind fun t55 => bif t55 then ((bytes_Cursor_Chars.m K (⟨x41, x46, x47⟩ : bytes_Cursor)).bind fun t61 => (some ((⟨1, t61.1, (⟨false, false, 0, false⟩ : api_Attr), 0, 0⟩ : api_Order), t61.2))) else ((order_kind.m K x39).bind fun t93 => (if t93 = 0 then ((bytes_Cursor_Fail.m (⟨x41, x46, x47⟩ : bytes_Cursor) (GoErr.no 5)).bind fun t119 => (some ((⟨0, [], (⟨false, false, 0, false⟩ : api_Attr), 0, 0⟩ : api_Order), t119))) else ((bytes_Cursor_Byte.m (⟨x41, x46, x47⟩ : bytes_Cursor)).bind fun t150 => (letJ (α := (List Int) → Int → GoErr → Bool → Bool → Int → Bool → Int → Option (api_Order × bytes_Cursor)) (fun (x264 : List Int) (x269 : Int) (x270 : GoErr) (x276 : Bool) (x277 : Bool) (x278 : Int) (x279 : Bool) (x280 : Int) => (letJ (α := (List Int) → Int → GoErr → Int → Option (api_Order × bytes_Cursor)) (fun (x307 : List Int) (x312 : Int) (x313 : GoErr) (x319 : Int) => ((bytes_Cursor_Err.m (⟨x307, x312, x313⟩ : bytes_Cursor)).bind fun t322 => (if t322.1 = GoErr.nil then (some ((⟨t93, [], (⟨x276, x277, x278, x279⟩ : api_Attr), x280, x319⟩ : api_Order), t322.2)) else (some ((⟨0, [], (⟨false, false, 0, false⟩ : api_Attr), 0, 0⟩ : api_Order), t322.2))))) fun (j321 : (List Int) → Int → GoErr → Int → Option (api_Order × bytes_Cursor)) => (if t93 = 6 then ((order_char.m (⟨x264, x269, x270⟩ : bytes_Cursor)).bind fun t284 => (j321 t284.2.b' t284.2.at' t284.2.err' t284.1)) else (j321 x264 x269 x270 0)))) fun (j282 : (List Int) → Int → GoErr → Bool → Bool → Int → Bool → Int → Option (api_Order × bytes_Cursor)) => (letJ (α := Bool → Option (api_Order × bytes_Cursor)) (fun (x170 : Bool) => (bif x170 then ((order_start.m t150.2).bind fun t177 => (j282 t177.2.b' t177.2.at' t177.2.err' t177.1.Protected t177.1.Numeric t177.1.Show t177.1.Modified 0)) else (if t93 = 6 then ((bytes_Cursor_Addr.m K t150.2 x1).bind fun t198 => (j282 t198.2.b' t198.2.at' t198.2.err' false false 0 false t198.1)) else (if t93 = 3 then ((bytes_Cursor_Addr.m K t150.2 x1).bind fun t219 => (j282 t219.2.b' t219.2.at' t219.2.err' false false 0 false t219.1)) else (if t93 = 7 then ((bytes_Cursor_Addr.m K t150.2 x1).bind fun t240 => (j282 t240.2.b' t240.2.at' t240.2.err' false false 0 false t240.1)) else (j282 t150.2.b' t150.2.at' t150.2.err' false false 0 false 0)))))) fun (j176 : Bool → Option (api_Order × bytes_Cursor)) => (if t93 = 2 then (j176 true) else (j176 false)))))))) else ((bytes_Cursor_Fail.m (⟨x41, x46, x47⟩ : bytes_Cursor) (GoErr.no 2)).bind fun t362 => (some ((⟨0, [], (⟨false, false, 0, false⟩ : api_Attr), 0, 0⟩ : api_Order), t362))))) fun (j53 : Int → Bool → (List Int) → Int → GoErr → Option (api_Order × bytes_Cursor)) => ((bytes_Cursor_Peek.m x0).bind fun t20 => (bif t20.2.1 then (j53 t20.1 true t20.2.2.b' t20.2.2.at' t20.2.2.err') else (j53 t20.1 false t20.2.2.b' t20.2.2.at' t20.2.2.err'))))

set_option maxRecDepth 100000 in
theorem order_Get.calls {I : Gh} {h : Heap} {K : Nat} {b0 : Nat} {x0 : bytes_Cursor} {a1 : Option Addr} {c2 : Nat} {v5 : Value} {x1 : Int} (hB : Bd I h) (o8 : OwnB I h b0 [.slice a1 x0.b'.length c2, .int .i64 x0.at', v5] 88) (r4 : Rd (tInt .u8) I h a1 c2 x0.b') (q7 : ErrV I h x0.err' v5) {r : (api_Order × bytes_Cursor)}
    (H : order_Get.m K x0 x1 = some r) :
    Ret Tryd.prog 21 #[.pointer (some ⟨b0, 0, none⟩), .int .i64 x1] h (fun v h' => ∃ (I' : Gh) (a386 : Option Addr) (c387 : Nat) (a391 : Option Addr) (c392 : Nat) (v395 : Value), .agg #[.int .i64 r.1.Kind, .slice a386 r.1.Text.length c387, .bool r.1.Attr.Protected, .bool r.1.Attr.Numeric, .int .i64 r.1.Attr.Show, .bool r.1.Attr.Modified, .int .i64 r.1.Addr, .int .u8 r.1.Char] = v ∧ Pst (One b0) I h I' h' ∧ Own (tInt .u8) I' h' a386 c387 r.1.Text ∧ (∀ b, InA a386 b → (One b0) b ∨ h.size ≤ b) ∧ Rd (tInt .u8) I' h' a391 c392 r.2.b' ∧ ErrV I' h' r.2.err' v395 ∧ OwnB I' h' b0 [.slice a391 r.2.b'.length c392, .int .i64 r.2.at', v395] 88 ∧ ¬ InA a386 b0) := by
  unfold order_Get.m at H
  refine ret_of2 (args := [.pointer (some ⟨b0, 0, none⟩), .int .i64 x1]) (rs := [.cell 4 26]) (N := 62) Tryd.func21 rfl rfl rfl (Nat.le_of_ble_eq_true rfl) ?_
  have pt0 : Pst (One b0) I h I h := Pst.refl hB
  have nw_b0 : (One b0) b0 ∨ h.size ≤ b0 := .inl rfl
  refine cwp_seq ?_
  refine cwp_region ?_
  refine lwp_op (by kernel_rfl) (owp_alloc [.int .i64 0, .slice none 0 0, .bool false, .bool false, .int .i64 0, .bool false, .int .i64 0, .int .u8 0] (.agg #[.int .i64 0, .slice none 0 0, .bool false, .bool false, .int .i64 0, .bool false, .int .i64 0, .int .u8 0]) hB (by kernel_rfl) (by kernel_rfl) ?_)
  intro b9 h10 hc11 p12 o13
  have pt14 := pt0.no p12
  have fr15 : (One b0) b9 ∨ h.size ≤ b9 := .inr (Nat.le_trans pt0.size hc11)
  have d16 := ne_new o8.lt hc11
  refine lwp_nil ?_
  obtain ⟨j53, e385, H⟩ := letJ_some H
  refine cwp_join (fun ρ' h36 => ∃ (x39 : Int) (x40 : Bool) (x41 : List Int) (x46 : Int) (x47 : GoErr) (a42 : Option Addr) (c43 : Nat) (v48 : Value) (I37 : Gh), j53 x39 x40 x41 x46 x47 = some r ∧ Fits [(0, .pointer (some ⟨b0, 0, none⟩)), (1, .int .i64 x1), (4, .pointer (some ⟨b9, 0, none⟩)), (5, .int .u8 x39), (6, .bool x40)] ρ' ∧ Pst (One b0) I h I37 h36 ∧ Rd (tInt .u8) I37 h36 a42 c43 x41 ∧ ErrV I37 h36 x47 v48 ∧ OwnB I37 h36 b0 [.slice a42 x41.length c43, .int .i64 x46, v48] 88 ∧ OwnB I37 h36 b9 [.int .i64 0, .slice none 0 0, .bool false, .bool false, .int .i64 0, .bool false, .int .i64 0, .int .u8 0] 26) ?_ ?_
  · refine cwp_region ?_
    refine lwp_run 1 (by kernel_rfl) ?_
    have f17 := o8.post p12 (fun x => x.elim)
    have f18 := r4.up (p12.up hB (fun _ x => x.elim))
    have f19 := ErrV.up (p12.up hB (fun _ x => x.elim)) q7
    obtain ⟨t20, m21, H⟩ := bind_some H
    refine lwp_op (by kernel_rfl) (owp_callF (by kernel_rfl) (bytes_Cursor_Peek.calls (I := I) p12.bd f17 f18 f19 m21) ?_)
    rintro v22 h23 ⟨I24, a26, c27, v30, rfl, p25, r29, q32, o33⟩
    have pt34 := pt14.own p25 (one_nw nw_b0)
    refine lwp_run 2 (by kernel_rfl) ?_
    rcases bool_or t20.2.1 with c35 | c35
    · replace H := bif_f c35 H
      refine lwp_op (by kernel_rfl) (owp_pure ((.bool false)) (pr_bool (by kernel_rfl) c35) ?_)
      refine lwp_run 2 (by kernel_rfl) ?_
      refine lwp_nil ?_
      have f100039 := o13.post p25 d16
      exact ⟨t20.1, false, t20.2.2.b', t20.2.2.at', t20.2.2.err', a26, c27, v30, I24, H, ⟨by kernel_rfl, by kernel_rfl, by kernel_rfl, by kernel_rfl, by kernel_rfl, trivial⟩, pt34, r29, q32, o33, f100039⟩
    · replace H := bif_t c35 H
      refine lwp_op (by kernel_rfl) (owp_pure ((.bool true)) (pr_bool (by kernel_rfl) c35) ?_)
      refine lwp_run 2 (by kernel_rfl) ?_
      refine lwp_nil ?_
      have f100038 := o13.post p25 d16
      exact ⟨t20.1, true, t20.2.2.b', t20.2.2.at', t20.2.2.err', a26, c27, v30, I24, H, ⟨by kernel_rfl, by kernel_rfl, by kernel_rfl, by kernel_rfl, by kernel_rfl, trivial⟩, pt34, r29, q32, o33, f100038⟩
  · clear H
    rintro ρ' h36 ⟨x39, x40, x41, x46, x47, a42, c43, v48, I37, H, hf, pt38, r44, q49, o51, o52⟩
    refine cwp_fits _ hf ?_
    subst e385
    try dsimp only at H
    refine cwp_seq ?_
    refine cwp_seq ?_
    refine cwp_region ?_
    rcases bool_or x40 with c54 | c54
    · replace H := bif_f c54 H
      refine lwp_op (by kernel_rfl) (owp_pure ((.bool false)) (pr_bool (by kernel_rfl) c54) ?_)
      refine lwp_run 1 (by kernel_rfl) ?_
      refine lwp_nil ?_
      refine cwp_true (by kernel_rfl) ?_
      refine cwp_seq ?_
      refine cwp_region ?_
      refine lwp_run 2 (by kernel_rfl) ?_
      obtain ⟨t362, m363, H⟩ := bind_some H
      refine lwp_op (by kernel_rfl) (owp_callF (by kernel_rfl) (bytes_Cursor_Fail.calls (I := I37) pt38.bd o51 r44 q49 (show ErrV I37 h36 (GoErr.no 2) (.iface 78 (.int .i64 2)) from rfl) m363) ?_)
      rintro v364 h365 ⟨I366, a368, c369, v372, rfl, p367, r371, q374, o375⟩
      have pt376 := pt38.own p367 (one_nw nw_b0)
      refine lwp_nil ?_
      refine cwp_seq ?_
      refine cwp_region ?_
      refine lwp_run 1 (by kernel_rfl) ?_
      have f377 := o52.post p367 d16
      refine lwp_op (by kernel_rfl) (owp_storeN 0 [.int .i64 0, .slice none 0 0, .bool false, .bool false, .int .i64 0, .bool false, .int .i64 0, .int .u8 0] p367.bd f377 (by kernel_rfl) (by kernel_rfl) (by simp [Value.oneCell']) (by kernel_rfl) (Nat.le_of_ble_eq_true rfl) ?_)
      intro h378 p379 o380
      have pt381 := pt376.own p379 (one_nw fr15)
      refine lwp_nil ?_
      refine cwp_ret ?_
      obtain rfl := Option.some.inj H
      have f382 := r371.up (p379.up p367.bd (one_not f377.no))
      have f383 := ErrV.up (p379.up p367.bd (one_not f377.no)) q374
      have f384 := o375.post p379 (fun e => d16 e.symm)
      show Exists _
      exact ⟨[.agg #[.int .i64 0, .slice none 0 0, .bool false, .bool false, .int .i64 0, .bool false, .int .i64 0, .int .u8 0]], (.cons (.agg (by kernel_rfl) (by kernel_rfl) (by kernel_rfl) (o380.seg_ 0 8 (Nat.le_of_ble_eq_true rfl))) .nil), I366, none, 0, a368, c369, (v372), rfl, pt381, (own_nil (tInt .u8) I366 I366 h378), none_nw, f382, f383, f384, inA_none⟩
    · replace H := bif_t c54 H
      refine lwp_op (by kernel_rfl) (owp_pure ((.bool true)) (pr_bool (by kernel_rfl) c54) ?_)
      refine lwp_run 1 (by kernel_rfl) ?_
      refine lwp_nil ?_
      refine cwp_false (by kernel_rfl) ?_
      refine cwp_skip ?_
      refine cwp_seq ?_
      refine cwp_seq ?_
      refine cwp_region ?_
      refine lwp_run 1 (by kernel_rfl) ?_
      obtain ⟨t55, m56, H⟩ := bind_some H
      refine lwp_op (by kernel_rfl) (owp_callF (by kernel_rfl) (attr_Char.calls (I := I37) pt38.bd m56) ?_)
      rintro v57 h58 ⟨_, rfl, rfl⟩
      cases t55
      · rw [cond_false] at H
        refine lwp_nil ?_
        refine cwp_false (by kernel_rfl) ?_
        refine cwp_skip ?_
        refine cwp_seq ?_
        refine cwp_region ?_
        refine lwp_run 1 (by kernel_rfl) ?_
        obtain ⟨t93, m94, H⟩ := bind_some H
        refine lwp_op (by kernel_rfl) (owp_callF (by kernel_rfl) (order_kind.calls (I := I37) pt38.bd m94) ?_)
        rintro v95 h96 ⟨_, rfl, rfl⟩
        refine lwp_run 1 (by kernel_rfl) ?_
        refine lwp_op (by kernel_rfl) (owp_alloc [.int .i64 0, .slice none 0 0, .bool false, .bool false, .int .i64 0, .bool false, .int .i64 0, .int .u8 0] (.agg #[.int .i64 0, .slice none 0 0, .bool false, .bool false, .int .i64 0, .bool false, .int .i64 0, .int .u8 0]) pt38.bd (by kernel_rfl) (by kernel_rfl) ?_)
        intro b99 h100 hc101 p102 o103
        have pt104 := pt38.no p102
        have fr105 : (One b0) b99 ∨ h.size ≤ b99 := .inr (Nat.le_trans pt38.size hc101)
        have d106 := ne_new o51.lt hc101
        have d107 := ne_new o52.lt hc101
        refine lwp_op (by kernel_rfl) (owp_storeN 0 [.int .i64 t93, .slice none 0 0, .bool false, .bool false, .int .i64 0, .bool false, .int .i64 0, .int .u8 0] p102.bd o103 (by kernel_rfl) (by kernel_rfl) (by simp [Value.oneCell']) (by kernel_rfl) (Nat.le_of_ble_eq_true rfl) ?_)
        intro h108 p109 o110
        have pt111 := pt104.own p109 (one_nw fr105)
        refine lwp_nil ?_
        refine cwp_seq ?_
        refine cwp_seq ?_
        refine cwp_region ?_
        refine lwp_run 1 (by kernel_rfl) ?_
        refine lwp_op (by kernel_rfl) (owp_load (by kernel_rfl) (by kernel_rfl) (o110.cell (off := 0) rfl) ?_)
        by_cases c112 : t93 = 0
        · rw [if_pos c112] at H
          refine lwp_op (by kernel_rfl) (owp_pure ((.bool true)) (pr_bool (by kernel_rfl) (eqT c112)) ?_)
          refine lwp_nil ?_
          refine cwp_true (by kernel_rfl) ?_
          refine cwp_seq ?_
          refine cwp_region ?_
          refine lwp_run 2 (by kernel_rfl) ?_
          have f113 := o51.post p102 (fun x => x.elim)
          have f114 := f113.post p109 (fun e => d106 e.symm)
          have f115 := r44.up (p102.up pt38.bd (fun _ x => x.elim))
          have f116 := f115.up (p109.up p102.bd (one_not o103.no))
          have f117 := ErrV.up (p102.up pt38.bd (fun _ x => x.elim)) q49
          have f118 := ErrV.up (p109.up p102.bd (one_not o103.no)) f117
          obtain ⟨t119, m120, H⟩ := bind_some H
          refine lwp_op (by kernel_rfl) (owp_callF (by kernel_rfl) (bytes_Cursor_Fail.calls (I := I37) p109.bd f114 f116 f118 (show ErrV I37 h108 (GoErr.no 5) (.iface 78 (.int .i64 5)) from rfl) m120) ?_)
          rintro v121 h122 ⟨I123, a125, c126, v129, rfl, p124, r128, q131, o132⟩
          have pt133 := pt111.own p124 (one_nw nw_b0)
          refine lwp_nil ?_
          refine cwp_seq ?_
          refine cwp_region ?_
          refine lwp_run 1 (by kernel_rfl) ?_
          have f134 := o52.post p102 (fun x => x.elim)
          have f135 := f134.post p109 (fun e => d107 e.symm)
          have f136 := f135.post p124 d16
          refine lwp_op (by kernel_rfl) (owp_storeN 0 [.int .i64 0, .slice none 0 0, .bool false, .bool false, .int .i64 0, .bool false, .int .i64 0, .int .u8 0] p124.bd f136 (by kernel_rfl) (by kernel_rfl) (by simp [Value.oneCell']) (by kernel_rfl) (Nat.le_of_ble_eq_true rfl) ?_)
          intro h137 p138 o139
          have pt140 := pt133.own p138 (one_nw fr15)
          refine lwp_nil ?_
          refine cwp_ret ?_
          obtain rfl := Option.some.inj H
          have f141 := r128.up (p138.up p124.bd (one_not f136.no))
          have f142 := ErrV.up (p138.up p124.bd (one_not f136.no)) q131
          have f143 := o132.post p138 (fun e => d16 e.symm)
          show Exists _
          exact ⟨[.agg #[.int .i64 0, .slice none 0 0, .bool false, .bool false, .int .i64 0, .bool false, .int .i64 0, .int .u8 0]], (.cons (.agg (by kernel_rfl) (by kernel_rfl) (by kernel_rfl) (o139.seg_ 0 8 (Nat.le_of_ble_eq_true rfl))) .nil), I123, none, 0, a125, c126, (v129), rfl, pt140, (own_nil (tInt .u8) I123 I123 h137), none_nw, f141, f142, f143, inA_none⟩
        · rw [if_neg c112] at H
          refine lwp_op (by kernel_rfl) (owp_pure ((.bool false)) (pr_bool (by kernel_rfl) (eqF c112)) ?_)
          refine lwp_nil ?_
          refine cwp_false (by kernel_rfl) ?_
          refine cwp_skip ?_
          refine cwp_seq ?_
          refine cwp_region ?_
          refine lwp_run 1 (by kernel_rfl) ?_
          have f144 := o51.post p102 (fun x => x.elim)
          have f145 := f144.post p109 (fun e => d106 e.symm)
          have f146 := r44.up (p102.up pt38.bd (fun _ x => x.elim))
          have f147 := f146.up (p109.up p102.bd (one_not o103.no))
          have f148 := ErrV.up (p102.up pt38.bd (fun _ x => x.elim)) q49
          have f149 := ErrV.up (p109.up p102.bd (one_not o103.no)) f148
          obtain ⟨t150, m151, H⟩ := bind_some H
          refine lwp_op (by kernel_rfl) (owp_callF (by kernel_rfl) (bytes_Cursor_Byte.calls (I := I37) p109.bd f145 f147 f149 m151) ?_)
          rintro v152 h153 ⟨I154, a156, c157, v160, rfl, p155, r159, q162, o163⟩
          have pt164 := pt111.own p155 (one_nw nw_b0)
          refine lwp_nil ?_
          obtain ⟨j282, e361, H⟩ := letJ_some H
          refine cwp_join (fun ρ' h261 => ∃ (x264 : List Int) (x269 : Int) (x270 : GoErr) (x276 : Bool) (x277 : Bool) (x278 : Int) (x279 : Bool) (x280 : Int) (a265 : Option Addr) (c266 : Nat) (v271 : Value) (I262 : Gh), j282 x264 x269 x270 x276 x277 x278 x279 x280 = some r ∧ Fits [(0, .pointer (some ⟨b0, 0, none⟩)), (4, .pointer (some ⟨b9, 0, none⟩)), (7, .pointer (some ⟨b99, 0, none⟩))] ρ' ∧ Pst (One b0) I h I262 h261 ∧ Rd (tInt .u8) I262 h261 a265 c266 x264 ∧ ErrV I262 h261 x270 v271 ∧ OwnB I262 h261 b0 [.slice a265 x264.length c266, .int .i64 x269, v271] 88 ∧ OwnB I262 h261 b9 [.int .i64 0, .slice none 0 0, .bool false, .bool false, .int .i64 0, .bool false, .int .i64 0, .int .u8 0] 26 ∧ OwnB I262 h261 b99 [.int .i64 t93, .slice none 0 0, .bool x276, .bool x277, .int .i64 x278, .bool x279, .int .i64 x280, .int .u8 0] 26) ?_ ?_
          · refine cwp_seq ?_
            refine cwp_region ?_
            refine lwp_run 1 (by kernel_rfl) ?_
            have f165 := o110.post p155 d106
            refine lwp_op (by kernel_rfl) (owp_load (by kernel_rfl) (by kernel_rfl) (f165.cell (off := 0) rfl) ?_)
            refine lwp_nil ?_
            refine cwp_block ?_
            obtain ⟨j176, e260, H⟩ := letJ_some H
            refine cwp_join (fun ρ' h167 => ∃ (x170 : Bool) (I168 : Gh), j176 x170 = some r ∧ Fits [(0, .pointer (some ⟨b0, 0, none⟩)), (1, .int .i64 x1), (4, .pointer (some ⟨b9, 0, none⟩)), (7, .pointer (some ⟨b99, 0, none⟩)), (37, .int .i64 t93), (38, .bool x170)] ρ' ∧ Pst (One b0) I h I168 h167 ∧ Rd (tInt .u8) I168 h167 a156 c157 t150.2.b' ∧ ErrV I168 h167 t150.2.err' v160 ∧ OwnB I168 h167 b0 [.slice a156 t150.2.b'.length c157, .int .i64 t150.2.at', v160] 88 ∧ OwnB I168 h167 b9 [.int .i64 0, .slice none 0 0, .bool false, .bool false, .int .i64 0, .bool false, .int .i64 0, .int .u8 0] 26 ∧ OwnB I168 h167 b99 [.int .i64 t93, .slice none 0 0, .bool false, .bool false, .int .i64 0, .bool false, .int .i64 0, .int .u8 0] 26) ?_ ?_
            · refine cwp_region ?_
              by_cases c166 : t93 = 2
              · rw [if_pos c166] at H
                refine lwp_op (by kernel_rfl) (owp_pure ((.bool true)) (pr_bool (by kernel_rfl) (eqT c166)) ?_)
                refine lwp_run 1 (by kernel_rfl) ?_
                refine lwp_nil ?_
                have f100032 := o52.post p102 (fun x => x.elim)
                have f100033 := f100032.post p109 (fun e => d107 e.symm)
                have f100034 := f100033.post p155 d16
                exact ⟨true, I154, H, ⟨by kernel_rfl, by kernel_rfl, by kernel_rfl, by kernel_rfl, by kernel_rfl, by kernel_rfl, trivial⟩, pt164, r159, q162, o163, f100034, f165⟩
              · rw [if_neg c166] at H
                refine lwp_op (by kernel_rfl) (owp_pure ((.bool false)) (pr_bool (by kernel_rfl) (eqF c166)) ?_)
                refine lwp_run 1 (by kernel_rfl) ?_
                refine lwp_nil ?_
                have f100035 := o52.post p102 (fun x => x.elim)
                have f100036 := f100035.post p109 (fun e => d107 e.symm)
                have f100037 := f100036.post p155 d16
                exact ⟨false, I154, H, ⟨by kernel_rfl, by kernel_rfl, by kernel_rfl, by kernel_rfl, by kernel_rfl, by kernel_rfl, trivial⟩, pt164, r159, q162, o163, f100037, f165⟩
            · clear H
              rintro ρ' h167 ⟨x170, I168, H, hf, pt169, r171, q172, o173, o174, o175⟩
              refine cwp_fits _ hf ?_
              subst e260
              try dsimp only at H
              cases x170
              · rw [cond_false] at H
                refine cwp_false (by kernel_rfl) ?_
                refine cwp_seq ?_
                refine cwp_seq ?_
                refine cwp_region ?_
                by_cases c197 : t93 = 6
                · rw [if_pos c197] at H
                  refine lwp_op (by kernel_rfl) (owp_pure ((.bool true)) (pr_bool (by kernel_rfl) (eqT c197)) ?_)
                  refine lwp_run 1 (by kernel_rfl) ?_
                  refine lwp_nil ?_
                  refine cwp_true (by kernel_rfl) ?_
                  refine cwp_skip ?_
                  refine cwp_true (by kernel_rfl) ?_
                  refine cwp_region ?_
                  refine lwp_run 2 (by kernel_rfl) ?_
                  obtain ⟨t198, m199, H⟩ := bind_some H
                  refine lwp_op (by kernel_rfl) (owp_callF (by kernel_rfl) (bytes_Cursor_Addr.calls (I := I168) pt169.bd o173 r171 q172 m199) ?_)
                  rintro v200 h201 ⟨I202, a204, c205, v208, rfl, p203, r207, q210, o211⟩
                  have pt212 := pt169.own p203 (one_nw nw_b0)
                  refine lwp_run 1 (by kernel_rfl) ?_
                  have f213 := o175.post p203 d106
                  refine lwp_op (by kernel_rfl) (owp_store1 6 (.int .i64 t198.1) p203.bd f213 (by kernel_rfl) (by kernel_rfl) rfl (by kernel_rfl) (Nat.le_of_ble_eq_true rfl) ?_)
                  intro h214 p215 o216
                  have pt217 := pt212.own p215 (one_nw fr105)
                  refine lwp_nil ?_
                  have f100017 := r207.up (p215.up p203.bd (one_not f213.no))
                  have f100018 := ErrV.up (p215.up p203.bd (one_not f213.no)) q210
                  have f100019 := o211.post p215 (fun e => d106 e.symm)
                  have f100020 := o174.post p203 d16
                  have f100021 := f100020.post p215 (fun e => d107 e.symm)
                  exact ⟨t198.2.b', t198.2.at', t198.2.err', false, false, 0, false, t198.1, a204, c205, v208, I202, H, ⟨by kernel_rfl, by kernel_rfl, by kernel_rfl, trivial⟩, pt217, f100017, f100018, f100019, f100021, o216⟩
                · rw [if_neg c197] at H
                  refine lwp_op (by kernel_rfl) (owp_pure ((.bool false)) (pr_bool (by kernel_rfl) (eqF c197)) ?_)
                  refine lwp_run 1 (by kernel_rfl) ?_
                  refine lwp_nil ?_
                  refine cwp_false (by kernel_rfl) ?_
                  refine cwp_seq ?_
                  refine cwp_region ?_
                  by_cases c218 : t93 = 3
                  · rw [if_pos c218] at H
                    refine lwp_op (by kernel_rfl) (owp_pure ((.bool true)) (pr_bool (by kernel_rfl) (eqT c218)) ?_)
                    refine lwp_run 1 (by kernel_rfl) ?_
                    refine lwp_nil ?_
                    refine cwp_true (by kernel_rfl) ?_
                    refine cwp_skip ?_
                    refine cwp_true (by kernel_rfl) ?_
                    refine cwp_region ?_
                    refine lwp_run 2 (by kernel_rfl) ?_
                    obtain ⟨t219, m220, H⟩ := bind_some H
                    refine lwp_op (by kernel_rfl) (owp_callF (by kernel_rfl) (bytes_Cursor_Addr.calls (I := I168) pt169.bd o173 r171 q172 m220) ?_)
                    rintro v221 h222 ⟨I223, a225, c226, v229, rfl, p224, r228, q231, o232⟩
                    have pt233 := pt169.own p224 (one_nw nw_b0)
                    refine lwp_run 1 (by kernel_rfl) ?_
                    have f234 := o175.post p224 d106
                    refine lwp_op (by kernel_rfl) (owp_store1 6 (.int .i64 t219.1) p224.bd f234 (by kernel_rfl) (by kernel_rfl) rfl (by kernel_rfl) (Nat.le_of_ble_eq_true rfl) ?_)
                    intro h235 p236 o237
                    have pt238 := pt233.own p236 (one_nw fr105)
                    refine lwp_nil ?_
                    have f100022 := r228.up (p236.up p224.bd (one_not f234.no))
                    have f100023 := ErrV.up (p236.up p224.bd (one_not f234.no)) q231
                    have f100024 := o232.post p236 (fun e => d106 e.symm)
                    have f100025 := o174.post p224 d16
                    have f100026 := f100025.post p236 (fun e => d107 e.symm)
                    exact ⟨t219.2.b', t219.2.at', t219.2.err', false, false, 0, false, t219.1, a225, c226, v229, I223, H, ⟨by kernel_rfl, by kernel_rfl, by kernel_rfl, trivial⟩, pt238, f100022, f100023, f100024, f100026, o237⟩
                  · rw [if_neg c218] at H
                    refine lwp_op (by kernel_rfl) (owp_pure ((.bool false)) (pr_bool (by kernel_rfl) (eqF c218)) ?_)
                    refine lwp_run 1 (by kernel_rfl) ?_
                    refine lwp_nil ?_
                    refine cwp_false (by kernel_rfl) ?_
                    refine cwp_region ?_
                    by_cases c239 : t93 = 7
                    · rw [if_pos c239] at H
                      refine lwp_op (by kernel_rfl) (owp_pure ((.bool true)) (pr_bool (by kernel_rfl) (eqT c239)) ?_)
                      refine lwp_run 1 (by kernel_rfl) ?_
                      refine lwp_nil ?_
                      refine cwp_true (by kernel_rfl) ?_
                      refine cwp_region ?_
                      refine lwp_run 2 (by kernel_rfl) ?_
                      obtain ⟨t240, m241, H⟩ := bind_some H
                      refine lwp_op (by kernel_rfl) (owp_callF (by kernel_rfl) (bytes_Cursor_Addr.calls (I := I168) pt169.bd o173 r171 q172 m241) ?_)
                      rintro v242 h243 ⟨I244, a246, c247, v250, rfl, p245, r249, q252, o253⟩
                      have pt254 := pt169.own p245 (one_nw nw_b0)
                      refine lwp_run 1 (by kernel_rfl) ?_
                      have f255 := o175.post p245 d106
                      refine lwp_op (by kernel_rfl) (owp_store1 6 (.int .i64 t240.1) p245.bd f255 (by kernel_rfl) (by kernel_rfl) rfl (by kernel_rfl) (Nat.le_of_ble_eq_true rfl) ?_)
                      intro h256 p257 o258
                      have pt259 := pt254.own p257 (one_nw fr105)
                      refine lwp_nil ?_
                      have f100027 := r249.up (p257.up p245.bd (one_not f255.no))
                      have f100028 := ErrV.up (p257.up p245.bd (one_not f255.no)) q252
                      have f100029 := o253.post p257 (fun e => d106 e.symm)
                      have f100030 := o174.post p245 d16
                      have f100031 := f100030.post p257 (fun e => d107 e.symm)
                      exact ⟨t240.2.b', t240.2.at', t240.2.err', false, false, 0, false, t240.1, a246, c247, v250, I244, H, ⟨by kernel_rfl, by kernel_rfl, by kernel_rfl, trivial⟩, pt259, f100027, f100028, f100029, f100031, o258⟩
                    · rw [if_neg c239] at H
                      refine lwp_op (by kernel_rfl) (owp_pure ((.bool false)) (pr_bool (by kernel_rfl) (eqF c239)) ?_)
                      refine lwp_run 1 (by kernel_rfl) ?_
                      refine lwp_nil ?_
                      refine cwp_false (by kernel_rfl) ?_
                      refine cwp_skip ?_
                      exact ⟨t150.2.b', t150.2.at', t150.2.err', false, false, 0, false, 0, a156, c157, v160, I168, H, ⟨by kernel_rfl, by kernel_rfl, by kernel_rfl, trivial⟩, pt169, r171, q172, o173, o174, o175⟩
              · rw [cond_true] at H
                refine cwp_true (by kernel_rfl) ?_
                refine cwp_region ?_
                refine lwp_run 1 (by kernel_rfl) ?_
                obtain ⟨t177, m178, H⟩ := bind_some H
                refine lwp_op (by kernel_rfl) (owp_callF (by kernel_rfl) (order_start.calls (I := I168) pt169.bd o173 r171 q172 m178) ?_)
                rintro v179 h180 ⟨I181, a183, c184, v187, rfl, p182, r186, q189, o190⟩
                have pt191 := pt169.own p182 (one_nw nw_b0)
                refine lwp_run 1 (by kernel_rfl) ?_
                have f192 := o175.post p182 d106
                refine lwp_op (by kernel_rfl) (owp_storeN 2 [.bool t177.1.Protected, .bool t177.1.Numeric, .int .i64 t177.1.Show, .bool t177.1.Modified] p182.bd f192 (by kernel_rfl) (by kernel_rfl) (by simp [Value.oneCell']) (by kernel_rfl) (Nat.le_of_ble_eq_true rfl) ?_)
                intro h193 p194 o195
                have pt196 := pt191.own p194 (one_nw fr105)
                refine lwp_nil ?_
                have f100012 := r186.up (p194.up p182.bd (one_not f192.no))
                have f100013 := ErrV.up (p194.up p182.bd (one_not f192.no)) q189
                have f100014 := o190.post p194 (fun e => d106 e.symm)
                have f100015 := o174.post p182 d16
                have f100016 := f100015.post p194 (fun e => d107 e.symm)
                exact ⟨t177.2.b', t177.2.at', t177.2.err', t177.1.Protected, t177.1.Numeric, t177.1.Show, t177.1.Modified, 0, a183, c184, v187, I181, H, ⟨by kernel_rfl, by kernel_rfl, by kernel_rfl, trivial⟩, pt196, f100012, f100013, f100014, f100016, o195⟩
          · clear H
            rintro ρ' h261 ⟨x264, x269, x270, x276, x277, x278, x279, x280, a265, c266, v271, I262, H, hf, pt263, r267, q272, o274, o275, o281⟩
            refine cwp_fits _ hf ?_
            subst e361
            try dsimp only at H
            obtain ⟨j321, e360, H⟩ := letJ_some H
            refine cwp_join (fun ρ' h304 => ∃ (x307 : List Int) (x312 : Int) (x313 : GoErr) (x319 : Int) (a308 : Option Addr) (c309 : Nat) (v314 : Value) (I305 : Gh), j321 x307 x312 x313 x319 = some r ∧ Fits [(0, .pointer (some ⟨b0, 0, none⟩)), (4, .pointer (some ⟨b9, 0, none⟩)), (7, .pointer (some ⟨b99, 0, none⟩))] ρ' ∧ Pst (One b0) I h I305 h304 ∧ Rd (tInt .u8) I305 h304 a308 c309 x307 ∧ ErrV I305 h304 x313 v314 ∧ OwnB I305 h304 b0 [.slice a308 x307.length c309, .int .i64 x312, v314] 88 ∧ OwnB I305 h304 b9 [.int .i64 0, .slice none 0 0, .bool false, .bool false, .int .i64 0, .bool false, .int .i64 0, .int .u8 0] 26 ∧ OwnB I305 h304 b99 [.int .i64 t93, .slice none 0 0, .bool x276, .bool x277, .int .i64 x278, .bool x279, .int .i64 x280, .int .u8 x319] 26) ?_ ?_
            · refine cwp_seq ?_
              refine cwp_region ?_
              refine lwp_run 1 (by kernel_rfl) ?_
              refine lwp_op (by kernel_rfl) (owp_load (by kernel_rfl) (by kernel_rfl) (o281.cell (off := 0) rfl) ?_)
              by_cases c283 : t93 = 6
              · rw [if_pos c283] at H
                refine lwp_op (by kernel_rfl) (owp_pure ((.bool true)) (pr_bool (by kernel_rfl) (eqT c283)) ?_)
                refine lwp_nil ?_
                refine cwp_true (by kernel_rfl) ?_
                refine cwp_region ?_
                refine lwp_run 1 (by kernel_rfl) ?_
                obtain ⟨t284, m285, H⟩ := bind_some H
                refine lwp_op (by kernel_rfl) (owp_callF (by kernel_rfl) (order_char.calls (I := I262) pt263.bd o274 r267 q272 m285) ?_)
                rintro v286 h287 ⟨I288, a290, c291, v294, rfl, p289, r293, q296, o297⟩
                have pt298 := pt263.own p289 (one_nw nw_b0)
                refine lwp_run 1 (by kernel_rfl) ?_
                have f299 := o281.post p289 d106
                refine lwp_op (by kernel_rfl) (owp_store1 7 (.int .u8 t284.1) p289.bd f299 (by kernel_rfl) (by kernel_rfl) rfl (by kernel_rfl) (Nat.le_of_ble_eq_true rfl) ?_)
                intro h300 p301 o302
                have pt303 := pt298.own p301 (one_nw fr105)
                refine lwp_nil ?_
                have f100007 := r293.up (p301.up p289.bd (one_not f299.no))
                have f100008 := ErrV.up (p301.up p289.bd (one_not f299.no)) q296
                have f100009 := o297.post p301 (fun e => d106 e.symm)
                have f100010 := o275.post p289 d16
                have f100011 := f100010.post p301 (fun e => d107 e.symm)
                exact ⟨t284.2.b', t284.2.at', t284.2.err', t284.1, a290, c291, v294, I288, H, ⟨by kernel_rfl, by kernel_rfl, by kernel_rfl, trivial⟩, pt303, f100007, f100008, f100009, f100011, o302⟩
              · rw [if_neg c283] at H
                refine lwp_op (by kernel_rfl) (owp_pure ((.bool false)) (pr_bool (by kernel_rfl) (eqF c283)) ?_)
                refine lwp_nil ?_
                refine cwp_false (by kernel_rfl) ?_
                refine cwp_skip ?_
                exact ⟨x264, x269, x270, 0, a265, c266, v271, I262, H, ⟨by kernel_rfl, by kernel_rfl, by kernel_rfl, trivial⟩, pt263, r267, q272, o274, o275, o281⟩
            · clear H
              rintro ρ' h304 ⟨x307, x312, x313, x319, a308, c309, v314, I305, H, hf, pt306, r310, q315, o317, o318, o320⟩
              refine cwp_fits _ hf ?_
              subst e360
              try dsimp only at H
              refine cwp_seq ?_
              refine cwp_seq ?_
              refine cwp_region ?_
              refine lwp_run 1 (by kernel_rfl) ?_
              obtain ⟨t322, m323, H⟩ := bind_some H
              refine lwp_op (by kernel_rfl) (owp_callF (by kernel_rfl) (bytes_Cursor_Err.calls (I := I305) pt306.bd o317 r310 q315 m323) ?_)
              rintro v324 h325 ⟨I326, v328, a331, c332, v335, rfl, p327, q330, r334, q337, o338⟩
              have pt339 := pt306.own p327 (one_nw nw_b0)
              rcases q330.cases with ⟨c340, rfl⟩ | ⟨c340, t341, u342, rfl⟩
              · rw [if_pos c340] at H
                refine lwp_run 1 (by kernel_rfl) ?_
                refine lwp_nil ?_
                refine cwp_false (by kernel_rfl) ?_
                refine cwp_skip ?_
                refine cwp_seq ?_
                refine cwp_region ?_
                have f343 := o320.post p327 d106
                refine lwp_op (by kernel_rfl) (owp_loadN (by kernel_rfl) (by kernel_rfl) (by kernel_rfl) (f343.seg_ 0 8 (Nat.le_of_ble_eq_true rfl)) ?_)
                have f344 := o318.post p327 d16
                refine lwp_op (by kernel_rfl) (owp_storeN 0 [.int .i64 t93, .slice none 0 0, .bool x276, .bool x277, .int .i64 x278, .bool x279, .int .i64 x280, .int .u8 x319] p327.bd f344 (by kernel_rfl) (by kernel_rfl) (by simp [Value.oneCell']) (by kernel_rfl) (Nat.le_of_ble_eq_true rfl) ?_)
                intro h345 p346 o347
                have pt348 := pt339.own p346 (one_nw fr15)
                refine lwp_nil ?_
                refine cwp_ret ?_
                obtain rfl := Option.some.inj H
                have f349 := r334.up (p346.up p327.bd (one_not f344.no))
                have f350 := ErrV.up (p346.up p327.bd (one_not f344.no)) q337
                have f351 := o338.post p346 (fun e => d16 e.symm)
                show Exists _
                exact ⟨[.agg #[.int .i64 t93, .slice none 0 0, .bool x276, .bool x277, .int .i64 x278, .bool x279, .int .i64 x280, .int .u8 x319]], (.cons (.agg (by kernel_rfl) (by kernel_rfl) (by kernel_rfl) (o347.seg_ 0 8 (Nat.le_of_ble_eq_true rfl))) .nil), I326, none, 0, a331, c332, (v335), rfl, pt348, (own_nil (tInt .u8) I326 I326 h345), none_nw, f349, f350, f351, inA_none⟩
              · rw [if_neg c340] at H
                refine lwp_run 1 (by kernel_rfl) ?_
                refine lwp_nil ?_
                refine cwp_true (by kernel_rfl) ?_
                refine cwp_seq ?_
                refine cwp_region ?_
                refine lwp_run 1 (by kernel_rfl) ?_
                have f352 := o318.post p327 d16
                refine lwp_op (by kernel_rfl) (owp_storeN 0 [.int .i64 0, .slice none 0 0, .bool false, .bool false, .int .i64 0, .bool false, .int .i64 0, .int .u8 0] p327.bd f352 (by kernel_rfl) (by kernel_rfl) (by simp [Value.oneCell']) (by kernel_rfl) (Nat.le_of_ble_eq_true rfl) ?_)
                intro h353 p354 o355
                have pt356 := pt339.own p354 (one_nw fr15)
                refine lwp_nil ?_
                refine cwp_ret ?_
                obtain rfl := Option.some.inj H
                have f357 := r334.up (p354.up p327.bd (one_not f352.no))
                have f358 := ErrV.up (p354.up p327.bd (one_not f352.no)) q337
                have f359 := o338.post p354 (fun e => d16 e.symm)
                show Exists _
                exact ⟨[.agg #[.int .i64 0, .slice none 0 0, .bool false, .bool false, .int .i64 0, .bool false, .int .i64 0, .int .u8 0]], (.cons (.agg (by kernel_rfl) (by kernel_rfl) (by kernel_rfl) (o355.seg_ 0 8 (Nat.le_of_ble_eq_true rfl))) .nil), I326, none, 0, a331, c332, (v335), rfl, pt356, (own_nil (tInt .u8) I326 I326 h353), none_nw, f357, f358, f359, inA_none⟩
      · rw [cond_true] at H
        refine lwp_nil ?_
        refine cwp_true (by kernel_rfl) ?_
        refine cwp_seq ?_
        refine cwp_region ?_
        refine lwp_run 1 (by kernel_rfl) ?_
        obtain ⟨t61, m62, H⟩ := bind_some H
        refine lwp_op (by kernel_rfl) (owp_callF (by kernel_rfl) (bytes_Cursor_Chars.calls (I := I37) pt38.bd o51 r44 q49 m62) ?_)
        rintro v63 h64 ⟨I65, a67, c68, a72, c73, v76, rfl, p66, r70, fr71, r75, q78, o79, d80⟩
        have pt81 := pt38.own p66 (one_nw nw_b0)
        have fr82 := nw_step (M := (One b0)) (n := h.size) (one_nw nw_b0) fr71 pt38.size
        have d83 := step_blk fr71 o52.lt d16
        refine lwp_run 1 (by kernel_rfl) ?_
        have f84 := o52.post p66 d16
        refine lwp_op (by kernel_rfl) (owp_storeN 0 [.int .i64 1, .slice a67 t61.1.length c68, .bool false, .bool false, .int .i64 0, .bool false, .int .i64 0, .int .u8 0] p66.bd f84 (by kernel_rfl) (by kernel_rfl) (by simp [Value.oneCell']) (by kernel_rfl) (Nat.le_of_ble_eq_true rfl) ?_)
        intro h85 p86 o87
        have pt88 := pt81.own p86 (one_nw fr15)
        refine lwp_nil ?_
        refine cwp_ret ?_
        obtain rfl := Option.some.inj H
        have f89 := r70.post p66.bd p86 (one_not f84.no) (dis_one d83)
        have f90 := r75.up (p86.up p66.bd (one_not f84.no))
        have f91 := ErrV.up (p86.up p66.bd (one_not f84.no)) q78
        have f92 := o79.post p86 (fun e => d16 e.symm)
        show Exists _
        exact ⟨[.agg #[.int .i64 1, .slice a67 t61.1.length c68, .bool false, .bool false, .int .i64 0, .bool false, .int .i64 0, .int .u8 0]], (.cons (.agg (by kernel_rfl) (by kernel_rfl) (by kernel_rfl) (o87.seg_ 0 8 (Nat.le_of_ble_eq_true rfl))) .nil), I65, a67, c68, a72, c73, (v76), rfl, pt88, f89, fr82, f90, f91, f92, d80⟩

/-! shutter/shutterlaw07.awake -/
def shutterlaw07_awake.m (K : Nat)  : Option Bool :=
  ((order_Put.m K (⟨3, [], (⟨false, false, 0, false⟩ : api_Attr), 80, 0⟩ : api_Order) 1920).bind fun t1 => ((bytes_New.m t1.1).bind fun t17 => ((order_Get.m K t17 1920).bind fun t36 => (if t1.2 = GoErr.nil then ((shutterref01_Same.m K t1.1 [17, 193, 80]).bind fun t105 => bif t105 then (if t36.1.Kind = 3 then (if t36.1.Addr = 80 then ((bytes_Cursor_Left.m t36.2).bind fun t123 => (if t123.1 = 0 then ((order_Same.m K t36.1 t36.1).bind fun t144 => (some t144)) else (some false))) else (some false)) else (some false)) else (some false)) else (some false)))))

set_option maxRecDepth 100000 in
theorem shutterlaw07_awake.calls {I : Gh} {h : Heap} {K : Nat}  (hB : Bd I h)  {r : Bool}
    (H : shutterlaw07_awake.m K = some r) :
    Ret Tryd.prog 11 #[] h (fun v h' => ∃ (I' : Gh), .bool r = v ∧ Pst No I h I' h') := by
  unfold shutterlaw07_awake.m at H
  refine ret_of (args := []) (rs := [.tmp 0]) (N := 43) Tryd.func11 rfl rfl rfl (Nat.le_of_ble_eq_true rfl) ?_
  have pt0 : Pst No I h I h := Pst.refl hB
  refine cwp_seq ?_
  refine cwp_region ?_
  refine lwp_run 1 (by kernel_rfl) ?_
  refine lwp_nil ?_
  refine cwp_seq ?_
  refine cwp_region ?_
  refine lwp_run 1 (by kernel_rfl) ?_
  obtain ⟨t1, m2, H⟩ := bind_some H
  refine lwp_op (by kernel_rfl) (owp_callF (by kernel_rfl) (order_Put.calls (I := I) (B := I) hB hB (Rd.mono (I' := Or2 I I) (rd_nil (tInt .u8) I h) (fun _ x => Or.inr x)) m2) ?_)
  rintro v3 h4 ⟨I5, a7, c8, v12, rfl, p6, r10, fr11, q14⟩
  have pt15 := pt0.no p6
  have fr16 := nw_step (M := No) (n := h.size) (fun _ x => x.elim) fr11 pt0.size
  refine lwp_run 5 (by kernel_rfl) ?_
  refine lwp_nil ?_
  refine cwp_seq ?_
  refine cwp_region ?_
  refine lwp_run 1 (by kernel_rfl) ?_
  obtain ⟨t17, m18, H⟩ := bind_some H
  refine lwp_op (by kernel_rfl) (owp_callF (by kernel_rfl) (bytes_New.calls (I := I5) (B := (Fz I5 a7)) p6.bd (bd_fz r10 p6.bd) (Rd.mono (I' := Or2 I5 (Fz I5 a7)) r10.rd (fun _ x => Or.inr x)) m18) ?_)
  rintro v19 h20 ⟨I21, b23, a24, c25, v28, rfl, p22, r27, q30, o31, fr32⟩
  have pt33 := pt15.no p22
  have fr34 := nw1_step (M := No) (n := h.size) fr32 (fun _ x => x.elim) pt15.size
  have d35 := step1_sl fr32 r10.lt (fun _ _ x => x.elim)
  refine lwp_run 1 (by kernel_rfl) ?_
  refine lwp_nil ?_
  refine cwp_seq ?_
  refine cwp_seq ?_
  refine cwp_region ?_
  refine lwp_run 2 (by kernel_rfl) ?_
  refine lwp_nil ?_
  refine cwp_false (by kernel_rfl) ?_
  refine cwp_skip ?_
  refine cwp_seq ?_
  refine cwp_region ?_
  refine lwp_run 1 (by kernel_rfl) ?_
  obtain ⟨t36, m37, H⟩ := bind_some H
  refine lwp_op (by kernel_rfl) (owp_callF (by kernel_rfl) (order_Get.calls (I := I21) p22.bd o31 r27 q30 m37) ?_)
  rintro v38 h39 ⟨I40, a42, c43, a47, c48, v51, rfl, p41, r45, fr46, r50, q53, o54, d55⟩
  have pt56 := pt33.own p41 (one_nw fr34)
  have fr57 := nw_step (M := No) (n := h.size) (one_nw fr34) fr46 pt33.size
  have f58 := r10.post p6.bd p22 (fun _ x => x.elim) (fun _ _ x => x.elim)
  have d59 := step_sl fr46 f58.lt (dis_one d35)
  refine lwp_op (by kernel_rfl) (owp_alloc [.int .i64 0, .slice none 0 0, .bool false, .bool false, .int .i64 0, .bool false, .int .i64 0, .int .u8 0] (.agg #[.int .i64 0, .slice none 0 0, .bool false, .bool false, .int .i64 0, .bool false, .int .i64 0, .int .u8 0]) p41.bd (by kernel_rfl) (by kernel_rfl) ?_)
  intro b60 h61 hc62 p63 o64
  have pt65 := pt56.no p63
  have fr66 : No b60 ∨ h.size ≤ b60 := .inr (Nat.le_trans pt56.size hc62)
  have d67 := ne_new o54.lt hc62
  have f68 := f58.post p22.bd p41 (one_not o31.no) (dis_one d35)
  have d69 := notIn_new f68.lt hc62
  have d70 := notIn_new r45.lt hc62
  refine lwp_op (by kernel_rfl) (owp_storeN 0 [.int .i64 t36.1.Kind, .slice a42 t36.1.Text.length c43, .bool t36.1.Attr.Protected, .bool t36.1.Attr.Numeric, .int .i64 t36.1.Attr.Show, .bool t36.1.Attr.Modified, .int .i64 t36.1.Addr, .int .u8 t36.1.Char] p63.bd o64 (by kernel_rfl) (by kernel_rfl) (by simp [Value.oneCell']) (by kernel_rfl) (Nat.le_of_ble_eq_true rfl) ?_)
  intro h71 p72 o73
  have pt74 := pt65.own p72 (one_nw fr66)
  refine lwp_nil ?_
  refine cwp_seq ?_
  refine cwp_region ?_
  refine lwp_run 1 (by kernel_rfl) ?_
  have f75 := ErrV.up (p22.up p6.bd (fun _ x => x.elim)) q14
  have f76 := ErrV.up (p41.up p22.bd (one_not o31.no)) f75
  have f77 := ErrV.up (p63.up p41.bd (fun _ x => x.elim)) f76
  have f78 := ErrV.up (p72.up p63.bd (one_not o64.no)) f77
  rcases f78.cases with ⟨c79, rfl⟩ | ⟨c79, t80, u81, rfl⟩
  · rw [if_pos c79] at H
    refine lwp_run 3 (by kernel_rfl) ?_
    refine lwp_op (by kernel_rfl) (owp_buildSlice (e := 5) [.int .u8 17, .int .u8 193, .int .u8 80] 1 (.int .u8 0) p72.bd (by kernel_rfl) (by kernel_rfl) (by kernel_rfl) (by kernel_rfl) (by kernel_rfl) ?_)
    intro b82 h83 hc84 p85 o86
    have pt87 := pt74.no p85
    have w88 := o86.own (l := ([17, 193, 80] : List Int)) (Reps.int (I := I40) (k := .u8) (l := [17, 193, 80]))
    have fw88 := some_nw (M := No) (Nat.le_trans pt74.size hc84)
    have f90 := o54.post p63 (fun x => x.elim)
    have f91 := f90.post p72 (fun e => d67 e.symm)
    have d92 := some_ne (ne_new f91.lt hc84)
    have d93 := some_ne (ne_new o73.lt hc84)
    have f94 := f58.post p22.bd p41 (one_not o31.no) (dis_one d35)
    have f95 := f94.post p41.bd p63 (fun _ x => x.elim) (fun _ _ x => x.elim)
    have f96 := f95.post p63.bd p72 (one_not o64.no) (dis_one d69)
    have d97 := some_notIn (notIn_new f96.lt hc84)
    have f98 := r45.post p41.bd p63 (fun _ x => x.elim) (fun _ _ x => x.elim)
    have f99 := f98.post p63.bd p72 (one_not o64.no) (dis_one d70)
    have d100 := some_notIn (notIn_new f99.lt hc84)
    have f101 := f58.post p22.bd p41 (one_not o31.no) (dis_one d35)
    have f102 := f101.post p41.bd p63 (fun _ x => x.elim) (fun _ _ x => x.elim)
    have f103 := f102.post p63.bd p72 (one_not o64.no) (dis_one d69)
    have f104 := f103.post p72.bd p85 (fun _ x => x.elim) (fun _ _ x => x.elim)
    obtain ⟨t105, m106, H⟩ := bind_some H
    refine lwp_op (by kernel_rfl) (owp_callF (by kernel_rfl) (shutterref01_Same.calls (I := (Fz (Fz I40 a7) (some ⟨b82, 0, none⟩))) (bd_fz w88 (bd_fz f104 p85.bd)) (Rd.mono (I' := (Fz (Fz I40 a7) (some ⟨b82, 0, none⟩))) f104.rd (fun _ x => (Or.inl x))) (Rd.mono (I' := (Fz (Fz I40 a7) (some ⟨b82, 0, none⟩))) w88.rd (fun _ x => (Or.elim x (fun x => (Or.inl (Or.inl x))) (fun x => (Or.inr x))))) m106) ?_)
    rintro v107 h108 ⟨_, rfl, rfl⟩
    cases t105
    · rw [cond_false] at H
      refine lwp_run 22 (by kernel_rfl) ?_
      refine lwp_nil ?_
      refine cwp_ret ?_
      obtain rfl := Option.some.inj H
      show Exists _
      exact ⟨.bool false, by kernel_rfl, I40, rfl, pt87⟩
    · rw [cond_true] at H
      refine lwp_run 3 (by kernel_rfl) ?_
      have f111 := o73.post p85 (fun x => x.elim)
      refine lwp_op (by kernel_rfl) (owp_load (by kernel_rfl) (by kernel_rfl) (f111.cell (off := 0) rfl) ?_)
      by_cases c112 : t36.1.Kind = 3
      · rw [if_pos c112] at H
        refine lwp_op (by kernel_rfl) (owp_pure ((.bool true)) (pr_bool (by kernel_rfl) (eqT c112)) ?_)
        refine lwp_run 3 (by kernel_rfl) ?_
        refine lwp_op (by kernel_rfl) (owp_load (by kernel_rfl) (by kernel_rfl) (f111.cell (off := 6) rfl) ?_)
        by_cases c113 : t36.1.Addr = 80
        · rw [if_pos c113] at H
          refine lwp_op (by kernel_rfl) (owp_pure ((.bool true)) (pr_bool (by kernel_rfl) (eqT c113)) ?_)
          refine lwp_run 3 (by kernel_rfl) ?_
          have f114 := o54.post p63 (fun x => x.elim)
          have f115 := f114.post p72 (fun e => d67 e.symm)
          have f116 := f115.post p85 (fun x => x.elim)
          have f117 := r50.up (p63.up p41.bd (fun _ x => x.elim))
          have f118 := f117.up (p72.up p63.bd (one_not o64.no))
          have f119 := f118.up (p85.up p72.bd (fun _ x => x.elim))
          have f120 := ErrV.up (p63.up p41.bd (fun _ x => x.elim)) q53
          have f121 := ErrV.up (p72.up p63.bd (one_not o64.no)) f120
          have f122 := ErrV.up (p85.up p72.bd (fun _ x => x.elim)) f121
          obtain ⟨t123, m124, H⟩ := bind_some H
          refine lwp_op (by kernel_rfl) (owp_callF (by kernel_rfl) (bytes_Cursor_Left.calls (I := I40) p85.bd f116 f119 f122 m124) ?_)
          rintro v125 h126 ⟨I127, a129, c130, v133, rfl, p128, r132, q135, o136⟩
          have pt137 := pt87.own p128 (one_nw fr34)
          by_cases c138 : t123.1 = 0
          · rw [if_pos c138] at H
            refine lwp_op (by kernel_rfl) (owp_pure ((.bool true)) (pr_bool (by kernel_rfl) (eqT c138)) ?_)
            refine lwp_run 2 (by kernel_rfl) ?_
            have f139 := f111.post p128 d67
            refine lwp_op (by kernel_rfl) (owp_loadN (by kernel_rfl) (by kernel_rfl) (by kernel_rfl) (f139.seg_ 0 8 (Nat.le_of_ble_eq_true rfl)) ?_)
            refine lwp_op (by kernel_rfl) (owp_loadN (by kernel_rfl) (by kernel_rfl) (by kernel_rfl) (f139.seg_ 0 8 (Nat.le_of_ble_eq_true rfl)) ?_)
            have f140 := r45.post p41.bd p63 (fun _ x => x.elim) (fun _ _ x => x.elim)
            have f141 := f140.post p63.bd p72 (one_not o64.no) (dis_one d70)
            have f142 := f141.post p72.bd p85 (fun _ x => x.elim) (fun _ _ x => x.elim)
            have f143 := f142.post p85.bd p128 (one_not f116.no) (dis_one d55)
            obtain ⟨t144, m145, H⟩ := bind_some H
            refine lwp_op (by kernel_rfl) (owp_callF (by kernel_rfl) (order_Same.calls (I := (Fz I127 a42)) (bd_fz f143 p128.bd) f143.rd f143.rd m145) ?_)
            rintro v146 h147 ⟨I148, rfl, p149⟩
            have p150 := Pst.forget p149 p128.bd
            have pt151 := pt137.no p150
            refine lwp_run 2 (by kernel_rfl) ?_
            refine lwp_nil ?_
            refine cwp_ret ?_
            obtain rfl := Option.some.inj H
            show Exists _
            exact ⟨.bool t144, by kernel_rfl, I127, rfl, pt151⟩
          · rw [if_neg c138] at H
            refine lwp_op (by kernel_rfl) (owp_pure ((.bool false)) (pr_bool (by kernel_rfl) (eqF c138)) ?_)
            refine lwp_run 7 (by kernel_rfl) ?_
            refine lwp_nil ?_
            refine cwp_ret ?_
            obtain rfl := Option.some.inj H
            show Exists _
            exact ⟨.bool false, by kernel_rfl, I127, rfl, pt137⟩
        · rw [if_neg c113] at H
          refine lwp_op (by kernel_rfl) (owp_pure ((.bool false)) (pr_bool (by kernel_rfl) (eqF c113)) ?_)
          refine lwp_run 12 (by kernel_rfl) ?_
          refine lwp_nil ?_
          refine cwp_ret ?_
          obtain rfl := Option.some.inj H
          show Exists _
          exact ⟨.bool false, by kernel_rfl, I40, rfl, pt87⟩
      · rw [if_neg c112] at H
        refine lwp_op (by kernel_rfl) (owp_pure ((.bool false)) (pr_bool (by kernel_rfl) (eqF c112)) ?_)
        refine lwp_run 17 (by kernel_rfl) ?_
        refine lwp_nil ?_
        refine cwp_ret ?_
        obtain rfl := Option.some.inj H
        show Exists _
        exact ⟨.bool false, by kernel_rfl, I40, rfl, pt87⟩
  · rw [if_neg c79] at H
    refine lwp_run 27 (by kernel_rfl) ?_
    refine lwp_nil ?_
    refine cwp_ret ?_
    obtain rfl := Option.some.inj H
    show Exists _
    exact ⟨.bool false, by kernel_rfl, I40, rfl, pt74⟩

/-! shutter/shutterlaw07.size -/
def shutterlaw07_size.m (x0 : Int) : Option Int :=
  (some (w64 (1 + (Int.tmod (w64 (x0)) 16383))))

set_option maxRecDepth 100000 in
theorem shutterlaw07_size.calls {I : Gh} {h : Heap} {x0 : Int} (_hB : Bd I h)  {r : Int}
    (H : shutterlaw07_size.m x0 = some r) :
    Ret Tryd.prog 13 #[.int .u16 x0] h (fun v h' => ∃ _ : Unit, .int .i64 r = v ∧ h = h') := by
  unfold shutterlaw07_size.m at H
  refine ret_of (args := [.int .u16 x0]) (rs := [.tmp 2]) (N := 7) Tryd.func13 rfl rfl rfl (Nat.le_of_ble_eq_true rfl) ?_
  refine cwp_seq ?_
  refine cwp_region ?_
  refine lwp_run 1 (by kernel_rfl) ?_
  refine lwp_nil ?_
  refine cwp_seq ?_
  refine cwp_region ?_
  refine lwp_run 5 (by kernel_rfl) ?_
  refine lwp_nil ?_
  refine cwp_ret ?_
  obtain rfl := Option.some.inj H
  show Exists _
  exact ⟨.int .i64 (w64 (1 + (Int.tmod (w64 (x0)) 16383))), by kernel_rfl, (), rfl, rfl⟩

/-! shutter/shutterref05.Char -/
def shutterref05_Char.m (x0 : Int) : Option Bool :=
  (if x0 = 0 then (some true) else (if x0 = 28 then (some true) else (if x0 = 30 then (some true) else (if x0 ≥ 64 then (some (decide (x0 ≤ 254))) else (some false)))))

set_option maxRecDepth 100000 in
theorem shutterref05_Char.calls {I : Gh} {h : Heap} {x0 : Int} (_hB : Bd I h)  {r : Bool}
    (H : shutterref05_Char.m x0 = some r) :
    Ret Tryd.prog 49 #[.int .u8 x0] h (fun v h' => ∃ _ : Unit, .bool r = v ∧ h = h') := by
  unfold shutterref05_Char.m at H
  refine ret_of (args := [.int .u8 x0]) (rs := [.tmp 2]) (N := 21) Tryd.func49 rfl rfl rfl (Nat.le_of_ble_eq_true rfl) ?_
  refine cwp_seq ?_
  refine cwp_region ?_
  refine lwp_run 1 (by kernel_rfl) ?_
  refine lwp_nil ?_
  refine cwp_seq ?_
  refine cwp_region ?_
  refine lwp_run 1 (by kernel_rfl) ?_
  by_cases c1 : x0 = 0
  · rw [if_pos c1] at H
    refine lwp_op (by kernel_rfl) (owp_pure ((.bool true)) (pr_bool (by kernel_rfl) (eqT c1)) ?_)
    refine lwp_run 17 (by kernel_rfl) ?_
    refine lwp_nil ?_
    refine cwp_ret ?_
    obtain rfl := Option.some.inj H
    show Exists _
    exact ⟨.bool true, by kernel_rfl, (), rfl, rfl⟩
  · rw [if_neg c1] at H
    refine lwp_op (by kernel_rfl) (owp_pure ((.bool false)) (pr_bool (by kernel_rfl) (eqF c1)) ?_)
    refine lwp_run 2 (by kernel_rfl) ?_
    by_cases c2 : x0 = 28
    · rw [if_pos c2] at H
      refine lwp_op (by kernel_rfl) (owp_pure ((.bool true)) (pr_bool (by kernel_rfl) (eqT c2)) ?_)
      refine lwp_run 14 (by kernel_rfl) ?_
      refine lwp_nil ?_
      refine cwp_ret ?_
      obtain rfl := Option.some.inj H
      show Exists _
      exact ⟨.bool true, by kernel_rfl, (), rfl, rfl⟩
    · rw [if_neg c2] at H
      refine lwp_op (by kernel_rfl) (owp_pure ((.bool false)) (pr_bool (by kernel_rfl) (eqF c2)) ?_)
      refine lwp_run 3 (by kernel_rfl) ?_
      by_cases c3 : x0 = 30
      · rw [if_pos c3] at H
        refine lwp_op (by kernel_rfl) (owp_pure ((.bool true)) (pr_bool (by kernel_rfl) (eqT c3)) ?_)
        refine lwp_run 10 (by kernel_rfl) ?_
        refine lwp_nil ?_
        refine cwp_ret ?_
        obtain rfl := Option.some.inj H
        show Exists _
        exact ⟨.bool true, by kernel_rfl, (), rfl, rfl⟩
      · rw [if_neg c3] at H
        refine lwp_op (by kernel_rfl) (owp_pure ((.bool false)) (pr_bool (by kernel_rfl) (eqF c3)) ?_)
        refine lwp_run 3 (by kernel_rfl) ?_
        by_cases c4 : x0 ≥ 64
        · rw [if_pos c4] at H
          refine lwp_op (by kernel_rfl) (owp_pure ((.bool true)) (pr_bool (by kernel_rfl) (decide_eq_true c4)) ?_)
          refine lwp_run 6 (by kernel_rfl) ?_
          refine lwp_nil ?_
          refine cwp_ret ?_
          obtain rfl := Option.some.inj H
          show Exists _
          exact ⟨.bool (decide (x0 ≤ 254)), by kernel_rfl, (), rfl, rfl⟩
        · rw [if_neg c4] at H
          refine lwp_op (by kernel_rfl) (owp_pure ((.bool false)) (pr_bool (by kernel_rfl) (decide_eq_false c4)) ?_)
          refine lwp_run 6 (by kernel_rfl) ?_
          refine lwp_nil ?_
          refine cwp_ret ?_
          obtain rfl := Option.some.inj H
          show Exists _
          exact ⟨.bool false, by kernel_rfl, (), rfl, rfl⟩

/-! shutter/shutterref05.Chars -/
def shutterref05_Chars.l1.m (K : Nat) (x0 : (List Int)) : Nat → Int → Option (Bool ⊕ (Unit))
  | 0, _ => none
  | k + 1, x8 => (if x8 < (x0.length : Int) then (if 0 ≤ x8 then ((shutterref05_Char.m (at_ x0 x8)).bind fun t22 => bif t22 then (shutterref05_Chars.l1.m K x0 k (w64 (x8 + 1))) else (some (Sum.inl false))) else none) else (some (Sum.inr ())))
def shutterref05_Chars.m (K : Nat) (x0 : (List Int)) : Option Bool :=
  ((shutterref05_Chars.l1.m K x0 K 0).bind fun s10 => match s10 with | .inl q => (some q) | .inr _ => (some true))

set_option maxRecDepth 100000 in
theorem shutterref05_Chars.calls {I : Gh} {h : Heap} {K : Nat} {x0 : List Int} {a1 : Option Addr} {c2 : Nat} (hB : Bd I h) (r4 : Rd (tInt .u8) I h a1 c2 x0) {r : Bool}
    (H : shutterref05_Chars.m K x0 = some r) :
    Ret Tryd.prog 48 #[.slice a1 x0.length c2] h (fun v h' => ∃ _ : Unit, .bool r = v ∧ h = h') := by
  unfold shutterref05_Chars.m at H
  refine ret_of (args := [.slice a1 x0.length c2]) (rs := [.tmp 2]) (N := 16) Tryd.func48 rfl rfl rfl (Nat.le_of_ble_eq_true rfl) ?_
  refine cwp_seq ?_
  refine cwp_region ?_
  refine lwp_run 1 (by kernel_rfl) ?_
  refine lwp_nil ?_
  refine cwp_seq ?_
  refine cwp_seq ?_
  refine cwp_region ?_
  refine lwp_run 1 (by kernel_rfl) ?_
  refine lwp_nil ?_
  refine cwp_block ?_
  obtain ⟨s10, m14, HR15⟩ := bind_some H
  refine cwp_loopE 0 (fun ρ' h11 => ∃ (_ : Unit), Sum.inr () = s10 ∧ Fits [] ρ' ∧ h = h11) ?_ ?_
  · refine cwp_loop (fun k' ρ' h5 => ∃ (x8 : Int) (_ : Unit), shutterref05_Chars.l1.m K x0 k' x8 = some s10 ∧ Fits [(0, .slice a1 x0.length c2), (3, .int .i64 x8)] ρ' ∧ h = h5) K ⟨0, (), m14, ⟨by kernel_rfl, by kernel_rfl, trivial⟩, rfl⟩ ?_
    clear m14
    rintro k' ρ' h5 ⟨x8, _, H, hf, rfl⟩
    cases k' with
    | zero => cases H
    | succ k =>
      rw [shutterref05_Chars.l1.m] at H
      refine cwp_fits _ hf ?_
      refine cwp_seq ?_
      refine cwp_seq ?_
      refine cwp_region ?_
      refine lwp_run 3 (by kernel_rfl) ?_
      by_cases c16 : x8 < (x0.length : Int)
      · rw [if_pos c16] at H
        refine lwp_op (by kernel_rfl) (owp_pure ((.bool true)) (pr_bool (by kernel_rfl) (decide_eq_true c16)) ?_)
        refine lwp_nil ?_
        refine cwp_true (by kernel_rfl) ?_
        refine cwp_skip ?_
        refine cwp_seq ?_
        refine cwp_block ?_
        refine cwp_seq ?_
        refine cwp_region ?_
        obtain ⟨c17, H⟩ := guard_pos H
        refine lwp_run 2 (by kernel_rfl) ?_
        have hs18 := (r4.toSl).isSome c17 c16
        refine lwp_op (by kernel_rfl) (owp_pure (elemPtr a1 (x8.toNat * 1)) (pr_indexElem (e := 5) (r4.toSl) (k := .i64) (by kernel_rfl) (by kernel_rfl) (by kernel_rfl) (by kernel_rfl) c17 c16) ?_)
        obtain ⟨cs19, hs20, rp21⟩ := (r4.toSl).seg c17 c16
        obtain rfl := rep_int rp21
        refine lwp_op (by kernel_rfl) (owp_load (by kernel_rfl) (by kernel_rfl) (seg_cell (f := 0) hs20 rfl) ?_)
        obtain ⟨t22, m23, H⟩ := bind_some H
        refine lwp_op (by kernel_rfl) (owp_callF (by kernel_rfl) (shutterref05_Char.calls (I := I) hB m23) ?_)
        rintro v24 h25 ⟨_, rfl, rfl⟩
        cases t22
        · rw [cond_false] at H
          refine lwp_run 1 (by kernel_rfl) ?_
          refine lwp_nil ?_
          refine cwp_true (by kernel_rfl) ?_
          refine cwp_seq ?_
          refine cwp_region ?_
          refine lwp_run 1 (by kernel_rfl) ?_
          refine lwp_nil ?_
          refine cwp_ret ?_
          obtain rfl := Option.some.inj H
          obtain rfl := Option.some.inj HR15
          show Exists _
          exact ⟨.bool false, by kernel_rfl, (), rfl, rfl⟩
        · rw [cond_true] at H
          refine lwp_run 1 (by kernel_rfl) ?_
          refine lwp_nil ?_
          refine cwp_false (by kernel_rfl) ?_
          refine cwp_skip ?_
          refine cwp_region ?_
          refine lwp_run 3 (by kernel_rfl) ?_
          refine lwp_nil ?_
          show Exists _
          exact ⟨k, Nat.lt_succ_self _, (w64 (x8 + 1)), (), H, ⟨by kernel_rfl, by kernel_rfl, trivial⟩, rfl⟩
      · rw [if_neg c16] at H
        refine lwp_op (by kernel_rfl) (owp_pure ((.bool false)) (pr_bool (by kernel_rfl) (decide_eq_false c16)) ?_)
        refine lwp_nil ?_
        refine cwp_false (by kernel_rfl) ?_
        refine cwp_exit ?_
        obtain rfl := Option.some.inj H
        show Exists _
        exact ⟨(), rfl, trivial, rfl⟩
  · rintro ρ' h11 ⟨_, rfl, hf, rfl⟩
    have H := HR15
    try dsimp only at H
    refine cwp_fits _ hf ?_
    refine cwp_seq ?_
    refine cwp_region ?_
    refine lwp_run 1 (by kernel_rfl) ?_
    refine lwp_nil ?_
    refine cwp_ret ?_
    obtain rfl := Option.some.inj H
    show Exists _
    exact ⟨.bool true, by kernel_rfl, (), rfl, rfl⟩

end Go.Proofs.YtociikgdocjfnaaDoor.Sx
