/- Printed walks, part 4: each function's model, and that the code comes to it. -/
import Derived.Test.YtociikgdocjfnaaDoorProg
import Derived.Test.YtociikgdocjfnaaDoorSx9
import Derived.Test.YtociikgdocjfnaaDoorG3
namespace Go.Proofs.YtociikgdocjfnaaDoor.Sx
open Go

/-! shutter/shutterlaw07.OrderPuts -/
def shutterlaw07_OrderPuts.m (K : Nat) (x0 : api_Order) (x1 : Int) : Option Bool :=
  ((shutterlaw07_awake.m K).bind fun t12 => bif t12 then (if (x0.Text.length : Int) > 300 then ((shutterlaw07_awake.m K).bind fun t21 => (some t21)) else ((shutterlaw07_size.m x1).bind fun t28 => ((order_Put.m K x0 t28).bind fun t36 => ((shutterlaw07_size.m x1).bind fun t55 => ((order_Right.m K x0 t55).bind fun t62 => ((shutterlaw07_size.m x1).bind fun t74 => ((shutterref07_Wrong.m K x0 t74).bind fun t81 => (letJ (α := Option Bool) (if t81 = 0 then ((shutterlaw07_size.m x1).bind fun t131 => ((shutterref07_Put.m x0 t131).bind fun t137 => ((shutterref01_Same.m K t36.1 t137).bind fun t154 => (some t154)))) else (if (t36.1.length : Int) = 0 then (some true) else (if t81 = 0 then ((shutterlaw07_size.m x1).bind fun t162 => ((shutterref07_Put.m x0 t162).bind fun t168 => ((shutterref01_Same.m K t36.1 t168).bind fun t185 => (some t185)))) else (some false)))) fun (j129 : Option Bool) => ((api_Code.m t36.2).bind fun t91 => (if t91 = t81 then ((api_Code.m t62).bind fun t106 => (if t106 = t81 then (if t36.2 = GoErr.nil then (bif (true != (t81 == 0)) then (some false) else j129) else (bif (false != (t81 == 0)) then (some false) else j129)) else (some false))) else (some false))))))))))) else ((shutterlaw07_awake.m K).bind fun t192 => (some t192)))

set_option maxRecDepth 100000 in
theorem shutterlaw07_OrderPuts.calls {I : Gh} {h : Heap} {K : Nat} {x0 : api_Order} {a1 : Option Addr} {c2 : Nat} {x1 : Int} (hB : Bd I h) (hG : Glob I h) (r4 : Rd (tInt .u8) I h a1 c2 x0.Text) {r : Bool}
    (H : shutterlaw07_OrderPuts.m K x0 x1 = some r) :
    Ret Tryd.prog 3 #[.agg #[.int .i64 x0.Kind, .slice a1 x0.Text.length c2, .bool x0.Attr.Protected, .bool x0.Attr.Numeric, .int .i64 x0.Attr.Show, .bool x0.Attr.Modified, .int .i64 x0.Addr, .int .u8 x0.Char], .int .u16 x1] h (fun v h' => ∃ (I' : Gh), .bool r = v ∧ Pst No I h I' h') := by
  unfold shutterlaw07_OrderPuts.m at H
  refine ret_of (args := [.agg #[.int .i64 x0.Kind, .slice a1 x0.Text.length c2, .bool x0.Attr.Protected, .bool x0.Attr.Numeric, .int .i64 x0.Attr.Show, .bool x0.Attr.Modified, .int .i64 x0.Addr, .int .u8 x0.Char], .int .u16 x1]) (rs := [.tmp 4]) (N := 69) Tryd.func3 rfl rfl rfl (Nat.le_of_ble_eq_true rfl) ?_
  have pt0 : Pst No I h I h := Pst.refl hB
  refine cwp_seq ?_
  refine cwp_region ?_
  refine lwp_op (by kernel_rfl) (owp_box [.int .i64 x0.Kind, .slice a1 x0.Text.length c2, .bool x0.Attr.Protected, .bool x0.Attr.Numeric, .int .i64 x0.Attr.Show, .bool x0.Attr.Modified, .int .i64 x0.Addr, .int .u8 x0.Char] hB (by kernel_rfl) ?_)
  intro b5 h6 hc7 p8 o9
  have pt10 := pt0.no p8
  have fr11 : No b5 ∨ h.size ≤ b5 := .inr (Nat.le_trans pt0.size hc7)
  refine lwp_run 1 (by kernel_rfl) ?_
  refine lwp_nil ?_
  refine cwp_seq ?_
  refine cwp_seq ?_
  refine cwp_region ?_
  obtain ⟨t12, m13, H⟩ := bind_some H
  refine lwp_op (by kernel_rfl) (owp_callF (by kernel_rfl) (shutterlaw07_awake.calls (I := I) p8.bd m13) ?_)
  rintro v14 h15 ⟨I16, rfl, p17⟩
  have pt18 := pt10.no p17
  cases t12
  · rw [cond_false] at H
    refine lwp_run 7 (by kernel_rfl) ?_
    refine lwp_nil ?_
    refine cwp_true (by kernel_rfl) ?_
    refine cwp_seq ?_
    refine cwp_region ?_
    obtain ⟨t192, m193, H⟩ := bind_some H
    refine lwp_op (by kernel_rfl) (owp_callF (by kernel_rfl) (shutterlaw07_awake.calls (I := I16) p17.bd m193) ?_)
    rintro v194 h195 ⟨I196, rfl, p197⟩
    have pt198 := pt18.no p197
    refine lwp_run 1 (by kernel_rfl) ?_
    refine lwp_nil ?_
    refine cwp_ret ?_
    obtain rfl := Option.some.inj H
    show Exists _
    exact ⟨.bool t192, by kernel_rfl, I196, rfl, pt198⟩
  · rw [cond_true] at H
    refine lwp_run 3 (by kernel_rfl) ?_
    have f19 := o9.post p17 (fun x => x.elim)
    refine lwp_op (by kernel_rfl) (owp_load (by kernel_rfl) (by kernel_rfl) (f19.cell (off := 1) rfl) ?_)
    refine lwp_run 1 (by kernel_rfl) ?_
    by_cases c20 : (x0.Text.length : Int) > 300
    · rw [if_pos c20] at H
      refine lwp_op (by kernel_rfl) (owp_pure ((.bool true)) (pr_bool (by kernel_rfl) (decide_eq_true c20)) ?_)
      refine lwp_run 1 (by kernel_rfl) ?_
      refine lwp_nil ?_
      refine cwp_true (by kernel_rfl) ?_
      refine cwp_seq ?_
      refine cwp_region ?_
      obtain ⟨t21, m22, H⟩ := bind_some H
      refine lwp_op (by kernel_rfl) (owp_callF (by kernel_rfl) (shutterlaw07_awake.calls (I := I16) p17.bd m22) ?_)
      rintro v23 h24 ⟨I25, rfl, p26⟩
      have pt27 := pt18.no p26
      refine lwp_run 1 (by kernel_rfl) ?_
      refine lwp_nil ?_
      refine cwp_ret ?_
      obtain rfl := Option.some.inj H
      show Exists _
      exact ⟨.bool t21, by kernel_rfl, I25, rfl, pt27⟩
    · rw [if_neg c20] at H
      refine lwp_op (by kernel_rfl) (owp_pure ((.bool false)) (pr_bool (by kernel_rfl) (decide_eq_false c20)) ?_)
      refine lwp_run 1 (by kernel_rfl) ?_
      refine lwp_nil ?_
      refine cwp_false (by kernel_rfl) ?_
      refine cwp_skip ?_
      refine cwp_seq ?_
      refine cwp_regionD (Keep No h15) 9 (by kernel_rfl) ?_
      refine awp_loadN 0 rfl (by kernel_rfl) (by kernel_rfl) (by kernel_rfl) (by kernel_rfl) (by kernel_rfl) Keep.refl (f19.seg_ 0 8 (Nat.le_of_ble_eq_true rfl)) (fun _ _ x => x.elim) ?_
      refine awp_run (fuel := 7) [1] Keep.refl (by kernel_rfl) ?_
      obtain ⟨t28, m29, H⟩ := bind_some H
      refine awp_op 2 (by kernel_rfl) rfl (by kernel_rfl) (owp_callF (by kernel_rfl) (shutterlaw07_size.calls (I := I16) p17.bd m29) ?_)
      rintro v30 h31 ⟨_, rfl, rfl⟩
      refine ⟨Keep.refl, ?_⟩
      have f34 := r4.up (p8.up hB (fun _ x => x.elim))
      have f35 := f34.up (p17.up p8.bd (fun _ x => x.elim))
      obtain ⟨t36, m37, H⟩ := bind_some H
      refine awp_op 3 (by kernel_rfl) rfl (by kernel_rfl) (owp_callF (by kernel_rfl) (order_Put.calls (I := I16) (B := I16) p17.bd p17.bd (Rd.mono (I' := Or2 I16 I16) f35 (fun _ x => Or.inr x)) m37) ?_)
      rintro v38 h39 ⟨I40, a42, c43, v47, rfl, p41, r45, fr46, q49⟩
      have pt50 := pt18.no p41
      have fr51 := nw_step (M := No) (n := h.size) (fun _ x => x.elim) fr46 pt18.size
      have d52 := step_blk fr46 f19.lt (fun x => x.elim)
      have hK53 := Keep.post (M := No) Keep.refl (Nat.le_refl _) p41 (fun _ x => x.elim)
      refine ⟨hK53, ?_⟩
      refine awp_run (fuel := 0) [4, 5, 6, 7, 8] hK53 (by kernel_rfl) ?_
      refine awp_nil (by kernel_rfl) ?_ 0
      refine cwp_seq ?_
      refine cwp_regionD (Keep No h39) 5 (by kernel_rfl) ?_
      have f54 := f19.post p41 (fun x => x.elim)
      refine awp_loadN 0 rfl (by kernel_rfl) (by kernel_rfl) (by kernel_rfl) (by kernel_rfl) (by kernel_rfl) Keep.refl (f54.seg_ 0 8 (Nat.le_of_ble_eq_true rfl)) (fun _ _ x => x.elim) ?_
      refine awp_run (fuel := 3) [1] Keep.refl (by kernel_rfl) ?_
      obtain ⟨t55, m56, H⟩ := bind_some H
      refine awp_op 2 (by kernel_rfl) rfl (by kernel_rfl) (owp_callF (by kernel_rfl) (shutterlaw07_size.calls (I := I40) p41.bd m56) ?_)
      rintro v57 h58 ⟨_, rfl, rfl⟩
      refine ⟨Keep.refl, ?_⟩
      have f61 := f35.up (p41.up p17.bd (fun _ x => x.elim))
      obtain ⟨t62, m63, H⟩ := bind_some H
      refine awp_op 3 (by kernel_rfl) rfl (by kernel_rfl) (owp_callF (by kernel_rfl) (order_Right.calls (I := I40) (B := I40) p41.bd p41.bd (Rd.mono (I' := Or2 I40 I40) f61 (fun _ x => Or.inr x)) m63) ?_)
      rintro v64 h65 ⟨I66, v68, rfl, p67, q70⟩
      have pt71 := pt50.no p67
      have hK72 := Keep.post (M := No) Keep.refl (Nat.le_refl _) p67 (fun _ x => x.elim)
      refine ⟨hK72, ?_⟩
      refine awp_run (fuel := 0) [4] hK72 (by kernel_rfl) ?_
      refine awp_nil (by kernel_rfl) ?_ 0
      refine cwp_seq ?_
      refine cwp_regionD (Keep No h65) 5 (by kernel_rfl) ?_
      have f73 := f54.post p67 (fun x => x.elim)
      refine awp_loadN 0 rfl (by kernel_rfl) (by kernel_rfl) (by kernel_rfl) (by kernel_rfl) (by kernel_rfl) Keep.refl (f73.seg_ 0 8 (Nat.le_of_ble_eq_true rfl)) (fun _ _ x => x.elim) ?_
      refine awp_run (fuel := 3) [1] Keep.refl (by kernel_rfl) ?_
      obtain ⟨t74, m75, H⟩ := bind_some H
      refine awp_op 2 (by kernel_rfl) rfl (by kernel_rfl) (owp_callF (by kernel_rfl) (shutterlaw07_size.calls (I := I66) p67.bd m75) ?_)
      rintro v76 h77 ⟨_, rfl, rfl⟩
      refine ⟨Keep.refl, ?_⟩
      have f80 := f61.up (p67.up p41.bd (fun _ x => x.elim))
      obtain ⟨t81, m82, H⟩ := bind_some H
      refine awp_op 3 (by kernel_rfl) rfl (by kernel_rfl) (owp_callF (by kernel_rfl) (shutterref07_Wrong.calls (I := I66) p67.bd f80 m82) ?_)
      rintro v83 h84 ⟨I85, rfl, p86⟩
      have pt87 := pt71.no p86
      have hK88 := Keep.post (M := No) Keep.refl (Nat.le_refl _) p86 (fun _ x => x.elim)
      refine ⟨hK88, ?_⟩
      refine awp_run (fuel := 0) [4] hK88 (by kernel_rfl) ?_
      refine awp_nil (by kernel_rfl) ?_ 0
      obtain ⟨j129, e191, H⟩ := letJ_some H
      refine cwp_join (fun ρ' h122 => ∃ (I123 : Gh), j129 = some r ∧ Fits [(1, .int .u16 x1), (2, .pointer (some ⟨b5, 0, none⟩)), (5, .slice a42 t36.1.length c43), (8, .int .i64 t81)] ρ' ∧ Pst No I h I123 h122 ∧ OwnX (tInt .u8) I123 I123 h122 a42 c43 t36.1 ∧ Rd (tInt .u8) I123 h122 a1 c2 x0.Text ∧ OwnB I123 h122 b5 [.int .i64 x0.Kind, .slice a1 x0.Text.length c2, .bool x0.Attr.Protected, .bool x0.Attr.Numeric, .int .i64 x0.Attr.Show, .bool x0.Attr.Modified, .int .i64 x0.Addr, .int .u8 x0.Char] 26 ∧ Glob I123 h122) ?_ ?_
      · refine cwp_seq ?_
        refine cwp_region ?_
        refine lwp_run 1 (by kernel_rfl) ?_
        have f89 := ErrV.up (p67.up p41.bd (fun _ x => x.elim)) q49
        have f90 := ErrV.up (p86.up p67.bd (fun _ x => x.elim)) f89
        obtain ⟨t91, m92, H⟩ := bind_some H
        have f93 := hG.up (p8.up hB (fun _ x => x.elim))
        have f94 := f93.up (p17.up p8.bd (fun _ x => x.elim))
        have f95 := f94.up (p41.up p17.bd (fun _ x => x.elim))
        have f96 := f95.up (p67.up p41.bd (fun _ x => x.elim))
        have f97 := f96.up (p86.up p67.bd (fun _ x => x.elim))
        refine lwp_op (by kernel_rfl) (owp_callF (by kernel_rfl) (api_Code.calls (I := I85) p86.bd f97 f90 m92) ?_)
        rintro v98 h99 ⟨I100, rfl, p101⟩
        have pt102 := pt87.no p101
        refine lwp_run 1 (by kernel_rfl) ?_
        by_cases c103 : t91 = t81
        · rw [if_pos c103] at H
          refine lwp_op (by kernel_rfl) (owp_pure ((.bool false)) (pr_bool (by kernel_rfl) (neF c103)) ?_)
          refine lwp_run 2 (by kernel_rfl) ?_
          have f104 := ErrV.up (p86.up p67.bd (fun _ x => x.elim)) q70
          have f105 := ErrV.up (p101.up p86.bd (fun _ x => x.elim)) f104
          obtain ⟨t106, m107, H⟩ := bind_some H
          have f108 := f97.up (p101.up p86.bd (fun _ x => x.elim))
          refine lwp_op (by kernel_rfl) (owp_callF (by kernel_rfl) (api_Code.calls (I := I100) p101.bd f108 f105 m107) ?_)
          rintro v109 h110 ⟨I111, rfl, p112⟩
          have pt113 := pt102.no p112
          refine lwp_run 1 (by kernel_rfl) ?_
          by_cases c114 : t106 = t81
          · rw [if_pos c114] at H
            refine lwp_op (by kernel_rfl) (owp_pure ((.bool false)) (pr_bool (by kernel_rfl) (neF c114)) ?_)
            refine lwp_run 3 (by kernel_rfl) ?_
            have f115 := ErrV.up (p101.up p86.bd (fun _ x => x.elim)) f90
            have f116 := ErrV.up (p112.up p101.bd (fun _ x => x.elim)) f115
            rcases f116.cases with ⟨c117, rfl⟩ | ⟨c117, t118, u119, rfl⟩
            · rw [if_pos c117] at H
              refine lwp_run 3 (by kernel_rfl) ?_
              rcases bool_or (true != (t81 == 0)) with c120 | c120
              · replace H := bif_f c120 H
                refine lwp_op (by kernel_rfl) (owp_pure ((.bool false)) (pr_bool (by kernel_rfl) c120) ?_)
                refine lwp_run 1 (by kernel_rfl) ?_
                refine lwp_nil ?_
                refine cwp_false (by kernel_rfl) ?_
                refine cwp_skip ?_
                have f100001 := r45.post p41.bd p67 (fun _ x => x.elim) (fun _ _ x => x.elim)
                have f100002 := f100001.post p67.bd p86 (fun _ x => x.elim) (fun _ _ x => x.elim)
                have f100003 := f100002.post p86.bd p101 (fun _ x => x.elim) (fun _ _ x => x.elim)
                have f100004 := f100003.post p101.bd p112 (fun _ x => x.elim) (fun _ _ x => x.elim)
                have f100005 := f80.up (p86.up p67.bd (fun _ x => x.elim))
                have f100006 := f100005.up (p101.up p86.bd (fun _ x => x.elim))
                have f100007 := f100006.up (p112.up p101.bd (fun _ x => x.elim))
                have f100008 := f73.post p86 (fun x => x.elim)
                have f100009 := f100008.post p101 (fun x => x.elim)
                have f100010 := f100009.post p112 (fun x => x.elim)
                have f100011 := f108.up (p112.up p101.bd (fun _ x => x.elim))
                exact ⟨I111, H, ⟨by kernel_rfl, by kernel_rfl, by kernel_rfl, by kernel_rfl, trivial⟩, pt113, f100004, f100007, f100010, f100011⟩
              · replace H := bif_t c120 H
                refine lwp_op (by kernel_rfl) (owp_pure ((.bool true)) (pr_bool (by kernel_rfl) c120) ?_)
                refine lwp_run 1 (by kernel_rfl) ?_
                refine lwp_nil ?_
                refine cwp_true (by kernel_rfl) ?_
                refine cwp_seq ?_
                refine cwp_region ?_
                refine lwp_run 1 (by kernel_rfl) ?_
                refine lwp_nil ?_
                refine cwp_ret ?_
                obtain rfl := Option.some.inj H
                show Exists _
                exact ⟨.bool false, by kernel_rfl, I111, rfl, pt113⟩
            · rw [if_neg c117] at H
              refine lwp_run 3 (by kernel_rfl) ?_
              rcases bool_or (false != (t81 == 0)) with c121 | c121
              · replace H := bif_f c121 H
                refine lwp_op (by kernel_rfl) (owp_pure ((.bool false)) (pr_bool (by kernel_rfl) c121) ?_)
                refine lwp_run 1 (by kernel_rfl) ?_
                refine lwp_nil ?_
                refine cwp_false (by kernel_rfl) ?_
                refine cwp_skip ?_
                have f100012 := r45.post p41.bd p67 (fun _ x => x.elim) (fun _ _ x => x.elim)
                have f100013 := f100012.post p67.bd p86 (fun _ x => x.elim) (fun _ _ x => x.elim)
                have f100014 := f100013.post p86.bd p101 (fun _ x => x.elim) (fun _ _ x => x.elim)
                have f100015 := f100014.post p101.bd p112 (fun _ x => x.elim) (fun _ _ x => x.elim)
                have f100016 := f80.up (p86.up p67.bd (fun _ x => x.elim))
                have f100017 := f100016.up (p101.up p86.bd (fun _ x => x.elim))
                have f100018 := f100017.up (p112.up p101.bd (fun _ x => x.elim))
                have f100019 := f73.post p86 (fun x => x.elim)
                have f100020 := f100019.post p101 (fun x => x.elim)
                have f100021 := f100020.post p112 (fun x => x.elim)
                have f100022 := f108.up (p112.up p101.bd (fun _ x => x.elim))
                exact ⟨I111, H, ⟨by kernel_rfl, by kernel_rfl, by kernel_rfl, by kernel_rfl, trivial⟩, pt113, f100015, f100018, f100021, f100022⟩
              · replace H := bif_t c121 H
                refine lwp_op (by kernel_rfl) (owp_pure ((.bool true)) (pr_bool (by kernel_rfl) c121) ?_)
                refine lwp_run 1 (by kernel_rfl) ?_
                refine lwp_nil ?_
                refine cwp_true (by kernel_rfl) ?_
                refine cwp_seq ?_
                refine cwp_region ?_
                refine lwp_run 1 (by kernel_rfl) ?_
                refine lwp_nil ?_
                refine cwp_ret ?_
                obtain rfl := Option.some.inj H
                show Exists _
                exact ⟨.bool false, by kernel_rfl, I111, rfl, pt113⟩
          · rw [if_neg c114] at H
            refine lwp_op (by kernel_rfl) (owp_pure ((.bool true)) (pr_bool (by kernel_rfl) (neT c114)) ?_)
            refine lwp_run 8 (by kernel_rfl) ?_
            refine lwp_nil ?_
            refine cwp_true (by kernel_rfl) ?_
            refine cwp_seq ?_
            refine cwp_region ?_
            refine lwp_run 1 (by kernel_rfl) ?_
            refine lwp_nil ?_
            refine cwp_ret ?_
            obtain rfl := Option.some.inj H
            show Exists _
            exact ⟨.bool false, by kernel_rfl, I111, rfl, pt113⟩
        · rw [if_neg c103] at H
          refine lwp_op (by kernel_rfl) (owp_pure ((.bool true)) (pr_bool (by kernel_rfl) (neT c103)) ?_)
          refine lwp_run 13 (by kernel_rfl) ?_
          refine lwp_nil ?_
          refine cwp_true (by kernel_rfl) ?_
          refine cwp_seq ?_
          refine cwp_region ?_
          refine lwp_run 1 (by kernel_rfl) ?_
          refine lwp_nil ?_
          refine cwp_ret ?_
          obtain rfl := Option.some.inj H
          show Exists _
          exact ⟨.bool false, by kernel_rfl, I100, rfl, pt102⟩
      · clear H
        rintro ρ' h122 ⟨I123, H, hf, pt124, r125, r126, o127, g128⟩
        refine cwp_fits _ hf ?_
        subst e191
        try dsimp only at H
        refine cwp_seq ?_
        refine cwp_regionD (Keep No h122) 20 (by kernel_rfl) ?_
        refine awp_run (fuel := 19) [0] Keep.refl (by kernel_rfl) ?_
        by_cases c130 : t81 = 0
        · rw [if_pos c130] at H
          refine awp_pure 1 ((.bool false)) rfl (by kernel_rfl) (by kernel_rfl) (pr_bool (by kernel_rfl) (neF c130)) Keep.refl ?_
          refine awp_run (fuel := 11) [2, 3, 4, 5, 6, 7, 8] Keep.refl (by kernel_rfl) ?_
          refine awp_pure 9 ((.bool true)) rfl (by kernel_rfl) (by kernel_rfl) (pr_bool (by kernel_rfl) (eqT c130)) Keep.refl ?_
          refine awp_run (fuel := 8) [10, 11] Keep.refl (by kernel_rfl) ?_
          refine awp_loadN 12 rfl (by kernel_rfl) (by kernel_rfl) (by kernel_rfl) (by kernel_rfl) (by kernel_rfl) Keep.refl (o127.seg_ 0 8 (Nat.le_of_ble_eq_true rfl)) (fun _ _ x => x.elim) ?_
          refine awp_run (fuel := 6) [13] Keep.refl (by kernel_rfl) ?_
          obtain ⟨t131, m132, H⟩ := bind_some H
          refine awp_op 14 (by kernel_rfl) rfl (by kernel_rfl) (owp_callF (by kernel_rfl) (shutterlaw07_size.calls (I := I123) pt124.bd m132) ?_)
          rintro v133 h134 ⟨_, rfl, rfl⟩
          refine ⟨Keep.refl, ?_⟩
          obtain ⟨t137, m138, H⟩ := bind_some H
          refine awp_op 15 (by kernel_rfl) rfl (by kernel_rfl) (owp_callF (by kernel_rfl) (shutterref07_Put.calls (I := I123) pt124.bd r126 m138) ?_)
          rintro v139 h140 ⟨I141, a143, c144, rfl, p142, r146, fr147⟩
          have pt148 := pt124.no p142
          have fr149 := nw_step (M := No) (n := h.size) (fun _ x => x.elim) fr147 pt124.size
          have d150 := step_blk fr147 o127.lt (fun x => x.elim)
          have d151 := step_sl fr147 r125.lt (fun _ _ x => x.elim)
          have hK152 := Keep.post (M := No) Keep.refl (Nat.le_refl _) p142 (fun _ x => x.elim)
          refine ⟨hK152, ?_⟩
          have f153 := r125.post pt124.bd p142 (fun _ x => x.elim) (fun _ _ x => x.elim)
          obtain ⟨t154, m155, H⟩ := bind_some H
          refine awp_op 16 (by kernel_rfl) rfl (by kernel_rfl) (owp_callF (by kernel_rfl) (shutterref01_Same.calls (I := (Fz (Fz I141 a42) a143)) (bd_fz r146 (bd_fz f153 p142.bd)) (Rd.mono (I' := (Fz (Fz I141 a42) a143)) f153.rd (fun _ x => (Or.inl x))) (Rd.mono (I' := (Fz (Fz I141 a42) a143)) r146.rd (fun _ x => (Or.elim x (fun x => (Or.inl (Or.inl x))) (fun x => (Or.inr x))))) m155) ?_)
          rintro v156 h157 ⟨_, rfl, rfl⟩
          refine ⟨hK152, ?_⟩
          refine awp_run (fuel := 0) [17, 18, 19] hK152 (by kernel_rfl) ?_
          refine awp_nil (by kernel_rfl) ?_ 0
          refine cwp_ret ?_
          obtain rfl := Option.some.inj H
          show Exists _
          exact ⟨.bool t154, by kernel_rfl, I141, rfl, pt148⟩
        · rw [if_neg c130] at H
          refine awp_pure 1 ((.bool true)) rfl (by kernel_rfl) (by kernel_rfl) (pr_bool (by kernel_rfl) (neT c130)) Keep.refl ?_
          refine awp_run (fuel := 15) [2, 3, 4] Keep.refl (by kernel_rfl) ?_
          by_cases c160 : (t36.1.length : Int) = 0
          · rw [if_pos c160] at H
            refine awp_pure 5 ((.bool true)) rfl (by kernel_rfl) (by kernel_rfl) (pr_bool (by kernel_rfl) (eqT c160)) Keep.refl ?_
            refine awp_run (fuel := 0) [6, 7, 8, 9, 10, 11, 12, 13, 14, 15, 16, 17, 18, 19] Keep.refl (by kernel_rfl) ?_
            refine awp_nil (by kernel_rfl) ?_ 0
            refine cwp_ret ?_
            obtain rfl := Option.some.inj H
            show Exists _
            exact ⟨.bool true, by kernel_rfl, I123, rfl, pt124⟩
          · rw [if_neg c160] at H
            refine awp_pure 5 ((.bool false)) rfl (by kernel_rfl) (by kernel_rfl) (pr_bool (by kernel_rfl) (eqF c160)) Keep.refl ?_
            refine awp_run (fuel := 11) [6, 7, 8] Keep.refl (by kernel_rfl) ?_
            by_cases c161 : t81 = 0
            · rw [if_pos c161] at H
              refine awp_pure 9 ((.bool true)) rfl (by kernel_rfl) (by kernel_rfl) (pr_bool (by kernel_rfl) (eqT c161)) Keep.refl ?_
              refine awp_run (fuel := 8) [10, 11] Keep.refl (by kernel_rfl) ?_
              refine awp_loadN 12 rfl (by kernel_rfl) (by kernel_rfl) (by kernel_rfl) (by kernel_rfl) (by kernel_rfl) Keep.refl (o127.seg_ 0 8 (Nat.le_of_ble_eq_true rfl)) (fun _ _ x => x.elim) ?_
              refine awp_run (fuel := 6) [13] Keep.refl (by kernel_rfl) ?_
              obtain ⟨t162, m163, H⟩ := bind_some H
              refine awp_op 14 (by kernel_rfl) rfl (by kernel_rfl) (owp_callF (by kernel_rfl) (shutterlaw07_size.calls (I := I123) pt124.bd m163) ?_)
              rintro v164 h165 ⟨_, rfl, rfl⟩
              refine ⟨Keep.refl, ?_⟩
              obtain ⟨t168, m169, H⟩ := bind_some H
              refine awp_op 15 (by kernel_rfl) rfl (by kernel_rfl) (owp_callF (by kernel_rfl) (shutterref07_Put.calls (I := I123) pt124.bd r126 m169) ?_)
              rintro v170 h171 ⟨I172, a174, c175, rfl, p173, r177, fr178⟩
              have pt179 := pt124.no p173
              have fr180 := nw_step (M := No) (n := h.size) (fun _ x => x.elim) fr178 pt124.size
              have d181 := step_blk fr178 o127.lt (fun x => x.elim)
              have d182 := step_sl fr178 r125.lt (fun _ _ x => x.elim)
              have hK183 := Keep.post (M := No) Keep.refl (Nat.le_refl _) p173 (fun _ x => x.elim)
              refine ⟨hK183, ?_⟩
              have f184 := r125.post pt124.bd p173 (fun _ x => x.elim) (fun _ _ x => x.elim)
              obtain ⟨t185, m186, H⟩ := bind_some H
              refine awp_op 16 (by kernel_rfl) rfl (by kernel_rfl) (owp_callF (by kernel_rfl) (shutterref01_Same.calls (I := (Fz (Fz I172 a42) a174)) (bd_fz r177 (bd_fz f184 p173.bd)) (Rd.mono (I' := (Fz (Fz I172 a42) a174)) f184.rd (fun _ x => (Or.inl x))) (Rd.mono (I' := (Fz (Fz I172 a42) a174)) r177.rd (fun _ x => (Or.elim x (fun x => (Or.inl (Or.inl x))) (fun x => (Or.inr x))))) m186) ?_)
              rintro v187 h188 ⟨_, rfl, rfl⟩
              refine ⟨hK183, ?_⟩
              refine awp_run (fuel := 0) [17, 18, 19] hK183 (by kernel_rfl) ?_
              refine awp_nil (by kernel_rfl) ?_ 0
              refine cwp_ret ?_
              obtain rfl := Option.some.inj H
              show Exists _
              exact ⟨.bool t185, by kernel_rfl, I172, rfl, pt179⟩
            · rw [if_neg c161] at H
              refine awp_pure 9 ((.bool false)) rfl (by kernel_rfl) (by kernel_rfl) (pr_bool (by kernel_rfl) (eqF c161)) Keep.refl ?_
              refine awp_run (fuel := 0) [10, 11, 12, 13, 14, 15, 16, 17, 18, 19] Keep.refl (by kernel_rfl) ?_
              refine awp_nil (by kernel_rfl) ?_ 0
              refine cwp_ret ?_
              obtain rfl := Option.some.inj H
              show Exists _
              exact ⟨.bool false, by kernel_rfl, I123, rfl, pt124⟩

/-! shutter/shutterref05.Get -/
def shutterref05_Get.l1.m (K : Nat) (x0 : Int) : Nat → Int → Option ((api_Attr × Bool) ⊕ (Unit))
  | 0, _ => none
  | k + 1, x11 => (if x11 < 32 then ((shutterref05_Put.m (⟨((Int.tmod x11 2) == 1), ((Int.tmod (w64 (Int.tdiv x11 2)) 2) == 1), (Int.tmod (w64 (Int.tdiv x11 4)) 4), ((w64 (Int.tdiv x11 16)) == 1)⟩ : api_Attr)).bind fun t34 => (if t34 = x0 then (some (Sum.inl ((⟨((Int.tmod x11 2) == 1), ((Int.tmod (w64 (Int.tdiv x11 2)) 2) == 1), (Int.tmod (w64 (Int.tdiv x11 4)) 4), ((w64 (Int.tdiv x11 16)) == 1)⟩ : api_Attr), true))) else (shutterref05_Get.l1.m K x0 k (w64 (x11 + 1))))) else (some (Sum.inr ())))
def shutterref05_Get.m (K : Nat) (x0 : Int) : Option (api_Attr × Bool) :=
  ((shutterref05_Get.l1.m K x0 K 0).bind fun s14 => match s14 with | .inl q => (some q) | .inr _ => (some ((⟨false, false, 0, false⟩ : api_Attr), false)))

set_option maxRecDepth 100000 in
theorem shutterref05_Get.calls {I : Gh} {h : Heap} {K : Nat} {x0 : Int} (hB : Bd I h)  {r : (api_Attr × Bool)}
    (H : shutterref05_Get.m K x0 = some r) :
    Ret Tryd.prog 61 #[.int .u8 x0] h (fun v h' => ∃ (I' : Gh), .tuple #[.agg #[.bool r.1.Protected, .bool r.1.Numeric, .int .i64 r.1.Show, .bool r.1.Modified], .bool r.2] = v ∧ Pst No I h I' h') := by
  unfold shutterref05_Get.m at H
  refine ret_of2 (args := [.int .u8 x0]) (rs := [.cell 2 24, .tmp 3]) (N := 30) Tryd.func61 rfl rfl rfl (Nat.le_of_ble_eq_true rfl) ?_
  have pt0 : Pst No I h I h := Pst.refl hB
  refine cwp_seq ?_
  refine cwp_region ?_
  refine lwp_op (by kernel_rfl) (owp_alloc [.bool false, .bool false, .int .i64 0, .bool false] (.agg #[.bool false, .bool false, .int .i64 0, .bool false]) hB (by kernel_rfl) (by kernel_rfl) ?_)
  intro b1 h2 hc3 p4 o5
  have pt6 := pt0.no p4
  have fr7 : No b1 ∨ h.size ≤ b1 := .inr (Nat.le_trans pt0.size hc3)
  refine lwp_run 1 (by kernel_rfl) ?_
  refine lwp_nil ?_
  refine cwp_seq ?_
  refine cwp_seq ?_
  refine cwp_region ?_
  refine lwp_run 1 (by kernel_rfl) ?_
  refine lwp_nil ?_
  refine cwp_block ?_
  obtain ⟨s14, m19, HR20⟩ := bind_some H
  refine cwp_loopE 0 (fun ρ' h15 => ∃ (I16 : Gh), Sum.inr () = s14 ∧ Fits [(2, .pointer (some ⟨b1, 0, none⟩))] ρ' ∧ Pst No I h I16 h15 ∧ OwnB I16 h15 b1 [.bool false, .bool false, .int .i64 0, .bool false] 24) ?_ ?_
  · refine cwp_loop (fun k' ρ' h8 => ∃ (x11 : Int) (I9 : Gh), shutterref05_Get.l1.m K x0 k' x11 = some s14 ∧ Fits [(0, .int .u8 x0), (2, .pointer (some ⟨b1, 0, none⟩)), (4, .int .i64 x11)] ρ' ∧ Pst No I h I9 h8 ∧ OwnB I9 h8 b1 [.bool false, .bool false, .int .i64 0, .bool false] 24) K ⟨0, I, m19, ⟨by kernel_rfl, by kernel_rfl, by kernel_rfl, trivial⟩, pt6, o5⟩ ?_
    clear m19
    rintro k' ρ' h8 ⟨x11, I9, H, hf, pt10, o12⟩
    cases k' with
    | zero => cases H
    | succ k =>
      rw [shutterref05_Get.l1.m] at H
      refine cwp_fits _ hf ?_
      refine cwp_seq ?_
      refine cwp_seq ?_
      refine cwp_region ?_
      refine lwp_run 1 (by kernel_rfl) ?_
      by_cases c21 : x11 < 32
      · rw [if_pos c21] at H
        refine lwp_op (by kernel_rfl) (owp_pure ((.bool true)) (pr_bool (by kernel_rfl) (decide_eq_true c21)) ?_)
        refine lwp_nil ?_
        refine cwp_true (by kernel_rfl) ?_
        refine cwp_skip ?_
        refine cwp_seq ?_
        refine cwp_block ?_
        refine cwp_seq ?_
        refine cwp_region ?_
        refine lwp_run 14 (by kernel_rfl) ?_
        refine lwp_op (by kernel_rfl) (owp_alloc [.bool false, .bool false, .int .i64 0, .bool false] (.agg #[.bool false, .bool false, .int .i64 0, .bool false]) pt10.bd (by kernel_rfl) (by kernel_rfl) ?_)
        intro b22 h23 hc24 p25 o26
        have pt27 := pt10.no p25
        have fr28 : No b22 ∨ h.size ≤ b22 := .inr (Nat.le_trans pt10.size hc24)
        have d29 := ne_new o12.lt hc24
        refine lwp_op (by kernel_rfl) (owp_storeN 0 [.bool ((Int.tmod x11 2) == 1), .bool ((Int.tmod (w64 (Int.tdiv x11 2)) 2) == 1), .int .i64 (Int.tmod (w64 (Int.tdiv x11 4)) 4), .bool ((w64 (Int.tdiv x11 16)) == 1)] p25.bd o26 (by kernel_rfl) (by kernel_rfl) (by simp [Value.oneCell']) (by kernel_rfl) (Nat.le_of_ble_eq_true rfl) ?_)
        intro h30 p31 o32
        have pt33 := pt27.own p31 (one_nw fr28)
        refine lwp_nil ?_
        refine cwp_seq ?_
        refine cwp_region ?_
        refine lwp_op (by kernel_rfl) (owp_loadN (by kernel_rfl) (by kernel_rfl) (by kernel_rfl) (o32.seg_ 0 4 (Nat.le_of_ble_eq_true rfl)) ?_)
        obtain ⟨t34, m35, H⟩ := bind_some H
        refine lwp_op (by kernel_rfl) (owp_callF (by kernel_rfl) (shutterref05_Put.calls (I := I9) p31.bd m35) ?_)
        rintro v36 h37 ⟨I38, rfl, p39⟩
        have pt40 := pt33.no p39
        refine lwp_run 1 (by kernel_rfl) ?_
        by_cases c41 : t34 = x0
        · rw [if_pos c41] at H
          refine lwp_op (by kernel_rfl) (owp_pure ((.bool true)) (pr_bool (by kernel_rfl) (eqT c41)) ?_)
          refine lwp_nil ?_
          refine cwp_true (by kernel_rfl) ?_
          refine cwp_seq ?_
          refine cwp_region ?_
          have f42 := o32.post p39 (fun x => x.elim)
          refine lwp_op (by kernel_rfl) (owp_loadN (by kernel_rfl) (by kernel_rfl) (by kernel_rfl) (f42.seg_ 0 4 (Nat.le_of_ble_eq_true rfl)) ?_)
          have f43 := o12.post p25 (fun x => x.elim)
          have f44 := f43.post p31 (fun e => d29 e.symm)
          have f45 := f44.post p39 (fun x => x.elim)
          refine lwp_op (by kernel_rfl) (owp_storeN 0 [.bool ((Int.tmod x11 2) == 1), .bool ((Int.tmod (w64 (Int.tdiv x11 2)) 2) == 1), .int .i64 (Int.tmod (w64 (Int.tdiv x11 4)) 4), .bool ((w64 (Int.tdiv x11 16)) == 1)] p39.bd f45 (by kernel_rfl) (by kernel_rfl) (by simp [Value.oneCell']) (by kernel_rfl) (Nat.le_of_ble_eq_true rfl) ?_)
          intro h46 p47 o48
          have pt49 := pt40.own p47 (one_nw fr7)
          refine lwp_run 1 (by kernel_rfl) ?_
          refine lwp_nil ?_
          refine cwp_ret ?_
          obtain rfl := Option.some.inj H
          obtain rfl := Option.some.inj HR20
          show Exists _
          exact ⟨[.agg #[.bool ((Int.tmod x11 2) == 1), .bool ((Int.tmod (w64 (Int.tdiv x11 2)) 2) == 1), .int .i64 (Int.tmod (w64 (Int.tdiv x11 4)) 4), .bool ((w64 (Int.tdiv x11 16)) == 1)], .bool true], (.cons (.agg (by kernel_rfl) (by kernel_rfl) (by kernel_rfl) (o48.seg_ 0 4 (Nat.le_of_ble_eq_true rfl))) (.cons (.tmp (by kernel_rfl)) .nil)), I38, rfl, pt49⟩
        · rw [if_neg c41] at H
          refine lwp_op (by kernel_rfl) (owp_pure ((.bool false)) (pr_bool (by kernel_rfl) (eqF c41)) ?_)
          refine lwp_nil ?_
          refine cwp_false (by kernel_rfl) ?_
          refine cwp_skip ?_
          refine cwp_region ?_
          refine lwp_run 3 (by kernel_rfl) ?_
          refine lwp_nil ?_
          have f100001 := o12.post p25 (fun x => x.elim)
          have f100002 := f100001.post p31 (fun e => d29 e.symm)
          have f100003 := f100002.post p39 (fun x => x.elim)
          show Exists _
          exact ⟨k, Nat.lt_succ_self _, (w64 (x11 + 1)), I38, H, ⟨by kernel_rfl, by kernel_rfl, by kernel_rfl, trivial⟩, pt40, f100003⟩
      · rw [if_neg c21] at H
        refine lwp_op (by kernel_rfl) (owp_pure ((.bool false)) (pr_bool (by kernel_rfl) (decide_eq_false c21)) ?_)
        refine lwp_nil ?_
        refine cwp_false (by kernel_rfl) ?_
        refine cwp_exit ?_
        obtain rfl := Option.some.inj H
        show Exists _
        exact ⟨I9, rfl, ⟨by kernel_rfl, trivial⟩, pt10, o12⟩
  · rintro ρ' h15 ⟨I16, rfl, hf, pt17, o18⟩
    have H := HR20
    try dsimp only at H
    refine cwp_fits _ hf ?_
    refine cwp_seq ?_
    refine cwp_region ?_
    refine lwp_run 1 (by kernel_rfl) ?_
    refine lwp_op (by kernel_rfl) (owp_storeN 0 [.bool false, .bool false, .int .i64 0, .bool false] pt17.bd o18 (by kernel_rfl) (by kernel_rfl) (by simp [Value.oneCell']) (by kernel_rfl) (Nat.le_of_ble_eq_true rfl) ?_)
    intro h50 p51 o52
    have pt53 := pt17.own p51 (one_nw fr7)
    refine lwp_run 1 (by kernel_rfl) ?_
    refine lwp_nil ?_
    refine cwp_ret ?_
    obtain rfl := Option.some.inj H
    show Exists _
    exact ⟨[.agg #[.bool false, .bool false, .int .i64 0, .bool false], .bool false], (.cons (.agg (by kernel_rfl) (by kernel_rfl) (by kernel_rfl) (o52.seg_ 0 4 (Nat.le_of_ble_eq_true rfl))) (.cons (.tmp (by kernel_rfl)) .nil)), I16, rfl, pt53⟩

/-! shutter/shutterref03.Get -/
def shutterref03_Get.l1.m (K : Nat) (x0 : Int) : Nat → Int → Option (Int ⊕ (Unit))
  | 0, _ => none
  | k + 1, x4 => (if x4 < 64 then ((shutterref03_Put.m x4).bind fun t13 => (if t13 = x0 then (some (Sum.inl x4)) else (shutterref03_Get.l1.m K x0 k (w64 (x4 + 1))))) else (some (Sum.inr ())))
def shutterref03_Get.m (K : Nat) (x0 : Int) : Option Int :=
  ((shutterref03_Get.l1.m K x0 K 0).bind fun s6 => match s6 with | .inl q => (some q) | .inr _ => (some (-1)))

set_option maxRecDepth 100000 in
theorem shutterref03_Get.calls {I : Gh} {h : Heap} {K : Nat} {x0 : Int} (hB : Bd I h)  {r : Int}
    (H : shutterref03_Get.m K x0 = some r) :
    Ret Tryd.prog 88 #[.int .u8 x0] h (fun v h' => ∃ _ : Unit, .int .i64 r = v ∧ h = h') := by
  unfold shutterref03_Get.m at H
  refine ret_of (args := [.int .u8 x0]) (rs := [.tmp 2]) (N := 13) Tryd.func88 rfl rfl rfl (Nat.le_of_ble_eq_true rfl) ?_
  refine cwp_seq ?_
  refine cwp_region ?_
  refine lwp_run 1 (by kernel_rfl) ?_
  refine lwp_nil ?_
  refine cwp_seq ?_
  refine cwp_seq ?_
  refine cwp_region ?_
  refine lwp_run 1 (by kernel_rfl) ?_
  refine lwp_nil ?_
  refine cwp_block ?_
  obtain ⟨s6, m10, HR11⟩ := bind_some H
  refine cwp_loopE 0 (fun ρ' h7 => ∃ (_ : Unit), Sum.inr () = s6 ∧ Fits [] ρ' ∧ h = h7) ?_ ?_
  · refine cwp_loop (fun k' ρ' h1 => ∃ (x4 : Int) (_ : Unit), shutterref03_Get.l1.m K x0 k' x4 = some s6 ∧ Fits [(0, .int .u8 x0), (3, .int .i64 x4)] ρ' ∧ h = h1) K ⟨0, (), m10, ⟨by kernel_rfl, by kernel_rfl, trivial⟩, rfl⟩ ?_
    clear m10
    rintro k' ρ' h1 ⟨x4, _, H, hf, rfl⟩
    cases k' with
    | zero => cases H
    | succ k =>
      rw [shutterref03_Get.l1.m] at H
      refine cwp_fits _ hf ?_
      refine cwp_seq ?_
      refine cwp_seq ?_
      refine cwp_region ?_
      refine lwp_run 1 (by kernel_rfl) ?_
      by_cases c12 : x4 < 64
      · rw [if_pos c12] at H
        refine lwp_op (by kernel_rfl) (owp_pure ((.bool true)) (pr_bool (by kernel_rfl) (decide_eq_true c12)) ?_)
        refine lwp_nil ?_
        refine cwp_true (by kernel_rfl) ?_
        refine cwp_skip ?_
        refine cwp_seq ?_
        refine cwp_block ?_
        refine cwp_seq ?_
        refine cwp_region ?_
        refine lwp_run 1 (by kernel_rfl) ?_
        obtain ⟨t13, m14, H⟩ := bind_some H
        refine lwp_op (by kernel_rfl) (owp_callF (by kernel_rfl) (shutterref03_Put.calls (I := I) hB m14) ?_)
        rintro v15 h16 ⟨_, rfl, rfl⟩
        refine lwp_run 1 (by kernel_rfl) ?_
        by_cases c19 : t13 = x0
        · rw [if_pos c19] at H
          refine lwp_op (by kernel_rfl) (owp_pure ((.bool true)) (pr_bool (by kernel_rfl) (eqT c19)) ?_)
          refine lwp_nil ?_
          refine cwp_true (by kernel_rfl) ?_
          refine cwp_seq ?_
          refine cwp_region ?_
          refine lwp_run 2 (by kernel_rfl) ?_
          refine lwp_nil ?_
          refine cwp_ret ?_
          obtain rfl := Option.some.inj H
          obtain rfl := Option.some.inj HR11
          show Exists _
          exact ⟨.int .i64 x4, by kernel_rfl, (), rfl, rfl⟩
        · rw [if_neg c19] at H
          refine lwp_op (by kernel_rfl) (owp_pure ((.bool false)) (pr_bool (by kernel_rfl) (eqF c19)) ?_)
          refine lwp_nil ?_
          refine cwp_false (by kernel_rfl) ?_
          refine cwp_skip ?_
          refine cwp_region ?_
          refine lwp_run 3 (by kernel_rfl) ?_
          refine lwp_nil ?_
          show Exists _
          exact ⟨k, Nat.lt_succ_self _, (w64 (x4 + 1)), (), H, ⟨by kernel_rfl, by kernel_rfl, trivial⟩, rfl⟩
      · rw [if_neg c12] at H
        refine lwp_op (by kernel_rfl) (owp_pure ((.bool false)) (pr_bool (by kernel_rfl) (decide_eq_false c12)) ?_)
        refine lwp_nil ?_
        refine cwp_false (by kernel_rfl) ?_
        refine cwp_exit ?_
        obtain rfl := Option.some.inj H
        show Exists _
        exact ⟨(), rfl, trivial, rfl⟩
  · rintro ρ' h7 ⟨_, rfl, hf, rfl⟩
    have H := HR11
    try dsimp only at H
    refine cwp_fits _ hf ?_
    refine cwp_seq ?_
    refine cwp_region ?_
    refine lwp_run 1 (by kernel_rfl) ?_
    refine lwp_nil ?_
    refine cwp_ret ?_
    obtain rfl := Option.some.inj H
    show Exists _
    exact ⟨.int .i64 (-1), by kernel_rfl, (), rfl, rfl⟩

/-! shutter/shutterref04.Get -/
def shutterref04_Get.m (K : Nat) (x0 : (List Int)) (x1 : Int) : Option (Int × Int × Int) :=
  (if x1 < 1 then (some (0, 1, (-1))) else (if x1 > 16383 then (some (0, 1, (-1))) else (if (x0.length : Int) < 2 then (some (0, 2, (-1))) else (if 0 < (x0.length : Int) then (if 1 < (x0.length : Int) then (letJ (α := Bool → Option (Int × Int × Int)) (fun (x22 : Bool) => (bif x22 then ((shutterref03_Get.m K (at_ x0 0)).bind fun t28 => ((shutterref03_Get.m K (at_ x0 1)).bind fun t38 => (if t28 < 0 then (some (0, 3, 0)) else (if t38 < 0 then (some (0, 3, 1)) else (if (w64 ((w64 (64 * t28)) + t38)) ≥ x1 then (some (0, 4, (-1))) else (some ((w64 ((w64 (64 * t28)) + t38)), 0, (-1)))))))) else (if (at_ x0 0) > 63 then (some (0, 3, 0)) else (if (w64 ((w64 (256 * (w64 ((at_ x0 0))))) + (w64 ((at_ x0 1))))) ≥ x1 then (some (0, 4, (-1))) else (some ((w64 ((w64 (256 * (w64 ((at_ x0 0))))) + (w64 ((at_ x0 1))))), 0, (-1))))))) fun (j23 : Bool → Option (Int × Int × Int)) => (if x1 ≤ 4096 then (j23 true) else (j23 false))) else none) else none))))

set_option maxRecDepth 100000 in
theorem shutterref04_Get.calls {I : Gh} {h : Heap} {K : Nat} {x0 : List Int} {a1 : Option Addr} {c2 : Nat} {x1 : Int} (hB : Bd I h) (r4 : Rd (tInt .u8) I h a1 c2 x0) {r : (Int × Int × Int)}
    (H : shutterref04_Get.m K x0 x1 = some r) :
    Ret Tryd.prog 62 #[.slice a1 x0.length c2, .int .i64 x1] h (fun v h' => ∃ _ : Unit, .tuple #[.int .i64 r.1, .int .i64 r.2.1, .int .i64 r.2.2] = v ∧ h = h') := by
  unfold shutterref04_Get.m at H
  refine ret_of (args := [.slice a1 x0.length c2, .int .i64 x1]) (rs := [.tmp 4, .tmp 5, .tmp 6]) (N := 55) Tryd.func62 rfl rfl rfl (Nat.le_of_ble_eq_true rfl) ?_
  refine cwp_seq ?_
  refine cwp_region ?_
  refine lwp_run 3 (by kernel_rfl) ?_
  refine lwp_nil ?_
  refine cwp_seq ?_
  refine cwp_seq ?_
  refine cwp_region ?_
  refine lwp_run 1 (by kernel_rfl) ?_
  by_cases c5 : x1 < 1
  · rw [if_pos c5] at H
    refine lwp_op (by kernel_rfl) (owp_pure ((.bool true)) (pr_bool (by kernel_rfl) (decide_eq_true c5)) ?_)
    refine lwp_run 4 (by kernel_rfl) ?_
    refine lwp_nil ?_
    refine cwp_true (by kernel_rfl) ?_
    refine cwp_seq ?_
    refine cwp_region ?_
    refine lwp_run 3 (by kernel_rfl) ?_
    refine lwp_nil ?_
    refine cwp_ret ?_
    obtain rfl := Option.some.inj H
    show Exists _
    exact ⟨.tuple #[.int .i64 0, .int .i64 1, .int .i64 (-1)], by kernel_rfl, (), rfl, rfl⟩
  · rw [if_neg c5] at H
    refine lwp_op (by kernel_rfl) (owp_pure ((.bool false)) (pr_bool (by kernel_rfl) (decide_eq_false c5)) ?_)
    refine lwp_run 2 (by kernel_rfl) ?_
    by_cases c6 : x1 > 16383
    · rw [if_pos c6] at H
      refine lwp_op (by kernel_rfl) (owp_pure ((.bool true)) (pr_bool (by kernel_rfl) (decide_eq_true c6)) ?_)
      refine lwp_run 1 (by kernel_rfl) ?_
      refine lwp_nil ?_
      refine cwp_true (by kernel_rfl) ?_
      refine cwp_seq ?_
      refine cwp_region ?_
      refine lwp_run 3 (by kernel_rfl) ?_
      refine lwp_nil ?_
      refine cwp_ret ?_
      obtain rfl := Option.some.inj H
      show Exists _
      exact ⟨.tuple #[.int .i64 0, .int .i64 1, .int .i64 (-1)], by kernel_rfl, (), rfl, rfl⟩
    · rw [if_neg c6] at H
      refine lwp_op (by kernel_rfl) (owp_pure ((.bool false)) (pr_bool (by kernel_rfl) (decide_eq_false c6)) ?_)
      refine lwp_run 1 (by kernel_rfl) ?_
      refine lwp_nil ?_
      refine cwp_false (by kernel_rfl) ?_
      refine cwp_skip ?_
      refine cwp_seq ?_
      refine cwp_seq ?_
      refine cwp_region ?_
      refine lwp_run 2 (by kernel_rfl) ?_
      by_cases c7 : (x0.length : Int) < 2
      · rw [if_pos c7] at H
        refine lwp_op (by kernel_rfl) (owp_pure ((.bool true)) (pr_bool (by kernel_rfl) (decide_eq_true c7)) ?_)
        refine lwp_nil ?_
        refine cwp_true (by kernel_rfl) ?_
        refine cwp_seq ?_
        refine cwp_region ?_
        refine lwp_run 3 (by kernel_rfl) ?_
        refine lwp_nil ?_
        refine cwp_ret ?_
        obtain rfl := Option.some.inj H
        show Exists _
        exact ⟨.tuple #[.int .i64 0, .int .i64 2, .int .i64 (-1)], by kernel_rfl, (), rfl, rfl⟩
      · rw [if_neg c7] at H
        refine lwp_op (by kernel_rfl) (owp_pure ((.bool false)) (pr_bool (by kernel_rfl) (decide_eq_false c7)) ?_)
        refine lwp_nil ?_
        refine cwp_false (by kernel_rfl) ?_
        refine cwp_skip ?_
        refine cwp_seq ?_
        refine cwp_regionD (Keep No h) 11 (by kernel_rfl) ?_
        obtain ⟨c8, H⟩ := guard_pos H
        refine awp_run (fuel := 10) [0] Keep.refl (by kernel_rfl) ?_
        have hs9 := (r4.toSl).isSome (by decide) c8
        refine awp_pure 1 (elemPtr a1 ((0 : Int).toNat * 1)) rfl (by kernel_rfl) (by kernel_rfl) (pr_indexElem (e := 5) (r4.toSl) (k := .i64) (by kernel_rfl) (by kernel_rfl) (by kernel_rfl) (by kernel_rfl) (by decide) c8) Keep.refl ?_
        obtain ⟨cs10, hs11, rp12⟩ := (r4.toSl).seg (by decide) c8
        obtain rfl := rep_int rp12
        refine awp_load 2 rfl (by kernel_rfl) (by kernel_rfl) (by kernel_rfl) (by kernel_rfl) Keep.refl (seg_cell (f := 0) hs11 rfl) (fun _ _ x => x.elim) ?_
        obtain ⟨c13, H⟩ := guard_pos H
        refine awp_run (fuel := 5) [3, 4, 5] Keep.refl (by kernel_rfl) ?_
        have hs14 := (r4.toSl).isSome (by decide) c13
        refine awp_pure 6 (elemPtr a1 ((1 : Int).toNat * 1)) rfl (by kernel_rfl) (by kernel_rfl) (pr_indexElem (e := 5) (r4.toSl) (k := .i64) (by kernel_rfl) (by kernel_rfl) (by kernel_rfl) (by kernel_rfl) (by decide) c13) Keep.refl ?_
        obtain ⟨cs15, hs16, rp17⟩ := (r4.toSl).seg (by decide) c13
        obtain rfl := rep_int rp17
        refine awp_load 7 rfl (by kernel_rfl) (by kernel_rfl) (by kernel_rfl) (by kernel_rfl) Keep.refl (seg_cell (f := 0) hs16 rfl) (fun _ _ x => x.elim) ?_
        refine awp_run (fuel := 0) [8, 9, 10] Keep.refl (by kernel_rfl) ?_
        refine awp_nil (by kernel_rfl) ?_ 0
        refine cwp_seq ?_
        obtain ⟨j23, e53, H⟩ := letJ_some H
        refine cwp_join (fun ρ' h19 => ∃ (x22 : Bool) (_ : Unit), j23 x22 = some r ∧ Fits [(0, .slice a1 x0.length c2), (1, .int .i64 x1), (7, .int .i64 (w64 ((w64 (256 * (w64 ((at_ x0 0))))) + (w64 ((at_ x0 1)))))), (30, .bool x22)] ρ' ∧ h = h19) ?_ ?_
        · refine cwp_region ?_
          refine lwp_run 1 (by kernel_rfl) ?_
          by_cases c18 : x1 ≤ 4096
          · rw [if_pos c18] at H
            refine lwp_op (by kernel_rfl) (owp_pure ((.bool true)) (pr_bool (by kernel_rfl) (decide_eq_true c18)) ?_)
            refine lwp_nil ?_
            exact ⟨true, (), H, ⟨by kernel_rfl, by kernel_rfl, by kernel_rfl, by kernel_rfl, trivial⟩, rfl⟩
          · rw [if_neg c18] at H
            refine lwp_op (by kernel_rfl) (owp_pure ((.bool false)) (pr_bool (by kernel_rfl) (decide_eq_false c18)) ?_)
            refine lwp_nil ?_
            exact ⟨false, (), H, ⟨by kernel_rfl, by kernel_rfl, by kernel_rfl, by kernel_rfl, trivial⟩, rfl⟩
        · clear H
          rintro ρ' h19 ⟨x22, _, H, hf, rfl⟩
          refine cwp_fits _ hf ?_
          subst e53
          try dsimp only at H
          cases x22
          · rw [cond_false] at H
            refine cwp_false (by kernel_rfl) ?_
            refine cwp_seq ?_
            refine cwp_region ?_
            refine lwp_run 1 (by kernel_rfl) ?_
            have hs47 := (r4.toSl).isSome (by decide) c8
            refine lwp_op (by kernel_rfl) (owp_pure (elemPtr a1 ((0 : Int).toNat * 1)) (pr_indexElem (e := 5) (r4.toSl) (k := .i64) (by kernel_rfl) (by kernel_rfl) (by kernel_rfl) (by kernel_rfl) (by decide) c8) ?_)
            obtain ⟨cs48, hs49, rp50⟩ := (r4.toSl).seg (by decide) c8
            obtain rfl := rep_int rp50
            refine lwp_op (by kernel_rfl) (owp_load (by kernel_rfl) (by kernel_rfl) (seg_cell (f := 0) hs49 rfl) ?_)
            by_cases c51 : (at_ x0 0) > 63
            · rw [if_pos c51] at H
              refine lwp_op (by kernel_rfl) (owp_pure ((.bool true)) (pr_bool (by kernel_rfl) (decide_eq_true c51)) ?_)
              refine lwp_nil ?_
              refine cwp_true (by kernel_rfl) ?_
              refine cwp_seq ?_
              refine cwp_region ?_
              refine lwp_run 3 (by kernel_rfl) ?_
              refine lwp_nil ?_
              refine cwp_ret ?_
              obtain rfl := Option.some.inj H
              show Exists _
              exact ⟨.tuple #[.int .i64 0, .int .i64 3, .int .i64 0], by kernel_rfl, (), rfl, rfl⟩
            · rw [if_neg c51] at H
              refine lwp_op (by kernel_rfl) (owp_pure ((.bool false)) (pr_bool (by kernel_rfl) (decide_eq_false c51)) ?_)
              refine lwp_nil ?_
              refine cwp_false (by kernel_rfl) ?_
              refine cwp_skip ?_
              refine cwp_seq ?_
              refine cwp_seq ?_
              refine cwp_region ?_
              refine lwp_run 2 (by kernel_rfl) ?_
              by_cases c52 : (w64 ((w64 (256 * (w64 ((at_ x0 0))))) + (w64 ((at_ x0 1))))) ≥ x1
              · rw [if_pos c52] at H
                refine lwp_op (by kernel_rfl) (owp_pure ((.bool true)) (pr_bool (by kernel_rfl) (decide_eq_true c52)) ?_)
                refine lwp_nil ?_
                refine cwp_true (by kernel_rfl) ?_
                refine cwp_seq ?_
                refine cwp_region ?_
                refine lwp_run 3 (by kernel_rfl) ?_
                refine lwp_nil ?_
                refine cwp_ret ?_
                obtain rfl := Option.some.inj H
                show Exists _
                exact ⟨.tuple #[.int .i64 0, .int .i64 4, .int .i64 (-1)], by kernel_rfl, (), rfl, rfl⟩
              · rw [if_neg c52] at H
                refine lwp_op (by kernel_rfl) (owp_pure ((.bool false)) (pr_bool (by kernel_rfl) (decide_eq_false c52)) ?_)
                refine lwp_nil ?_
                refine cwp_false (by kernel_rfl) ?_
                refine cwp_skip ?_
                refine cwp_seq ?_
                refine cwp_region ?_
                refine lwp_run 4 (by kernel_rfl) ?_
                refine lwp_nil ?_
                refine cwp_ret ?_
                obtain rfl := Option.some.inj H
                show Exists _
                exact ⟨.tuple #[.int .i64 (w64 ((w64 (256 * (w64 ((at_ x0 0))))) + (w64 ((at_ x0 1))))), .int .i64 0, .int .i64 (-1)], by kernel_rfl, (), rfl, rfl⟩
          · rw [cond_true] at H
            refine cwp_true (by kernel_rfl) ?_
            refine cwp_seq ?_
            refine cwp_region ?_
            refine lwp_run 1 (by kernel_rfl) ?_
            have hs24 := (r4.toSl).isSome (by decide) c8
            refine lwp_op (by kernel_rfl) (owp_pure (elemPtr a1 ((0 : Int).toNat * 1)) (pr_indexElem (e := 5) (r4.toSl) (k := .i64) (by kernel_rfl) (by kernel_rfl) (by kernel_rfl) (by kernel_rfl) (by decide) c8) ?_)
            obtain ⟨cs25, hs26, rp27⟩ := (r4.toSl).seg (by decide) c8
            obtain rfl := rep_int rp27
            refine lwp_op (by kernel_rfl) (owp_load (by kernel_rfl) (by kernel_rfl) (seg_cell (f := 0) hs26 rfl) ?_)
            obtain ⟨t28, m29, H⟩ := bind_some H
            refine lwp_op (by kernel_rfl) (owp_callF (by kernel_rfl) (shutterref03_Get.calls (I := I) hB m29) ?_)
            rintro v30 h31 ⟨_, rfl, rfl⟩
            refine lwp_run 1 (by kernel_rfl) ?_
            refine lwp_nil ?_
            refine cwp_seq ?_
            refine cwp_region ?_
            refine lwp_run 1 (by kernel_rfl) ?_
            have hs34 := (r4.toSl).isSome (by decide) c13
            refine lwp_op (by kernel_rfl) (owp_pure (elemPtr a1 ((1 : Int).toNat * 1)) (pr_indexElem (e := 5) (r4.toSl) (k := .i64) (by kernel_rfl) (by kernel_rfl) (by kernel_rfl) (by kernel_rfl) (by decide) c13) ?_)
            obtain ⟨cs35, hs36, rp37⟩ := (r4.toSl).seg (by decide) c13
            obtain rfl := rep_int rp37
            refine lwp_op (by kernel_rfl) (owp_load (by kernel_rfl) (by kernel_rfl) (seg_cell (f := 0) hs36 rfl) ?_)
            obtain ⟨t38, m39, H⟩ := bind_some H
            refine lwp_op (by kernel_rfl) (owp_callF (by kernel_rfl) (shutterref03_Get.calls (I := I) hB m39) ?_)
            rintro v40 h41 ⟨_, rfl, rfl⟩
            refine lwp_run 1 (by kernel_rfl) ?_
            refine lwp_nil ?_
            refine cwp_seq ?_
            refine cwp_seq ?_
            refine cwp_region ?_
            refine lwp_run 1 (by kernel_rfl) ?_
            by_cases c44 : t28 < 0
            · rw [if_pos c44] at H
              refine lwp_op (by kernel_rfl) (owp_pure ((.bool true)) (pr_bool (by kernel_rfl) (decide_eq_true c44)) ?_)
              refine lwp_nil ?_
              refine cwp_true (by kernel_rfl) ?_
              refine cwp_seq ?_
              refine cwp_region ?_
              refine lwp_run 3 (by kernel_rfl) ?_
              refine lwp_nil ?_
              refine cwp_ret ?_
              obtain rfl := Option.some.inj H
              show Exists _
              exact ⟨.tuple #[.int .i64 0, .int .i64 3, .int .i64 0], by kernel_rfl, (), rfl, rfl⟩
            · rw [if_neg c44] at H
              refine lwp_op (by kernel_rfl) (owp_pure ((.bool false)) (pr_bool (by kernel_rfl) (decide_eq_false c44)) ?_)
              refine lwp_nil ?_
              refine cwp_false (by kernel_rfl) ?_
              refine cwp_skip ?_
              refine cwp_seq ?_
              refine cwp_seq ?_
              refine cwp_region ?_
              refine lwp_run 1 (by kernel_rfl) ?_
              by_cases c45 : t38 < 0
              · rw [if_pos c45] at H
                refine lwp_op (by kernel_rfl) (owp_pure ((.bool true)) (pr_bool (by kernel_rfl) (decide_eq_true c45)) ?_)
                refine lwp_nil ?_
                refine cwp_true (by kernel_rfl) ?_
                refine cwp_seq ?_
                refine cwp_region ?_
                refine lwp_run 3 (by kernel_rfl) ?_
                refine lwp_nil ?_
                refine cwp_ret ?_
                obtain rfl := Option.some.inj H
                show Exists _
                exact ⟨.tuple #[.int .i64 0, .int .i64 3, .int .i64 1], by kernel_rfl, (), rfl, rfl⟩
              · rw [if_neg c45] at H
                refine lwp_op (by kernel_rfl) (owp_pure ((.bool false)) (pr_bool (by kernel_rfl) (decide_eq_false c45)) ?_)
                refine lwp_nil ?_
                refine cwp_false (by kernel_rfl) ?_
                refine cwp_skip ?_
                refine cwp_region ?_
                refine lwp_run 5 (by kernel_rfl) ?_
                refine lwp_nil ?_
                refine cwp_seq ?_
                refine cwp_seq ?_
                refine cwp_region ?_
                refine lwp_run 2 (by kernel_rfl) ?_
                by_cases c46 : (w64 ((w64 (64 * t28)) + t38)) ≥ x1
                · rw [if_pos c46] at H
                  refine lwp_op (by kernel_rfl) (owp_pure ((.bool true)) (pr_bool (by kernel_rfl) (decide_eq_true c46)) ?_)
                  refine lwp_nil ?_
                  refine cwp_true (by kernel_rfl) ?_
                  refine cwp_seq ?_
                  refine cwp_region ?_
                  refine lwp_run 3 (by kernel_rfl) ?_
                  refine lwp_nil ?_
                  refine cwp_ret ?_
                  obtain rfl := Option.some.inj H
                  show Exists _
                  exact ⟨.tuple #[.int .i64 0, .int .i64 4, .int .i64 (-1)], by kernel_rfl, (), rfl, rfl⟩
                · rw [if_neg c46] at H
                  refine lwp_op (by kernel_rfl) (owp_pure ((.bool false)) (pr_bool (by kernel_rfl) (decide_eq_false c46)) ?_)
                  refine lwp_nil ?_
                  refine cwp_false (by kernel_rfl) ?_
                  refine cwp_skip ?_
                  refine cwp_seq ?_
                  refine cwp_region ?_
                  refine lwp_run 4 (by kernel_rfl) ?_
                  refine lwp_nil ?_
                  refine cwp_ret ?_
                  obtain rfl := Option.some.inj H
                  show Exists _
                  exact ⟨.tuple #[.int .i64 (w64 ((w64 (64 * t28)) + t38)), .int .i64 0, .int .i64 (-1)], by kernel_rfl, (), rfl, rfl⟩

/-! shutter/shutterref07.Get -/
def shutterref07_Get.l1.m (K : Nat) (x0 : (List Int)) (x1 : Int) : Nat → Int → Option (Int)
  | 0, _ => none
  | k + 1, x21 => (if (w64 (x1 + x21)) < (x0.length : Int) then (if 0 ≤ (w64 (x1 + x21)) then ((shutterref05_Char.m (at_ x0 (w64 (x1 + x21)))).bind fun t39 => bif t39 then (shutterref07_Get.l1.m K x0 x1 k (w64 (x21 + 1))) else (some (x21))) else none) else (some (x21)))
def shutterref07_Get.m (K : Nat) (x0 : (List Int)) (x1 : Int) (x2 : Int) : Option (api_Order × Int × Int × Int) :=
  (if x1 = (x0.length : Int) then (some ((⟨0, [], (⟨false, false, 0, false⟩ : api_Attr), 0, 0⟩ : api_Order), x1, 2, x1)) else (letJ (α := Int → Option (api_Order × Int × Int × Int)) (fun (x39 : Int) => (letJ (α := Bool → Option (api_Order × Int × Int × Int)) (fun (x47 : Bool) => (bif x47 then (if 0 ≤ x1 then (if x1 ≤ (w64 (x1 + x39)) then (if (w64 (x1 + x39)) ≤ (x0.length : Int) then ((app [] (sub x0 x1 (w64 (x1 + x39)))).bind fun l68 => (some ((⟨1, l68, (⟨false, false, 0, false⟩ : api_Attr), 0, 0⟩ : api_Order), (w64 (x1 + x39)), 0, (-1)))) else none) else none) else none) else (if 0 ≤ x1 then (if x1 < (x0.length : Int) then (if (at_ x0 x1) = 19 then (some ((⟨4, [], (⟨false, false, 0, false⟩ : api_Attr), 0, 0⟩ : api_Order), (w64 (x1 + 1)), 0, (-1))) else (if (at_ x0 x1) = 5 then (some ((⟨5, [], (⟨false, false, 0, false⟩ : api_Attr), 0, 0⟩ : api_Order), (w64 (x1 + 1)), 0, (-1))) else (letJ (α := Bool → Option (api_Order × Int × Int × Int)) (fun (x109 : Bool) => (bif x109 then (if (w64 (x1 + 1)) = (x0.length : Int) then (some ((⟨0, [], (⟨false, false, 0, false⟩ : api_Attr), 0, 0⟩ : api_Order), (w64 (x1 + 1)), 2, (w64 (x1 + 1)))) else (letJ (α := Bool → Bool → Int → Bool → Bool → Option (api_Order × Int × Int × Int)) (fun (x161 : Bool) (x162 : Bool) (x163 : Int) (x164 : Bool) (x167 : Bool) => (bif x167 then (some ((⟨2, [], (⟨x161, x162, x163, x164⟩ : api_Attr), 0, 0⟩ : api_Order), (w64 (x1 + 2)), 0, (-1))) else (some ((⟨0, [], (⟨false, false, 0, false⟩ : api_Attr), 0, 0⟩ : api_Order), (w64 (x1 + 1)), 3, (w64 (x1 + 1)))))) fun (j170 : Bool → Bool → Int → Bool → Bool → Option (api_Order × Int × Int × Int)) => (if 0 ≤ (w64 (x1 + 1)) then (if (w64 (x1 + 1)) < (x0.length : Int) then ((shutterref05_Get.m K (at_ x0 (w64 (x1 + 1)))).bind fun t123 => (bif t123.2 then (j170 t123.1.Protected t123.1.Numeric t123.1.Show t123.1.Modified true) else (j170 t123.1.Protected t123.1.Numeric t123.1.Show t123.1.Modified false))) else none) else none))) else (letJ (α := Option (api_Order × Int × Int × Int)) (if 0 ≤ (w64 (x1 + 1)) then (if (w64 (x1 + 1)) ≤ (x0.length : Int) then ((shutterref04_Get.m K (sub x0 (w64 (x1 + 1)) (x0.length : Int)) x2).bind fun t201 => (if t201.2.1 = 0 then (if (at_ x0 x1) = 17 then (some ((⟨3, [], (⟨false, false, 0, false⟩ : api_Attr), t201.1, 0⟩ : api_Order), (w64 (x1 + 3)), 0, (-1))) else (if (at_ x0 x1) = 18 then (some ((⟨7, [], (⟨false, false, 0, false⟩ : api_Attr), t201.1, 0⟩ : api_Order), (w64 (x1 + 3)), 0, (-1))) else (if (w64 (x1 + 3)) = (x0.length : Int) then (some ((⟨0, [], (⟨false, false, 0, false⟩ : api_Attr), 0, 0⟩ : api_Order), (w64 (x1 + 3)), 2, (w64 (x1 + 3)))) else (if 0 ≤ (w64 (x1 + 3)) then (if (w64 (x1 + 3)) < (x0.length : Int) then ((shutterref05_Char.m (at_ x0 (w64 (x1 + 3)))).bind fun t229 => bif t229 then (some ((⟨6, [], (⟨false, false, 0, false⟩ : api_Attr), t201.1, (at_ x0 (w64 (x1 + 3)))⟩ : api_Order), (w64 (x1 + 4)), 0, (-1))) else (some ((⟨0, [], (⟨false, false, 0, false⟩ : api_Attr), 0, 0⟩ : api_Order), (w64 (x1 + 3)), 3, (w64 (x1 + 3))))) else none) else none)))) else (some ((⟨0, [], (⟨false, false, 0, false⟩ : api_Attr), 0, 0⟩ : api_Order), (w64 (x1 + 1)), t201.2.1, (w64 (x1 + 1)))))) else none) else none) fun (j193 : Option (api_Order × Int × Int × Int)) => (if (at_ x0 x1) = 17 then j193 else (if (at_ x0 x1) = 18 then j193 else (if (at_ x0 x1) = 60 then j193 else (some ((⟨0, [], (⟨false, false, 0, false⟩ : api_Attr), 0, 0⟩ : api_Order), x1, 5, x1)))))))) fun (j111 : Bool → Option (api_Order × Int × Int × Int)) => (if (at_ x0 x1) = 29 then (j111 true) else (j111 false))))) else none) else none))) fun (j49 : Bool → Option (api_Order × Int × Int × Int)) => (if x39 > 0 then (j49 true) else (j49 false)))) fun (j41 : Int → Option (api_Order × Int × Int × Int)) => ((shutterref07_Get.l1.m K x0 x1 K 0).bind fun x29 => (j41 x29))))

set_option maxRecDepth 100000 in
theorem shutterref07_Get.calls {I : Gh} {h : Heap} {K : Nat} {x0 : List Int} {a1 : Option Addr} {c2 : Nat} {x1 : Int} {x2 : Int} (hB : Bd I h) (r4 : Rd (tInt .u8) I h a1 c2 x0) {r : (api_Order × Int × Int × Int)}
    (H : shutterref07_Get.m K x0 x1 x2 = some r) :
    Ret Tryd.prog 22 #[.slice a1 x0.length c2, .int .i64 x1, .int .i64 x2] h (fun v h' => ∃ (I' : Gh) (a252 : Option Addr) (c253 : Nat), .tuple #[.agg #[.int .i64 r.1.Kind, .slice a252 r.1.Text.length c253, .bool r.1.Attr.Protected, .bool r.1.Attr.Numeric, .int .i64 r.1.Attr.Show, .bool r.1.Attr.Modified, .int .i64 r.1.Addr, .int .u8 r.1.Char], .int .i64 r.2.1, .int .i64 r.2.2.1, .int .i64 r.2.2.2] = v ∧ Pst No I h I' h' ∧ Own (tInt .u8) I' h' a252 c253 r.1.Text ∧ (∀ b, InA a252 b → No b ∨ h.size ≤ b)) := by
  unfold shutterref07_Get.m at H
  refine ret_of2 (args := [.slice a1 x0.length c2, .int .i64 x1, .int .i64 x2]) (rs := [.cell 6 26, .tmp 7, .tmp 8, .tmp 9]) (N := 175) Tryd.func22 rfl rfl rfl (Nat.le_of_ble_eq_true rfl) ?_
  have pt0 : Pst No I h I h := Pst.refl hB
  refine cwp_seq ?_
  refine cwp_region ?_
  refine lwp_op (by kernel_rfl) (owp_alloc [.int .i64 0, .slice none 0 0, .bool false, .bool false, .int .i64 0, .bool false, .int .i64 0, .int .u8 0] (.agg #[.int .i64 0, .slice none 0 0, .bool false, .bool false, .int .i64 0, .bool false, .int .i64 0, .int .u8 0]) hB (by kernel_rfl) (by kernel_rfl) ?_)
  intro b5 h6 hc7 p8 o9
  have pt10 := pt0.no p8
  have fr11 : No b5 ∨ h.size ≤ b5 := .inr (Nat.le_trans pt0.size hc7)
  refine lwp_run 3 (by kernel_rfl) ?_
  refine lwp_nil ?_
  refine cwp_seq ?_
  refine cwp_seq ?_
  refine cwp_region ?_
  refine lwp_run 3 (by kernel_rfl) ?_
  by_cases c12 : x1 = (x0.length : Int)
  · rw [if_pos c12] at H
    refine lwp_op (by kernel_rfl) (owp_pure ((.bool true)) (pr_bool (by kernel_rfl) (eqT c12)) ?_)
    refine lwp_nil ?_
    refine cwp_true (by kernel_rfl) ?_
    refine cwp_seq ?_
    refine cwp_region ?_
    refine lwp_run 3 (by kernel_rfl) ?_
    refine lwp_op (by kernel_rfl) (owp_storeN 0 [.int .i64 0, .slice none 0 0, .bool false, .bool false, .int .i64 0, .bool false, .int .i64 0, .int .u8 0] p8.bd o9 (by kernel_rfl) (by kernel_rfl) (by simp [Value.oneCell']) (by kernel_rfl) (Nat.le_of_ble_eq_true rfl) ?_)
    intro h13 p14 o15
    have pt16 := pt10.own p14 (one_nw fr11)
    refine lwp_run 3 (by kernel_rfl) ?_
    refine lwp_nil ?_
    refine cwp_ret ?_
    obtain rfl := Option.some.inj H
    show Exists _
    exact ⟨[.agg #[.int .i64 0, .slice none 0 0, .bool false, .bool false, .int .i64 0, .bool false, .int .i64 0, .int .u8 0], .int .i64 x1, .int .i64 2, .int .i64 x1], (.cons (.agg (by kernel_rfl) (by kernel_rfl) (by kernel_rfl) (o15.seg_ 0 8 (Nat.le_of_ble_eq_true rfl))) (.cons (.tmp (by kernel_rfl)) (.cons (.tmp (by kernel_rfl)) (.cons (.tmp (by kernel_rfl)) .nil)))), I, none, 0, rfl, pt16, (own_nil (tInt .u8) I I h13), none_nw⟩
  · rw [if_neg c12] at H
    refine lwp_op (by kernel_rfl) (owp_pure ((.bool false)) (pr_bool (by kernel_rfl) (eqF c12)) ?_)
    refine lwp_nil ?_
    refine cwp_false (by kernel_rfl) ?_
    refine cwp_skip ?_
    refine cwp_seq ?_
    refine cwp_region ?_
    refine lwp_run 1 (by kernel_rfl) ?_
    refine lwp_nil ?_
    obtain ⟨j41, e251, H⟩ := letJ_some H
    refine cwp_join (fun ρ' h35 => ∃ (x39 : Int) (I36 : Gh), j41 x39 = some r ∧ Fits [(0, .slice a1 x0.length c2), (1, .int .i64 x1), (2, .int .i64 x2), (6, .pointer (some ⟨b5, 0, none⟩)), (10, .int .i64 x39)] ρ' ∧ Pst No I h I36 h35 ∧ Rd (tInt .u8) I36 h35 a1 c2 x0 ∧ OwnB I36 h35 b5 [.int .i64 0, .slice none 0 0, .bool false, .bool false, .int .i64 0, .bool false, .int .i64 0, .int .u8 0] 26) ?_ ?_
    · refine cwp_block ?_
      have f45 := r4.up (p8.up hB (fun _ x => x.elim))
      obtain ⟨s24, m31, HR32⟩ := bind_some H
      refine cwp_loopE 0 (fun ρ' h25 => ∃ (x29 : Int) (I26 : Gh), x29 = s24 ∧ Fits [(0, .slice a1 x0.length c2), (1, .int .i64 x1), (2, .int .i64 x2), (6, .pointer (some ⟨b5, 0, none⟩)), (10, .int .i64 x29)] ρ' ∧ Pst No I h I26 h25 ∧ Rd (tInt .u8) I26 h25 a1 c2 x0 ∧ OwnB I26 h25 b5 [.int .i64 0, .slice none 0 0, .bool false, .bool false, .int .i64 0, .bool false, .int .i64 0, .int .u8 0] 26) ?_ ?_
      · refine cwp_loop (fun k' ρ' h17 => ∃ (x21 : Int) (I18 : Gh), shutterref07_Get.l1.m K x0 x1 k' x21 = some s24 ∧ Fits [(0, .slice a1 x0.length c2), (1, .int .i64 x1), (2, .int .i64 x2), (6, .pointer (some ⟨b5, 0, none⟩)), (10, .int .i64 x21)] ρ' ∧ Pst No I h I18 h17 ∧ Rd (tInt .u8) I18 h17 a1 c2 x0 ∧ OwnB I18 h17 b5 [.int .i64 0, .slice none 0 0, .bool false, .bool false, .int .i64 0, .bool false, .int .i64 0, .int .u8 0] 26) K ⟨0, I, m31, ⟨by kernel_rfl, by kernel_rfl, by kernel_rfl, by kernel_rfl, by kernel_rfl, trivial⟩, pt10, f45, o9⟩ ?_
        clear m31
        rintro k' ρ' h17 ⟨x21, I18, H, hf, pt19, r20, o22⟩
        cases k' with
        | zero => cases H
        | succ k =>
          rw [shutterref07_Get.l1.m] at H
          refine cwp_fits _ hf ?_
          refine cwp_seq ?_
          refine cwp_seq ?_
          refine cwp_region ?_
          refine lwp_run 5 (by kernel_rfl) ?_
          by_cases c33 : (w64 (x1 + x21)) < (x0.length : Int)
          · rw [if_pos c33] at H
            refine lwp_op (by kernel_rfl) (owp_pure ((.bool true)) (pr_bool (by kernel_rfl) (decide_eq_true c33)) ?_)
            obtain ⟨c34, H⟩ := guard_pos H
            refine lwp_run 5 (by kernel_rfl) ?_
            have hs35 := (r20.toSl).isSome c34 c33
            refine lwp_op (by kernel_rfl) (owp_pure (elemPtr a1 ((w64 (x1 + x21)).toNat * 1)) (pr_indexElem (e := 5) (r20.toSl) (k := .i64) (by kernel_rfl) (by kernel_rfl) (by kernel_rfl) (by kernel_rfl) c34 c33) ?_)
            obtain ⟨cs36, hs37, rp38⟩ := (r20.toSl).seg c34 c33
            obtain rfl := rep_int rp38
            refine lwp_op (by kernel_rfl) (owp_load (by kernel_rfl) (by kernel_rfl) (seg_cell (f := 0) hs37 rfl) ?_)
            obtain ⟨t39, m40, H⟩ := bind_some H
            refine lwp_op (by kernel_rfl) (owp_callF (by kernel_rfl) (shutterref05_Char.calls (I := I18) pt19.bd m40) ?_)
            rintro v41 h42 ⟨_, rfl, rfl⟩
            cases t39
            · rw [cond_false] at H
              refine lwp_run 1 (by kernel_rfl) ?_
              refine lwp_nil ?_
              refine cwp_false (by kernel_rfl) ?_
              refine cwp_exit ?_
              obtain rfl := Option.some.inj H
              show Exists _
              exact ⟨x21, I18, rfl, ⟨by kernel_rfl, by kernel_rfl, by kernel_rfl, by kernel_rfl, by kernel_rfl, trivial⟩, pt19, r20, o22⟩
            · rw [cond_true] at H
              refine lwp_run 1 (by kernel_rfl) ?_
              refine lwp_nil ?_
              refine cwp_true (by kernel_rfl) ?_
              refine cwp_skip ?_
              refine cwp_block ?_
              refine cwp_region ?_
              refine lwp_run 3 (by kernel_rfl) ?_
              refine lwp_nil ?_
              show Exists _
              exact ⟨k, Nat.lt_succ_self _, (w64 (x21 + 1)), I18, H, ⟨by kernel_rfl, by kernel_rfl, by kernel_rfl, by kernel_rfl, by kernel_rfl, trivial⟩, pt19, r20, o22⟩
          · rw [if_neg c33] at H
            refine lwp_op (by kernel_rfl) (owp_pure ((.bool false)) (pr_bool (by kernel_rfl) (decide_eq_false c33)) ?_)
            refine lwp_run 9 (by kernel_rfl) ?_
            refine lwp_nil ?_
            refine cwp_false (by kernel_rfl) ?_
            refine cwp_exit ?_
            obtain rfl := Option.some.inj H
            show Exists _
            exact ⟨x21, I18, rfl, ⟨by kernel_rfl, by kernel_rfl, by kernel_rfl, by kernel_rfl, by kernel_rfl, trivial⟩, pt19, r20, o22⟩
      · rintro ρ' h25 ⟨x29, I26, rfl, hf, pt27, r28, o30⟩
        have H := HR32
        try dsimp only at H
        exact ⟨x29, I26, H, ⟨fits_get hf (by kernel_rfl), fits_get hf (by kernel_rfl), fits_get hf (by kernel_rfl), fits_get hf (by kernel_rfl), fits_get hf (by kernel_rfl), trivial⟩, pt27, r28, o30⟩
    · clear H
      rintro ρ' h35 ⟨x39, I36, H, hf, pt37, r38, o40⟩
      refine cwp_fits _ hf ?_
      subst e251
      try dsimp only at H
      refine cwp_seq ?_
      obtain ⟨j49, e250, H⟩ := letJ_some H
      refine cwp_join (fun ρ' h43 => ∃ (x47 : Bool) (I44 : Gh), j49 x47 = some r ∧ Fits [(0, .slice a1 x0.length c2), (1, .int .i64 x1), (2, .int .i64 x2), (6, .pointer (some ⟨b5, 0, none⟩)), (10, .int .i64 x39), (42, .bool x47)] ρ' ∧ Pst No I h I44 h43 ∧ Rd (tInt .u8) I44 h43 a1 c2 x0 ∧ OwnB I44 h43 b5 [.int .i64 0, .slice none 0 0, .bool false, .bool false, .int .i64 0, .bool false, .int .i64 0, .int .u8 0] 26) ?_ ?_
      · refine cwp_region ?_
        refine lwp_run 1 (by kernel_rfl) ?_
        by_cases c42 : x39 > 0
        · rw [if_pos c42] at H
          refine lwp_op (by kernel_rfl) (owp_pure ((.bool true)) (pr_bool (by kernel_rfl) (decide_eq_true c42)) ?_)
          refine lwp_nil ?_
          exact ⟨true, I36, H, ⟨by kernel_rfl, by kernel_rfl, by kernel_rfl, by kernel_rfl, by kernel_rfl, by kernel_rfl, trivial⟩, pt37, r38, o40⟩
        · rw [if_neg c42] at H
          refine lwp_op (by kernel_rfl) (owp_pure ((.bool false)) (pr_bool (by kernel_rfl) (decide_eq_false c42)) ?_)
          refine lwp_nil ?_
          exact ⟨false, I36, H, ⟨by kernel_rfl, by kernel_rfl, by kernel_rfl, by kernel_rfl, by kernel_rfl, by kernel_rfl, trivial⟩, pt37, r38, o40⟩
      · clear H
        rintro ρ' h43 ⟨x47, I44, H, hf, pt45, r46, o48⟩
        refine cwp_fits _ hf ?_
        subst e250
        try dsimp only at H
        cases x47
        · rw [cond_false] at H
          refine cwp_false (by kernel_rfl) ?_
          refine cwp_skip ?_
          refine cwp_seq ?_
          refine cwp_region ?_
          obtain ⟨c88, H⟩ := guard_pos H
          obtain ⟨c89, H⟩ := guard_pos H
          refine lwp_run 2 (by kernel_rfl) ?_
          have hs90 := (r46.toSl).isSome c88 c89
          refine lwp_op (by kernel_rfl) (owp_pure (elemPtr a1 (x1.toNat * 1)) (pr_indexElem (e := 5) (r46.toSl) (k := .i64) (by kernel_rfl) (by kernel_rfl) (by kernel_rfl) (by kernel_rfl) c88 c89) ?_)
          obtain ⟨cs91, hs92, rp93⟩ := (r46.toSl).seg c88 c89
          obtain rfl := rep_int rp93
          refine lwp_op (by kernel_rfl) (owp_load (by kernel_rfl) (by kernel_rfl) (seg_cell (f := 0) hs92 rfl) ?_)
          refine lwp_run 1 (by kernel_rfl) ?_
          refine lwp_nil ?_
          refine cwp_seq ?_
          refine cwp_seq ?_
          refine cwp_region ?_
          refine lwp_run 1 (by kernel_rfl) ?_
          by_cases c94 : (at_ x0 x1) = 19
          · rw [if_pos c94] at H
            refine lwp_op (by kernel_rfl) (owp_pure ((.bool true)) (pr_bool (by kernel_rfl) (eqT c94)) ?_)
            refine lwp_nil ?_
            refine cwp_true (by kernel_rfl) ?_
            refine cwp_seq ?_
            refine cwp_region ?_
            refine lwp_run 3 (by kernel_rfl) ?_
            refine lwp_op (by kernel_rfl) (owp_storeN 0 [.int .i64 4, .slice none 0 0, .bool false, .bool false, .int .i64 0, .bool false, .int .i64 0, .int .u8 0] pt45.bd o48 (by kernel_rfl) (by kernel_rfl) (by simp [Value.oneCell']) (by kernel_rfl) (Nat.le_of_ble_eq_true rfl) ?_)
            intro h95 p96 o97
            have pt98 := pt45.own p96 (one_nw fr11)
            refine lwp_run 3 (by kernel_rfl) ?_
            refine lwp_nil ?_
            refine cwp_ret ?_
            obtain rfl := Option.some.inj H
            show Exists _
            exact ⟨[.agg #[.int .i64 4, .slice none 0 0, .bool false, .bool false, .int .i64 0, .bool false, .int .i64 0, .int .u8 0], .int .i64 (w64 (x1 + 1)), .int .i64 0, .int .i64 (-1)], (.cons (.agg (by kernel_rfl) (by kernel_rfl) (by kernel_rfl) (o97.seg_ 0 8 (Nat.le_of_ble_eq_true rfl))) (.cons (.tmp (by kernel_rfl)) (.cons (.tmp (by kernel_rfl)) (.cons (.tmp (by kernel_rfl)) .nil)))), I44, none, 0, rfl, pt98, (own_nil (tInt .u8) I44 I44 h95), none_nw⟩
          · rw [if_neg c94] at H
            refine lwp_op (by kernel_rfl) (owp_pure ((.bool false)) (pr_bool (by kernel_rfl) (eqF c94)) ?_)
            refine lwp_nil ?_
            refine cwp_false (by kernel_rfl) ?_
            refine cwp_skip ?_
            refine cwp_seq ?_
            refine cwp_seq ?_
            refine cwp_region ?_
            refine lwp_run 1 (by kernel_rfl) ?_
            by_cases c99 : (at_ x0 x1) = 5
            · rw [if_pos c99] at H
              refine lwp_op (by kernel_rfl) (owp_pure ((.bool true)) (pr_bool (by kernel_rfl) (eqT c99)) ?_)
              refine lwp_nil ?_
              refine cwp_true (by kernel_rfl) ?_
              refine cwp_seq ?_
              refine cwp_region ?_
              refine lwp_run 3 (by kernel_rfl) ?_
              refine lwp_op (by kernel_rfl) (owp_storeN 0 [.int .i64 5, .slice none 0 0, .bool false, .bool false, .int .i64 0, .bool false, .int .i64 0, .int .u8 0] pt45.bd o48 (by kernel_rfl) (by kernel_rfl) (by simp [Value.oneCell']) (by kernel_rfl) (Nat.le_of_ble_eq_true rfl) ?_)
              intro h100 p101 o102
              have pt103 := pt45.own p101 (one_nw fr11)
              refine lwp_run 3 (by kernel_rfl) ?_
              refine lwp_nil ?_
              refine cwp_ret ?_
              obtain rfl := Option.some.inj H
              show Exists _
              exact ⟨[.agg #[.int .i64 5, .slice none 0 0, .bool false, .bool false, .int .i64 0, .bool false, .int .i64 0, .int .u8 0], .int .i64 (w64 (x1 + 1)), .int .i64 0, .int .i64 (-1)], (.cons (.agg (by kernel_rfl) (by kernel_rfl) (by kernel_rfl) (o102.seg_ 0 8 (Nat.le_of_ble_eq_true rfl))) (.cons (.tmp (by kernel_rfl)) (.cons (.tmp (by kernel_rfl)) (.cons (.tmp (by kernel_rfl)) .nil)))), I44, none, 0, rfl, pt103, (own_nil (tInt .u8) I44 I44 h100), none_nw⟩
            · rw [if_neg c99] at H
              refine lwp_op (by kernel_rfl) (owp_pure ((.bool false)) (pr_bool (by kernel_rfl) (eqF c99)) ?_)
              refine lwp_nil ?_
              refine cwp_false (by kernel_rfl) ?_
              refine cwp_skip ?_
              refine cwp_seq ?_
              obtain ⟨j111, e249, H⟩ := letJ_some H
              refine cwp_join (fun ρ' h105 => ∃ (x109 : Bool) (I106 : Gh), j111 x109 = some r ∧ Fits [(0, .slice a1 x0.length c2), (1, .int .i64 x1), (2, .int .i64 x2), (6, .pointer (some ⟨b5, 0, none⟩)), (11, .int .u8 (at_ x0 x1)), (70, .bool x109)] ρ' ∧ Pst No I h I106 h105 ∧ Rd (tInt .u8) I106 h105 a1 c2 x0 ∧ OwnB I106 h105 b5 [.int .i64 0, .slice none 0 0, .bool false, .bool false, .int .i64 0, .bool false, .int .i64 0, .int .u8 0] 26) ?_ ?_
              · refine cwp_region ?_
                refine lwp_run 1 (by kernel_rfl) ?_
                by_cases c104 : (at_ x0 x1) = 29
                · rw [if_pos c104] at H
                  refine lwp_op (by kernel_rfl) (owp_pure ((.bool true)) (pr_bool (by kernel_rfl) (eqT c104)) ?_)
                  refine lwp_nil ?_
                  exact ⟨true, I44, H, ⟨by kernel_rfl, by kernel_rfl, by kernel_rfl, by kernel_rfl, by kernel_rfl, by kernel_rfl, trivial⟩, pt45, r46, o48⟩
                · rw [if_neg c104] at H
                  refine lwp_op (by kernel_rfl) (owp_pure ((.bool false)) (pr_bool (by kernel_rfl) (eqF c104)) ?_)
                  refine lwp_nil ?_
                  exact ⟨false, I44, H, ⟨by kernel_rfl, by kernel_rfl, by kernel_rfl, by kernel_rfl, by kernel_rfl, by kernel_rfl, trivial⟩, pt45, r46, o48⟩
              · clear H
                rintro ρ' h105 ⟨x109, I106, H, hf, pt107, r108, o110⟩
                refine cwp_fits _ hf ?_
                subst e249
                try dsimp only at H
                cases x109
                · rw [cond_false] at H
                  refine cwp_false (by kernel_rfl) ?_
                  refine cwp_skip ?_
                  obtain ⟨j193, e248, H⟩ := letJ_some H
                  refine cwp_join (fun ρ' h188 => ∃ (I189 : Gh), j193 = some r ∧ Fits [(0, .slice a1 x0.length c2), (1, .int .i64 x1), (2, .int .i64 x2), (6, .pointer (some ⟨b5, 0, none⟩)), (11, .int .u8 (at_ x0 x1))] ρ' ∧ Pst No I h I189 h188 ∧ Rd (tInt .u8) I189 h188 a1 c2 x0 ∧ OwnB I189 h188 b5 [.int .i64 0, .slice none 0 0, .bool false, .bool false, .int .i64 0, .bool false, .int .i64 0, .int .u8 0] 26) ?_ ?_
                  · refine cwp_seq ?_
                    refine cwp_region ?_
                    refine lwp_run 1 (by kernel_rfl) ?_
                    by_cases c181 : (at_ x0 x1) = 17
                    · rw [if_pos c181] at H
                      refine lwp_op (by kernel_rfl) (owp_pure ((.bool false)) (pr_bool (by kernel_rfl) (neF c181)) ?_)
                      refine lwp_run 8 (by kernel_rfl) ?_
                      refine lwp_nil ?_
                      refine cwp_false (by kernel_rfl) ?_
                      refine cwp_skip ?_
                      exact ⟨I106, H, ⟨by kernel_rfl, by kernel_rfl, by kernel_rfl, by kernel_rfl, by kernel_rfl, trivial⟩, pt107, r108, o110⟩
                    · rw [if_neg c181] at H
                      refine lwp_op (by kernel_rfl) (owp_pure ((.bool true)) (pr_bool (by kernel_rfl) (neT c181)) ?_)
                      refine lwp_run 2 (by kernel_rfl) ?_
                      by_cases c182 : (at_ x0 x1) = 18
                      · rw [if_pos c182] at H
                        refine lwp_op (by kernel_rfl) (owp_pure ((.bool false)) (pr_bool (by kernel_rfl) (neF c182)) ?_)
                        refine lwp_run 5 (by kernel_rfl) ?_
                        refine lwp_nil ?_
                        refine cwp_false (by kernel_rfl) ?_
                        refine cwp_skip ?_
                        exact ⟨I106, H, ⟨by kernel_rfl, by kernel_rfl, by kernel_rfl, by kernel_rfl, by kernel_rfl, trivial⟩, pt107, r108, o110⟩
                      · rw [if_neg c182] at H
                        refine lwp_op (by kernel_rfl) (owp_pure ((.bool true)) (pr_bool (by kernel_rfl) (neT c182)) ?_)
                        refine lwp_run 3 (by kernel_rfl) ?_
                        by_cases c183 : (at_ x0 x1) = 60
                        · rw [if_pos c183] at H
                          refine lwp_op (by kernel_rfl) (owp_pure ((.bool false)) (pr_bool (by kernel_rfl) (neF c183)) ?_)
                          refine lwp_run 1 (by kernel_rfl) ?_
                          refine lwp_nil ?_
                          refine cwp_false (by kernel_rfl) ?_
                          refine cwp_skip ?_
                          exact ⟨I106, H, ⟨by kernel_rfl, by kernel_rfl, by kernel_rfl, by kernel_rfl, by kernel_rfl, trivial⟩, pt107, r108, o110⟩
                        · rw [if_neg c183] at H
                          refine lwp_op (by kernel_rfl) (owp_pure ((.bool true)) (pr_bool (by kernel_rfl) (neT c183)) ?_)
                          refine lwp_run 1 (by kernel_rfl) ?_
                          refine lwp_nil ?_
                          refine cwp_true (by kernel_rfl) ?_
                          refine cwp_seq ?_
                          refine cwp_region ?_
                          refine lwp_run 3 (by kernel_rfl) ?_
                          refine lwp_op (by kernel_rfl) (owp_storeN 0 [.int .i64 0, .slice none 0 0, .bool false, .bool false, .int .i64 0, .bool false, .int .i64 0, .int .u8 0] pt107.bd o110 (by kernel_rfl) (by kernel_rfl) (by simp [Value.oneCell']) (by kernel_rfl) (Nat.le_of_ble_eq_true rfl) ?_)
                          intro h184 p185 o186
                          have pt187 := pt107.own p185 (one_nw fr11)
                          refine lwp_run 3 (by kernel_rfl) ?_
                          refine lwp_nil ?_
                          refine cwp_ret ?_
                          obtain rfl := Option.some.inj H
                          show Exists _
                          exact ⟨[.agg #[.int .i64 0, .slice none 0 0, .bool false, .bool false, .int .i64 0, .bool false, .int .i64 0, .int .u8 0], .int .i64 x1, .int .i64 5, .int .i64 x1], (.cons (.agg (by kernel_rfl) (by kernel_rfl) (by kernel_rfl) (o186.seg_ 0 8 (Nat.le_of_ble_eq_true rfl))) (.cons (.tmp (by kernel_rfl)) (.cons (.tmp (by kernel_rfl)) (.cons (.tmp (by kernel_rfl)) .nil)))), I106, none, 0, rfl, pt187, (own_nil (tInt .u8) I106 I106 h184), none_nw⟩
                  · clear H
                    rintro ρ' h188 ⟨I189, H, hf, pt190, r191, o192⟩
                    refine cwp_fits _ hf ?_
                    subst e248
                    try dsimp only at H
                    refine cwp_seq ?_
                    refine cwp_region ?_
                    obtain ⟨c194, H⟩ := guard_pos H
                    obtain ⟨c195, H⟩ := guard_pos H
                    refine lwp_run 3 (by kernel_rfl) ?_
                    obtain ⟨a198, c199, r197, e200⟩ := r191.part (lo := (w64 (x1 + 1))) (hi := (x0.length : Int)) c194 c195 (Int.le_refl _)
                    refine lwp_op (by kernel_rfl) (owp_pure ((.slice a198 ((sub x0 (w64 (x1 + 1)) (x0.length : Int)).length) c199)) (pr_slice_l (e := 5) (r191.toSl) e200 (by kernel_rfl) (k1 := .i64) (by kernel_rfl) (by kernel_rfl) (by kernel_rfl) c194 c195 (Int.le_refl _)) ?_)
                    refine lwp_run 1 (by kernel_rfl) ?_
                    obtain ⟨t201, m202, H⟩ := bind_some H
                    refine lwp_op (by kernel_rfl) (owp_callF (by kernel_rfl) (shutterref04_Get.calls (I := I189) pt190.bd r197 m202) ?_)
                    rintro v203 h204 ⟨_, rfl, rfl⟩
                    refine lwp_run 7 (by kernel_rfl) ?_
                    refine lwp_nil ?_
                    refine cwp_seq ?_
                    refine cwp_seq ?_
                    refine cwp_region ?_
                    refine lwp_run 1 (by kernel_rfl) ?_
                    by_cases c207 : t201.2.1 = 0
                    · rw [if_pos c207] at H
                      refine lwp_op (by kernel_rfl) (owp_pure ((.bool false)) (pr_bool (by kernel_rfl) (neF c207)) ?_)
                      refine lwp_nil ?_
                      refine cwp_false (by kernel_rfl) ?_
                      refine cwp_skip ?_
                      refine cwp_seq ?_
                      refine cwp_seq ?_
                      refine cwp_region ?_
                      refine lwp_run 1 (by kernel_rfl) ?_
                      by_cases c208 : (at_ x0 x1) = 17
                      · rw [if_pos c208] at H
                        refine lwp_op (by kernel_rfl) (owp_pure ((.bool true)) (pr_bool (by kernel_rfl) (eqT c208)) ?_)
                        refine lwp_nil ?_
                        refine cwp_true (by kernel_rfl) ?_
                        refine cwp_seq ?_
                        refine cwp_region ?_
                        refine lwp_run 4 (by kernel_rfl) ?_
                        refine lwp_op (by kernel_rfl) (owp_storeN 0 [.int .i64 3, .slice none 0 0, .bool false, .bool false, .int .i64 0, .bool false, .int .i64 t201.1, .int .u8 0] pt190.bd o192 (by kernel_rfl) (by kernel_rfl) (by simp [Value.oneCell']) (by kernel_rfl) (Nat.le_of_ble_eq_true rfl) ?_)
                        intro h209 p210 o211
                        have pt212 := pt190.own p210 (one_nw fr11)
                        refine lwp_run 3 (by kernel_rfl) ?_
                        refine lwp_nil ?_
                        refine cwp_ret ?_
                        obtain rfl := Option.some.inj H
                        show Exists _
                        exact ⟨[.agg #[.int .i64 3, .slice none 0 0, .bool false, .bool false, .int .i64 0, .bool false, .int .i64 t201.1, .int .u8 0], .int .i64 (w64 (x1 + 3)), .int .i64 0, .int .i64 (-1)], (.cons (.agg (by kernel_rfl) (by kernel_rfl) (by kernel_rfl) (o211.seg_ 0 8 (Nat.le_of_ble_eq_true rfl))) (.cons (.tmp (by kernel_rfl)) (.cons (.tmp (by kernel_rfl)) (.cons (.tmp (by kernel_rfl)) .nil)))), I189, none, 0, rfl, pt212, (own_nil (tInt .u8) I189 I189 h209), none_nw⟩
                      · rw [if_neg c208] at H
                        refine lwp_op (by kernel_rfl) (owp_pure ((.bool false)) (pr_bool (by kernel_rfl) (eqF c208)) ?_)
                        refine lwp_nil ?_
                        refine cwp_false (by kernel_rfl) ?_
                        refine cwp_skip ?_
                        refine cwp_seq ?_
                        refine cwp_seq ?_
                        refine cwp_region ?_
                        refine lwp_run 1 (by kernel_rfl) ?_
                        by_cases c213 : (at_ x0 x1) = 18
                        · rw [if_pos c213] at H
                          refine lwp_op (by kernel_rfl) (owp_pure ((.bool true)) (pr_bool (by kernel_rfl) (eqT c213)) ?_)
                          refine lwp_nil ?_
                          refine cwp_true (by kernel_rfl) ?_
                          refine cwp_seq ?_
                          refine cwp_region ?_
                          refine lwp_run 4 (by kernel_rfl) ?_
                          refine lwp_op (by kernel_rfl) (owp_storeN 0 [.int .i64 7, .slice none 0 0, .bool false, .bool false, .int .i64 0, .bool false, .int .i64 t201.1, .int .u8 0] pt190.bd o192 (by kernel_rfl) (by kernel_rfl) (by simp [Value.oneCell']) (by kernel_rfl) (Nat.le_of_ble_eq_true rfl) ?_)
                          intro h214 p215 o216
                          have pt217 := pt190.own p215 (one_nw fr11)
                          refine lwp_run 3 (by kernel_rfl) ?_
                          refine lwp_nil ?_
                          refine cwp_ret ?_
                          obtain rfl := Option.some.inj H
                          show Exists _
                          exact ⟨[.agg #[.int .i64 7, .slice none 0 0, .bool false, .bool false, .int .i64 0, .bool false, .int .i64 t201.1, .int .u8 0], .int .i64 (w64 (x1 + 3)), .int .i64 0, .int .i64 (-1)], (.cons (.agg (by kernel_rfl) (by kernel_rfl) (by kernel_rfl) (o216.seg_ 0 8 (Nat.le_of_ble_eq_true rfl))) (.cons (.tmp (by kernel_rfl)) (.cons (.tmp (by kernel_rfl)) (.cons (.tmp (by kernel_rfl)) .nil)))), I189, none, 0, rfl, pt217, (own_nil (tInt .u8) I189 I189 h214), none_nw⟩
                        · rw [if_neg c213] at H
                          refine lwp_op (by kernel_rfl) (owp_pure ((.bool false)) (pr_bool (by kernel_rfl) (eqF c213)) ?_)
                          refine lwp_nil ?_
                          refine cwp_false (by kernel_rfl) ?_
                          refine cwp_skip ?_
                          refine cwp_seq ?_
                          refine cwp_seq ?_
                          refine cwp_region ?_
                          refine lwp_run 4 (by kernel_rfl) ?_
                          by_cases c218 : (w64 (x1 + 3)) = (x0.length : Int)
                          · rw [if_pos c218] at H
                            refine lwp_op (by kernel_rfl) (owp_pure ((.bool true)) (pr_bool (by kernel_rfl) (eqT c218)) ?_)
                            refine lwp_nil ?_
                            refine cwp_true (by kernel_rfl) ?_
                            refine cwp_seq ?_
                            refine cwp_region ?_
                            refine lwp_run 5 (by kernel_rfl) ?_
                            refine lwp_op (by kernel_rfl) (owp_storeN 0 [.int .i64 0, .slice none 0 0, .bool false, .bool false, .int .i64 0, .bool false, .int .i64 0, .int .u8 0] pt190.bd o192 (by kernel_rfl) (by kernel_rfl) (by simp [Value.oneCell']) (by kernel_rfl) (Nat.le_of_ble_eq_true rfl) ?_)
                            intro h219 p220 o221
                            have pt222 := pt190.own p220 (one_nw fr11)
                            refine lwp_run 3 (by kernel_rfl) ?_
                            refine lwp_nil ?_
                            refine cwp_ret ?_
                            obtain rfl := Option.some.inj H
                            show Exists _
                            exact ⟨[.agg #[.int .i64 0, .slice none 0 0, .bool false, .bool false, .int .i64 0, .bool false, .int .i64 0, .int .u8 0], .int .i64 (w64 (x1 + 3)), .int .i64 2, .int .i64 (w64 (x1 + 3))], (.cons (.agg (by kernel_rfl) (by kernel_rfl) (by kernel_rfl) (o221.seg_ 0 8 (Nat.le_of_ble_eq_true rfl))) (.cons (.tmp (by kernel_rfl)) (.cons (.tmp (by kernel_rfl)) (.cons (.tmp (by kernel_rfl)) .nil)))), I189, none, 0, rfl, pt222, (own_nil (tInt .u8) I189 I189 h219), none_nw⟩
                          · rw [if_neg c218] at H
                            refine lwp_op (by kernel_rfl) (owp_pure ((.bool false)) (pr_bool (by kernel_rfl) (eqF c218)) ?_)
                            refine lwp_nil ?_
                            refine cwp_false (by kernel_rfl) ?_
                            refine cwp_skip ?_
                            refine cwp_seq ?_
                            refine cwp_seq ?_
                            refine cwp_region ?_
                            obtain ⟨c223, H⟩ := guard_pos H
                            obtain ⟨c224, H⟩ := guard_pos H
                            refine lwp_run 3 (by kernel_rfl) ?_
                            have hs225 := (r191.toSl).isSome c223 c224
                            refine lwp_op (by kernel_rfl) (owp_pure (elemPtr a1 ((w64 (x1 + 3)).toNat * 1)) (pr_indexElem (e := 5) (r191.toSl) (k := .i64) (by kernel_rfl) (by kernel_rfl) (by kernel_rfl) (by kernel_rfl) c223 c224) ?_)
                            obtain ⟨cs226, hs227, rp228⟩ := (r191.toSl).seg c223 c224
                            obtain rfl := rep_int rp228
                            refine lwp_op (by kernel_rfl) (owp_load (by kernel_rfl) (by kernel_rfl) (seg_cell (f := 0) hs227 rfl) ?_)
                            obtain ⟨t229, m230, H⟩ := bind_some H
                            refine lwp_op (by kernel_rfl) (owp_callF (by kernel_rfl) (shutterref05_Char.calls (I := I189) pt190.bd m230) ?_)
                            rintro v231 h232 ⟨_, rfl, rfl⟩
                            cases t229
                            · rw [cond_false] at H
                              refine lwp_run 1 (by kernel_rfl) ?_
                              refine lwp_nil ?_
                              refine cwp_true (by kernel_rfl) ?_
                              refine cwp_seq ?_
                              refine cwp_region ?_
                              refine lwp_run 5 (by kernel_rfl) ?_
                              refine lwp_op (by kernel_rfl) (owp_storeN 0 [.int .i64 0, .slice none 0 0, .bool false, .bool false, .int .i64 0, .bool false, .int .i64 0, .int .u8 0] pt190.bd o192 (by kernel_rfl) (by kernel_rfl) (by simp [Value.oneCell']) (by kernel_rfl) (Nat.le_of_ble_eq_true rfl) ?_)
                              intro h240 p241 o242
                              have pt243 := pt190.own p241 (one_nw fr11)
                              refine lwp_run 3 (by kernel_rfl) ?_
                              refine lwp_nil ?_
                              refine cwp_ret ?_
                              obtain rfl := Option.some.inj H
                              show Exists _
                              exact ⟨[.agg #[.int .i64 0, .slice none 0 0, .bool false, .bool false, .int .i64 0, .bool false, .int .i64 0, .int .u8 0], .int .i64 (w64 (x1 + 3)), .int .i64 3, .int .i64 (w64 (x1 + 3))], (.cons (.agg (by kernel_rfl) (by kernel_rfl) (by kernel_rfl) (o242.seg_ 0 8 (Nat.le_of_ble_eq_true rfl))) (.cons (.tmp (by kernel_rfl)) (.cons (.tmp (by kernel_rfl)) (.cons (.tmp (by kernel_rfl)) .nil)))), I189, none, 0, rfl, pt243, (own_nil (tInt .u8) I189 I189 h240), none_nw⟩
                            · rw [cond_true] at H
                              refine lwp_run 1 (by kernel_rfl) ?_
                              refine lwp_nil ?_
                              refine cwp_false (by kernel_rfl) ?_
                              refine cwp_skip ?_
                              refine cwp_seq ?_
                              refine cwp_region ?_
                              refine lwp_run 4 (by kernel_rfl) ?_
                              have hs235 := (r191.toSl).isSome c223 c224
                              refine lwp_op (by kernel_rfl) (owp_pure (elemPtr a1 ((w64 (x1 + 3)).toNat * 1)) (pr_indexElem (e := 5) (r191.toSl) (k := .i64) (by kernel_rfl) (by kernel_rfl) (by kernel_rfl) (by kernel_rfl) c223 c224) ?_)
                              refine lwp_op (by kernel_rfl) (owp_load (by kernel_rfl) (by kernel_rfl) (seg_cell (f := 0) hs227 rfl) ?_)
                              refine lwp_run 3 (by kernel_rfl) ?_
                              refine lwp_op (by kernel_rfl) (owp_storeN 0 [.int .i64 6, .slice none 0 0, .bool false, .bool false, .int .i64 0, .bool false, .int .i64 t201.1, .int .u8 (at_ x0 (w64 (x1 + 3)))] pt190.bd o192 (by kernel_rfl) (by kernel_rfl) (by simp [Value.oneCell']) (by kernel_rfl) (Nat.le_of_ble_eq_true rfl) ?_)
                              intro h236 p237 o238
                              have pt239 := pt190.own p237 (one_nw fr11)
                              refine lwp_run 3 (by kernel_rfl) ?_
                              refine lwp_nil ?_
                              refine cwp_ret ?_
                              obtain rfl := Option.some.inj H
                              show Exists _
                              exact ⟨[.agg #[.int .i64 6, .slice none 0 0, .bool false, .bool false, .int .i64 0, .bool false, .int .i64 t201.1, .int .u8 (at_ x0 (w64 (x1 + 3)))], .int .i64 (w64 (x1 + 4)), .int .i64 0, .int .i64 (-1)], (.cons (.agg (by kernel_rfl) (by kernel_rfl) (by kernel_rfl) (o238.seg_ 0 8 (Nat.le_of_ble_eq_true rfl))) (.cons (.tmp (by kernel_rfl)) (.cons (.tmp (by kernel_rfl)) (.cons (.tmp (by kernel_rfl)) .nil)))), I189, none, 0, rfl, pt239, (own_nil (tInt .u8) I189 I189 h236), none_nw⟩
                    · rw [if_neg c207] at H
                      refine lwp_op (by kernel_rfl) (owp_pure ((.bool true)) (pr_bool (by kernel_rfl) (neT c207)) ?_)
                      refine lwp_nil ?_
                      refine cwp_true (by kernel_rfl) ?_
                      refine cwp_seq ?_
                      refine cwp_region ?_
                      refine lwp_run 6 (by kernel_rfl) ?_
                      refine lwp_op (by kernel_rfl) (owp_storeN 0 [.int .i64 0, .slice none 0 0, .bool false, .bool false, .int .i64 0, .bool false, .int .i64 0, .int .u8 0] pt190.bd o192 (by kernel_rfl) (by kernel_rfl) (by simp [Value.oneCell']) (by kernel_rfl) (Nat.le_of_ble_eq_true rfl) ?_)
                      intro h244 p245 o246
                      have pt247 := pt190.own p245 (one_nw fr11)
                      refine lwp_run 3 (by kernel_rfl) ?_
                      refine lwp_nil ?_
                      refine cwp_ret ?_
                      obtain rfl := Option.some.inj H
                      show Exists _
                      exact ⟨[.agg #[.int .i64 0, .slice none 0 0, .bool false, .bool false, .int .i64 0, .bool false, .int .i64 0, .int .u8 0], .int .i64 (w64 (x1 + 1)), .int .i64 t201.2.1, .int .i64 (w64 (x1 + 1))], (.cons (.agg (by kernel_rfl) (by kernel_rfl) (by kernel_rfl) (o246.seg_ 0 8 (Nat.le_of_ble_eq_true rfl))) (.cons (.tmp (by kernel_rfl)) (.cons (.tmp (by kernel_rfl)) (.cons (.tmp (by kernel_rfl)) .nil)))), I189, none, 0, rfl, pt247, (own_nil (tInt .u8) I189 I189 h244), none_nw⟩
                · rw [cond_true] at H
                  refine cwp_true (by kernel_rfl) ?_
                  refine cwp_seq ?_
                  refine cwp_seq ?_
                  refine cwp_region ?_
                  refine lwp_run 4 (by kernel_rfl) ?_
                  by_cases c112 : (w64 (x1 + 1)) = (x0.length : Int)
                  · rw [if_pos c112] at H
                    refine lwp_op (by kernel_rfl) (owp_pure ((.bool true)) (pr_bool (by kernel_rfl) (eqT c112)) ?_)
                    refine lwp_nil ?_
                    refine cwp_true (by kernel_rfl) ?_
                    refine cwp_seq ?_
                    refine cwp_region ?_
                    refine lwp_run 5 (by kernel_rfl) ?_
                    refine lwp_op (by kernel_rfl) (owp_storeN 0 [.int .i64 0, .slice none 0 0, .bool false, .bool false, .int .i64 0, .bool false, .int .i64 0, .int .u8 0] pt107.bd o110 (by kernel_rfl) (by kernel_rfl) (by simp [Value.oneCell']) (by kernel_rfl) (Nat.le_of_ble_eq_true rfl) ?_)
                    intro h113 p114 o115
                    have pt116 := pt107.own p114 (one_nw fr11)
                    refine lwp_run 3 (by kernel_rfl) ?_
                    refine lwp_nil ?_
                    refine cwp_ret ?_
                    obtain rfl := Option.some.inj H
                    show Exists _
                    exact ⟨[.agg #[.int .i64 0, .slice none 0 0, .bool false, .bool false, .int .i64 0, .bool false, .int .i64 0, .int .u8 0], .int .i64 (w64 (x1 + 1)), .int .i64 2, .int .i64 (w64 (x1 + 1))], (.cons (.agg (by kernel_rfl) (by kernel_rfl) (by kernel_rfl) (o115.seg_ 0 8 (Nat.le_of_ble_eq_true rfl))) (.cons (.tmp (by kernel_rfl)) (.cons (.tmp (by kernel_rfl)) (.cons (.tmp (by kernel_rfl)) .nil)))), I106, none, 0, rfl, pt116, (own_nil (tInt .u8) I106 I106 h113), none_nw⟩
                  · rw [if_neg c112] at H
                    refine lwp_op (by kernel_rfl) (owp_pure ((.bool false)) (pr_bool (by kernel_rfl) (eqF c112)) ?_)
                    refine lwp_nil ?_
                    refine cwp_false (by kernel_rfl) ?_
                    refine cwp_skip ?_
                    obtain ⟨j170, e180, H⟩ := letJ_some H
                    refine cwp_join (fun ρ' h157 => ∃ (x161 : Bool) (x162 : Bool) (x163 : Int) (x164 : Bool) (x167 : Bool) (b160 : Nat) (I158 : Gh), j170 x161 x162 x163 x164 x167 = some r ∧ Fits [(1, .int .i64 x1), (6, .pointer (some ⟨b5, 0, none⟩)), (12, .pointer (some ⟨b160, 0, none⟩)), (13, .bool x167)] ρ' ∧ Pst No I h I158 h157 ∧ OwnB I158 h157 b160 [.bool x161, .bool x162, .int .i64 x163, .bool x164] 24 ∧ (No b160 ∨ h.size ≤ b160) ∧ OwnB I158 h157 b5 [.int .i64 0, .slice none 0 0, .bool false, .bool false, .int .i64 0, .bool false, .int .i64 0, .int .u8 0] 26 ∧ ¬ b5 = b160) ?_ ?_
                    · refine cwp_region ?_
                      obtain ⟨c117, H⟩ := guard_pos H
                      obtain ⟨c118, H⟩ := guard_pos H
                      refine lwp_run 3 (by kernel_rfl) ?_
                      have hs119 := (r108.toSl).isSome c117 c118
                      refine lwp_op (by kernel_rfl) (owp_pure (elemPtr a1 ((w64 (x1 + 1)).toNat * 1)) (pr_indexElem (e := 5) (r108.toSl) (k := .i64) (by kernel_rfl) (by kernel_rfl) (by kernel_rfl) (by kernel_rfl) c117 c118) ?_)
                      obtain ⟨cs120, hs121, rp122⟩ := (r108.toSl).seg c117 c118
                      obtain rfl := rep_int rp122
                      refine lwp_op (by kernel_rfl) (owp_load (by kernel_rfl) (by kernel_rfl) (seg_cell (f := 0) hs121 rfl) ?_)
                      obtain ⟨t123, m124, H⟩ := bind_some H
                      refine lwp_op (by kernel_rfl) (owp_callF (by kernel_rfl) (shutterref05_Get.calls (I := I106) pt107.bd m124) ?_)
                      rintro v125 h126 ⟨I127, rfl, p128⟩
                      have pt129 := pt107.no p128
                      refine lwp_run 2 (by kernel_rfl) ?_
                      rcases bool_or t123.2 with c130 | c130
                      · replace H := bif_f c130 H
                        refine lwp_op (by kernel_rfl) (owp_pure ((.bool false)) (pr_bool (by kernel_rfl) c130) ?_)
                        refine lwp_op (by kernel_rfl) (owp_alloc [.bool false, .bool false, .int .i64 0, .bool false] (.agg #[.bool false, .bool false, .int .i64 0, .bool false]) p128.bd (by kernel_rfl) (by kernel_rfl) ?_)
                        intro b144 h145 hc146 p147 o148
                        have pt149 := pt129.no p147
                        have fr150 : No b144 ∨ h.size ≤ b144 := .inr (Nat.le_trans pt129.size hc146)
                        have f151 := o110.post p128 (fun x => x.elim)
                        have d152 := ne_new f151.lt hc146
                        refine lwp_op (by kernel_rfl) (owp_storeN 0 [.bool t123.1.Protected, .bool t123.1.Numeric, .int .i64 t123.1.Show, .bool t123.1.Modified] p147.bd o148 (by kernel_rfl) (by kernel_rfl) (by simp [Value.oneCell']) (by kernel_rfl) (Nat.le_of_ble_eq_true rfl) ?_)
                        intro h153 p154 o155
                        have pt156 := pt149.own p154 (one_nw fr150)
                        refine lwp_run 1 (by kernel_rfl) ?_
                        refine lwp_nil ?_
                        have f100010 := o110.post p128 (fun x => x.elim)
                        have f100011 := f100010.post p147 (fun x => x.elim)
                        have f100012 := f100011.post p154 (fun e => d152 e.symm)
                        exact ⟨t123.1.Protected, t123.1.Numeric, t123.1.Show, t123.1.Modified, false, b144, I127, H, ⟨by kernel_rfl, by kernel_rfl, by kernel_rfl, by kernel_rfl, trivial⟩, pt156, o155, fr150, f100012, (fun e => d152 e.symm)⟩
                      · replace H := bif_t c130 H
                        refine lwp_op (by kernel_rfl) (owp_pure ((.bool true)) (pr_bool (by kernel_rfl) c130) ?_)
                        refine lwp_op (by kernel_rfl) (owp_alloc [.bool false, .bool false, .int .i64 0, .bool false] (.agg #[.bool false, .bool false, .int .i64 0, .bool false]) p128.bd (by kernel_rfl) (by kernel_rfl) ?_)
                        intro b131 h132 hc133 p134 o135
                        have pt136 := pt129.no p134
                        have fr137 : No b131 ∨ h.size ≤ b131 := .inr (Nat.le_trans pt129.size hc133)
                        have f138 := o110.post p128 (fun x => x.elim)
                        have d139 := ne_new f138.lt hc133
                        refine lwp_op (by kernel_rfl) (owp_storeN 0 [.bool t123.1.Protected, .bool t123.1.Numeric, .int .i64 t123.1.Show, .bool t123.1.Modified] p134.bd o135 (by kernel_rfl) (by kernel_rfl) (by simp [Value.oneCell']) (by kernel_rfl) (Nat.le_of_ble_eq_true rfl) ?_)
                        intro h140 p141 o142
                        have pt143 := pt136.own p141 (one_nw fr137)
                        refine lwp_run 1 (by kernel_rfl) ?_
                        refine lwp_nil ?_
                        have f100007 := o110.post p128 (fun x => x.elim)
                        have f100008 := f100007.post p134 (fun x => x.elim)
                        have f100009 := f100008.post p141 (fun e => d139 e.symm)
                        exact ⟨t123.1.Protected, t123.1.Numeric, t123.1.Show, t123.1.Modified, true, b131, I127, H, ⟨by kernel_rfl, by kernel_rfl, by kernel_rfl, by kernel_rfl, trivial⟩, pt143, o142, fr137, f100009, (fun e => d139 e.symm)⟩
                    · clear H
                      rintro ρ' h157 ⟨x161, x162, x163, x164, x167, b160, I158, H, hf, pt159, o165, fr166, o168, d169⟩
                      refine cwp_fits _ hf ?_
                      subst e180
                      try dsimp only at H
                      refine cwp_seq ?_
                      refine cwp_seq ?_
                      refine cwp_region ?_
                      rcases bool_or x167 with c171 | c171
                      · replace H := bif_f c171 H
                        refine lwp_op (by kernel_rfl) (owp_pure ((.bool false)) (pr_bool (by kernel_rfl) c171) ?_)
                        refine lwp_run 1 (by kernel_rfl) ?_
                        refine lwp_nil ?_
                        refine cwp_true (by kernel_rfl) ?_
                        refine cwp_seq ?_
                        refine cwp_region ?_
                        refine lwp_run 5 (by kernel_rfl) ?_
                        refine lwp_op (by kernel_rfl) (owp_storeN 0 [.int .i64 0, .slice none 0 0, .bool false, .bool false, .int .i64 0, .bool false, .int .i64 0, .int .u8 0] pt159.bd o168 (by kernel_rfl) (by kernel_rfl) (by simp [Value.oneCell']) (by kernel_rfl) (Nat.le_of_ble_eq_true rfl) ?_)
                        intro h176 p177 o178
                        have pt179 := pt159.own p177 (one_nw fr11)
                        refine lwp_run 3 (by kernel_rfl) ?_
                        refine lwp_nil ?_
                        refine cwp_ret ?_
                        obtain rfl := Option.some.inj H
                        show Exists _
                        exact ⟨[.agg #[.int .i64 0, .slice none 0 0, .bool false, .bool false, .int .i64 0, .bool false, .int .i64 0, .int .u8 0], .int .i64 (w64 (x1 + 1)), .int .i64 3, .int .i64 (w64 (x1 + 1))], (.cons (.agg (by kernel_rfl) (by kernel_rfl) (by kernel_rfl) (o178.seg_ 0 8 (Nat.le_of_ble_eq_true rfl))) (.cons (.tmp (by kernel_rfl)) (.cons (.tmp (by kernel_rfl)) (.cons (.tmp (by kernel_rfl)) .nil)))), I158, none, 0, rfl, pt179, (own_nil (tInt .u8) I158 I158 h176), none_nw⟩
                      · replace H := bif_t c171 H
                        refine lwp_op (by kernel_rfl) (owp_pure ((.bool true)) (pr_bool (by kernel_rfl) c171) ?_)
                        refine lwp_run 1 (by kernel_rfl) ?_
                        refine lwp_nil ?_
                        refine cwp_false (by kernel_rfl) ?_
                        refine cwp_skip ?_
                        refine cwp_seq ?_
                        refine cwp_region ?_
                        refine lwp_op (by kernel_rfl) (owp_loadN (by kernel_rfl) (by kernel_rfl) (by kernel_rfl) (o165.seg_ 0 4 (Nat.le_of_ble_eq_true rfl)) ?_)
                        refine lwp_run 3 (by kernel_rfl) ?_
                        refine lwp_op (by kernel_rfl) (owp_storeN 0 [.int .i64 2, .slice none 0 0, .bool x161, .bool x162, .int .i64 x163, .bool x164, .int .i64 0, .int .u8 0] pt159.bd o168 (by kernel_rfl) (by kernel_rfl) (by simp [Value.oneCell']) (by kernel_rfl) (Nat.le_of_ble_eq_true rfl) ?_)
                        intro h172 p173 o174
                        have pt175 := pt159.own p173 (one_nw fr11)
                        refine lwp_run 3 (by kernel_rfl) ?_
                        refine lwp_nil ?_
                        refine cwp_ret ?_
                        obtain rfl := Option.some.inj H
                        show Exists _
                        exact ⟨[.agg #[.int .i64 2, .slice none 0 0, .bool x161, .bool x162, .int .i64 x163, .bool x164, .int .i64 0, .int .u8 0], .int .i64 (w64 (x1 + 2)), .int .i64 0, .int .i64 (-1)], (.cons (.agg (by kernel_rfl) (by kernel_rfl) (by kernel_rfl) (o174.seg_ 0 8 (Nat.le_of_ble_eq_true rfl))) (.cons (.tmp (by kernel_rfl)) (.cons (.tmp (by kernel_rfl)) (.cons (.tmp (by kernel_rfl)) .nil)))), I158, none, 0, rfl, pt175, (own_nil (tInt .u8) I158 I158 h172), none_nw⟩
        · rw [cond_true] at H
          refine cwp_true (by kernel_rfl) ?_
          refine cwp_seq ?_
          refine cwp_region ?_
          refine lwp_op (by kernel_rfl) (owp_buildSlice (e := 5) [] 1 (.int .u8 0) pt45.bd (by kernel_rfl) (by kernel_rfl) (by kernel_rfl) (by kernel_rfl) (by kernel_rfl) ?_)
          intro b50 h51 hc52 p53 o54
          have pt55 := pt45.no p53
          have w56 := o54.own (l := ([] : List Int)) (Reps.int (I := I44) (k := .u8) (l := []))
          have fw56 := some_nw (M := No) (Nat.le_trans pt45.size hc52)
          have d58 := some_ne (ne_new o48.lt hc52)
          obtain ⟨c59, H⟩ := guard_pos H
          obtain ⟨c60, H⟩ := guard_pos H
          obtain ⟨c61, H⟩ := guard_pos H
          refine lwp_run 5 (by kernel_rfl) ?_
          have f63 := r46.up (p53.up pt45.bd (fun _ x => x.elim))
          obtain ⟨a65, c66, r64, e67⟩ := f63.part (lo := x1) (hi := (w64 (x1 + x39))) c59 c60 c61
          refine lwp_op (by kernel_rfl) (owp_pure ((.slice a65 ((sub x0 x1 (w64 (x1 + x39))).length) c66)) (pr_slice_lh (e := 5) (f63.toSl) e67 (by kernel_rfl) (k1 := .i64) (by kernel_rfl) (k2 := .i64) (by kernel_rfl) (by kernel_rfl) (by kernel_rfl) c59 c60 c61) ?_)
          obtain ⟨l68, m69, H⟩ := bind_some H
          refine lwp_op (by kernel_rfl) (owp_app (e := 5) (bytes := 1) (tInt .u8) (by kernel_rfl) (elemOk_of (by kernel_rfl)) rfl rfl p53.bd p53.bd w56 w56.notI (r64.toSl) m69 (by kernel_rfl) (by kernel_rfl) ?_)
          intro a70 c71 h72 p73 o74 fr75
          have pt76 := pt55.own p73 fw56
          have fr78 := nw_step (M := No) (n := h.size) fw56 fr75 pt55.size
          have f79 := o48.post p53 (fun x => x.elim)
          have d80 := step_blk fr75 f79.lt d58
          refine lwp_run 4 (by kernel_rfl) ?_
          have f81 := o48.post p53 (fun x => x.elim)
          have f82 := f81.post p73 d58
          refine lwp_op (by kernel_rfl) (owp_storeN 0 [.int .i64 1, .slice a70 l68.length c71, .bool false, .bool false, .int .i64 0, .bool false, .int .i64 0, .int .u8 0] p73.bd f82 (by kernel_rfl) (by kernel_rfl) (by simp [Value.oneCell']) (by kernel_rfl) (Nat.le_of_ble_eq_true rfl) ?_)
          intro h83 p84 o85
          have pt86 := pt76.own p84 (one_nw fr11)
          refine lwp_run 3 (by kernel_rfl) ?_
          refine lwp_nil ?_
          refine cwp_ret ?_
          obtain rfl := Option.some.inj H
          have f87 := o74.post p73.bd p84 (one_not f82.no) (dis_one d80)
          show Exists _
          exact ⟨[.agg #[.int .i64 1, .slice a70 l68.length c71, .bool false, .bool false, .int .i64 0, .bool false, .int .i64 0, .int .u8 0], .int .i64 (w64 (x1 + x39)), .int .i64 0, .int .i64 (-1)], (.cons (.agg (by kernel_rfl) (by kernel_rfl) (by kernel_rfl) (o85.seg_ 0 8 (Nat.le_of_ble_eq_true rfl))) (.cons (.tmp (by kernel_rfl)) (.cons (.tmp (by kernel_rfl)) (.cons (.tmp (by kernel_rfl)) .nil)))), I44, a70, c71, rfl, pt86, f87, fr78⟩

/-! shutter/shutterref07.Same -/
def shutterref07_Same.m (K : Nat) (x0 : api_Order) (x1 : api_Order) : Option Bool :=
  (if x0.Kind = x1.Kind then ((shutterref01_Same.m K x0.Text x1.Text).bind fun t30 => bif t30 then (bif ((x0.Attr.Protected == x1.Attr.Protected) && ((x0.Attr.Numeric == x1.Attr.Numeric) && ((x0.Attr.Show == x1.Attr.Show) && ((x0.Attr.Modified == x1.Attr.Modified) && true)))) then (if x0.Addr = x1.Addr then (some (x0.Char == x1.Char)) else (some false)) else (some false)) else (some false)) else (some false))

set_option maxRecDepth 100000 in
theorem shutterref07_Same.calls {I : Gh} {h : Heap} {K : Nat} {x0 : api_Order} {a1 : Option Addr} {c2 : Nat} {x1 : api_Order} {a5 : Option Addr} {c6 : Nat} (hB : Bd I h) (r4 : Rd (tInt .u8) I h a1 c2 x0.Text) (r8 : Rd (tInt .u8) I h a5 c6 x1.Text) {r : Bool}
    (H : shutterref07_Same.m K x0 x1 = some r) :
    Ret Tryd.prog 23 #[.agg #[.int .i64 x0.Kind, .slice a1 x0.Text.length c2, .bool x0.Attr.Protected, .bool x0.Attr.Numeric, .int .i64 x0.Attr.Show, .bool x0.Attr.Modified, .int .i64 x0.Addr, .int .u8 x0.Char], .agg #[.int .i64 x1.Kind, .slice a5 x1.Text.length c6, .bool x1.Attr.Protected, .bool x1.Attr.Numeric, .int .i64 x1.Attr.Show, .bool x1.Attr.Modified, .int .i64 x1.Addr, .int .u8 x1.Char]] h (fun v h' => ∃ (I' : Gh), .bool r = v ∧ Pst No I h I' h') := by
  unfold shutterref07_Same.m at H
  refine ret_of (args := [.agg #[.int .i64 x0.Kind, .slice a1 x0.Text.length c2, .bool x0.Attr.Protected, .bool x0.Attr.Numeric, .int .i64 x0.Attr.Show, .bool x0.Attr.Modified, .int .i64 x0.Addr, .int .u8 x0.Char], .agg #[.int .i64 x1.Kind, .slice a5 x1.Text.length c6, .bool x1.Attr.Protected, .bool x1.Attr.Numeric, .int .i64 x1.Attr.Show, .bool x1.Attr.Modified, .int .i64 x1.Addr, .int .u8 x1.Char]]) (rs := [.tmp 4]) (N := 38) Tryd.func23 rfl rfl rfl (Nat.le_of_ble_eq_true rfl) ?_
  have pt0 : Pst No I h I h := Pst.refl hB
  refine cwp_seq ?_
  refine cwp_region ?_
  refine lwp_op (by kernel_rfl) (owp_box [.int .i64 x0.Kind, .slice a1 x0.Text.length c2, .bool x0.Attr.Protected, .bool x0.Attr.Numeric, .int .i64 x0.Attr.Show, .bool x0.Attr.Modified, .int .i64 x0.Addr, .int .u8 x0.Char] hB (by kernel_rfl) ?_)
  intro b9 h10 hc11 p12 o13
  have pt14 := pt0.no p12
  have fr15 : No b9 ∨ h.size ≤ b9 := .inr (Nat.le_trans pt0.size hc11)
  refine lwp_op (by kernel_rfl) (owp_box [.int .i64 x1.Kind, .slice a5 x1.Text.length c6, .bool x1.Attr.Protected, .bool x1.Attr.Numeric, .int .i64 x1.Attr.Show, .bool x1.Attr.Modified, .int .i64 x1.Addr, .int .u8 x1.Char] p12.bd (by kernel_rfl) ?_)
  intro b16 h17 hc18 p19 o20
  have pt21 := pt14.no p19
  have fr22 : No b16 ∨ h.size ≤ b16 := .inr (Nat.le_trans pt14.size hc18)
  have d23 := ne_new o13.lt hc18
  refine lwp_run 1 (by kernel_rfl) ?_
  refine lwp_nil ?_
  refine cwp_seq ?_
  refine cwp_region ?_
  refine lwp_run 1 (by kernel_rfl) ?_
  have f24 := o13.post p19 (fun x => x.elim)
  refine lwp_op (by kernel_rfl) (owp_load (by kernel_rfl) (by kernel_rfl) (f24.cell (off := 0) rfl) ?_)
  refine lwp_run 1 (by kernel_rfl) ?_
  refine lwp_op (by kernel_rfl) (owp_load (by kernel_rfl) (by kernel_rfl) (o20.cell (off := 0) rfl) ?_)
  by_cases c25 : x0.Kind = x1.Kind
  · rw [if_pos c25] at H
    refine lwp_op (by kernel_rfl) (owp_pure ((.bool true)) (pr_bool (by kernel_rfl) (eqT c25)) ?_)
    refine lwp_run 2 (by kernel_rfl) ?_
    refine lwp_op (by kernel_rfl) (owp_load (by kernel_rfl) (by kernel_rfl) (f24.cell (off := 1) rfl) ?_)
    refine lwp_run 1 (by kernel_rfl) ?_
    refine lwp_op (by kernel_rfl) (owp_load (by kernel_rfl) (by kernel_rfl) (o20.cell (off := 1) rfl) ?_)
    have f26 := r4.up (p12.up hB (fun _ x => x.elim))
    have f27 := f26.up (p19.up p12.bd (fun _ x => x.elim))
    have f28 := r8.up (p12.up hB (fun _ x => x.elim))
    have f29 := f28.up (p19.up p12.bd (fun _ x => x.elim))
    obtain ⟨t30, m31, H⟩ := bind_some H
    refine lwp_op (by kernel_rfl) (owp_callF (by kernel_rfl) (shutterref01_Same.calls (I := I) p19.bd f27 f29 m31) ?_)
    rintro v32 h33 ⟨_, rfl, rfl⟩
    cases t30
    · rw [cond_false] at H
      refine lwp_run 23 (by kernel_rfl) ?_
      refine lwp_nil ?_
      refine cwp_ret ?_
      obtain rfl := Option.some.inj H
      show Exists _
      exact ⟨.bool false, by kernel_rfl, I, rfl, pt21⟩
    · rw [cond_true] at H
      refine lwp_run 3 (by kernel_rfl) ?_
      refine lwp_op (by kernel_rfl) (owp_loadN (by kernel_rfl) (by kernel_rfl) (by kernel_rfl) (f24.seg_ 2 4 (Nat.le_of_ble_eq_true rfl)) ?_)
      refine lwp_run 1 (by kernel_rfl) ?_
      refine lwp_op (by kernel_rfl) (owp_loadN (by kernel_rfl) (by kernel_rfl) (by kernel_rfl) (o20.seg_ 2 4 (Nat.le_of_ble_eq_true rfl)) ?_)
      rcases bool_or ((x0.Attr.Protected == x1.Attr.Protected) && ((x0.Attr.Numeric == x1.Attr.Numeric) && ((x0.Attr.Show == x1.Attr.Show) && ((x0.Attr.Modified == x1.Attr.Modified) && true)))) with c36 | c36
      · replace H := bif_f c36 H
        refine lwp_op (by kernel_rfl) (owp_run (.bool false) (run_bool (run_eqAgg (xs := #[.bool x0.Attr.Protected, .bool x0.Attr.Numeric, .int .i64 x0.Attr.Show, .bool x0.Attr.Modified]) (ys := #[.bool x1.Attr.Protected, .bool x1.Attr.Numeric, .int .i64 x1.Attr.Show, .bool x1.Attr.Modified]) (by kernel_rfl) (by kernel_rfl) (by kernel_rfl) (eqB_run (b := ((x0.Attr.Protected == x1.Attr.Protected) && ((x0.Attr.Numeric == x1.Attr.Numeric) && ((x0.Attr.Show == x1.Attr.Show) && ((x0.Attr.Modified == x1.Attr.Modified) && true))))) (by kernel_rfl))) c36) ?_)
        refine lwp_run 16 (by kernel_rfl) ?_
        refine lwp_nil ?_
        refine cwp_ret ?_
        obtain rfl := Option.some.inj H
        show Exists _
        exact ⟨.bool false, by kernel_rfl, I, rfl, pt21⟩
      · replace H := bif_t c36 H
        refine lwp_op (by kernel_rfl) (owp_run (.bool true) (run_bool (run_eqAgg (xs := #[.bool x0.Attr.Protected, .bool x0.Attr.Numeric, .int .i64 x0.Attr.Show, .bool x0.Attr.Modified]) (ys := #[.bool x1.Attr.Protected, .bool x1.Attr.Numeric, .int .i64 x1.Attr.Show, .bool x1.Attr.Modified]) (by kernel_rfl) (by kernel_rfl) (by kernel_rfl) (eqB_run (b := ((x0.Attr.Protected == x1.Attr.Protected) && ((x0.Attr.Numeric == x1.Attr.Numeric) && ((x0.Attr.Show == x1.Attr.Show) && ((x0.Attr.Modified == x1.Attr.Modified) && true))))) (by kernel_rfl))) c36) ?_)
        refine lwp_run 3 (by kernel_rfl) ?_
        refine lwp_op (by kernel_rfl) (owp_load (by kernel_rfl) (by kernel_rfl) (f24.cell (off := 6) rfl) ?_)
        refine lwp_run 1 (by kernel_rfl) ?_
        refine lwp_op (by kernel_rfl) (owp_load (by kernel_rfl) (by kernel_rfl) (o20.cell (off := 6) rfl) ?_)
        by_cases c37 : x0.Addr = x1.Addr
        · rw [if_pos c37] at H
          refine lwp_op (by kernel_rfl) (owp_pure ((.bool true)) (pr_bool (by kernel_rfl) (eqT c37)) ?_)
          refine lwp_run 3 (by kernel_rfl) ?_
          refine lwp_op (by kernel_rfl) (owp_load (by kernel_rfl) (by kernel_rfl) (f24.cell (off := 7) rfl) ?_)
          refine lwp_run 1 (by kernel_rfl) ?_
          refine lwp_op (by kernel_rfl) (owp_load (by kernel_rfl) (by kernel_rfl) (o20.cell (off := 7) rfl) ?_)
          refine lwp_run 3 (by kernel_rfl) ?_
          refine lwp_nil ?_
          refine cwp_ret ?_
          obtain rfl := Option.some.inj H
          show Exists _
          exact ⟨.bool (x0.Char == x1.Char), by kernel_rfl, I, rfl, pt21⟩
        · rw [if_neg c37] at H
          refine lwp_op (by kernel_rfl) (owp_pure ((.bool false)) (pr_bool (by kernel_rfl) (eqF c37)) ?_)
          refine lwp_run 9 (by kernel_rfl) ?_
          refine lwp_nil ?_
          refine cwp_ret ?_
          obtain rfl := Option.some.inj H
          show Exists _
          exact ⟨.bool false, by kernel_rfl, I, rfl, pt21⟩
  · rw [if_neg c25] at H
    refine lwp_op (by kernel_rfl) (owp_pure ((.bool false)) (pr_bool (by kernel_rfl) (eqF c25)) ?_)
    refine lwp_run 29 (by kernel_rfl) ?_
    refine lwp_nil ?_
    refine cwp_ret ?_
    obtain rfl := Option.some.inj H
    show Exists _
    exact ⟨.bool false, by kernel_rfl, I, rfl, pt21⟩

/-! (*shutter/bytes.Cursor).At -/
def bytes_Cursor_At.m (x0 : bytes_Cursor) : Option (Int × bytes_Cursor) :=
  (some (x0.at', x0))

set_option maxRecDepth 100000 in
theorem bytes_Cursor_At.calls {I : Gh} {h : Heap} {b0 : Nat} {x0 : bytes_Cursor} {a1 : Option Addr} {c2 : Nat} {v5 : Value} (hB : Bd I h) (o8 : OwnB I h b0 [.slice a1 x0.b'.length c2, .int .i64 x0.at', v5] 88) (r4 : Rd (tInt .u8) I h a1 c2 x0.b') (q7 : ErrV I h x0.err' v5) {r : (Int × bytes_Cursor)}
    (H : bytes_Cursor_At.m x0 = some r) :
    Ret Tryd.prog 24 #[.pointer (some ⟨b0, 0, none⟩)] h (fun v h' => ∃ (I' : Gh) (a9 : Option Addr) (c10 : Nat) (v13 : Value), .int .i64 r.1 = v ∧ Pst (One b0) I h I' h' ∧ Rd (tInt .u8) I' h' a9 c10 r.2.b' ∧ ErrV I' h' r.2.err' v13 ∧ OwnB I' h' b0 [.slice a9 r.2.b'.length c10, .int .i64 r.2.at', v13] 88) := by
  unfold bytes_Cursor_At.m at H
  refine ret_of (args := [.pointer (some ⟨b0, 0, none⟩)]) (rs := [.tmp 2]) (N := 7) Tryd.func24 rfl rfl rfl (Nat.le_of_ble_eq_true rfl) ?_
  have pt0 : Pst (One b0) I h I h := Pst.refl hB
  have nw_b0 : (One b0) b0 ∨ h.size ≤ b0 := .inl rfl
  refine cwp_seq ?_
  refine cwp_region ?_
  refine lwp_run 1 (by kernel_rfl) ?_
  refine lwp_nil ?_
  refine cwp_seq ?_
  refine cwp_region ?_
  refine lwp_run 3 (by kernel_rfl) ?_
  refine lwp_op (by kernel_rfl) (owp_load (by kernel_rfl) (by kernel_rfl) (o8.cell (off := 1) rfl) ?_)
  refine lwp_run 1 (by kernel_rfl) ?_
  refine lwp_nil ?_
  refine cwp_ret ?_
  obtain rfl := Option.some.inj H
  show Exists _
  exact ⟨.int .i64 x0.at', by kernel_rfl, I, a1, c2, (v5), rfl, pt0, r4, q7, o8⟩

/-! shutter/api.Where -/
def api_Where.m (x0 : GoErr) : Option Int := some (whereOf x0)
theorem api_Where.calls {I : Gh} {h : Heap} {x0 : GoErr} {v1 : Value} (hB : Bd I h) (hG : Glob I h) (q : ErrV I h x0 v1) {r : Int} (H : api_Where.m x0 = some r) :
    Ret Tryd.prog 26 #[v1] h (fun v h' => ∃ (I' : Gh), .int .i64 r = v ∧ Pst No I h I' h') := by
  obtain rfl := Option.some.inj H
  exact Where_calls hB hG q

end Go.Proofs.YtociikgdocjfnaaDoor.Sx
