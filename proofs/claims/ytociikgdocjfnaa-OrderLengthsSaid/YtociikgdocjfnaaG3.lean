/- Printed walks, part 3: each function's model, and that the code comes to it. -/
import Derived.Test.YtociikgdocjfnaaProg
import Derived.Test.YtociikgdocjfnaaSxH
import Derived.Test.YtociikgdocjfnaaG2
namespace Go.Proofs.Ytociikgdocjfnaa.Sx
open Go

/-! shutter/shutterlaw07.OrderBack -/
def shutterlaw07_OrderBack.m (K : Nat) (x0 : api_Order) (x1 : api_Order) (x2 : Int) (x3 : (List Int)) : Option Bool :=
  ((shutterlaw07_awake.m K).bind fun t28 => bif t28 then (if (x0.Text.length : Int) > 300 then ((shutterlaw07_awake.m K).bind fun t38 => (some t38)) else (if (x1.Text.length : Int) > 300 then ((shutterlaw07_awake.m K).bind fun t47 => (some t47)) else (if (x3.length : Int) > 100 then ((shutterlaw07_awake.m K).bind fun t55 => (some t55)) else ((shutterlaw07_size.m x2).bind fun t62 => ((order_Put.m K x0 t62).bind fun t71 => ((shutterlaw07_size.m x2).bind fun t91 => ((order_Put.m K x1 t91).bind fun t101 => (if t71.2 = GoErr.nil then (if t101.2 = GoErr.nil then ((shutterref01_Same.m K t71.1 t101.1).bind fun t133 => ((order_Same.m K x0 x1).bind fun t142 => (bif (t133 != t142) then (some false) else ((order_Same.m K x0 x1).bind fun t153 => ((shutterref07_Same.m K x0 x1).bind fun t163 => (bif (t153 != t163) then (some false) else ((app [19] x3).bind fun l208 => ((app [] t71.1).bind fun l284 => ((app l284 l208).bind fun l324 => ((bytes_New.m l324).bind fun t365 => ((shutterlaw07_size.m x2).bind fun t419 => ((order_Get.m K t365 t419).bind fun t425 => ((bytes_Cursor_Err.m t425.2).bind fun t530 => (if t530.1 = GoErr.nil then ((order_Same.m K t425.1 x0).bind fun t581 => bif t581 then ((bytes_Cursor_Left.m t530.2).bind fun t592 => (some (t592.1 == (l208.length : Int)))) else (some false)) else (some false))))))))))))))) else (some true)) else (some true))))))))) else ((shutterlaw07_awake.m K).bind fun t607 => (some t607)))

set_option maxRecDepth 100000 in
theorem shutterlaw07_OrderBack.calls {I : Gh} {h : Heap} {K : Nat} {x0 : api_Order} {a1 : Option Addr} {c2 : Nat} {x1 : api_Order} {a5 : Option Addr} {c6 : Nat} {x2 : Int} {x3 : List Int} {a9 : Option Addr} {c10 : Nat} (hB : Bd I h) (r4 : Rd (tInt .u8) I h a1 c2 x0.Text) (r8 : Rd (tInt .u8) I h a5 c6 x1.Text) (r12 : Rd (tInt .u8) I h a9 c10 x3) {r : Bool}
    (H : shutterlaw07_OrderBack.m K x0 x1 x2 x3 = some r) :
    Ret Try.prog 3 #[.agg #[.int .i64 x0.Kind, .slice a1 x0.Text.length c2, .bool x0.Attr.Protected, .bool x0.Attr.Numeric, .int .i64 x0.Attr.Show, .bool x0.Attr.Modified, .int .i64 x0.Addr, .int .u8 x0.Char], .agg #[.int .i64 x1.Kind, .slice a5 x1.Text.length c6, .bool x1.Attr.Protected, .bool x1.Attr.Numeric, .int .i64 x1.Attr.Show, .bool x1.Attr.Modified, .int .i64 x1.Addr, .int .u8 x1.Char], .int .u16 x2, .slice a9 x3.length c10] h (fun v h' => ∃ (I' : Gh), .bool r = v ∧ Pst No I h I' h') := by
  unfold shutterlaw07_OrderBack.m at H
  refine ret_of (args := [.agg #[.int .i64 x0.Kind, .slice a1 x0.Text.length c2, .bool x0.Attr.Protected, .bool x0.Attr.Numeric, .int .i64 x0.Attr.Show, .bool x0.Attr.Modified, .int .i64 x0.Addr, .int .u8 x0.Char], .agg #[.int .i64 x1.Kind, .slice a5 x1.Text.length c6, .bool x1.Attr.Protected, .bool x1.Attr.Numeric, .int .i64 x1.Attr.Show, .bool x1.Attr.Modified, .int .i64 x1.Addr, .int .u8 x1.Char], .int .u16 x2, .slice a9 x3.length c10]) (rs := [.tmp 8]) (N := 102) Try.func3 rfl rfl rfl (Nat.le_of_ble_eq_true rfl) ?_
  have pt0 : Pst No I h I h := Pst.refl hB
  refine cwp_seq ?_
  refine cwp_region ?_
  refine lwp_op (by kernel_rfl) (owp_box [.int .i64 x0.Kind, .slice a1 x0.Text.length c2, .bool x0.Attr.Protected, .bool x0.Attr.Numeric, .int .i64 x0.Attr.Show, .bool x0.Attr.Modified, .int .i64 x0.Addr, .int .u8 x0.Char] hB (by kernel_rfl) ?_)
  intro b13 h14 hc15 p16 o17
  have pt18 := pt0.no p16
  have fr19 : No b13 ∨ h.size ≤ b13 := .inr (Nat.le_trans pt0.size hc15)
  refine lwp_op (by kernel_rfl) (owp_box [.int .i64 x1.Kind, .slice a5 x1.Text.length c6, .bool x1.Attr.Protected, .bool x1.Attr.Numeric, .int .i64 x1.Attr.Show, .bool x1.Attr.Modified, .int .i64 x1.Addr, .int .u8 x1.Char] p16.bd (by kernel_rfl) ?_)
  intro b20 h21 hc22 p23 o24
  have pt25 := pt18.no p23
  have fr26 : No b20 ∨ h.size ≤ b20 := .inr (Nat.le_trans pt18.size hc22)
  have d27 := ne_new o17.lt hc22
  refine lwp_run 1 (by kernel_rfl) ?_
  refine lwp_nil ?_
  refine cwp_seq ?_
  refine cwp_seq ?_
  refine cwp_region ?_
  obtain ⟨t28, m29, H⟩ := bind_some H
  refine lwp_op (by kernel_rfl) (owp_callF (by kernel_rfl) (shutterlaw07_awake.calls (I := I) p23.bd m29) ?_)
  rintro v30 h31 ⟨I32, rfl, p33⟩
  have pt34 := pt25.no p33
  cases t28
  · rw [cond_false] at H
    refine lwp_run 18 (by kernel_rfl) ?_
    refine lwp_nil ?_
    refine cwp_true (by kernel_rfl) ?_
    refine cwp_seq ?_
    refine cwp_region ?_
    obtain ⟨t607, m608, H⟩ := bind_some H
    refine lwp_op (by kernel_rfl) (owp_callF (by kernel_rfl) (shutterlaw07_awake.calls (I := I32) p33.bd m608) ?_)
    rintro v609 h610 ⟨I611, rfl, p612⟩
    have pt613 := pt34.no p612
    refine lwp_run 1 (by kernel_rfl) ?_
    refine lwp_nil ?_
    refine cwp_ret ?_
    obtain rfl := Option.some.inj H
    show Exists _
    exact ⟨.bool t607, by kernel_rfl, I611, rfl, pt613⟩
  · rw [cond_true] at H
    refine lwp_run 3 (by kernel_rfl) ?_
    have f35 := o17.post p23 (fun x => x.elim)
    have f36 := f35.post p33 (fun x => x.elim)
    refine lwp_op (by kernel_rfl) (owp_load (by kernel_rfl) (by kernel_rfl) (f36.cell (off := 1) rfl) ?_)
    refine lwp_run 1 (by kernel_rfl) ?_
    by_cases c37 : (x0.Text.length : Int) > 300
    · rw [if_pos c37] at H
      refine lwp_op (by kernel_rfl) (owp_pure ((.bool true)) (pr_bool (by kernel_rfl) (decide_eq_true c37)) ?_)
      refine lwp_run 12 (by kernel_rfl) ?_
      refine lwp_nil ?_
      refine cwp_true (by kernel_rfl) ?_
      refine cwp_seq ?_
      refine cwp_region ?_
      obtain ⟨t38, m39, H⟩ := bind_some H
      refine lwp_op (by kernel_rfl) (owp_callF (by kernel_rfl) (shutterlaw07_awake.calls (I := I32) p33.bd m39) ?_)
      rintro v40 h41 ⟨I42, rfl, p43⟩
      have pt44 := pt34.no p43
      refine lwp_run 1 (by kernel_rfl) ?_
      refine lwp_nil ?_
      refine cwp_ret ?_
      obtain rfl := Option.some.inj H
      show Exists _
      exact ⟨.bool t38, by kernel_rfl, I42, rfl, pt44⟩
    · rw [if_neg c37] at H
      refine lwp_op (by kernel_rfl) (owp_pure ((.bool false)) (pr_bool (by kernel_rfl) (decide_eq_false c37)) ?_)
      refine lwp_run 3 (by kernel_rfl) ?_
      have f45 := o24.post p33 (fun x => x.elim)
      refine lwp_op (by kernel_rfl) (owp_load (by kernel_rfl) (by kernel_rfl) (f45.cell (off := 1) rfl) ?_)
      refine lwp_run 1 (by kernel_rfl) ?_
      by_cases c46 : (x1.Text.length : Int) > 300
      · rw [if_pos c46] at H
        refine lwp_op (by kernel_rfl) (owp_pure ((.bool true)) (pr_bool (by kernel_rfl) (decide_eq_true c46)) ?_)
        refine lwp_run 6 (by kernel_rfl) ?_
        refine lwp_nil ?_
        refine cwp_true (by kernel_rfl) ?_
        refine cwp_seq ?_
        refine cwp_region ?_
        obtain ⟨t47, m48, H⟩ := bind_some H
        refine lwp_op (by kernel_rfl) (owp_callF (by kernel_rfl) (shutterlaw07_awake.calls (I := I32) p33.bd m48) ?_)
        rintro v49 h50 ⟨I51, rfl, p52⟩
        have pt53 := pt34.no p52
        refine lwp_run 1 (by kernel_rfl) ?_
        refine lwp_nil ?_
        refine cwp_ret ?_
        obtain rfl := Option.some.inj H
        show Exists _
        exact ⟨.bool t47, by kernel_rfl, I51, rfl, pt53⟩
      · rw [if_neg c46] at H
        refine lwp_op (by kernel_rfl) (owp_pure ((.bool false)) (pr_bool (by kernel_rfl) (decide_eq_false c46)) ?_)
        refine lwp_run 4 (by kernel_rfl) ?_
        by_cases c54 : (x3.length : Int) > 100
        · rw [if_pos c54] at H
          refine lwp_op (by kernel_rfl) (owp_pure ((.bool true)) (pr_bool (by kernel_rfl) (decide_eq_true c54)) ?_)
          refine lwp_run 1 (by kernel_rfl) ?_
          refine lwp_nil ?_
          refine cwp_true (by kernel_rfl) ?_
          refine cwp_seq ?_
          refine cwp_region ?_
          obtain ⟨t55, m56, H⟩ := bind_some H
          refine lwp_op (by kernel_rfl) (owp_callF (by kernel_rfl) (shutterlaw07_awake.calls (I := I32) p33.bd m56) ?_)
          rintro v57 h58 ⟨I59, rfl, p60⟩
          have pt61 := pt34.no p60
          refine lwp_run 1 (by kernel_rfl) ?_
          refine lwp_nil ?_
          refine cwp_ret ?_
          obtain rfl := Option.some.inj H
          show Exists _
          exact ⟨.bool t55, by kernel_rfl, I59, rfl, pt61⟩
        · rw [if_neg c54] at H
          refine lwp_op (by kernel_rfl) (owp_pure ((.bool false)) (pr_bool (by kernel_rfl) (decide_eq_false c54)) ?_)
          refine lwp_run 1 (by kernel_rfl) ?_
          refine lwp_nil ?_
          refine cwp_false (by kernel_rfl) ?_
          refine cwp_skip ?_
          refine cwp_seq ?_
          refine cwp_regionD (Keep No h31) 9 (by kernel_rfl) ?_
          refine awp_loadN 0 rfl (by kernel_rfl) (by kernel_rfl) (by kernel_rfl) (by kernel_rfl) (by kernel_rfl) Keep.refl (f36.seg_ 0 8 (Nat.le_of_ble_eq_true rfl)) (fun _ _ x => x.elim) ?_
          refine awp_run (fuel := 7) [1] Keep.refl (by kernel_rfl) ?_
          obtain ⟨t62, m63, H⟩ := bind_some H
          refine awp_op 2 (by kernel_rfl) rfl (by kernel_rfl) (owp_callF (by kernel_rfl) (shutterlaw07_size.calls (I := I32) p33.bd m63) ?_)
          rintro v64 h65 ⟨_, rfl, rfl⟩
          refine ⟨Keep.refl, ?_⟩
          have f68 := r4.up (p16.up hB (fun _ x => x.elim))
          have f69 := f68.up (p23.up p16.bd (fun _ x => x.elim))
          have f70 := f69.up (p33.up p23.bd (fun _ x => x.elim))
          obtain ⟨t71, m72, H⟩ := bind_some H
          refine awp_op 3 (by kernel_rfl) rfl (by kernel_rfl) (owp_callF (by kernel_rfl) (order_Put.calls (I := I32) (B := I32) p33.bd p33.bd (Rd.mono (I' := Or2 I32 I32) f70 (fun _ x => Or.inr x)) m72) ?_)
          rintro v73 h74 ⟨I75, a77, c78, v82, rfl, p76, r80, fr81, q84⟩
          have pt85 := pt34.no p76
          have fr86 := nw_step (M := No) (n := h.size) (fun _ x => x.elim) fr81 pt34.size
          have d87 := step_blk fr81 f36.lt (fun x => x.elim)
          have d88 := step_blk fr81 f45.lt (fun x => x.elim)
          have hK89 := Keep.post (M := No) Keep.refl (Nat.le_refl _) p76 (fun _ x => x.elim)
          refine ⟨hK89, ?_⟩
          refine awp_run (fuel := 0) [4, 5, 6, 7, 8] hK89 (by kernel_rfl) ?_
          refine awp_nil (by kernel_rfl) ?_ 0
          refine cwp_seq ?_
          refine cwp_regionD (Keep No h74) 9 (by kernel_rfl) ?_
          have f90 := f45.post p76 (fun x => x.elim)
          refine awp_loadN 0 rfl (by kernel_rfl) (by kernel_rfl) (by kernel_rfl) (by kernel_rfl) (by kernel_rfl) Keep.refl (f90.seg_ 0 8 (Nat.le_of_ble_eq_true rfl)) (fun _ _ x => x.elim) ?_
          refine awp_run (fuel := 7) [1] Keep.refl (by kernel_rfl) ?_
          obtain ⟨t91, m92, H⟩ := bind_some H
          refine awp_op 2 (by kernel_rfl) rfl (by kernel_rfl) (owp_callF (by kernel_rfl) (shutterlaw07_size.calls (I := I75) p76.bd m92) ?_)
          rintro v93 h94 ⟨_, rfl, rfl⟩
          refine ⟨Keep.refl, ?_⟩
          have f97 := r8.up (p16.up hB (fun _ x => x.elim))
          have f98 := f97.up (p23.up p16.bd (fun _ x => x.elim))
          have f99 := f98.up (p33.up p23.bd (fun _ x => x.elim))
          have f100 := f99.up (p76.up p33.bd (fun _ x => x.elim))
          obtain ⟨t101, m102, H⟩ := bind_some H
          refine awp_op 3 (by kernel_rfl) rfl (by kernel_rfl) (owp_callF (by kernel_rfl) (order_Put.calls (I := I75) (B := I75) p76.bd p76.bd (Rd.mono (I' := Or2 I75 I75) f100 (fun _ x => Or.inr x)) m102) ?_)
          rintro v103 h104 ⟨I105, a107, c108, v112, rfl, p106, r110, fr111, q114⟩
          have pt115 := pt85.no p106
          have fr116 := nw_step (M := No) (n := h.size) (fun _ x => x.elim) fr111 pt85.size
          have f117 := f36.post p76 (fun x => x.elim)
          have d118 := step_blk fr111 f117.lt (fun x => x.elim)
          have d119 := step_blk fr111 f90.lt (fun x => x.elim)
          have d120 := step_sl fr111 r80.lt (fun _ _ x => x.elim)
          have hK121 := Keep.post (M := No) Keep.refl (Nat.le_refl _) p106 (fun _ x => x.elim)
          refine ⟨hK121, ?_⟩
          refine awp_run (fuel := 0) [4, 5, 6, 7, 8] hK121 (by kernel_rfl) ?_
          refine awp_nil (by kernel_rfl) ?_ 0
          refine cwp_seq ?_
          refine cwp_seq ?_
          refine cwp_region ?_
          refine lwp_run 1 (by kernel_rfl) ?_
          have f122 := ErrV.up (p106.up p76.bd (fun _ x => x.elim)) q84
          rcases f122.cases with ⟨c123, rfl⟩ | ⟨c123, t124, u125, rfl⟩
          · rw [if_pos c123] at H
            refine lwp_run 3 (by kernel_rfl) ?_
            rcases q114.cases with ⟨c126, rfl⟩ | ⟨c126, t127, u128, rfl⟩
            · rw [if_pos c126] at H
              refine lwp_run 2 (by kernel_rfl) ?_
              refine lwp_nil ?_
              refine cwp_false (by kernel_rfl) ?_
              refine cwp_skip ?_
              refine cwp_seq ?_
              refine cwp_seq ?_
              refine cwp_regionD (Keep No h104) 16 (by kernel_rfl) ?_
              refine awp_run (fuel := 14) [0, 1] Keep.refl (by kernel_rfl) ?_
              have f129 := f36.post p76 (fun x => x.elim)
              have f130 := f129.post p106 (fun x => x.elim)
              refine awp_loadN 3 rfl (by kernel_rfl) (by kernel_rfl) (by kernel_rfl) (by kernel_rfl) (by kernel_rfl) Keep.refl (f130.seg_ 0 8 (Nat.le_of_ble_eq_true rfl)) (fun _ _ x => x.elim) ?_
              have f131 := f90.post p106 (fun x => x.elim)
              refine awp_loadN 4 rfl (by kernel_rfl) (by kernel_rfl) (by kernel_rfl) (by kernel_rfl) (by kernel_rfl) Keep.refl (f131.seg_ 0 8 (Nat.le_of_ble_eq_true rfl)) (fun _ _ x => x.elim) ?_
              have f132 := r80.post p76.bd p106 (fun _ x => x.elim) (fun _ _ x => x.elim)
              obtain ⟨t133, m134, H⟩ := bind_some H
              refine awp_op 2 (by kernel_rfl) rfl (by kernel_rfl) (owp_callF (by kernel_rfl) (shutterref01_Same.calls (I := (Fz (Fz I105 a77) a107)) (bd_fz r110 (bd_fz f132 p106.bd)) (Rd.mono (I' := (Fz (Fz I105 a77) a107)) f132.rd (fun _ x => (Or.inl x))) (Rd.mono (I' := (Fz (Fz I105 a77) a107)) r110.rd (fun _ x => (Or.elim x (fun x => (Or.inl (Or.inl x))) (fun x => (Or.inr x))))) m134) ?_)
              rintro v135 h136 ⟨_, rfl, rfl⟩
              refine ⟨Keep.refl, ?_⟩
              have f139 := f70.up (p76.up p33.bd (fun _ x => x.elim))
              have f140 := f139.up (p106.up p76.bd (fun _ x => x.elim))
              have f141 := f100.up (p106.up p76.bd (fun _ x => x.elim))
              obtain ⟨t142, m143, H⟩ := bind_some H
              refine awp_op 5 (by kernel_rfl) rfl (by kernel_rfl) (owp_callF (by kernel_rfl) (order_Same.calls (I := I105) p106.bd f140 f141 m143) ?_)
              rintro v144 h145 ⟨I146, rfl, p147⟩
              have pt148 := pt115.no p147
              have hK149 := Keep.post (M := No) Keep.refl (Nat.le_refl _) p147 (fun _ x => x.elim)
              refine ⟨hK149, ?_⟩
              rcases bool_or (t133 != t142) with c150 | c150
              · replace H := bif_f c150 H
                refine awp_pure 6 ((.bool false)) rfl (by kernel_rfl) (by kernel_rfl) (pr_bool (by kernel_rfl) c150) hK149 ?_
                refine awp_run (fuel := 8) [7] hK149 (by kernel_rfl) ?_
                refine awp_loadN 8 rfl (by kernel_rfl) (by kernel_rfl) (by kernel_rfl) (by kernel_rfl) (by kernel_rfl) hK149 (f130.seg_ 0 8 (Nat.le_of_ble_eq_true rfl)) (fun _ _ x => x.elim) ?_
                refine awp_loadN 9 rfl (by kernel_rfl) (by kernel_rfl) (by kernel_rfl) (by kernel_rfl) (by kernel_rfl) hK149 (f131.seg_ 0 8 (Nat.le_of_ble_eq_true rfl)) (fun _ _ x => x.elim) ?_
                refine awp_loadN 11 rfl (by kernel_rfl) (by kernel_rfl) (by kernel_rfl) (by kernel_rfl) (by kernel_rfl) hK149 (f130.seg_ 0 8 (Nat.le_of_ble_eq_true rfl)) (fun _ _ x => x.elim) ?_
                refine awp_loadN 12 rfl (by kernel_rfl) (by kernel_rfl) (by kernel_rfl) (by kernel_rfl) (by kernel_rfl) hK149 (f131.seg_ 0 8 (Nat.le_of_ble_eq_true rfl)) (fun _ _ x => x.elim) ?_
                have f151 := f140.up (p147.up p106.bd (fun _ x => x.elim))
                have f152 := f141.up (p147.up p106.bd (fun _ x => x.elim))
                obtain ⟨t153, m154, H⟩ := bind_some H
                refine awp_op 10 (by kernel_rfl) rfl (by kernel_rfl) (owp_callF (by kernel_rfl) (order_Same.calls (I := I146) p147.bd f151 f152 m154) ?_)
                rintro v155 h156 ⟨I157, rfl, p158⟩
                have pt159 := pt148.no p158
                have hK160 := Keep.post (M := No) hK149 (Nat.le_trans (Nat.le_refl _) p147.size) p158 (fun _ x => x.elim)
                refine ⟨hK160, ?_⟩
                have f161 := f151.up (p158.up p147.bd (fun _ x => x.elim))
                have f162 := f152.up (p158.up p147.bd (fun _ x => x.elim))
                obtain ⟨t163, m164, H⟩ := bind_some H
                refine awp_op 13 (by kernel_rfl) rfl (by kernel_rfl) (owp_callF (by kernel_rfl) (shutterref07_Same.calls (I := I157) p158.bd f161 f162 m164) ?_)
                rintro v165 h166 ⟨I167, rfl, p168⟩
                have pt169 := pt159.no p168
                have hK170 := Keep.post (M := No) hK160 (Nat.le_trans (Nat.le_trans (Nat.le_refl _) p147.size) p158.size) p168 (fun _ x => x.elim)
                refine ⟨hK170, ?_⟩
                rcases bool_or (t153 != t163) with c171 | c171
                · replace H := bif_f c171 H
                  refine awp_pure 14 ((.bool false)) rfl (by kernel_rfl) (by kernel_rfl) (pr_bool (by kernel_rfl) c171) hK170 ?_
                  refine awp_run (fuel := 0) [15] hK170 (by kernel_rfl) ?_
                  refine awp_nil (by kernel_rfl) ?_ 0
                  refine cwp_false (by kernel_rfl) ?_
                  refine cwp_skip ?_
                  refine cwp_seq ?_
                  refine cwp_region ?_
                  refine lwp_op (by kernel_rfl) (owp_buildSlice (e := 5) [.int .u8 19] 1 (.int .u8 0) p168.bd (by kernel_rfl) (by kernel_rfl) (by kernel_rfl) (by kernel_rfl) (by kernel_rfl) ?_)
                  intro b172 h173 hc174 p175 o176
                  have pt177 := pt169.no p175
                  have w178 := o176.own (l := ([19] : List Int)) (Reps.int (I := I167) (k := .u8) (l := [19]))
                  have fw178 := some_nw (M := No) (Nat.le_trans pt169.size hc174)
                  have f180 := f36.post p76 (fun x => x.elim)
                  have f181 := f180.post p106 (fun x => x.elim)
                  have f182 := f181.post p147 (fun x => x.elim)
                  have f183 := f182.post p158 (fun x => x.elim)
                  have f184 := f183.post p168 (fun x => x.elim)
                  have d185 := some_ne (ne_new f184.lt hc174)
                  have f186 := f90.post p106 (fun x => x.elim)
                  have f187 := f186.post p147 (fun x => x.elim)
                  have f188 := f187.post p158 (fun x => x.elim)
                  have f189 := f188.post p168 (fun x => x.elim)
                  have d190 := some_ne (ne_new f189.lt hc174)
                  have f191 := f132.post p106.bd p147 (fun _ x => x.elim) (fun _ _ x => x.elim)
                  have f192 := f191.post p147.bd p158 (fun _ x => x.elim) (fun _ _ x => x.elim)
                  have f193 := f192.post p158.bd p168 (fun _ x => x.elim) (fun _ _ x => x.elim)
                  have d194 := some_notIn (notIn_new f193.lt hc174)
                  have f195 := r110.post p106.bd p147 (fun _ x => x.elim) (fun _ _ x => x.elim)
                  have f196 := f195.post p147.bd p158 (fun _ x => x.elim) (fun _ _ x => x.elim)
                  have f197 := f196.post p158.bd p168 (fun _ x => x.elim) (fun _ _ x => x.elim)
                  have d198 := some_notIn (notIn_new f197.lt hc174)
                  refine lwp_run 1 (by kernel_rfl) ?_
                  have f199 := r12.up (p16.up hB (fun _ x => x.elim))
                  have f200 := f199.up (p23.up p16.bd (fun _ x => x.elim))
                  have f201 := f200.up (p33.up p23.bd (fun _ x => x.elim))
                  have f202 := f201.up (p76.up p33.bd (fun _ x => x.elim))
                  have f203 := f202.up (p106.up p76.bd (fun _ x => x.elim))
                  have f204 := f203.up (p147.up p106.bd (fun _ x => x.elim))
                  have f205 := f204.up (p158.up p147.bd (fun _ x => x.elim))
                  have f206 := f205.up (p168.up p158.bd (fun _ x => x.elim))
                  have f207 := f206.up (p175.up p168.bd (fun _ x => x.elim))
                  obtain ⟨l208, m209, H⟩ := bind_some H
                  refine lwp_op (by kernel_rfl) (owp_app (e := 5) (bytes := 1) (tInt .u8) (by kernel_rfl) (elemOk_of (by kernel_rfl)) rfl rfl p175.bd p175.bd w178 w178.notI (f207.toSl) m209 (by kernel_rfl) (by kernel_rfl) ?_)
                  intro a210 c211 h212 p213 o214 fr215
                  have pt216 := pt177.own p213 fw178
                  have fr218 := nw_step (M := No) (n := h.size) fw178 fr215 pt177.size
                  have f219 := f36.post p76 (fun x => x.elim)
                  have f220 := f219.post p106 (fun x => x.elim)
                  have f221 := f220.post p147 (fun x => x.elim)
                  have f222 := f221.post p158 (fun x => x.elim)
                  have f223 := f222.post p168 (fun x => x.elim)
                  have f224 := f223.post p175 (fun x => x.elim)
                  have d225 := step_blk fr215 f224.lt d185
                  have f226 := f90.post p106 (fun x => x.elim)
                  have f227 := f226.post p147 (fun x => x.elim)
                  have f228 := f227.post p158 (fun x => x.elim)
                  have f229 := f228.post p168 (fun x => x.elim)
                  have f230 := f229.post p175 (fun x => x.elim)
                  have d231 := step_blk fr215 f230.lt d190
                  have f232 := f132.post p106.bd p147 (fun _ x => x.elim) (fun _ _ x => x.elim)
                  have f233 := f232.post p147.bd p158 (fun _ x => x.elim) (fun _ _ x => x.elim)
                  have f234 := f233.post p158.bd p168 (fun _ x => x.elim) (fun _ _ x => x.elim)
                  have f235 := f234.post p168.bd p175 (fun _ x => x.elim) (fun _ _ x => x.elim)
                  have d236 := step_sl fr215 f235.lt (flipD d194)
                  have f237 := r110.post p106.bd p147 (fun _ x => x.elim) (fun _ _ x => x.elim)
                  have f238 := f237.post p147.bd p158 (fun _ x => x.elim) (fun _ _ x => x.elim)
                  have f239 := f238.post p158.bd p168 (fun _ x => x.elim) (fun _ _ x => x.elim)
                  have f240 := f239.post p168.bd p175 (fun _ x => x.elim) (fun _ _ x => x.elim)
                  have d241 := step_sl fr215 f240.lt (flipD d198)
                  refine lwp_run 1 (by kernel_rfl) ?_
                  refine lwp_nil ?_
                  refine cwp_seq ?_
                  refine cwp_region ?_
                  refine lwp_op (by kernel_rfl) (owp_buildSlice (e := 5) [] 1 (.int .u8 0) p213.bd (by kernel_rfl) (by kernel_rfl) (by kernel_rfl) (by kernel_rfl) (by kernel_rfl) ?_)
                  intro b242 h243 hc244 p245 o246
                  have pt247 := pt216.no p245
                  have w248 := o246.own (l := ([] : List Int)) (Reps.int (I := I167) (k := .u8) (l := []))
                  have fw248 := some_nw (M := No) (Nat.le_trans pt216.size hc244)
                  have f250 := f36.post p76 (fun x => x.elim)
                  have f251 := f250.post p106 (fun x => x.elim)
                  have f252 := f251.post p147 (fun x => x.elim)
                  have f253 := f252.post p158 (fun x => x.elim)
                  have f254 := f253.post p168 (fun x => x.elim)
                  have f255 := f254.post p175 (fun x => x.elim)
                  have f256 := f255.post p213 d185
                  have d257 := some_ne (ne_new f256.lt hc244)
                  have f258 := f90.post p106 (fun x => x.elim)
                  have f259 := f258.post p147 (fun x => x.elim)
                  have f260 := f259.post p158 (fun x => x.elim)
                  have f261 := f260.post p168 (fun x => x.elim)
                  have f262 := f261.post p175 (fun x => x.elim)
                  have f263 := f262.post p213 d190
                  have d264 := some_ne (ne_new f263.lt hc244)
                  have f265 := f132.post p106.bd p147 (fun _ x => x.elim) (fun _ _ x => x.elim)
                  have f266 := f265.post p147.bd p158 (fun _ x => x.elim) (fun _ _ x => x.elim)
                  have f267 := f266.post p158.bd p168 (fun _ x => x.elim) (fun _ _ x => x.elim)
                  have f268 := f267.post p168.bd p175 (fun _ x => x.elim) (fun _ _ x => x.elim)
                  have f269 := f268.post p175.bd p213 w178.notI (flipD d194)
                  have d270 := some_notIn (notIn_new f269.lt hc244)
                  have f271 := r110.post p106.bd p147 (fun _ x => x.elim) (fun _ _ x => x.elim)
                  have f272 := f271.post p147.bd p158 (fun _ x => x.elim) (fun _ _ x => x.elim)
                  have f273 := f272.post p158.bd p168 (fun _ x => x.elim) (fun _ _ x => x.elim)
                  have f274 := f273.post p168.bd p175 (fun _ x => x.elim) (fun _ _ x => x.elim)
                  have f275 := f274.post p175.bd p213 w178.notI (flipD d198)
                  have d276 := some_notIn (notIn_new f275.lt hc244)
                  have d277 := some_notIn (notIn_new o214.lt hc244)
                  refine lwp_run 1 (by kernel_rfl) ?_
                  have f278 := f132.post p106.bd p147 (fun _ x => x.elim) (fun _ _ x => x.elim)
                  have f279 := f278.post p147.bd p158 (fun _ x => x.elim) (fun _ _ x => x.elim)
                  have f280 := f279.post p158.bd p168 (fun _ x => x.elim) (fun _ _ x => x.elim)
                  have f281 := f280.post p168.bd p175 (fun _ x => x.elim) (fun _ _ x => x.elim)
                  have f282 := f281.post p175.bd p213 w178.notI (flipD d194)
                  have f283 := f282.post p213.bd p245 (fun _ x => x.elim) (fun _ _ x => x.elim)
                  obtain ⟨l284, m285, H⟩ := bind_some H
                  refine lwp_op (by kernel_rfl) (owp_app (e := 5) (bytes := 1) (tInt .u8) (by kernel_rfl) (elemOk_of (by kernel_rfl)) rfl rfl p245.bd p245.bd w248 w248.notI (f283.toSl) m285 (by kernel_rfl) (by kernel_rfl) ?_)
                  intro a286 c287 h288 p289 o290 fr291
                  have pt292 := pt247.own p289 fw248
                  have fr294 := nw_step (M := No) (n := h.size) fw248 fr291 pt247.size
                  have f295 := f36.post p76 (fun x => x.elim)
                  have f296 := f295.post p106 (fun x => x.elim)
                  have f297 := f296.post p147 (fun x => x.elim)
                  have f298 := f297.post p158 (fun x => x.elim)
                  have f299 := f298.post p168 (fun x => x.elim)
                  have f300 := f299.post p175 (fun x => x.elim)
                  have f301 := f300.post p213 d185
                  have f302 := f301.post p245 (fun x => x.elim)
                  have d303 := step_blk fr291 f302.lt d257
                  have f304 := f90.post p106 (fun x => x.elim)
                  have f305 := f304.post p147 (fun x => x.elim)
                  have f306 := f305.post p158 (fun x => x.elim)
                  have f307 := f306.post p168 (fun x => x.elim)
                  have f308 := f307.post p175 (fun x => x.elim)
                  have f309 := f308.post p213 d190
                  have f310 := f309.post p245 (fun x => x.elim)
                  have d311 := step_blk fr291 f310.lt d264
                  have d312 := step_sl fr291 f283.lt (flipD d270)
                  have f313 := r110.post p106.bd p147 (fun _ x => x.elim) (fun _ _ x => x.elim)
                  have f314 := f313.post p147.bd p158 (fun _ x => x.elim) (fun _ _ x => x.elim)
                  have f315 := f314.post p158.bd p168 (fun _ x => x.elim) (fun _ _ x => x.elim)
                  have f316 := f315.post p168.bd p175 (fun _ x => x.elim) (fun _ _ x => x.elim)
                  have f317 := f316.post p175.bd p213 w178.notI (flipD d198)
                  have f318 := f317.post p213.bd p245 (fun _ x => x.elim) (fun _ _ x => x.elim)
                  have d319 := step_sl fr291 f318.lt (flipD d276)
                  have f320 := o214.post p213.bd p245 (fun _ x => x.elim) (fun _ _ x => x.elim)
                  have d321 := step_sl fr291 f320.lt (flipD d277)
                  refine lwp_run 1 (by kernel_rfl) ?_
                  have f322 := o214.post p213.bd p245 (fun _ x => x.elim) (fun _ _ x => x.elim)
                  have f323 := f322.post p245.bd p289 w248.notI (flipD d277)
                  obtain ⟨l324, m325, H⟩ := bind_some H
                  refine lwp_op (by kernel_rfl) (owp_app (e := 5) (bytes := 1) (tInt .u8) (by kernel_rfl) (elemOk_of (by kernel_rfl)) rfl rfl p289.bd p289.bd o290 o290.notI (f323.toSl) m325 (by kernel_rfl) (by kernel_rfl) ?_)
                  intro a326 c327 h328 p329 o330 fr331
                  have pt332 := pt292.own p329 fr294
                  have fr334 := nw_step (M := No) (n := h.size) fr294 fr331 pt292.size
                  have f335 := f36.post p76 (fun x => x.elim)
                  have f336 := f335.post p106 (fun x => x.elim)
                  have f337 := f336.post p147 (fun x => x.elim)
                  have f338 := f337.post p158 (fun x => x.elim)
                  have f339 := f338.post p168 (fun x => x.elim)
                  have f340 := f339.post p175 (fun x => x.elim)
                  have f341 := f340.post p213 d185
                  have f342 := f341.post p245 (fun x => x.elim)
                  have f343 := f342.post p289 d257
                  have d344 := step_blk fr331 f343.lt d303
                  have f345 := f90.post p106 (fun x => x.elim)
                  have f346 := f345.post p147 (fun x => x.elim)
                  have f347 := f346.post p158 (fun x => x.elim)
                  have f348 := f347.post p168 (fun x => x.elim)
                  have f349 := f348.post p175 (fun x => x.elim)
                  have f350 := f349.post p213 d190
                  have f351 := f350.post p245 (fun x => x.elim)
                  have f352 := f351.post p289 d264
                  have d353 := step_blk fr331 f352.lt d311
                  have f354 := f283.post p245.bd p289 w248.notI (flipD d270)
                  have d355 := step_sl fr331 f354.lt (flipD d312)
                  have f356 := r110.post p106.bd p147 (fun _ x => x.elim) (fun _ _ x => x.elim)
                  have f357 := f356.post p147.bd p158 (fun _ x => x.elim) (fun _ _ x => x.elim)
                  have f358 := f357.post p158.bd p168 (fun _ x => x.elim) (fun _ _ x => x.elim)
                  have f359 := f358.post p168.bd p175 (fun _ x => x.elim) (fun _ _ x => x.elim)
                  have f360 := f359.post p175.bd p213 w178.notI (flipD d198)
                  have f361 := f360.post p213.bd p245 (fun _ x => x.elim) (fun _ _ x => x.elim)
                  have f362 := f361.post p245.bd p289 w248.notI (flipD d276)
                  have d363 := step_sl fr331 f362.lt (flipD d319)
                  have d364 := step_sl fr331 f323.lt (flipD d321)
                  obtain ⟨t365, m366, H⟩ := bind_some H
                  refine lwp_op (by kernel_rfl) (owp_callF (by kernel_rfl) (bytes_New.calls (I := I167) (B := (Fz I167 a326)) p329.bd (bd_fz o330 p329.bd) (Rd.mono (I' := Or2 I167 (Fz I167 a326)) o330.rd (fun _ x => Or.inr x)) m366) ?_)
                  rintro v367 h368 ⟨I369, b371, a372, c373, v376, rfl, p370, r375, q378, o379, fr380⟩
                  have pt381 := pt332.no p370
                  have fr382 := nw1_step (M := No) (n := h.size) fr380 (fun _ x => x.elim) pt332.size
                  have f383 := f36.post p76 (fun x => x.elim)
                  have f384 := f383.post p106 (fun x => x.elim)
                  have f385 := f384.post p147 (fun x => x.elim)
                  have f386 := f385.post p158 (fun x => x.elim)
                  have f387 := f386.post p168 (fun x => x.elim)
                  have f388 := f387.post p175 (fun x => x.elim)
                  have f389 := f388.post p213 d185
                  have f390 := f389.post p245 (fun x => x.elim)
                  have f391 := f390.post p289 d257
                  have f392 := f391.post p329 d303
                  have d393 := step1_blk fr380 f392.lt (fun x => x.elim)
                  have f394 := f90.post p106 (fun x => x.elim)
                  have f395 := f394.post p147 (fun x => x.elim)
                  have f396 := f395.post p158 (fun x => x.elim)
                  have f397 := f396.post p168 (fun x => x.elim)
                  have f398 := f397.post p175 (fun x => x.elim)
                  have f399 := f398.post p213 d190
                  have f400 := f399.post p245 (fun x => x.elim)
                  have f401 := f400.post p289 d264
                  have f402 := f401.post p329 d311
                  have d403 := step1_blk fr380 f402.lt (fun x => x.elim)
                  have f404 := f283.post p245.bd p289 w248.notI (flipD d270)
                  have f405 := f404.post p289.bd p329 o290.notI (flipD d312)
                  have d406 := step1_sl fr380 f405.lt (fun _ _ x => x.elim)
                  have f407 := r110.post p106.bd p147 (fun _ x => x.elim) (fun _ _ x => x.elim)
                  have f408 := f407.post p147.bd p158 (fun _ x => x.elim) (fun _ _ x => x.elim)
                  have f409 := f408.post p158.bd p168 (fun _ x => x.elim) (fun _ _ x => x.elim)
                  have f410 := f409.post p168.bd p175 (fun _ x => x.elim) (fun _ _ x => x.elim)
                  have f411 := f410.post p175.bd p213 w178.notI (flipD d198)
                  have f412 := f411.post p213.bd p245 (fun _ x => x.elim) (fun _ _ x => x.elim)
                  have f413 := f412.post p245.bd p289 w248.notI (flipD d276)
                  have f414 := f413.post p289.bd p329 o290.notI (flipD d319)
                  have d415 := step1_sl fr380 f414.lt (fun _ _ x => x.elim)
                  have f416 := f323.post p289.bd p329 o290.notI (flipD d321)
                  have d417 := step1_sl fr380 f416.lt (fun _ _ x => x.elim)
                  have d418 := step1_sl fr380 o330.lt (fun _ _ x => x.elim)
                  refine lwp_run 1 (by kernel_rfl) ?_
                  refine lwp_nil ?_
                  refine cwp_seq ?_
                  refine cwp_seq ?_
                  refine cwp_region ?_
                  refine lwp_run 2 (by kernel_rfl) ?_
                  refine lwp_nil ?_
                  refine cwp_false (by kernel_rfl) ?_
                  refine cwp_skip ?_
                  refine cwp_seq ?_
                  refine cwp_region ?_
                  refine lwp_run 2 (by kernel_rfl) ?_
                  obtain ⟨t419, m420, H⟩ := bind_some H
                  refine lwp_op (by kernel_rfl) (owp_callF (by kernel_rfl) (shutterlaw07_size.calls (I := I369) p370.bd m420) ?_)
                  rintro v421 h422 ⟨_, rfl, rfl⟩
                  obtain ⟨t425, m426, H⟩ := bind_some H
                  refine lwp_op (by kernel_rfl) (owp_callF (by kernel_rfl) (order_Get.calls (I := I369) p370.bd o379 r375 q378 m426) ?_)
                  rintro v427 h428 ⟨I429, a431, c432, a436, c437, v440, rfl, p430, r434, fr435, r439, q442, o443, d444⟩
                  have pt445 := pt381.own p430 (one_nw fr382)
                  have fr446 := nw_step (M := No) (n := h.size) (one_nw fr382) fr435 pt381.size
                  have f447 := f36.post p76 (fun x => x.elim)
                  have f448 := f447.post p106 (fun x => x.elim)
                  have f449 := f448.post p147 (fun x => x.elim)
                  have f450 := f449.post p158 (fun x => x.elim)
                  have f451 := f450.post p168 (fun x => x.elim)
                  have f452 := f451.post p175 (fun x => x.elim)
                  have f453 := f452.post p213 d185
                  have f454 := f453.post p245 (fun x => x.elim)
                  have f455 := f454.post p289 d257
                  have f456 := f455.post p329 d303
                  have f457 := f456.post p370 (fun x => x.elim)
                  have d458 := step_blk fr435 f457.lt (fun e => d393 e.symm)
                  have f459 := f90.post p106 (fun x => x.elim)
                  have f460 := f459.post p147 (fun x => x.elim)
                  have f461 := f460.post p158 (fun x => x.elim)
                  have f462 := f461.post p168 (fun x => x.elim)
                  have f463 := f462.post p175 (fun x => x.elim)
                  have f464 := f463.post p213 d190
                  have f465 := f464.post p245 (fun x => x.elim)
                  have f466 := f465.post p289 d264
                  have f467 := f466.post p329 d311
                  have f468 := f467.post p370 (fun x => x.elim)
                  have d469 := step_blk fr435 f468.lt (fun e => d403 e.symm)
                  have f470 := f405.post p329.bd p370 (fun _ x => x.elim) (fun _ _ x => x.elim)
                  have d471 := step_sl fr435 f470.lt (dis_one d406)
                  have f472 := f414.post p329.bd p370 (fun _ x => x.elim) (fun _ _ x => x.elim)
                  have d473 := step_sl fr435 f472.lt (dis_one d415)
                  have f474 := f416.post p329.bd p370 (fun _ x => x.elim) (fun _ _ x => x.elim)
                  have d475 := step_sl fr435 f474.lt (dis_one d417)
                  have f476 := o330.post p329.bd p370 (fun _ x => x.elim) (fun _ _ x => x.elim)
                  have d477 := step_sl fr435 f476.lt (dis_one d418)
                  refine lwp_op (by kernel_rfl) (owp_alloc [.int .i64 0, .slice none 0 0, .bool false, .bool false, .int .i64 0, .bool false, .int .i64 0, .int .u8 0] (.agg #[.int .i64 0, .slice none 0 0, .bool false, .bool false, .int .i64 0, .bool false, .int .i64 0, .int .u8 0]) p430.bd (by kernel_rfl) (by kernel_rfl) ?_)
                  intro b478 h479 hc480 p481 o482
                  have pt483 := pt445.no p481
                  have fr484 : No b478 ∨ h.size ≤ b478 := .inr (Nat.le_trans pt445.size hc480)
                  have f485 := f36.post p76 (fun x => x.elim)
                  have f486 := f485.post p106 (fun x => x.elim)
                  have f487 := f486.post p147 (fun x => x.elim)
                  have f488 := f487.post p158 (fun x => x.elim)
                  have f489 := f488.post p168 (fun x => x.elim)
                  have f490 := f489.post p175 (fun x => x.elim)
                  have f491 := f490.post p213 d185
                  have f492 := f491.post p245 (fun x => x.elim)
                  have f493 := f492.post p289 d257
                  have f494 := f493.post p329 d303
                  have f495 := f494.post p370 (fun x => x.elim)
                  have f496 := f495.post p430 (fun e => d393 e.symm)
                  have d497 := ne_new f496.lt hc480
                  have f498 := f90.post p106 (fun x => x.elim)
                  have f499 := f498.post p147 (fun x => x.elim)
                  have f500 := f499.post p158 (fun x => x.elim)
                  have f501 := f500.post p168 (fun x => x.elim)
                  have f502 := f501.post p175 (fun x => x.elim)
                  have f503 := f502.post p213 d190
                  have f504 := f503.post p245 (fun x => x.elim)
                  have f505 := f504.post p289 d264
                  have f506 := f505.post p329 d311
                  have f507 := f506.post p370 (fun x => x.elim)
                  have f508 := f507.post p430 (fun e => d403 e.symm)
                  have d509 := ne_new f508.lt hc480
                  have d510 := ne_new o443.lt hc480
                  have f511 := f470.post p370.bd p430 (one_not o379.no) (dis_one d406)
                  have d512 := notIn_new f511.lt hc480
                  have f513 := f472.post p370.bd p430 (one_not o379.no) (dis_one d415)
                  have d514 := notIn_new f513.lt hc480
                  have f515 := f474.post p370.bd p430 (one_not o379.no) (dis_one d417)
                  have d516 := notIn_new f515.lt hc480
                  have f517 := f476.post p370.bd p430 (one_not o379.no) (dis_one d418)
                  have d518 := notIn_new f517.lt hc480
                  have d519 := notIn_new r434.lt hc480
                  refine lwp_op (by kernel_rfl) (owp_storeN 0 [.int .i64 t425.1.Kind, .slice a431 t425.1.Text.length c432, .bool t425.1.Attr.Protected, .bool t425.1.Attr.Numeric, .int .i64 t425.1.Attr.Show, .bool t425.1.Attr.Modified, .int .i64 t425.1.Addr, .int .u8 t425.1.Char] p481.bd o482 (by kernel_rfl) (by kernel_rfl) (by simp [Value.oneCell']) (by kernel_rfl) (Nat.le_of_ble_eq_true rfl) ?_)
                  intro h520 p521 o522
                  have pt523 := pt483.own p521 (one_nw fr484)
                  refine lwp_nil ?_
                  refine cwp_seq ?_
                  refine cwp_region ?_
                  refine lwp_run 1 (by kernel_rfl) ?_
                  have f524 := o443.post p481 (fun x => x.elim)
                  have f525 := f524.post p521 (fun e => d510 e.symm)
                  have f526 := r439.up (p481.up p430.bd (fun _ x => x.elim))
                  have f527 := f526.up (p521.up p481.bd (one_not o482.no))
                  have f528 := ErrV.up (p481.up p430.bd (fun _ x => x.elim)) q442
                  have f529 := ErrV.up (p521.up p481.bd (one_not o482.no)) f528
                  obtain ⟨t530, m531, H⟩ := bind_some H
                  refine lwp_op (by kernel_rfl) (owp_callF (by kernel_rfl) (bytes_Cursor_Err.calls (I := I429) p521.bd f525 f527 f529 m531) ?_)
                  rintro v532 h533 ⟨I534, v536, a539, c540, v543, rfl, p535, q538, r542, q545, o546⟩
                  have pt547 := pt523.own p535 (one_nw fr382)
                  rcases q538.cases with ⟨c548, rfl⟩ | ⟨c548, t549, u550, rfl⟩
                  · rw [if_pos c548] at H
                    refine lwp_run 2 (by kernel_rfl) ?_
                    have f551 := o522.post p535 d510
                    refine lwp_op (by kernel_rfl) (owp_loadN (by kernel_rfl) (by kernel_rfl) (by kernel_rfl) (f551.seg_ 0 8 (Nat.le_of_ble_eq_true rfl)) ?_)
                    have f552 := f36.post p76 (fun x => x.elim)
                    have f553 := f552.post p106 (fun x => x.elim)
                    have f554 := f553.post p147 (fun x => x.elim)
                    have f555 := f554.post p158 (fun x => x.elim)
                    have f556 := f555.post p168 (fun x => x.elim)
                    have f557 := f556.post p175 (fun x => x.elim)
                    have f558 := f557.post p213 d185
                    have f559 := f558.post p245 (fun x => x.elim)
                    have f560 := f559.post p289 d257
                    have f561 := f560.post p329 d303
                    have f562 := f561.post p370 (fun x => x.elim)
                    have f563 := f562.post p430 (fun e => d393 e.symm)
                    have f564 := f563.post p481 (fun x => x.elim)
                    have f565 := f564.post p521 (fun e => d497 e.symm)
                    have f566 := f565.post p535 (fun e => d393 e.symm)
                    refine lwp_op (by kernel_rfl) (owp_loadN (by kernel_rfl) (by kernel_rfl) (by kernel_rfl) (f566.seg_ 0 8 (Nat.le_of_ble_eq_true rfl)) ?_)
                    have f567 := r434.post p430.bd p481 (fun _ x => x.elim) (fun _ _ x => x.elim)
                    have f568 := f567.post p481.bd p521 (one_not o482.no) (dis_one d519)
                    have f569 := f568.post p521.bd p535 (one_not f525.no) (dis_one d444)
                    have f570 := f161.up (p168.up p158.bd (fun _ x => x.elim))
                    have f571 := f570.up (p175.up p168.bd (fun _ x => x.elim))
                    have f572 := f571.up (p213.up p175.bd w178.notI)
                    have f573 := f572.up (p245.up p213.bd (fun _ x => x.elim))
                    have f574 := f573.up (p289.up p245.bd w248.notI)
                    have f575 := f574.up (p329.up p289.bd o290.notI)
                    have f576 := f575.up (p370.up p329.bd (fun _ x => x.elim))
                    have f577 := f576.up (p430.up p370.bd (one_not o379.no))
                    have f578 := f577.up (p481.up p430.bd (fun _ x => x.elim))
                    have f579 := f578.up (p521.up p481.bd (one_not o482.no))
                    have f580 := f579.up (p535.up p521.bd (one_not f525.no))
                    obtain ⟨t581, m582, H⟩ := bind_some H
                    refine lwp_op (by kernel_rfl) (owp_callF (by kernel_rfl) (order_Same.calls (I := (Fz I534 a431)) (bd_fz f569 p535.bd) f569.rd (Rd.mono (I' := (Fz I534 a431)) f580 (fun _ x => (Or.inl x))) m582) ?_)
                    rintro v583 h584 ⟨I585, rfl, p586⟩
                    have p587 := Pst.forget p586 p535.bd
                    have pt588 := pt547.no p587
                    cases t581
                    · rw [cond_false] at H
                      refine lwp_run 9 (by kernel_rfl) ?_
                      refine lwp_nil ?_
                      refine cwp_ret ?_
                      obtain rfl := Option.some.inj H
                      show Exists _
                      exact ⟨.bool false, by kernel_rfl, I534, rfl, pt588⟩
                    · rw [cond_true] at H
                      refine lwp_run 3 (by kernel_rfl) ?_
                      have f589 := o546.post p587 (fun x => x.elim)
                      have f590 := r542.up (p587.up p535.bd (fun _ x => x.elim))
                      have f591 := ErrV.up (p587.up p535.bd (fun _ x => x.elim)) q545
                      obtain ⟨t592, m593, H⟩ := bind_some H
                      refine lwp_op (by kernel_rfl) (owp_callF (by kernel_rfl) (bytes_Cursor_Left.calls (I := I534) p587.bd f589 f590 f591 m593) ?_)
                      rintro v594 h595 ⟨I596, a598, c599, v602, rfl, p597, r601, q604, o605⟩
                      have pt606 := pt588.own p597 (one_nw fr382)
                      refine lwp_run 5 (by kernel_rfl) ?_
                      refine lwp_nil ?_
                      refine cwp_ret ?_
                      obtain rfl := Option.some.inj H
                      show Exists _
                      exact ⟨.bool (t592.1 == (l208.length : Int)), by kernel_rfl, I596, rfl, pt606⟩
                  · rw [if_neg c548] at H
                    refine lwp_run 14 (by kernel_rfl) ?_
                    refine lwp_nil ?_
                    refine cwp_ret ?_
                    obtain rfl := Option.some.inj H
                    show Exists _
                    exact ⟨.bool false, by kernel_rfl, I534, rfl, pt547⟩
                · replace H := bif_t c171 H
                  refine awp_pure 14 ((.bool true)) rfl (by kernel_rfl) (by kernel_rfl) (pr_bool (by kernel_rfl) c171) hK170 ?_
                  refine awp_run (fuel := 0) [15] hK170 (by kernel_rfl) ?_
                  refine awp_nil (by kernel_rfl) ?_ 0
                  refine cwp_true (by kernel_rfl) ?_
                  refine cwp_seq ?_
                  refine cwp_region ?_
                  refine lwp_run 1 (by kernel_rfl) ?_
                  refine lwp_nil ?_
                  refine cwp_ret ?_
                  obtain rfl := Option.some.inj H
                  show Exists _
                  exact ⟨.bool false, by kernel_rfl, I167, rfl, pt169⟩
              · replace H := bif_t c150 H
                refine awp_pure 6 ((.bool true)) rfl (by kernel_rfl) (by kernel_rfl) (pr_bool (by kernel_rfl) c150) hK149 ?_
                refine awp_run (fuel := 0) [7, 8, 9, 10, 11, 12, 13, 14, 15] hK149 (by kernel_rfl) ?_
                refine awp_nil (by kernel_rfl) ?_ 0
                refine cwp_true (by kernel_rfl) ?_
                refine cwp_seq ?_
                refine cwp_region ?_
                refine lwp_run 1 (by kernel_rfl) ?_
                refine lwp_nil ?_
                refine cwp_ret ?_
                obtain rfl := Option.some.inj H
                show Exists _
                exact ⟨.bool false, by kernel_rfl, I146, rfl, pt148⟩
            · rw [if_neg c126] at H
              refine lwp_run 2 (by kernel_rfl) ?_
              refine lwp_nil ?_
              refine cwp_true (by kernel_rfl) ?_
              refine cwp_seq ?_
              refine cwp_region ?_
              refine lwp_run 1 (by kernel_rfl) ?_
              refine lwp_nil ?_
              refine cwp_ret ?_
              obtain rfl := Option.some.inj H
              show Exists _
              exact ⟨.bool true, by kernel_rfl, I105, rfl, pt115⟩
          · rw [if_neg c123] at H
            refine lwp_run 5 (by kernel_rfl) ?_
            refine lwp_nil ?_
            refine cwp_true (by kernel_rfl) ?_
            refine cwp_seq ?_
            refine cwp_region ?_
            refine lwp_run 1 (by kernel_rfl) ?_
            refine lwp_nil ?_
            refine cwp_ret ?_
            obtain rfl := Option.some.inj H
            show Exists _
            exact ⟨.bool true, by kernel_rfl, I105, rfl, pt115⟩

/-! shutter/shutterlaw07.OrderKeeps -/
def shutterlaw07_OrderKeeps.l1.m (K : Nat) : Nat → (List Int) → Int → Option (Unit)
  | 0, _, _ => none
  | k + 1, x78, x85 => (if x85 < (x78.length : Int) then (if 0 ≤ x85 then (shutterlaw07_OrderKeeps.l1.m K k (x78.set x85.toNat (bXor .u8 (at_ x78 x85) 255)) (w64 (x85 + 1))) else none) else (some (())))
def shutterlaw07_OrderKeeps.m (K : Nat) (x0 : (List Int)) : Option Bool :=
  ((shutterlaw07_awake.m K).bind fun t5 => bif t5 then (if (x0.length : Int) > 200 then ((shutterlaw07_awake.m K).bind fun t13 => (some t13)) else ((app [] x0).bind fun l30 => ((order_Put.m K (⟨1, l30, (⟨false, false, 0, false⟩ : api_Attr), 0, 0⟩ : api_Order) 80).bind fun t55 => ((shutterlaw07_OrderKeeps.l1.m K K t55.1 0).bind fun _ => ((shutterref01_Same.m K l30 x0).bind fun t120 => bif t120 then ((order_Put.m K (⟨1, l30, (⟨false, false, 0, false⟩ : api_Attr), 0, 0⟩ : api_Order) 80).bind fun t126 => (if t55.2 = GoErr.nil then (if t126.2 = GoErr.nil then ((shutterref01_Same.m K t126.1 x0).bind fun t152 => (some t152)) else (some false)) else (if t126.2 = GoErr.nil then (some false) else (some true)))) else (some false)))))) else ((shutterlaw07_awake.m K).bind fun t161 => (some t161)))

set_option maxRecDepth 100000 in
theorem shutterlaw07_OrderKeeps.calls {I : Gh} {h : Heap} {K : Nat} {x0 : List Int} {a1 : Option Addr} {c2 : Nat} (hB : Bd I h) (r4 : Rd (tInt .u8) I h a1 c2 x0) {r : Bool}
    (H : shutterlaw07_OrderKeeps.m K x0 = some r) :
    Ret Try.prog 4 #[.slice a1 x0.length c2] h (fun v h' => ∃ (I' : Gh), .bool r = v ∧ Pst No I h I' h') := by
  unfold shutterlaw07_OrderKeeps.m at H
  refine ret_of (args := [.slice a1 x0.length c2]) (rs := [.tmp 2]) (N := 65) Try.func4 rfl rfl rfl (Nat.le_of_ble_eq_true rfl) ?_
  have pt0 : Pst No I h I h := Pst.refl hB
  refine cwp_seq ?_
  refine cwp_region ?_
  refine lwp_run 1 (by kernel_rfl) ?_
  refine lwp_nil ?_
  refine cwp_seq ?_
  refine cwp_seq ?_
  refine cwp_region ?_
  obtain ⟨t5, m6, H⟩ := bind_some H
  refine lwp_op (by kernel_rfl) (owp_callF (by kernel_rfl) (shutterlaw07_awake.calls (I := I) hB m6) ?_)
  rintro v7 h8 ⟨I9, rfl, p10⟩
  have pt11 := pt0.no p10
  cases t5
  · rw [cond_false] at H
    refine lwp_run 6 (by kernel_rfl) ?_
    refine lwp_nil ?_
    refine cwp_true (by kernel_rfl) ?_
    refine cwp_seq ?_
    refine cwp_region ?_
    obtain ⟨t161, m162, H⟩ := bind_some H
    refine lwp_op (by kernel_rfl) (owp_callF (by kernel_rfl) (shutterlaw07_awake.calls (I := I9) p10.bd m162) ?_)
    rintro v163 h164 ⟨I165, rfl, p166⟩
    have pt167 := pt11.no p166
    refine lwp_run 1 (by kernel_rfl) ?_
    refine lwp_nil ?_
    refine cwp_ret ?_
    obtain rfl := Option.some.inj H
    show Exists _
    exact ⟨.bool t161, by kernel_rfl, I165, rfl, pt167⟩
  · rw [cond_true] at H
    refine lwp_run 4 (by kernel_rfl) ?_
    by_cases c12 : (x0.length : Int) > 200
    · rw [if_pos c12] at H
      refine lwp_op (by kernel_rfl) (owp_pure ((.bool true)) (pr_bool (by kernel_rfl) (decide_eq_true c12)) ?_)
      refine lwp_run 1 (by kernel_rfl) ?_
      refine lwp_nil ?_
      refine cwp_true (by kernel_rfl) ?_
      refine cwp_seq ?_
      refine cwp_region ?_
      obtain ⟨t13, m14, H⟩ := bind_some H
      refine lwp_op (by kernel_rfl) (owp_callF (by kernel_rfl) (shutterlaw07_awake.calls (I := I9) p10.bd m14) ?_)
      rintro v15 h16 ⟨I17, rfl, p18⟩
      have pt19 := pt11.no p18
      refine lwp_run 1 (by kernel_rfl) ?_
      refine lwp_nil ?_
      refine cwp_ret ?_
      obtain rfl := Option.some.inj H
      show Exists _
      exact ⟨.bool t13, by kernel_rfl, I17, rfl, pt19⟩
    · rw [if_neg c12] at H
      refine lwp_op (by kernel_rfl) (owp_pure ((.bool false)) (pr_bool (by kernel_rfl) (decide_eq_false c12)) ?_)
      refine lwp_run 1 (by kernel_rfl) ?_
      refine lwp_nil ?_
      refine cwp_false (by kernel_rfl) ?_
      refine cwp_skip ?_
      refine cwp_seq ?_
      refine cwp_region ?_
      refine lwp_op (by kernel_rfl) (owp_buildSlice (e := 5) [] 1 (.int .u8 0) p10.bd (by kernel_rfl) (by kernel_rfl) (by kernel_rfl) (by kernel_rfl) (by kernel_rfl) ?_)
      intro b20 h21 hc22 p23 o24
      have pt25 := pt11.no p23
      have w26 := o24.own (l := ([] : List Int)) (Reps.int (I := I9) (k := .u8) (l := []))
      have fw26 := some_nw (M := No) (Nat.le_trans pt11.size hc22)
      refine lwp_run 1 (by kernel_rfl) ?_
      have f28 := r4.up (p10.up hB (fun _ x => x.elim))
      have f29 := f28.up (p23.up p10.bd (fun _ x => x.elim))
      obtain ⟨l30, m31, H⟩ := bind_some H
      refine lwp_op (by kernel_rfl) (owp_app (e := 5) (bytes := 1) (tInt .u8) (by kernel_rfl) (elemOk_of (by kernel_rfl)) rfl rfl p23.bd p23.bd w26 w26.notI (f29.toSl) m31 (by kernel_rfl) (by kernel_rfl) ?_)
      intro a32 c33 h34 p35 o36 fr37
      have pt38 := pt25.own p35 fw26
      have fr40 := nw_step (M := No) (n := h.size) fw26 fr37 pt25.size
      refine lwp_run 1 (by kernel_rfl) ?_
      refine lwp_nil ?_
      refine cwp_seq ?_
      refine cwp_region ?_
      refine lwp_run 2 (by kernel_rfl) ?_
      refine lwp_op (by kernel_rfl) (owp_alloc [.int .i64 0, .slice none 0 0, .bool false, .bool false, .int .i64 0, .bool false, .int .i64 0, .int .u8 0] (.agg #[.int .i64 0, .slice none 0 0, .bool false, .bool false, .int .i64 0, .bool false, .int .i64 0, .int .u8 0]) p35.bd (by kernel_rfl) (by kernel_rfl) ?_)
      intro b41 h42 hc43 p44 o45
      have pt46 := pt38.no p44
      have fr47 : No b41 ∨ h.size ≤ b41 := .inr (Nat.le_trans pt38.size hc43)
      have d48 := notIn_new o36.lt hc43
      refine lwp_op (by kernel_rfl) (owp_storeN 0 [.int .i64 1, .slice a32 l30.length c33, .bool false, .bool false, .int .i64 0, .bool false, .int .i64 0, .int .u8 0] p44.bd o45 (by kernel_rfl) (by kernel_rfl) (by simp [Value.oneCell']) (by kernel_rfl) (Nat.le_of_ble_eq_true rfl) ?_)
      intro h49 p50 o51
      have pt52 := pt46.own p50 (one_nw fr47)
      refine lwp_nil ?_
      refine cwp_seq ?_
      refine cwp_region ?_
      refine lwp_op (by kernel_rfl) (owp_loadN (by kernel_rfl) (by kernel_rfl) (by kernel_rfl) (o51.seg_ 0 8 (Nat.le_of_ble_eq_true rfl)) ?_)
      have f53 := o36.post p35.bd p44 (fun _ x => x.elim) (fun _ _ x => x.elim)
      have f54 := f53.post p44.bd p50 (one_not o45.no) (dis_one d48)
      obtain ⟨t55, m56, H⟩ := bind_some H
      refine lwp_op (by kernel_rfl) (owp_callF (by kernel_rfl) (order_Put.calls (I := I9) (B := (Fz I9 a32)) p50.bd (bd_fz f54 p50.bd) (Rd.mono (I' := Or2 I9 (Fz I9 a32)) f54.rd (fun _ x => Or.inr x)) m56) ?_)
      rintro v57 h58 ⟨I59, a61, c62, v66, rfl, p60, r64, fr65, q68⟩
      have pt69 := pt52.no p60
      have fr70 := nw_step (M := No) (n := h.size) (fun _ x => x.elim) fr65 pt52.size
      have d71 := step_blk fr65 o51.lt (fun x => x.elim)
      have d72 := step_sl fr65 f54.lt (fun _ _ x => x.elim)
      refine lwp_run 5 (by kernel_rfl) ?_
      refine lwp_nil ?_
      refine cwp_seq ?_
      refine cwp_seq ?_
      refine cwp_region ?_
      refine lwp_run 1 (by kernel_rfl) ?_
      refine lwp_nil ?_
      refine cwp_block ?_
      have f114 := f29.up (p35.up p23.bd w26.notI)
      have f115 := f114.up (p44.up p35.bd (fun _ x => x.elim))
      have f116 := f115.up (p50.up p44.bd (one_not o45.no))
      have f117 := f116.up (p60.up p50.bd (fun _ x => x.elim))
      have f118 := f54.post p50.bd p60 (fun _ x => x.elim) (fun _ _ x => x.elim)
      have f119 := o51.post p60 (fun x => x.elim)
      obtain ⟨s90, m98, HR99⟩ := bind_some H
      refine cwp_loopE 0 (fun ρ' h91 => ∃ (I92 : Gh), () = s90 ∧ Fits [(0, .slice a1 x0.length c2), (3, .slice a32 l30.length c33), (4, .pointer (some ⟨b41, 0, none⟩)), (6, v66)] ρ' ∧ Pst No I h I92 h91 ∧ Rd (tInt .u8) I92 h91 a1 c2 x0 ∧ OwnX (tInt .u8) I92 I92 h91 a32 c33 l30 ∧ ErrV I92 h91 t55.2 v66 ∧ OwnB I92 h91 b41 [.int .i64 1, .slice a32 l30.length c33, .bool false, .bool false, .int .i64 0, .bool false, .int .i64 0, .int .u8 0] 26) ?_ ?_
      · refine cwp_loop (fun k' ρ' h73 => ∃ (x78 : List Int) (x85 : Int) (a79 : Option Addr) (c80 : Nat) (I74 : Gh), shutterlaw07_OrderKeeps.l1.m K k' x78 x85 = some s90 ∧ Fits [(0, .slice a1 x0.length c2), (3, .slice a32 l30.length c33), (4, .pointer (some ⟨b41, 0, none⟩)), (5, .slice a79 x78.length c80), (6, v66), (7, .int .i64 x85)] ρ' ∧ Pst No I h I74 h73 ∧ Rd (tInt .u8) I74 h73 a1 c2 x0 ∧ OwnX (tInt .u8) I74 I74 h73 a32 c33 l30 ∧ OwnX (tInt .u8) I74 I74 h73 a79 c80 x78 ∧ (∀ b, InA a79 b → No b ∨ h.size ≤ b) ∧ ErrV I74 h73 t55.2 v66 ∧ OwnB I74 h73 b41 [.int .i64 1, .slice a32 l30.length c33, .bool false, .bool false, .int .i64 0, .bool false, .int .i64 0, .int .u8 0] 26 ∧ (∀ b, InA a32 b → ¬ InA a79 b) ∧ ¬ InA a79 b41) K ⟨t55.1, 0, a61, c62, I59, m98, ⟨by kernel_rfl, by kernel_rfl, by kernel_rfl, by kernel_rfl, by kernel_rfl, by kernel_rfl, trivial⟩, pt69, f117, f118, r64, fr70, q68, f119, (flipD d72), d71⟩ ?_
        clear m98
        rintro k' ρ' h73 ⟨x78, x85, a79, c80, I74, H, hf, pt75, r76, r77, r81, fr83, q84, o86, d87, d88⟩
        cases k' with
        | zero => cases H
        | succ k =>
          rw [shutterlaw07_OrderKeeps.l1.m] at H
          refine cwp_fits _ hf ?_
          refine cwp_seq ?_
          refine cwp_seq ?_
          refine cwp_region ?_
          refine lwp_run 3 (by kernel_rfl) ?_
          by_cases c100 : x85 < (x78.length : Int)
          · rw [if_pos c100] at H
            refine lwp_op (by kernel_rfl) (owp_pure ((.bool true)) (pr_bool (by kernel_rfl) (decide_eq_true c100)) ?_)
            refine lwp_nil ?_
            refine cwp_true (by kernel_rfl) ?_
            refine cwp_skip ?_
            refine cwp_seq ?_
            refine cwp_block ?_
            refine cwp_region ?_
            obtain ⟨c101, H⟩ := guard_pos H
            refine lwp_run 4 (by kernel_rfl) ?_
            have hs102 := (r81.toSl).isSome c101 c100
            refine lwp_op (by kernel_rfl) (owp_pure (elemPtr a79 (x85.toNat * 1)) (pr_indexElem (e := 5) (r81.toSl) (k := .i64) (by kernel_rfl) (by kernel_rfl) (by kernel_rfl) (by kernel_rfl) c101 c100) ?_)
            obtain ⟨cs103, hs104, rp105⟩ := (r81.toSl).seg c101 c100
            obtain rfl := rep_int rp105
            refine lwp_op (by kernel_rfl) (owp_load (by kernel_rfl) (by kernel_rfl) (seg_cell (f := 0) hs104 rfl) ?_)
            refine lwp_run 1 (by kernel_rfl) ?_
            have hs106 := (r81.toSl).isSome c101 c100
            refine lwp_op (by kernel_rfl) (owp_pure (elemPtr a79 (x85.toNat * 1)) (pr_indexElem (e := 5) (r81.toSl) (k := .i64) (by kernel_rfl) (by kernel_rfl) (by kernel_rfl) (by kernel_rfl) c101 c100) ?_)
            obtain ⟨cs107, hs108, rp109⟩ := r81.toSl.seg c101 c100
            obtain rfl := rep_int rp109
            refine lwp_op (by kernel_rfl) (owp_storeElem (tInt .u8) 0 [.int .u8 (bXor .u8 (at_ x78 x85) 255)] ((bXor .u8 (at_ x78 x85) 255)) pt75.bd pt75.bd r81 r81.notI c101 c100 hs108 (by kernel_rfl) (by kernel_rfl) (by kernel_rfl) (by simp [Value.oneCell']) (by kernel_rfl) rfl ?_)
            intro h110 p111 o112
            have pt113 := pt75.own p111 fr83
            refine lwp_nil ?_
            refine cwp_region ?_
            refine lwp_run 3 (by kernel_rfl) ?_
            refine lwp_nil ?_
            have f100001 := r76.up (p111.up pt75.bd r81.notI)
            have f100002 := r77.post pt75.bd p111 r81.notI d87
            have f100003 := ErrV.up (p111.up pt75.bd r81.notI) q84
            have f100004 := o86.post p111 d88
            show Exists _
            exact ⟨k, Nat.lt_succ_self _, (x78.set x85.toNat (bXor .u8 (at_ x78 x85) 255)), (w64 (x85 + 1)), a79, c80, I74, H, ⟨by kernel_rfl, by kernel_rfl, by kernel_rfl, by rw [List.length_set]; kernel_rfl, by kernel_rfl, by kernel_rfl, trivial⟩, pt113, f100001, f100002, o112, fr83, f100003, f100004, d87, d88⟩
          · rw [if_neg c100] at H
            refine lwp_op (by kernel_rfl) (owp_pure ((.bool false)) (pr_bool (by kernel_rfl) (decide_eq_false c100)) ?_)
            refine lwp_nil ?_
            refine cwp_false (by kernel_rfl) ?_
            refine cwp_exit ?_
            obtain rfl := Option.some.inj H
            show Exists _
            exact ⟨I74, rfl, ⟨by kernel_rfl, by kernel_rfl, by kernel_rfl, by kernel_rfl, trivial⟩, pt75, r76, r77, q84, o86⟩
      · rintro ρ' h91 ⟨I92, rfl, hf, pt93, r94, r95, q96, o97⟩
        have H := HR99
        try dsimp only at H
        refine cwp_fits _ hf ?_
        refine cwp_seq ?_
        refine cwp_seq ?_
        refine cwp_region ?_
        refine lwp_run 2 (by kernel_rfl) ?_
        obtain ⟨t120, m121, H⟩ := bind_some H
        refine lwp_op (by kernel_rfl) (owp_callF (by kernel_rfl) (shutterref01_Same.calls (I := (Fz I92 a32)) (bd_fz r95 pt93.bd) r95.rd (Rd.mono (I' := (Fz I92 a32)) r94 (fun _ x => (Or.inl x))) m121) ?_)
        rintro v122 h123 ⟨_, rfl, rfl⟩
        cases t120
        · rw [cond_false] at H
          refine lwp_run 1 (by kernel_rfl) ?_
          refine lwp_nil ?_
          refine cwp_true (by kernel_rfl) ?_
          refine cwp_seq ?_
          refine cwp_region ?_
          refine lwp_run 1 (by kernel_rfl) ?_
          refine lwp_nil ?_
          refine cwp_ret ?_
          obtain rfl := Option.some.inj H
          show Exists _
          exact ⟨.bool false, by kernel_rfl, I92, rfl, pt93⟩
        · rw [cond_true] at H
          refine lwp_run 1 (by kernel_rfl) ?_
          refine lwp_nil ?_
          refine cwp_false (by kernel_rfl) ?_
          refine cwp_skip ?_
          refine cwp_seq ?_
          refine cwp_region ?_
          refine lwp_op (by kernel_rfl) (owp_loadN (by kernel_rfl) (by kernel_rfl) (by kernel_rfl) (o97.seg_ 0 8 (Nat.le_of_ble_eq_true rfl)) ?_)
          obtain ⟨t126, m127, H⟩ := bind_some H
          refine lwp_op (by kernel_rfl) (owp_callF (by kernel_rfl) (order_Put.calls (I := I92) (B := (Fz I92 a32)) pt93.bd (bd_fz r95 pt93.bd) (Rd.mono (I' := Or2 I92 (Fz I92 a32)) r95.rd (fun _ x => Or.inr x)) m127) ?_)
          rintro v128 h129 ⟨I130, a132, c133, v137, rfl, p131, r135, fr136, q139⟩
          have pt140 := pt93.no p131
          have fr141 := nw_step (M := No) (n := h.size) (fun _ x => x.elim) fr136 pt93.size
          have d142 := step_blk fr136 o97.lt (fun x => x.elim)
          have d143 := step_sl fr136 r95.lt (fun _ _ x => x.elim)
          refine lwp_run 5 (by kernel_rfl) ?_
          refine lwp_nil ?_
          refine cwp_seq ?_
          refine cwp_regionD (Keep No h129) 15 (by kernel_rfl) ?_
          refine awp_run (fuel := 14) [0] Keep.refl (by kernel_rfl) ?_
          have f144 := ErrV.up (p131.up pt93.bd (fun _ x => x.elim)) q96
          rcases f144.cases with ⟨c145, rfl⟩ | ⟨c145, t146, u147, rfl⟩
          · rw [if_pos c145] at H
            refine awp_run (fuel := 12) [1, 2] Keep.refl (by kernel_rfl) ?_
            rcases q139.cases with ⟨c148, rfl⟩ | ⟨c148, t149, u150, rfl⟩
            · rw [if_pos c148] at H
              refine awp_run (fuel := 4) [3, 4, 5, 6, 7, 8, 9, 10] Keep.refl (by kernel_rfl) ?_
              have f151 := r94.up (p131.up pt93.bd (fun _ x => x.elim))
              obtain ⟨t152, m153, H⟩ := bind_some H
              refine awp_op 11 (by kernel_rfl) rfl (by kernel_rfl) (owp_callF (by kernel_rfl) (shutterref01_Same.calls (I := (Fz I130 a132)) (bd_fz r135 p131.bd) r135.rd (Rd.mono (I' := (Fz I130 a132)) f151 (fun _ x => (Or.inl x))) m153) ?_)
              rintro v154 h155 ⟨_, rfl, rfl⟩
              refine ⟨Keep.refl, ?_⟩
              refine awp_run (fuel := 0) [12, 13, 14] Keep.refl (by kernel_rfl) ?_
              refine awp_nil (by kernel_rfl) ?_ 0
              refine cwp_ret ?_
              obtain rfl := Option.some.inj H
              show Exists _
              exact ⟨.bool t152, by kernel_rfl, I130, rfl, pt140⟩
            · rw [if_neg c148] at H
              refine awp_run (fuel := 0) [3, 4, 5, 6, 7, 8, 9, 10, 11, 12, 13, 14] Keep.refl (by kernel_rfl) ?_
              refine awp_nil (by kernel_rfl) ?_ 0
              refine cwp_ret ?_
              obtain rfl := Option.some.inj H
              show Exists _
              exact ⟨.bool false, by kernel_rfl, I130, rfl, pt140⟩
          · rw [if_neg c145] at H
            refine awp_run (fuel := 12) [1, 2] Keep.refl (by kernel_rfl) ?_
            rcases q139.cases with ⟨c158, rfl⟩ | ⟨c158, t159, u160, rfl⟩
            · rw [if_pos c158] at H
              refine awp_run (fuel := 0) [3, 4, 5, 6, 7, 8, 9, 10, 11, 12, 13, 14] Keep.refl (by kernel_rfl) ?_
              refine awp_nil (by kernel_rfl) ?_ 0
              refine cwp_ret ?_
              obtain rfl := Option.some.inj H
              show Exists _
              exact ⟨.bool false, by kernel_rfl, I130, rfl, pt140⟩
            · rw [if_neg c158] at H
              refine awp_run (fuel := 0) [3, 4, 5, 6, 7, 8, 9, 10, 11, 12, 13, 14] Keep.refl (by kernel_rfl) ?_
              refine awp_nil (by kernel_rfl) ?_ 0
              refine cwp_ret ?_
              obtain rfl := Option.some.inj H
              show Exists _
              exact ⟨.bool true, by kernel_rfl, I130, rfl, pt140⟩

/-! shutter/shutterlaw07.OrderLengths -/
def shutterlaw07_OrderLengths.m (K : Nat) (x0 : api_Order) (x1 : Int) : Option Bool :=
  ((shutterlaw07_awake.m K).bind fun t12 => bif t12 then (if (x0.Text.length : Int) > 300 then ((shutterlaw07_awake.m K).bind fun t21 => (some t21)) else ((shutterlaw07_size.m x1).bind fun t28 => ((order_Put.m K x0 t28).bind fun t36 => (if t36.2 = GoErr.nil then (if 0 ≤ x0.Kind then (if x0.Kind < ([0, (x0.Text.length : Int), 2, 3, 1, 1, 4, 3].length : Int) then (if x0.Kind < ([0, 0, 29, 17, 19, 5, 60, 18].length : Int) then (if (t36.1.length : Int) = (at_ [0, (x0.Text.length : Int), 2, 3, 1, 1, 4, 3] x0.Kind) then (if x0.Kind = 1 then (some true) else (if 0 < (t36.1.length : Int) then (some ((at_ t36.1 0) == (at_ [0, 0, 29, 17, 19, 5, 60, 18] x0.Kind))) else none)) else (some false)) else none) else none) else none) else (some ((t36.1.length : Int) == 0)))))) else ((shutterlaw07_awake.m K).bind fun t102 => (some t102)))

set_option maxRecDepth 100000 in
theorem shutterlaw07_OrderLengths.calls {I : Gh} {h : Heap} {K : Nat} {x0 : api_Order} {a1 : Option Addr} {c2 : Nat} {x1 : Int} (hB : Bd I h) (r4 : Rd (tInt .u8) I h a1 c2 x0.Text) {r : Bool}
    (H : shutterlaw07_OrderLengths.m K x0 x1 = some r) :
    Ret Try.prog 5 #[.agg #[.int .i64 x0.Kind, .slice a1 x0.Text.length c2, .bool x0.Attr.Protected, .bool x0.Attr.Numeric, .int .i64 x0.Attr.Show, .bool x0.Attr.Modified, .int .i64 x0.Addr, .int .u8 x0.Char], .int .u16 x1] h (fun v h' => ∃ (I' : Gh), .bool r = v ∧ Pst No I h I' h') := by
  unfold shutterlaw07_OrderLengths.m at H
  refine ret_of (args := [.agg #[.int .i64 x0.Kind, .slice a1 x0.Text.length c2, .bool x0.Attr.Protected, .bool x0.Attr.Numeric, .int .i64 x0.Attr.Show, .bool x0.Attr.Modified, .int .i64 x0.Addr, .int .u8 x0.Char], .int .u16 x1]) (rs := [.tmp 4]) (N := 59) Try.func5 rfl rfl rfl (Nat.le_of_ble_eq_true rfl) ?_
  have pt0 : Pst No I h I h := Pst.refl hB
  refine cwp_seq ?_
  refine cwp_region ?_
  refine lwp_op (by kernel_rfl) (owp_box [.int .i64 x0.Kind, .slice a1 x0.Text.length c2, .bool x0.Attr.Protected, .bool x0.Attr.Numeric, .int .i64 x0.Attr.Show, .bool x0.Attr.Modified, .int .i64 x0.Addr, .int .u8 x0.Char] hB (by kernel_rfl) ?_)
  intro b5 h6 hc7 p8 o9
  have pt10 := pt0.no p8
  have fr11 : No b5 ∨ h.size ≤ b5 := .inr (Nat.le_trans pt0.size hc7)
  refine lwp_run 1 (by kernel_rfl) ?_
  refine lwp_nil ?_
  refine cwp_seq ?_
  refine cwp_seq ?_
  refine cwp_region ?_
  obtain ⟨t12, m13, H⟩ := bind_some H
  refine lwp_op (by kernel_rfl) (owp_callF (by kernel_rfl) (shutterlaw07_awake.calls (I := I) p8.bd m13) ?_)
  rintro v14 h15 ⟨I16, rfl, p17⟩
  have pt18 := pt10.no p17
  cases t12
  · rw [cond_false] at H
    refine lwp_run 7 (by kernel_rfl) ?_
    refine lwp_nil ?_
    refine cwp_true (by kernel_rfl) ?_
    refine cwp_seq ?_
    refine cwp_region ?_
    obtain ⟨t102, m103, H⟩ := bind_some H
    refine lwp_op (by kernel_rfl) (owp_callF (by kernel_rfl) (shutterlaw07_awake.calls (I := I16) p17.bd m103) ?_)
    rintro v104 h105 ⟨I106, rfl, p107⟩
    have pt108 := pt18.no p107
    refine lwp_run 1 (by kernel_rfl) ?_
    refine lwp_nil ?_
    refine cwp_ret ?_
    obtain rfl := Option.some.inj H
    show Exists _
    exact ⟨.bool t102, by kernel_rfl, I106, rfl, pt108⟩
  · rw [cond_true] at H
    refine lwp_run 3 (by kernel_rfl) ?_
    have f19 := o9.post p17 (fun x => x.elim)
    refine lwp_op (by kernel_rfl) (owp_load (by kernel_rfl) (by kernel_rfl) (f19.cell (off := 1) rfl) ?_)
    refine lwp_run 1 (by kernel_rfl) ?_
    by_cases c20 : (x0.Text.length : Int) > 300
    · rw [if_pos c20] at H
      refine lwp_op (by kernel_rfl) (owp_pure ((.bool true)) (pr_bool (by kernel_rfl) (decide_eq_true c20)) ?_)
      refine lwp_run 1 (by kernel_rfl) ?_
      refine lwp_nil ?_
      refine cwp_true (by kernel_rfl) ?_
      refine cwp_seq ?_
      refine cwp_region ?_
      obtain ⟨t21, m22, H⟩ := bind_some H
      refine lwp_op (by kernel_rfl) (owp_callF (by kernel_rfl) (shutterlaw07_awake.calls (I := I16) p17.bd m22) ?_)
      rintro v23 h24 ⟨I25, rfl, p26⟩
      have pt27 := pt18.no p26
      refine lwp_run 1 (by kernel_rfl) ?_
      refine lwp_nil ?_
      refine cwp_ret ?_
      obtain rfl := Option.some.inj H
      show Exists _
      exact ⟨.bool t21, by kernel_rfl, I25, rfl, pt27⟩
    · rw [if_neg c20] at H
      refine lwp_op (by kernel_rfl) (owp_pure ((.bool false)) (pr_bool (by kernel_rfl) (decide_eq_false c20)) ?_)
      refine lwp_run 1 (by kernel_rfl) ?_
      refine lwp_nil ?_
      refine cwp_false (by kernel_rfl) ?_
      refine cwp_skip ?_
      refine cwp_seq ?_
      refine cwp_regionD (Keep No h15) 9 (by kernel_rfl) ?_
      refine awp_loadN 0 rfl (by kernel_rfl) (by kernel_rfl) (by kernel_rfl) (by kernel_rfl) (by kernel_rfl) Keep.refl (f19.seg_ 0 8 (Nat.le_of_ble_eq_true rfl)) (fun _ _ x => x.elim) ?_
      refine awp_run (fuel := 7) [1] Keep.refl (by kernel_rfl) ?_
      obtain ⟨t28, m29, H⟩ := bind_some H
      refine awp_op 2 (by kernel_rfl) rfl (by kernel_rfl) (owp_callF (by kernel_rfl) (shutterlaw07_size.calls (I := I16) p17.bd m29) ?_)
      rintro v30 h31 ⟨_, rfl, rfl⟩
      refine ⟨Keep.refl, ?_⟩
      have f34 := r4.up (p8.up hB (fun _ x => x.elim))
      have f35 := f34.up (p17.up p8.bd (fun _ x => x.elim))
      obtain ⟨t36, m37, H⟩ := bind_some H
      refine awp_op 3 (by kernel_rfl) rfl (by kernel_rfl) (owp_callF (by kernel_rfl) (order_Put.calls (I := I16) (B := I16) p17.bd p17.bd (Rd.mono (I' := Or2 I16 I16) f35 (fun _ x => Or.inr x)) m37) ?_)
      rintro v38 h39 ⟨I40, a42, c43, v47, rfl, p41, r45, fr46, q49⟩
      have pt50 := pt18.no p41
      have fr51 := nw_step (M := No) (n := h.size) (fun _ x => x.elim) fr46 pt18.size
      have d52 := step_blk fr46 f19.lt (fun x => x.elim)
      have hK53 := Keep.post (M := No) Keep.refl (Nat.le_refl _) p41 (fun _ x => x.elim)
      refine ⟨hK53, ?_⟩
      refine awp_run (fuel := 0) [4, 5, 6, 7, 8] hK53 (by kernel_rfl) ?_
      refine awp_nil (by kernel_rfl) ?_ 0
      refine cwp_seq ?_
      refine cwp_seq ?_
      refine cwp_region ?_
      refine lwp_run 1 (by kernel_rfl) ?_
      rcases q49.cases with ⟨c54, rfl⟩ | ⟨c54, t55, u56, rfl⟩
      · rw [if_pos c54] at H
        refine lwp_run 1 (by kernel_rfl) ?_
        refine lwp_nil ?_
        refine cwp_false (by kernel_rfl) ?_
        refine cwp_skip ?_
        refine cwp_seq ?_
        refine cwp_region ?_
        refine lwp_run 1 (by kernel_rfl) ?_
        have f57 := f19.post p41 (fun x => x.elim)
        refine lwp_op (by kernel_rfl) (owp_load (by kernel_rfl) (by kernel_rfl) (f57.cell (off := 1) rfl) ?_)
        refine lwp_run 1 (by kernel_rfl) ?_
        refine lwp_op (by kernel_rfl) (owp_buildSlice (e := 3) [.int .i64 0, .int .i64 (x0.Text.length : Int), .int .i64 2, .int .i64 3, .int .i64 1, .int .i64 1, .int .i64 4, .int .i64 3] 1 (.int .i64 0) p41.bd (by kernel_rfl) (by kernel_rfl) (by kernel_rfl) (by kernel_rfl) (by kernel_rfl) ?_)
        intro b58 h59 hc60 p61 o62
        have pt63 := pt50.no p61
        have w64 := o62.own (l := ([0, (x0.Text.length : Int), 2, 3, 1, 1, 4, 3] : List Int)) (Reps.int (I := I40) (k := .i64) (l := [0, (x0.Text.length : Int), 2, 3, 1, 1, 4, 3]))
        have fw64 := some_nw (M := No) (Nat.le_trans pt50.size hc60)
        have d66 := some_ne (ne_new f57.lt hc60)
        have d67 := some_notIn (notIn_new r45.lt hc60)
        refine lwp_run 1 (by kernel_rfl) ?_
        have f68 := f57.post p61 (fun x => x.elim)
        refine lwp_op (by kernel_rfl) (owp_load (by kernel_rfl) (by kernel_rfl) (f68.cell (off := 0) rfl) ?_)
        obtain ⟨c69, H⟩ := guard_pos H
        obtain ⟨c70, H⟩ := guard_pos H
        have hs71 := (w64.toSl).isSome c69 c70
        refine lwp_op (by kernel_rfl) (owp_pure (elemPtr (some ⟨b58, 0, none⟩) (x0.Kind.toNat * 1)) (pr_indexElem (e := 3) (w64.toSl) (k := .i64) (by kernel_rfl) (by kernel_rfl) (by kernel_rfl) (by kernel_rfl) c69 c70) ?_)
        obtain ⟨cs72, hs73, rp74⟩ := (w64.toSl).seg c69 c70
        obtain rfl := rep_int rp74
        refine lwp_op (by kernel_rfl) (owp_load (by kernel_rfl) (by kernel_rfl) (seg_cell (f := 0) hs73 rfl) ?_)
        refine lwp_run 1 (by kernel_rfl) ?_
        refine lwp_nil ?_
        refine cwp_seq ?_
        refine cwp_region ?_
        refine lwp_op (by kernel_rfl) (owp_buildSlice (e := 5) [.int .u8 0, .int .u8 0, .int .u8 29, .int .u8 17, .int .u8 19, .int .u8 5, .int .u8 60, .int .u8 18] 1 (.int .u8 0) p61.bd (by kernel_rfl) (by kernel_rfl) (by kernel_rfl) (by kernel_rfl) (by kernel_rfl) ?_)
        intro b75 h76 hc77 p78 o79
        have pt80 := pt63.no p78
        have w81 := o79.own (l := ([0, 0, 29, 17, 19, 5, 60, 18] : List Int)) (Reps.int (I := I40) (k := .u8) (l := [0, 0, 29, 17, 19, 5, 60, 18]))
        have fw81 := some_nw (M := No) (Nat.le_trans pt63.size hc77)
        have d83 := some_ne (ne_new f68.lt hc77)
        have f84 := r45.post p41.bd p61 (fun _ x => x.elim) (fun _ _ x => x.elim)
        have d85 := some_notIn (notIn_new f84.lt hc77)
        have d86 := some_notIn (notIn_new w64.lt hc77)
        refine lwp_run 1 (by kernel_rfl) ?_
        have f87 := f68.post p78 (fun x => x.elim)
        refine lwp_op (by kernel_rfl) (owp_load (by kernel_rfl) (by kernel_rfl) (f87.cell (off := 0) rfl) ?_)
        obtain ⟨c88, H⟩ := guard_pos H
        have hs89 := (w81.toSl).isSome c69 c88
        refine lwp_op (by kernel_rfl) (owp_pure (elemPtr (some ⟨b75, 0, none⟩) (x0.Kind.toNat * 1)) (pr_indexElem (e := 5) (w81.toSl) (k := .i64) (by kernel_rfl) (by kernel_rfl) (by kernel_rfl) (by kernel_rfl) c69 c88) ?_)
        obtain ⟨cs90, hs91, rp92⟩ := (w81.toSl).seg c69 c88
        obtain rfl := rep_int rp92
        refine lwp_op (by kernel_rfl) (owp_load (by kernel_rfl) (by kernel_rfl) (seg_cell (f := 0) hs91 rfl) ?_)
        refine lwp_run 1 (by kernel_rfl) ?_
        refine lwp_nil ?_
        refine cwp_seq ?_
        refine cwp_region ?_
        refine lwp_run 3 (by kernel_rfl) ?_
        by_cases c93 : (t36.1.length : Int) = (at_ [0, (x0.Text.length : Int), 2, 3, 1, 1, 4, 3] x0.Kind)
        · rw [if_pos c93] at H
          refine lwp_op (by kernel_rfl) (owp_pure ((.bool true)) (pr_bool (by kernel_rfl) (eqT c93)) ?_)
          refine lwp_run 2 (by kernel_rfl) ?_
          refine lwp_op (by kernel_rfl) (owp_load (by kernel_rfl) (by kernel_rfl) (f87.cell (off := 0) rfl) ?_)
          by_cases c94 : x0.Kind = 1
          · rw [if_pos c94] at H
            refine lwp_op (by kernel_rfl) (owp_pure ((.bool true)) (pr_bool (by kernel_rfl) (eqT c94)) ?_)
            refine lwp_run 9 (by kernel_rfl) ?_
            refine lwp_nil ?_
            refine cwp_ret ?_
            obtain rfl := Option.some.inj H
            show Exists _
            exact ⟨.bool true, by kernel_rfl, I40, rfl, pt80⟩
          · rw [if_neg c94] at H
            refine lwp_op (by kernel_rfl) (owp_pure ((.bool false)) (pr_bool (by kernel_rfl) (eqF c94)) ?_)
            obtain ⟨c95, H⟩ := guard_pos H
            refine lwp_run 2 (by kernel_rfl) ?_
            have f96 := r45.post p41.bd p61 (fun _ x => x.elim) (fun _ _ x => x.elim)
            have f97 := f96.post p61.bd p78 (fun _ x => x.elim) (fun _ _ x => x.elim)
            have hs98 := (f97.toSl).isSome (by decide) c95
            refine lwp_op (by kernel_rfl) (owp_pure (elemPtr a42 ((0 : Int).toNat * 1)) (pr_indexElem (e := 5) (f97.toSl) (k := .i64) (by kernel_rfl) (by kernel_rfl) (by kernel_rfl) (by kernel_rfl) (by decide) c95) ?_)
            obtain ⟨cs99, hs100, rp101⟩ := (f97.toSl).seg (by decide) c95
            obtain rfl := rep_int rp101
            refine lwp_op (by kernel_rfl) (owp_load (by kernel_rfl) (by kernel_rfl) (seg_cell (f := 0) hs100 rfl) ?_)
            refine lwp_run 5 (by kernel_rfl) ?_
            refine lwp_nil ?_
            refine cwp_ret ?_
            obtain rfl := Option.some.inj H
            show Exists _
            exact ⟨.bool ((at_ t36.1 0) == (at_ [0, 0, 29, 17, 19, 5, 60, 18] x0.Kind)), by kernel_rfl, I40, rfl, pt80⟩
        · rw [if_neg c93] at H
          refine lwp_op (by kernel_rfl) (owp_pure ((.bool false)) (pr_bool (by kernel_rfl) (eqF c93)) ?_)
          refine lwp_run 13 (by kernel_rfl) ?_
          refine lwp_nil ?_
          refine cwp_ret ?_
          obtain rfl := Option.some.inj H
          show Exists _
          exact ⟨.bool false, by kernel_rfl, I40, rfl, pt80⟩
      · rw [if_neg c54] at H
        refine lwp_run 1 (by kernel_rfl) ?_
        refine lwp_nil ?_
        refine cwp_true (by kernel_rfl) ?_
        refine cwp_seq ?_
        refine cwp_region ?_
        refine lwp_run 4 (by kernel_rfl) ?_
        refine lwp_nil ?_
        refine cwp_ret ?_
        obtain rfl := Option.some.inj H
        show Exists _
        exact ⟨.bool ((t36.1.length : Int) == 0), by kernel_rfl, I40, rfl, pt50⟩

end Go.Proofs.Ytociikgdocjfnaa.Sx
