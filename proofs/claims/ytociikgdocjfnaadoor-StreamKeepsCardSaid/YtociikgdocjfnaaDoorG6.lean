/- Printed walks, part 6: each function's model, and that the code comes to it. -/
import Derived.Test.YtociikgdocjfnaaDoorProg
import Derived.Test.YtociikgdocjfnaaDoorSx9
import Derived.Test.YtociikgdocjfnaaDoorG5
namespace Go.Proofs.YtociikgdocjfnaaDoor.Sx
open Go

/-! shutter/stream.Read -/
def stream_Read.l1.m (K : Nat) (x1 : Int) : Nat → (List Int) → Int → GoErr → Int → Bool → Bool → Bool → (List api_Order) → Option ((List Int) × Int × GoErr × Int × Bool × Bool × Bool × (List api_Order))
  | 0, _, _, _, _, _, _, _, _ => none
  | k + 1, x284, x289, x290, x295, x296, x297, x298, x299 => ((bytes_Cursor_Left.m (⟨x284, x289, x290⟩ : bytes_Cursor)).bind fun t346 => (if t346.1 > 0 then ((bytes_Cursor_Err.m t346.2).bind fun t362 => (if t362.1 = GoErr.nil then ((order_Get.m K t362.2 x1).bind fun t385 => ((app x299 [t385.1]).bind fun l449 => (stream_Read.l1.m K x1 k t385.2.b' t385.2.at' t385.2.err' x295 x296 x297 x298 l449))) else (some ((t362.2.b', t362.2.at', t362.2.err', x295, x296, x297, x298, x299))))) else (some ((t346.2.b', t346.2.at', t346.2.err', x295, x296, x297, x298, x299)))))
def stream_Read.m (K : Nat) (x0 : (List Int)) (x1 : Int) : Option (api_Out × GoErr) :=
  (if (x0.length : Int) > 8192 then ((stream_spot.m 8192 (GoErr.no 6)).bind fun t13 => (some ((⟨0, (⟨false, false, false⟩ : api_Wcc), []⟩ : api_Out), t13))) else ((bytes_New.m x0).bind fun t30 => (letJ (α := Int → Bool → (List Int) → Int → GoErr → Option (api_Out × GoErr)) (fun (x68 : Int) (x69 : Bool) (x71 : List Int) (x76 : Int) (x77 : GoErr) => (letJ (α := Bool → Option (api_Out × GoErr)) (fun (x87 : Bool) => (bif x87 then ((stream_spot.m 0 (GoErr.no 2)).bind fun t93 => (some ((⟨0, (⟨false, false, false⟩ : api_Wcc), []⟩ : api_Out), t93))) else ((stream_known.m (w64 (x68))).bind fun t109 => bif t109 then ((bytes_Cursor_Byte.m (⟨x71, x76, x77⟩ : bytes_Cursor)).bind fun t115 => (letJ (α := Bool → Option (api_Out × GoErr)) (fun (x153 : Bool) => (bif x153 then ((bytes_Cursor_Left.m t115.2).bind fun t160 => (if t160.1 > 0 then ((stream_spot.m 1 (GoErr.no 1)).bind fun t176 => (some ((⟨0, (⟨false, false, false⟩ : api_Wcc), []⟩ : api_Out), t176))) else (some ((⟨(w64 (t115.1)), (⟨false, false, false⟩ : api_Wcc), []⟩ : api_Out), GoErr.nil)))) else ((bytes_Cursor_Byte.m t115.2).bind fun t199 => ((bytes_Cursor_Err.m t199.2).bind fun t214 => (if t214.1 = GoErr.nil then ((attr_GetWcc.m t199.1).bind fun t235 => (if t235.2 = GoErr.nil then (letJ (α := (List Int) → Int → GoErr → Int → Bool → Bool → Bool → (List api_Order) → Option (api_Out × GoErr)) (fun (x458 : List Int) (x463 : Int) (x464 : GoErr) (x469 : Int) (x470 : Bool) (x471 : Bool) (x472 : Bool) (x473 : List api_Order) => ((bytes_Cursor_Err.m (⟨x458, x463, x464⟩ : bytes_Cursor)).bind fun t486 => (if t486.1 = GoErr.nil then (some ((⟨x469, (⟨x470, x471, x472⟩ : api_Wcc), x473⟩ : api_Out), GoErr.nil)) else ((bytes_Cursor_Err.m t486.2).bind fun t515 => (some ((⟨0, (⟨false, false, false⟩ : api_Wcc), []⟩ : api_Out), t515.1)))))) fun (j485 : (List Int) → Int → GoErr → Int → Bool → Bool → Bool → (List api_Order) → Option (api_Out × GoErr)) => ((stream_Read.l1.m K x1 K t214.2.b' t214.2.at' t214.2.err' (w64 (t115.1)) t235.1.Alarm t235.1.Unlock t235.1.Reset []).bind fun (x317, x322, x323, x328, x329, x330, x331, x332) => (j485 x317 x322 x323 x328 x329 x330 x331 x332))) else ((stream_spot.m 1 t235.2).bind fun t541 => (some ((⟨0, (⟨false, false, false⟩ : api_Wcc), []⟩ : api_Out), t541))))) else ((bytes_Cursor_Err.m t214.2).bind fun t562 => (some ((⟨0, (⟨false, false, false⟩ : api_Wcc), []⟩ : api_Out), t562.1)))))))) fun (j159 : Bool → Option (api_Out × GoErr)) => ((stream_Writes.m (w64 (t115.1))).bind fun t144 => bif t144 then (j159 false) else (j159 true)))) else ((stream_spot.m 0 (GoErr.no 5)).bind fun t589 => (some ((⟨0, (⟨false, false, false⟩ : api_Wcc), []⟩ : api_Out), t589)))))) fun (j92 : Bool → Option (api_Out × GoErr)) => (bif x69 then (j92 false) else (j92 true)))) fun (j82 : Int → Bool → (List Int) → Int → GoErr → Option (api_Out × GoErr)) => ((bytes_Cursor_Peek.m t30).bind fun t49 => (bif t49.2.1 then (j82 t49.1 true t49.2.2.b' t49.2.2.at' t49.2.2.err') else (j82 t49.1 false t49.2.2.b' t49.2.2.at' t49.2.2.err'))))))

set_option maxRecDepth 100000 in
theorem stream_Read.calls {I B : Gh} {h : Heap} {K : Nat} {x0 : List Int} {a1 : Option Addr} {c2 : Nat} {x1 : Int} (hB : Bd I h) (hBB : Bd B h) (r4 : Rd (tInt .u8) (Or2 I B) h a1 c2 x0) {r : (api_Out × GoErr)}
    (H : stream_Read.m K x0 x1 = some r) :
    Ret Tryd.prog 31 #[.slice a1 x0.length c2, .int .i64 x1] h (fun v h' => ∃ (I' : Gh) (a607 : Option Addr) (c608 : Nat) (v612 : Value), .tuple #[.agg #[.int .i64 r.1.Cmd, .bool r.1.Wcc.Alarm, .bool r.1.Wcc.Unlock, .bool r.1.Wcc.Reset, .slice a607 r.1.Orders.length c608], v612] = v ∧ Pst No I h I' h' ∧ Own t_api_Order I' h' a607 c608 r.1.Orders ∧ (∀ b, InA a607 b → No b ∨ h.size ≤ b) ∧ ErrV I' h' r.2 v612) := by
  unfold stream_Read.m at H
  refine ret_of2 (args := [.slice a1 x0.length c2, .int .i64 x1]) (rs := [.cell 4 54, .tmp 5]) (N := 98) Tryd.func31 rfl rfl rfl (Nat.le_of_ble_eq_true rfl) ?_
  have pt0 : Pst No I h I h := Pst.refl hB
  refine cwp_seq ?_
  refine cwp_region ?_
  refine lwp_op (by kernel_rfl) (owp_alloc [.int .i64 0, .bool false, .bool false, .bool false, .slice none 0 0] (.agg #[.int .i64 0, .bool false, .bool false, .bool false, .slice none 0 0]) hB (by kernel_rfl) (by kernel_rfl) ?_)
  intro b5 h6 hc7 p8 o9
  have pt10 := pt0.no p8
  have fr11 : No b5 ∨ h.size ≤ b5 := .inr (Nat.le_trans pt0.size hc7)
  refine lwp_run 1 (by kernel_rfl) ?_
  refine lwp_nil ?_
  refine cwp_seq ?_
  refine cwp_seq ?_
  refine cwp_region ?_
  refine lwp_run 2 (by kernel_rfl) ?_
  by_cases c12 : (x0.length : Int) > 8192
  · rw [if_pos c12] at H
    refine lwp_op (by kernel_rfl) (owp_pure ((.bool true)) (pr_bool (by kernel_rfl) (decide_eq_true c12)) ?_)
    refine lwp_nil ?_
    refine cwp_true (by kernel_rfl) ?_
    refine cwp_seq ?_
    refine cwp_region ?_
    refine lwp_run 2 (by kernel_rfl) ?_
    obtain ⟨t13, m14, H⟩ := bind_some H
    refine lwp_op (by kernel_rfl) (owp_callF (by kernel_rfl) (stream_spot.calls (I := I) p8.bd (show ErrV I h6 (GoErr.no 6) (.iface 78 (.int .i64 6)) from rfl) m14) ?_)
    rintro v15 h16 ⟨I17, v19, rfl, p18, q21⟩
    have pt22 := pt10.no p18
    have f23 := o9.post p18 (fun x => x.elim)
    refine lwp_op (by kernel_rfl) (owp_storeN 0 [.int .i64 0, .bool false, .bool false, .bool false, .slice none 0 0] p18.bd f23 (by kernel_rfl) (by kernel_rfl) (by simp [Value.oneCell']) (by kernel_rfl) (Nat.le_of_ble_eq_true rfl) ?_)
    intro h24 p25 o26
    have pt27 := pt22.own p25 (one_nw fr11)
    refine lwp_run 1 (by kernel_rfl) ?_
    refine lwp_nil ?_
    refine cwp_ret ?_
    obtain rfl := Option.some.inj H
    have f28 := ErrV.up (p25.up p18.bd (one_not f23.no)) q21
    show Exists _
    exact ⟨[.agg #[.int .i64 0, .bool false, .bool false, .bool false, .slice none 0 0], v19], (.cons (.agg (by kernel_rfl) (by kernel_rfl) (by kernel_rfl) (o26.seg_ 0 5 (Nat.le_of_ble_eq_true rfl))) (.cons (.tmp (by kernel_rfl)) .nil)), I17, none, 0, (v19), rfl, pt27, (own_nil t_api_Order I17 I17 h24), none_nw, f28⟩
  · rw [if_neg c12] at H
    refine lwp_op (by kernel_rfl) (owp_pure ((.bool false)) (pr_bool (by kernel_rfl) (decide_eq_false c12)) ?_)
    refine lwp_nil ?_
    refine cwp_false (by kernel_rfl) ?_
    refine cwp_skip ?_
    refine cwp_seq ?_
    refine cwp_region ?_
    refine lwp_run 1 (by kernel_rfl) ?_
    have f29 := r4.up (upOr (p8.up hB (fun _ x => x.elim)) (keepB p8 (hBB.mono pt0.size) (fun _ x => x.elim)))
    obtain ⟨t30, m31, H⟩ := bind_some H
    refine lwp_op (by kernel_rfl) (owp_callF (by kernel_rfl) (bytes_New.calls (I := I) (B := (Or2 I B)) p8.bd (bdOr p8.bd (hBB.mono pt10.size)) (Rd.mono (I' := Or2 I (Or2 I B)) f29 (fun _ x => Or.inr x)) m31) ?_)
    rintro v32 h33 ⟨I34, b36, a37, c38, v41, rfl, p35, r40, q43, o44, fr45⟩
    have pt46 := pt10.no p35
    have fr47 := nw1_step (M := No) (n := h.size) fr45 (fun _ x => x.elim) pt10.size
    have d48 := step1_blk fr45 o9.lt (fun x => x.elim)
    refine lwp_run 1 (by kernel_rfl) ?_
    refine lwp_nil ?_
    obtain ⟨j82, e606, H⟩ := letJ_some H
    refine cwp_join (fun ρ' h65 => ∃ (x68 : Int) (x69 : Bool) (x71 : List Int) (x76 : Int) (x77 : GoErr) (a72 : Option Addr) (c73 : Nat) (v78 : Value) (I66 : Gh), j82 x68 x69 x71 x76 x77 = some r ∧ Fits [(1, .int .i64 x1), (4, .pointer (some ⟨b5, 0, none⟩)), (6, .pointer (some ⟨b36, 0, none⟩)), (7, .int .u8 x68), (8, .bool x69)] ρ' ∧ Pst No I h I66 h65 ∧ OwnB I66 h65 b5 [.int .i64 0, .bool false, .bool false, .bool false, .slice none 0 0] 54 ∧ Rd (tInt .u8) I66 h65 a72 c73 x71 ∧ ErrV I66 h65 x77 v78 ∧ OwnB I66 h65 b36 [.slice a72 x71.length c73, .int .i64 x76, v78] 88) ?_ ?_
    · refine cwp_region ?_
      refine lwp_run 1 (by kernel_rfl) ?_
      obtain ⟨t49, m50, H⟩ := bind_some H
      refine lwp_op (by kernel_rfl) (owp_callF (by kernel_rfl) (bytes_Cursor_Peek.calls (I := I34) p35.bd o44 r40 q43 m50) ?_)
      rintro v51 h52 ⟨I53, a55, c56, v59, rfl, p54, r58, q61, o62⟩
      have pt63 := pt46.own p54 (one_nw fr47)
      refine lwp_run 2 (by kernel_rfl) ?_
      rcases bool_or t49.2.1 with c64 | c64
      · replace H := bif_f c64 H
        refine lwp_op (by kernel_rfl) (owp_pure ((.bool false)) (pr_bool (by kernel_rfl) c64) ?_)
        refine lwp_run 2 (by kernel_rfl) ?_
        refine lwp_nil ?_
        have f100086 := o9.post p35 (fun x => x.elim)
        have f100087 := f100086.post p54 (fun e => d48 e.symm)
        exact ⟨t49.1, false, t49.2.2.b', t49.2.2.at', t49.2.2.err', a55, c56, v59, I53, H, ⟨by kernel_rfl, by kernel_rfl, by kernel_rfl, by kernel_rfl, by kernel_rfl, trivial⟩, pt63, f100087, r58, q61, o62⟩
      · replace H := bif_t c64 H
        refine lwp_op (by kernel_rfl) (owp_pure ((.bool true)) (pr_bool (by kernel_rfl) c64) ?_)
        refine lwp_run 2 (by kernel_rfl) ?_
        refine lwp_nil ?_
        have f100084 := o9.post p35 (fun x => x.elim)
        have f100085 := f100084.post p54 (fun e => d48 e.symm)
        exact ⟨t49.1, true, t49.2.2.b', t49.2.2.at', t49.2.2.err', a55, c56, v59, I53, H, ⟨by kernel_rfl, by kernel_rfl, by kernel_rfl, by kernel_rfl, by kernel_rfl, trivial⟩, pt63, f100085, r58, q61, o62⟩
    · clear H
      rintro ρ' h65 ⟨x68, x69, x71, x76, x77, a72, c73, v78, I66, H, hf, pt67, o70, r74, q79, o81⟩
      refine cwp_fits _ hf ?_
      subst e606
      try dsimp only at H
      refine cwp_seq ?_
      refine cwp_block ?_
      obtain ⟨j92, e605, H⟩ := letJ_some H
      refine cwp_join (fun ρ' h84 => ∃ (x87 : Bool) (I85 : Gh), j92 x87 = some r ∧ Fits [(1, .int .i64 x1), (4, .pointer (some ⟨b5, 0, none⟩)), (6, .pointer (some ⟨b36, 0, none⟩)), (7, .int .u8 x68), (26, .bool x87)] ρ' ∧ Pst No I h I85 h84 ∧ OwnB I85 h84 b5 [.int .i64 0, .bool false, .bool false, .bool false, .slice none 0 0] 54 ∧ Rd (tInt .u8) I85 h84 a72 c73 x71 ∧ ErrV I85 h84 x77 v78 ∧ OwnB I85 h84 b36 [.slice a72 x71.length c73, .int .i64 x76, v78] 88) ?_ ?_
      · refine cwp_region ?_
        rcases bool_or x69 with c83 | c83
        · replace H := bif_f c83 H
          refine lwp_op (by kernel_rfl) (owp_pure ((.bool false)) (pr_bool (by kernel_rfl) c83) ?_)
          refine lwp_run 2 (by kernel_rfl) ?_
          refine lwp_nil ?_
          exact ⟨true, I66, H, ⟨by kernel_rfl, by kernel_rfl, by kernel_rfl, by kernel_rfl, by kernel_rfl, trivial⟩, pt67, o70, r74, q79, o81⟩
        · replace H := bif_t c83 H
          refine lwp_op (by kernel_rfl) (owp_pure ((.bool true)) (pr_bool (by kernel_rfl) c83) ?_)
          refine lwp_run 2 (by kernel_rfl) ?_
          refine lwp_nil ?_
          exact ⟨false, I66, H, ⟨by kernel_rfl, by kernel_rfl, by kernel_rfl, by kernel_rfl, by kernel_rfl, trivial⟩, pt67, o70, r74, q79, o81⟩
      · clear H
        rintro ρ' h84 ⟨x87, I85, H, hf, pt86, o88, r89, q90, o91⟩
        refine cwp_fits _ hf ?_
        subst e605
        try dsimp only at H
        cases x87
        · rw [cond_false] at H
          refine cwp_false (by kernel_rfl) ?_
          refine cwp_seq ?_
          refine cwp_region ?_
          refine lwp_run 2 (by kernel_rfl) ?_
          obtain ⟨t109, m110, H⟩ := bind_some H
          refine lwp_op (by kernel_rfl) (owp_callF (by kernel_rfl) (stream_known.calls (I := I85) pt86.bd m110) ?_)
          rintro v111 h112 ⟨_, rfl, rfl⟩
          cases t109
          · rw [cond_false] at H
            refine lwp_run 2 (by kernel_rfl) ?_
            refine lwp_nil ?_
            refine cwp_true (by kernel_rfl) ?_
            refine cwp_seq ?_
            refine cwp_region ?_
            refine lwp_run 2 (by kernel_rfl) ?_
            obtain ⟨t589, m590, H⟩ := bind_some H
            refine lwp_op (by kernel_rfl) (owp_callF (by kernel_rfl) (stream_spot.calls (I := I85) pt86.bd (show ErrV I85 h84 (GoErr.no 5) (.iface 78 (.int .i64 5)) from rfl) m590) ?_)
            rintro v591 h592 ⟨I593, v595, rfl, p594, q597⟩
            have pt598 := pt86.no p594
            have f599 := o88.post p594 (fun x => x.elim)
            refine lwp_op (by kernel_rfl) (owp_storeN 0 [.int .i64 0, .bool false, .bool false, .bool false, .slice none 0 0] p594.bd f599 (by kernel_rfl) (by kernel_rfl) (by simp [Value.oneCell']) (by kernel_rfl) (Nat.le_of_ble_eq_true rfl) ?_)
            intro h600 p601 o602
            have pt603 := pt598.own p601 (one_nw fr11)
            refine lwp_run 1 (by kernel_rfl) ?_
            refine lwp_nil ?_
            refine cwp_ret ?_
            obtain rfl := Option.some.inj H
            have f604 := ErrV.up (p601.up p594.bd (one_not f599.no)) q597
            show Exists _
            exact ⟨[.agg #[.int .i64 0, .bool false, .bool false, .bool false, .slice none 0 0], v595], (.cons (.agg (by kernel_rfl) (by kernel_rfl) (by kernel_rfl) (o602.seg_ 0 5 (Nat.le_of_ble_eq_true rfl))) (.cons (.tmp (by kernel_rfl)) .nil)), I593, none, 0, (v595), rfl, pt603, (own_nil t_api_Order I593 I593 h600), none_nw, f604⟩
          · rw [cond_true] at H
            refine lwp_run 2 (by kernel_rfl) ?_
            refine lwp_nil ?_
            refine cwp_false (by kernel_rfl) ?_
            refine cwp_skip ?_
            refine cwp_seq ?_
            refine cwp_region ?_
            refine lwp_run 1 (by kernel_rfl) ?_
            obtain ⟨t115, m116, H⟩ := bind_some H
            refine lwp_op (by kernel_rfl) (owp_callF (by kernel_rfl) (bytes_Cursor_Byte.calls (I := I85) pt86.bd o91 r89 q90 m116) ?_)
            rintro v117 h118 ⟨I119, a121, c122, v125, rfl, p120, r124, q127, o128⟩
            have pt129 := pt86.own p120 (one_nw fr47)
            refine lwp_run 2 (by kernel_rfl) ?_
            refine lwp_op (by kernel_rfl) (owp_alloc [.int .i64 0, .bool false, .bool false, .bool false, .slice none 0 0] (.agg #[.int .i64 0, .bool false, .bool false, .bool false, .slice none 0 0]) p120.bd (by kernel_rfl) (by kernel_rfl) ?_)
            intro b130 h131 hc132 p133 o134
            have pt135 := pt129.no p133
            have fr136 : No b130 ∨ h.size ≤ b130 := .inr (Nat.le_trans pt129.size hc132)
            have f137 := o88.post p120 (fun e => d48 e.symm)
            have d138 := ne_new f137.lt hc132
            have d139 := ne_new o128.lt hc132
            refine lwp_op (by kernel_rfl) (owp_storeN 0 [.int .i64 (w64 (t115.1)), .bool false, .bool false, .bool false, .slice none 0 0] p133.bd o134 (by kernel_rfl) (by kernel_rfl) (by simp [Value.oneCell']) (by kernel_rfl) (Nat.le_of_ble_eq_true rfl) ?_)
            intro h140 p141 o142
            have pt143 := pt135.own p141 (one_nw fr136)
            refine lwp_nil ?_
            refine cwp_seq ?_
            obtain ⟨j159, e588, H⟩ := letJ_some H
            refine cwp_join (fun ρ' h150 => ∃ (x153 : Bool) (I151 : Gh), j159 x153 = some r ∧ Fits [(1, .int .i64 x1), (4, .pointer (some ⟨b5, 0, none⟩)), (6, .pointer (some ⟨b36, 0, none⟩)), (9, .pointer (some ⟨b130, 0, none⟩)), (47, .bool x153)] ρ' ∧ Pst No I h I151 h150 ∧ OwnB I151 h150 b5 [.int .i64 0, .bool false, .bool false, .bool false, .slice none 0 0] 54 ∧ Rd (tInt .u8) I151 h150 a121 c122 t115.2.b' ∧ ErrV I151 h150 t115.2.err' v125 ∧ OwnB I151 h150 b36 [.slice a121 t115.2.b'.length c122, .int .i64 t115.2.at', v125] 88 ∧ OwnB I151 h150 b130 [.int .i64 (w64 (t115.1)), .bool false, .bool false, .bool false, .slice none 0 0] 54) ?_ ?_
            · refine cwp_region ?_
              refine lwp_run 1 (by kernel_rfl) ?_
              refine lwp_op (by kernel_rfl) (owp_load (by kernel_rfl) (by kernel_rfl) (o142.cell (off := 0) rfl) ?_)
              obtain ⟨t144, m145, H⟩ := bind_some H
              refine lwp_op (by kernel_rfl) (owp_callF (by kernel_rfl) (stream_Writes.calls (I := I119) p141.bd m145) ?_)
              rintro v146 h147 ⟨_, rfl, rfl⟩
              cases t144
              · rw [cond_false] at H
                refine lwp_run 1 (by kernel_rfl) ?_
                refine lwp_nil ?_
                have f100075 := o88.post p120 (fun e => d48 e.symm)
                have f100076 := f100075.post p133 (fun x => x.elim)
                have f100077 := f100076.post p141 (fun e => d138 e.symm)
                have f100078 := r124.up (p133.up p120.bd (fun _ x => x.elim))
                have f100079 := f100078.up (p141.up p133.bd (one_not o134.no))
                have f100080 := ErrV.up (p133.up p120.bd (fun _ x => x.elim)) q127
                have f100081 := ErrV.up (p141.up p133.bd (one_not o134.no)) f100080
                have f100082 := o128.post p133 (fun x => x.elim)
                have f100083 := f100082.post p141 (fun e => d139 e.symm)
                exact ⟨true, I119, H, ⟨by kernel_rfl, by kernel_rfl, by kernel_rfl, by kernel_rfl, by kernel_rfl, trivial⟩, pt143, f100077, f100079, f100081, f100083, o142⟩
              · rw [cond_true] at H
                refine lwp_run 1 (by kernel_rfl) ?_
                refine lwp_nil ?_
                have f100066 := o88.post p120 (fun e => d48 e.symm)
                have f100067 := f100066.post p133 (fun x => x.elim)
                have f100068 := f100067.post p141 (fun e => d138 e.symm)
                have f100069 := r124.up (p133.up p120.bd (fun _ x => x.elim))
                have f100070 := f100069.up (p141.up p133.bd (one_not o134.no))
                have f100071 := ErrV.up (p133.up p120.bd (fun _ x => x.elim)) q127
                have f100072 := ErrV.up (p141.up p133.bd (one_not o134.no)) f100071
                have f100073 := o128.post p133 (fun x => x.elim)
                have f100074 := f100073.post p141 (fun e => d139 e.symm)
                exact ⟨false, I119, H, ⟨by kernel_rfl, by kernel_rfl, by kernel_rfl, by kernel_rfl, by kernel_rfl, trivial⟩, pt143, f100068, f100070, f100072, f100074, o142⟩
            · clear H
              rintro ρ' h150 ⟨x153, I151, H, hf, pt152, o154, r155, q156, o157, o158⟩
              refine cwp_fits _ hf ?_
              subst e588
              try dsimp only at H
              cases x153
              · rw [cond_false] at H
                refine cwp_false (by kernel_rfl) ?_
                refine cwp_skip ?_
                refine cwp_seq ?_
                refine cwp_region ?_
                refine lwp_run 1 (by kernel_rfl) ?_
                obtain ⟨t199, m200, H⟩ := bind_some H
                refine lwp_op (by kernel_rfl) (owp_callF (by kernel_rfl) (bytes_Cursor_Byte.calls (I := I151) pt152.bd o157 r155 q156 m200) ?_)
                rintro v201 h202 ⟨I203, a205, c206, v209, rfl, p204, r208, q211, o212⟩
                have pt213 := pt152.own p204 (one_nw fr47)
                refine lwp_run 1 (by kernel_rfl) ?_
                refine lwp_nil ?_
                refine cwp_seq ?_
                refine cwp_seq ?_
                refine cwp_region ?_
                refine lwp_run 1 (by kernel_rfl) ?_
                obtain ⟨t214, m215, H⟩ := bind_some H
                refine lwp_op (by kernel_rfl) (owp_callF (by kernel_rfl) (bytes_Cursor_Err.calls (I := I203) p204.bd o212 r208 q211 m215) ?_)
                rintro v216 h217 ⟨I218, v220, a223, c224, v227, rfl, p219, q222, r226, q229, o230⟩
                have pt231 := pt213.own p219 (one_nw fr47)
                rcases q222.cases with ⟨c232, rfl⟩ | ⟨c232, t233, u234, rfl⟩
                · rw [if_pos c232] at H
                  refine lwp_run 1 (by kernel_rfl) ?_
                  refine lwp_nil ?_
                  refine cwp_false (by kernel_rfl) ?_
                  refine cwp_skip ?_
                  refine cwp_seq ?_
                  refine cwp_region ?_
                  refine lwp_run 1 (by kernel_rfl) ?_
                  obtain ⟨t235, m236, H⟩ := bind_some H
                  refine lwp_op (by kernel_rfl) (owp_callF (by kernel_rfl) (attr_GetWcc.calls (I := I218) p219.bd m236) ?_)
                  rintro v237 h238 ⟨I239, v241, rfl, p240, q243⟩
                  have pt244 := pt231.no p240
                  refine lwp_run 3 (by kernel_rfl) ?_
                  refine lwp_op (by kernel_rfl) (owp_alloc [.bool false, .bool false, .bool false] (.agg #[.bool false, .bool false, .bool false]) p240.bd (by kernel_rfl) (by kernel_rfl) ?_)
                  intro b245 h246 hc247 p248 o249
                  have pt250 := pt244.no p248
                  have fr251 : No b245 ∨ h.size ≤ b245 := .inr (Nat.le_trans pt244.size hc247)
                  have f252 := o154.post p204 (fun e => d48 e.symm)
                  have f253 := f252.post p219 (fun e => d48 e.symm)
                  have f254 := f253.post p240 (fun x => x.elim)
                  have d255 := ne_new f254.lt hc247
                  have f256 := o230.post p240 (fun x => x.elim)
                  have d257 := ne_new f256.lt hc247
                  have f258 := o158.post p204 d139
                  have f259 := f258.post p219 d139
                  have f260 := f259.post p240 (fun x => x.elim)
                  have d261 := ne_new f260.lt hc247
                  refine lwp_op (by kernel_rfl) (owp_storeN 0 [.bool t235.1.Alarm, .bool t235.1.Unlock, .bool t235.1.Reset] p248.bd o249 (by kernel_rfl) (by kernel_rfl) (by simp [Value.oneCell']) (by kernel_rfl) (Nat.le_of_ble_eq_true rfl) ?_)
                  intro h262 p263 o264
                  have pt265 := pt250.own p263 (one_nw fr251)
                  refine lwp_run 1 (by kernel_rfl) ?_
                  refine lwp_nil ?_
                  refine cwp_seq ?_
                  refine cwp_seq ?_
                  refine cwp_region ?_
                  refine lwp_run 1 (by kernel_rfl) ?_
                  have f266 := ErrV.up (p248.up p240.bd (fun _ x => x.elim)) q243
                  have f267 := ErrV.up (p263.up p248.bd (one_not o249.no)) f266
                  rcases f267.cases with ⟨c268, rfl⟩ | ⟨c268, t269, u270, rfl⟩
                  · rw [if_pos c268] at H
                    refine lwp_run 1 (by kernel_rfl) ?_
                    refine lwp_nil ?_
                    refine cwp_false (by kernel_rfl) ?_
                    refine cwp_skip ?_
                    refine cwp_seq ?_
                    refine cwp_region ?_
                    refine lwp_op (by kernel_rfl) (owp_loadN (by kernel_rfl) (by kernel_rfl) (by kernel_rfl) (o264.seg_ 0 3 (Nat.le_of_ble_eq_true rfl)) ?_)
                    refine lwp_run 1 (by kernel_rfl) ?_
                    have f271 := o158.post p204 d139
                    have f272 := f271.post p219 d139
                    have f273 := f272.post p240 (fun x => x.elim)
                    have f274 := f273.post p248 (fun x => x.elim)
                    have f275 := f274.post p263 (fun e => d261 e.symm)
                    refine lwp_op (by kernel_rfl) (owp_storeN 1 [.bool t235.1.Alarm, .bool t235.1.Unlock, .bool t235.1.Reset] p263.bd f275 (by kernel_rfl) (by kernel_rfl) (by simp [Value.oneCell']) (by kernel_rfl) (Nat.le_of_ble_eq_true rfl) ?_)
                    intro h276 p277 o278
                    have pt279 := pt265.own p277 (one_nw fr136)
                    refine lwp_nil ?_
                    obtain ⟨j485, e540, H⟩ := letJ_some H
                    refine cwp_join (fun ρ' h454 => ∃ (x458 : List Int) (x463 : Int) (x464 : GoErr) (x469 : Int) (x470 : Bool) (x471 : Bool) (x472 : Bool) (x473 : List api_Order) (a459 : Option Addr) (c460 : Nat) (v465 : Value) (a474 : Option Addr) (c475 : Nat) (I455 : Gh), j485 x458 x463 x464 x469 x470 x471 x472 x473 = some r ∧ Fits [(4, .pointer (some ⟨b5, 0, none⟩)), (6, .pointer (some ⟨b36, 0, none⟩)), (9, .pointer (some ⟨b130, 0, none⟩))] ρ' ∧ Pst No I h I455 h454 ∧ OwnB I455 h454 b5 [.int .i64 0, .bool false, .bool false, .bool false, .slice none 0 0] 54 ∧ Rd (tInt .u8) I455 h454 a459 c460 x458 ∧ ErrV I455 h454 x464 v465 ∧ OwnB I455 h454 b36 [.slice a459 x458.length c460, .int .i64 x463, v465] 88 ∧ OwnX t_api_Order I455 I455 h454 a474 c475 x473 ∧ (∀ b, InA a474 b → No b ∨ h.size ≤ b) ∧ OwnB I455 h454 b130 [.int .i64 x469, .bool x470, .bool x471, .bool x472, .slice a474 x473.length c475] 54 ∧ OwnB I455 h454 b245 [.bool t235.1.Alarm, .bool t235.1.Unlock, .bool t235.1.Reset] 51 ∧ ¬ InA a474 b5 ∧ ¬ InA a474 b36 ∧ ¬ InA a474 b130 ∧ ¬ InA a474 b245) ?_ ?_
                    · refine cwp_block ?_
                      have f489 := o154.post p204 (fun e => d48 e.symm)
                      have f490 := f489.post p219 (fun e => d48 e.symm)
                      have f491 := f490.post p240 (fun x => x.elim)
                      have f492 := f491.post p248 (fun x => x.elim)
                      have f493 := f492.post p263 (fun e => d255 e.symm)
                      have f494 := f493.post p277 (fun e => d138 e.symm)
                      have f495 := r226.up (p240.up p219.bd (fun _ x => x.elim))
                      have f496 := f495.up (p248.up p240.bd (fun _ x => x.elim))
                      have f497 := f496.up (p263.up p248.bd (one_not o249.no))
                      have f498 := f497.up (p277.up p263.bd (one_not f275.no))
                      have f499 := ErrV.up (p240.up p219.bd (fun _ x => x.elim)) q229
                      have f500 := ErrV.up (p248.up p240.bd (fun _ x => x.elim)) f499
                      have f501 := ErrV.up (p263.up p248.bd (one_not o249.no)) f500
                      have f502 := ErrV.up (p277.up p263.bd (one_not f275.no)) f501
                      have f503 := o230.post p240 (fun x => x.elim)
                      have f504 := f503.post p248 (fun x => x.elim)
                      have f505 := f504.post p263 (fun e => d257 e.symm)
                      have f506 := f505.post p277 (fun e => d139 e.symm)
                      have f507 := o264.post p277 d261
                      obtain ⟨s312, m344, HR345⟩ := bind_some H
                      refine cwp_loopE 1 (fun ρ' h313 => ∃ (x317 : List Int) (x322 : Int) (x323 : GoErr) (x328 : Int) (x329 : Bool) (x330 : Bool) (x331 : Bool) (x332 : List api_Order) (a318 : Option Addr) (c319 : Nat) (v324 : Value) (a333 : Option Addr) (c334 : Nat) (I314 : Gh), (x317, x322, x323, x328, x329, x330, x331, x332) = s312 ∧ Fits [(4, .pointer (some ⟨b5, 0, none⟩)), (6, .pointer (some ⟨b36, 0, none⟩)), (9, .pointer (some ⟨b130, 0, none⟩))] ρ' ∧ Pst No I h I314 h313 ∧ OwnB I314 h313 b5 [.int .i64 0, .bool false, .bool false, .bool false, .slice none 0 0] 54 ∧ Rd (tInt .u8) I314 h313 a318 c319 x317 ∧ ErrV I314 h313 x323 v324 ∧ OwnB I314 h313 b36 [.slice a318 x317.length c319, .int .i64 x322, v324] 88 ∧ OwnX t_api_Order I314 I314 h313 a333 c334 x332 ∧ (∀ b, InA a333 b → No b ∨ h.size ≤ b) ∧ OwnB I314 h313 b130 [.int .i64 x328, .bool x329, .bool x330, .bool x331, .slice a333 x332.length c334] 54 ∧ OwnB I314 h313 b245 [.bool t235.1.Alarm, .bool t235.1.Unlock, .bool t235.1.Reset] 51 ∧ ¬ InA a333 b5 ∧ ¬ InA a333 b36 ∧ ¬ InA a333 b130 ∧ ¬ InA a333 b245) ?_ ?_
                      · refine cwp_loop (fun k' ρ' h280 => ∃ (x284 : List Int) (x289 : Int) (x290 : GoErr) (x295 : Int) (x296 : Bool) (x297 : Bool) (x298 : Bool) (x299 : List api_Order) (a285 : Option Addr) (c286 : Nat) (v291 : Value) (a300 : Option Addr) (c301 : Nat) (I281 : Gh), stream_Read.l1.m K x1 k' x284 x289 x290 x295 x296 x297 x298 x299 = some s312 ∧ Fits [(1, .int .i64 x1), (4, .pointer (some ⟨b5, 0, none⟩)), (6, .pointer (some ⟨b36, 0, none⟩)), (9, .pointer (some ⟨b130, 0, none⟩))] ρ' ∧ Pst No I h I281 h280 ∧ OwnB I281 h280 b5 [.int .i64 0, .bool false, .bool false, .bool false, .slice none 0 0] 54 ∧ Rd (tInt .u8) I281 h280 a285 c286 x284 ∧ ErrV I281 h280 x290 v291 ∧ OwnB I281 h280 b36 [.slice a285 x284.length c286, .int .i64 x289, v291] 88 ∧ OwnX t_api_Order I281 I281 h280 a300 c301 x299 ∧ (∀ b, InA a300 b → No b ∨ h.size ≤ b) ∧ OwnB I281 h280 b130 [.int .i64 x295, .bool x296, .bool x297, .bool x298, .slice a300 x299.length c301] 54 ∧ OwnB I281 h280 b245 [.bool t235.1.Alarm, .bool t235.1.Unlock, .bool t235.1.Reset] 51 ∧ ¬ InA a300 b5 ∧ ¬ InA a300 b36 ∧ ¬ InA a300 b130 ∧ ¬ InA a300 b245) K ⟨t214.2.b', t214.2.at', t214.2.err', (w64 (t115.1)), t235.1.Alarm, t235.1.Unlock, t235.1.Reset, [], a223, c224, v227, none, 0, I239, m344, ⟨by kernel_rfl, by kernel_rfl, by kernel_rfl, by kernel_rfl, trivial⟩, pt279, f494, f498, f502, f506, (own_nil t_api_Order I239 I239 h276), none_nw, o278, f507, inA_none, inA_none, inA_none, inA_none⟩ ?_
                        clear m344
                        rintro k' ρ' h280 ⟨x284, x289, x290, x295, x296, x297, x298, x299, a285, c286, v291, a300, c301, I281, H, hf, pt282, o283, r287, q292, o294, r302, fr304, o305, o306, d307, d308, d309, d310⟩
                        cases k' with
                        | zero => cases H
                        | succ k =>
                          rw [stream_Read.l1.m] at H
                          refine cwp_fits _ hf ?_
                          refine cwp_seq ?_
                          refine cwp_seq ?_
                          refine cwp_region ?_
                          refine lwp_run 1 (by kernel_rfl) ?_
                          obtain ⟨t346, m347, H⟩ := bind_some H
                          refine lwp_op (by kernel_rfl) (owp_callF (by kernel_rfl) (bytes_Cursor_Left.calls (I := I281) pt282.bd o294 r287 q292 m347) ?_)
                          rintro v348 h349 ⟨I350, a352, c353, v356, rfl, p351, r355, q358, o359⟩
                          have pt360 := pt282.own p351 (one_nw fr47)
                          by_cases c361 : t346.1 > 0
                          · rw [if_pos c361] at H
                            refine lwp_op (by kernel_rfl) (owp_pure ((.bool true)) (pr_bool (by kernel_rfl) (decide_eq_true c361)) ?_)
                            refine lwp_run 2 (by kernel_rfl) ?_
                            obtain ⟨t362, m363, H⟩ := bind_some H
                            refine lwp_op (by kernel_rfl) (owp_callF (by kernel_rfl) (bytes_Cursor_Err.calls (I := I350) p351.bd o359 r355 q358 m363) ?_)
                            rintro v364 h365 ⟨I366, v368, a371, c372, v375, rfl, p367, q370, r374, q377, o378⟩
                            have pt379 := pt360.own p367 (one_nw fr47)
                            rcases q370.cases with ⟨c380, rfl⟩ | ⟨c380, t381, u382, rfl⟩
                            · rw [if_pos c380] at H
                              refine lwp_run 2 (by kernel_rfl) ?_
                              refine lwp_nil ?_
                              refine cwp_true (by kernel_rfl) ?_
                              refine cwp_skip ?_
                              refine cwp_block ?_
                              refine cwp_regionD (Keep (Or2 (One b36) (InA a300)) h365) 8 (by kernel_rfl) ?_
                              refine awp_run (fuel := 8) [0] Keep.refl (by kernel_rfl) ?_
                              have f383 := o305.post p351 d139
                              have f384 := f383.post p367 d139
                              refine awp_load 1 rfl (by kernel_rfl) (by kernel_rfl) (by kernel_rfl) (by kernel_rfl) Keep.refl (f384.cell (off := 4) rfl) (some_not (notOr1 d139 d309)) ?_
                              refine awp_run (fuel := 5) [2, 3] Keep.refl (by kernel_rfl) ?_
                              obtain ⟨t385, m386, H⟩ := bind_some H
                              refine awp_op 4 (by kernel_rfl) rfl (by kernel_rfl) (owp_callF (by kernel_rfl) (order_Get.calls (I := I366) p367.bd o378 r374 q377 m386) ?_)
                              rintro v387 h388 ⟨I389, a391, c392, a396, c397, v400, rfl, p390, r394, fr395, r399, q402, o403, d404⟩
                              have pt405 := pt379.own p390 (one_nw fr47)
                              have fr406 := nw_step (M := No) (n := h.size) (one_nw fr47) fr395 pt379.size
                              have f407 := o283.post p351 (fun e => d48 e.symm)
                              have f408 := f407.post p367 (fun e => d48 e.symm)
                              have d409 := step_blk fr395 f408.lt (fun e => d48 e.symm)
                              have f410 := o305.post p351 d139
                              have f411 := f410.post p367 d139
                              have d412 := step_blk fr395 f411.lt d139
                              have f413 := o306.post p351 d257
                              have f414 := f413.post p367 d257
                              have d415 := step_blk fr395 f414.lt d257
                              have f416 := r302.post pt282.bd p351 (one_not o294.no) (dis_one d308)
                              have f417 := f416.post p351.bd p367 (one_not o359.no) (dis_one d308)
                              have d418 := step_sl fr395 f417.lt (dis_one d308)
                              have hK419 := Keep.post (M := (Or2 (One b36) (InA a300))) Keep.refl (Nat.le_refl _) p390 (fun b x => .inl (.inl x))
                              refine ⟨hK419, ?_⟩
                              refine awp_op 5 (by kernel_rfl) rfl (by kernel_rfl) (owp_buildSlice (e := 26) [.int .i64 t385.1.Kind, .slice a391 t385.1.Text.length c392, .bool t385.1.Attr.Protected, .bool t385.1.Attr.Numeric, .int .i64 t385.1.Attr.Show, .bool t385.1.Attr.Modified, .int .i64 t385.1.Addr, .int .u8 t385.1.Char] 8 (.agg #[.int .i64 0, .slice none 0 0, .bool false, .bool false, .int .i64 0, .bool false, .int .i64 0, .int .u8 0]) p390.bd (by kernel_rfl) (by kernel_rfl) (by kernel_rfl) (by kernel_rfl) (by kernel_rfl) ?_)
                              intro b420 h421 hc422 p423 o424
                              have pt425 := pt405.no p423
                              have f428 := r394.post p390.bd p423 (fun _ x => x.elim) (fun _ _ x => x.elim)
                              have w426 := o424.own (l := ([t385.1] : List api_Order)) (Reps.cons (T := t_api_Order) (c := [.int .i64 t385.1.Kind, .slice a391 t385.1.Text.length c392, .bool t385.1.Attr.Protected, .bool t385.1.Attr.Numeric, .int .i64 t385.1.Attr.Show, .bool t385.1.Attr.Modified, .int .i64 t385.1.Addr, .int .u8 t385.1.Char]) (x := t385.1) (⟨_, _, rfl, f428.rd⟩) (.nil : Reps t_api_Order (Fz I389 a391) h421 [] []))
                              have fw426 := some_nw (M := No) (Nat.le_trans pt405.size hc422)
                              have f429 := o283.post p351 (fun e => d48 e.symm)
                              have f430 := f429.post p367 (fun e => d48 e.symm)
                              have f431 := f430.post p390 (fun e => d48 e.symm)
                              have d432 := some_ne (ne_new f431.lt hc422)
                              have d433 := some_ne (ne_new o403.lt hc422)
                              have f434 := o305.post p351 d139
                              have f435 := f434.post p367 d139
                              have f436 := f435.post p390 d139
                              have d437 := some_ne (ne_new f436.lt hc422)
                              have f438 := o306.post p351 d257
                              have f439 := f438.post p367 d257
                              have f440 := f439.post p390 d257
                              have d441 := some_ne (ne_new f440.lt hc422)
                              have f442 := f417.post p367.bd p390 (one_not o378.no) (dis_one d308)
                              have d443 := some_notIn (notIn_new f442.lt hc422)
                              have d444 := some_notIn (notIn_new r394.lt hc422)
                              have hK445 := Keep.post (M := (Or2 (One b36) (InA a300))) hK419 (Nat.le_trans (Nat.le_refl _) p390.size) p423 (fun _ x => x.elim)
                              refine ⟨hK445, ?_⟩
                              have f446 := f417.post p367.bd p390 (one_not o378.no) (dis_one d308)
                              have f447 := f446.post p390.bd p423 (fun _ x => x.elim) (fun _ _ x => x.elim)
                              have w448 := OwnX.fzX0 (G' := (Fz I389 a391)) f447 (up_sub (fun _ x => (Or.inl x)))
                              obtain ⟨l449, m450, H⟩ := bind_some H
                              refine awp_op 6 (by kernel_rfl) rfl (by kernel_rfl) (owp_app (e := 26) (bytes := 72) t_api_Order (by kernel_rfl) (elemOk_of (by kernel_rfl)) rfl rfl p423.bd (bd_fz f428 p423.bd) w448 (notFz f447.notI d418) (w426.toSl) m450 (by kernel_rfl) (by kernel_rfl) ?_)
                              intro a451 c452 h453 p454 o455 fr456
                              have pt457 := pt425.own p454 fr304
                              have fr459 := nw_step (M := No) (n := h.size) fr304 fr456 pt425.size
                              have f460 := o283.post p351 (fun e => d48 e.symm)
                              have f461 := f460.post p367 (fun e => d48 e.symm)
                              have f462 := f461.post p390 (fun e => d48 e.symm)
                              have f463 := f462.post p423 (fun x => x.elim)
                              have d464 := step_blk fr456 f463.lt d307
                              have f465 := o403.post p423 (fun x => x.elim)
                              have d466 := step_blk fr456 f465.lt d308
                              have f467 := o305.post p351 d139
                              have f468 := f467.post p367 d139
                              have f469 := f468.post p390 d139
                              have f470 := f469.post p423 (fun x => x.elim)
                              have d471 := step_blk fr456 f470.lt d309
                              have f472 := o306.post p351 d257
                              have f473 := f472.post p367 d257
                              have f474 := f473.post p390 d257
                              have f475 := f474.post p423 (fun x => x.elim)
                              have d476 := step_blk fr456 f475.lt d310
                              have d477 := step_sl fr456 f428.lt d418
                              have d478 := step_sl fr456 w426.lt d443
                              have hK479 := Keep.post (M := (Or2 (One b36) (InA a300))) hK445 (Nat.le_trans (Nat.le_trans (Nat.le_refl _) p390.size) p423.size) p454 (fun b x => .inl (.inr x))
                              refine ⟨hK479, ?_⟩
                              refine awp_run (fuel := 1) [7] hK479 (by kernel_rfl) ?_
                              have f480 := o305.post p351 d139
                              have f481 := f480.post p367 d139
                              have f482 := f481.post p390 d139
                              have f483 := f482.post p423 (fun x => x.elim)
                              have f484 := f483.post p454 d309
                              refine awp_opL 8 (by kernel_rfl) (by kernel_rfl) rfl (by kernel_rfl) (owp_store1 4 (.slice a451 l449.length c452) p454.bd f484 (by kernel_rfl) (by kernel_rfl) rfl (by kernel_rfl) (Nat.le_of_ble_eq_true rfl) ?_)
                              intro h485 p486 o487
                              have pt488 := pt457.own p486 (one_nw fr136)
                              refine awp_nil (by kernel_rfl) ?_ 0
                              have f100019 := f428.post p423.bd p454 f447.notI d418
                              have f100020 := f100019.post p454.bd p486 (one_not f484.no) (dis_one d412)
                              have pt100021 := post_fz f100020 p486.bd pt488 fr406
                              have r100023 := f100020.rd
                              have bd100024 := bd_fz f100020 p486.bd
                              have f100025 := o283.post p351 (fun e => d48 e.symm)
                              have f100026 := f100025.post p367 (fun e => d48 e.symm)
                              have f100027 := f100026.post p390 (fun e => d48 e.symm)
                              have f100028 := f100027.post p423 (fun x => x.elim)
                              have f100029 := f100028.post p454 d307
                              have f100030 := f100029.post p486 (fun e => d138 e.symm)
                              have f100031 := f100030.fz d409
                              have f100032 := r399.up (p423.up p390.bd (fun _ x => x.elim))
                              have f100033 := f100032.up (p454.up p423.bd f447.notI)
                              have f100034 := f100033.up (p486.up p454.bd (one_not f484.no))
                              have f100035 := f100034.up (up_fz (a := a391))
                              have f100036 := ErrV.up (p423.up p390.bd (fun _ x => x.elim)) q402
                              have f100037 := ErrV.up (p454.up p423.bd f447.notI) f100036
                              have f100038 := ErrV.up (p486.up p454.bd (one_not f484.no)) f100037
                              have f100039 := ErrV.up (up_fz (a := a391)) f100038
                              have f100040 := o403.post p423 (fun x => x.elim)
                              have f100041 := f100040.post p454 d308
                              have f100042 := f100041.post p486 (fun e => d139 e.symm)
                              have f100043 := f100042.fz d404
                              have f100044 := o455.postX (upA (p486.up p454.bd (one_not f484.no)) (keepA f100019 p486 (dis_one d412))) p486 (dis_one d471)
                              have f100045 := OwnX.fzX f100044 (up_sub (fun _ x => x)) d477
                              have f100046 := o487.fz d412
                              have f100047 := o306.post p351 d257
                              have f100048 := f100047.post p367 d257
                              have f100049 := f100048.post p390 d257
                              have f100050 := f100049.post p423 (fun x => x.elim)
                              have f100051 := f100050.post p454 d310
                              have f100052 := f100051.post p486 d261
                              have f100053 := f100052.fz d415
                              show Exists _
                              exact ⟨k, Nat.lt_succ_self _, t385.2.b', t385.2.at', t385.2.err', x295, x296, x297, x298, l449, a396, c397, v400, a451, c452, (Fz I389 a391), H, ⟨by kernel_rfl, by kernel_rfl, by kernel_rfl, by kernel_rfl, trivial⟩, pt100021, f100031, f100035, f100039, f100043, f100045, fr459, f100046, f100053, d464, d466, d471, d476⟩
                            · rw [if_neg c380] at H
                              refine lwp_run 2 (by kernel_rfl) ?_
                              refine lwp_nil ?_
                              refine cwp_false (by kernel_rfl) ?_
                              refine cwp_exit ?_
                              obtain rfl := Option.some.inj H
                              have f100054 := o283.post p351 (fun e => d48 e.symm)
                              have f100055 := f100054.post p367 (fun e => d48 e.symm)
                              have f100056 := r302.post pt282.bd p351 (one_not o294.no) (dis_one d308)
                              have f100057 := f100056.post p351.bd p367 (one_not o359.no) (dis_one d308)
                              have f100058 := o305.post p351 d139
                              have f100059 := f100058.post p367 d139
                              have f100060 := o306.post p351 d257
                              have f100061 := f100060.post p367 d257
                              show Exists _
                              exact ⟨t362.2.b', t362.2.at', t362.2.err', x295, x296, x297, x298, x299, a371, c372, v375, a300, c301, I366, rfl, ⟨by kernel_rfl, by kernel_rfl, by kernel_rfl, trivial⟩, pt379, f100055, r374, q377, o378, f100057, fr304, f100059, f100061, d307, d308, d309, d310⟩
                          · rw [if_neg c361] at H
                            refine lwp_op (by kernel_rfl) (owp_pure ((.bool false)) (pr_bool (by kernel_rfl) (decide_eq_false c361)) ?_)
                            refine lwp_run 5 (by kernel_rfl) ?_
                            refine lwp_nil ?_
                            refine cwp_false (by kernel_rfl) ?_
                            refine cwp_exit ?_
                            obtain rfl := Option.some.inj H
                            have f100062 := o283.post p351 (fun e => d48 e.symm)
                            have f100063 := r302.post pt282.bd p351 (one_not o294.no) (dis_one d308)
                            have f100064 := o305.post p351 d139
                            have f100065 := o306.post p351 d257
                            show Exists _
                            exact ⟨t346.2.b', t346.2.at', t346.2.err', x295, x296, x297, x298, x299, a352, c353, v356, a300, c301, I350, rfl, ⟨by kernel_rfl, by kernel_rfl, by kernel_rfl, trivial⟩, pt360, f100062, r355, q358, o359, f100063, fr304, f100064, f100065, d307, d308, d309, d310⟩
                      · rintro ρ' h313 ⟨x317, x322, x323, x328, x329, x330, x331, x332, a318, c319, v324, a333, c334, I314, rfl, hf, pt315, o316, r320, q325, o327, r335, fr337, o338, o339, d340, d341, d342, d343⟩
                        have H := HR345
                        try dsimp only at H
                        exact ⟨x317, x322, x323, x328, x329, x330, x331, x332, a318, c319, v324, a333, c334, I314, H, ⟨fits_get hf (by kernel_rfl), fits_get hf (by kernel_rfl), fits_get hf (by kernel_rfl), trivial⟩, pt315, o316, r320, q325, o327, r335, fr337, o338, o339, d340, d341, d342, d343⟩
                    · clear H
                      rintro ρ' h454 ⟨x458, x463, x464, x469, x470, x471, x472, x473, a459, c460, v465, a474, c475, I455, H, hf, pt456, o457, r461, q466, o468, r476, fr478, o479, o480, d481, d482, d483, d484⟩
                      refine cwp_fits _ hf ?_
                      subst e540
                      try dsimp only at H
                      refine cwp_seq ?_
                      refine cwp_seq ?_
                      refine cwp_region ?_
                      refine lwp_run 1 (by kernel_rfl) ?_
                      obtain ⟨t486, m487, H⟩ := bind_some H
                      refine lwp_op (by kernel_rfl) (owp_callF (by kernel_rfl) (bytes_Cursor_Err.calls (I := I455) pt456.bd o468 r461 q466 m487) ?_)
                      rintro v488 h489 ⟨I490, v492, a495, c496, v499, rfl, p491, q494, r498, q501, o502⟩
                      have pt503 := pt456.own p491 (one_nw fr47)
                      rcases q494.cases with ⟨c504, rfl⟩ | ⟨c504, t505, u506, rfl⟩
                      · rw [if_pos c504] at H
                        refine lwp_run 1 (by kernel_rfl) ?_
                        refine lwp_nil ?_
                        refine cwp_false (by kernel_rfl) ?_
                        refine cwp_skip ?_
                        refine cwp_seq ?_
                        refine cwp_region ?_
                        have f507 := o479.post p491 d139
                        refine lwp_op (by kernel_rfl) (owp_loadN (by kernel_rfl) (by kernel_rfl) (by kernel_rfl) (f507.seg_ 0 5 (Nat.le_of_ble_eq_true rfl)) ?_)
                        have f508 := o457.post p491 (fun e => d48 e.symm)
                        refine lwp_op (by kernel_rfl) (owp_storeN 0 [.int .i64 x469, .bool x470, .bool x471, .bool x472, .slice a474 x473.length c475] p491.bd f508 (by kernel_rfl) (by kernel_rfl) (by simp [Value.oneCell']) (by kernel_rfl) (Nat.le_of_ble_eq_true rfl) ?_)
                        intro h509 p510 o511
                        have pt512 := pt503.own p510 (one_nw fr11)
                        refine lwp_run 1 (by kernel_rfl) ?_
                        refine lwp_nil ?_
                        refine cwp_ret ?_
                        obtain rfl := Option.some.inj H
                        have f513 := r476.post pt456.bd p491 (one_not o468.no) (dis_one d482)
                        have f514 := f513.post p491.bd p510 (one_not f508.no) (dis_one d481)
                        show Exists _
                        exact ⟨[.agg #[.int .i64 x469, .bool x470, .bool x471, .bool x472, .slice a474 x473.length c475], .nilIface], (.cons (.agg (by kernel_rfl) (by kernel_rfl) (by kernel_rfl) (o511.seg_ 0 5 (Nat.le_of_ble_eq_true rfl))) (.cons (.tmp (by kernel_rfl)) .nil)), I490, a474, c475, (.nilIface), rfl, pt512, f514, fr478, (show ErrV I490 h509 GoErr.nil .nilIface from rfl)⟩
                      · rw [if_neg c504] at H
                        refine lwp_run 1 (by kernel_rfl) ?_
                        refine lwp_nil ?_
                        refine cwp_true (by kernel_rfl) ?_
                        refine cwp_seq ?_
                        refine cwp_region ?_
                        refine lwp_run 2 (by kernel_rfl) ?_
                        obtain ⟨t515, m516, H⟩ := bind_some H
                        refine lwp_op (by kernel_rfl) (owp_callF (by kernel_rfl) (bytes_Cursor_Err.calls (I := I490) p491.bd o502 r498 q501 m516) ?_)
                        rintro v517 h518 ⟨I519, v521, a524, c525, v528, rfl, p520, q523, r527, q530, o531⟩
                        have pt532 := pt503.own p520 (one_nw fr47)
                        have f533 := o457.post p491 (fun e => d48 e.symm)
                        have f534 := f533.post p520 (fun e => d48 e.symm)
                        refine lwp_op (by kernel_rfl) (owp_storeN 0 [.int .i64 0, .bool false, .bool false, .bool false, .slice none 0 0] p520.bd f534 (by kernel_rfl) (by kernel_rfl) (by simp [Value.oneCell']) (by kernel_rfl) (Nat.le_of_ble_eq_true rfl) ?_)
                        intro h535 p536 o537
                        have pt538 := pt532.own p536 (one_nw fr11)
                        refine lwp_run 1 (by kernel_rfl) ?_
                        refine lwp_nil ?_
                        refine cwp_ret ?_
                        obtain rfl := Option.some.inj H
                        have f539 := ErrV.up (p536.up p520.bd (one_not f534.no)) q523
                        show Exists _
                        exact ⟨[.agg #[.int .i64 0, .bool false, .bool false, .bool false, .slice none 0 0], v521], (.cons (.agg (by kernel_rfl) (by kernel_rfl) (by kernel_rfl) (o537.seg_ 0 5 (Nat.le_of_ble_eq_true rfl))) (.cons (.tmp (by kernel_rfl)) .nil)), I519, none, 0, (v521), rfl, pt538, (own_nil t_api_Order I519 I519 h535), none_nw, f539⟩
                  · rw [if_neg c268] at H
                    refine lwp_run 1 (by kernel_rfl) ?_
                    refine lwp_nil ?_
                    refine cwp_true (by kernel_rfl) ?_
                    refine cwp_seq ?_
                    refine cwp_region ?_
                    refine lwp_run 2 (by kernel_rfl) ?_
                    obtain ⟨t541, m542, H⟩ := bind_some H
                    refine lwp_op (by kernel_rfl) (owp_callF (by kernel_rfl) (stream_spot.calls (I := I239) p263.bd f267 m542) ?_)
                    rintro v543 h544 ⟨I545, v547, rfl, p546, q549⟩
                    have pt550 := pt265.no p546
                    have f551 := o154.post p204 (fun e => d48 e.symm)
                    have f552 := f551.post p219 (fun e => d48 e.symm)
                    have f553 := f552.post p240 (fun x => x.elim)
                    have f554 := f553.post p248 (fun x => x.elim)
                    have f555 := f554.post p263 (fun e => d255 e.symm)
                    have f556 := f555.post p546 (fun x => x.elim)
                    refine lwp_op (by kernel_rfl) (owp_storeN 0 [.int .i64 0, .bool false, .bool false, .bool false, .slice none 0 0] p546.bd f556 (by kernel_rfl) (by kernel_rfl) (by simp [Value.oneCell']) (by kernel_rfl) (Nat.le_of_ble_eq_true rfl) ?_)
                    intro h557 p558 o559
                    have pt560 := pt550.own p558 (one_nw fr11)
                    refine lwp_run 1 (by kernel_rfl) ?_
                    refine lwp_nil ?_
                    refine cwp_ret ?_
                    obtain rfl := Option.some.inj H
                    have f561 := ErrV.up (p558.up p546.bd (one_not f556.no)) q549
                    show Exists _
                    exact ⟨[.agg #[.int .i64 0, .bool false, .bool false, .bool false, .slice none 0 0], v547], (.cons (.agg (by kernel_rfl) (by kernel_rfl) (by kernel_rfl) (o559.seg_ 0 5 (Nat.le_of_ble_eq_true rfl))) (.cons (.tmp (by kernel_rfl)) .nil)), I545, none, 0, (v547), rfl, pt560, (own_nil t_api_Order I545 I545 h557), none_nw, f561⟩
                · rw [if_neg c232] at H
                  refine lwp_run 1 (by kernel_rfl) ?_
                  refine lwp_nil ?_
                  refine cwp_true (by kernel_rfl) ?_
                  refine cwp_seq ?_
                  refine cwp_region ?_
                  refine lwp_run 2 (by kernel_rfl) ?_
                  obtain ⟨t562, m563, H⟩ := bind_some H
                  refine lwp_op (by kernel_rfl) (owp_callF (by kernel_rfl) (bytes_Cursor_Err.calls (I := I218) p219.bd o230 r226 q229 m563) ?_)
                  rintro v564 h565 ⟨I566, v568, a571, c572, v575, rfl, p567, q570, r574, q577, o578⟩
                  have pt579 := pt231.own p567 (one_nw fr47)
                  have f580 := o154.post p204 (fun e => d48 e.symm)
                  have f581 := f580.post p219 (fun e => d48 e.symm)
                  have f582 := f581.post p567 (fun e => d48 e.symm)
                  refine lwp_op (by kernel_rfl) (owp_storeN 0 [.int .i64 0, .bool false, .bool false, .bool false, .slice none 0 0] p567.bd f582 (by kernel_rfl) (by kernel_rfl) (by simp [Value.oneCell']) (by kernel_rfl) (Nat.le_of_ble_eq_true rfl) ?_)
                  intro h583 p584 o585
                  have pt586 := pt579.own p584 (one_nw fr11)
                  refine lwp_run 1 (by kernel_rfl) ?_
                  refine lwp_nil ?_
                  refine cwp_ret ?_
                  obtain rfl := Option.some.inj H
                  have f587 := ErrV.up (p584.up p567.bd (one_not f582.no)) q570
                  show Exists _
                  exact ⟨[.agg #[.int .i64 0, .bool false, .bool false, .bool false, .slice none 0 0], v568], (.cons (.agg (by kernel_rfl) (by kernel_rfl) (by kernel_rfl) (o585.seg_ 0 5 (Nat.le_of_ble_eq_true rfl))) (.cons (.tmp (by kernel_rfl)) .nil)), I566, none, 0, (v568), rfl, pt586, (own_nil t_api_Order I566 I566 h583), none_nw, f587⟩
              · rw [cond_true] at H
                refine cwp_true (by kernel_rfl) ?_
                refine cwp_seq ?_
                refine cwp_seq ?_
                refine cwp_region ?_
                refine lwp_run 1 (by kernel_rfl) ?_
                obtain ⟨t160, m161, H⟩ := bind_some H
                refine lwp_op (by kernel_rfl) (owp_callF (by kernel_rfl) (bytes_Cursor_Left.calls (I := I151) pt152.bd o157 r155 q156 m161) ?_)
                rintro v162 h163 ⟨I164, a166, c167, v170, rfl, p165, r169, q172, o173⟩
                have pt174 := pt152.own p165 (one_nw fr47)
                by_cases c175 : t160.1 > 0
                · rw [if_pos c175] at H
                  refine lwp_op (by kernel_rfl) (owp_pure ((.bool true)) (pr_bool (by kernel_rfl) (decide_eq_true c175)) ?_)
                  refine lwp_nil ?_
                  refine cwp_true (by kernel_rfl) ?_
                  refine cwp_seq ?_
                  refine cwp_region ?_
                  refine lwp_run 2 (by kernel_rfl) ?_
                  obtain ⟨t176, m177, H⟩ := bind_some H
                  refine lwp_op (by kernel_rfl) (owp_callF (by kernel_rfl) (stream_spot.calls (I := I164) p165.bd (show ErrV I164 h163 (GoErr.no 1) (.iface 78 (.int .i64 1)) from rfl) m177) ?_)
                  rintro v178 h179 ⟨I180, v182, rfl, p181, q184⟩
                  have pt185 := pt174.no p181
                  have f186 := o154.post p165 (fun e => d48 e.symm)
                  have f187 := f186.post p181 (fun x => x.elim)
                  refine lwp_op (by kernel_rfl) (owp_storeN 0 [.int .i64 0, .bool false, .bool false, .bool false, .slice none 0 0] p181.bd f187 (by kernel_rfl) (by kernel_rfl) (by simp [Value.oneCell']) (by kernel_rfl) (Nat.le_of_ble_eq_true rfl) ?_)
                  intro h188 p189 o190
                  have pt191 := pt185.own p189 (one_nw fr11)
                  refine lwp_run 1 (by kernel_rfl) ?_
                  refine lwp_nil ?_
                  refine cwp_ret ?_
                  obtain rfl := Option.some.inj H
                  have f192 := ErrV.up (p189.up p181.bd (one_not f187.no)) q184
                  show Exists _
                  exact ⟨[.agg #[.int .i64 0, .bool false, .bool false, .bool false, .slice none 0 0], v182], (.cons (.agg (by kernel_rfl) (by kernel_rfl) (by kernel_rfl) (o190.seg_ 0 5 (Nat.le_of_ble_eq_true rfl))) (.cons (.tmp (by kernel_rfl)) .nil)), I180, none, 0, (v182), rfl, pt191, (own_nil t_api_Order I180 I180 h188), none_nw, f192⟩
                · rw [if_neg c175] at H
                  refine lwp_op (by kernel_rfl) (owp_pure ((.bool false)) (pr_bool (by kernel_rfl) (decide_eq_false c175)) ?_)
                  refine lwp_nil ?_
                  refine cwp_false (by kernel_rfl) ?_
                  refine cwp_skip ?_
                  refine cwp_seq ?_
                  refine cwp_region ?_
                  have f193 := o158.post p165 d139
                  refine lwp_op (by kernel_rfl) (owp_loadN (by kernel_rfl) (by kernel_rfl) (by kernel_rfl) (f193.seg_ 0 5 (Nat.le_of_ble_eq_true rfl)) ?_)
                  have f194 := o154.post p165 (fun e => d48 e.symm)
                  refine lwp_op (by kernel_rfl) (owp_storeN 0 [.int .i64 (w64 (t115.1)), .bool false, .bool false, .bool false, .slice none 0 0] p165.bd f194 (by kernel_rfl) (by kernel_rfl) (by simp [Value.oneCell']) (by kernel_rfl) (Nat.le_of_ble_eq_true rfl) ?_)
                  intro h195 p196 o197
                  have pt198 := pt174.own p196 (one_nw fr11)
                  refine lwp_run 1 (by kernel_rfl) ?_
                  refine lwp_nil ?_
                  refine cwp_ret ?_
                  obtain rfl := Option.some.inj H
                  show Exists _
                  exact ⟨[.agg #[.int .i64 (w64 (t115.1)), .bool false, .bool false, .bool false, .slice none 0 0], .nilIface], (.cons (.agg (by kernel_rfl) (by kernel_rfl) (by kernel_rfl) (o197.seg_ 0 5 (Nat.le_of_ble_eq_true rfl))) (.cons (.tmp (by kernel_rfl)) .nil)), I164, none, 0, (.nilIface), rfl, pt198, (own_nil t_api_Order I164 I164 h195), none_nw, (show ErrV I164 h195 GoErr.nil .nilIface from rfl)⟩
        · rw [cond_true] at H
          refine cwp_true (by kernel_rfl) ?_
          refine cwp_seq ?_
          refine cwp_region ?_
          refine lwp_run 2 (by kernel_rfl) ?_
          obtain ⟨t93, m94, H⟩ := bind_some H
          refine lwp_op (by kernel_rfl) (owp_callF (by kernel_rfl) (stream_spot.calls (I := I85) pt86.bd (show ErrV I85 h84 (GoErr.no 2) (.iface 78 (.int .i64 2)) from rfl) m94) ?_)
          rintro v95 h96 ⟨I97, v99, rfl, p98, q101⟩
          have pt102 := pt86.no p98
          have f103 := o88.post p98 (fun x => x.elim)
          refine lwp_op (by kernel_rfl) (owp_storeN 0 [.int .i64 0, .bool false, .bool false, .bool false, .slice none 0 0] p98.bd f103 (by kernel_rfl) (by kernel_rfl) (by simp [Value.oneCell']) (by kernel_rfl) (Nat.le_of_ble_eq_true rfl) ?_)
          intro h104 p105 o106
          have pt107 := pt102.own p105 (one_nw fr11)
          refine lwp_run 1 (by kernel_rfl) ?_
          refine lwp_nil ?_
          refine cwp_ret ?_
          obtain rfl := Option.some.inj H
          have f108 := ErrV.up (p105.up p98.bd (one_not f103.no)) q101
          show Exists _
          exact ⟨[.agg #[.int .i64 0, .bool false, .bool false, .bool false, .slice none 0 0], v99], (.cons (.agg (by kernel_rfl) (by kernel_rfl) (by kernel_rfl) (o106.seg_ 0 5 (Nat.le_of_ble_eq_true rfl))) (.cons (.tmp (by kernel_rfl)) .nil)), I97, none, 0, (v99), rfl, pt107, (own_nil t_api_Order I97 I97 h104), none_nw, f108⟩

/-! shutter/shutterlaw08.awake -/
def shutterlaw08_awake.m (K : Nat)  : Option Bool :=
  ((stream_Read.m K [245, 194] 80).bind fun t9 => ((stream_Write.m K (⟨242, (⟨false, false, false⟩ : api_Wcc), []⟩ : api_Out) 80).bind fun t40 => ((stream_Read.m K [242, 64] 80).bind fun t79 => (if t9.2 = GoErr.nil then (if t9.1.Cmd = 245 then (bif t9.1.Wcc.Unlock then (if t40.2 = GoErr.nil then (if (t40.1.length : Int) = 1 then ((api_Code.m t79.2).bind fun t158 => (if t158 = 1 then ((stream_Writes.m 245).bind fun t175 => bif t175 then ((stream_Same.m K t9.1 t9.1).bind fun t186 => (some t186)) else (some false)) else (some false))) else (some false)) else (some false)) else (some false)) else (some false)) else (some false)))))

set_option maxRecDepth 100000 in
theorem shutterlaw08_awake.calls {I : Gh} {h : Heap} {K : Nat}  (hB : Bd I h) (hG : Glob I h) {r : Bool}
    (H : shutterlaw08_awake.m K = some r) :
    Ret Tryd.prog 27 #[] h (fun v h' => ∃ (I' : Gh), .bool r = v ∧ Pst No I h I' h') := by
  unfold shutterlaw08_awake.m at H
  refine ret_of (args := []) (rs := [.tmp 0]) (N := 56) Tryd.func27 rfl rfl rfl (Nat.le_of_ble_eq_true rfl) ?_
  have pt0 : Pst No I h I h := Pst.refl hB
  refine cwp_seq ?_
  refine cwp_region ?_
  refine lwp_run 1 (by kernel_rfl) ?_
  refine lwp_nil ?_
  refine cwp_seq ?_
  refine cwp_region ?_
  refine lwp_op (by kernel_rfl) (owp_buildSlice (e := 5) [.int .u8 245, .int .u8 194] 1 (.int .u8 0) hB (by kernel_rfl) (by kernel_rfl) (by kernel_rfl) (by kernel_rfl) (by kernel_rfl) ?_)
  intro b1 h2 hc3 p4 o5
  have pt6 := pt0.no p4
  have w7 := o5.own (l := ([245, 194] : List Int)) (Reps.int (I := I) (k := .u8) (l := [245, 194]))
  have fw7 := some_nw (M := No) (Nat.le_trans pt0.size hc3)
  obtain ⟨t9, m10, H⟩ := bind_some H
  refine lwp_op (by kernel_rfl) (owp_callF (by kernel_rfl) (stream_Read.calls (I := I) (B := (Fz I (some ⟨b1, 0, none⟩))) p4.bd (bd_fz w7 p4.bd) (Rd.mono (I' := Or2 I (Fz I (some ⟨b1, 0, none⟩))) w7.rd (fun _ x => Or.inr x)) m10) ?_)
  rintro v11 h12 ⟨I13, a15, c16, v20, rfl, p14, r18, fr19, q22⟩
  have pt23 := pt6.no p14
  have fr24 := nw_step (M := No) (n := h.size) (fun _ x => x.elim) fr19 pt6.size
  have d25 := step_sl fr19 w7.lt (fun _ _ x => x.elim)
  refine lwp_run 3 (by kernel_rfl) ?_
  refine lwp_op (by kernel_rfl) (owp_alloc [.int .i64 0, .bool false, .bool false, .bool false, .slice none 0 0] (.agg #[.int .i64 0, .bool false, .bool false, .bool false, .slice none 0 0]) p14.bd (by kernel_rfl) (by kernel_rfl) ?_)
  intro b26 h27 hc28 p29 o30
  have pt31 := pt23.no p29
  have fr32 : No b26 ∨ h.size ≤ b26 := .inr (Nat.le_trans pt23.size hc28)
  have f33 := w7.post p4.bd p14 (fun _ x => x.elim) (fun _ _ x => x.elim)
  have d34 := notIn_new f33.lt hc28
  have d35 := notIn_new r18.lt hc28
  refine lwp_op (by kernel_rfl) (owp_storeN 0 [.int .i64 t9.1.Cmd, .bool t9.1.Wcc.Alarm, .bool t9.1.Wcc.Unlock, .bool t9.1.Wcc.Reset, .slice a15 t9.1.Orders.length c16] p29.bd o30 (by kernel_rfl) (by kernel_rfl) (by simp [Value.oneCell']) (by kernel_rfl) (Nat.le_of_ble_eq_true rfl) ?_)
  intro h36 p37 o38
  have pt39 := pt31.own p37 (one_nw fr32)
  refine lwp_run 1 (by kernel_rfl) ?_
  refine lwp_nil ?_
  refine cwp_seq ?_
  refine cwp_region ?_
  refine lwp_run 1 (by kernel_rfl) ?_
  obtain ⟨t40, m41, H⟩ := bind_some H
  refine lwp_op (by kernel_rfl) (owp_callF (by kernel_rfl) (stream_Write.calls (I := I13) (B := I13) p37.bd p37.bd (Rd.mono (I' := Or2 I13 I13) (rd_nil t_api_Order I13 h36) (fun _ x => Or.inr x)) m41) ?_)
  rintro v42 h43 ⟨I44, a46, c47, v51, rfl, p45, r49, fr50, q53⟩
  have pt54 := pt39.no p45
  have fr55 := nw_step (M := No) (n := h.size) (fun _ x => x.elim) fr50 pt39.size
  have d56 := step_blk fr50 o38.lt (fun x => x.elim)
  have f57 := w7.post p4.bd p14 (fun _ x => x.elim) (fun _ _ x => x.elim)
  have f58 := f57.post p14.bd p29 (fun _ x => x.elim) (fun _ _ x => x.elim)
  have f59 := f58.post p29.bd p37 (one_not o30.no) (dis_one d34)
  have d60 := step_sl fr50 f59.lt (fun _ _ x => x.elim)
  have f61 := r18.post p14.bd p29 (fun _ x => x.elim) (fun _ _ x => x.elim)
  have f62 := f61.post p29.bd p37 (one_not o30.no) (dis_one d35)
  have d63 := step_sl fr50 f62.lt (fun _ _ x => x.elim)
  refine lwp_run 5 (by kernel_rfl) ?_
  refine lwp_nil ?_
  refine cwp_seq ?_
  refine cwp_region ?_
  refine lwp_op (by kernel_rfl) (owp_buildSlice (e := 5) [.int .u8 242, .int .u8 64] 1 (.int .u8 0) p45.bd (by kernel_rfl) (by kernel_rfl) (by kernel_rfl) (by kernel_rfl) (by kernel_rfl) ?_)
  intro b64 h65 hc66 p67 o68
  have pt69 := pt54.no p67
  have w70 := o68.own (l := ([242, 64] : List Int)) (Reps.int (I := I44) (k := .u8) (l := [242, 64]))
  have fw70 := some_nw (M := No) (Nat.le_trans pt54.size hc66)
  have f72 := o38.post p45 (fun x => x.elim)
  have d73 := some_ne (ne_new f72.lt hc66)
  have f74 := f59.post p37.bd p45 (fun _ x => x.elim) (fun _ _ x => x.elim)
  have d75 := some_notIn (notIn_new f74.lt hc66)
  have f76 := f62.post p37.bd p45 (fun _ x => x.elim) (fun _ _ x => x.elim)
  have d77 := some_notIn (notIn_new f76.lt hc66)
  have d78 := some_notIn (notIn_new r49.lt hc66)
  obtain ⟨t79, m80, H⟩ := bind_some H
  refine lwp_op (by kernel_rfl) (owp_callF (by kernel_rfl) (stream_Read.calls (I := I44) (B := (Fz I44 (some ⟨b64, 0, none⟩))) p67.bd (bd_fz w70 p67.bd) (Rd.mono (I' := Or2 I44 (Fz I44 (some ⟨b64, 0, none⟩))) w70.rd (fun _ x => Or.inr x)) m80) ?_)
  rintro v81 h82 ⟨I83, a85, c86, v90, rfl, p84, r88, fr89, q92⟩
  have pt93 := pt69.no p84
  have fr94 := nw_step (M := No) (n := h.size) (fun _ x => x.elim) fr89 pt69.size
  have f95 := o38.post p45 (fun x => x.elim)
  have f96 := f95.post p67 (fun x => x.elim)
  have d97 := step_blk fr89 f96.lt (fun x => x.elim)
  have f98 := f59.post p37.bd p45 (fun _ x => x.elim) (fun _ _ x => x.elim)
  have f99 := f98.post p45.bd p67 (fun _ x => x.elim) (fun _ _ x => x.elim)
  have d100 := step_sl fr89 f99.lt (fun _ _ x => x.elim)
  have f101 := f62.post p37.bd p45 (fun _ x => x.elim) (fun _ _ x => x.elim)
  have f102 := f101.post p45.bd p67 (fun _ x => x.elim) (fun _ _ x => x.elim)
  have d103 := step_sl fr89 f102.lt (fun _ _ x => x.elim)
  have f104 := r49.post p45.bd p67 (fun _ x => x.elim) (fun _ _ x => x.elim)
  have d105 := step_sl fr89 f104.lt (fun _ _ x => x.elim)
  have d106 := step_sl fr89 w70.lt (fun _ _ x => x.elim)
  refine lwp_run 3 (by kernel_rfl) ?_
  refine lwp_op (by kernel_rfl) (owp_alloc [.int .i64 0, .bool false, .bool false, .bool false, .slice none 0 0] (.agg #[.int .i64 0, .bool false, .bool false, .bool false, .slice none 0 0]) p84.bd (by kernel_rfl) (by kernel_rfl) ?_)
  intro b107 h108 hc109 p110 o111
  have pt112 := pt93.no p110
  have fr113 : No b107 ∨ h.size ≤ b107 := .inr (Nat.le_trans pt93.size hc109)
  have f114 := o38.post p45 (fun x => x.elim)
  have f115 := f114.post p67 (fun x => x.elim)
  have f116 := f115.post p84 (fun x => x.elim)
  have d117 := ne_new f116.lt hc109
  have f118 := f99.post p67.bd p84 (fun _ x => x.elim) (fun _ _ x => x.elim)
  have d119 := notIn_new f118.lt hc109
  have f120 := f102.post p67.bd p84 (fun _ x => x.elim) (fun _ _ x => x.elim)
  have d121 := notIn_new f120.lt hc109
  have f122 := f104.post p67.bd p84 (fun _ x => x.elim) (fun _ _ x => x.elim)
  have d123 := notIn_new f122.lt hc109
  have f124 := w70.post p67.bd p84 (fun _ x => x.elim) (fun _ _ x => x.elim)
  have d125 := notIn_new f124.lt hc109
  have d126 := notIn_new r88.lt hc109
  refine lwp_op (by kernel_rfl) (owp_storeN 0 [.int .i64 t79.1.Cmd, .bool t79.1.Wcc.Alarm, .bool t79.1.Wcc.Unlock, .bool t79.1.Wcc.Reset, .slice a85 t79.1.Orders.length c86] p110.bd o111 (by kernel_rfl) (by kernel_rfl) (by simp [Value.oneCell']) (by kernel_rfl) (Nat.le_of_ble_eq_true rfl) ?_)
  intro h127 p128 o129
  have pt130 := pt112.own p128 (one_nw fr113)
  refine lwp_run 1 (by kernel_rfl) ?_
  refine lwp_nil ?_
  refine cwp_seq ?_
  refine cwp_region ?_
  refine lwp_run 1 (by kernel_rfl) ?_
  have f131 := ErrV.up (p29.up p14.bd (fun _ x => x.elim)) q22
  have f132 := ErrV.up (p37.up p29.bd (one_not o30.no)) f131
  have f133 := ErrV.up (p45.up p37.bd (fun _ x => x.elim)) f132
  have f134 := ErrV.up (p67.up p45.bd (fun _ x => x.elim)) f133
  have f135 := ErrV.up (p84.up p67.bd (fun _ x => x.elim)) f134
  have f136 := ErrV.up (p110.up p84.bd (fun _ x => x.elim)) f135
  have f137 := ErrV.up (p128.up p110.bd (one_not o111.no)) f136
  rcases f137.cases with ⟨c138, rfl⟩ | ⟨c138, t139, u140, rfl⟩
  · rw [if_pos c138] at H
    refine lwp_run 3 (by kernel_rfl) ?_
    have f141 := o38.post p45 (fun x => x.elim)
    have f142 := f141.post p67 (fun x => x.elim)
    have f143 := f142.post p84 (fun x => x.elim)
    have f144 := f143.post p110 (fun x => x.elim)
    have f145 := f144.post p128 (fun e => d117 e.symm)
    refine lwp_op (by kernel_rfl) (owp_load (by kernel_rfl) (by kernel_rfl) (f145.cell (off := 0) rfl) ?_)
    by_cases c146 : t9.1.Cmd = 245
    · rw [if_pos c146] at H
      refine lwp_op (by kernel_rfl) (owp_pure ((.bool true)) (pr_bool (by kernel_rfl) (eqT c146)) ?_)
      refine lwp_run 4 (by kernel_rfl) ?_
      rcases bool_or t9.1.Wcc.Unlock with c147 | c147
      · replace H := bif_f c147 H
        refine lwp_op (by kernel_rfl) (owp_load (by kernel_rfl) (by kernel_rfl) ((f145.cell (off := 2) rfl).trans (congrArg (fun b => some (Value.bool b)) c147)) ?_)
        refine lwp_run 24 (by kernel_rfl) ?_
        refine lwp_nil ?_
        refine cwp_ret ?_
        obtain rfl := Option.some.inj H
        show Exists _
        exact ⟨.bool false, by kernel_rfl, I83, rfl, pt130⟩
      · replace H := bif_t c147 H
        refine lwp_op (by kernel_rfl) (owp_load (by kernel_rfl) (by kernel_rfl) ((f145.cell (off := 2) rfl).trans (congrArg (fun b => some (Value.bool b)) c147)) ?_)
        refine lwp_run 3 (by kernel_rfl) ?_
        have f148 := ErrV.up (p67.up p45.bd (fun _ x => x.elim)) q53
        have f149 := ErrV.up (p84.up p67.bd (fun _ x => x.elim)) f148
        have f150 := ErrV.up (p110.up p84.bd (fun _ x => x.elim)) f149
        have f151 := ErrV.up (p128.up p110.bd (one_not o111.no)) f150
        rcases f151.cases with ⟨c152, rfl⟩ | ⟨c152, t153, u154, rfl⟩
        · rw [if_pos c152] at H
          refine lwp_run 5 (by kernel_rfl) ?_
          by_cases c155 : (t40.1.length : Int) = 1
          · rw [if_pos c155] at H
            refine lwp_op (by kernel_rfl) (owp_pure ((.bool true)) (pr_bool (by kernel_rfl) (eqT c155)) ?_)
            refine lwp_run 3 (by kernel_rfl) ?_
            have f156 := ErrV.up (p110.up p84.bd (fun _ x => x.elim)) q92
            have f157 := ErrV.up (p128.up p110.bd (one_not o111.no)) f156
            obtain ⟨t158, m159, H⟩ := bind_some H
            have f160 := hG.up (p4.up hB (fun _ x => x.elim))
            have f161 := f160.up (p14.up p4.bd (fun _ x => x.elim))
            have f162 := f161.up (p29.up p14.bd (fun _ x => x.elim))
            have f163 := f162.up (p37.up p29.bd (one_not o30.no))
            have f164 := f163.up (p45.up p37.bd (fun _ x => x.elim))
            have f165 := f164.up (p67.up p45.bd (fun _ x => x.elim))
            have f166 := f165.up (p84.up p67.bd (fun _ x => x.elim))
            have f167 := f166.up (p110.up p84.bd (fun _ x => x.elim))
            have f168 := f167.up (p128.up p110.bd (one_not o111.no))
            refine lwp_op (by kernel_rfl) (owp_callF (by kernel_rfl) (api_Code.calls (I := I83) p128.bd f168 f157 m159) ?_)
            rintro v169 h170 ⟨I171, rfl, p172⟩
            have pt173 := pt130.no p172
            by_cases c174 : t158 = 1
            · rw [if_pos c174] at H
              refine lwp_op (by kernel_rfl) (owp_pure ((.bool true)) (pr_bool (by kernel_rfl) (eqT c174)) ?_)
              refine lwp_run 2 (by kernel_rfl) ?_
              obtain ⟨t175, m176, H⟩ := bind_some H
              refine lwp_op (by kernel_rfl) (owp_callF (by kernel_rfl) (stream_Writes.calls (I := I171) p172.bd m176) ?_)
              rintro v177 h178 ⟨_, rfl, rfl⟩
              cases t175
              · rw [cond_false] at H
                refine lwp_run 7 (by kernel_rfl) ?_
                refine lwp_nil ?_
                refine cwp_ret ?_
                obtain rfl := Option.some.inj H
                show Exists _
                exact ⟨.bool false, by kernel_rfl, I171, rfl, pt173⟩
              · rw [cond_true] at H
                refine lwp_run 2 (by kernel_rfl) ?_
                have f181 := f145.post p172 (fun x => x.elim)
                refine lwp_op (by kernel_rfl) (owp_loadN (by kernel_rfl) (by kernel_rfl) (by kernel_rfl) (f181.seg_ 0 5 (Nat.le_of_ble_eq_true rfl)) ?_)
                refine lwp_op (by kernel_rfl) (owp_loadN (by kernel_rfl) (by kernel_rfl) (by kernel_rfl) (f181.seg_ 0 5 (Nat.le_of_ble_eq_true rfl)) ?_)
                have f182 := f102.post p67.bd p84 (fun _ x => x.elim) (fun _ _ x => x.elim)
                have f183 := f182.post p84.bd p110 (fun _ x => x.elim) (fun _ _ x => x.elim)
                have f184 := f183.post p110.bd p128 (one_not o111.no) (dis_one d121)
                have f185 := f184.post p128.bd p172 (fun _ x => x.elim) (fun _ _ x => x.elim)
                obtain ⟨t186, m187, H⟩ := bind_some H
                refine lwp_op (by kernel_rfl) (owp_callF (by kernel_rfl) (stream_Same.calls (I := (Fz I171 a15)) (bd_fz f185 p172.bd) f185.rd f185.rd m187) ?_)
                rintro v188 h189 ⟨I190, rfl, p191⟩
                have p192 := Pst.forget p191 p172.bd
                have pt193 := pt173.no p192
                refine lwp_run 2 (by kernel_rfl) ?_
                refine lwp_nil ?_
                refine cwp_ret ?_
                obtain rfl := Option.some.inj H
                show Exists _
                exact ⟨.bool t186, by kernel_rfl, I171, rfl, pt193⟩
            · rw [if_neg c174] at H
              refine lwp_op (by kernel_rfl) (owp_pure ((.bool false)) (pr_bool (by kernel_rfl) (eqF c174)) ?_)
              refine lwp_run 10 (by kernel_rfl) ?_
              refine lwp_nil ?_
              refine cwp_ret ?_
              obtain rfl := Option.some.inj H
              show Exists _
              exact ⟨.bool false, by kernel_rfl, I171, rfl, pt173⟩
          · rw [if_neg c155] at H
            refine lwp_op (by kernel_rfl) (owp_pure ((.bool false)) (pr_bool (by kernel_rfl) (eqF c155)) ?_)
            refine lwp_run 15 (by kernel_rfl) ?_
            refine lwp_nil ?_
            refine cwp_ret ?_
            obtain rfl := Option.some.inj H
            show Exists _
            exact ⟨.bool false, by kernel_rfl, I83, rfl, pt130⟩
        · rw [if_neg c152] at H
          refine lwp_run 21 (by kernel_rfl) ?_
          refine lwp_nil ?_
          refine cwp_ret ?_
          obtain rfl := Option.some.inj H
          show Exists _
          exact ⟨.bool false, by kernel_rfl, I83, rfl, pt130⟩
    · rw [if_neg c146] at H
      refine lwp_op (by kernel_rfl) (owp_pure ((.bool false)) (pr_bool (by kernel_rfl) (eqF c146)) ?_)
      refine lwp_run 29 (by kernel_rfl) ?_
      refine lwp_nil ?_
      refine cwp_ret ?_
      obtain rfl := Option.some.inj H
      show Exists _
      exact ⟨.bool false, by kernel_rfl, I83, rfl, pt130⟩
  · rw [if_neg c138] at H
    refine lwp_run 34 (by kernel_rfl) ?_
    refine lwp_nil ?_
    refine cwp_ret ?_
    obtain rfl := Option.some.inj H
    show Exists _
    exact ⟨.bool false, by kernel_rfl, I83, rfl, pt130⟩

/-! shutter/shutterref08.Few -/
def shutterref08_Few.l1.m (K : Nat) (x0 : api_Out) : Nat → Int → Option (Bool ⊕ (Unit))
  | 0, _ => none
  | k + 1, x15 => (if x15 < (x0.Orders.length : Int) then (if x15 < 100 then (if 0 ≤ x15 then (if (((at_ x0.Orders x15).Text).length : Int) > 9000 then (some (Sum.inl false)) else (shutterref08_Few.l1.m K x0 k (w64 (x15 + 1)))) else none) else (some (Sum.inr ()))) else (some (Sum.inr ())))
def shutterref08_Few.m (K : Nat) (x0 : api_Out) : Option Bool :=
  ((shutterref08_Few.l1.m K x0 K 0).bind fun s19 => match s19 with | .inl q => (some q) | .inr _ => (some (decide ((x0.Orders.length : Int) ≤ 60))))

set_option maxRecDepth 100000 in
theorem shutterref08_Few.calls {I : Gh} {h : Heap} {K : Nat} {x0 : api_Out} {a1 : Option Addr} {c2 : Nat} (hB : Bd I h) (r4 : Rd t_api_Order I h a1 c2 x0.Orders) {r : Bool}
    (H : shutterref08_Few.m K x0 = some r) :
    Ret Tryd.prog 28 #[.agg #[.int .i64 x0.Cmd, .bool x0.Wcc.Alarm, .bool x0.Wcc.Unlock, .bool x0.Wcc.Reset, .slice a1 x0.Orders.length c2]] h (fun v h' => ∃ (I' : Gh), .bool r = v ∧ Pst No I h I' h') := by
  unfold shutterref08_Few.m at H
  refine ret_of (args := [.agg #[.int .i64 x0.Cmd, .bool x0.Wcc.Alarm, .bool x0.Wcc.Unlock, .bool x0.Wcc.Reset, .slice a1 x0.Orders.length c2]]) (rs := [.tmp 2]) (N := 27) Tryd.func28 rfl rfl rfl (Nat.le_of_ble_eq_true rfl) ?_
  have pt0 : Pst No I h I h := Pst.refl hB
  refine cwp_seq ?_
  refine cwp_region ?_
  refine lwp_op (by kernel_rfl) (owp_box [.int .i64 x0.Cmd, .bool x0.Wcc.Alarm, .bool x0.Wcc.Unlock, .bool x0.Wcc.Reset, .slice a1 x0.Orders.length c2] hB (by kernel_rfl) ?_)
  intro b5 h6 hc7 p8 o9
  have pt10 := pt0.no p8
  have fr11 : No b5 ∨ h.size ≤ b5 := .inr (Nat.le_trans pt0.size hc7)
  refine lwp_run 1 (by kernel_rfl) ?_
  refine lwp_nil ?_
  refine cwp_seq ?_
  refine cwp_seq ?_
  refine cwp_region ?_
  refine lwp_run 1 (by kernel_rfl) ?_
  refine lwp_nil ?_
  refine cwp_block ?_
  have f39 := r4.up (p8.up hB (fun _ x => x.elim))
  obtain ⟨s19, m25, HR26⟩ := bind_some H
  refine cwp_loopE 0 (fun ρ' h20 => ∃ (I21 : Gh), Sum.inr () = s19 ∧ Fits [(1, .pointer (some ⟨b5, 0, none⟩))] ρ' ∧ Pst No I h I21 h20 ∧ Rd t_api_Order I21 h20 a1 c2 x0.Orders ∧ OwnB I21 h20 b5 [.int .i64 x0.Cmd, .bool x0.Wcc.Alarm, .bool x0.Wcc.Unlock, .bool x0.Wcc.Reset, .slice a1 x0.Orders.length c2] 54) ?_ ?_
  · refine cwp_loop (fun k' ρ' h12 => ∃ (x15 : Int) (I13 : Gh), shutterref08_Few.l1.m K x0 k' x15 = some s19 ∧ Fits [(1, .pointer (some ⟨b5, 0, none⟩)), (3, .int .i64 x15)] ρ' ∧ Pst No I h I13 h12 ∧ Rd t_api_Order I13 h12 a1 c2 x0.Orders ∧ OwnB I13 h12 b5 [.int .i64 x0.Cmd, .bool x0.Wcc.Alarm, .bool x0.Wcc.Unlock, .bool x0.Wcc.Reset, .slice a1 x0.Orders.length c2] 54) K ⟨0, I, m25, ⟨by kernel_rfl, by kernel_rfl, trivial⟩, pt10, f39, o9⟩ ?_
    clear m25
    rintro k' ρ' h12 ⟨x15, I13, H, hf, pt14, r16, o17⟩
    cases k' with
    | zero => cases H
    | succ k =>
      rw [shutterref08_Few.l1.m] at H
      refine cwp_fits _ hf ?_
      refine cwp_seq ?_
      refine cwp_seq ?_
      refine cwp_region ?_
      refine lwp_run 2 (by kernel_rfl) ?_
      refine lwp_op (by kernel_rfl) (owp_load (by kernel_rfl) (by kernel_rfl) (o17.cell (off := 4) rfl) ?_)
      refine lwp_run 1 (by kernel_rfl) ?_
      by_cases c27 : x15 < (x0.Orders.length : Int)
      · rw [if_pos c27] at H
        refine lwp_op (by kernel_rfl) (owp_pure ((.bool true)) (pr_bool (by kernel_rfl) (decide_eq_true c27)) ?_)
        refine lwp_run 2 (by kernel_rfl) ?_
        by_cases c28 : x15 < 100
        · rw [if_pos c28] at H
          refine lwp_op (by kernel_rfl) (owp_pure ((.bool true)) (pr_bool (by kernel_rfl) (decide_eq_true c28)) ?_)
          refine lwp_run 1 (by kernel_rfl) ?_
          refine lwp_nil ?_
          refine cwp_true (by kernel_rfl) ?_
          refine cwp_skip ?_
          refine cwp_seq ?_
          refine cwp_block ?_
          refine cwp_seq ?_
          refine cwp_region ?_
          refine lwp_run 1 (by kernel_rfl) ?_
          refine lwp_op (by kernel_rfl) (owp_load (by kernel_rfl) (by kernel_rfl) (o17.cell (off := 4) rfl) ?_)
          obtain ⟨c29, H⟩ := guard_pos H
          refine lwp_run 1 (by kernel_rfl) ?_
          have hs30 := (r16.toSl).isSome c29 c27
          refine lwp_op (by kernel_rfl) (owp_pure (elemPtr a1 (x15.toNat * 8)) (pr_indexElem (e := 26) (r16.toSl) (k := .i64) (by kernel_rfl) (by kernel_rfl) (by kernel_rfl) (by kernel_rfl) c29 c27) ?_)
          refine lwp_op (by kernel_rfl) (owp_pure ((elemPtr a1 (x15.toNat * 8 + 1))) (pr_fieldAddr (a := a1) (n := (x15.toNat * 8)) (off := 1) (by kernel_rfl) hs30 (fun _ _ => by kernel_rfl)) ?_)
          obtain ⟨cs31, hs32, rp33⟩ := (r16.toSl).seg c29 c27
          obtain ⟨a34, c35, rfl, r37⟩ := t_api_Order.open_ rp33
          refine lwp_op (by kernel_rfl) (owp_load (by kernel_rfl) (by kernel_rfl) (seg_cell (f := 1) hs32 rfl) ?_)
          refine lwp_run 1 (by kernel_rfl) ?_
          by_cases c38 : (((at_ x0.Orders x15).Text).length : Int) > 9000
          · rw [if_pos c38] at H
            refine lwp_op (by kernel_rfl) (owp_pure ((.bool true)) (pr_bool (by kernel_rfl) (decide_eq_true c38)) ?_)
            refine lwp_nil ?_
            refine cwp_true (by kernel_rfl) ?_
            refine cwp_seq ?_
            refine cwp_region ?_
            refine lwp_run 1 (by kernel_rfl) ?_
            refine lwp_nil ?_
            refine cwp_ret ?_
            obtain rfl := Option.some.inj H
            obtain rfl := Option.some.inj HR26
            show Exists _
            exact ⟨.bool false, by kernel_rfl, I13, rfl, pt14⟩
          · rw [if_neg c38] at H
            refine lwp_op (by kernel_rfl) (owp_pure ((.bool false)) (pr_bool (by kernel_rfl) (decide_eq_false c38)) ?_)
            refine lwp_nil ?_
            refine cwp_false (by kernel_rfl) ?_
            refine cwp_skip ?_
            refine cwp_region ?_
            refine lwp_run 3 (by kernel_rfl) ?_
            refine lwp_nil ?_
            show Exists _
            exact ⟨k, Nat.lt_succ_self _, (w64 (x15 + 1)), I13, H, ⟨by kernel_rfl, by kernel_rfl, trivial⟩, pt14, r16, o17⟩
        · rw [if_neg c28] at H
          refine lwp_op (by kernel_rfl) (owp_pure ((.bool false)) (pr_bool (by kernel_rfl) (decide_eq_false c28)) ?_)
          refine lwp_run 1 (by kernel_rfl) ?_
          refine lwp_nil ?_
          refine cwp_false (by kernel_rfl) ?_
          refine cwp_exit ?_
          obtain rfl := Option.some.inj H
          show Exists _
          exact ⟨I13, rfl, ⟨by kernel_rfl, trivial⟩, pt14, r16, o17⟩
      · rw [if_neg c27] at H
        refine lwp_op (by kernel_rfl) (owp_pure ((.bool false)) (pr_bool (by kernel_rfl) (decide_eq_false c27)) ?_)
        refine lwp_run 4 (by kernel_rfl) ?_
        refine lwp_nil ?_
        refine cwp_false (by kernel_rfl) ?_
        refine cwp_exit ?_
        obtain rfl := Option.some.inj H
        show Exists _
        exact ⟨I13, rfl, ⟨by kernel_rfl, trivial⟩, pt14, r16, o17⟩
  · rintro ρ' h20 ⟨I21, rfl, hf, pt22, r23, o24⟩
    have H := HR26
    try dsimp only at H
    refine cwp_fits _ hf ?_
    refine cwp_seq ?_
    refine cwp_region ?_
    refine lwp_run 1 (by kernel_rfl) ?_
    refine lwp_op (by kernel_rfl) (owp_load (by kernel_rfl) (by kernel_rfl) (o24.cell (off := 4) rfl) ?_)
    refine lwp_run 3 (by kernel_rfl) ?_
    refine lwp_nil ?_
    refine cwp_ret ?_
    obtain rfl := Option.some.inj H
    show Exists _
    exact ⟨.bool (decide ((x0.Orders.length : Int) ≤ 60)), by kernel_rfl, I21, rfl, pt22⟩

/-! shutter/shutterlaw08.size -/
def shutterlaw08_size.m (x0 : Int) : Option Int :=
  (some (w64 (1 + (Int.tmod (w64 (x0)) 16383))))

set_option maxRecDepth 100000 in
theorem shutterlaw08_size.calls {I : Gh} {h : Heap} {x0 : Int} (_hB : Bd I h)  {r : Int}
    (H : shutterlaw08_size.m x0 = some r) :
    Ret Tryd.prog 30 #[.int .u16 x0] h (fun v h' => ∃ _ : Unit, .int .i64 r = v ∧ h = h') := by
  unfold shutterlaw08_size.m at H
  refine ret_of (args := [.int .u16 x0]) (rs := [.tmp 2]) (N := 7) Tryd.func30 rfl rfl rfl (Nat.le_of_ble_eq_true rfl) ?_
  refine cwp_seq ?_
  refine cwp_region ?_
  refine lwp_run 1 (by kernel_rfl) ?_
  refine lwp_nil ?_
  refine cwp_seq ?_
  refine cwp_region ?_
  refine lwp_run 5 (by kernel_rfl) ?_
  refine lwp_nil ?_
  refine cwp_ret ?_
  obtain rfl := Option.some.inj H
  show Exists _
  exact ⟨.int .i64 (w64 (1 + (Int.tmod (w64 (x0)) 16383))), by kernel_rfl, (), rfl, rfl⟩

/-! shutter/shutterlaw08.StreamBack -/
def shutterlaw08_StreamBack.m (K : Nat) (x0 : api_Out) (x1 : (List Int)) (x2 : Int) : Option Bool :=
  ((shutterlaw08_awake.m K).bind fun t16 => bif t16 then ((shutterref08_Few.m K x0).bind fun t27 => bif t27 then (if (x1.length : Int) > 9000 then ((shutterlaw08_awake.m K).bind fun t35 => (some t35)) else ((shutterlaw08_size.m x2).bind fun t45 => ((stream_Write.m K x0 t45).bind fun t52 => (letJ (α := Option Bool) ((shutterlaw08_size.m x2).bind fun t165 => ((stream_Read.m K x1 t165).bind fun t171 => (if t171.2 = GoErr.nil then ((shutterlaw08_size.m x2).bind fun t207 => ((stream_Write.m K t171.1 t207).bind fun t215 => (if t215.2 = GoErr.nil then ((shutterref01_Same.m K t215.1 x1).bind fun t245 => (some t245)) else (some false)))) else ((stream_Same.m K t171.1 (⟨0, (⟨false, false, false⟩ : api_Wcc), []⟩ : api_Out)).bind fun t253 => (some t253))))) fun (j164 : Option Bool) => (letJ (α := Bool → Option Bool) (fun (x78 : Bool) => (bif x78 then ((shutterlaw08_size.m x2).bind fun t83 => ((stream_Read.m K t52.1 t83).bind fun t89 => (if t89.2 = GoErr.nil then ((stream_Same.m K t89.1 x0).bind fun t136 => bif t136 then ((shutterref08_Same.m K t89.1 x0).bind fun t148 => bif t148 then j164 else (some false)) else (some false)) else (some false)))) else j164)) fun (j82 : Bool → Option Bool) => (if t52.2 = GoErr.nil then (j82 true) else (j82 false))))))) else ((shutterlaw08_awake.m K).bind fun t262 => (some t262))) else ((shutterlaw08_awake.m K).bind fun t271 => (some t271)))

set_option maxRecDepth 100000 in
theorem shutterlaw08_StreamBack.calls {I : Gh} {h : Heap} {K : Nat} {x0 : api_Out} {a1 : Option Addr} {c2 : Nat} {x1 : List Int} {a5 : Option Addr} {c6 : Nat} {x2 : Int} (hB : Bd I h) (hG : Glob I h) (r4 : Rd t_api_Order I h a1 c2 x0.Orders) (r8 : Rd (tInt .u8) I h a5 c6 x1) {r : Bool}
    (H : shutterlaw08_StreamBack.m K x0 x1 x2 = some r) :
    Ret Tryd.prog 5 #[.agg #[.int .i64 x0.Cmd, .bool x0.Wcc.Alarm, .bool x0.Wcc.Unlock, .bool x0.Wcc.Reset, .slice a1 x0.Orders.length c2], .slice a5 x1.length c6, .int .u16 x2] h (fun v h' => ∃ (I' : Gh), .bool r = v ∧ Pst No I h I' h') := by
  unfold shutterlaw08_StreamBack.m at H
  refine ret_of (args := [.agg #[.int .i64 x0.Cmd, .bool x0.Wcc.Alarm, .bool x0.Wcc.Unlock, .bool x0.Wcc.Reset, .slice a1 x0.Orders.length c2], .slice a5 x1.length c6, .int .u16 x2]) (rs := [.tmp 6]) (N := 84) Tryd.func5 rfl rfl rfl (Nat.le_of_ble_eq_true rfl) ?_
  have pt0 : Pst No I h I h := Pst.refl hB
  refine cwp_seq ?_
  refine cwp_region ?_
  refine lwp_op (by kernel_rfl) (owp_box [.int .i64 x0.Cmd, .bool x0.Wcc.Alarm, .bool x0.Wcc.Unlock, .bool x0.Wcc.Reset, .slice a1 x0.Orders.length c2] hB (by kernel_rfl) ?_)
  intro b9 h10 hc11 p12 o13
  have pt14 := pt0.no p12
  have fr15 : No b9 ∨ h.size ≤ b9 := .inr (Nat.le_trans pt0.size hc11)
  refine lwp_run 1 (by kernel_rfl) ?_
  refine lwp_nil ?_
  refine cwp_seq ?_
  refine cwp_seq ?_
  refine cwp_region ?_
  obtain ⟨t16, m17, H⟩ := bind_some H
  have f18 := hG.up (p12.up hB (fun _ x => x.elim))
  refine lwp_op (by kernel_rfl) (owp_callF (by kernel_rfl) (shutterlaw08_awake.calls (I := I) p12.bd f18 m17) ?_)
  rintro v19 h20 ⟨I21, rfl, p22⟩
  have pt23 := pt14.no p22
  cases t16
  · rw [cond_false] at H
    refine lwp_run 11 (by kernel_rfl) ?_
    refine lwp_nil ?_
    refine cwp_true (by kernel_rfl) ?_
    refine cwp_seq ?_
    refine cwp_region ?_
    obtain ⟨t271, m272, H⟩ := bind_some H
    have f273 := f18.up (p22.up p12.bd (fun _ x => x.elim))
    refine lwp_op (by kernel_rfl) (owp_callF (by kernel_rfl) (shutterlaw08_awake.calls (I := I21) p22.bd f273 m272) ?_)
    rintro v274 h275 ⟨I276, rfl, p277⟩
    have pt278 := pt23.no p277
    refine lwp_run 1 (by kernel_rfl) ?_
    refine lwp_nil ?_
    refine cwp_ret ?_
    obtain rfl := Option.some.inj H
    show Exists _
    exact ⟨.bool t271, by kernel_rfl, I276, rfl, pt278⟩
  · rw [cond_true] at H
    refine lwp_run 2 (by kernel_rfl) ?_
    have f24 := o13.post p22 (fun x => x.elim)
    refine lwp_op (by kernel_rfl) (owp_loadN (by kernel_rfl) (by kernel_rfl) (by kernel_rfl) (f24.seg_ 0 5 (Nat.le_of_ble_eq_true rfl)) ?_)
    have f25 := r4.up (p12.up hB (fun _ x => x.elim))
    have f26 := f25.up (p22.up p12.bd (fun _ x => x.elim))
    obtain ⟨t27, m28, H⟩ := bind_some H
    refine lwp_op (by kernel_rfl) (owp_callF (by kernel_rfl) (shutterref08_Few.calls (I := I21) p22.bd f26 m28) ?_)
    rintro v29 h30 ⟨I31, rfl, p32⟩
    have pt33 := pt23.no p32
    cases t27
    · rw [cond_false] at H
      refine lwp_run 7 (by kernel_rfl) ?_
      refine lwp_nil ?_
      refine cwp_true (by kernel_rfl) ?_
      refine cwp_seq ?_
      refine cwp_region ?_
      obtain ⟨t262, m263, H⟩ := bind_some H
      have f264 := f18.up (p22.up p12.bd (fun _ x => x.elim))
      have f265 := f264.up (p32.up p22.bd (fun _ x => x.elim))
      refine lwp_op (by kernel_rfl) (owp_callF (by kernel_rfl) (shutterlaw08_awake.calls (I := I31) p32.bd f265 m263) ?_)
      rintro v266 h267 ⟨I268, rfl, p269⟩
      have pt270 := pt33.no p269
      refine lwp_run 1 (by kernel_rfl) ?_
      refine lwp_nil ?_
      refine cwp_ret ?_
      obtain rfl := Option.some.inj H
      show Exists _
      exact ⟨.bool t262, by kernel_rfl, I268, rfl, pt270⟩
    · rw [cond_true] at H
      refine lwp_run 5 (by kernel_rfl) ?_
      by_cases c34 : (x1.length : Int) > 9000
      · rw [if_pos c34] at H
        refine lwp_op (by kernel_rfl) (owp_pure ((.bool true)) (pr_bool (by kernel_rfl) (decide_eq_true c34)) ?_)
        refine lwp_run 1 (by kernel_rfl) ?_
        refine lwp_nil ?_
        refine cwp_true (by kernel_rfl) ?_
        refine cwp_seq ?_
        refine cwp_region ?_
        obtain ⟨t35, m36, H⟩ := bind_some H
        have f37 := f18.up (p22.up p12.bd (fun _ x => x.elim))
        have f38 := f37.up (p32.up p22.bd (fun _ x => x.elim))
        refine lwp_op (by kernel_rfl) (owp_callF (by kernel_rfl) (shutterlaw08_awake.calls (I := I31) p32.bd f38 m36) ?_)
        rintro v39 h40 ⟨I41, rfl, p42⟩
        have pt43 := pt33.no p42
        refine lwp_run 1 (by kernel_rfl) ?_
        refine lwp_nil ?_
        refine cwp_ret ?_
        obtain rfl := Option.some.inj H
        show Exists _
        exact ⟨.bool t35, by kernel_rfl, I41, rfl, pt43⟩
      · rw [if_neg c34] at H
        refine lwp_op (by kernel_rfl) (owp_pure ((.bool false)) (pr_bool (by kernel_rfl) (decide_eq_false c34)) ?_)
        refine lwp_run 1 (by kernel_rfl) ?_
        refine lwp_nil ?_
        refine cwp_false (by kernel_rfl) ?_
        refine cwp_skip ?_
        refine cwp_seq ?_
        refine cwp_regionD (Keep No h30) 9 (by kernel_rfl) ?_
        have f44 := f24.post p32 (fun x => x.elim)
        refine awp_loadN 0 rfl (by kernel_rfl) (by kernel_rfl) (by kernel_rfl) (by kernel_rfl) (by kernel_rfl) Keep.refl (f44.seg_ 0 5 (Nat.le_of_ble_eq_true rfl)) (fun _ _ x => x.elim) ?_
        refine awp_run (fuel := 7) [1] Keep.refl (by kernel_rfl) ?_
        obtain ⟨t45, m46, H⟩ := bind_some H
        refine awp_op 2 (by kernel_rfl) rfl (by kernel_rfl) (owp_callF (by kernel_rfl) (shutterlaw08_size.calls (I := I31) p32.bd m46) ?_)
        rintro v47 h48 ⟨_, rfl, rfl⟩
        refine ⟨Keep.refl, ?_⟩
        have f51 := f26.up (p32.up p22.bd (fun _ x => x.elim))
        obtain ⟨t52, m53, H⟩ := bind_some H
        refine awp_op 3 (by kernel_rfl) rfl (by kernel_rfl) (owp_callF (by kernel_rfl) (stream_Write.calls (I := I31) (B := I31) p32.bd p32.bd (Rd.mono (I' := Or2 I31 I31) f51 (fun _ x => Or.inr x)) m53) ?_)
        rintro v54 h55 ⟨I56, a58, c59, v63, rfl, p57, r61, fr62, q65⟩
        have pt66 := pt33.no p57
        have fr67 := nw_step (M := No) (n := h.size) (fun _ x => x.elim) fr62 pt33.size
        have d68 := step_blk fr62 f44.lt (fun x => x.elim)
        have hK69 := Keep.post (M := No) Keep.refl (Nat.le_refl _) p57 (fun _ x => x.elim)
        refine ⟨hK69, ?_⟩
        refine awp_run (fuel := 0) [4, 5, 6, 7, 8] hK69 (by kernel_rfl) ?_
        refine awp_nil (by kernel_rfl) ?_ 0
        obtain ⟨j164, e261, H⟩ := letJ_some H
        refine cwp_join (fun ρ' h157 => ∃ (I158 : Gh), j164 = some r ∧ Fits [(1, .slice a5 x1.length c6), (2, .int .u16 x2)] ρ' ∧ Pst No I h I158 h157 ∧ Rd (tInt .u8) I158 h157 a5 c6 x1 ∧ Rd t_api_Order I158 h157 a1 c2 x0.Orders ∧ OwnB I158 h157 b9 [.int .i64 x0.Cmd, .bool x0.Wcc.Alarm, .bool x0.Wcc.Unlock, .bool x0.Wcc.Reset, .slice a1 x0.Orders.length c2] 54 ∧ Glob I158 h157) ?_ ?_
        · obtain ⟨j82, e156, H⟩ := letJ_some H
          refine cwp_join (fun ρ' h73 => ∃ (x78 : Bool) (I74 : Gh), j82 x78 = some r ∧ Fits [(1, .slice a5 x1.length c6), (2, .int .u16 x2), (3, .pointer (some ⟨b9, 0, none⟩)), (7, .slice a58 t52.1.length c59), (36, .bool x78)] ρ' ∧ Pst No I h I74 h73 ∧ Rd (tInt .u8) I74 h73 a5 c6 x1 ∧ OwnX (tInt .u8) I74 I74 h73 a58 c59 t52.1 ∧ Rd t_api_Order I74 h73 a1 c2 x0.Orders ∧ OwnB I74 h73 b9 [.int .i64 x0.Cmd, .bool x0.Wcc.Alarm, .bool x0.Wcc.Unlock, .bool x0.Wcc.Reset, .slice a1 x0.Orders.length c2] 54 ∧ Glob I74 h73) ?_ ?_
          · refine cwp_region ?_
            refine lwp_run 1 (by kernel_rfl) ?_
            rcases q65.cases with ⟨c70, rfl⟩ | ⟨c70, t71, u72, rfl⟩
            · rw [if_pos c70] at H
              refine lwp_run 1 (by kernel_rfl) ?_
              refine lwp_nil ?_
              have f100031 := r8.up (p12.up hB (fun _ x => x.elim))
              have f100032 := f100031.up (p22.up p12.bd (fun _ x => x.elim))
              have f100033 := f100032.up (p32.up p22.bd (fun _ x => x.elim))
              have f100034 := f100033.up (p57.up p32.bd (fun _ x => x.elim))
              have f100035 := f51.up (p57.up p32.bd (fun _ x => x.elim))
              have f100036 := f44.post p57 (fun x => x.elim)
              have f100037 := f18.up (p22.up p12.bd (fun _ x => x.elim))
              have f100038 := f100037.up (p32.up p22.bd (fun _ x => x.elim))
              have f100039 := f100038.up (p57.up p32.bd (fun _ x => x.elim))
              exact ⟨true, I56, H, ⟨by kernel_rfl, by kernel_rfl, by kernel_rfl, by kernel_rfl, by kernel_rfl, trivial⟩, pt66, f100034, r61, f100035, f100036, f100039⟩
            · rw [if_neg c70] at H
              refine lwp_run 1 (by kernel_rfl) ?_
              refine lwp_nil ?_
              have f100040 := r8.up (p12.up hB (fun _ x => x.elim))
              have f100041 := f100040.up (p22.up p12.bd (fun _ x => x.elim))
              have f100042 := f100041.up (p32.up p22.bd (fun _ x => x.elim))
              have f100043 := f100042.up (p57.up p32.bd (fun _ x => x.elim))
              have f100044 := f51.up (p57.up p32.bd (fun _ x => x.elim))
              have f100045 := f44.post p57 (fun x => x.elim)
              have f100046 := f18.up (p22.up p12.bd (fun _ x => x.elim))
              have f100047 := f100046.up (p32.up p22.bd (fun _ x => x.elim))
              have f100048 := f100047.up (p57.up p32.bd (fun _ x => x.elim))
              exact ⟨false, I56, H, ⟨by kernel_rfl, by kernel_rfl, by kernel_rfl, by kernel_rfl, by kernel_rfl, trivial⟩, pt66, f100043, r61, f100044, f100045, f100048⟩
          · clear H
            rintro ρ' h73 ⟨x78, I74, H, hf, pt75, r76, r77, r79, o80, g81⟩
            refine cwp_fits _ hf ?_
            subst e156
            try dsimp only at H
            cases x78
            · rw [cond_false] at H
              refine cwp_false (by kernel_rfl) ?_
              refine cwp_skip ?_
              exact ⟨I74, H, ⟨by kernel_rfl, by kernel_rfl, trivial⟩, pt75, r76, r79, o80, g81⟩
            · rw [cond_true] at H
              refine cwp_true (by kernel_rfl) ?_
              refine cwp_seq ?_
              refine cwp_region ?_
              refine lwp_run 2 (by kernel_rfl) ?_
              obtain ⟨t83, m84, H⟩ := bind_some H
              refine lwp_op (by kernel_rfl) (owp_callF (by kernel_rfl) (shutterlaw08_size.calls (I := I74) pt75.bd m84) ?_)
              rintro v85 h86 ⟨_, rfl, rfl⟩
              obtain ⟨t89, m90, H⟩ := bind_some H
              refine lwp_op (by kernel_rfl) (owp_callF (by kernel_rfl) (stream_Read.calls (I := I74) (B := (Fz I74 a58)) pt75.bd (bd_fz r77 pt75.bd) (Rd.mono (I' := Or2 I74 (Fz I74 a58)) r77.rd (fun _ x => Or.inr x)) m90) ?_)
              rintro v91 h92 ⟨I93, a95, c96, v100, rfl, p94, r98, fr99, q102⟩
              have pt103 := pt75.no p94
              have fr104 := nw_step (M := No) (n := h.size) (fun _ x => x.elim) fr99 pt75.size
              have d105 := step_blk fr99 o80.lt (fun x => x.elim)
              have d106 := step_sl fr99 r77.lt (fun _ _ x => x.elim)
              refine lwp_run 3 (by kernel_rfl) ?_
              refine lwp_op (by kernel_rfl) (owp_alloc [.int .i64 0, .bool false, .bool false, .bool false, .slice none 0 0] (.agg #[.int .i64 0, .bool false, .bool false, .bool false, .slice none 0 0]) p94.bd (by kernel_rfl) (by kernel_rfl) ?_)
              intro b107 h108 hc109 p110 o111
              have pt112 := pt103.no p110
              have fr113 : No b107 ∨ h.size ≤ b107 := .inr (Nat.le_trans pt103.size hc109)
              have f114 := o80.post p94 (fun x => x.elim)
              have d115 := ne_new f114.lt hc109
              have f116 := r77.post pt75.bd p94 (fun _ x => x.elim) (fun _ _ x => x.elim)
              have d117 := notIn_new f116.lt hc109
              have d118 := notIn_new r98.lt hc109
              refine lwp_op (by kernel_rfl) (owp_storeN 0 [.int .i64 t89.1.Cmd, .bool t89.1.Wcc.Alarm, .bool t89.1.Wcc.Unlock, .bool t89.1.Wcc.Reset, .slice a95 t89.1.Orders.length c96] p110.bd o111 (by kernel_rfl) (by kernel_rfl) (by simp [Value.oneCell']) (by kernel_rfl) (Nat.le_of_ble_eq_true rfl) ?_)
              intro h119 p120 o121
              have pt122 := pt112.own p120 (one_nw fr113)
              refine lwp_run 1 (by kernel_rfl) ?_
              refine lwp_nil ?_
              refine cwp_seq ?_
              refine cwp_region ?_
              refine lwp_run 1 (by kernel_rfl) ?_
              have f123 := ErrV.up (p110.up p94.bd (fun _ x => x.elim)) q102
              have f124 := ErrV.up (p120.up p110.bd (one_not o111.no)) f123
              rcases f124.cases with ⟨c125, rfl⟩ | ⟨c125, t126, u127, rfl⟩
              · rw [if_pos c125] at H
                refine lwp_run 2 (by kernel_rfl) ?_
                refine lwp_op (by kernel_rfl) (owp_loadN (by kernel_rfl) (by kernel_rfl) (by kernel_rfl) (o121.seg_ 0 5 (Nat.le_of_ble_eq_true rfl)) ?_)
                have f128 := o80.post p94 (fun x => x.elim)
                have f129 := f128.post p110 (fun x => x.elim)
                have f130 := f129.post p120 (fun e => d115 e.symm)
                refine lwp_op (by kernel_rfl) (owp_loadN (by kernel_rfl) (by kernel_rfl) (by kernel_rfl) (f130.seg_ 0 5 (Nat.le_of_ble_eq_true rfl)) ?_)
                have f131 := r98.post p94.bd p110 (fun _ x => x.elim) (fun _ _ x => x.elim)
                have f132 := f131.post p110.bd p120 (one_not o111.no) (dis_one d118)
                have f133 := r79.up (p94.up pt75.bd (fun _ x => x.elim))
                have f134 := f133.up (p110.up p94.bd (fun _ x => x.elim))
                have f135 := f134.up (p120.up p110.bd (one_not o111.no))
                obtain ⟨t136, m137, H⟩ := bind_some H
                refine lwp_op (by kernel_rfl) (owp_callF (by kernel_rfl) (stream_Same.calls (I := (Fz I93 a95)) (bd_fz f132 p120.bd) f132.rd (Rd.mono (I' := (Fz I93 a95)) f135 (fun _ x => (Or.inl x))) m137) ?_)
                rintro v138 h139 ⟨I140, rfl, p141⟩
                have p142 := Pst.forget p141 p120.bd
                have pt143 := pt122.no p142
                cases t136
                · rw [cond_false] at H
                  refine lwp_run 8 (by kernel_rfl) ?_
                  refine lwp_nil ?_
                  refine cwp_true (by kernel_rfl) ?_
                  refine cwp_seq ?_
                  refine cwp_region ?_
                  refine lwp_run 1 (by kernel_rfl) ?_
                  refine lwp_nil ?_
                  refine cwp_ret ?_
                  obtain rfl := Option.some.inj H
                  show Exists _
                  exact ⟨.bool false, by kernel_rfl, I93, rfl, pt143⟩
                · rw [cond_true] at H
                  refine lwp_run 3 (by kernel_rfl) ?_
                  have f144 := o121.post p142 (fun x => x.elim)
                  refine lwp_op (by kernel_rfl) (owp_loadN (by kernel_rfl) (by kernel_rfl) (by kernel_rfl) (f144.seg_ 0 5 (Nat.le_of_ble_eq_true rfl)) ?_)
                  have f145 := f130.post p142 (fun x => x.elim)
                  refine lwp_op (by kernel_rfl) (owp_loadN (by kernel_rfl) (by kernel_rfl) (by kernel_rfl) (f145.seg_ 0 5 (Nat.le_of_ble_eq_true rfl)) ?_)
                  have f146 := f132.post p120.bd p142 (fun _ x => x.elim) (fun _ _ x => x.elim)
                  have f147 := f135.up (p142.up p120.bd (fun _ x => x.elim))
                  obtain ⟨t148, m149, H⟩ := bind_some H
                  refine lwp_op (by kernel_rfl) (owp_callF (by kernel_rfl) (shutterref08_Same.calls (I := (Fz I93 a95)) (bd_fz f146 p142.bd) f146.rd (Rd.mono (I' := (Fz I93 a95)) f147 (fun _ x => (Or.inl x))) m149) ?_)
                  rintro v150 h151 ⟨I152, rfl, p153⟩
                  have p154 := Pst.forget p153 p142.bd
                  have pt155 := pt143.no p154
                  cases t148
                  · rw [cond_false] at H
                    refine lwp_run 2 (by kernel_rfl) ?_
                    refine lwp_nil ?_
                    refine cwp_true (by kernel_rfl) ?_
                    refine cwp_seq ?_
                    refine cwp_region ?_
                    refine lwp_run 1 (by kernel_rfl) ?_
                    refine lwp_nil ?_
                    refine cwp_ret ?_
                    obtain rfl := Option.some.inj H
                    show Exists _
                    exact ⟨.bool false, by kernel_rfl, I93, rfl, pt155⟩
                  · rw [cond_true] at H
                    refine lwp_run 2 (by kernel_rfl) ?_
                    refine lwp_nil ?_
                    refine cwp_false (by kernel_rfl) ?_
                    refine cwp_skip ?_
                    have f100019 := r76.up (p94.up pt75.bd (fun _ x => x.elim))
                    have f100020 := f100019.up (p110.up p94.bd (fun _ x => x.elim))
                    have f100021 := f100020.up (p120.up p110.bd (one_not o111.no))
                    have f100022 := f100021.up (p142.up p120.bd (fun _ x => x.elim))
                    have f100023 := f100022.up (p154.up p142.bd (fun _ x => x.elim))
                    have f100024 := f147.up (p154.up p142.bd (fun _ x => x.elim))
                    have f100025 := f145.post p154 (fun x => x.elim)
                    have f100026 := g81.up (p94.up pt75.bd (fun _ x => x.elim))
                    have f100027 := f100026.up (p110.up p94.bd (fun _ x => x.elim))
                    have f100028 := f100027.up (p120.up p110.bd (one_not o111.no))
                    have f100029 := f100028.up (p142.up p120.bd (fun _ x => x.elim))
                    have f100030 := f100029.up (p154.up p142.bd (fun _ x => x.elim))
                    exact ⟨I93, H, ⟨by kernel_rfl, by kernel_rfl, trivial⟩, pt155, f100023, f100024, f100025, f100030⟩
              · rw [if_neg c125] at H
                refine lwp_run 13 (by kernel_rfl) ?_
                refine lwp_nil ?_
                refine cwp_true (by kernel_rfl) ?_
                refine cwp_seq ?_
                refine cwp_region ?_
                refine lwp_run 1 (by kernel_rfl) ?_
                refine lwp_nil ?_
                refine cwp_ret ?_
                obtain rfl := Option.some.inj H
                show Exists _
                exact ⟨.bool false, by kernel_rfl, I93, rfl, pt122⟩
        · clear H
          rintro ρ' h157 ⟨I158, H, hf, pt159, r160, r161, o162, g163⟩
          refine cwp_fits _ hf ?_
          subst e261
          try dsimp only at H
          refine cwp_seq ?_
          refine cwp_region ?_
          refine lwp_run 2 (by kernel_rfl) ?_
          obtain ⟨t165, m166, H⟩ := bind_some H
          refine lwp_op (by kernel_rfl) (owp_callF (by kernel_rfl) (shutterlaw08_size.calls (I := I158) pt159.bd m166) ?_)
          rintro v167 h168 ⟨_, rfl, rfl⟩
          obtain ⟨t171, m172, H⟩ := bind_some H
          refine lwp_op (by kernel_rfl) (owp_callF (by kernel_rfl) (stream_Read.calls (I := I158) (B := I158) pt159.bd pt159.bd (Rd.mono (I' := Or2 I158 I158) r160 (fun _ x => Or.inr x)) m172) ?_)
          rintro v173 h174 ⟨I175, a177, c178, v182, rfl, p176, r180, fr181, q184⟩
          have pt185 := pt159.no p176
          have fr186 := nw_step (M := No) (n := h.size) (fun _ x => x.elim) fr181 pt159.size
          have d187 := step_blk fr181 o162.lt (fun x => x.elim)
          refine lwp_run 3 (by kernel_rfl) ?_
          refine lwp_op (by kernel_rfl) (owp_alloc [.int .i64 0, .bool false, .bool false, .bool false, .slice none 0 0] (.agg #[.int .i64 0, .bool false, .bool false, .bool false, .slice none 0 0]) p176.bd (by kernel_rfl) (by kernel_rfl) ?_)
          intro b188 h189 hc190 p191 o192
          have pt193 := pt185.no p191
          have fr194 : No b188 ∨ h.size ≤ b188 := .inr (Nat.le_trans pt185.size hc190)
          have f195 := o162.post p176 (fun x => x.elim)
          have d196 := ne_new f195.lt hc190
          have d197 := notIn_new r180.lt hc190
          refine lwp_op (by kernel_rfl) (owp_storeN 0 [.int .i64 t171.1.Cmd, .bool t171.1.Wcc.Alarm, .bool t171.1.Wcc.Unlock, .bool t171.1.Wcc.Reset, .slice a177 t171.1.Orders.length c178] p191.bd o192 (by kernel_rfl) (by kernel_rfl) (by simp [Value.oneCell']) (by kernel_rfl) (Nat.le_of_ble_eq_true rfl) ?_)
          intro h198 p199 o200
          have pt201 := pt193.own p199 (one_nw fr194)
          refine lwp_run 1 (by kernel_rfl) ?_
          refine lwp_nil ?_
          refine cwp_seq ?_
          refine cwp_seq ?_
          refine cwp_region ?_
          refine lwp_run 1 (by kernel_rfl) ?_
          have f202 := ErrV.up (p191.up p176.bd (fun _ x => x.elim)) q184
          have f203 := ErrV.up (p199.up p191.bd (one_not o192.no)) f202
          rcases f203.cases with ⟨c204, rfl⟩ | ⟨c204, t205, u206, rfl⟩
          · rw [if_pos c204] at H
            refine lwp_run 1 (by kernel_rfl) ?_
            refine lwp_nil ?_
            refine cwp_false (by kernel_rfl) ?_
            refine cwp_skip ?_
            refine cwp_seq ?_
            refine cwp_regionD (Keep No h198) 9 (by kernel_rfl) ?_
            refine awp_loadN 0 rfl (by kernel_rfl) (by kernel_rfl) (by kernel_rfl) (by kernel_rfl) (by kernel_rfl) Keep.refl (o200.seg_ 0 5 (Nat.le_of_ble_eq_true rfl)) (fun _ _ x => x.elim) ?_
            refine awp_run (fuel := 7) [1] Keep.refl (by kernel_rfl) ?_
            obtain ⟨t207, m208, H⟩ := bind_some H
            refine awp_op 2 (by kernel_rfl) rfl (by kernel_rfl) (owp_callF (by kernel_rfl) (shutterlaw08_size.calls (I := I175) p199.bd m208) ?_)
            rintro v209 h210 ⟨_, rfl, rfl⟩
            refine ⟨Keep.refl, ?_⟩
            have f213 := r180.post p176.bd p191 (fun _ x => x.elim) (fun _ _ x => x.elim)
            have f214 := f213.post p191.bd p199 (one_not o192.no) (dis_one d197)
            obtain ⟨t215, m216, H⟩ := bind_some H
            refine awp_op 3 (by kernel_rfl) rfl (by kernel_rfl) (owp_callF (by kernel_rfl) (stream_Write.calls (I := I175) (B := (Fz I175 a177)) p199.bd (bd_fz f214 p199.bd) (Rd.mono (I' := Or2 I175 (Fz I175 a177)) f214.rd (fun _ x => Or.inr x)) m216) ?_)
            rintro v217 h218 ⟨I219, a221, c222, v226, rfl, p220, r224, fr225, q228⟩
            have pt229 := pt201.no p220
            have fr230 := nw_step (M := No) (n := h.size) (fun _ x => x.elim) fr225 pt201.size
            have f231 := o162.post p176 (fun x => x.elim)
            have f232 := f231.post p191 (fun x => x.elim)
            have f233 := f232.post p199 (fun e => d196 e.symm)
            have d234 := step_blk fr225 f233.lt (fun x => x.elim)
            have d235 := step_blk fr225 o200.lt (fun x => x.elim)
            have d236 := step_sl fr225 f214.lt (fun _ _ x => x.elim)
            have hK237 := Keep.post (M := No) Keep.refl (Nat.le_refl _) p220 (fun _ x => x.elim)
            refine ⟨hK237, ?_⟩
            refine awp_run (fuel := 0) [4, 5, 6, 7, 8] hK237 (by kernel_rfl) ?_
            refine awp_nil (by kernel_rfl) ?_ 0
            refine cwp_seq ?_
            refine cwp_region ?_
            refine lwp_run 1 (by kernel_rfl) ?_
            rcases q228.cases with ⟨c238, rfl⟩ | ⟨c238, t239, u240, rfl⟩
            · rw [if_pos c238] at H
              refine lwp_run 4 (by kernel_rfl) ?_
              have f241 := r160.up (p176.up pt159.bd (fun _ x => x.elim))
              have f242 := f241.up (p191.up p176.bd (fun _ x => x.elim))
              have f243 := f242.up (p199.up p191.bd (one_not o192.no))
              have f244 := f243.up (p220.up p199.bd (fun _ x => x.elim))
              obtain ⟨t245, m246, H⟩ := bind_some H
              refine lwp_op (by kernel_rfl) (owp_callF (by kernel_rfl) (shutterref01_Same.calls (I := (Fz I219 a221)) (bd_fz r224 p220.bd) r224.rd (Rd.mono (I' := (Fz I219 a221)) f244 (fun _ x => (Or.inl x))) m246) ?_)
              rintro v247 h248 ⟨_, rfl, rfl⟩
              refine lwp_run 2 (by kernel_rfl) ?_
              refine lwp_nil ?_
              refine cwp_ret ?_
              obtain rfl := Option.some.inj H
              show Exists _
              exact ⟨.bool t245, by kernel_rfl, I219, rfl, pt229⟩
            · rw [if_neg c238] at H
              refine lwp_run 7 (by kernel_rfl) ?_
              refine lwp_nil ?_
              refine cwp_ret ?_
              obtain rfl := Option.some.inj H
              show Exists _
              exact ⟨.bool false, by kernel_rfl, I219, rfl, pt229⟩
          · rw [if_neg c204] at H
            refine lwp_run 1 (by kernel_rfl) ?_
            refine lwp_nil ?_
            refine cwp_true (by kernel_rfl) ?_
            refine cwp_seq ?_
            refine cwp_region ?_
            refine lwp_op (by kernel_rfl) (owp_loadN (by kernel_rfl) (by kernel_rfl) (by kernel_rfl) (o200.seg_ 0 5 (Nat.le_of_ble_eq_true rfl)) ?_)
            refine lwp_run 1 (by kernel_rfl) ?_
            have f251 := r180.post p176.bd p191 (fun _ x => x.elim) (fun _ _ x => x.elim)
            have f252 := f251.post p191.bd p199 (one_not o192.no) (dis_one d197)
            obtain ⟨t253, m254, H⟩ := bind_some H
            refine lwp_op (by kernel_rfl) (owp_callF (by kernel_rfl) (stream_Same.calls (I := (Fz I175 a177)) (bd_fz f252 p199.bd) f252.rd (rd_nil t_api_Order (Fz I175 a177) h198) m254) ?_)
            rintro v255 h256 ⟨I257, rfl, p258⟩
            have p259 := Pst.forget p258 p199.bd
            have pt260 := pt201.no p259
            refine lwp_run 1 (by kernel_rfl) ?_
            refine lwp_nil ?_
            refine cwp_ret ?_
            obtain rfl := Option.some.inj H
            show Exists _
            exact ⟨.bool t253, by kernel_rfl, I175, rfl, pt260⟩

end Go.Proofs.YtociikgdocjfnaaDoor.Sx
