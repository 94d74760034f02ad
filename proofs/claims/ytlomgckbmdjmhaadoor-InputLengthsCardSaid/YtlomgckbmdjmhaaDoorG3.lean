/- Printed walks, part 3: each function's model, and that the code comes to it. -/
import Derived.Test.YtlomgckbmdjmhaaDoorProg
import Derived.Test.YtlomgckbmdjmhaaDoorSxF
import Derived.Test.YtlomgckbmdjmhaaDoorG2
namespace Go.Proofs.YtlomgckbmdjmhaaDoor.Sx
open Go

/-! shutter/shutterlaw09.InputApart -/
def shutterlaw09_InputApart.m (K : Nat) (x0 : api_In) (x1 : api_In) (x2 : Int) : Option Bool :=
  ((shutterlaw09_awake.m K).bind fun t24 => bif t24 then ((shutterref09_Few.m K x0).bind fun t38 => bif t38 then ((shutterref09_Few.m K x1).bind fun t51 => bif t51 then ((shutterlaw09_size.m x2).bind fun t60 => ((input_Write.m K x0 t60).bind fun t68 => ((shutterlaw09_size.m x2).bind fun t90 => ((input_Write.m K x1 t90).bind fun t98 => (if t68.2 = GoErr.nil then (if t98.2 = GoErr.nil then ((shutterref01_Same.m K t68.1 t98.1).bind fun t130 => ((input_Same.m K x0 x1).bind fun t139 => (bif (t130 == t139) then ((input_Same.m K x0 x1).bind fun t150 => ((shutterref09_Same.m K x0 x1).bind fun t160 => (some (t150 == t160)))) else (some false)))) else (some true)) else (some true)))))) else ((shutterlaw09_awake.m K).bind fun t168 => (some t168))) else ((shutterlaw09_awake.m K).bind fun t178 => (some t178))) else ((shutterlaw09_awake.m K).bind fun t187 => (some t187)))

set_option maxRecDepth 100000 in
theorem shutterlaw09_InputApart.calls {I : Gh} {h : Heap} {K : Nat} {x0 : api_In} {a1 : Option Addr} {c2 : Nat} {x1 : api_In} {a5 : Option Addr} {c6 : Nat} {x2 : Int} (hB : Bd I h) (hG : Glob I h) (r4 : Rd t_api_Entry I h a1 c2 x0.Fields) (r8 : Rd t_api_Entry I h a5 c6 x1.Fields) {r : Bool}
    (H : shutterlaw09_InputApart.m K x0 x1 x2 = some r) :
    Ret Tryd.prog 6 #[.agg #[.int .u8 x0.Aid, .int .i64 x0.Cursor, .slice a1 x0.Fields.length c2], .agg #[.int .u8 x1.Aid, .int .i64 x1.Cursor, .slice a5 x1.Fields.length c6], .int .u16 x2] h (fun v h' => ∃ (I' : Gh), .bool r = v ∧ Pst No I h I' h') := by
  unfold shutterlaw09_InputApart.m at H
  refine ret_of (args := [.agg #[.int .u8 x0.Aid, .int .i64 x0.Cursor, .slice a1 x0.Fields.length c2], .agg #[.int .u8 x1.Aid, .int .i64 x1.Cursor, .slice a5 x1.Fields.length c6], .int .u16 x2]) (rs := [.tmp 6]) (N := 60) Tryd.func6 rfl rfl rfl (Nat.le_of_ble_eq_true rfl) ?_
  have pt0 : Pst No I h I h := Pst.refl hB
  refine cwp_seq ?_
  refine cwp_region ?_
  refine lwp_op (by kernel_rfl) (owp_box [.int .u8 x0.Aid, .int .i64 x0.Cursor, .slice a1 x0.Fields.length c2] hB (by kernel_rfl) ?_)
  intro b9 h10 hc11 p12 o13
  have pt14 := pt0.no p12
  have fr15 : No b9 ∨ h.size ≤ b9 := .inr (Nat.le_trans pt0.size hc11)
  refine lwp_op (by kernel_rfl) (owp_box [.int .u8 x1.Aid, .int .i64 x1.Cursor, .slice a5 x1.Fields.length c6] p12.bd (by kernel_rfl) ?_)
  intro b16 h17 hc18 p19 o20
  have pt21 := pt14.no p19
  have fr22 : No b16 ∨ h.size ≤ b16 := .inr (Nat.le_trans pt14.size hc18)
  have d23 := ne_new o13.lt hc18
  refine lwp_run 1 (by kernel_rfl) ?_
  refine lwp_nil ?_
  refine cwp_seq ?_
  refine cwp_seq ?_
  refine cwp_region ?_
  obtain ⟨t24, m25, H⟩ := bind_some H
  have f26 := hG.up (p12.up hB (fun _ x => x.elim))
  have f27 := f26.up (p19.up p12.bd (fun _ x => x.elim))
  refine lwp_op (by kernel_rfl) (owp_callF (by kernel_rfl) (shutterlaw09_awake.calls (I := I) p19.bd f27 m25) ?_)
  rintro v28 h29 ⟨I30, rfl, p31⟩
  have pt32 := pt21.no p31
  cases t24
  · rw [cond_false] at H
    refine lwp_run 11 (by kernel_rfl) ?_
    refine lwp_nil ?_
    refine cwp_true (by kernel_rfl) ?_
    refine cwp_seq ?_
    refine cwp_region ?_
    obtain ⟨t187, m188, H⟩ := bind_some H
    have f189 := f27.up (p31.up p19.bd (fun _ x => x.elim))
    refine lwp_op (by kernel_rfl) (owp_callF (by kernel_rfl) (shutterlaw09_awake.calls (I := I30) p31.bd f189 m188) ?_)
    rintro v190 h191 ⟨I192, rfl, p193⟩
    have pt194 := pt32.no p193
    refine lwp_run 1 (by kernel_rfl) ?_
    refine lwp_nil ?_
    refine cwp_ret ?_
    obtain rfl := Option.some.inj H
    show Exists _
    exact ⟨.bool t187, by kernel_rfl, I192, rfl, pt194⟩
  · rw [cond_true] at H
    refine lwp_run 2 (by kernel_rfl) ?_
    have f33 := o13.post p19 (fun x => x.elim)
    have f34 := f33.post p31 (fun x => x.elim)
    refine lwp_op (by kernel_rfl) (owp_loadN (by kernel_rfl) (by kernel_rfl) (by kernel_rfl) (f34.seg_ 0 3 (Nat.le_of_ble_eq_true rfl)) ?_)
    have f35 := r4.up (p12.up hB (fun _ x => x.elim))
    have f36 := f35.up (p19.up p12.bd (fun _ x => x.elim))
    have f37 := f36.up (p31.up p19.bd (fun _ x => x.elim))
    obtain ⟨t38, m39, H⟩ := bind_some H
    refine lwp_op (by kernel_rfl) (owp_callF (by kernel_rfl) (shutterref09_Few.calls (I := I30) p31.bd f37 m39) ?_)
    rintro v40 h41 ⟨I42, rfl, p43⟩
    have pt44 := pt32.no p43
    cases t38
    · rw [cond_false] at H
      refine lwp_run 7 (by kernel_rfl) ?_
      refine lwp_nil ?_
      refine cwp_true (by kernel_rfl) ?_
      refine cwp_seq ?_
      refine cwp_region ?_
      obtain ⟨t178, m179, H⟩ := bind_some H
      have f180 := f27.up (p31.up p19.bd (fun _ x => x.elim))
      have f181 := f180.up (p43.up p31.bd (fun _ x => x.elim))
      refine lwp_op (by kernel_rfl) (owp_callF (by kernel_rfl) (shutterlaw09_awake.calls (I := I42) p43.bd f181 m179) ?_)
      rintro v182 h183 ⟨I184, rfl, p185⟩
      have pt186 := pt44.no p185
      refine lwp_run 1 (by kernel_rfl) ?_
      refine lwp_nil ?_
      refine cwp_ret ?_
      obtain rfl := Option.some.inj H
      show Exists _
      exact ⟨.bool t178, by kernel_rfl, I184, rfl, pt186⟩
    · rw [cond_true] at H
      refine lwp_run 3 (by kernel_rfl) ?_
      have f45 := o20.post p31 (fun x => x.elim)
      have f46 := f45.post p43 (fun x => x.elim)
      refine lwp_op (by kernel_rfl) (owp_loadN (by kernel_rfl) (by kernel_rfl) (by kernel_rfl) (f46.seg_ 0 3 (Nat.le_of_ble_eq_true rfl)) ?_)
      have f47 := r8.up (p12.up hB (fun _ x => x.elim))
      have f48 := f47.up (p19.up p12.bd (fun _ x => x.elim))
      have f49 := f48.up (p31.up p19.bd (fun _ x => x.elim))
      have f50 := f49.up (p43.up p31.bd (fun _ x => x.elim))
      obtain ⟨t51, m52, H⟩ := bind_some H
      refine lwp_op (by kernel_rfl) (owp_callF (by kernel_rfl) (shutterref09_Few.calls (I := I42) p43.bd f50 m52) ?_)
      rintro v53 h54 ⟨I55, rfl, p56⟩
      have pt57 := pt44.no p56
      cases t51
      · rw [cond_false] at H
        refine lwp_run 2 (by kernel_rfl) ?_
        refine lwp_nil ?_
        refine cwp_true (by kernel_rfl) ?_
        refine cwp_seq ?_
        refine cwp_region ?_
        obtain ⟨t168, m169, H⟩ := bind_some H
        have f170 := f27.up (p31.up p19.bd (fun _ x => x.elim))
        have f171 := f170.up (p43.up p31.bd (fun _ x => x.elim))
        have f172 := f171.up (p56.up p43.bd (fun _ x => x.elim))
        refine lwp_op (by kernel_rfl) (owp_callF (by kernel_rfl) (shutterlaw09_awake.calls (I := I55) p56.bd f172 m169) ?_)
        rintro v173 h174 ⟨I175, rfl, p176⟩
        have pt177 := pt57.no p176
        refine lwp_run 1 (by kernel_rfl) ?_
        refine lwp_nil ?_
        refine cwp_ret ?_
        obtain rfl := Option.some.inj H
        show Exists _
        exact ⟨.bool t168, by kernel_rfl, I175, rfl, pt177⟩
      · rw [cond_true] at H
        refine lwp_run 2 (by kernel_rfl) ?_
        refine lwp_nil ?_
        refine cwp_false (by kernel_rfl) ?_
        refine cwp_skip ?_
        refine cwp_seq ?_
        refine cwp_regionD (Keep No h54) 9 (by kernel_rfl) ?_
        have f58 := f34.post p43 (fun x => x.elim)
        have f59 := f58.post p56 (fun x => x.elim)
        refine awp_loadN 0 rfl (by kernel_rfl) (by kernel_rfl) (by kernel_rfl) (by kernel_rfl) (by kernel_rfl) Keep.refl (f59.seg_ 0 3 (Nat.le_of_ble_eq_true rfl)) (fun _ _ x => x.elim) ?_
        refine awp_run (fuel := 7) [1] Keep.refl (by kernel_rfl) ?_
        obtain ⟨t60, m61, H⟩ := bind_some H
        refine awp_op 2 (by kernel_rfl) rfl (by kernel_rfl) (owp_callF (by kernel_rfl) (shutterlaw09_size.calls (I := I55) p56.bd m61) ?_)
        rintro v62 h63 ⟨_, rfl, rfl⟩
        refine ⟨Keep.refl, ?_⟩
        have f66 := f37.up (p43.up p31.bd (fun _ x => x.elim))
        have f67 := f66.up (p56.up p43.bd (fun _ x => x.elim))
        obtain ⟨t68, m69, H⟩ := bind_some H
        refine awp_op 3 (by kernel_rfl) rfl (by kernel_rfl) (owp_callF (by kernel_rfl) (input_Write.calls (I := I55) (B := I55) p56.bd p56.bd (Rd.mono (I' := Or2 I55 I55) f67 (fun _ x => Or.inr x)) m69) ?_)
        rintro v70 h71 ⟨I72, a74, c75, v79, rfl, p73, r77, fr78, q81⟩
        have pt82 := pt57.no p73
        have fr83 := nw_step (M := No) (n := h.size) (fun _ x => x.elim) fr78 pt57.size
        have d84 := step_blk fr78 f59.lt (fun x => x.elim)
        have f85 := f46.post p56 (fun x => x.elim)
        have d86 := step_blk fr78 f85.lt (fun x => x.elim)
        have hK87 := Keep.post (M := No) Keep.refl (Nat.le_refl _) p73 (fun _ x => x.elim)
        refine ⟨hK87, ?_⟩
        refine awp_run (fuel := 0) [4, 5, 6, 7, 8] hK87 (by kernel_rfl) ?_
        refine awp_nil (by kernel_rfl) ?_ 0
        refine cwp_seq ?_
        refine cwp_regionD (Keep No h71) 9 (by kernel_rfl) ?_
        have f88 := f46.post p56 (fun x => x.elim)
        have f89 := f88.post p73 (fun x => x.elim)
        refine awp_loadN 0 rfl (by kernel_rfl) (by kernel_rfl) (by kernel_rfl) (by kernel_rfl) (by kernel_rfl) Keep.refl (f89.seg_ 0 3 (Nat.le_of_ble_eq_true rfl)) (fun _ _ x => x.elim) ?_
        refine awp_run (fuel := 7) [1] Keep.refl (by kernel_rfl) ?_
        obtain ⟨t90, m91, H⟩ := bind_some H
        refine awp_op 2 (by kernel_rfl) rfl (by kernel_rfl) (owp_callF (by kernel_rfl) (shutterlaw09_size.calls (I := I72) p73.bd m91) ?_)
        rintro v92 h93 ⟨_, rfl, rfl⟩
        refine ⟨Keep.refl, ?_⟩
        have f96 := f50.up (p56.up p43.bd (fun _ x => x.elim))
        have f97 := f96.up (p73.up p56.bd (fun _ x => x.elim))
        obtain ⟨t98, m99, H⟩ := bind_some H
        refine awp_op 3 (by kernel_rfl) rfl (by kernel_rfl) (owp_callF (by kernel_rfl) (input_Write.calls (I := I72) (B := I72) p73.bd p73.bd (Rd.mono (I' := Or2 I72 I72) f97 (fun _ x => Or.inr x)) m99) ?_)
        rintro v100 h101 ⟨I102, a104, c105, v109, rfl, p103, r107, fr108, q111⟩
        have pt112 := pt82.no p103
        have fr113 := nw_step (M := No) (n := h.size) (fun _ x => x.elim) fr108 pt82.size
        have f114 := f59.post p73 (fun x => x.elim)
        have d115 := step_blk fr108 f114.lt (fun x => x.elim)
        have d116 := step_blk fr108 f89.lt (fun x => x.elim)
        have d117 := step_sl fr108 r77.lt (fun _ _ x => x.elim)
        have hK118 := Keep.post (M := No) Keep.refl (Nat.le_refl _) p103 (fun _ x => x.elim)
        refine ⟨hK118, ?_⟩
        refine awp_run (fuel := 0) [4, 5, 6, 7, 8] hK118 (by kernel_rfl) ?_
        refine awp_nil (by kernel_rfl) ?_ 0
        refine cwp_seq ?_
        refine cwp_seq ?_
        refine cwp_region ?_
        refine lwp_run 1 (by kernel_rfl) ?_
        have f119 := ErrV.up (p103.up p73.bd (fun _ x => x.elim)) q81
        rcases f119.cases with ⟨c120, rfl⟩ | ⟨c120, t121, u122, rfl⟩
        · rw [if_pos c120] at H
          refine lwp_run 3 (by kernel_rfl) ?_
          rcases q111.cases with ⟨c123, rfl⟩ | ⟨c123, t124, u125, rfl⟩
          · rw [if_pos c123] at H
            refine lwp_run 2 (by kernel_rfl) ?_
            refine lwp_nil ?_
            refine cwp_false (by kernel_rfl) ?_
            refine cwp_skip ?_
            refine cwp_seq ?_
            refine cwp_regionD (Keep No h101) 17 (by kernel_rfl) ?_
            refine awp_run (fuel := 15) [0, 1] Keep.refl (by kernel_rfl) ?_
            have f126 := f59.post p73 (fun x => x.elim)
            have f127 := f126.post p103 (fun x => x.elim)
            refine awp_loadN 3 rfl (by kernel_rfl) (by kernel_rfl) (by kernel_rfl) (by kernel_rfl) (by kernel_rfl) Keep.refl (f127.seg_ 0 3 (Nat.le_of_ble_eq_true rfl)) (fun _ _ x => x.elim) ?_
            have f128 := f89.post p103 (fun x => x.elim)
            refine awp_loadN 4 rfl (by kernel_rfl) (by kernel_rfl) (by kernel_rfl) (by kernel_rfl) (by kernel_rfl) Keep.refl (f128.seg_ 0 3 (Nat.le_of_ble_eq_true rfl)) (fun _ _ x => x.elim) ?_
            have f129 := r77.post p73.bd p103 (fun _ x => x.elim) (fun _ _ x => x.elim)
            obtain ⟨t130, m131, H⟩ := bind_some H
            refine awp_op 2 (by kernel_rfl) rfl (by kernel_rfl) (owp_callF (by kernel_rfl) (shutterref01_Same.calls (I := (Fz (Fz I102 a74) a104)) (bd_fz r107 (bd_fz f129 p103.bd)) (Rd.mono (I' := (Fz (Fz I102 a74) a104)) f129.rd (fun _ x => (Or.inl x))) (Rd.mono (I' := (Fz (Fz I102 a74) a104)) r107.rd (fun _ x => (Or.elim x (fun x => (Or.inl (Or.inl x))) (fun x => (Or.inr x))))) m131) ?_)
            rintro v132 h133 ⟨_, rfl, rfl⟩
            refine ⟨Keep.refl, ?_⟩
            have f136 := f67.up (p73.up p56.bd (fun _ x => x.elim))
            have f137 := f136.up (p103.up p73.bd (fun _ x => x.elim))
            have f138 := f97.up (p103.up p73.bd (fun _ x => x.elim))
            obtain ⟨t139, m140, H⟩ := bind_some H
            refine awp_op 5 (by kernel_rfl) rfl (by kernel_rfl) (owp_callF (by kernel_rfl) (input_Same.calls (I := I102) p103.bd f137 f138 m140) ?_)
            rintro v141 h142 ⟨I143, rfl, p144⟩
            have pt145 := pt112.no p144
            have hK146 := Keep.post (M := No) Keep.refl (Nat.le_refl _) p144 (fun _ x => x.elim)
            refine ⟨hK146, ?_⟩
            rcases bool_or (t130 == t139) with c147 | c147
            · replace H := bif_f c147 H
              refine awp_pure 6 ((.bool false)) rfl (by kernel_rfl) (by kernel_rfl) (pr_bool (by kernel_rfl) c147) hK146 ?_
              refine awp_run (fuel := 0) [7, 8, 9, 10, 11, 12, 13, 14, 15, 16] hK146 (by kernel_rfl) ?_
              refine awp_nil (by kernel_rfl) ?_ 0
              refine cwp_ret ?_
              obtain rfl := Option.some.inj H
              show Exists _
              exact ⟨.bool false, by kernel_rfl, I143, rfl, pt145⟩
            · replace H := bif_t c147 H
              refine awp_pure 6 ((.bool true)) rfl (by kernel_rfl) (by kernel_rfl) (pr_bool (by kernel_rfl) c147) hK146 ?_
              refine awp_run (fuel := 9) [7] hK146 (by kernel_rfl) ?_
              refine awp_loadN 8 rfl (by kernel_rfl) (by kernel_rfl) (by kernel_rfl) (by kernel_rfl) (by kernel_rfl) hK146 (f127.seg_ 0 3 (Nat.le_of_ble_eq_true rfl)) (fun _ _ x => x.elim) ?_
              refine awp_loadN 9 rfl (by kernel_rfl) (by kernel_rfl) (by kernel_rfl) (by kernel_rfl) (by kernel_rfl) hK146 (f128.seg_ 0 3 (Nat.le_of_ble_eq_true rfl)) (fun _ _ x => x.elim) ?_
              refine awp_loadN 11 rfl (by kernel_rfl) (by kernel_rfl) (by kernel_rfl) (by kernel_rfl) (by kernel_rfl) hK146 (f127.seg_ 0 3 (Nat.le_of_ble_eq_true rfl)) (fun _ _ x => x.elim) ?_
              refine awp_loadN 12 rfl (by kernel_rfl) (by kernel_rfl) (by kernel_rfl) (by kernel_rfl) (by kernel_rfl) hK146 (f128.seg_ 0 3 (Nat.le_of_ble_eq_true rfl)) (fun _ _ x => x.elim) ?_
              have f148 := f137.up (p144.up p103.bd (fun _ x => x.elim))
              have f149 := f138.up (p144.up p103.bd (fun _ x => x.elim))
              obtain ⟨t150, m151, H⟩ := bind_some H
              refine awp_op 10 (by kernel_rfl) rfl (by kernel_rfl) (owp_callF (by kernel_rfl) (input_Same.calls (I := I143) p144.bd f148 f149 m151) ?_)
              rintro v152 h153 ⟨I154, rfl, p155⟩
              have pt156 := pt145.no p155
              have hK157 := Keep.post (M := No) hK146 (Nat.le_trans (Nat.le_refl _) p144.size) p155 (fun _ x => x.elim)
              refine ⟨hK157, ?_⟩
              have f158 := f148.up (p155.up p144.bd (fun _ x => x.elim))
              have f159 := f149.up (p155.up p144.bd (fun _ x => x.elim))
              obtain ⟨t160, m161, H⟩ := bind_some H
              refine awp_op 13 (by kernel_rfl) rfl (by kernel_rfl) (owp_callF (by kernel_rfl) (shutterref09_Same.calls (I := I154) p155.bd f158 f159 m161) ?_)
              rintro v162 h163 ⟨I164, rfl, p165⟩
              have pt166 := pt156.no p165
              have hK167 := Keep.post (M := No) hK157 (Nat.le_trans (Nat.le_trans (Nat.le_refl _) p144.size) p155.size) p165 (fun _ x => x.elim)
              refine ⟨hK167, ?_⟩
              refine awp_run (fuel := 0) [14, 15, 16] hK167 (by kernel_rfl) ?_
              refine awp_nil (by kernel_rfl) ?_ 0
              refine cwp_ret ?_
              obtain rfl := Option.some.inj H
              show Exists _
              exact ⟨.bool (t150 == t160), by kernel_rfl, I164, rfl, pt166⟩
          · rw [if_neg c123] at H
            refine lwp_run 2 (by kernel_rfl) ?_
            refine lwp_nil ?_
            refine cwp_true (by kernel_rfl) ?_
            refine cwp_seq ?_
            refine cwp_region ?_
            refine lwp_run 1 (by kernel_rfl) ?_
            refine lwp_nil ?_
            refine cwp_ret ?_
            obtain rfl := Option.some.inj H
            show Exists _
            exact ⟨.bool true, by kernel_rfl, I102, rfl, pt112⟩
        · rw [if_neg c120] at H
          refine lwp_run 5 (by kernel_rfl) ?_
          refine lwp_nil ?_
          refine cwp_true (by kernel_rfl) ?_
          refine cwp_seq ?_
          refine cwp_region ?_
          refine lwp_run 1 (by kernel_rfl) ?_
          refine lwp_nil ?_
          refine cwp_ret ?_
          obtain rfl := Option.some.inj H
          show Exists _
          exact ⟨.bool true, by kernel_rfl, I102, rfl, pt112⟩

/-! shutter/shutterlaw09.InputKeeps -/
def shutterlaw09_InputKeeps.l1.m (K : Nat) : Nat → (List Int) → Int → Option (Unit)
  | 0, _, _ => none
  | k + 1, x80, x87 => (if x87 < (x80.length : Int) then (if 0 ≤ x87 then (shutterlaw09_InputKeeps.l1.m K k (x80.set x87.toNat (bXor .u8 (at_ x80 x87) 255)) (w64 (x87 + 1))) else none) else (some (())))
def shutterlaw09_InputKeeps.l2.m (K : Nat) : Nat → (List Int) → Int → Option (Unit)
  | 0, _, _ => none
  | k + 1, x292, x298 => (if x298 < (x292.length : Int) then (if 0 ≤ x298 then (shutterlaw09_InputKeeps.l2.m K k (x292.set x298.toNat (bXor .u8 (at_ x292 x298) 255)) (w64 (x298 + 1))) else none) else (some (())))
def shutterlaw09_InputKeeps.m (K : Nat) (x0 : (List Int)) : Option Bool :=
  ((shutterlaw09_awake.m K).bind fun t5 => bif t5 then (if (x0.length : Int) > 200 then ((shutterlaw09_awake.m K).bind fun t13 => (some t13)) else ((app [125, 64, 64] x0).bind fun l31 => ((input_Read.m K l31 80).bind fun t42 => ((shutterlaw09_InputKeeps.l1.m K K l31 0).bind fun _ => ((app [125, 64, 64] x0).bind fun l144 => ((input_Read.m K l144 80).bind fun t159 => (letJ (α := Option Bool) ((input_Write.m K t42.1 80).bind fun t269 => ((shutterlaw09_InputKeeps.l2.m K K t269.1 0).bind fun _ => ((shutterref09_Same.m K t42.1 t159.1).bind fun t339 => (some t339)))) fun (j268 : Option Bool) => (if t42.2 = GoErr.nil then (if t159.2 = GoErr.nil then ((shutterref09_Same.m K t42.1 t159.1).bind fun t227 => bif t227 then j268 else (some false)) else (some false)) else (if t159.2 = GoErr.nil then (some false) else ((shutterref09_Same.m K t42.1 t159.1).bind fun t251 => bif t251 then j268 else (some false))))))))))) else ((shutterlaw09_awake.m K).bind fun t348 => (some t348)))

set_option maxRecDepth 100000 in
theorem shutterlaw09_InputKeeps.calls {I : Gh} {h : Heap} {K : Nat} {x0 : List Int} {a1 : Option Addr} {c2 : Nat} (hB : Bd I h) (hG : Glob I h) (r4 : Rd (tInt .u8) I h a1 c2 x0) {r : Bool}
    (H : shutterlaw09_InputKeeps.m K x0 = some r) :
    Ret Tryd.prog 7 #[.slice a1 x0.length c2] h (fun v h' => ∃ (I' : Gh), .bool r = v ∧ Pst No I h I' h') := by
  unfold shutterlaw09_InputKeeps.m at H
  refine ret_of (args := [.slice a1 x0.length c2]) (rs := [.tmp 2]) (N := 82) Tryd.func7 rfl rfl rfl (Nat.le_of_ble_eq_true rfl) ?_
  have pt0 : Pst No I h I h := Pst.refl hB
  refine cwp_seq ?_
  refine cwp_region ?_
  refine lwp_run 1 (by kernel_rfl) ?_
  refine lwp_nil ?_
  refine cwp_seq ?_
  refine cwp_seq ?_
  refine cwp_region ?_
  obtain ⟨t5, m6, H⟩ := bind_some H
  refine lwp_op (by kernel_rfl) (owp_callF (by kernel_rfl) (shutterlaw09_awake.calls (I := I) hB hG m6) ?_)
  rintro v7 h8 ⟨I9, rfl, p10⟩
  have pt11 := pt0.no p10
  cases t5
  · rw [cond_false] at H
    refine lwp_run 6 (by kernel_rfl) ?_
    refine lwp_nil ?_
    refine cwp_true (by kernel_rfl) ?_
    refine cwp_seq ?_
    refine cwp_region ?_
    obtain ⟨t348, m349, H⟩ := bind_some H
    have f350 := hG.up (p10.up hB (fun _ x => x.elim))
    refine lwp_op (by kernel_rfl) (owp_callF (by kernel_rfl) (shutterlaw09_awake.calls (I := I9) p10.bd f350 m349) ?_)
    rintro v351 h352 ⟨I353, rfl, p354⟩
    have pt355 := pt11.no p354
    refine lwp_run 1 (by kernel_rfl) ?_
    refine lwp_nil ?_
    refine cwp_ret ?_
    obtain rfl := Option.some.inj H
    show Exists _
    exact ⟨.bool t348, by kernel_rfl, I353, rfl, pt355⟩
  · rw [cond_true] at H
    refine lwp_run 4 (by kernel_rfl) ?_
    by_cases c12 : (x0.length : Int) > 200
    · rw [if_pos c12] at H
      refine lwp_op (by kernel_rfl) (owp_pure ((.bool true)) (pr_bool (by kernel_rfl) (decide_eq_true c12)) ?_)
      refine lwp_run 1 (by kernel_rfl) ?_
      refine lwp_nil ?_
      refine cwp_true (by kernel_rfl) ?_
      refine cwp_seq ?_
      refine cwp_region ?_
      obtain ⟨t13, m14, H⟩ := bind_some H
      have f15 := hG.up (p10.up hB (fun _ x => x.elim))
      refine lwp_op (by kernel_rfl) (owp_callF (by kernel_rfl) (shutterlaw09_awake.calls (I := I9) p10.bd f15 m14) ?_)
      rintro v16 h17 ⟨I18, rfl, p19⟩
      have pt20 := pt11.no p19
      refine lwp_run 1 (by kernel_rfl) ?_
      refine lwp_nil ?_
      refine cwp_ret ?_
      obtain rfl := Option.some.inj H
      show Exists _
      exact ⟨.bool t13, by kernel_rfl, I18, rfl, pt20⟩
    · rw [if_neg c12] at H
      refine lwp_op (by kernel_rfl) (owp_pure ((.bool false)) (pr_bool (by kernel_rfl) (decide_eq_false c12)) ?_)
      refine lwp_run 1 (by kernel_rfl) ?_
      refine lwp_nil ?_
      refine cwp_false (by kernel_rfl) ?_
      refine cwp_skip ?_
      refine cwp_seq ?_
      refine cwp_region ?_
      refine lwp_op (by kernel_rfl) (owp_buildSlice (e := 5) [.int .u8 125, .int .u8 64, .int .u8 64] 1 (.int .u8 0) p10.bd (by kernel_rfl) (by kernel_rfl) (by kernel_rfl) (by kernel_rfl) (by kernel_rfl) ?_)
      intro b21 h22 hc23 p24 o25
      have pt26 := pt11.no p24
      have w27 := o25.own (l := ([125, 64, 64] : List Int)) (Reps.int (I := I9) (k := .u8) (l := [125, 64, 64]))
      have fw27 := some_nw (M := No) (Nat.le_trans pt11.size hc23)
      refine lwp_run 1 (by kernel_rfl) ?_
      have f29 := r4.up (p10.up hB (fun _ x => x.elim))
      have f30 := f29.up (p24.up p10.bd (fun _ x => x.elim))
      obtain ⟨l31, m32, H⟩ := bind_some H
      refine lwp_op (by kernel_rfl) (owp_app (e := 5) (bytes := 1) (tInt .u8) (by kernel_rfl) (elemOk_of (by kernel_rfl)) rfl rfl p24.bd p24.bd w27 w27.notI (f30.toSl) m32 (by kernel_rfl) (by kernel_rfl) ?_)
      intro a33 c34 h35 p36 o37 fr38
      have pt39 := pt26.own p36 fw27
      have fr41 := nw_step (M := No) (n := h.size) fw27 fr38 pt26.size
      refine lwp_run 1 (by kernel_rfl) ?_
      refine lwp_nil ?_
      refine cwp_seq ?_
      refine cwp_region ?_
      refine lwp_run 1 (by kernel_rfl) ?_
      obtain ⟨t42, m43, H⟩ := bind_some H
      have f44 := hG.up (p10.up hB (fun _ x => x.elim))
      have f45 := f44.up (p24.up p10.bd (fun _ x => x.elim))
      have f46 := f45.up (p36.up p24.bd w27.notI)
      refine lwp_op (by kernel_rfl) (owp_callF (by kernel_rfl) (input_Read.calls (I := I9) (B := (Fz I9 a33)) p36.bd (bd_fz o37 p36.bd) f46 (Rd.mono (I' := Or2 I9 (Fz I9 a33)) o37.rd (fun _ x => Or.inr x)) m43) ?_)
      rintro v47 h48 ⟨I49, a51, c52, v56, rfl, p50, r54, fr55, q58⟩
      have pt59 := pt39.no p50
      have fr60 := nw_step (M := No) (n := h.size) (fun _ x => x.elim) fr55 pt39.size
      have d61 := step_sl fr55 o37.lt (fun _ _ x => x.elim)
      refine lwp_run 3 (by kernel_rfl) ?_
      refine lwp_op (by kernel_rfl) (owp_alloc [.int .u8 0, .int .i64 0, .slice none 0 0] (.agg #[.int .u8 0, .int .i64 0, .slice none 0 0]) p50.bd (by kernel_rfl) (by kernel_rfl) ?_)
      intro b62 h63 hc64 p65 o66
      have pt67 := pt59.no p65
      have fr68 : No b62 ∨ h.size ≤ b62 := .inr (Nat.le_trans pt59.size hc64)
      have f69 := o37.post p36.bd p50 (fun _ x => x.elim) (fun _ _ x => x.elim)
      have d70 := notIn_new f69.lt hc64
      have d71 := notIn_new r54.lt hc64
      refine lwp_op (by kernel_rfl) (owp_storeN 0 [.int .u8 t42.1.Aid, .int .i64 t42.1.Cursor, .slice a51 t42.1.Fields.length c52] p65.bd o66 (by kernel_rfl) (by kernel_rfl) (by simp [Value.oneCell']) (by kernel_rfl) (Nat.le_of_ble_eq_true rfl) ?_)
      intro h72 p73 o74
      have pt75 := pt67.own p73 (one_nw fr68)
      refine lwp_run 1 (by kernel_rfl) ?_
      refine lwp_nil ?_
      refine cwp_seq ?_
      refine cwp_seq ?_
      refine cwp_region ?_
      refine lwp_run 1 (by kernel_rfl) ?_
      refine lwp_nil ?_
      refine cwp_block ?_
      have f119 := f30.up (p36.up p24.bd w27.notI)
      have f120 := f119.up (p50.up p36.bd (fun _ x => x.elim))
      have f121 := f120.up (p65.up p50.bd (fun _ x => x.elim))
      have f122 := f121.up (p73.up p65.bd (one_not o66.no))
      have f123 := o37.post p36.bd p50 (fun _ x => x.elim) (fun _ _ x => x.elim)
      have f124 := f123.post p50.bd p65 (fun _ x => x.elim) (fun _ _ x => x.elim)
      have f125 := f124.post p65.bd p73 (one_not o66.no) (dis_one d70)
      have f126 := ErrV.up (p65.up p50.bd (fun _ x => x.elim)) q58
      have f127 := ErrV.up (p73.up p65.bd (one_not o66.no)) f126
      have f128 := r54.post p50.bd p65 (fun _ x => x.elim) (fun _ _ x => x.elim)
      have f129 := f128.post p65.bd p73 (one_not o66.no) (dis_one d71)
      have f130 := f46.up (p50.up p36.bd (fun _ x => x.elim))
      have f131 := f130.up (p65.up p50.bd (fun _ x => x.elim))
      have f132 := f131.up (p73.up p65.bd (one_not o66.no))
      obtain ⟨s94, m103, HR104⟩ := bind_some H
      refine cwp_loopE 0 (fun ρ' h95 => ∃ (I96 : Gh), () = s94 ∧ Fits [(0, .slice a1 x0.length c2), (4, .pointer (some ⟨b62, 0, none⟩)), (5, v56)] ρ' ∧ Pst No I h I96 h95 ∧ Rd (tInt .u8) I96 h95 a1 c2 x0 ∧ ErrV I96 h95 t42.2 v56 ∧ OwnX t_api_Entry I96 I96 h95 a51 c52 t42.1.Fields ∧ OwnB I96 h95 b62 [.int .u8 t42.1.Aid, .int .i64 t42.1.Cursor, .slice a51 t42.1.Fields.length c52] 51 ∧ Glob I96 h95) ?_ ?_
      · refine cwp_loop (fun k' ρ' h76 => ∃ (x80 : List Int) (x87 : Int) (a81 : Option Addr) (c82 : Nat) (I77 : Gh), shutterlaw09_InputKeeps.l1.m K k' x80 x87 = some s94 ∧ Fits [(0, .slice a1 x0.length c2), (3, .slice a81 x80.length c82), (4, .pointer (some ⟨b62, 0, none⟩)), (5, v56), (6, .int .i64 x87)] ρ' ∧ Pst No I h I77 h76 ∧ Rd (tInt .u8) I77 h76 a1 c2 x0 ∧ OwnX (tInt .u8) I77 I77 h76 a81 c82 x80 ∧ (∀ b, InA a81 b → No b ∨ h.size ≤ b) ∧ ErrV I77 h76 t42.2 v56 ∧ OwnX t_api_Entry I77 I77 h76 a51 c52 t42.1.Fields ∧ OwnB I77 h76 b62 [.int .u8 t42.1.Aid, .int .i64 t42.1.Cursor, .slice a51 t42.1.Fields.length c52] 51 ∧ (∀ b, InA a81 b → ¬ InA a51 b) ∧ ¬ InA a81 b62 ∧ Glob I77 h76) K ⟨l31, 0, a33, c34, I49, m103, ⟨by kernel_rfl, by kernel_rfl, by kernel_rfl, by kernel_rfl, by kernel_rfl, trivial⟩, pt75, f122, f125, fr41, f127, f129, o74, (flipD d61), d70, f132⟩ ?_
        clear m103
        rintro k' ρ' h76 ⟨x80, x87, a81, c82, I77, H, hf, pt78, r79, r83, fr85, q86, r88, o89, d90, d91, g92⟩
        cases k' with
        | zero => cases H
        | succ k =>
          rw [shutterlaw09_InputKeeps.l1.m] at H
          refine cwp_fits _ hf ?_
          refine cwp_seq ?_
          refine cwp_seq ?_
          refine cwp_region ?_
          refine lwp_run 3 (by kernel_rfl) ?_
          by_cases c105 : x87 < (x80.length : Int)
          · rw [if_pos c105] at H
            refine lwp_op (by kernel_rfl) (owp_pure ((.bool true)) (pr_bool (by kernel_rfl) (decide_eq_true c105)) ?_)
            refine lwp_nil ?_
            refine cwp_true (by kernel_rfl) ?_
            refine cwp_skip ?_
            refine cwp_seq ?_
            refine cwp_block ?_
            refine cwp_region ?_
            obtain ⟨c106, H⟩ := guard_pos H
            refine lwp_run 4 (by kernel_rfl) ?_
            have hs107 := (r83.toSl).isSome c106 c105
            refine lwp_op (by kernel_rfl) (owp_pure (elemPtr a81 (x87.toNat * 1)) (pr_indexElem (e := 5) (r83.toSl) (k := .i64) (by kernel_rfl) (by kernel_rfl) (by kernel_rfl) (by kernel_rfl) c106 c105) ?_)
            obtain ⟨cs108, hs109, rp110⟩ := (r83.toSl).seg c106 c105
            obtain rfl := rep_int rp110
            refine lwp_op (by kernel_rfl) (owp_load (by kernel_rfl) (by kernel_rfl) (seg_cell (f := 0) hs109 rfl) ?_)
            refine lwp_run 1 (by kernel_rfl) ?_
            have hs111 := (r83.toSl).isSome c106 c105
            refine lwp_op (by kernel_rfl) (owp_pure (elemPtr a81 (x87.toNat * 1)) (pr_indexElem (e := 5) (r83.toSl) (k := .i64) (by kernel_rfl) (by kernel_rfl) (by kernel_rfl) (by kernel_rfl) c106 c105) ?_)
            obtain ⟨cs112, hs113, rp114⟩ := r83.toSl.seg c106 c105
            obtain rfl := rep_int rp114
            refine lwp_op (by kernel_rfl) (owp_storeElem (tInt .u8) 0 [.int .u8 (bXor .u8 (at_ x80 x87) 255)] ((bXor .u8 (at_ x80 x87) 255)) pt78.bd pt78.bd r83 r83.notI c106 c105 hs113 (by kernel_rfl) (by kernel_rfl) (by kernel_rfl) (by simp [Value.oneCell']) (by kernel_rfl) rfl ?_)
            intro h115 p116 o117
            have pt118 := pt78.own p116 fr85
            refine lwp_nil ?_
            refine cwp_region ?_
            refine lwp_run 3 (by kernel_rfl) ?_
            refine lwp_nil ?_
            have f100001 := r79.up (p116.up pt78.bd r83.notI)
            have f100002 := ErrV.up (p116.up pt78.bd r83.notI) q86
            have f100003 := r88.post pt78.bd p116 r83.notI (flipD d90)
            have f100004 := o89.post p116 d91
            have f100005 := g92.up (p116.up pt78.bd r83.notI)
            show Exists _
            exact ⟨k, Nat.lt_succ_self _, (x80.set x87.toNat (bXor .u8 (at_ x80 x87) 255)), (w64 (x87 + 1)), a81, c82, I77, H, ⟨by kernel_rfl, by rw [List.length_set]; kernel_rfl, by kernel_rfl, by kernel_rfl, by kernel_rfl, trivial⟩, pt118, f100001, o117, fr85, f100002, f100003, f100004, d90, d91, f100005⟩
          · rw [if_neg c105] at H
            refine lwp_op (by kernel_rfl) (owp_pure ((.bool false)) (pr_bool (by kernel_rfl) (decide_eq_false c105)) ?_)
            refine lwp_nil ?_
            refine cwp_false (by kernel_rfl) ?_
            refine cwp_exit ?_
            obtain rfl := Option.some.inj H
            show Exists _
            exact ⟨I77, rfl, ⟨by kernel_rfl, by kernel_rfl, by kernel_rfl, trivial⟩, pt78, r79, q86, r88, o89, g92⟩
      · rintro ρ' h95 ⟨I96, rfl, hf, pt97, r98, q99, r100, o101, g102⟩
        have H := HR104
        try dsimp only at H
        refine cwp_fits _ hf ?_
        refine cwp_seq ?_
        refine cwp_region ?_
        refine lwp_op (by kernel_rfl) (owp_buildSlice (e := 5) [.int .u8 125, .int .u8 64, .int .u8 64] 1 (.int .u8 0) pt97.bd (by kernel_rfl) (by kernel_rfl) (by kernel_rfl) (by kernel_rfl) (by kernel_rfl) ?_)
        intro b133 h134 hc135 p136 o137
        have pt138 := pt97.no p136
        have w139 := o137.own (l := ([125, 64, 64] : List Int)) (Reps.int (I := I96) (k := .u8) (l := [125, 64, 64]))
        have fw139 := some_nw (M := No) (Nat.le_trans pt97.size hc135)
        have d141 := some_ne (ne_new o101.lt hc135)
        have d142 := some_notIn (notIn_new r100.lt hc135)
        refine lwp_run 1 (by kernel_rfl) ?_
        have f143 := r98.up (p136.up pt97.bd (fun _ x => x.elim))
        obtain ⟨l144, m145, H⟩ := bind_some H
        refine lwp_op (by kernel_rfl) (owp_app (e := 5) (bytes := 1) (tInt .u8) (by kernel_rfl) (elemOk_of (by kernel_rfl)) rfl rfl p136.bd p136.bd w139 w139.notI (f143.toSl) m145 (by kernel_rfl) (by kernel_rfl) ?_)
        intro a146 c147 h148 p149 o150 fr151
        have pt152 := pt138.own p149 fw139
        have fr154 := nw_step (M := No) (n := h.size) fw139 fr151 pt138.size
        have f155 := o101.post p136 (fun x => x.elim)
        have d156 := step_blk fr151 f155.lt d141
        have f157 := r100.post pt97.bd p136 (fun _ x => x.elim) (fun _ _ x => x.elim)
        have d158 := step_sl fr151 f157.lt (flipD d142)
        obtain ⟨t159, m160, H⟩ := bind_some H
        have f161 := g102.up (p136.up pt97.bd (fun _ x => x.elim))
        have f162 := f161.up (p149.up p136.bd w139.notI)
        refine lwp_op (by kernel_rfl) (owp_callF (by kernel_rfl) (input_Read.calls (I := I96) (B := (Fz I96 a146)) p149.bd (bd_fz o150 p149.bd) f162 (Rd.mono (I' := Or2 I96 (Fz I96 a146)) o150.rd (fun _ x => Or.inr x)) m160) ?_)
        rintro v163 h164 ⟨I165, a167, c168, v172, rfl, p166, r170, fr171, q174⟩
        have pt175 := pt152.no p166
        have fr176 := nw_step (M := No) (n := h.size) (fun _ x => x.elim) fr171 pt152.size
        have f177 := o101.post p136 (fun x => x.elim)
        have f178 := f177.post p149 d141
        have d179 := step_blk fr171 f178.lt (fun x => x.elim)
        have f180 := r100.post pt97.bd p136 (fun _ x => x.elim) (fun _ _ x => x.elim)
        have f181 := f180.post p136.bd p149 w139.notI (flipD d142)
        have d182 := step_sl fr171 f181.lt (fun _ _ x => x.elim)
        have d183 := step_sl fr171 o150.lt (fun _ _ x => x.elim)
        refine lwp_run 3 (by kernel_rfl) ?_
        refine lwp_op (by kernel_rfl) (owp_alloc [.int .u8 0, .int .i64 0, .slice none 0 0] (.agg #[.int .u8 0, .int .i64 0, .slice none 0 0]) p166.bd (by kernel_rfl) (by kernel_rfl) ?_)
        intro b184 h185 hc186 p187 o188
        have pt189 := pt175.no p187
        have fr190 : No b184 ∨ h.size ≤ b184 := .inr (Nat.le_trans pt175.size hc186)
        have f191 := o101.post p136 (fun x => x.elim)
        have f192 := f191.post p149 d141
        have f193 := f192.post p166 (fun x => x.elim)
        have d194 := ne_new f193.lt hc186
        have f195 := f181.post p149.bd p166 (fun _ x => x.elim) (fun _ _ x => x.elim)
        have d196 := notIn_new f195.lt hc186
        have f197 := o150.post p149.bd p166 (fun _ x => x.elim) (fun _ _ x => x.elim)
        have d198 := notIn_new f197.lt hc186
        have d199 := notIn_new r170.lt hc186
        refine lwp_op (by kernel_rfl) (owp_storeN 0 [.int .u8 t159.1.Aid, .int .i64 t159.1.Cursor, .slice a167 t159.1.Fields.length c168] p187.bd o188 (by kernel_rfl) (by kernel_rfl) (by simp [Value.oneCell']) (by kernel_rfl) (Nat.le_of_ble_eq_true rfl) ?_)
        intro h200 p201 o202
        have pt203 := pt189.own p201 (one_nw fr190)
        refine lwp_run 1 (by kernel_rfl) ?_
        refine lwp_nil ?_
        obtain ⟨j268, e347, H⟩ := letJ_some H
        refine cwp_join (fun ρ' h260 => ∃ (I261 : Gh), j268 = some r ∧ Fits [(4, .pointer (some ⟨b62, 0, none⟩)), (7, .pointer (some ⟨b184, 0, none⟩))] ρ' ∧ Pst No I h I261 h260 ∧ OwnX t_api_Entry I261 I261 h260 a51 c52 t42.1.Fields ∧ OwnB I261 h260 b62 [.int .u8 t42.1.Aid, .int .i64 t42.1.Cursor, .slice a51 t42.1.Fields.length c52] 51 ∧ OwnX t_api_Entry I261 I261 h260 a167 c168 t159.1.Fields ∧ OwnB I261 h260 b184 [.int .u8 t159.1.Aid, .int .i64 t159.1.Cursor, .slice a167 t159.1.Fields.length c168] 51 ∧ Glob I261 h260) ?_ ?_
        · refine cwp_seq ?_
          refine cwp_regionD (Keep No h200) 11 (by kernel_rfl) ?_
          refine awp_run (fuel := 10) [0] Keep.refl (by kernel_rfl) ?_
          have f204 := ErrV.up (p136.up pt97.bd (fun _ x => x.elim)) q99
          have f205 := ErrV.up (p149.up p136.bd w139.notI) f204
          have f206 := ErrV.up (p166.up p149.bd (fun _ x => x.elim)) f205
          have f207 := ErrV.up (p187.up p166.bd (fun _ x => x.elim)) f206
          have f208 := ErrV.up (p201.up p187.bd (one_not o188.no)) f207
          rcases f208.cases with ⟨c209, rfl⟩ | ⟨c209, t210, u211, rfl⟩
          · rw [if_pos c209] at H
            refine awp_run (fuel := 8) [1, 2] Keep.refl (by kernel_rfl) ?_
            have f212 := ErrV.up (p187.up p166.bd (fun _ x => x.elim)) q174
            have f213 := ErrV.up (p201.up p187.bd (one_not o188.no)) f212
            rcases f213.cases with ⟨c214, rfl⟩ | ⟨c214, t215, u216, rfl⟩
            · rw [if_pos c214] at H
              refine awp_run (fuel := 5) [3, 4, 5] Keep.refl (by kernel_rfl) ?_
              have f217 := o101.post p136 (fun x => x.elim)
              have f218 := f217.post p149 d141
              have f219 := f218.post p166 (fun x => x.elim)
              have f220 := f219.post p187 (fun x => x.elim)
              have f221 := f220.post p201 (fun e => d194 e.symm)
              refine awp_loadN 6 rfl (by kernel_rfl) (by kernel_rfl) (by kernel_rfl) (by kernel_rfl) (by kernel_rfl) Keep.refl (f221.seg_ 0 3 (Nat.le_of_ble_eq_true rfl)) (fun _ _ x => x.elim) ?_
              refine awp_loadN 7 rfl (by kernel_rfl) (by kernel_rfl) (by kernel_rfl) (by kernel_rfl) (by kernel_rfl) Keep.refl (o202.seg_ 0 3 (Nat.le_of_ble_eq_true rfl)) (fun _ _ x => x.elim) ?_
              have f222 := f181.post p149.bd p166 (fun _ x => x.elim) (fun _ _ x => x.elim)
              have f223 := f222.post p166.bd p187 (fun _ x => x.elim) (fun _ _ x => x.elim)
              have f224 := f223.post p187.bd p201 (one_not o188.no) (dis_one d196)
              have f225 := r170.post p166.bd p187 (fun _ x => x.elim) (fun _ _ x => x.elim)
              have f226 := f225.post p187.bd p201 (one_not o188.no) (dis_one d199)
              obtain ⟨t227, m228, H⟩ := bind_some H
              refine awp_op 8 (by kernel_rfl) rfl (by kernel_rfl) (owp_callF (by kernel_rfl) (shutterref09_Same.calls (I := (Fz (Fz I165 a51) a167)) (bd_fz f226 (bd_fz f224 p201.bd)) (Rd.mono (I' := (Fz (Fz I165 a51) a167)) f224.rd (fun _ x => (Or.inl x))) (Rd.mono (I' := (Fz (Fz I165 a51) a167)) f226.rd (fun _ x => (Or.elim x (fun x => (Or.inl (Or.inl x))) (fun x => (Or.inr x))))) m228) ?_)
              rintro v229 h230 ⟨I231, rfl, p232⟩
              have p233 := Pst.forget p232 p201.bd
              have pt234 := pt203.no p233
              have hK235 := Keep.post (M := No) Keep.refl (Nat.le_refl _) p233 (fun _ x => x.elim)
              refine ⟨hK235, ?_⟩
              cases t227
              · rw [cond_false] at H
                refine awp_run (fuel := 0) [9, 10] hK235 (by kernel_rfl) ?_
                refine awp_nil (by kernel_rfl) ?_ 0
                refine cwp_true (by kernel_rfl) ?_
                refine cwp_seq ?_
                refine cwp_region ?_
                refine lwp_run 1 (by kernel_rfl) ?_
                refine lwp_nil ?_
                refine cwp_ret ?_
                obtain rfl := Option.some.inj H
                show Exists _
                exact ⟨.bool false, by kernel_rfl, I165, rfl, pt234⟩
              · rw [cond_true] at H
                refine awp_run (fuel := 0) [9, 10] hK235 (by kernel_rfl) ?_
                refine awp_nil (by kernel_rfl) ?_ 0
                refine cwp_false (by kernel_rfl) ?_
                refine cwp_skip ?_
                have f100011 := f224.post p201.bd p233 (fun _ x => x.elim) (fun _ _ x => x.elim)
                have f100012 := o101.post p136 (fun x => x.elim)
                have f100013 := f100012.post p149 d141
                have f100014 := f100013.post p166 (fun x => x.elim)
                have f100015 := f100014.post p187 (fun x => x.elim)
                have f100016 := f100015.post p201 (fun e => d194 e.symm)
                have f100017 := f100016.post p233 (fun x => x.elim)
                have f100018 := f226.post p201.bd p233 (fun _ x => x.elim) (fun _ _ x => x.elim)
                have f100019 := o202.post p233 (fun x => x.elim)
                have f100020 := f162.up (p166.up p149.bd (fun _ x => x.elim))
                have f100021 := f100020.up (p187.up p166.bd (fun _ x => x.elim))
                have f100022 := f100021.up (p201.up p187.bd (one_not o188.no))
                have f100023 := f100022.up (p233.up p201.bd (fun _ x => x.elim))
                exact ⟨I165, H, ⟨by kernel_rfl, by kernel_rfl, trivial⟩, pt234, f100011, f100017, f100018, f100019, f100023⟩
            · rw [if_neg c214] at H
              refine awp_run (fuel := 0) [3, 4, 5, 6, 7, 8, 9, 10] Keep.refl (by kernel_rfl) ?_
              refine awp_nil (by kernel_rfl) ?_ 0
              refine cwp_true (by kernel_rfl) ?_
              refine cwp_seq ?_
              refine cwp_region ?_
              refine lwp_run 1 (by kernel_rfl) ?_
              refine lwp_nil ?_
              refine cwp_ret ?_
              obtain rfl := Option.some.inj H
              show Exists _
              exact ⟨.bool false, by kernel_rfl, I165, rfl, pt203⟩
          · rw [if_neg c209] at H
            refine awp_run (fuel := 8) [1, 2] Keep.refl (by kernel_rfl) ?_
            have f236 := ErrV.up (p187.up p166.bd (fun _ x => x.elim)) q174
            have f237 := ErrV.up (p201.up p187.bd (one_not o188.no)) f236
            rcases f237.cases with ⟨c238, rfl⟩ | ⟨c238, t239, u240, rfl⟩
            · rw [if_pos c238] at H
              refine awp_run (fuel := 0) [3, 4, 5, 6, 7, 8, 9, 10] Keep.refl (by kernel_rfl) ?_
              refine awp_nil (by kernel_rfl) ?_ 0
              refine cwp_true (by kernel_rfl) ?_
              refine cwp_seq ?_
              refine cwp_region ?_
              refine lwp_run 1 (by kernel_rfl) ?_
              refine lwp_nil ?_
              refine cwp_ret ?_
              obtain rfl := Option.some.inj H
              show Exists _
              exact ⟨.bool false, by kernel_rfl, I165, rfl, pt203⟩
            · rw [if_neg c238] at H
              refine awp_run (fuel := 5) [3, 4, 5] Keep.refl (by kernel_rfl) ?_
              have f241 := o101.post p136 (fun x => x.elim)
              have f242 := f241.post p149 d141
              have f243 := f242.post p166 (fun x => x.elim)
              have f244 := f243.post p187 (fun x => x.elim)
              have f245 := f244.post p201 (fun e => d194 e.symm)
              refine awp_loadN 6 rfl (by kernel_rfl) (by kernel_rfl) (by kernel_rfl) (by kernel_rfl) (by kernel_rfl) Keep.refl (f245.seg_ 0 3 (Nat.le_of_ble_eq_true rfl)) (fun _ _ x => x.elim) ?_
              refine awp_loadN 7 rfl (by kernel_rfl) (by kernel_rfl) (by kernel_rfl) (by kernel_rfl) (by kernel_rfl) Keep.refl (o202.seg_ 0 3 (Nat.le_of_ble_eq_true rfl)) (fun _ _ x => x.elim) ?_
              have f246 := f181.post p149.bd p166 (fun _ x => x.elim) (fun _ _ x => x.elim)
              have f247 := f246.post p166.bd p187 (fun _ x => x.elim) (fun _ _ x => x.elim)
              have f248 := f247.post p187.bd p201 (one_not o188.no) (dis_one d196)
              have f249 := r170.post p166.bd p187 (fun _ x => x.elim) (fun _ _ x => x.elim)
              have f250 := f249.post p187.bd p201 (one_not o188.no) (dis_one d199)
              obtain ⟨t251, m252, H⟩ := bind_some H
              refine awp_op 8 (by kernel_rfl) rfl (by kernel_rfl) (owp_callF (by kernel_rfl) (shutterref09_Same.calls (I := (Fz (Fz I165 a51) a167)) (bd_fz f250 (bd_fz f248 p201.bd)) (Rd.mono (I' := (Fz (Fz I165 a51) a167)) f248.rd (fun _ x => (Or.inl x))) (Rd.mono (I' := (Fz (Fz I165 a51) a167)) f250.rd (fun _ x => (Or.elim x (fun x => (Or.inl (Or.inl x))) (fun x => (Or.inr x))))) m252) ?_)
              rintro v253 h254 ⟨I255, rfl, p256⟩
              have p257 := Pst.forget p256 p201.bd
              have pt258 := pt203.no p257
              have hK259 := Keep.post (M := No) Keep.refl (Nat.le_refl _) p257 (fun _ x => x.elim)
              refine ⟨hK259, ?_⟩
              cases t251
              · rw [cond_false] at H
                refine awp_run (fuel := 0) [9, 10] hK259 (by kernel_rfl) ?_
                refine awp_nil (by kernel_rfl) ?_ 0
                refine cwp_true (by kernel_rfl) ?_
                refine cwp_seq ?_
                refine cwp_region ?_
                refine lwp_run 1 (by kernel_rfl) ?_
                refine lwp_nil ?_
                refine cwp_ret ?_
                obtain rfl := Option.some.inj H
                show Exists _
                exact ⟨.bool false, by kernel_rfl, I165, rfl, pt258⟩
              · rw [cond_true] at H
                refine awp_run (fuel := 0) [9, 10] hK259 (by kernel_rfl) ?_
                refine awp_nil (by kernel_rfl) ?_ 0
                refine cwp_false (by kernel_rfl) ?_
                refine cwp_skip ?_
                have f100024 := f248.post p201.bd p257 (fun _ x => x.elim) (fun _ _ x => x.elim)
                have f100025 := o101.post p136 (fun x => x.elim)
                have f100026 := f100025.post p149 d141
                have f100027 := f100026.post p166 (fun x => x.elim)
                have f100028 := f100027.post p187 (fun x => x.elim)
                have f100029 := f100028.post p201 (fun e => d194 e.symm)
                have f100030 := f100029.post p257 (fun x => x.elim)
                have f100031 := f250.post p201.bd p257 (fun _ x => x.elim) (fun _ _ x => x.elim)
                have f100032 := o202.post p257 (fun x => x.elim)
                have f100033 := f162.up (p166.up p149.bd (fun _ x => x.elim))
                have f100034 := f100033.up (p187.up p166.bd (fun _ x => x.elim))
                have f100035 := f100034.up (p201.up p187.bd (one_not o188.no))
                have f100036 := f100035.up (p257.up p201.bd (fun _ x => x.elim))
                exact ⟨I165, H, ⟨by kernel_rfl, by kernel_rfl, trivial⟩, pt258, f100024, f100030, f100031, f100032, f100036⟩
        · clear H
          rintro ρ' h260 ⟨I261, H, hf, pt262, r263, o264, r265, o266, g267⟩
          refine cwp_fits _ hf ?_
          subst e347
          try dsimp only at H
          refine cwp_seq ?_
          refine cwp_region ?_
          refine lwp_op (by kernel_rfl) (owp_loadN (by kernel_rfl) (by kernel_rfl) (by kernel_rfl) (o264.seg_ 0 3 (Nat.le_of_ble_eq_true rfl)) ?_)
          obtain ⟨t269, m270, H⟩ := bind_some H
          refine lwp_op (by kernel_rfl) (owp_callF (by kernel_rfl) (input_Write.calls (I := I261) (B := (Fz I261 a51)) pt262.bd (bd_fz r263 pt262.bd) (Rd.mono (I' := Or2 I261 (Fz I261 a51)) r263.rd (fun _ x => Or.inr x)) m270) ?_)
          rintro v271 h272 ⟨I273, a275, c276, v280, rfl, p274, r278, fr279, q282⟩
          have pt283 := pt262.no p274
          have fr284 := nw_step (M := No) (n := h.size) (fun _ x => x.elim) fr279 pt262.size
          have d285 := step_blk fr279 o264.lt (fun x => x.elim)
          have d286 := step_blk fr279 o266.lt (fun x => x.elim)
          have d287 := step_sl fr279 r263.lt (fun _ _ x => x.elim)
          have d288 := step_sl fr279 r265.lt (fun _ _ x => x.elim)
          refine lwp_run 5 (by kernel_rfl) ?_
          refine lwp_nil ?_
          refine cwp_seq ?_
          refine cwp_seq ?_
          refine cwp_region ?_
          refine lwp_run 1 (by kernel_rfl) ?_
          refine lwp_nil ?_
          refine cwp_block ?_
          have f334 := r263.post pt262.bd p274 (fun _ x => x.elim) (fun _ _ x => x.elim)
          have f335 := o264.post p274 (fun x => x.elim)
          have f336 := r265.post pt262.bd p274 (fun _ x => x.elim) (fun _ _ x => x.elim)
          have f337 := o266.post p274 (fun x => x.elim)
          have f338 := g267.up (p274.up pt262.bd (fun _ x => x.elim))
          obtain ⟨s309, m318, HR319⟩ := bind_some H
          refine cwp_loopE 2 (fun ρ' h310 => ∃ (I311 : Gh), () = s309 ∧ Fits [(4, .pointer (some ⟨b62, 0, none⟩)), (7, .pointer (some ⟨b184, 0, none⟩))] ρ' ∧ Pst No I h I311 h310 ∧ OwnX t_api_Entry I311 I311 h310 a51 c52 t42.1.Fields ∧ OwnB I311 h310 b62 [.int .u8 t42.1.Aid, .int .i64 t42.1.Cursor, .slice a51 t42.1.Fields.length c52] 51 ∧ OwnX t_api_Entry I311 I311 h310 a167 c168 t159.1.Fields ∧ OwnB I311 h310 b184 [.int .u8 t159.1.Aid, .int .i64 t159.1.Cursor, .slice a167 t159.1.Fields.length c168] 51 ∧ Glob I311 h310) ?_ ?_
          · refine cwp_loop (fun k' ρ' h289 => ∃ (x292 : List Int) (x298 : Int) (a293 : Option Addr) (c294 : Nat) (I290 : Gh), shutterlaw09_InputKeeps.l2.m K k' x292 x298 = some s309 ∧ Fits [(4, .pointer (some ⟨b62, 0, none⟩)), (7, .pointer (some ⟨b184, 0, none⟩)), (9, .slice a293 x292.length c294), (11, .int .i64 x298)] ρ' ∧ Pst No I h I290 h289 ∧ OwnX (tInt .u8) I290 I290 h289 a293 c294 x292 ∧ (∀ b, InA a293 b → No b ∨ h.size ≤ b) ∧ OwnX t_api_Entry I290 I290 h289 a51 c52 t42.1.Fields ∧ OwnB I290 h289 b62 [.int .u8 t42.1.Aid, .int .i64 t42.1.Cursor, .slice a51 t42.1.Fields.length c52] 51 ∧ OwnX t_api_Entry I290 I290 h289 a167 c168 t159.1.Fields ∧ OwnB I290 h289 b184 [.int .u8 t159.1.Aid, .int .i64 t159.1.Cursor, .slice a167 t159.1.Fields.length c168] 51 ∧ (∀ b, InA a293 b → ¬ InA a51 b) ∧ (∀ b, InA a293 b → ¬ InA a167 b) ∧ ¬ InA a293 b62 ∧ ¬ InA a293 b184 ∧ Glob I290 h289) K ⟨t269.1, 0, a275, c276, I273, m318, ⟨by kernel_rfl, by kernel_rfl, by kernel_rfl, by kernel_rfl, trivial⟩, pt283, r278, fr284, f334, f335, f336, f337, d287, d288, d285, d286, f338⟩ ?_
            clear m318
            rintro k' ρ' h289 ⟨x292, x298, a293, c294, I290, H, hf, pt291, r295, fr297, r299, o300, r301, o302, d303, d304, d305, d306, g307⟩
            cases k' with
            | zero => cases H
            | succ k =>
              rw [shutterlaw09_InputKeeps.l2.m] at H
              refine cwp_fits _ hf ?_
              refine cwp_seq ?_
              refine cwp_seq ?_
              refine cwp_region ?_
              refine lwp_run 3 (by kernel_rfl) ?_
              by_cases c320 : x298 < (x292.length : Int)
              · rw [if_pos c320] at H
                refine lwp_op (by kernel_rfl) (owp_pure ((.bool true)) (pr_bool (by kernel_rfl) (decide_eq_true c320)) ?_)
                refine lwp_nil ?_
                refine cwp_true (by kernel_rfl) ?_
                refine cwp_skip ?_
                refine cwp_seq ?_
                refine cwp_block ?_
                refine cwp_region ?_
                obtain ⟨c321, H⟩ := guard_pos H
                refine lwp_run 4 (by kernel_rfl) ?_
                have hs322 := (r295.toSl).isSome c321 c320
                refine lwp_op (by kernel_rfl) (owp_pure (elemPtr a293 (x298.toNat * 1)) (pr_indexElem (e := 5) (r295.toSl) (k := .i64) (by kernel_rfl) (by kernel_rfl) (by kernel_rfl) (by kernel_rfl) c321 c320) ?_)
                obtain ⟨cs323, hs324, rp325⟩ := (r295.toSl).seg c321 c320
                obtain rfl := rep_int rp325
                refine lwp_op (by kernel_rfl) (owp_load (by kernel_rfl) (by kernel_rfl) (seg_cell (f := 0) hs324 rfl) ?_)
                refine lwp_run 1 (by kernel_rfl) ?_
                have hs326 := (r295.toSl).isSome c321 c320
                refine lwp_op (by kernel_rfl) (owp_pure (elemPtr a293 (x298.toNat * 1)) (pr_indexElem (e := 5) (r295.toSl) (k := .i64) (by kernel_rfl) (by kernel_rfl) (by kernel_rfl) (by kernel_rfl) c321 c320) ?_)
                obtain ⟨cs327, hs328, rp329⟩ := r295.toSl.seg c321 c320
                obtain rfl := rep_int rp329
                refine lwp_op (by kernel_rfl) (owp_storeElem (tInt .u8) 0 [.int .u8 (bXor .u8 (at_ x292 x298) 255)] ((bXor .u8 (at_ x292 x298) 255)) pt291.bd pt291.bd r295 r295.notI c321 c320 hs328 (by kernel_rfl) (by kernel_rfl) (by kernel_rfl) (by simp [Value.oneCell']) (by kernel_rfl) rfl ?_)
                intro h330 p331 o332
                have pt333 := pt291.own p331 fr297
                refine lwp_nil ?_
                refine cwp_region ?_
                refine lwp_run 3 (by kernel_rfl) ?_
                refine lwp_nil ?_
                have f100006 := r299.post pt291.bd p331 r295.notI (flipD d303)
                have f100007 := o300.post p331 d305
                have f100008 := r301.post pt291.bd p331 r295.notI (flipD d304)
                have f100009 := o302.post p331 d306
                have f100010 := g307.up (p331.up pt291.bd r295.notI)
                show Exists _
                exact ⟨k, Nat.lt_succ_self _, (x292.set x298.toNat (bXor .u8 (at_ x292 x298) 255)), (w64 (x298 + 1)), a293, c294, I290, H, ⟨by kernel_rfl, by kernel_rfl, by rw [List.length_set]; kernel_rfl, by kernel_rfl, trivial⟩, pt333, o332, fr297, f100006, f100007, f100008, f100009, d303, d304, d305, d306, f100010⟩
              · rw [if_neg c320] at H
                refine lwp_op (by kernel_rfl) (owp_pure ((.bool false)) (pr_bool (by kernel_rfl) (decide_eq_false c320)) ?_)
                refine lwp_nil ?_
                refine cwp_false (by kernel_rfl) ?_
                refine cwp_exit ?_
                obtain rfl := Option.some.inj H
                show Exists _
                exact ⟨I290, rfl, ⟨by kernel_rfl, by kernel_rfl, trivial⟩, pt291, r299, o300, r301, o302, g307⟩
          · rintro ρ' h310 ⟨I311, rfl, hf, pt312, r313, o314, r315, o316, g317⟩
            have H := HR319
            try dsimp only at H
            refine cwp_fits _ hf ?_
            refine cwp_seq ?_
            refine cwp_region ?_
            refine lwp_op (by kernel_rfl) (owp_loadN (by kernel_rfl) (by kernel_rfl) (by kernel_rfl) (o314.seg_ 0 3 (Nat.le_of_ble_eq_true rfl)) ?_)
            refine lwp_op (by kernel_rfl) (owp_loadN (by kernel_rfl) (by kernel_rfl) (by kernel_rfl) (o316.seg_ 0 3 (Nat.le_of_ble_eq_true rfl)) ?_)
            obtain ⟨t339, m340, H⟩ := bind_some H
            refine lwp_op (by kernel_rfl) (owp_callF (by kernel_rfl) (shutterref09_Same.calls (I := (Fz (Fz I311 a51) a167)) (bd_fz r315 (bd_fz r313 pt312.bd)) (Rd.mono (I' := (Fz (Fz I311 a51) a167)) r313.rd (fun _ x => (Or.inl x))) (Rd.mono (I' := (Fz (Fz I311 a51) a167)) r315.rd (fun _ x => (Or.elim x (fun x => (Or.inl (Or.inl x))) (fun x => (Or.inr x))))) m340) ?_)
            rintro v341 h342 ⟨I343, rfl, p344⟩
            have p345 := Pst.forget p344 pt312.bd
            have pt346 := pt312.no p345
            refine lwp_run 1 (by kernel_rfl) ?_
            refine lwp_nil ?_
            refine cwp_ret ?_
            obtain rfl := Option.some.inj H
            show Exists _
            exact ⟨.bool t339, by kernel_rfl, I311, rfl, pt346⟩

/-! shutter/shutterlaw09.InputLengths -/
def shutterlaw09_InputLengths.l1.m (K : Nat) (x0 : api_In) : Nat → Int → Int → Option (Int)
  | 0, _, _ => none
  | k + 1, x63, x64 => (if x64 < (x0.Fields.length : Int) then (if 0 ≤ x64 then (if (at_ x0.Fields x64).Addr ≥ 0 then (shutterlaw09_InputLengths.l1.m K x0 k (w64 ((w64 (x63 + (((at_ x0.Fields x64).Text).length : Int))) + 3)) (w64 (x64 + 1))) else (shutterlaw09_InputLengths.l1.m K x0 k (w64 (x63 + (((at_ x0.Fields x64).Text).length : Int))) (w64 (x64 + 1)))) else none) else (some (x63)))
def shutterlaw09_InputLengths.m (K : Nat) (x0 : api_In) (x1 : Int) : Option Bool :=
  ((shutterlaw09_awake.m K).bind fun t12 => bif t12 then ((shutterref09_Few.m K x0).bind fun t23 => bif t23 then ((shutterlaw09_size.m x1).bind fun t31 => ((input_Write.m K x0 t31).bind fun t38 => (if t38.2 = GoErr.nil then ((shutterlaw09_InputLengths.l1.m K x0 K 3 0).bind fun x74 => (letJ (α := Bool → Option Bool) (fun (x105 : Bool) => (if 0 < (t38.1.length : Int) then (if (at_ t38.1 0) = x0.Aid then (bif x105 then (if (t38.1.length : Int) = 1 then (some true) else (some false)) else (some ((t38.1.length : Int) == x74))) else (some false)) else none)) fun (j109 : Bool → Option Bool) => (if x0.Aid = 109 then (j109 true) else (if x0.Aid = 108 then (j109 true) else (if x0.Aid = 110 then (j109 true) else (if x0.Aid = 107 then (j109 true) else (j109 false))))))) else (some ((t38.1.length : Int) == 0))))) else ((shutterlaw09_awake.m K).bind fun t119 => (some t119))) else ((shutterlaw09_awake.m K).bind fun t128 => (some t128)))

set_option maxRecDepth 100000 in
theorem shutterlaw09_InputLengths.calls {I : Gh} {h : Heap} {K : Nat} {x0 : api_In} {a1 : Option Addr} {c2 : Nat} {x1 : Int} (hB : Bd I h) (hG : Glob I h) (r4 : Rd t_api_Entry I h a1 c2 x0.Fields) {r : Bool}
    (H : shutterlaw09_InputLengths.m K x0 x1 = some r) :
    Ret Tryd.prog 8 #[.agg #[.int .u8 x0.Aid, .int .i64 x0.Cursor, .slice a1 x0.Fields.length c2], .int .u16 x1] h (fun v h' => ∃ (I' : Gh), .bool r = v ∧ Pst No I h I' h') := by
  unfold shutterlaw09_InputLengths.m at H
  refine ret_of (args := [.agg #[.int .u8 x0.Aid, .int .i64 x0.Cursor, .slice a1 x0.Fields.length c2], .int .u16 x1]) (rs := [.tmp 4]) (N := 97) Tryd.func8 rfl rfl rfl (Nat.le_of_ble_eq_true rfl) ?_
  have pt0 : Pst No I h I h := Pst.refl hB
  refine cwp_seq ?_
  refine cwp_region ?_
  refine lwp_op (by kernel_rfl) (owp_box [.int .u8 x0.Aid, .int .i64 x0.Cursor, .slice a1 x0.Fields.length c2] hB (by kernel_rfl) ?_)
  intro b5 h6 hc7 p8 o9
  have pt10 := pt0.no p8
  have fr11 : No b5 ∨ h.size ≤ b5 := .inr (Nat.le_trans pt0.size hc7)
  refine lwp_run 1 (by kernel_rfl) ?_
  refine lwp_nil ?_
  refine cwp_seq ?_
  refine cwp_seq ?_
  refine cwp_region ?_
  obtain ⟨t12, m13, H⟩ := bind_some H
  have f14 := hG.up (p8.up hB (fun _ x => x.elim))
  refine lwp_op (by kernel_rfl) (owp_callF (by kernel_rfl) (shutterlaw09_awake.calls (I := I) p8.bd f14 m13) ?_)
  rintro v15 h16 ⟨I17, rfl, p18⟩
  have pt19 := pt10.no p18
  cases t12
  · rw [cond_false] at H
    refine lwp_run 6 (by kernel_rfl) ?_
    refine lwp_nil ?_
    refine cwp_true (by kernel_rfl) ?_
    refine cwp_seq ?_
    refine cwp_region ?_
    obtain ⟨t128, m129, H⟩ := bind_some H
    have f130 := f14.up (p18.up p8.bd (fun _ x => x.elim))
    refine lwp_op (by kernel_rfl) (owp_callF (by kernel_rfl) (shutterlaw09_awake.calls (I := I17) p18.bd f130 m129) ?_)
    rintro v131 h132 ⟨I133, rfl, p134⟩
    have pt135 := pt19.no p134
    refine lwp_run 1 (by kernel_rfl) ?_
    refine lwp_nil ?_
    refine cwp_ret ?_
    obtain rfl := Option.some.inj H
    show Exists _
    exact ⟨.bool t128, by kernel_rfl, I133, rfl, pt135⟩
  · rw [cond_true] at H
    refine lwp_run 2 (by kernel_rfl) ?_
    have f20 := o9.post p18 (fun x => x.elim)
    refine lwp_op (by kernel_rfl) (owp_loadN (by kernel_rfl) (by kernel_rfl) (by kernel_rfl) (f20.seg_ 0 3 (Nat.le_of_ble_eq_true rfl)) ?_)
    have f21 := r4.up (p8.up hB (fun _ x => x.elim))
    have f22 := f21.up (p18.up p8.bd (fun _ x => x.elim))
    obtain ⟨t23, m24, H⟩ := bind_some H
    refine lwp_op (by kernel_rfl) (owp_callF (by kernel_rfl) (shutterref09_Few.calls (I := I17) p18.bd f22 m24) ?_)
    rintro v25 h26 ⟨I27, rfl, p28⟩
    have pt29 := pt19.no p28
    cases t23
    · rw [cond_false] at H
      refine lwp_run 2 (by kernel_rfl) ?_
      refine lwp_nil ?_
      refine cwp_true (by kernel_rfl) ?_
      refine cwp_seq ?_
      refine cwp_region ?_
      obtain ⟨t119, m120, H⟩ := bind_some H
      have f121 := f14.up (p18.up p8.bd (fun _ x => x.elim))
      have f122 := f121.up (p28.up p18.bd (fun _ x => x.elim))
      refine lwp_op (by kernel_rfl) (owp_callF (by kernel_rfl) (shutterlaw09_awake.calls (I := I27) p28.bd f122 m120) ?_)
      rintro v123 h124 ⟨I125, rfl, p126⟩
      have pt127 := pt29.no p126
      refine lwp_run 1 (by kernel_rfl) ?_
      refine lwp_nil ?_
      refine cwp_ret ?_
      obtain rfl := Option.some.inj H
      show Exists _
      exact ⟨.bool t119, by kernel_rfl, I125, rfl, pt127⟩
    · rw [cond_true] at H
      refine lwp_run 2 (by kernel_rfl) ?_
      refine lwp_nil ?_
      refine cwp_false (by kernel_rfl) ?_
      refine cwp_skip ?_
      refine cwp_seq ?_
      refine cwp_regionD (Keep No h26) 9 (by kernel_rfl) ?_
      have f30 := f20.post p28 (fun x => x.elim)
      refine awp_loadN 0 rfl (by kernel_rfl) (by kernel_rfl) (by kernel_rfl) (by kernel_rfl) (by kernel_rfl) Keep.refl (f30.seg_ 0 3 (Nat.le_of_ble_eq_true rfl)) (fun _ _ x => x.elim) ?_
      refine awp_run (fuel := 7) [1] Keep.refl (by kernel_rfl) ?_
      obtain ⟨t31, m32, H⟩ := bind_some H
      refine awp_op 2 (by kernel_rfl) rfl (by kernel_rfl) (owp_callF (by kernel_rfl) (shutterlaw09_size.calls (I := I27) p28.bd m32) ?_)
      rintro v33 h34 ⟨_, rfl, rfl⟩
      refine ⟨Keep.refl, ?_⟩
      have f37 := f22.up (p28.up p18.bd (fun _ x => x.elim))
      obtain ⟨t38, m39, H⟩ := bind_some H
      refine awp_op 3 (by kernel_rfl) rfl (by kernel_rfl) (owp_callF (by kernel_rfl) (input_Write.calls (I := I27) (B := I27) p28.bd p28.bd (Rd.mono (I' := Or2 I27 I27) f37 (fun _ x => Or.inr x)) m39) ?_)
      rintro v40 h41 ⟨I42, a44, c45, v49, rfl, p43, r47, fr48, q51⟩
      have pt52 := pt29.no p43
      have fr53 := nw_step (M := No) (n := h.size) (fun _ x => x.elim) fr48 pt29.size
      have d54 := step_blk fr48 f30.lt (fun x => x.elim)
      have hK55 := Keep.post (M := No) Keep.refl (Nat.le_refl _) p43 (fun _ x => x.elim)
      refine ⟨hK55, ?_⟩
      refine awp_run (fuel := 0) [4, 5, 6, 7, 8] hK55 (by kernel_rfl) ?_
      refine awp_nil (by kernel_rfl) ?_ 0
      refine cwp_seq ?_
      refine cwp_seq ?_
      refine cwp_region ?_
      refine lwp_run 1 (by kernel_rfl) ?_
      rcases q51.cases with ⟨c56, rfl⟩ | ⟨c56, t57, u58, rfl⟩
      · rw [if_pos c56] at H
        refine lwp_run 1 (by kernel_rfl) ?_
        refine lwp_nil ?_
        refine cwp_false (by kernel_rfl) ?_
        refine cwp_skip ?_
        refine cwp_seq ?_
        refine cwp_region ?_
        refine lwp_run 1 (by kernel_rfl) ?_
        refine lwp_nil ?_
        refine cwp_seq ?_
        refine cwp_seq ?_
        refine cwp_region ?_
        refine lwp_run 1 (by kernel_rfl) ?_
        refine lwp_nil ?_
        refine cwp_block ?_
        have f92 := f37.up (p43.up p28.bd (fun _ x => x.elim))
        have f93 := f30.post p43 (fun x => x.elim)
        have f94 := f14.up (p18.up p8.bd (fun _ x => x.elim))
        have f95 := f94.up (p28.up p18.bd (fun _ x => x.elim))
        have f96 := f95.up (p43.up p28.bd (fun _ x => x.elim))
        obtain ⟨s69, m78, HR79⟩ := bind_some H
        refine cwp_loopE 0 (fun ρ' h70 => ∃ (x74 : Int) (I71 : Gh), x74 = s69 ∧ Fits [(2, .pointer (some ⟨b5, 0, none⟩)), (5, .slice a44 t38.1.length c45), (7, .int .i64 x74)] ρ' ∧ Pst No I h I71 h70 ∧ OwnX (tInt .u8) I71 I71 h70 a44 c45 t38.1 ∧ Rd t_api_Entry I71 h70 a1 c2 x0.Fields ∧ OwnB I71 h70 b5 [.int .u8 x0.Aid, .int .i64 x0.Cursor, .slice a1 x0.Fields.length c2] 51 ∧ Glob I71 h70) ?_ ?_
        · refine cwp_loop (fun k' ρ' h59 => ∃ (x63 : Int) (x64 : Int) (I60 : Gh), shutterlaw09_InputLengths.l1.m K x0 k' x63 x64 = some s69 ∧ Fits [(2, .pointer (some ⟨b5, 0, none⟩)), (5, .slice a44 t38.1.length c45), (7, .int .i64 x63), (8, .int .i64 x64)] ρ' ∧ Pst No I h I60 h59 ∧ OwnX (tInt .u8) I60 I60 h59 a44 c45 t38.1 ∧ Rd t_api_Entry I60 h59 a1 c2 x0.Fields ∧ OwnB I60 h59 b5 [.int .u8 x0.Aid, .int .i64 x0.Cursor, .slice a1 x0.Fields.length c2] 51 ∧ Glob I60 h59) K ⟨3, 0, I42, m78, ⟨by kernel_rfl, by kernel_rfl, by kernel_rfl, by kernel_rfl, trivial⟩, pt52, r47, f92, f93, f96⟩ ?_
          clear m78
          rintro k' ρ' h59 ⟨x63, x64, I60, H, hf, pt61, r62, r65, o66, g67⟩
          cases k' with
          | zero => cases H
          | succ k =>
            rw [shutterlaw09_InputLengths.l1.m] at H
            refine cwp_fits _ hf ?_
            refine cwp_seq ?_
            refine cwp_seq ?_
            refine cwp_region ?_
            refine lwp_run 2 (by kernel_rfl) ?_
            refine lwp_op (by kernel_rfl) (owp_load (by kernel_rfl) (by kernel_rfl) (o66.cell (off := 2) rfl) ?_)
            refine lwp_run 1 (by kernel_rfl) ?_
            by_cases c80 : x64 < (x0.Fields.length : Int)
            · rw [if_pos c80] at H
              refine lwp_op (by kernel_rfl) (owp_pure ((.bool true)) (pr_bool (by kernel_rfl) (decide_eq_true c80)) ?_)
              refine lwp_nil ?_
              refine cwp_true (by kernel_rfl) ?_
              refine cwp_skip ?_
              refine cwp_seq ?_
              refine cwp_block ?_
              refine cwp_seq ?_
              refine cwp_region ?_
              refine lwp_run 2 (by kernel_rfl) ?_
              refine lwp_op (by kernel_rfl) (owp_load (by kernel_rfl) (by kernel_rfl) (o66.cell (off := 2) rfl) ?_)
              obtain ⟨c81, H⟩ := guard_pos H
              refine lwp_run 1 (by kernel_rfl) ?_
              have hs82 := (r65.toSl).isSome c81 c80
              refine lwp_op (by kernel_rfl) (owp_pure (elemPtr a1 (x64.toNat * 2)) (pr_indexElem (e := 62) (r65.toSl) (k := .i64) (by kernel_rfl) (by kernel_rfl) (by kernel_rfl) (by kernel_rfl) c81 c80) ?_)
              refine lwp_op (by kernel_rfl) (owp_pure ((elemPtr a1 (x64.toNat * 2 + 1))) (pr_fieldAddr (a := a1) (n := (x64.toNat * 2)) (off := 1) (by kernel_rfl) hs82 (fun _ _ => by kernel_rfl)) ?_)
              obtain ⟨cs83, hs84, rp85⟩ := (r65.toSl).seg c81 c80
              obtain ⟨a86, c87, rfl, r89⟩ := t_api_Entry.open_ rp85
              refine lwp_op (by kernel_rfl) (owp_load (by kernel_rfl) (by kernel_rfl) (seg_cell (f := 1) hs84 rfl) ?_)
              refine lwp_run 3 (by kernel_rfl) ?_
              refine lwp_nil ?_
              refine cwp_seq ?_
              refine cwp_region ?_
              refine lwp_run 1 (by kernel_rfl) ?_
              refine lwp_op (by kernel_rfl) (owp_load (by kernel_rfl) (by kernel_rfl) (o66.cell (off := 2) rfl) ?_)
              refine lwp_run 1 (by kernel_rfl) ?_
              have hs90 := (r65.toSl).isSome c81 c80
              refine lwp_op (by kernel_rfl) (owp_pure (elemPtr a1 (x64.toNat * 2)) (pr_indexElem (e := 62) (r65.toSl) (k := .i64) (by kernel_rfl) (by kernel_rfl) (by kernel_rfl) (by kernel_rfl) c81 c80) ?_)
              refine lwp_op (by kernel_rfl) (owp_pure ((elemPtr a1 (x64.toNat * 2 + 0))) (pr_fieldAddr (a := a1) (n := (x64.toNat * 2)) (off := 0) (by kernel_rfl) hs90 (fun _ _ => by kernel_rfl)) ?_)
              refine lwp_op (by kernel_rfl) (owp_load (by kernel_rfl) (by kernel_rfl) (seg_cell (f := 0) hs84 rfl) ?_)
              by_cases c91 : (at_ x0.Fields x64).Addr ≥ 0
              · rw [if_pos c91] at H
                refine lwp_op (by kernel_rfl) (owp_pure ((.bool true)) (pr_bool (by kernel_rfl) (decide_eq_true c91)) ?_)
                refine lwp_nil ?_
                refine cwp_true (by kernel_rfl) ?_
                refine cwp_region ?_
                refine lwp_run 3 (by kernel_rfl) ?_
                refine lwp_nil ?_
                refine cwp_region ?_
                refine lwp_run 3 (by kernel_rfl) ?_
                refine lwp_nil ?_
                show Exists _
                exact ⟨k, Nat.lt_succ_self _, (w64 ((w64 (x63 + (((at_ x0.Fields x64).Text).length : Int))) + 3)), (w64 (x64 + 1)), I60, H, ⟨by kernel_rfl, by kernel_rfl, by kernel_rfl, by kernel_rfl, trivial⟩, pt61, r62, r65, o66, g67⟩
              · rw [if_neg c91] at H
                refine lwp_op (by kernel_rfl) (owp_pure ((.bool false)) (pr_bool (by kernel_rfl) (decide_eq_false c91)) ?_)
                refine lwp_nil ?_
                refine cwp_false (by kernel_rfl) ?_
                refine cwp_skip ?_
                refine cwp_region ?_
                refine lwp_run 3 (by kernel_rfl) ?_
                refine lwp_nil ?_
                show Exists _
                exact ⟨k, Nat.lt_succ_self _, (w64 (x63 + (((at_ x0.Fields x64).Text).length : Int))), (w64 (x64 + 1)), I60, H, ⟨by kernel_rfl, by kernel_rfl, by kernel_rfl, by kernel_rfl, trivial⟩, pt61, r62, r65, o66, g67⟩
            · rw [if_neg c80] at H
              refine lwp_op (by kernel_rfl) (owp_pure ((.bool false)) (pr_bool (by kernel_rfl) (decide_eq_false c80)) ?_)
              refine lwp_nil ?_
              refine cwp_false (by kernel_rfl) ?_
              refine cwp_exit ?_
              obtain rfl := Option.some.inj H
              show Exists _
              exact ⟨x63, I60, rfl, ⟨by kernel_rfl, by kernel_rfl, by kernel_rfl, trivial⟩, pt61, r62, r65, o66, g67⟩
        · rintro ρ' h70 ⟨x74, I71, rfl, hf, pt72, r73, r75, o76, g77⟩
          have H := HR79
          try dsimp only at H
          refine cwp_fits _ hf ?_
          obtain ⟨j109, e118, H⟩ := letJ_some H
          refine cwp_join (fun ρ' h101 => ∃ (x105 : Bool) (I102 : Gh), j109 x105 = some r ∧ Fits [(2, .pointer (some ⟨b5, 0, none⟩)), (5, .slice a44 t38.1.length c45), (7, .int .i64 x74), (9, .bool x105)] ρ' ∧ Pst No I h I102 h101 ∧ OwnX (tInt .u8) I102 I102 h101 a44 c45 t38.1 ∧ Rd t_api_Entry I102 h101 a1 c2 x0.Fields ∧ OwnB I102 h101 b5 [.int .u8 x0.Aid, .int .i64 x0.Cursor, .slice a1 x0.Fields.length c2] 51 ∧ Glob I102 h101) ?_ ?_
          · refine cwp_region ?_
            refine lwp_run 1 (by kernel_rfl) ?_
            refine lwp_op (by kernel_rfl) (owp_load (by kernel_rfl) (by kernel_rfl) (o76.cell (off := 0) rfl) ?_)
            by_cases c97 : x0.Aid = 109
            · rw [if_pos c97] at H
              refine lwp_op (by kernel_rfl) (owp_pure ((.bool true)) (pr_bool (by kernel_rfl) (eqT c97)) ?_)
              refine lwp_run 16 (by kernel_rfl) ?_
              refine lwp_nil ?_
              exact ⟨true, I71, H, ⟨by kernel_rfl, by kernel_rfl, by kernel_rfl, by kernel_rfl, trivial⟩, pt72, r73, r75, o76, g77⟩
            · rw [if_neg c97] at H
              refine lwp_op (by kernel_rfl) (owp_pure ((.bool false)) (pr_bool (by kernel_rfl) (eqF c97)) ?_)
              refine lwp_run 2 (by kernel_rfl) ?_
              refine lwp_op (by kernel_rfl) (owp_load (by kernel_rfl) (by kernel_rfl) (o76.cell (off := 0) rfl) ?_)
              by_cases c98 : x0.Aid = 108
              · rw [if_pos c98] at H
                refine lwp_op (by kernel_rfl) (owp_pure ((.bool true)) (pr_bool (by kernel_rfl) (eqT c98)) ?_)
                refine lwp_run 12 (by kernel_rfl) ?_
                refine lwp_nil ?_
                exact ⟨true, I71, H, ⟨by kernel_rfl, by kernel_rfl, by kernel_rfl, by kernel_rfl, trivial⟩, pt72, r73, r75, o76, g77⟩
              · rw [if_neg c98] at H
                refine lwp_op (by kernel_rfl) (owp_pure ((.bool false)) (pr_bool (by kernel_rfl) (eqF c98)) ?_)
                refine lwp_run 3 (by kernel_rfl) ?_
                refine lwp_op (by kernel_rfl) (owp_load (by kernel_rfl) (by kernel_rfl) (o76.cell (off := 0) rfl) ?_)
                by_cases c99 : x0.Aid = 110
                · rw [if_pos c99] at H
                  refine lwp_op (by kernel_rfl) (owp_pure ((.bool true)) (pr_bool (by kernel_rfl) (eqT c99)) ?_)
                  refine lwp_run 7 (by kernel_rfl) ?_
                  refine lwp_nil ?_
                  exact ⟨true, I71, H, ⟨by kernel_rfl, by kernel_rfl, by kernel_rfl, by kernel_rfl, trivial⟩, pt72, r73, r75, o76, g77⟩
                · rw [if_neg c99] at H
                  refine lwp_op (by kernel_rfl) (owp_pure ((.bool false)) (pr_bool (by kernel_rfl) (eqF c99)) ?_)
                  refine lwp_run 3 (by kernel_rfl) ?_
                  refine lwp_op (by kernel_rfl) (owp_load (by kernel_rfl) (by kernel_rfl) (o76.cell (off := 0) rfl) ?_)
                  by_cases c100 : x0.Aid = 107
                  · rw [if_pos c100] at H
                    refine lwp_op (by kernel_rfl) (owp_pure ((.bool true)) (pr_bool (by kernel_rfl) (eqT c100)) ?_)
                    refine lwp_run 2 (by kernel_rfl) ?_
                    refine lwp_nil ?_
                    exact ⟨true, I71, H, ⟨by kernel_rfl, by kernel_rfl, by kernel_rfl, by kernel_rfl, trivial⟩, pt72, r73, r75, o76, g77⟩
                  · rw [if_neg c100] at H
                    refine lwp_op (by kernel_rfl) (owp_pure ((.bool false)) (pr_bool (by kernel_rfl) (eqF c100)) ?_)
                    refine lwp_run 2 (by kernel_rfl) ?_
                    refine lwp_nil ?_
                    exact ⟨false, I71, H, ⟨by kernel_rfl, by kernel_rfl, by kernel_rfl, by kernel_rfl, trivial⟩, pt72, r73, r75, o76, g77⟩
          · clear H
            rintro ρ' h101 ⟨x105, I102, H, hf, pt103, r104, r106, o107, g108⟩
            refine cwp_fits _ hf ?_
            subst e118
            try dsimp only at H
            refine cwp_seq ?_
            refine cwp_regionD (Keep No h101) 25 (by kernel_rfl) ?_
            obtain ⟨c110, H⟩ := guard_pos H
            refine awp_run (fuel := 24) [0] Keep.refl (by kernel_rfl) ?_
            have hs111 := (r104.toSl).isSome (by decide) c110
            refine awp_pure 1 (elemPtr a44 ((0 : Int).toNat * 1)) rfl (by kernel_rfl) (by kernel_rfl) (pr_indexElem (e := 5) (r104.toSl) (k := .i64) (by kernel_rfl) (by kernel_rfl) (by kernel_rfl) (by kernel_rfl) (by decide) c110) Keep.refl ?_
            obtain ⟨cs112, hs113, rp114⟩ := (r104.toSl).seg (by decide) c110
            obtain rfl := rep_int rp114
            refine awp_load 2 rfl (by kernel_rfl) (by kernel_rfl) (by kernel_rfl) (by kernel_rfl) Keep.refl (seg_cell (f := 0) hs113 rfl) (fun _ _ x => x.elim) ?_
            refine awp_run (fuel := 21) [3] Keep.refl (by kernel_rfl) ?_
            refine awp_load 4 rfl (by kernel_rfl) (by kernel_rfl) (by kernel_rfl) (by kernel_rfl) Keep.refl (o107.cell (off := 0) rfl) (fun _ _ x => x.elim) ?_
            by_cases c115 : (at_ t38.1 0) = x0.Aid
            · rw [if_pos c115] at H
              refine awp_pure 5 ((.bool true)) rfl (by kernel_rfl) (by kernel_rfl) (pr_bool (by kernel_rfl) (eqT c115)) Keep.refl ?_
              refine awp_run (fuel := 18) [6] Keep.refl (by kernel_rfl) ?_
              rcases bool_or x105 with c116 | c116
              · replace H := bif_f c116 H
                refine awp_pure 7 ((.bool false)) rfl (by kernel_rfl) (by kernel_rfl) (pr_bool (by kernel_rfl) c116) Keep.refl ?_
                refine awp_run (fuel := 11) [8, 9, 10, 11, 12, 13] Keep.refl (by kernel_rfl) ?_
                refine awp_pure 14 ((.bool false)) rfl (by kernel_rfl) (by kernel_rfl) (pr_bool (by kernel_rfl) c116) Keep.refl ?_
                refine awp_run (fuel := 0) [15, 16, 17, 18, 19, 20, 21, 22, 23, 24] Keep.refl (by kernel_rfl) ?_
                refine awp_nil (by kernel_rfl) ?_ 0
                refine cwp_ret ?_
                obtain rfl := Option.some.inj H
                show Exists _
                exact ⟨.bool ((t38.1.length : Int) == x74), by kernel_rfl, I102, rfl, pt103⟩
              · replace H := bif_t c116 H
                refine awp_pure 7 ((.bool true)) rfl (by kernel_rfl) (by kernel_rfl) (pr_bool (by kernel_rfl) c116) Keep.refl ?_
                refine awp_run (fuel := 14) [8, 9, 10] Keep.refl (by kernel_rfl) ?_
                by_cases c117 : (t38.1.length : Int) = 1
                · rw [if_pos c117] at H
                  refine awp_pure 11 ((.bool true)) rfl (by kernel_rfl) (by kernel_rfl) (pr_bool (by kernel_rfl) (eqT c117)) Keep.refl ?_
                  refine awp_run (fuel := 0) [12, 13, 14, 15, 16, 17, 18, 19, 20, 21, 22, 23, 24] Keep.refl (by kernel_rfl) ?_
                  refine awp_nil (by kernel_rfl) ?_ 0
                  refine cwp_ret ?_
                  obtain rfl := Option.some.inj H
                  show Exists _
                  exact ⟨.bool true, by kernel_rfl, I102, rfl, pt103⟩
                · rw [if_neg c117] at H
                  refine awp_pure 11 ((.bool false)) rfl (by kernel_rfl) (by kernel_rfl) (pr_bool (by kernel_rfl) (eqF c117)) Keep.refl ?_
                  refine awp_run (fuel := 11) [12, 13] Keep.refl (by kernel_rfl) ?_
                  refine awp_pure 14 ((.bool true)) rfl (by kernel_rfl) (by kernel_rfl) (pr_bool (by kernel_rfl) c116) Keep.refl ?_
                  refine awp_run (fuel := 0) [15, 16, 17, 18, 19, 20, 21, 22, 23, 24] Keep.refl (by kernel_rfl) ?_
                  refine awp_nil (by kernel_rfl) ?_ 0
                  refine cwp_ret ?_
                  obtain rfl := Option.some.inj H
                  show Exists _
                  exact ⟨.bool false, by kernel_rfl, I102, rfl, pt103⟩
            · rw [if_neg c115] at H
              refine awp_pure 5 ((.bool false)) rfl (by kernel_rfl) (by kernel_rfl) (pr_bool (by kernel_rfl) (eqF c115)) Keep.refl ?_
              refine awp_run (fuel := 0) [6, 7, 8, 9, 10, 11, 12, 13, 14, 15, 16, 17, 18, 19, 20, 21, 22, 23, 24] Keep.refl (by kernel_rfl) ?_
              refine awp_nil (by kernel_rfl) ?_ 0
              refine cwp_ret ?_
              obtain rfl := Option.some.inj H
              show Exists _
              exact ⟨.bool false, by kernel_rfl, I102, rfl, pt103⟩
      · rw [if_neg c56] at H
        refine lwp_run 1 (by kernel_rfl) ?_
        refine lwp_nil ?_
        refine cwp_true (by kernel_rfl) ?_
        refine cwp_seq ?_
        refine cwp_region ?_
        refine lwp_run 4 (by kernel_rfl) ?_
        refine lwp_nil ?_
        refine cwp_ret ?_
        obtain rfl := Option.some.inj H
        show Exists _
        exact ⟨.bool ((t38.1.length : Int) == 0), by kernel_rfl, I42, rfl, pt52⟩

/-! shutter/shutterref05.Bare -/
def shutterref05_Bare.m (x0 : Int) : Option Bool :=
  (if x0 = 109 then (some true) else (if x0 = 108 then (some true) else (if x0 = 110 then (some true) else (some (x0 == 107)))))

set_option maxRecDepth 100000 in
theorem shutterref05_Bare.calls {I : Gh} {h : Heap} {x0 : Int} (_hB : Bd I h)  {r : Bool}
    (H : shutterref05_Bare.m x0 = some r) :
    Ret Tryd.prog 60 #[.int .u8 x0] h (fun v h' => ∃ _ : Unit, .bool r = v ∧ h = h') := by
  unfold shutterref05_Bare.m at H
  refine ret_of (args := [.int .u8 x0]) (rs := [.tmp 2]) (N := 17) Tryd.func60 rfl rfl rfl (Nat.le_of_ble_eq_true rfl) ?_
  refine cwp_seq ?_
  refine cwp_region ?_
  refine lwp_run 1 (by kernel_rfl) ?_
  refine lwp_nil ?_
  refine cwp_seq ?_
  refine cwp_region ?_
  refine lwp_run 1 (by kernel_rfl) ?_
  by_cases c1 : x0 = 109
  · rw [if_pos c1] at H
    refine lwp_op (by kernel_rfl) (owp_pure ((.bool true)) (pr_bool (by kernel_rfl) (eqT c1)) ?_)
    refine lwp_run 13 (by kernel_rfl) ?_
    refine lwp_nil ?_
    refine cwp_ret ?_
    obtain rfl := Option.some.inj H
    show Exists _
    exact ⟨.bool true, by kernel_rfl, (), rfl, rfl⟩
  · rw [if_neg c1] at H
    refine lwp_op (by kernel_rfl) (owp_pure ((.bool false)) (pr_bool (by kernel_rfl) (eqF c1)) ?_)
    refine lwp_run 2 (by kernel_rfl) ?_
    by_cases c2 : x0 = 108
    · rw [if_pos c2] at H
      refine lwp_op (by kernel_rfl) (owp_pure ((.bool true)) (pr_bool (by kernel_rfl) (eqT c2)) ?_)
      refine lwp_run 10 (by kernel_rfl) ?_
      refine lwp_nil ?_
      refine cwp_ret ?_
      obtain rfl := Option.some.inj H
      show Exists _
      exact ⟨.bool true, by kernel_rfl, (), rfl, rfl⟩
    · rw [if_neg c2] at H
      refine lwp_op (by kernel_rfl) (owp_pure ((.bool false)) (pr_bool (by kernel_rfl) (eqF c2)) ?_)
      refine lwp_run 3 (by kernel_rfl) ?_
      by_cases c3 : x0 = 110
      · rw [if_pos c3] at H
        refine lwp_op (by kernel_rfl) (owp_pure ((.bool true)) (pr_bool (by kernel_rfl) (eqT c3)) ?_)
        refine lwp_run 6 (by kernel_rfl) ?_
        refine lwp_nil ?_
        refine cwp_ret ?_
        obtain rfl := Option.some.inj H
        show Exists _
        exact ⟨.bool true, by kernel_rfl, (), rfl, rfl⟩
      · rw [if_neg c3] at H
        refine lwp_op (by kernel_rfl) (owp_pure ((.bool false)) (pr_bool (by kernel_rfl) (eqF c3)) ?_)
        refine lwp_run 6 (by kernel_rfl) ?_
        refine lwp_nil ?_
        refine cwp_ret ?_
        obtain rfl := Option.some.inj H
        show Exists _
        exact ⟨.bool (x0 == 107), by kernel_rfl, (), rfl, rfl⟩

/-! shutter/shutterref05.Aid -/
def shutterref05_Aid.m (x0 : Int) : Option Bool :=
  ((shutterref05_Bare.m x0).bind fun t1 => bif t1 then (some true) else (if x0 = 125 then (some true) else (if x0 ≥ 241 then (if x0 ≤ 249 then (some true) else (if x0 ≥ 122 then (some (decide (x0 ≤ 124))) else (some false))) else (if x0 ≥ 122 then (some (decide (x0 ≤ 124))) else (some false)))))

set_option maxRecDepth 100000 in
theorem shutterref05_Aid.calls {I : Gh} {h : Heap} {x0 : Int} (hB : Bd I h)  {r : Bool}
    (H : shutterref05_Aid.m x0 = some r) :
    Ret Tryd.prog 35 #[.int .u8 x0] h (fun v h' => ∃ _ : Unit, .bool r = v ∧ h = h') := by
  unfold shutterref05_Aid.m at H
  refine ret_of (args := [.int .u8 x0]) (rs := [.tmp 2]) (N := 25) Tryd.func35 rfl rfl rfl (Nat.le_of_ble_eq_true rfl) ?_
  refine cwp_seq ?_
  refine cwp_region ?_
  refine lwp_run 1 (by kernel_rfl) ?_
  refine lwp_nil ?_
  refine cwp_seq ?_
  refine cwp_region ?_
  refine lwp_run 1 (by kernel_rfl) ?_
  obtain ⟨t1, m2, H⟩ := bind_some H
  refine lwp_op (by kernel_rfl) (owp_callF (by kernel_rfl) (shutterref05_Bare.calls (I := I) hB m2) ?_)
  rintro v3 h4 ⟨_, rfl, rfl⟩
  cases t1
  · rw [cond_false] at H
    refine lwp_run 2 (by kernel_rfl) ?_
    by_cases c7 : x0 = 125
    · rw [if_pos c7] at H
      refine lwp_op (by kernel_rfl) (owp_pure ((.bool true)) (pr_bool (by kernel_rfl) (eqT c7)) ?_)
      refine lwp_run 18 (by kernel_rfl) ?_
      refine lwp_nil ?_
      refine cwp_ret ?_
      obtain rfl := Option.some.inj H
      show Exists _
      exact ⟨.bool true, by kernel_rfl, (), rfl, rfl⟩
    · rw [if_neg c7] at H
      refine lwp_op (by kernel_rfl) (owp_pure ((.bool false)) (pr_bool (by kernel_rfl) (eqF c7)) ?_)
      refine lwp_run 3 (by kernel_rfl) ?_
      by_cases c8 : x0 ≥ 241
      · rw [if_pos c8] at H
        refine lwp_op (by kernel_rfl) (owp_pure ((.bool true)) (pr_bool (by kernel_rfl) (decide_eq_true c8)) ?_)
        refine lwp_run 2 (by kernel_rfl) ?_
        by_cases c9 : x0 ≤ 249
        · rw [if_pos c9] at H
          refine lwp_op (by kernel_rfl) (owp_pure ((.bool true)) (pr_bool (by kernel_rfl) (decide_eq_true c9)) ?_)
          refine lwp_run 11 (by kernel_rfl) ?_
          refine lwp_nil ?_
          refine cwp_ret ?_
          obtain rfl := Option.some.inj H
          show Exists _
          exact ⟨.bool true, by kernel_rfl, (), rfl, rfl⟩
        · rw [if_neg c9] at H
          refine lwp_op (by kernel_rfl) (owp_pure ((.bool false)) (pr_bool (by kernel_rfl) (decide_eq_false c9)) ?_)
          refine lwp_run 4 (by kernel_rfl) ?_
          by_cases c10 : x0 ≥ 122
          · rw [if_pos c10] at H
            refine lwp_op (by kernel_rfl) (owp_pure ((.bool true)) (pr_bool (by kernel_rfl) (decide_eq_true c10)) ?_)
            refine lwp_run 6 (by kernel_rfl) ?_
            refine lwp_nil ?_
            refine cwp_ret ?_
            obtain rfl := Option.some.inj H
            show Exists _
            exact ⟨.bool (decide (x0 ≤ 124)), by kernel_rfl, (), rfl, rfl⟩
          · rw [if_neg c10] at H
            refine lwp_op (by kernel_rfl) (owp_pure ((.bool false)) (pr_bool (by kernel_rfl) (decide_eq_false c10)) ?_)
            refine lwp_run 6 (by kernel_rfl) ?_
            refine lwp_nil ?_
            refine cwp_ret ?_
            obtain rfl := Option.some.inj H
            show Exists _
            exact ⟨.bool false, by kernel_rfl, (), rfl, rfl⟩
      · rw [if_neg c8] at H
        refine lwp_op (by kernel_rfl) (owp_pure ((.bool false)) (pr_bool (by kernel_rfl) (decide_eq_false c8)) ?_)
        refine lwp_run 7 (by kernel_rfl) ?_
        by_cases c11 : x0 ≥ 122
        · rw [if_pos c11] at H
          refine lwp_op (by kernel_rfl) (owp_pure ((.bool true)) (pr_bool (by kernel_rfl) (decide_eq_true c11)) ?_)
          refine lwp_run 6 (by kernel_rfl) ?_
          refine lwp_nil ?_
          refine cwp_ret ?_
          obtain rfl := Option.some.inj H
          show Exists _
          exact ⟨.bool (decide (x0 ≤ 124)), by kernel_rfl, (), rfl, rfl⟩
        · rw [if_neg c11] at H
          refine lwp_op (by kernel_rfl) (owp_pure ((.bool false)) (pr_bool (by kernel_rfl) (decide_eq_false c11)) ?_)
          refine lwp_run 6 (by kernel_rfl) ?_
          refine lwp_nil ?_
          refine cwp_ret ?_
          obtain rfl := Option.some.inj H
          show Exists _
          exact ⟨.bool false, by kernel_rfl, (), rfl, rfl⟩
  · rw [cond_true] at H
    refine lwp_run 21 (by kernel_rfl) ?_
    refine lwp_nil ?_
    refine cwp_ret ?_
    obtain rfl := Option.some.inj H
    show Exists _
    exact ⟨.bool true, by kernel_rfl, (), rfl, rfl⟩

/-! shutter/shutterref03.value -/
def shutterref03_value.m (x0 : Int) : Option Int :=
  (if x0 ≥ 97 then (some (w64 ((w64 (x0)) - 87))) else (some (w64 ((w64 (x0)) - 48))))

set_option maxRecDepth 100000 in
theorem shutterref03_value.calls {I : Gh} {h : Heap} {x0 : Int} (_hB : Bd I h)  {r : Int}
    (H : shutterref03_value.m x0 = some r) :
    Ret Tryd.prog 129 #[.int .u8 x0] h (fun v h' => ∃ _ : Unit, .int .i64 r = v ∧ h = h') := by
  unfold shutterref03_value.m at H
  refine ret_of (args := [.int .u8 x0]) (rs := [.tmp 2]) (N := 11) Tryd.func129 rfl rfl rfl (Nat.le_of_ble_eq_true rfl) ?_
  refine cwp_seq ?_
  refine cwp_region ?_
  refine lwp_run 1 (by kernel_rfl) ?_
  refine lwp_nil ?_
  refine cwp_seq ?_
  refine cwp_seq ?_
  refine cwp_region ?_
  refine lwp_run 1 (by kernel_rfl) ?_
  by_cases c1 : x0 ≥ 97
  · rw [if_pos c1] at H
    refine lwp_op (by kernel_rfl) (owp_pure ((.bool true)) (pr_bool (by kernel_rfl) (decide_eq_true c1)) ?_)
    refine lwp_nil ?_
    refine cwp_true (by kernel_rfl) ?_
    refine cwp_seq ?_
    refine cwp_region ?_
    refine lwp_run 4 (by kernel_rfl) ?_
    refine lwp_nil ?_
    refine cwp_ret ?_
    obtain rfl := Option.some.inj H
    show Exists _
    exact ⟨.int .i64 (w64 ((w64 (x0)) - 87)), by kernel_rfl, (), rfl, rfl⟩
  · rw [if_neg c1] at H
    refine lwp_op (by kernel_rfl) (owp_pure ((.bool false)) (pr_bool (by kernel_rfl) (decide_eq_false c1)) ?_)
    refine lwp_nil ?_
    refine cwp_false (by kernel_rfl) ?_
    refine cwp_skip ?_
    refine cwp_seq ?_
    refine cwp_region ?_
    refine lwp_run 4 (by kernel_rfl) ?_
    refine lwp_nil ?_
    refine cwp_ret ?_
    obtain rfl := Option.some.inj H
    show Exists _
    exact ⟨.int .i64 (w64 ((w64 (x0)) - 48)), by kernel_rfl, (), rfl, rfl⟩

/-! shutter/shutterref03.Put -/
def shutterref03_Put.m (x0 : Int) : Option Int :=
  (if 0 ≤ (w64 (2 * x0)) then (if (w64 (2 * x0)) < 128 then (if 0 ≤ (w64 ((w64 (2 * x0)) + 1)) then (if (w64 ((w64 (2 * x0)) + 1)) < 128 then ((shutterref03_value.m (bt (⟨#[52, 48, 99, 49, 99, 50, 99, 51, 99, 52, 99, 53, 99, 54, 99, 55, 99, 56, 99, 57, 52, 97, 52, 98, 52, 99, 52, 100, 52, 101, 52, 102, 53, 48, 100, 49, 100, 50, 100, 51, 100, 52, 100, 53, 100, 54, 100, 55, 100, 56, 100, 57, 53, 97, 53, 98, 53, 99, 53, 100, 53, 101, 53, 102, 54, 48, 54, 49, 101, 50, 101, 51, 101, 52, 101, 53, 101, 54, 101, 55, 101, 56, 101, 57, 54, 97, 54, 98, 54, 99, 54, 100, 54, 101, 54, 102, 102, 48, 102, 49, 102, 50, 102, 51, 102, 52, 102, 53, 102, 54, 102, 55, 102, 56, 102, 57, 55, 97, 55, 98, 55, 99, 55, 100, 55, 101, 55, 102]⟩ : ByteArray) (w64 (2 * x0)))).bind fun t5 => ((shutterref03_value.m (bt (⟨#[52, 48, 99, 49, 99, 50, 99, 51, 99, 52, 99, 53, 99, 54, 99, 55, 99, 56, 99, 57, 52, 97, 52, 98, 52, 99, 52, 100, 52, 101, 52, 102, 53, 48, 100, 49, 100, 50, 100, 51, 100, 52, 100, 53, 100, 54, 100, 55, 100, 56, 100, 57, 53, 97, 53, 98, 53, 99, 53, 100, 53, 101, 53, 102, 54, 48, 54, 49, 101, 50, 101, 51, 101, 52, 101, 53, 101, 54, 101, 55, 101, 56, 101, 57, 54, 97, 54, 98, 54, 99, 54, 100, 54, 101, 54, 102, 102, 48, 102, 49, 102, 50, 102, 51, 102, 52, 102, 53, 102, 54, 102, 55, 102, 56, 102, 57, 55, 97, 55, 98, 55, 99, 55, 100, 55, 101, 55, 102]⟩ : ByteArray) (w64 ((w64 (2 * x0)) + 1)))).bind fun t11 => (some (IntKind.u8.wrap ((w64 ((w64 (16 * t5)) + t11))))))) else none) else none) else none) else none)

set_option maxRecDepth 100000 in
theorem shutterref03_Put.calls {I : Gh} {h : Heap} {x0 : Int} (hB : Bd I h)  {r : Int}
    (H : shutterref03_Put.m x0 = some r) :
    Ret Tryd.prog 115 #[.int .i64 x0] h (fun v h' => ∃ _ : Unit, .int .u8 r = v ∧ h = h') := by
  unfold shutterref03_Put.m at H
  refine ret_of (args := [.int .i64 x0]) (rs := [.tmp 2]) (N := 15) Tryd.func115 rfl rfl rfl (Nat.le_of_ble_eq_true rfl) ?_
  refine cwp_seq ?_
  refine cwp_region ?_
  refine lwp_run 1 (by kernel_rfl) ?_
  refine lwp_nil ?_
  refine cwp_seq ?_
  refine cwp_regionD (Keep No h) 13 (by kernel_rfl) ?_
  obtain ⟨c1, H⟩ := guard_pos H
  obtain ⟨c2, H⟩ := guard_pos H
  refine awp_run (fuel := 11) [0, 1] Keep.refl (by kernel_rfl) ?_
  refine awp_pure 2 ((.int .u8 (bt (⟨#[52, 48, 99, 49, 99, 50, 99, 51, 99, 52, 99, 53, 99, 54, 99, 55, 99, 56, 99, 57, 52, 97, 52, 98, 52, 99, 52, 100, 52, 101, 52, 102, 53, 48, 100, 49, 100, 50, 100, 51, 100, 52, 100, 53, 100, 54, 100, 55, 100, 56, 100, 57, 53, 97, 53, 98, 53, 99, 53, 100, 53, 101, 53, 102, 54, 48, 54, 49, 101, 50, 101, 51, 101, 52, 101, 53, 101, 54, 101, 55, 101, 56, 101, 57, 54, 97, 54, 98, 54, 99, 54, 100, 54, 101, 54, 102, 102, 48, 102, 49, 102, 50, 102, 51, 102, 52, 102, 53, 102, 54, 102, 55, 102, 56, 102, 57, 55, 97, 55, 98, 55, 99, 55, 100, 55, 101, 55, 102]⟩ : ByteArray) (w64 (2 * x0))))) rfl (by kernel_rfl) (by kernel_rfl) (pr_indexStr (s := (⟨#[52, 48, 99, 49, 99, 50, 99, 51, 99, 52, 99, 53, 99, 54, 99, 55, 99, 56, 99, 57, 52, 97, 52, 98, 52, 99, 52, 100, 52, 101, 52, 102, 53, 48, 100, 49, 100, 50, 100, 51, 100, 52, 100, 53, 100, 54, 100, 55, 100, 56, 100, 57, 53, 97, 53, 98, 53, 99, 53, 100, 53, 101, 53, 102, 54, 48, 54, 49, 101, 50, 101, 51, 101, 52, 101, 53, 101, 54, 101, 55, 101, 56, 101, 57, 54, 97, 54, 98, 54, 99, 54, 100, 54, 101, 54, 102, 102, 48, 102, 49, 102, 50, 102, 51, 102, 52, 102, 53, 102, 54, 102, 55, 102, 56, 102, 57, 55, 97, 55, 98, 55, 99, 55, 100, 55, 101, 55, 102]⟩ : ByteArray)) (k := .i64) (i := (w64 (2 * x0))) (by kernel_rfl) (by kernel_rfl) (by kernel_rfl) c1 c2) Keep.refl ?_
  obtain ⟨c3, H⟩ := guard_pos H
  obtain ⟨c4, H⟩ := guard_pos H
  refine awp_run (fuel := 7) [5, 6, 7] Keep.refl (by kernel_rfl) ?_
  refine awp_pure 8 ((.int .u8 (bt (⟨#[52, 48, 99, 49, 99, 50, 99, 51, 99, 52, 99, 53, 99, 54, 99, 55, 99, 56, 99, 57, 52, 97, 52, 98, 52, 99, 52, 100, 52, 101, 52, 102, 53, 48, 100, 49, 100, 50, 100, 51, 100, 52, 100, 53, 100, 54, 100, 55, 100, 56, 100, 57, 53, 97, 53, 98, 53, 99, 53, 100, 53, 101, 53, 102, 54, 48, 54, 49, 101, 50, 101, 51, 101, 52, 101, 53, 101, 54, 101, 55, 101, 56, 101, 57, 54, 97, 54, 98, 54, 99, 54, 100, 54, 101, 54, 102, 102, 48, 102, 49, 102, 50, 102, 51, 102, 52, 102, 53, 102, 54, 102, 55, 102, 56, 102, 57, 55, 97, 55, 98, 55, 99, 55, 100, 55, 101, 55, 102]⟩ : ByteArray) (w64 ((w64 (2 * x0)) + 1))))) rfl (by kernel_rfl) (by kernel_rfl) (pr_indexStr (s := (⟨#[52, 48, 99, 49, 99, 50, 99, 51, 99, 52, 99, 53, 99, 54, 99, 55, 99, 56, 99, 57, 52, 97, 52, 98, 52, 99, 52, 100, 52, 101, 52, 102, 53, 48, 100, 49, 100, 50, 100, 51, 100, 52, 100, 53, 100, 54, 100, 55, 100, 56, 100, 57, 53, 97, 53, 98, 53, 99, 53, 100, 53, 101, 53, 102, 54, 48, 54, 49, 101, 50, 101, 51, 101, 52, 101, 53, 101, 54, 101, 55, 101, 56, 101, 57, 54, 97, 54, 98, 54, 99, 54, 100, 54, 101, 54, 102, 102, 48, 102, 49, 102, 50, 102, 51, 102, 52, 102, 53, 102, 54, 102, 55, 102, 56, 102, 57, 55, 97, 55, 98, 55, 99, 55, 100, 55, 101, 55, 102]⟩ : ByteArray)) (k := .i64) (i := (w64 ((w64 (2 * x0)) + 1))) (by kernel_rfl) (by kernel_rfl) (by kernel_rfl) c3 c4) Keep.refl ?_
  obtain ⟨t5, m6, H⟩ := bind_some H
  refine awp_op 3 (by kernel_rfl) rfl (by kernel_rfl) (owp_callF (by kernel_rfl) (shutterref03_value.calls (I := I) hB m6) ?_)
  rintro v7 h8 ⟨_, rfl, rfl⟩
  refine ⟨Keep.refl, ?_⟩
  refine awp_run (fuel := 4) [4] Keep.refl (by kernel_rfl) ?_
  obtain ⟨t11, m12, H⟩ := bind_some H
  refine awp_op 9 (by kernel_rfl) rfl (by kernel_rfl) (owp_callF (by kernel_rfl) (shutterref03_value.calls (I := I) hB m12) ?_)
  rintro v13 h14 ⟨_, rfl, rfl⟩
  refine ⟨Keep.refl, ?_⟩
  refine awp_run (fuel := 0) [10, 11, 12] Keep.refl (by kernel_rfl) ?_
  refine awp_nil (by kernel_rfl) ?_ 0
  refine cwp_ret ?_
  obtain rfl := Option.some.inj H
  show Exists _
  exact ⟨.int .u8 (IntKind.u8.wrap ((w64 ((w64 (16 * t5)) + t11)))), by kernel_rfl, (), rfl, rfl⟩

/-! shutter/shutterref03.Get -/
def shutterref03_Get.l1.m (K : Nat) (x0 : Int) : Nat → Int → Option (Int ⊕ (Unit))
  | 0, _ => none
  | k + 1, x4 => (if x4 < 64 then ((shutterref03_Put.m x4).bind fun t13 => (if t13 = x0 then (some (Sum.inl x4)) else (shutterref03_Get.l1.m K x0 k (w64 (x4 + 1))))) else (some (Sum.inr ())))
def shutterref03_Get.m (K : Nat) (x0 : Int) : Option Int :=
  ((shutterref03_Get.l1.m K x0 K 0).bind fun s6 => match s6 with | .inl q => (some q) | .inr _ => (some (-1)))

set_option maxRecDepth 100000 in
theorem shutterref03_Get.calls {I : Gh} {h : Heap} {K : Nat} {x0 : Int} (hB : Bd I h)  {r : Int}
    (H : shutterref03_Get.m K x0 = some r) :
    Ret Tryd.prog 92 #[.int .u8 x0] h (fun v h' => ∃ _ : Unit, .int .i64 r = v ∧ h = h') := by
  unfold shutterref03_Get.m at H
  refine ret_of (args := [.int .u8 x0]) (rs := [.tmp 2]) (N := 13) Tryd.func92 rfl rfl rfl (Nat.le_of_ble_eq_true rfl) ?_
  refine cwp_seq ?_
  refine cwp_region ?_
  refine lwp_run 1 (by kernel_rfl) ?_
  refine lwp_nil ?_
  refine cwp_seq ?_
  refine cwp_seq ?_
  refine cwp_region ?_
  refine lwp_run 1 (by kernel_rfl) ?_
  refine lwp_nil ?_
  refine cwp_block ?_
  obtain ⟨s6, m10, HR11⟩ := bind_some H
  refine cwp_loopE 0 (fun ρ' h7 => ∃ (_ : Unit), Sum.inr () = s6 ∧ Fits [] ρ' ∧ h = h7) ?_ ?_
  · refine cwp_loop (fun k' ρ' h1 => ∃ (x4 : Int) (_ : Unit), shutterref03_Get.l1.m K x0 k' x4 = some s6 ∧ Fits [(0, .int .u8 x0), (3, .int .i64 x4)] ρ' ∧ h = h1) K ⟨0, (), m10, ⟨by kernel_rfl, by kernel_rfl, trivial⟩, rfl⟩ ?_
    clear m10
    rintro k' ρ' h1 ⟨x4, _, H, hf, rfl⟩
    cases k' with
    | zero => cases H
    | succ k =>
      rw [shutterref03_Get.l1.m] at H
      refine cwp_fits _ hf ?_
      refine cwp_seq ?_
      refine cwp_seq ?_
      refine cwp_region ?_
      refine lwp_run 1 (by kernel_rfl) ?_
      by_cases c12 : x4 < 64
      · rw [if_pos c12] at H
        refine lwp_op (by kernel_rfl) (owp_pure ((.bool true)) (pr_bool (by kernel_rfl) (decide_eq_true c12)) ?_)
        refine lwp_nil ?_
        refine cwp_true (by kernel_rfl) ?_
        refine cwp_skip ?_
        refine cwp_seq ?_
        refine cwp_block ?_
        refine cwp_seq ?_
        refine cwp_region ?_
        refine lwp_run 1 (by kernel_rfl) ?_
        obtain ⟨t13, m14, H⟩ := bind_some H
        refine lwp_op (by kernel_rfl) (owp_callF (by kernel_rfl) (shutterref03_Put.calls (I := I) hB m14) ?_)
        rintro v15 h16 ⟨_, rfl, rfl⟩
        refine lwp_run 1 (by kernel_rfl) ?_
        by_cases c19 : t13 = x0
        · rw [if_pos c19] at H
          refine lwp_op (by kernel_rfl) (owp_pure ((.bool true)) (pr_bool (by kernel_rfl) (eqT c19)) ?_)
          refine lwp_nil ?_
          refine cwp_true (by kernel_rfl) ?_
          refine cwp_seq ?_
          refine cwp_region ?_
          refine lwp_run 2 (by kernel_rfl) ?_
          refine lwp_nil ?_
          refine cwp_ret ?_
          obtain rfl := Option.some.inj H
          obtain rfl := Option.some.inj HR11
          show Exists _
          exact ⟨.int .i64 x4, by kernel_rfl, (), rfl, rfl⟩
        · rw [if_neg c19] at H
          refine lwp_op (by kernel_rfl) (owp_pure ((.bool false)) (pr_bool (by kernel_rfl) (eqF c19)) ?_)
          refine lwp_nil ?_
          refine cwp_false (by kernel_rfl) ?_
          refine cwp_skip ?_
          refine cwp_region ?_
          refine lwp_run 3 (by kernel_rfl) ?_
          refine lwp_nil ?_
          show Exists _
          exact ⟨k, Nat.lt_succ_self _, (w64 (x4 + 1)), (), H, ⟨by kernel_rfl, by kernel_rfl, trivial⟩, rfl⟩
      · rw [if_neg c12] at H
        refine lwp_op (by kernel_rfl) (owp_pure ((.bool false)) (pr_bool (by kernel_rfl) (decide_eq_false c12)) ?_)
        refine lwp_nil ?_
        refine cwp_false (by kernel_rfl) ?_
        refine cwp_exit ?_
        obtain rfl := Option.some.inj H
        show Exists _
        exact ⟨(), rfl, trivial, rfl⟩
  · rintro ρ' h7 ⟨_, rfl, hf, rfl⟩
    have H := HR11
    try dsimp only at H
    refine cwp_fits _ hf ?_
    refine cwp_seq ?_
    refine cwp_region ?_
    refine lwp_run 1 (by kernel_rfl) ?_
    refine lwp_nil ?_
    refine cwp_ret ?_
    obtain rfl := Option.some.inj H
    show Exists _
    exact ⟨.int .i64 (-1), by kernel_rfl, (), rfl, rfl⟩

/-! shutter/shutterref04.Get -/
def shutterref04_Get.m (K : Nat) (x0 : (List Int)) (x1 : Int) : Option (Int × Int × Int) :=
  (if x1 < 1 then (some (0, 1, (-1))) else (if x1 > 16383 then (some (0, 1, (-1))) else (if (x0.length : Int) < 2 then (some (0, 2, (-1))) else (if 0 < (x0.length : Int) then (if 1 < (x0.length : Int) then (letJ (α := Bool → Option (Int × Int × Int)) (fun (x22 : Bool) => (bif x22 then ((shutterref03_Get.m K (at_ x0 0)).bind fun t28 => ((shutterref03_Get.m K (at_ x0 1)).bind fun t38 => (if t28 < 0 then (some (0, 3, 0)) else (if t38 < 0 then (some (0, 3, 1)) else (if (w64 ((w64 (64 * t28)) + t38)) ≥ x1 then (some (0, 4, (-1))) else (some ((w64 ((w64 (64 * t28)) + t38)), 0, (-1)))))))) else (if (at_ x0 0) > 63 then (some (0, 3, 0)) else (if (w64 ((w64 (256 * (w64 ((at_ x0 0))))) + (w64 ((at_ x0 1))))) ≥ x1 then (some (0, 4, (-1))) else (some ((w64 ((w64 (256 * (w64 ((at_ x0 0))))) + (w64 ((at_ x0 1))))), 0, (-1))))))) fun (j23 : Bool → Option (Int × Int × Int)) => (if x1 ≤ 4096 then (j23 true) else (j23 false))) else none) else none))))

set_option maxRecDepth 100000 in
theorem shutterref04_Get.calls {I : Gh} {h : Heap} {K : Nat} {x0 : List Int} {a1 : Option Addr} {c2 : Nat} {x1 : Int} (hB : Bd I h) (r4 : Rd (tInt .u8) I h a1 c2 x0) {r : (Int × Int × Int)}
    (H : shutterref04_Get.m K x0 x1 = some r) :
    Ret Tryd.prog 61 #[.slice a1 x0.length c2, .int .i64 x1] h (fun v h' => ∃ _ : Unit, .tuple #[.int .i64 r.1, .int .i64 r.2.1, .int .i64 r.2.2] = v ∧ h = h') := by
  unfold shutterref04_Get.m at H
  refine ret_of (args := [.slice a1 x0.length c2, .int .i64 x1]) (rs := [.tmp 4, .tmp 5, .tmp 6]) (N := 55) Tryd.func61 rfl rfl rfl (Nat.le_of_ble_eq_true rfl) ?_
  refine cwp_seq ?_
  refine cwp_region ?_
  refine lwp_run 3 (by kernel_rfl) ?_
  refine lwp_nil ?_
  refine cwp_seq ?_
  refine cwp_seq ?_
  refine cwp_region ?_
  refine lwp_run 1 (by kernel_rfl) ?_
  by_cases c5 : x1 < 1
  · rw [if_pos c5] at H
    refine lwp_op (by kernel_rfl) (owp_pure ((.bool true)) (pr_bool (by kernel_rfl) (decide_eq_true c5)) ?_)
    refine lwp_run 4 (by kernel_rfl) ?_
    refine lwp_nil ?_
    refine cwp_true (by kernel_rfl) ?_
    refine cwp_seq ?_
    refine cwp_region ?_
    refine lwp_run 3 (by kernel_rfl) ?_
    refine lwp_nil ?_
    refine cwp_ret ?_
    obtain rfl := Option.some.inj H
    show Exists _
    exact ⟨.tuple #[.int .i64 0, .int .i64 1, .int .i64 (-1)], by kernel_rfl, (), rfl, rfl⟩
  · rw [if_neg c5] at H
    refine lwp_op (by kernel_rfl) (owp_pure ((.bool false)) (pr_bool (by kernel_rfl) (decide_eq_false c5)) ?_)
    refine lwp_run 2 (by kernel_rfl) ?_
    by_cases c6 : x1 > 16383
    · rw [if_pos c6] at H
      refine lwp_op (by kernel_rfl) (owp_pure ((.bool true)) (pr_bool (by kernel_rfl) (decide_eq_true c6)) ?_)
      refine lwp_run 1 (by kernel_rfl) ?_
      refine lwp_nil ?_
      refine cwp_true (by kernel_rfl) ?_
      refine cwp_seq ?_
      refine cwp_region ?_
      refine lwp_run 3 (by kernel_rfl) ?_
      refine lwp_nil ?_
      refine cwp_ret ?_
      obtain rfl := Option.some.inj H
      show Exists _
      exact ⟨.tuple #[.int .i64 0, .int .i64 1, .int .i64 (-1)], by kernel_rfl, (), rfl, rfl⟩
    · rw [if_neg c6] at H
      refine lwp_op (by kernel_rfl) (owp_pure ((.bool false)) (pr_bool (by kernel_rfl) (decide_eq_false c6)) ?_)
      refine lwp_run 1 (by kernel_rfl) ?_
      refine lwp_nil ?_
      refine cwp_false (by kernel_rfl) ?_
      refine cwp_skip ?_
      refine cwp_seq ?_
      refine cwp_seq ?_
      refine cwp_region ?_
      refine lwp_run 2 (by kernel_rfl) ?_
      by_cases c7 : (x0.length : Int) < 2
      · rw [if_pos c7] at H
        refine lwp_op (by kernel_rfl) (owp_pure ((.bool true)) (pr_bool (by kernel_rfl) (decide_eq_true c7)) ?_)
        refine lwp_nil ?_
        refine cwp_true (by kernel_rfl) ?_
        refine cwp_seq ?_
        refine cwp_region ?_
        refine lwp_run 3 (by kernel_rfl) ?_
        refine lwp_nil ?_
        refine cwp_ret ?_
        obtain rfl := Option.some.inj H
        show Exists _
        exact ⟨.tuple #[.int .i64 0, .int .i64 2, .int .i64 (-1)], by kernel_rfl, (), rfl, rfl⟩
      · rw [if_neg c7] at H
        refine lwp_op (by kernel_rfl) (owp_pure ((.bool false)) (pr_bool (by kernel_rfl) (decide_eq_false c7)) ?_)
        refine lwp_nil ?_
        refine cwp_false (by kernel_rfl) ?_
        refine cwp_skip ?_
        refine cwp_seq ?_
        refine cwp_regionD (Keep No h) 11 (by kernel_rfl) ?_
        obtain ⟨c8, H⟩ := guard_pos H
        refine awp_run (fuel := 10) [0] Keep.refl (by kernel_rfl) ?_
        have hs9 := (r4.toSl).isSome (by decide) c8
        refine awp_pure 1 (elemPtr a1 ((0 : Int).toNat * 1)) rfl (by kernel_rfl) (by kernel_rfl) (pr_indexElem (e := 5) (r4.toSl) (k := .i64) (by kernel_rfl) (by kernel_rfl) (by kernel_rfl) (by kernel_rfl) (by decide) c8) Keep.refl ?_
        obtain ⟨cs10, hs11, rp12⟩ := (r4.toSl).seg (by decide) c8
        obtain rfl := rep_int rp12
        refine awp_load 2 rfl (by kernel_rfl) (by kernel_rfl) (by kernel_rfl) (by kernel_rfl) Keep.refl (seg_cell (f := 0) hs11 rfl) (fun _ _ x => x.elim) ?_
        obtain ⟨c13, H⟩ := guard_pos H
        refine awp_run (fuel := 5) [3, 4, 5] Keep.refl (by kernel_rfl) ?_
        have hs14 := (r4.toSl).isSome (by decide) c13
        refine awp_pure 6 (elemPtr a1 ((1 : Int).toNat * 1)) rfl (by kernel_rfl) (by kernel_rfl) (pr_indexElem (e := 5) (r4.toSl) (k := .i64) (by kernel_rfl) (by kernel_rfl) (by kernel_rfl) (by kernel_rfl) (by decide) c13) Keep.refl ?_
        obtain ⟨cs15, hs16, rp17⟩ := (r4.toSl).seg (by decide) c13
        obtain rfl := rep_int rp17
        refine awp_load 7 rfl (by kernel_rfl) (by kernel_rfl) (by kernel_rfl) (by kernel_rfl) Keep.refl (seg_cell (f := 0) hs16 rfl) (fun _ _ x => x.elim) ?_
        refine awp_run (fuel := 0) [8, 9, 10] Keep.refl (by kernel_rfl) ?_
        refine awp_nil (by kernel_rfl) ?_ 0
        refine cwp_seq ?_
        obtain ⟨j23, e53, H⟩ := letJ_some H
        refine cwp_join (fun ρ' h19 => ∃ (x22 : Bool) (_ : Unit), j23 x22 = some r ∧ Fits [(0, .slice a1 x0.length c2), (1, .int .i64 x1), (7, .int .i64 (w64 ((w64 (256 * (w64 ((at_ x0 0))))) + (w64 ((at_ x0 1)))))), (30, .bool x22)] ρ' ∧ h = h19) ?_ ?_
        · refine cwp_region ?_
          refine lwp_run 1 (by kernel_rfl) ?_
          by_cases c18 : x1 ≤ 4096
          · rw [if_pos c18] at H
            refine lwp_op (by kernel_rfl) (owp_pure ((.bool true)) (pr_bool (by kernel_rfl) (decide_eq_true c18)) ?_)
            refine lwp_nil ?_
            exact ⟨true, (), H, ⟨by kernel_rfl, by kernel_rfl, by kernel_rfl, by kernel_rfl, trivial⟩, rfl⟩
          · rw [if_neg c18] at H
            refine lwp_op (by kernel_rfl) (owp_pure ((.bool false)) (pr_bool (by kernel_rfl) (decide_eq_false c18)) ?_)
            refine lwp_nil ?_
            exact ⟨false, (), H, ⟨by kernel_rfl, by kernel_rfl, by kernel_rfl, by kernel_rfl, trivial⟩, rfl⟩
        · clear H
          rintro ρ' h19 ⟨x22, _, H, hf, rfl⟩
          refine cwp_fits _ hf ?_
          subst e53
          try dsimp only at H
          cases x22
          · rw [cond_false] at H
            refine cwp_false (by kernel_rfl) ?_
            refine cwp_seq ?_
            refine cwp_region ?_
            refine lwp_run 1 (by kernel_rfl) ?_
            have hs47 := (r4.toSl).isSome (by decide) c8
            refine lwp_op (by kernel_rfl) (owp_pure (elemPtr a1 ((0 : Int).toNat * 1)) (pr_indexElem (e := 5) (r4.toSl) (k := .i64) (by kernel_rfl) (by kernel_rfl) (by kernel_rfl) (by kernel_rfl) (by decide) c8) ?_)
            obtain ⟨cs48, hs49, rp50⟩ := (r4.toSl).seg (by decide) c8
            obtain rfl := rep_int rp50
            refine lwp_op (by kernel_rfl) (owp_load (by kernel_rfl) (by kernel_rfl) (seg_cell (f := 0) hs49 rfl) ?_)
            by_cases c51 : (at_ x0 0) > 63
            · rw [if_pos c51] at H
              refine lwp_op (by kernel_rfl) (owp_pure ((.bool true)) (pr_bool (by kernel_rfl) (decide_eq_true c51)) ?_)
              refine lwp_nil ?_
              refine cwp_true (by kernel_rfl) ?_
              refine cwp_seq ?_
              refine cwp_region ?_
              refine lwp_run 3 (by kernel_rfl) ?_
              refine lwp_nil ?_
              refine cwp_ret ?_
              obtain rfl := Option.some.inj H
              show Exists _
              exact ⟨.tuple #[.int .i64 0, .int .i64 3, .int .i64 0], by kernel_rfl, (), rfl, rfl⟩
            · rw [if_neg c51] at H
              refine lwp_op (by kernel_rfl) (owp_pure ((.bool false)) (pr_bool (by kernel_rfl) (decide_eq_false c51)) ?_)
              refine lwp_nil ?_
              refine cwp_false (by kernel_rfl) ?_
              refine cwp_skip ?_
              refine cwp_seq ?_
              refine cwp_seq ?_
              refine cwp_region ?_
              refine lwp_run 2 (by kernel_rfl) ?_
              by_cases c52 : (w64 ((w64 (256 * (w64 ((at_ x0 0))))) + (w64 ((at_ x0 1))))) ≥ x1
              · rw [if_pos c52] at H
                refine lwp_op (by kernel_rfl) (owp_pure ((.bool true)) (pr_bool (by kernel_rfl) (decide_eq_true c52)) ?_)
                refine lwp_nil ?_
                refine cwp_true (by kernel_rfl) ?_
                refine cwp_seq ?_
                refine cwp_region ?_
                refine lwp_run 3 (by kernel_rfl) ?_
                refine lwp_nil ?_
                refine cwp_ret ?_
                obtain rfl := Option.some.inj H
                show Exists _
                exact ⟨.tuple #[.int .i64 0, .int .i64 4, .int .i64 (-1)], by kernel_rfl, (), rfl, rfl⟩
              · rw [if_neg c52] at H
                refine lwp_op (by kernel_rfl) (owp_pure ((.bool false)) (pr_bool (by kernel_rfl) (decide_eq_false c52)) ?_)
                refine lwp_nil ?_
                refine cwp_false (by kernel_rfl) ?_
                refine cwp_skip ?_
                refine cwp_seq ?_
                refine cwp_region ?_
                refine lwp_run 4 (by kernel_rfl) ?_
                refine lwp_nil ?_
                refine cwp_ret ?_
                obtain rfl := Option.some.inj H
                show Exists _
                exact ⟨.tuple #[.int .i64 (w64 ((w64 (256 * (w64 ((at_ x0 0))))) + (w64 ((at_ x0 1))))), .int .i64 0, .int .i64 (-1)], by kernel_rfl, (), rfl, rfl⟩
          · rw [cond_true] at H
            refine cwp_true (by kernel_rfl) ?_
            refine cwp_seq ?_
            refine cwp_region ?_
            refine lwp_run 1 (by kernel_rfl) ?_
            have hs24 := (r4.toSl).isSome (by decide) c8
            refine lwp_op (by kernel_rfl) (owp_pure (elemPtr a1 ((0 : Int).toNat * 1)) (pr_indexElem (e := 5) (r4.toSl) (k := .i64) (by kernel_rfl) (by kernel_rfl) (by kernel_rfl) (by kernel_rfl) (by decide) c8) ?_)
            obtain ⟨cs25, hs26, rp27⟩ := (r4.toSl).seg (by decide) c8
            obtain rfl := rep_int rp27
            refine lwp_op (by kernel_rfl) (owp_load (by kernel_rfl) (by kernel_rfl) (seg_cell (f := 0) hs26 rfl) ?_)
            obtain ⟨t28, m29, H⟩ := bind_some H
            refine lwp_op (by kernel_rfl) (owp_callF (by kernel_rfl) (shutterref03_Get.calls (I := I) hB m29) ?_)
            rintro v30 h31 ⟨_, rfl, rfl⟩
            refine lwp_run 1 (by kernel_rfl) ?_
            refine lwp_nil ?_
            refine cwp_seq ?_
            refine cwp_region ?_
            refine lwp_run 1 (by kernel_rfl) ?_
            have hs34 := (r4.toSl).isSome (by decide) c13
            refine lwp_op (by kernel_rfl) (owp_pure (elemPtr a1 ((1 : Int).toNat * 1)) (pr_indexElem (e := 5) (r4.toSl) (k := .i64) (by kernel_rfl) (by kernel_rfl) (by kernel_rfl) (by kernel_rfl) (by decide) c13) ?_)
            obtain ⟨cs35, hs36, rp37⟩ := (r4.toSl).seg (by decide) c13
            obtain rfl := rep_int rp37
            refine lwp_op (by kernel_rfl) (owp_load (by kernel_rfl) (by kernel_rfl) (seg_cell (f := 0) hs36 rfl) ?_)
            obtain ⟨t38, m39, H⟩ := bind_some H
            refine lwp_op (by kernel_rfl) (owp_callF (by kernel_rfl) (shutterref03_Get.calls (I := I) hB m39) ?_)
            rintro v40 h41 ⟨_, rfl, rfl⟩
            refine lwp_run 1 (by kernel_rfl) ?_
            refine lwp_nil ?_
            refine cwp_seq ?_
            refine cwp_seq ?_
            refine cwp_region ?_
            refine lwp_run 1 (by kernel_rfl) ?_
            by_cases c44 : t28 < 0
            · rw [if_pos c44] at H
              refine lwp_op (by kernel_rfl) (owp_pure ((.bool true)) (pr_bool (by kernel_rfl) (decide_eq_true c44)) ?_)
              refine lwp_nil ?_
              refine cwp_true (by kernel_rfl) ?_
              refine cwp_seq ?_
              refine cwp_region ?_
              refine lwp_run 3 (by kernel_rfl) ?_
              refine lwp_nil ?_
              refine cwp_ret ?_
              obtain rfl := Option.some.inj H
              show Exists _
              exact ⟨.tuple #[.int .i64 0, .int .i64 3, .int .i64 0], by kernel_rfl, (), rfl, rfl⟩
            · rw [if_neg c44] at H
              refine lwp_op (by kernel_rfl) (owp_pure ((.bool false)) (pr_bool (by kernel_rfl) (decide_eq_false c44)) ?_)
              refine lwp_nil ?_
              refine cwp_false (by kernel_rfl) ?_
              refine cwp_skip ?_
              refine cwp_seq ?_
              refine cwp_seq ?_
              refine cwp_region ?_
              refine lwp_run 1 (by kernel_rfl) ?_
              by_cases c45 : t38 < 0
              · rw [if_pos c45] at H
                refine lwp_op (by kernel_rfl) (owp_pure ((.bool true)) (pr_bool (by kernel_rfl) (decide_eq_true c45)) ?_)
                refine lwp_nil ?_
                refine cwp_true (by kernel_rfl) ?_
                refine cwp_seq ?_
                refine cwp_region ?_
                refine lwp_run 3 (by kernel_rfl) ?_
                refine lwp_nil ?_
                refine cwp_ret ?_
                obtain rfl := Option.some.inj H
                show Exists _
                exact ⟨.tuple #[.int .i64 0, .int .i64 3, .int .i64 1], by kernel_rfl, (), rfl, rfl⟩
              · rw [if_neg c45] at H
                refine lwp_op (by kernel_rfl) (owp_pure ((.bool false)) (pr_bool (by kernel_rfl) (decide_eq_false c45)) ?_)
                refine lwp_nil ?_
                refine cwp_false (by kernel_rfl) ?_
                refine cwp_skip ?_
                refine cwp_region ?_
                refine lwp_run 5 (by kernel_rfl) ?_
                refine lwp_nil ?_
                refine cwp_seq ?_
                refine cwp_seq ?_
                refine cwp_region ?_
                refine lwp_run 2 (by kernel_rfl) ?_
                by_cases c46 : (w64 ((w64 (64 * t28)) + t38)) ≥ x1
                · rw [if_pos c46] at H
                  refine lwp_op (by kernel_rfl) (owp_pure ((.bool true)) (pr_bool (by kernel_rfl) (decide_eq_true c46)) ?_)
                  refine lwp_nil ?_
                  refine cwp_true (by kernel_rfl) ?_
                  refine cwp_seq ?_
                  refine cwp_region ?_
                  refine lwp_run 3 (by kernel_rfl) ?_
                  refine lwp_nil ?_
                  refine cwp_ret ?_
                  obtain rfl := Option.some.inj H
                  show Exists _
                  exact ⟨.tuple #[.int .i64 0, .int .i64 4, .int .i64 (-1)], by kernel_rfl, (), rfl, rfl⟩
                · rw [if_neg c46] at H
                  refine lwp_op (by kernel_rfl) (owp_pure ((.bool false)) (pr_bool (by kernel_rfl) (decide_eq_false c46)) ?_)
                  refine lwp_nil ?_
                  refine cwp_false (by kernel_rfl) ?_
                  refine cwp_skip ?_
                  refine cwp_seq ?_
                  refine cwp_region ?_
                  refine lwp_run 4 (by kernel_rfl) ?_
                  refine lwp_nil ?_
                  refine cwp_ret ?_
                  obtain rfl := Option.some.inj H
                  show Exists _
                  exact ⟨.tuple #[.int .i64 (w64 ((w64 (64 * t28)) + t38)), .int .i64 0, .int .i64 (-1)], by kernel_rfl, (), rfl, rfl⟩

/-! shutter/shutterref05.Char -/
def shutterref05_Char.m (x0 : Int) : Option Bool :=
  (if x0 = 0 then (some true) else (if x0 = 28 then (some true) else (if x0 = 30 then (some true) else (if x0 ≥ 64 then (some (decide (x0 ≤ 254))) else (some false)))))

set_option maxRecDepth 100000 in
theorem shutterref05_Char.calls {I : Gh} {h : Heap} {x0 : Int} (_hB : Bd I h)  {r : Bool}
    (H : shutterref05_Char.m x0 = some r) :
    Ret Tryd.prog 101 #[.int .u8 x0] h (fun v h' => ∃ _ : Unit, .bool r = v ∧ h = h') := by
  unfold shutterref05_Char.m at H
  refine ret_of (args := [.int .u8 x0]) (rs := [.tmp 2]) (N := 21) Tryd.func101 rfl rfl rfl (Nat.le_of_ble_eq_true rfl) ?_
  refine cwp_seq ?_
  refine cwp_region ?_
  refine lwp_run 1 (by kernel_rfl) ?_
  refine lwp_nil ?_
  refine cwp_seq ?_
  refine cwp_region ?_
  refine lwp_run 1 (by kernel_rfl) ?_
  by_cases c1 : x0 = 0
  · rw [if_pos c1] at H
    refine lwp_op (by kernel_rfl) (owp_pure ((.bool true)) (pr_bool (by kernel_rfl) (eqT c1)) ?_)
    refine lwp_run 17 (by kernel_rfl) ?_
    refine lwp_nil ?_
    refine cwp_ret ?_
    obtain rfl := Option.some.inj H
    show Exists _
    exact ⟨.bool true, by kernel_rfl, (), rfl, rfl⟩
  · rw [if_neg c1] at H
    refine lwp_op (by kernel_rfl) (owp_pure ((.bool false)) (pr_bool (by kernel_rfl) (eqF c1)) ?_)
    refine lwp_run 2 (by kernel_rfl) ?_
    by_cases c2 : x0 = 28
    · rw [if_pos c2] at H
      refine lwp_op (by kernel_rfl) (owp_pure ((.bool true)) (pr_bool (by kernel_rfl) (eqT c2)) ?_)
      refine lwp_run 14 (by kernel_rfl) ?_
      refine lwp_nil ?_
      refine cwp_ret ?_
      obtain rfl := Option.some.inj H
      show Exists _
      exact ⟨.bool true, by kernel_rfl, (), rfl, rfl⟩
    · rw [if_neg c2] at H
      refine lwp_op (by kernel_rfl) (owp_pure ((.bool false)) (pr_bool (by kernel_rfl) (eqF c2)) ?_)
      refine lwp_run 3 (by kernel_rfl) ?_
      by_cases c3 : x0 = 30
      · rw [if_pos c3] at H
        refine lwp_op (by kernel_rfl) (owp_pure ((.bool true)) (pr_bool (by kernel_rfl) (eqT c3)) ?_)
        refine lwp_run 10 (by kernel_rfl) ?_
        refine lwp_nil ?_
        refine cwp_ret ?_
        obtain rfl := Option.some.inj H
        show Exists _
        exact ⟨.bool true, by kernel_rfl, (), rfl, rfl⟩
      · rw [if_neg c3] at H
        refine lwp_op (by kernel_rfl) (owp_pure ((.bool false)) (pr_bool (by kernel_rfl) (eqF c3)) ?_)
        refine lwp_run 3 (by kernel_rfl) ?_
        by_cases c4 : x0 ≥ 64
        · rw [if_pos c4] at H
          refine lwp_op (by kernel_rfl) (owp_pure ((.bool true)) (pr_bool (by kernel_rfl) (decide_eq_true c4)) ?_)
          refine lwp_run 6 (by kernel_rfl) ?_
          refine lwp_nil ?_
          refine cwp_ret ?_
          obtain rfl := Option.some.inj H
          show Exists _
          exact ⟨.bool (decide (x0 ≤ 254)), by kernel_rfl, (), rfl, rfl⟩
        · rw [if_neg c4] at H
          refine lwp_op (by kernel_rfl) (owp_pure ((.bool false)) (pr_bool (by kernel_rfl) (decide_eq_false c4)) ?_)
          refine lwp_run 6 (by kernel_rfl) ?_
          refine lwp_nil ?_
          refine cwp_ret ?_
          obtain rfl := Option.some.inj H
          show Exists _
          exact ⟨.bool false, by kernel_rfl, (), rfl, rfl⟩

/-! shutter/shutterref09.Letter -/
def shutterref09_Letter.m (x0 : Int) : Option Bool :=
  (if x0 = 0 then (some false) else ((shutterref05_Char.m x0).bind fun t2 => (some t2)))

set_option maxRecDepth 100000 in
theorem shutterref09_Letter.calls {I : Gh} {h : Heap} {x0 : Int} (hB : Bd I h)  {r : Bool}
    (H : shutterref09_Letter.m x0 = some r) :
    Ret Tryd.prog 71 #[.int .u8 x0] h (fun v h' => ∃ _ : Unit, .bool r = v ∧ h = h') := by
  unfold shutterref09_Letter.m at H
  refine ret_of (args := [.int .u8 x0]) (rs := [.tmp 2]) (N := 9) Tryd.func71 rfl rfl rfl (Nat.le_of_ble_eq_true rfl) ?_
  refine cwp_seq ?_
  refine cwp_region ?_
  refine lwp_run 1 (by kernel_rfl) ?_
  refine lwp_nil ?_
  refine cwp_seq ?_
  refine cwp_region ?_
  refine lwp_run 1 (by kernel_rfl) ?_
  by_cases c1 : x0 = 0
  · rw [if_pos c1] at H
    refine lwp_op (by kernel_rfl) (owp_pure ((.bool false)) (pr_bool (by kernel_rfl) (neF c1)) ?_)
    refine lwp_run 5 (by kernel_rfl) ?_
    refine lwp_nil ?_
    refine cwp_ret ?_
    obtain rfl := Option.some.inj H
    show Exists _
    exact ⟨.bool false, by kernel_rfl, (), rfl, rfl⟩
  · rw [if_neg c1] at H
    refine lwp_op (by kernel_rfl) (owp_pure ((.bool true)) (pr_bool (by kernel_rfl) (neT c1)) ?_)
    refine lwp_run 2 (by kernel_rfl) ?_
    obtain ⟨t2, m3, H⟩ := bind_some H
    refine lwp_op (by kernel_rfl) (owp_callF (by kernel_rfl) (shutterref05_Char.calls (I := I) hB m3) ?_)
    rintro v4 h5 ⟨_, rfl, rfl⟩
    refine lwp_run 2 (by kernel_rfl) ?_
    refine lwp_nil ?_
    refine cwp_ret ?_
    obtain rfl := Option.some.inj H
    show Exists _
    exact ⟨.bool t2, by kernel_rfl, (), rfl, rfl⟩

/-! shutter/shutterref09.letters -/
def shutterref09_letters.l1.m (K : Nat) (x0 : (List Int)) (x1 : Int) : Nat → Int → Option (Int)
  | 0, _ => none
  | k + 1, x8 => (if (w64 (x1 + x8)) < (x0.length : Int) then (if 0 ≤ (w64 (x1 + x8)) then ((shutterref09_Letter.m (at_ x0 (w64 (x1 + x8)))).bind fun t23 => bif t23 then (shutterref09_letters.l1.m K x0 x1 k (w64 (x8 + 1))) else (some (x8))) else none) else (some (x8)))
def shutterref09_letters.m (K : Nat) (x0 : (List Int)) (x1 : Int) : Option Int :=
  ((shutterref09_letters.l1.m K x0 x1 K 0).bind fun x14 => (some x14))

set_option maxRecDepth 100000 in
theorem shutterref09_letters.calls {I : Gh} {h : Heap} {K : Nat} {x0 : List Int} {a1 : Option Addr} {c2 : Nat} {x1 : Int} (hB : Bd I h) (r4 : Rd (tInt .u8) I h a1 c2 x0) {r : Int}
    (H : shutterref09_letters.m K x0 x1 = some r) :
    Ret Tryd.prog 62 #[.slice a1 x0.length c2, .int .i64 x1] h (fun v h' => ∃ _ : Unit, .int .i64 r = v ∧ h = h') := by
  unfold shutterref09_letters.m at H
  refine ret_of (args := [.slice a1 x0.length c2, .int .i64 x1]) (rs := [.tmp 4]) (N := 24) Tryd.func62 rfl rfl rfl (Nat.le_of_ble_eq_true rfl) ?_
  refine cwp_seq ?_
  refine cwp_region ?_
  refine lwp_run 1 (by kernel_rfl) ?_
  refine lwp_nil ?_
  refine cwp_seq ?_
  refine cwp_region ?_
  refine lwp_run 1 (by kernel_rfl) ?_
  refine lwp_nil ?_
  refine cwp_seq ?_
  refine cwp_block ?_
  obtain ⟨s10, m15, HR16⟩ := bind_some H
  refine cwp_loopE 0 (fun ρ' h11 => ∃ (x14 : Int) (_ : Unit), x14 = s10 ∧ Fits [(5, .int .i64 x14)] ρ' ∧ h = h11) ?_ ?_
  · refine cwp_loop (fun k' ρ' h5 => ∃ (x8 : Int) (_ : Unit), shutterref09_letters.l1.m K x0 x1 k' x8 = some s10 ∧ Fits [(0, .slice a1 x0.length c2), (1, .int .i64 x1), (5, .int .i64 x8)] ρ' ∧ h = h5) K ⟨0, (), m15, ⟨by kernel_rfl, by kernel_rfl, by kernel_rfl, trivial⟩, rfl⟩ ?_
    clear m15
    rintro k' ρ' h5 ⟨x8, _, H, hf, rfl⟩
    cases k' with
    | zero => cases H
    | succ k =>
      rw [shutterref09_letters.l1.m] at H
      refine cwp_fits _ hf ?_
      refine cwp_seq ?_
      refine cwp_seq ?_
      refine cwp_region ?_
      refine lwp_run 5 (by kernel_rfl) ?_
      by_cases c17 : (w64 (x1 + x8)) < (x0.length : Int)
      · rw [if_pos c17] at H
        refine lwp_op (by kernel_rfl) (owp_pure ((.bool true)) (pr_bool (by kernel_rfl) (decide_eq_true c17)) ?_)
        obtain ⟨c18, H⟩ := guard_pos H
        refine lwp_run 5 (by kernel_rfl) ?_
        have hs19 := (r4.toSl).isSome c18 c17
        refine lwp_op (by kernel_rfl) (owp_pure (elemPtr a1 ((w64 (x1 + x8)).toNat * 1)) (pr_indexElem (e := 5) (r4.toSl) (k := .i64) (by kernel_rfl) (by kernel_rfl) (by kernel_rfl) (by kernel_rfl) c18 c17) ?_)
        obtain ⟨cs20, hs21, rp22⟩ := (r4.toSl).seg c18 c17
        obtain rfl := rep_int rp22
        refine lwp_op (by kernel_rfl) (owp_load (by kernel_rfl) (by kernel_rfl) (seg_cell (f := 0) hs21 rfl) ?_)
        obtain ⟨t23, m24, H⟩ := bind_some H
        refine lwp_op (by kernel_rfl) (owp_callF (by kernel_rfl) (shutterref09_Letter.calls (I := I) hB m24) ?_)
        rintro v25 h26 ⟨_, rfl, rfl⟩
        cases t23
        · rw [cond_false] at H
          refine lwp_run 1 (by kernel_rfl) ?_
          refine lwp_nil ?_
          refine cwp_false (by kernel_rfl) ?_
          refine cwp_exit ?_
          obtain rfl := Option.some.inj H
          show Exists _
          exact ⟨x8, (), rfl, ⟨by kernel_rfl, trivial⟩, rfl⟩
        · rw [cond_true] at H
          refine lwp_run 1 (by kernel_rfl) ?_
          refine lwp_nil ?_
          refine cwp_true (by kernel_rfl) ?_
          refine cwp_skip ?_
          refine cwp_block ?_
          refine cwp_region ?_
          refine lwp_run 3 (by kernel_rfl) ?_
          refine lwp_nil ?_
          show Exists _
          exact ⟨k, Nat.lt_succ_self _, (w64 (x8 + 1)), (), H, ⟨by kernel_rfl, by kernel_rfl, by kernel_rfl, trivial⟩, rfl⟩
      · rw [if_neg c17] at H
        refine lwp_op (by kernel_rfl) (owp_pure ((.bool false)) (pr_bool (by kernel_rfl) (decide_eq_false c17)) ?_)
        refine lwp_run 9 (by kernel_rfl) ?_
        refine lwp_nil ?_
        refine cwp_false (by kernel_rfl) ?_
        refine cwp_exit ?_
        obtain rfl := Option.some.inj H
        show Exists _
        exact ⟨x8, (), rfl, ⟨by kernel_rfl, trivial⟩, rfl⟩
  · rintro ρ' h11 ⟨x14, _, rfl, hf, rfl⟩
    have H := HR16
    try dsimp only at H
    refine cwp_fits _ hf ?_
    refine cwp_seq ?_
    refine cwp_region ?_
    refine lwp_run 2 (by kernel_rfl) ?_
    refine lwp_nil ?_
    refine cwp_ret ?_
    obtain rfl := Option.some.inj H
    show Exists _
    exact ⟨.int .i64 x14, by kernel_rfl, (), rfl, rfl⟩

end Go.Proofs.YtlomgckbmdjmhaaDoor.Sx
