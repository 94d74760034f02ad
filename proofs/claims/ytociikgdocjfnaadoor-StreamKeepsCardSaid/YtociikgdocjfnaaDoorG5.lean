/- Printed walks, part 5: each function's model, and that the code comes to it. -/
import Derived.Test.YtociikgdocjfnaaDoorProg
import Derived.Test.YtociikgdocjfnaaDoorSx9
import Derived.Test.YtociikgdocjfnaaDoorG4
namespace Go.Proofs.YtociikgdocjfnaaDoor.Sx
open Go

/-! shutter/shutterlaw07.OrderGets -/
def shutterlaw07_OrderGets.m (K : Nat) (x0 : (List Int)) (x1 : Int) (x2 : Int) : Option Bool :=
  ((shutterlaw07_awake.m K).bind fun t5 => bif t5 then (if (x0.length : Int) > 300 then ((shutterlaw07_awake.m K).bind fun t13 => (some t13)) else (if (w64 ((x0.length : Int) + 1)) ≠ 0 then ((bytes_New.m x0).bind fun t22 => ((bytes_Cursor_Take.m t22 (Int.tmod (w64 (x1)) (w64 ((x0.length : Int) + 1)))).bind fun t40 => ((shutterlaw07_size.m x2).bind fun t62 => ((order_Get.m K t40.2 t62).bind fun t68 => ((shutterlaw07_size.m x2).bind fun t106 => ((shutterref07_Get.m K x0 (Int.tmod (w64 (x1)) (w64 ((x0.length : Int) + 1))) t106).bind fun t117 => ((shutterref07_Same.m K t68.1 t117.1).bind fun t171 => bif t171 then ((bytes_Cursor_At.m t68.2).bind fun t197 => (if t197.1 = t117.2.1 then ((bytes_Cursor_Err.m t197.2).bind fun t213 => ((api_Code.m t213.1).bind fun t231 => (if t231 = t117.2.2.1 then ((bytes_Cursor_Err.m t213.2).bind fun t254 => ((api_Where.m t254.1).bind fun t272 => (some (t272 == t117.2.2.2)))) else (some false)))) else (some false))) else (some false)))))))) else none)) else ((shutterlaw07_awake.m K).bind fun t281 => (some t281)))

set_option maxRecDepth 100000 in
theorem shutterlaw07_OrderGets.calls {I : Gh} {h : Heap} {K : Nat} {x0 : List Int} {a1 : Option Addr} {c2 : Nat} {x1 : Int} {x2 : Int} (hB : Bd I h) (hG : Glob I h) (r4 : Rd (tInt .u8) I h a1 c2 x0) {r : Bool}
    (H : shutterlaw07_OrderGets.m K x0 x1 x2 = some r) :
    Ret Tryd.prog 4 #[.slice a1 x0.length c2, .int .u8 x1, .int .u16 x2] h (fun v h' => ∃ (I' : Gh), .bool r = v ∧ Pst No I h I' h') := by
  unfold shutterlaw07_OrderGets.m at H
  refine ret_of (args := [.slice a1 x0.length c2, .int .u8 x1, .int .u16 x2]) (rs := [.tmp 6]) (N := 72) Tryd.func4 rfl rfl rfl (Nat.le_of_ble_eq_true rfl) ?_
  have pt0 : Pst No I h I h := Pst.refl hB
  refine cwp_seq ?_
  refine cwp_region ?_
  refine lwp_run 1 (by kernel_rfl) ?_
  refine lwp_nil ?_
  refine cwp_seq ?_
  refine cwp_seq ?_
  refine cwp_region ?_
  obtain ⟨t5, m6, H⟩ := bind_some H
  refine lwp_op (by kernel_rfl) (owp_callF (by kernel_rfl) (shutterlaw07_awake.calls (I := I) hB m6) ?_)
  rintro v7 h8 ⟨I9, rfl, p10⟩
  have pt11 := pt0.no p10
  cases t5
  · rw [cond_false] at H
    refine lwp_run 6 (by kernel_rfl) ?_
    refine lwp_nil ?_
    refine cwp_true (by kernel_rfl) ?_
    refine cwp_seq ?_
    refine cwp_region ?_
    obtain ⟨t281, m282, H⟩ := bind_some H
    refine lwp_op (by kernel_rfl) (owp_callF (by kernel_rfl) (shutterlaw07_awake.calls (I := I9) p10.bd m282) ?_)
    rintro v283 h284 ⟨I285, rfl, p286⟩
    have pt287 := pt11.no p286
    refine lwp_run 1 (by kernel_rfl) ?_
    refine lwp_nil ?_
    refine cwp_ret ?_
    obtain rfl := Option.some.inj H
    show Exists _
    exact ⟨.bool t281, by kernel_rfl, I285, rfl, pt287⟩
  · rw [cond_true] at H
    refine lwp_run 4 (by kernel_rfl) ?_
    by_cases c12 : (x0.length : Int) > 300
    · rw [if_pos c12] at H
      refine lwp_op (by kernel_rfl) (owp_pure ((.bool true)) (pr_bool (by kernel_rfl) (decide_eq_true c12)) ?_)
      refine lwp_run 1 (by kernel_rfl) ?_
      refine lwp_nil ?_
      refine cwp_true (by kernel_rfl) ?_
      refine cwp_seq ?_
      refine cwp_region ?_
      obtain ⟨t13, m14, H⟩ := bind_some H
      refine lwp_op (by kernel_rfl) (owp_callF (by kernel_rfl) (shutterlaw07_awake.calls (I := I9) p10.bd m14) ?_)
      rintro v15 h16 ⟨I17, rfl, p18⟩
      have pt19 := pt11.no p18
      refine lwp_run 1 (by kernel_rfl) ?_
      refine lwp_nil ?_
      refine cwp_ret ?_
      obtain rfl := Option.some.inj H
      show Exists _
      exact ⟨.bool t13, by kernel_rfl, I17, rfl, pt19⟩
    · rw [if_neg c12] at H
      refine lwp_op (by kernel_rfl) (owp_pure ((.bool false)) (pr_bool (by kernel_rfl) (decide_eq_false c12)) ?_)
      refine lwp_run 1 (by kernel_rfl) ?_
      refine lwp_nil ?_
      refine cwp_false (by kernel_rfl) ?_
      refine cwp_skip ?_
      refine cwp_seq ?_
      refine cwp_region ?_
      obtain ⟨c20, H⟩ := guard_pos H
      refine lwp_run 5 (by kernel_rfl) ?_
      refine lwp_op (by kernel_rfl) (owp_pure ((.int .i64 (Int.tmod (w64 (x1)) (w64 ((x0.length : Int) + 1))))) (pr_rem (k := .i64) (a := (w64 (x1))) (b := (w64 ((x0.length : Int) + 1))) (by kernel_rfl) (by kernel_rfl) c20) ?_)
      refine lwp_run 1 (by kernel_rfl) ?_
      refine lwp_nil ?_
      refine cwp_seq ?_
      refine cwp_region ?_
      refine lwp_run 1 (by kernel_rfl) ?_
      have f21 := r4.up (p10.up hB (fun _ x => x.elim))
      obtain ⟨t22, m23, H⟩ := bind_some H
      refine lwp_op (by kernel_rfl) (owp_callF (by kernel_rfl) (bytes_New.calls (I := I9) (B := I9) p10.bd p10.bd (Rd.mono (I' := Or2 I9 I9) f21 (fun _ x => Or.inr x)) m23) ?_)
      rintro v24 h25 ⟨I26, b28, a29, c30, v33, rfl, p27, r32, q35, o36, fr37⟩
      have pt38 := pt11.no p27
      have fr39 := nw1_step (M := No) (n := h.size) fr37 (fun _ x => x.elim) pt11.size
      refine lwp_run 1 (by kernel_rfl) ?_
      refine lwp_nil ?_
      refine cwp_seq ?_
      refine cwp_seq ?_
      refine cwp_region ?_
      refine lwp_run 2 (by kernel_rfl) ?_
      refine lwp_nil ?_
      refine cwp_false (by kernel_rfl) ?_
      refine cwp_skip ?_
      refine cwp_seq ?_
      refine cwp_region ?_
      refine lwp_run 2 (by kernel_rfl) ?_
      obtain ⟨t40, m41, H⟩ := bind_some H
      refine lwp_op (by kernel_rfl) (owp_callF (by kernel_rfl) (bytes_Cursor_Take.calls (I := I26) p27.bd o36 r32 q35 m41) ?_)
      rintro v42 h43 ⟨I44, a46, c47, a51, c52, v55, rfl, p45, r49, fr50, r54, q57, o58, d59⟩
      have pt60 := pt38.own p45 (one_nw fr39)
      have fr61 := nw_step (M := No) (n := h.size) (one_nw fr39) fr50 pt38.size
      refine lwp_nil ?_
      refine cwp_seq ?_
      refine cwp_region ?_
      refine lwp_run 2 (by kernel_rfl) ?_
      obtain ⟨t62, m63, H⟩ := bind_some H
      refine lwp_op (by kernel_rfl) (owp_callF (by kernel_rfl) (shutterlaw07_size.calls (I := I44) p45.bd m63) ?_)
      rintro v64 h65 ⟨_, rfl, rfl⟩
      obtain ⟨t68, m69, H⟩ := bind_some H
      refine lwp_op (by kernel_rfl) (owp_callF (by kernel_rfl) (order_Get.calls (I := I44) p45.bd o58 r54 q57 m69) ?_)
      rintro v70 h71 ⟨I72, a74, c75, a79, c80, v83, rfl, p73, r77, fr78, r82, q85, o86, d87⟩
      have pt88 := pt60.own p73 (one_nw fr39)
      have fr89 := nw_step (M := No) (n := h.size) (one_nw fr39) fr78 pt60.size
      have d90 := step_sl fr78 r49.lt (dis_one d59)
      refine lwp_op (by kernel_rfl) (owp_alloc [.int .i64 0, .slice none 0 0, .bool false, .bool false, .int .i64 0, .bool false, .int .i64 0, .int .u8 0] (.agg #[.int .i64 0, .slice none 0 0, .bool false, .bool false, .int .i64 0, .bool false, .int .i64 0, .int .u8 0]) p73.bd (by kernel_rfl) (by kernel_rfl) ?_)
      intro b91 h92 hc93 p94 o95
      have pt96 := pt88.no p94
      have fr97 : No b91 ∨ h.size ≤ b91 := .inr (Nat.le_trans pt88.size hc93)
      have d98 := ne_new o86.lt hc93
      have f99 := r49.post p45.bd p73 (one_not o58.no) (dis_one d59)
      have d100 := notIn_new f99.lt hc93
      have d101 := notIn_new r77.lt hc93
      refine lwp_op (by kernel_rfl) (owp_storeN 0 [.int .i64 t68.1.Kind, .slice a74 t68.1.Text.length c75, .bool t68.1.Attr.Protected, .bool t68.1.Attr.Numeric, .int .i64 t68.1.Attr.Show, .bool t68.1.Attr.Modified, .int .i64 t68.1.Addr, .int .u8 t68.1.Char] p94.bd o95 (by kernel_rfl) (by kernel_rfl) (by simp [Value.oneCell']) (by kernel_rfl) (Nat.le_of_ble_eq_true rfl) ?_)
      intro h102 p103 o104
      have pt105 := pt96.own p103 (one_nw fr97)
      refine lwp_nil ?_
      refine cwp_seq ?_
      refine cwp_region ?_
      refine lwp_run 3 (by kernel_rfl) ?_
      obtain ⟨t106, m107, H⟩ := bind_some H
      refine lwp_op (by kernel_rfl) (owp_callF (by kernel_rfl) (shutterlaw07_size.calls (I := I72) p103.bd m107) ?_)
      rintro v108 h109 ⟨_, rfl, rfl⟩
      have f112 := f21.up (p27.up p10.bd (fun _ x => x.elim))
      have f113 := f112.up (p45.up p27.bd (one_not o36.no))
      have f114 := f113.up (p73.up p45.bd (one_not o58.no))
      have f115 := f114.up (p94.up p73.bd (fun _ x => x.elim))
      have f116 := f115.up (p103.up p94.bd (one_not o95.no))
      obtain ⟨t117, m118, H⟩ := bind_some H
      refine lwp_op (by kernel_rfl) (owp_callF (by kernel_rfl) (shutterref07_Get.calls (I := I72) p103.bd f116 m118) ?_)
      rintro v119 h120 ⟨I121, a123, c124, rfl, p122, r126, fr127⟩
      have pt128 := pt105.no p122
      have fr129 := nw_step (M := No) (n := h.size) (fun _ x => x.elim) fr127 pt105.size
      have f130 := o86.post p94 (fun x => x.elim)
      have f131 := f130.post p103 (fun e => d98 e.symm)
      have d132 := step_blk fr127 f131.lt (fun x => x.elim)
      have d133 := step_blk fr127 o104.lt (fun x => x.elim)
      have f134 := r49.post p45.bd p73 (one_not o58.no) (dis_one d59)
      have f135 := f134.post p73.bd p94 (fun _ x => x.elim) (fun _ _ x => x.elim)
      have f136 := f135.post p94.bd p103 (one_not o95.no) (dis_one d100)
      have d137 := step_sl fr127 f136.lt (fun _ _ x => x.elim)
      have f138 := r77.post p73.bd p94 (fun _ x => x.elim) (fun _ _ x => x.elim)
      have f139 := f138.post p94.bd p103 (one_not o95.no) (dis_one d101)
      have d140 := step_sl fr127 f139.lt (fun _ _ x => x.elim)
      refine lwp_run 5 (by kernel_rfl) ?_
      refine lwp_op (by kernel_rfl) (owp_alloc [.int .i64 0, .slice none 0 0, .bool false, .bool false, .int .i64 0, .bool false, .int .i64 0, .int .u8 0] (.agg #[.int .i64 0, .slice none 0 0, .bool false, .bool false, .int .i64 0, .bool false, .int .i64 0, .int .u8 0]) p122.bd (by kernel_rfl) (by kernel_rfl) ?_)
      intro b141 h142 hc143 p144 o145
      have pt146 := pt128.no p144
      have fr147 : No b141 ∨ h.size ≤ b141 := .inr (Nat.le_trans pt128.size hc143)
      have f148 := o86.post p94 (fun x => x.elim)
      have f149 := f148.post p103 (fun e => d98 e.symm)
      have f150 := f149.post p122 (fun x => x.elim)
      have d151 := ne_new f150.lt hc143
      have f152 := o104.post p122 (fun x => x.elim)
      have d153 := ne_new f152.lt hc143
      have f154 := f136.post p103.bd p122 (fun _ x => x.elim) (fun _ _ x => x.elim)
      have d155 := notIn_new f154.lt hc143
      have f156 := f139.post p103.bd p122 (fun _ x => x.elim) (fun _ _ x => x.elim)
      have d157 := notIn_new f156.lt hc143
      have d158 := notIn_new r126.lt hc143
      refine lwp_op (by kernel_rfl) (owp_storeN 0 [.int .i64 t117.1.Kind, .slice a123 t117.1.Text.length c124, .bool t117.1.Attr.Protected, .bool t117.1.Attr.Numeric, .int .i64 t117.1.Attr.Show, .bool t117.1.Attr.Modified, .int .i64 t117.1.Addr, .int .u8 t117.1.Char] p144.bd o145 (by kernel_rfl) (by kernel_rfl) (by simp [Value.oneCell']) (by kernel_rfl) (Nat.le_of_ble_eq_true rfl) ?_)
      intro h159 p160 o161
      have pt162 := pt146.own p160 (one_nw fr147)
      refine lwp_run 3 (by kernel_rfl) ?_
      refine lwp_nil ?_
      refine cwp_seq ?_
      refine cwp_region ?_
      have f163 := o104.post p122 (fun x => x.elim)
      have f164 := f163.post p144 (fun x => x.elim)
      have f165 := f164.post p160 (fun e => d153 e.symm)
      refine lwp_op (by kernel_rfl) (owp_loadN (by kernel_rfl) (by kernel_rfl) (by kernel_rfl) (f165.seg_ 0 8 (Nat.le_of_ble_eq_true rfl)) ?_)
      refine lwp_op (by kernel_rfl) (owp_loadN (by kernel_rfl) (by kernel_rfl) (by kernel_rfl) (o161.seg_ 0 8 (Nat.le_of_ble_eq_true rfl)) ?_)
      have f166 := f139.post p103.bd p122 (fun _ x => x.elim) (fun _ _ x => x.elim)
      have f167 := f166.post p122.bd p144 (fun _ x => x.elim) (fun _ _ x => x.elim)
      have f168 := f167.post p144.bd p160 (one_not o145.no) (dis_one d157)
      have f169 := r126.post p122.bd p144 (fun _ x => x.elim) (fun _ _ x => x.elim)
      have f170 := f169.post p144.bd p160 (one_not o145.no) (dis_one d158)
      obtain ⟨t171, m172, H⟩ := bind_some H
      refine lwp_op (by kernel_rfl) (owp_callF (by kernel_rfl) (shutterref07_Same.calls (I := (Fz (Fz I121 a74) a123)) (bd_fz f170 (bd_fz f168 p160.bd)) (Rd.mono (I' := (Fz (Fz I121 a74) a123)) f168.rd (fun _ x => (Or.inl x))) (Rd.mono (I' := (Fz (Fz I121 a74) a123)) f170.rd (fun _ x => (Or.elim x (fun x => (Or.inl (Or.inl x))) (fun x => (Or.inr x))))) m172) ?_)
      rintro v173 h174 ⟨I175, rfl, p176⟩
      have p177 := Pst.forget p176 p160.bd
      have pt178 := pt162.no p177
      cases t171
      · rw [cond_false] at H
        refine lwp_run 21 (by kernel_rfl) ?_
        refine lwp_nil ?_
        refine cwp_ret ?_
        obtain rfl := Option.some.inj H
        show Exists _
        exact ⟨.bool false, by kernel_rfl, I121, rfl, pt178⟩
      · rw [cond_true] at H
        refine lwp_run 2 (by kernel_rfl) ?_
        have f179 := o86.post p94 (fun x => x.elim)
        have f180 := f179.post p103 (fun e => d98 e.symm)
        have f181 := f180.post p122 (fun x => x.elim)
        have f182 := f181.post p144 (fun x => x.elim)
        have f183 := f182.post p160 (fun e => d151 e.symm)
        have f184 := f183.post p177 (fun x => x.elim)
        have f185 := r82.up (p94.up p73.bd (fun _ x => x.elim))
        have f186 := f185.up (p103.up p94.bd (one_not o95.no))
        have f187 := f186.up (p122.up p103.bd (fun _ x => x.elim))
        have f188 := f187.up (p144.up p122.bd (fun _ x => x.elim))
        have f189 := f188.up (p160.up p144.bd (one_not o145.no))
        have f190 := f189.up (p177.up p160.bd (fun _ x => x.elim))
        have f191 := ErrV.up (p94.up p73.bd (fun _ x => x.elim)) q85
        have f192 := ErrV.up (p103.up p94.bd (one_not o95.no)) f191
        have f193 := ErrV.up (p122.up p103.bd (fun _ x => x.elim)) f192
        have f194 := ErrV.up (p144.up p122.bd (fun _ x => x.elim)) f193
        have f195 := ErrV.up (p160.up p144.bd (one_not o145.no)) f194
        have f196 := ErrV.up (p177.up p160.bd (fun _ x => x.elim)) f195
        obtain ⟨t197, m198, H⟩ := bind_some H
        refine lwp_op (by kernel_rfl) (owp_callF (by kernel_rfl) (bytes_Cursor_At.calls (I := I121) p177.bd f184 f190 f196 m198) ?_)
        rintro v199 h200 ⟨I201, a203, c204, v207, rfl, p202, r206, q209, o210⟩
        have pt211 := pt178.own p202 (one_nw fr39)
        refine lwp_run 1 (by kernel_rfl) ?_
        by_cases c212 : t197.1 = t117.2.1
        · rw [if_pos c212] at H
          refine lwp_op (by kernel_rfl) (owp_pure ((.bool true)) (pr_bool (by kernel_rfl) (eqT c212)) ?_)
          refine lwp_run 3 (by kernel_rfl) ?_
          obtain ⟨t213, m214, H⟩ := bind_some H
          refine lwp_op (by kernel_rfl) (owp_callF (by kernel_rfl) (bytes_Cursor_Err.calls (I := I201) p202.bd o210 r206 q209 m214) ?_)
          rintro v215 h216 ⟨I217, v219, a222, c223, v226, rfl, p218, q221, r225, q228, o229⟩
          have pt230 := pt211.own p218 (one_nw fr39)
          obtain ⟨t231, m232, H⟩ := bind_some H
          have f233 := hG.up (p10.up hB (fun _ x => x.elim))
          have f234 := f233.up (p27.up p10.bd (fun _ x => x.elim))
          have f235 := f234.up (p45.up p27.bd (one_not o36.no))
          have f236 := f235.up (p73.up p45.bd (one_not o58.no))
          have f237 := f236.up (p94.up p73.bd (fun _ x => x.elim))
          have f238 := f237.up (p103.up p94.bd (one_not o95.no))
          have f239 := f238.up (p122.up p103.bd (fun _ x => x.elim))
          have f240 := f239.up (p144.up p122.bd (fun _ x => x.elim))
          have f241 := f240.up (p160.up p144.bd (one_not o145.no))
          have f242 := f241.up (p177.up p160.bd (fun _ x => x.elim))
          have f243 := f242.up (p202.up p177.bd (one_not f184.no))
          have f244 := f243.up (p218.up p202.bd (one_not o210.no))
          refine lwp_op (by kernel_rfl) (owp_callF (by kernel_rfl) (api_Code.calls (I := I217) p218.bd f244 q221 m232) ?_)
          rintro v245 h246 ⟨I247, rfl, p248⟩
          have pt249 := pt230.no p248
          refine lwp_run 1 (by kernel_rfl) ?_
          by_cases c250 : t231 = t117.2.2.1
          · rw [if_pos c250] at H
            refine lwp_op (by kernel_rfl) (owp_pure ((.bool true)) (pr_bool (by kernel_rfl) (eqT c250)) ?_)
            refine lwp_run 3 (by kernel_rfl) ?_
            have f251 := o229.post p248 (fun x => x.elim)
            have f252 := r225.up (p248.up p218.bd (fun _ x => x.elim))
            have f253 := ErrV.up (p248.up p218.bd (fun _ x => x.elim)) q228
            obtain ⟨t254, m255, H⟩ := bind_some H
            refine lwp_op (by kernel_rfl) (owp_callF (by kernel_rfl) (bytes_Cursor_Err.calls (I := I247) p248.bd f251 f252 f253 m255) ?_)
            rintro v256 h257 ⟨I258, v260, a263, c264, v267, rfl, p259, q262, r266, q269, o270⟩
            have pt271 := pt249.own p259 (one_nw fr39)
            obtain ⟨t272, m273, H⟩ := bind_some H
            have f274 := f244.up (p248.up p218.bd (fun _ x => x.elim))
            have f275 := f274.up (p259.up p248.bd (one_not f251.no))
            refine lwp_op (by kernel_rfl) (owp_callF (by kernel_rfl) (api_Where.calls (I := I258) p259.bd f275 q262 m273) ?_)
            rintro v276 h277 ⟨I278, rfl, p279⟩
            have pt280 := pt271.no p279
            refine lwp_run 4 (by kernel_rfl) ?_
            refine lwp_nil ?_
            refine cwp_ret ?_
            obtain rfl := Option.some.inj H
            show Exists _
            exact ⟨.bool (t272 == t117.2.2.2), by kernel_rfl, I278, rfl, pt280⟩
          · rw [if_neg c250] at H
            refine lwp_op (by kernel_rfl) (owp_pure ((.bool false)) (pr_bool (by kernel_rfl) (eqF c250)) ?_)
            refine lwp_run 9 (by kernel_rfl) ?_
            refine lwp_nil ?_
            refine cwp_ret ?_
            obtain rfl := Option.some.inj H
            show Exists _
            exact ⟨.bool false, by kernel_rfl, I247, rfl, pt249⟩
        · rw [if_neg c212] at H
          refine lwp_op (by kernel_rfl) (owp_pure ((.bool false)) (pr_bool (by kernel_rfl) (eqF c212)) ?_)
          refine lwp_run 16 (by kernel_rfl) ?_
          refine lwp_nil ?_
          refine cwp_ret ?_
          obtain rfl := Option.some.inj H
          show Exists _
          exact ⟨.bool false, by kernel_rfl, I201, rfl, pt211⟩

/-! slices.EqualFunc[[]shutter/api.Order,[]shutter/api.Order,shutter/api.Order,shutter/api.Order] -/
def slices_EqualFunc_api_Order__order_Same.l1.m (K : Nat) (x0 : (List api_Order)) (x1 : (List api_Order)) : Nat → Int → Option (Bool ⊕ (Unit))
  | 0, _ => none
  | k + 1, x15 => (letJ (α := Bool → Option (Bool ⊕ (Unit))) (fun (x29 : Bool) => (bif x29 then (if 0 ≤ x15 then (if x15 < (x0.length : Int) then (if x15 < (x1.length : Int) then ((order_Same.m K (⟨(at_ x0 x15).Kind, (at_ x0 x15).Text, ((at_ x0 x15).Attr), (at_ x0 x15).Addr, (at_ x0 x15).Char⟩ : api_Order) (⟨(at_ x1 x15).Kind, (at_ x1 x15).Text, ((at_ x1 x15).Attr), (at_ x1 x15).Addr, (at_ x1 x15).Char⟩ : api_Order)).bind fun t83 => bif t83 then (slices_EqualFunc_api_Order__order_Same.l1.m K x0 x1 k (w64 (x15 + 1))) else (some (Sum.inl false))) else none) else none) else none) else (some (Sum.inr ())))) fun (j30 : Bool → Option (Bool ⊕ (Unit))) => (if x15 < (x0.length : Int) then (j30 true) else (j30 false)))
def slices_EqualFunc_api_Order__order_Same.m (K : Nat) (x0 : (List api_Order)) (x1 : (List api_Order)) : Option Bool :=
  (if (x0.length : Int) = (x1.length : Int) then ((slices_EqualFunc_api_Order__order_Same.l1.m K x0 x1 K 0).bind fun s17 => match s17 with | .inl q => (some q) | .inr _ => (some true)) else (some false))

set_option maxRecDepth 100000 in
theorem slices_EqualFunc_api_Order__order_Same.calls {I : Gh} {h : Heap} {K : Nat} {x0 : List api_Order} {a1 : Option Addr} {c2 : Nat} {x1 : List api_Order} {a5 : Option Addr} {c6 : Nat} (hB : Bd I h) (r4 : Rd t_api_Order I h a1 c2 x0) (r8 : Rd t_api_Order I h a5 c6 x1) {r : Bool}
    (H : slices_EqualFunc_api_Order__order_Same.m K x0 x1 = some r) :
    Ret Tryd.prog 68 #[.slice a1 x0.length c2, .slice a5 x1.length c6, .func (.func 39) #[] #[]] h (fun v h' => ∃ (I' : Gh), .bool r = v ∧ Pst No I h I' h') := by
  unfold slices_EqualFunc_api_Order__order_Same.m at H
  refine ret_of (args := [.slice a1 x0.length c2, .slice a5 x1.length c6, .func (.func 39) #[] #[]]) (rs := [.tmp 6]) (N := 32) Tryd.func68 rfl rfl rfl (Nat.le_of_ble_eq_true rfl) ?_
  have pt0 : Pst No I h I h := Pst.refl hB
  refine cwp_seq ?_
  refine cwp_region ?_
  refine lwp_run 1 (by kernel_rfl) ?_
  refine lwp_nil ?_
  refine cwp_seq ?_
  refine cwp_seq ?_
  refine cwp_region ?_
  refine lwp_run 4 (by kernel_rfl) ?_
  by_cases c9 : (x0.length : Int) = (x1.length : Int)
  · rw [if_pos c9] at H
    refine lwp_op (by kernel_rfl) (owp_pure ((.bool false)) (pr_bool (by kernel_rfl) (neF c9)) ?_)
    refine lwp_nil ?_
    refine cwp_false (by kernel_rfl) ?_
    refine cwp_skip ?_
    refine cwp_seq ?_
    refine cwp_seq ?_
    refine cwp_region ?_
    refine lwp_run 3 (by kernel_rfl) ?_
    refine lwp_nil ?_
    refine cwp_block ?_
    obtain ⟨s17, m21, HR22⟩ := bind_some H
    refine cwp_loopE 0 (fun ρ' h18 => ∃ (I19 : Gh), Sum.inr () = s17 ∧ Fits [] ρ' ∧ Pst No I h I19 h18) ?_ ?_
    · refine cwp_loop (fun k' ρ' h10 => ∃ (x15 : Int) (I11 : Gh), slices_EqualFunc_api_Order__order_Same.l1.m K x0 x1 k' x15 = some s17 ∧ Fits [(1, .slice a5 x1.length c6), (2, .func (.func 39) #[] #[]), (15, .slice a1 x0.length c2), (16, .int .i64 (x0.length : Int)), (17, .int .i64 x15)] ρ' ∧ Pst No I h I11 h10 ∧ Rd t_api_Order I11 h10 a5 c6 x1 ∧ Rd t_api_Order I11 h10 a1 c2 x0) K ⟨0, I, m21, ⟨by kernel_rfl, by kernel_rfl, by kernel_rfl, by kernel_rfl, by kernel_rfl, trivial⟩, pt0, r8, r4⟩ ?_
      clear m21
      rintro k' ρ' h10 ⟨x15, I11, H, hf, pt12, r13, r14⟩
      cases k' with
      | zero => cases H
      | succ k =>
        rw [slices_EqualFunc_api_Order__order_Same.l1.m] at H
        refine cwp_fits _ hf ?_
        obtain ⟨j30, e90, H⟩ := letJ_some H
        refine cwp_join (fun ρ' h24 => ∃ (x29 : Bool) (I25 : Gh), j30 x29 = some s17 ∧ Fits [(1, .slice a5 x1.length c6), (2, .func (.func 39) #[] #[]), (15, .slice a1 x0.length c2), (16, .int .i64 (x0.length : Int)), (17, .int .i64 x15), (18, .bool x29)] ρ' ∧ Pst No I h I25 h24 ∧ Rd t_api_Order I25 h24 a5 c6 x1 ∧ Rd t_api_Order I25 h24 a1 c2 x0) ?_ ?_
        · refine cwp_region ?_
          by_cases c23 : x15 < (x0.length : Int)
          · rw [if_pos c23] at H
            refine lwp_op (by kernel_rfl) (owp_pure ((.bool true)) (pr_bool (by kernel_rfl) (decide_eq_true c23)) ?_)
            refine lwp_nil ?_
            exact ⟨true, I11, H, ⟨by kernel_rfl, by kernel_rfl, by kernel_rfl, by kernel_rfl, by kernel_rfl, by kernel_rfl, trivial⟩, pt12, r13, r14⟩
          · rw [if_neg c23] at H
            refine lwp_op (by kernel_rfl) (owp_pure ((.bool false)) (pr_bool (by kernel_rfl) (decide_eq_false c23)) ?_)
            refine lwp_nil ?_
            exact ⟨false, I11, H, ⟨by kernel_rfl, by kernel_rfl, by kernel_rfl, by kernel_rfl, by kernel_rfl, by kernel_rfl, trivial⟩, pt12, r13, r14⟩
        · clear H
          rintro ρ' h24 ⟨x29, I25, H, hf, pt26, r27, r28⟩
          refine cwp_fits _ hf ?_
          subst e90
          try dsimp only at H
          refine cwp_seq ?_
          cases x29
          · rw [cond_false] at H
            refine cwp_false (by kernel_rfl) ?_
            refine cwp_exit ?_
            obtain rfl := Option.some.inj H
            show Exists _
            exact ⟨I25, rfl, trivial, pt26⟩
          · rw [cond_true] at H
            refine cwp_true (by kernel_rfl) ?_
            refine cwp_skip ?_
            refine cwp_seq ?_
            refine cwp_block ?_
            refine cwp_seq ?_
            refine cwp_region ?_
            obtain ⟨c31, H⟩ := guard_pos H
            obtain ⟨c32, H⟩ := guard_pos H
            refine lwp_run 1 (by kernel_rfl) ?_
            have hs33 := (r28.toSl).isSome c31 c32
            refine lwp_op (by kernel_rfl) (owp_pure (elemPtr a1 (x15.toNat * 8)) (pr_indexElem (e := 26) (r28.toSl) (k := .i64) (by kernel_rfl) (by kernel_rfl) (by kernel_rfl) (by kernel_rfl) c31 c32) ?_)
            obtain ⟨cs34, hs35, rp36⟩ := (r28.toSl).seg c31 c32
            obtain ⟨a37, c38, rfl, r40⟩ := t_api_Order.open_ rp36
            refine lwp_op (by kernel_rfl) (owp_loadN (by kernel_rfl) (by kernel_rfl) (by kernel_rfl) hs35 ?_)
            refine lwp_op (by kernel_rfl) (owp_alloc [.int .i64 0, .slice none 0 0, .bool false, .bool false, .int .i64 0, .bool false, .int .i64 0, .int .u8 0] (.agg #[.int .i64 0, .slice none 0 0, .bool false, .bool false, .int .i64 0, .bool false, .int .i64 0, .int .u8 0]) pt26.bd (by kernel_rfl) (by kernel_rfl) ?_)
            intro b41 h42 hc43 p44 o45
            have pt46 := pt26.no p44
            have fr47 : No b41 ∨ h.size ≤ b41 := .inr (Nat.le_trans pt26.size hc43)
            refine lwp_run 1 (by kernel_rfl) ?_
            refine lwp_op (by kernel_rfl) (owp_storeN 0 [.int .i64 ((at_ x0 x15).Kind), .slice a37 (((at_ x0 x15).Text).length) c38, .bool (((at_ x0 x15).Attr).Protected), .bool (((at_ x0 x15).Attr).Numeric), .int .i64 (((at_ x0 x15).Attr).Show), .bool (((at_ x0 x15).Attr).Modified), .int .i64 ((at_ x0 x15).Addr), .int .u8 ((at_ x0 x15).Char)] p44.bd o45 (by kernel_rfl) (by kernel_rfl) (by simp [Value.oneCell']) (by kernel_rfl) (Nat.le_of_ble_eq_true rfl) ?_)
            intro h48 p49 o50
            have pt51 := pt46.own p49 (one_nw fr47)
            refine lwp_nil ?_
            refine cwp_seq ?_
            refine cwp_region ?_
            obtain ⟨c52, H⟩ := guard_pos H
            refine lwp_run 2 (by kernel_rfl) ?_
            have f53 := r27.up (p44.up pt26.bd (fun _ x => x.elim))
            have f54 := f53.up (p49.up p44.bd (one_not o45.no))
            have hs55 := (f54.toSl).isSome c31 c52
            refine lwp_op (by kernel_rfl) (owp_pure (elemPtr a5 (x15.toNat * 8)) (pr_indexElem (e := 26) (f54.toSl) (k := .i64) (by kernel_rfl) (by kernel_rfl) (by kernel_rfl) (by kernel_rfl) c31 c52) ?_)
            obtain ⟨cs56, hs57, rp58⟩ := (f54.toSl).seg c31 c52
            obtain ⟨a59, c60, rfl, r62⟩ := t_api_Order.open_ rp58
            refine lwp_op (by kernel_rfl) (owp_loadN (by kernel_rfl) (by kernel_rfl) (by kernel_rfl) hs57 ?_)
            refine lwp_op (by kernel_rfl) (owp_alloc [.int .i64 0, .slice none 0 0, .bool false, .bool false, .int .i64 0, .bool false, .int .i64 0, .int .u8 0] (.agg #[.int .i64 0, .slice none 0 0, .bool false, .bool false, .int .i64 0, .bool false, .int .i64 0, .int .u8 0]) p49.bd (by kernel_rfl) (by kernel_rfl) ?_)
            intro b63 h64 hc65 p66 o67
            have pt68 := pt51.no p66
            have fr69 : No b63 ∨ h.size ≤ b63 := .inr (Nat.le_trans pt51.size hc65)
            have d70 := ne_new o50.lt hc65
            refine lwp_op (by kernel_rfl) (owp_storeN 0 [.int .i64 ((at_ x1 x15).Kind), .slice a59 (((at_ x1 x15).Text).length) c60, .bool (((at_ x1 x15).Attr).Protected), .bool (((at_ x1 x15).Attr).Numeric), .int .i64 (((at_ x1 x15).Attr).Show), .bool (((at_ x1 x15).Attr).Modified), .int .i64 ((at_ x1 x15).Addr), .int .u8 ((at_ x1 x15).Char)] p66.bd o67 (by kernel_rfl) (by kernel_rfl) (by simp [Value.oneCell']) (by kernel_rfl) (Nat.le_of_ble_eq_true rfl) ?_)
            intro h71 p72 o73
            have pt74 := pt68.own p72 (one_nw fr69)
            refine lwp_nil ?_
            refine cwp_seq ?_
            refine cwp_region ?_
            refine lwp_run 1 (by kernel_rfl) ?_
            have f75 := o50.post p66 (fun x => x.elim)
            have f76 := f75.post p72 (fun e => d70 e.symm)
            refine lwp_op (by kernel_rfl) (owp_loadN (by kernel_rfl) (by kernel_rfl) (by kernel_rfl) (f76.seg_ 0 8 (Nat.le_of_ble_eq_true rfl)) ?_)
            refine lwp_op (by kernel_rfl) (owp_loadN (by kernel_rfl) (by kernel_rfl) (by kernel_rfl) (o73.seg_ 0 8 (Nat.le_of_ble_eq_true rfl)) ?_)
            have f77 := r40.up (p44.up pt26.bd (fun _ x => x.elim))
            have f78 := f77.up (p49.up p44.bd (one_not o45.no))
            have f79 := f78.up (p66.up p49.bd (fun _ x => x.elim))
            have f80 := f79.up (p72.up p66.bd (one_not o67.no))
            have f81 := r62.up (p66.up p49.bd (fun _ x => x.elim))
            have f82 := f81.up (p72.up p66.bd (one_not o67.no))
            obtain ⟨t83, m84, H⟩ := bind_some H
            refine lwp_op (by kernel_rfl) (owp_callF (by kernel_rfl) (order_Same.calls (I := I25) p72.bd f80 f82 m84) ?_)
            rintro v85 h86 ⟨I87, rfl, p88⟩
            have pt89 := pt74.no p88
            cases t83
            · rw [cond_false] at H
              refine lwp_run 1 (by kernel_rfl) ?_
              refine lwp_nil ?_
              refine cwp_true (by kernel_rfl) ?_
              refine cwp_seq ?_
              refine cwp_region ?_
              refine lwp_run 1 (by kernel_rfl) ?_
              refine lwp_nil ?_
              refine cwp_ret ?_
              obtain rfl := Option.some.inj H
              obtain rfl := Option.some.inj HR22
              show Exists _
              exact ⟨.bool false, by kernel_rfl, I87, rfl, pt89⟩
            · rw [cond_true] at H
              refine lwp_run 1 (by kernel_rfl) ?_
              refine lwp_nil ?_
              refine cwp_false (by kernel_rfl) ?_
              refine cwp_skip ?_
              refine cwp_region ?_
              refine lwp_run 2 (by kernel_rfl) ?_
              refine lwp_nil ?_
              have f100001 := f54.up (p66.up p49.bd (fun _ x => x.elim))
              have f100002 := f100001.up (p72.up p66.bd (one_not o67.no))
              have f100003 := f100002.up (p88.up p72.bd (fun _ x => x.elim))
              have f100004 := r28.up (p44.up pt26.bd (fun _ x => x.elim))
              have f100005 := f100004.up (p49.up p44.bd (one_not o45.no))
              have f100006 := f100005.up (p66.up p49.bd (fun _ x => x.elim))
              have f100007 := f100006.up (p72.up p66.bd (one_not o67.no))
              have f100008 := f100007.up (p88.up p72.bd (fun _ x => x.elim))
              show Exists _
              exact ⟨k, Nat.lt_succ_self _, (w64 (x15 + 1)), I87, H, ⟨by kernel_rfl, by kernel_rfl, by kernel_rfl, by kernel_rfl, by kernel_rfl, trivial⟩, pt89, f100003, f100008⟩
    · rintro ρ' h18 ⟨I19, rfl, hf, pt20⟩
      have H := HR22
      try dsimp only at H
      refine cwp_fits _ hf ?_
      refine cwp_seq ?_
      refine cwp_region ?_
      refine lwp_run 1 (by kernel_rfl) ?_
      refine lwp_nil ?_
      refine cwp_ret ?_
      obtain rfl := Option.some.inj H
      show Exists _
      exact ⟨.bool true, by kernel_rfl, I19, rfl, pt20⟩
  · rw [if_neg c9] at H
    refine lwp_op (by kernel_rfl) (owp_pure ((.bool true)) (pr_bool (by kernel_rfl) (neT c9)) ?_)
    refine lwp_nil ?_
    refine cwp_true (by kernel_rfl) ?_
    refine cwp_seq ?_
    refine cwp_region ?_
    refine lwp_run 1 (by kernel_rfl) ?_
    refine lwp_nil ?_
    refine cwp_ret ?_
    obtain rfl := Option.some.inj H
    show Exists _
    exact ⟨.bool false, by kernel_rfl, I, rfl, pt0⟩

/-! shutter/stream.Same -/
def stream_Same.m (K : Nat) (x0 : api_Out) (x1 : api_Out) : Option Bool :=
  (if x0.Cmd = x1.Cmd then (bif ((x0.Wcc.Alarm == x1.Wcc.Alarm) && ((x0.Wcc.Unlock == x1.Wcc.Unlock) && ((x0.Wcc.Reset == x1.Wcc.Reset) && true))) then ((slices_EqualFunc_api_Order__order_Same.m K x0.Orders x1.Orders).bind fun t31 => (some t31)) else (some false)) else (some false))

set_option maxRecDepth 100000 in
theorem stream_Same.calls {I : Gh} {h : Heap} {K : Nat} {x0 : api_Out} {a1 : Option Addr} {c2 : Nat} {x1 : api_Out} {a5 : Option Addr} {c6 : Nat} (hB : Bd I h) (r4 : Rd t_api_Order I h a1 c2 x0.Orders) (r8 : Rd t_api_Order I h a5 c6 x1.Orders) {r : Bool}
    (H : stream_Same.m K x0 x1 = some r) :
    Ret Tryd.prog 32 #[.agg #[.int .i64 x0.Cmd, .bool x0.Wcc.Alarm, .bool x0.Wcc.Unlock, .bool x0.Wcc.Reset, .slice a1 x0.Orders.length c2], .agg #[.int .i64 x1.Cmd, .bool x1.Wcc.Alarm, .bool x1.Wcc.Unlock, .bool x1.Wcc.Reset, .slice a5 x1.Orders.length c6]] h (fun v h' => ∃ (I' : Gh), .bool r = v ∧ Pst No I h I' h') := by
  unfold stream_Same.m at H
  refine ret_of (args := [.agg #[.int .i64 x0.Cmd, .bool x0.Wcc.Alarm, .bool x0.Wcc.Unlock, .bool x0.Wcc.Reset, .slice a1 x0.Orders.length c2], .agg #[.int .i64 x1.Cmd, .bool x1.Wcc.Alarm, .bool x1.Wcc.Unlock, .bool x1.Wcc.Reset, .slice a5 x1.Orders.length c6]]) (rs := [.tmp 4]) (N := 24) Tryd.func32 rfl rfl rfl (Nat.le_of_ble_eq_true rfl) ?_
  have pt0 : Pst No I h I h := Pst.refl hB
  refine cwp_seq ?_
  refine cwp_region ?_
  refine lwp_op (by kernel_rfl) (owp_box [.int .i64 x0.Cmd, .bool x0.Wcc.Alarm, .bool x0.Wcc.Unlock, .bool x0.Wcc.Reset, .slice a1 x0.Orders.length c2] hB (by kernel_rfl) ?_)
  intro b9 h10 hc11 p12 o13
  have pt14 := pt0.no p12
  have fr15 : No b9 ∨ h.size ≤ b9 := .inr (Nat.le_trans pt0.size hc11)
  refine lwp_op (by kernel_rfl) (owp_box [.int .i64 x1.Cmd, .bool x1.Wcc.Alarm, .bool x1.Wcc.Unlock, .bool x1.Wcc.Reset, .slice a5 x1.Orders.length c6] p12.bd (by kernel_rfl) ?_)
  intro b16 h17 hc18 p19 o20
  have pt21 := pt14.no p19
  have fr22 : No b16 ∨ h.size ≤ b16 := .inr (Nat.le_trans pt14.size hc18)
  have d23 := ne_new o13.lt hc18
  refine lwp_run 1 (by kernel_rfl) ?_
  refine lwp_nil ?_
  refine cwp_seq ?_
  refine cwp_region ?_
  refine lwp_run 1 (by kernel_rfl) ?_
  have f24 := o13.post p19 (fun x => x.elim)
  refine lwp_op (by kernel_rfl) (owp_load (by kernel_rfl) (by kernel_rfl) (f24.cell (off := 0) rfl) ?_)
  refine lwp_run 1 (by kernel_rfl) ?_
  refine lwp_op (by kernel_rfl) (owp_load (by kernel_rfl) (by kernel_rfl) (o20.cell (off := 0) rfl) ?_)
  by_cases c25 : x0.Cmd = x1.Cmd
  · rw [if_pos c25] at H
    refine lwp_op (by kernel_rfl) (owp_pure ((.bool true)) (pr_bool (by kernel_rfl) (eqT c25)) ?_)
    refine lwp_run 2 (by kernel_rfl) ?_
    refine lwp_op (by kernel_rfl) (owp_loadN (by kernel_rfl) (by kernel_rfl) (by kernel_rfl) (f24.seg_ 1 3 (Nat.le_of_ble_eq_true rfl)) ?_)
    refine lwp_run 1 (by kernel_rfl) ?_
    refine lwp_op (by kernel_rfl) (owp_loadN (by kernel_rfl) (by kernel_rfl) (by kernel_rfl) (o20.seg_ 1 3 (Nat.le_of_ble_eq_true rfl)) ?_)
    rcases bool_or ((x0.Wcc.Alarm == x1.Wcc.Alarm) && ((x0.Wcc.Unlock == x1.Wcc.Unlock) && ((x0.Wcc.Reset == x1.Wcc.Reset) && true))) with c26 | c26
    · replace H := bif_f c26 H
      refine lwp_op (by kernel_rfl) (owp_run (.bool false) (run_bool (run_eqAgg (xs := #[.bool x0.Wcc.Alarm, .bool x0.Wcc.Unlock, .bool x0.Wcc.Reset]) (ys := #[.bool x1.Wcc.Alarm, .bool x1.Wcc.Unlock, .bool x1.Wcc.Reset]) (by kernel_rfl) (by kernel_rfl) (by kernel_rfl) (eqB_run (b := ((x0.Wcc.Alarm == x1.Wcc.Alarm) && ((x0.Wcc.Unlock == x1.Wcc.Unlock) && ((x0.Wcc.Reset == x1.Wcc.Reset) && true)))) (by kernel_rfl))) c26) ?_)
      refine lwp_run 9 (by kernel_rfl) ?_
      refine lwp_nil ?_
      refine cwp_ret ?_
      obtain rfl := Option.some.inj H
      show Exists _
      exact ⟨.bool false, by kernel_rfl, I, rfl, pt21⟩
    · replace H := bif_t c26 H
      refine lwp_op (by kernel_rfl) (owp_run (.bool true) (run_bool (run_eqAgg (xs := #[.bool x0.Wcc.Alarm, .bool x0.Wcc.Unlock, .bool x0.Wcc.Reset]) (ys := #[.bool x1.Wcc.Alarm, .bool x1.Wcc.Unlock, .bool x1.Wcc.Reset]) (by kernel_rfl) (by kernel_rfl) (by kernel_rfl) (eqB_run (b := ((x0.Wcc.Alarm == x1.Wcc.Alarm) && ((x0.Wcc.Unlock == x1.Wcc.Unlock) && ((x0.Wcc.Reset == x1.Wcc.Reset) && true)))) (by kernel_rfl))) c26) ?_)
      refine lwp_run 3 (by kernel_rfl) ?_
      refine lwp_op (by kernel_rfl) (owp_load (by kernel_rfl) (by kernel_rfl) (f24.cell (off := 4) rfl) ?_)
      refine lwp_run 1 (by kernel_rfl) ?_
      refine lwp_op (by kernel_rfl) (owp_load (by kernel_rfl) (by kernel_rfl) (o20.cell (off := 4) rfl) ?_)
      have f27 := r4.up (p12.up hB (fun _ x => x.elim))
      have f28 := f27.up (p19.up p12.bd (fun _ x => x.elim))
      have f29 := r8.up (p12.up hB (fun _ x => x.elim))
      have f30 := f29.up (p19.up p12.bd (fun _ x => x.elim))
      obtain ⟨t31, m32, H⟩ := bind_some H
      refine lwp_op (by kernel_rfl) (owp_callF (by kernel_rfl) (slices_EqualFunc_api_Order__order_Same.calls (I := I) p19.bd f28 f30 m32) ?_)
      rintro v33 h34 ⟨I35, rfl, p36⟩
      have pt37 := pt21.no p36
      refine lwp_run 2 (by kernel_rfl) ?_
      refine lwp_nil ?_
      refine cwp_ret ?_
      obtain rfl := Option.some.inj H
      show Exists _
      exact ⟨.bool t31, by kernel_rfl, I35, rfl, pt37⟩
  · rw [if_neg c25] at H
    refine lwp_op (by kernel_rfl) (owp_pure ((.bool false)) (pr_bool (by kernel_rfl) (eqF c25)) ?_)
    refine lwp_run 15 (by kernel_rfl) ?_
    refine lwp_nil ?_
    refine cwp_ret ?_
    obtain rfl := Option.some.inj H
    show Exists _
    exact ⟨.bool false, by kernel_rfl, I, rfl, pt21⟩

/-! shutter/shutterref08.Same -/
def shutterref08_Same.l1.m (K : Nat) (x0 : api_Out) (x1 : api_Out) : Nat → Int → Option (Bool ⊕ (Unit))
  | 0, _ => none
  | k + 1, x31 => (if x31 < (x0.Orders.length : Int) then (if 0 ≤ x31 then (if x31 < (x1.Orders.length : Int) then ((shutterref07_Same.m K (⟨(at_ x0.Orders x31).Kind, (at_ x0.Orders x31).Text, ((at_ x0.Orders x31).Attr), (at_ x0.Orders x31).Addr, (at_ x0.Orders x31).Char⟩ : api_Order) (⟨(at_ x1.Orders x31).Kind, (at_ x1.Orders x31).Text, ((at_ x1.Orders x31).Attr), (at_ x1.Orders x31).Addr, (at_ x1.Orders x31).Char⟩ : api_Order)).bind fun t66 => bif t66 then (shutterref08_Same.l1.m K x0 x1 k (w64 (x31 + 1))) else (some (Sum.inl false))) else none) else none) else (some (Sum.inr ())))
def shutterref08_Same.m (K : Nat) (x0 : api_Out) (x1 : api_Out) : Option Bool :=
  (if x0.Cmd = x1.Cmd then (bif ((x0.Wcc.Alarm == x1.Wcc.Alarm) && ((x0.Wcc.Unlock == x1.Wcc.Unlock) && ((x0.Wcc.Reset == x1.Wcc.Reset) && true))) then (if (x0.Orders.length : Int) = (x1.Orders.length : Int) then ((shutterref08_Same.l1.m K x0 x1 K 0).bind fun s37 => match s37 with | .inl q => (some q) | .inr _ => (some true)) else (some false)) else (some false)) else (some false))

set_option maxRecDepth 100000 in
theorem shutterref08_Same.calls {I : Gh} {h : Heap} {K : Nat} {x0 : api_Out} {a1 : Option Addr} {c2 : Nat} {x1 : api_Out} {a5 : Option Addr} {c6 : Nat} (hB : Bd I h) (r4 : Rd t_api_Order I h a1 c2 x0.Orders) (r8 : Rd t_api_Order I h a5 c6 x1.Orders) {r : Bool}
    (H : shutterref08_Same.m K x0 x1 = some r) :
    Ret Tryd.prog 33 #[.agg #[.int .i64 x0.Cmd, .bool x0.Wcc.Alarm, .bool x0.Wcc.Unlock, .bool x0.Wcc.Reset, .slice a1 x0.Orders.length c2], .agg #[.int .i64 x1.Cmd, .bool x1.Wcc.Alarm, .bool x1.Wcc.Unlock, .bool x1.Wcc.Reset, .slice a5 x1.Orders.length c6]] h (fun v h' => ∃ (I' : Gh), .bool r = v ∧ Pst No I h I' h') := by
  unfold shutterref08_Same.m at H
  refine ret_of (args := [.agg #[.int .i64 x0.Cmd, .bool x0.Wcc.Alarm, .bool x0.Wcc.Unlock, .bool x0.Wcc.Reset, .slice a1 x0.Orders.length c2], .agg #[.int .i64 x1.Cmd, .bool x1.Wcc.Alarm, .bool x1.Wcc.Unlock, .bool x1.Wcc.Reset, .slice a5 x1.Orders.length c6]]) (rs := [.tmp 4]) (N := 46) Tryd.func33 rfl rfl rfl (Nat.le_of_ble_eq_true rfl) ?_
  have pt0 : Pst No I h I h := Pst.refl hB
  refine cwp_seq ?_
  refine cwp_region ?_
  refine lwp_op (by kernel_rfl) (owp_box [.int .i64 x0.Cmd, .bool x0.Wcc.Alarm, .bool x0.Wcc.Unlock, .bool x0.Wcc.Reset, .slice a1 x0.Orders.length c2] hB (by kernel_rfl) ?_)
  intro b9 h10 hc11 p12 o13
  have pt14 := pt0.no p12
  have fr15 : No b9 ∨ h.size ≤ b9 := .inr (Nat.le_trans pt0.size hc11)
  refine lwp_op (by kernel_rfl) (owp_box [.int .i64 x1.Cmd, .bool x1.Wcc.Alarm, .bool x1.Wcc.Unlock, .bool x1.Wcc.Reset, .slice a5 x1.Orders.length c6] p12.bd (by kernel_rfl) ?_)
  intro b16 h17 hc18 p19 o20
  have pt21 := pt14.no p19
  have fr22 : No b16 ∨ h.size ≤ b16 := .inr (Nat.le_trans pt14.size hc18)
  have d23 := ne_new o13.lt hc18
  refine lwp_run 1 (by kernel_rfl) ?_
  refine lwp_nil ?_
  refine cwp_seq ?_
  refine cwp_seq ?_
  refine cwp_region ?_
  refine lwp_run 1 (by kernel_rfl) ?_
  have f24 := o13.post p19 (fun x => x.elim)
  refine lwp_op (by kernel_rfl) (owp_load (by kernel_rfl) (by kernel_rfl) (f24.cell (off := 0) rfl) ?_)
  refine lwp_run 1 (by kernel_rfl) ?_
  refine lwp_op (by kernel_rfl) (owp_load (by kernel_rfl) (by kernel_rfl) (o20.cell (off := 0) rfl) ?_)
  by_cases c25 : x0.Cmd = x1.Cmd
  · rw [if_pos c25] at H
    refine lwp_op (by kernel_rfl) (owp_pure ((.bool false)) (pr_bool (by kernel_rfl) (neF c25)) ?_)
    refine lwp_run 2 (by kernel_rfl) ?_
    refine lwp_op (by kernel_rfl) (owp_loadN (by kernel_rfl) (by kernel_rfl) (by kernel_rfl) (f24.seg_ 1 3 (Nat.le_of_ble_eq_true rfl)) ?_)
    refine lwp_run 1 (by kernel_rfl) ?_
    refine lwp_op (by kernel_rfl) (owp_loadN (by kernel_rfl) (by kernel_rfl) (by kernel_rfl) (o20.seg_ 1 3 (Nat.le_of_ble_eq_true rfl)) ?_)
    rcases bool_or ((x0.Wcc.Alarm == x1.Wcc.Alarm) && ((x0.Wcc.Unlock == x1.Wcc.Unlock) && ((x0.Wcc.Reset == x1.Wcc.Reset) && true))) with c26 | c26
    · replace H := bif_f c26 H
      refine lwp_op (by kernel_rfl) (owp_run (.bool true) (run_bool (run_neAgg (xs := #[.bool x0.Wcc.Alarm, .bool x0.Wcc.Unlock, .bool x0.Wcc.Reset]) (ys := #[.bool x1.Wcc.Alarm, .bool x1.Wcc.Unlock, .bool x1.Wcc.Reset]) (by kernel_rfl) (by kernel_rfl) (by kernel_rfl) (eqB_run (b := ((x0.Wcc.Alarm == x1.Wcc.Alarm) && ((x0.Wcc.Unlock == x1.Wcc.Unlock) && ((x0.Wcc.Reset == x1.Wcc.Reset) && true)))) (by kernel_rfl))) (notB c26)) ?_)
      refine lwp_run 10 (by kernel_rfl) ?_
      refine lwp_nil ?_
      refine cwp_true (by kernel_rfl) ?_
      refine cwp_seq ?_
      refine cwp_region ?_
      refine lwp_run 1 (by kernel_rfl) ?_
      refine lwp_nil ?_
      refine cwp_ret ?_
      obtain rfl := Option.some.inj H
      show Exists _
      exact ⟨.bool false, by kernel_rfl, I, rfl, pt21⟩
    · replace H := bif_t c26 H
      refine lwp_op (by kernel_rfl) (owp_run (.bool false) (run_bool (run_neAgg (xs := #[.bool x0.Wcc.Alarm, .bool x0.Wcc.Unlock, .bool x0.Wcc.Reset]) (ys := #[.bool x1.Wcc.Alarm, .bool x1.Wcc.Unlock, .bool x1.Wcc.Reset]) (by kernel_rfl) (by kernel_rfl) (by kernel_rfl) (eqB_run (b := ((x0.Wcc.Alarm == x1.Wcc.Alarm) && ((x0.Wcc.Unlock == x1.Wcc.Unlock) && ((x0.Wcc.Reset == x1.Wcc.Reset) && true)))) (by kernel_rfl))) (notB c26)) ?_)
      refine lwp_run 3 (by kernel_rfl) ?_
      refine lwp_op (by kernel_rfl) (owp_load (by kernel_rfl) (by kernel_rfl) (f24.cell (off := 4) rfl) ?_)
      refine lwp_run 2 (by kernel_rfl) ?_
      refine lwp_op (by kernel_rfl) (owp_load (by kernel_rfl) (by kernel_rfl) (o20.cell (off := 4) rfl) ?_)
      refine lwp_run 1 (by kernel_rfl) ?_
      by_cases c27 : (x0.Orders.length : Int) = (x1.Orders.length : Int)
      · rw [if_pos c27] at H
        refine lwp_op (by kernel_rfl) (owp_pure ((.bool false)) (pr_bool (by kernel_rfl) (neF c27)) ?_)
        refine lwp_run 1 (by kernel_rfl) ?_
        refine lwp_nil ?_
        refine cwp_false (by kernel_rfl) ?_
        refine cwp_skip ?_
        refine cwp_seq ?_
        refine cwp_seq ?_
        refine cwp_region ?_
        refine lwp_run 1 (by kernel_rfl) ?_
        refine lwp_nil ?_
        refine cwp_block ?_
        have f74 := r4.up (p12.up hB (fun _ x => x.elim))
        have f75 := f74.up (p19.up p12.bd (fun _ x => x.elim))
        have f76 := r8.up (p12.up hB (fun _ x => x.elim))
        have f77 := f76.up (p19.up p12.bd (fun _ x => x.elim))
        obtain ⟨s37, m45, HR46⟩ := bind_some H
        refine cwp_loopE 0 (fun ρ' h38 => ∃ (I39 : Gh), Sum.inr () = s37 ∧ Fits [] ρ' ∧ Pst No I h I39 h38 ∧ Rd t_api_Order I39 h38 a1 c2 x0.Orders ∧ OwnB I39 h38 b9 [.int .i64 x0.Cmd, .bool x0.Wcc.Alarm, .bool x0.Wcc.Unlock, .bool x0.Wcc.Reset, .slice a1 x0.Orders.length c2] 54 ∧ Rd t_api_Order I39 h38 a5 c6 x1.Orders ∧ OwnB I39 h38 b16 [.int .i64 x1.Cmd, .bool x1.Wcc.Alarm, .bool x1.Wcc.Unlock, .bool x1.Wcc.Reset, .slice a5 x1.Orders.length c6] 54) ?_ ?_
        · refine cwp_loop (fun k' ρ' h28 => ∃ (x31 : Int) (I29 : Gh), shutterref08_Same.l1.m K x0 x1 k' x31 = some s37 ∧ Fits [(2, .pointer (some ⟨b9, 0, none⟩)), (3, .pointer (some ⟨b16, 0, none⟩)), (5, .int .i64 x31)] ρ' ∧ Pst No I h I29 h28 ∧ Rd t_api_Order I29 h28 a1 c2 x0.Orders ∧ OwnB I29 h28 b9 [.int .i64 x0.Cmd, .bool x0.Wcc.Alarm, .bool x0.Wcc.Unlock, .bool x0.Wcc.Reset, .slice a1 x0.Orders.length c2] 54 ∧ Rd t_api_Order I29 h28 a5 c6 x1.Orders ∧ OwnB I29 h28 b16 [.int .i64 x1.Cmd, .bool x1.Wcc.Alarm, .bool x1.Wcc.Unlock, .bool x1.Wcc.Reset, .slice a5 x1.Orders.length c6] 54) K ⟨0, I, m45, ⟨by kernel_rfl, by kernel_rfl, by kernel_rfl, trivial⟩, pt21, f75, f24, f77, o20⟩ ?_
          clear m45
          rintro k' ρ' h28 ⟨x31, I29, H, hf, pt30, r32, o33, r34, o35⟩
          cases k' with
          | zero => cases H
          | succ k =>
            rw [shutterref08_Same.l1.m] at H
            refine cwp_fits _ hf ?_
            refine cwp_seq ?_
            refine cwp_seq ?_
            refine cwp_region ?_
            refine lwp_run 2 (by kernel_rfl) ?_
            refine lwp_op (by kernel_rfl) (owp_load (by kernel_rfl) (by kernel_rfl) (o33.cell (off := 4) rfl) ?_)
            refine lwp_run 1 (by kernel_rfl) ?_
            by_cases c47 : x31 < (x0.Orders.length : Int)
            · rw [if_pos c47] at H
              refine lwp_op (by kernel_rfl) (owp_pure ((.bool true)) (pr_bool (by kernel_rfl) (decide_eq_true c47)) ?_)
              refine lwp_nil ?_
              refine cwp_true (by kernel_rfl) ?_
              refine cwp_skip ?_
              refine cwp_seq ?_
              refine cwp_block ?_
              refine cwp_seq ?_
              refine cwp_regionD (Keep No h28) 12 (by kernel_rfl) ?_
              refine awp_run (fuel := 11) [0] Keep.refl (by kernel_rfl) ?_
              refine awp_load 1 rfl (by kernel_rfl) (by kernel_rfl) (by kernel_rfl) (by kernel_rfl) Keep.refl (o33.cell (off := 4) rfl) (fun _ _ x => x.elim) ?_
              obtain ⟨c48, H⟩ := guard_pos H
              refine awp_run (fuel := 9) [2] Keep.refl (by kernel_rfl) ?_
              have hs49 := (r32.toSl).isSome c48 c47
              refine awp_pure 3 (elemPtr a1 (x31.toNat * 8)) rfl (by kernel_rfl) (by kernel_rfl) (pr_indexElem (e := 26) (r32.toSl) (k := .i64) (by kernel_rfl) (by kernel_rfl) (by kernel_rfl) (by kernel_rfl) c48 c47) Keep.refl ?_
              obtain ⟨cs50, hs51, rp52⟩ := (r32.toSl).seg c48 c47
              obtain ⟨a53, c54, rfl, r56⟩ := t_api_Order.open_ rp52
              refine awp_loadN 4 rfl (by kernel_rfl) (by kernel_rfl) (by kernel_rfl) (by kernel_rfl) (by kernel_rfl) Keep.refl hs51 (fun _ _ x => x.elim) ?_
              refine awp_run (fuel := 6) [5] Keep.refl (by kernel_rfl) ?_
              refine awp_load 6 rfl (by kernel_rfl) (by kernel_rfl) (by kernel_rfl) (by kernel_rfl) Keep.refl (o35.cell (off := 4) rfl) (fun _ _ x => x.elim) ?_
              obtain ⟨c57, H⟩ := guard_pos H
              refine awp_run (fuel := 4) [7] Keep.refl (by kernel_rfl) ?_
              have hs58 := (r34.toSl).isSome c48 c57
              refine awp_pure 8 (elemPtr a5 (x31.toNat * 8)) rfl (by kernel_rfl) (by kernel_rfl) (pr_indexElem (e := 26) (r34.toSl) (k := .i64) (by kernel_rfl) (by kernel_rfl) (by kernel_rfl) (by kernel_rfl) c48 c57) Keep.refl ?_
              obtain ⟨cs59, hs60, rp61⟩ := (r34.toSl).seg c48 c57
              obtain ⟨a62, c63, rfl, r65⟩ := t_api_Order.open_ rp61
              refine awp_loadN 9 rfl (by kernel_rfl) (by kernel_rfl) (by kernel_rfl) (by kernel_rfl) (by kernel_rfl) Keep.refl hs60 (fun _ _ x => x.elim) ?_
              obtain ⟨t66, m67, H⟩ := bind_some H
              refine awp_op 10 (by kernel_rfl) rfl (by kernel_rfl) (owp_callF (by kernel_rfl) (shutterref07_Same.calls (I := I29) pt30.bd r56 r65 m67) ?_)
              rintro v68 h69 ⟨I70, rfl, p71⟩
              have pt72 := pt30.no p71
              have hK73 := Keep.post (M := No) Keep.refl (Nat.le_refl _) p71 (fun _ x => x.elim)
              refine ⟨hK73, ?_⟩
              cases t66
              · rw [cond_false] at H
                refine awp_run (fuel := 0) [11] hK73 (by kernel_rfl) ?_
                refine awp_nil (by kernel_rfl) ?_ 0
                refine cwp_true (by kernel_rfl) ?_
                refine cwp_seq ?_
                refine cwp_region ?_
                refine lwp_run 1 (by kernel_rfl) ?_
                refine lwp_nil ?_
                refine cwp_ret ?_
                obtain rfl := Option.some.inj H
                obtain rfl := Option.some.inj HR46
                show Exists _
                exact ⟨.bool false, by kernel_rfl, I70, rfl, pt72⟩
              · rw [cond_true] at H
                refine awp_run (fuel := 0) [11] hK73 (by kernel_rfl) ?_
                refine awp_nil (by kernel_rfl) ?_ 0
                refine cwp_false (by kernel_rfl) ?_
                refine cwp_skip ?_
                refine cwp_region ?_
                refine lwp_run 3 (by kernel_rfl) ?_
                refine lwp_nil ?_
                have f100001 := r32.up (p71.up pt30.bd (fun _ x => x.elim))
                have f100002 := o33.post p71 (fun x => x.elim)
                have f100003 := r34.up (p71.up pt30.bd (fun _ x => x.elim))
                have f100004 := o35.post p71 (fun x => x.elim)
                show Exists _
                exact ⟨k, Nat.lt_succ_self _, (w64 (x31 + 1)), I70, H, ⟨by kernel_rfl, by kernel_rfl, by kernel_rfl, trivial⟩, pt72, f100001, f100002, f100003, f100004⟩
            · rw [if_neg c47] at H
              refine lwp_op (by kernel_rfl) (owp_pure ((.bool false)) (pr_bool (by kernel_rfl) (decide_eq_false c47)) ?_)
              refine lwp_nil ?_
              refine cwp_false (by kernel_rfl) ?_
              refine cwp_exit ?_
              obtain rfl := Option.some.inj H
              show Exists _
              exact ⟨I29, rfl, trivial, pt30, r32, o33, r34, o35⟩
        · rintro ρ' h38 ⟨I39, rfl, hf, pt40, r41, o42, r43, o44⟩
          have H := HR46
          try dsimp only at H
          refine cwp_fits _ hf ?_
          refine cwp_seq ?_
          refine cwp_region ?_
          refine lwp_run 1 (by kernel_rfl) ?_
          refine lwp_nil ?_
          refine cwp_ret ?_
          obtain rfl := Option.some.inj H
          show Exists _
          exact ⟨.bool true, by kernel_rfl, I39, rfl, pt40⟩
      · rw [if_neg c27] at H
        refine lwp_op (by kernel_rfl) (owp_pure ((.bool true)) (pr_bool (by kernel_rfl) (neT c27)) ?_)
        refine lwp_run 1 (by kernel_rfl) ?_
        refine lwp_nil ?_
        refine cwp_true (by kernel_rfl) ?_
        refine cwp_seq ?_
        refine cwp_region ?_
        refine lwp_run 1 (by kernel_rfl) ?_
        refine lwp_nil ?_
        refine cwp_ret ?_
        obtain rfl := Option.some.inj H
        show Exists _
        exact ⟨.bool false, by kernel_rfl, I, rfl, pt21⟩
  · rw [if_neg c25] at H
    refine lwp_op (by kernel_rfl) (owp_pure ((.bool true)) (pr_bool (by kernel_rfl) (neT c25)) ?_)
    refine lwp_run 16 (by kernel_rfl) ?_
    refine lwp_nil ?_
    refine cwp_true (by kernel_rfl) ?_
    refine cwp_seq ?_
    refine cwp_region ?_
    refine lwp_run 1 (by kernel_rfl) ?_
    refine lwp_nil ?_
    refine cwp_ret ?_
    obtain rfl := Option.some.inj H
    show Exists _
    exact ⟨.bool false, by kernel_rfl, I, rfl, pt21⟩

/-! shutter/stream.Writes -/
def stream_Writes.m (x0 : Int) : Option Bool :=
  (if x0 = 241 then (some true) else (some (x0 == 245)))

set_option maxRecDepth 100000 in
theorem stream_Writes.calls {I : Gh} {h : Heap} {x0 : Int} (_hB : Bd I h)  {r : Bool}
    (H : stream_Writes.m x0 = some r) :
    Ret Tryd.prog 34 #[.int .i64 x0] h (fun v h' => ∃ _ : Unit, .bool r = v ∧ h = h') := by
  unfold stream_Writes.m at H
  refine ret_of (args := [.int .i64 x0]) (rs := [.tmp 2]) (N := 9) Tryd.func34 rfl rfl rfl (Nat.le_of_ble_eq_true rfl) ?_
  refine cwp_seq ?_
  refine cwp_region ?_
  refine lwp_run 1 (by kernel_rfl) ?_
  refine lwp_nil ?_
  refine cwp_seq ?_
  refine cwp_region ?_
  refine lwp_run 1 (by kernel_rfl) ?_
  by_cases c1 : x0 = 241
  · rw [if_pos c1] at H
    refine lwp_op (by kernel_rfl) (owp_pure ((.bool true)) (pr_bool (by kernel_rfl) (eqT c1)) ?_)
    refine lwp_run 5 (by kernel_rfl) ?_
    refine lwp_nil ?_
    refine cwp_ret ?_
    obtain rfl := Option.some.inj H
    show Exists _
    exact ⟨.bool true, by kernel_rfl, (), rfl, rfl⟩
  · rw [if_neg c1] at H
    refine lwp_op (by kernel_rfl) (owp_pure ((.bool false)) (pr_bool (by kernel_rfl) (eqF c1)) ?_)
    refine lwp_run 5 (by kernel_rfl) ?_
    refine lwp_nil ?_
    refine cwp_ret ?_
    obtain rfl := Option.some.inj H
    show Exists _
    exact ⟨.bool (x0 == 245), by kernel_rfl, (), rfl, rfl⟩

/-! shutter/stream.spot -/
def stream_spot.m (x0 : Int) (x1 : GoErr) : Option GoErr :=
  (some (GoErr.spot x0 x1))

set_option maxRecDepth 100000 in
theorem stream_spot.calls {I : Gh} {h : Heap} {x0 : Int} {x1 : GoErr} {v1 : Value} (hB : Bd I h) (q3 : ErrV I h x1 v1) {r : GoErr}
    (H : stream_spot.m x0 x1 = some r) :
    Ret Tryd.prog 66 #[.int .i64 x0, v1] h (fun v h' => ∃ (I' : Gh) (v19 : Value), v19 = v ∧ Pst No I h I' h' ∧ ErrV I' h' r v19) := by
  unfold stream_spot.m at H
  refine ret_of (args := [.int .i64 x0, v1]) (rs := [.tmp 4]) (N := 10) Tryd.func66 rfl rfl rfl (Nat.le_of_ble_eq_true rfl) ?_
  have pt0 : Pst No I h I h := Pst.refl hB
  refine cwp_seq ?_
  refine cwp_region ?_
  refine lwp_run 1 (by kernel_rfl) ?_
  refine lwp_nil ?_
  refine cwp_seq ?_
  refine cwp_region ?_
  refine lwp_run 2 (by kernel_rfl) ?_
  rcases q3.cases with ⟨c4, rfl⟩ | ⟨c4, t5, u6, rfl⟩
  · refine lwp_run 1 (by kernel_rfl) ?_
    refine lwp_op (by kernel_rfl) (owp_box [.int .i64 x0, .nilIface] hB (by kernel_rfl) ?_)
    intro b7 h8 hc9 p10 o11
    have pt12 := pt0.no p10
    have fr13 : No b7 ∨ h.size ≤ b7 := .inr (Nat.le_trans pt0.size hc9)
    have f14 := ErrV.up (p10.up hB (fun _ x => x.elim)) q3
    have pt15 := post_fzB o11 p10.bd pt12 fr13
    have bd16 := bd_fzB o11 p10.bd
    have q17 := mk_spot (a := x0) (e := x1) o11 f14
    refine lwp_run 2 (by kernel_rfl) ?_
    refine lwp_nil ?_
    refine cwp_ret ?_
    obtain rfl := Option.some.inj H
    show Exists _
    exact ⟨(.iface 102 (.pointer (some ⟨b7, 0, none⟩))), by kernel_rfl, (Fz I (some ⟨b7, 0, none⟩)), ((.iface 102 (.pointer (some ⟨b7, 0, none⟩)))), rfl, pt15, q17⟩
  · refine lwp_run 1 (by kernel_rfl) ?_
    refine lwp_op (by kernel_rfl) (owp_box [.int .i64 x0, (.iface t5 u6)] hB (by kernel_rfl) ?_)
    intro b7 h8 hc9 p10 o11
    have pt12 := pt0.no p10
    have fr13 : No b7 ∨ h.size ≤ b7 := .inr (Nat.le_trans pt0.size hc9)
    have f14 := ErrV.up (p10.up hB (fun _ x => x.elim)) q3
    have pt15 := post_fzB o11 p10.bd pt12 fr13
    have bd16 := bd_fzB o11 p10.bd
    have q17 := mk_spot (a := x0) (e := x1) o11 f14
    refine lwp_run 2 (by kernel_rfl) ?_
    refine lwp_nil ?_
    refine cwp_ret ?_
    obtain rfl := Option.some.inj H
    show Exists _
    exact ⟨(.iface 102 (.pointer (some ⟨b7, 0, none⟩))), by kernel_rfl, (Fz I (some ⟨b7, 0, none⟩)), ((.iface 102 (.pointer (some ⟨b7, 0, none⟩)))), rfl, pt15, q17⟩

/-! shutter/stream.orders -/
def stream_orders.l1.m (K : Nat) (x0 : (List api_Order)) (x1 : Int) : Nat → (List Int) → Int → Option (((List Int) × GoErr) ⊕ ((List Int)))
  | 0, _, _ => none
  | k + 1, x9, x15 => (letJ (α := Bool → Option (((List Int) × GoErr) ⊕ ((List Int)))) (fun (x35 : Bool) => (bif x35 then (if 0 ≤ x15 then (if x15 < (x0.length : Int) then ((order_Put.m K (⟨(at_ x0 x15).Kind, (at_ x0 x15).Text, ((at_ x0 x15).Attr), (at_ x0 x15).Addr, (at_ x0 x15).Char⟩ : api_Order) x1).bind fun t61 => (letJ (α := GoErr → Option (((List Int) × GoErr) ⊕ ((List Int)))) (fun (x107 : GoErr) => (if x107 = GoErr.nil then ((app x9 t61.1).bind fun l117 => (stream_orders.l1.m K x0 x1 k l117 (w64 (x15 + 1)))) else ((stream_spot.m x15 x107).bind fun t130 => (some (Sum.inl ([], t130)))))) fun (j113 : GoErr → Option (((List Int) × GoErr) ⊕ ((List Int)))) => (if t61.2 = GoErr.nil then (if x15 > 0 then (if (at_ x0 x15).Kind = 1 then (if 0 ≤ (w64 (x15 - 1)) then (if (w64 (x15 - 1)) < (x0.length : Int) then (if (at_ x0 (w64 (x15 - 1))).Kind = 1 then (j113 (GoErr.no 1)) else (j113 t61.2)) else none) else none) else (j113 t61.2)) else (j113 t61.2)) else (j113 t61.2)))) else none) else none) else (some (Sum.inr x9)))) fun (j36 : Bool → Option (((List Int) × GoErr) ⊕ ((List Int)))) => (if x15 < (x0.length : Int) then (j36 true) else (j36 false)))
def stream_orders.m (K : Nat) (x0 : (List api_Order)) (x1 : Int) : Option ((List Int) × GoErr) :=
  ((stream_orders.l1.m K x0 x1 K [] 0).bind fun s17 => match s17 with | .inl q => (some q) | .inr x21 => (some (x21, GoErr.nil)))

set_option maxRecDepth 100000 in
theorem stream_orders.calls {I B : Gh} {h : Heap} {K : Nat} {x0 : List api_Order} {a1 : Option Addr} {c2 : Nat} {x1 : Int} (hB : Bd I h) (hBB : Bd B h) (r4 : Rd t_api_Order (Or2 I B) h a1 c2 x0) {r : ((List Int) × GoErr)}
    (H : stream_orders.m K x0 x1 = some r) :
    Ret Tryd.prog 64 #[.slice a1 x0.length c2, .int .i64 x1] h (fun v h' => ∃ (I' : Gh) (a142 : Option Addr) (c143 : Nat) (v147 : Value), .tuple #[.slice a142 r.1.length c143, v147] = v ∧ Pst No I h I' h' ∧ Own (tInt .u8) I' h' a142 c143 r.1 ∧ (∀ b, InA a142 b → No b ∨ h.size ≤ b) ∧ ErrV I' h' r.2 v147) := by
  unfold stream_orders.m at H
  refine ret_of (args := [.slice a1 x0.length c2, .int .i64 x1]) (rs := [.tmp 4, .tmp 5]) (N := 55) Tryd.func64 rfl rfl rfl (Nat.le_of_ble_eq_true rfl) ?_
  have pt0 : Pst No I h I h := Pst.refl hB
  refine cwp_seq ?_
  refine cwp_region ?_
  refine lwp_run 2 (by kernel_rfl) ?_
  refine lwp_nil ?_
  refine cwp_seq ?_
  refine cwp_region ?_
  refine lwp_run 1 (by kernel_rfl) ?_
  refine lwp_nil ?_
  refine cwp_seq ?_
  refine cwp_seq ?_
  refine cwp_region ?_
  refine lwp_run 3 (by kernel_rfl) ?_
  refine lwp_nil ?_
  refine cwp_block ?_
  obtain ⟨s17, m27, HR28⟩ := bind_some H
  refine cwp_loopE 0 (fun ρ' h18 => ∃ (x21 : List Int) (a22 : Option Addr) (c23 : Nat) (I19 : Gh), Sum.inr x21 = s17 ∧ Fits [(6, .slice a22 x21.length c23)] ρ' ∧ Pst No I h I19 h18 ∧ OwnX (tInt .u8) I19 I19 h18 a22 c23 x21 ∧ (∀ b, InA a22 b → No b ∨ h.size ≤ b)) ?_ ?_
  · refine cwp_loop (fun k' ρ' h5 => ∃ (x9 : List Int) (x15 : Int) (a10 : Option Addr) (c11 : Nat) (I6 : Gh), stream_orders.l1.m K x0 x1 k' x9 x15 = some s17 ∧ Fits [(0, .slice a1 x0.length c2), (1, .int .i64 x1), (6, .slice a10 x9.length c11), (11, .slice a1 x0.length c2), (12, .int .i64 (x0.length : Int)), (13, .int .i64 x15)] ρ' ∧ Pst No I h I6 h5 ∧ Rd t_api_Order (Or2 I6 B) h5 a1 c2 x0 ∧ OwnX (tInt .u8) I6 I6 h5 a10 c11 x9 ∧ (∀ b, InA a10 b → No b ∨ h.size ≤ b)) K ⟨[], 0, none, 0, I, m27, ⟨by kernel_rfl, by kernel_rfl, by kernel_rfl, by kernel_rfl, by kernel_rfl, by kernel_rfl, trivial⟩, pt0, r4, (own_nil (tInt .u8) I I h), none_nw⟩ ?_
    clear m27
    rintro k' ρ' h5 ⟨x9, x15, a10, c11, I6, H, hf, pt7, r8, r12, fr14⟩
    cases k' with
    | zero => cases H
    | succ k =>
      rw [stream_orders.l1.m] at H
      refine cwp_fits _ hf ?_
      obtain ⟨j36, e141, H⟩ := letJ_some H
      refine cwp_join (fun ρ' h30 => ∃ (x35 : Bool) (I31 : Gh), j36 x35 = some s17 ∧ Fits [(0, .slice a1 x0.length c2), (1, .int .i64 x1), (6, .slice a10 x9.length c11), (11, .slice a1 x0.length c2), (12, .int .i64 (x0.length : Int)), (13, .int .i64 x15), (14, .bool x35)] ρ' ∧ Pst No I h I31 h30 ∧ Rd t_api_Order (Or2 I31 B) h30 a1 c2 x0 ∧ OwnX (tInt .u8) I31 I31 h30 a10 c11 x9) ?_ ?_
      · refine cwp_region ?_
        by_cases c29 : x15 < (x0.length : Int)
        · rw [if_pos c29] at H
          refine lwp_op (by kernel_rfl) (owp_pure ((.bool true)) (pr_bool (by kernel_rfl) (decide_eq_true c29)) ?_)
          refine lwp_nil ?_
          exact ⟨true, I6, H, ⟨by kernel_rfl, by kernel_rfl, by kernel_rfl, by kernel_rfl, by kernel_rfl, by kernel_rfl, by kernel_rfl, trivial⟩, pt7, r8, r12⟩
        · rw [if_neg c29] at H
          refine lwp_op (by kernel_rfl) (owp_pure ((.bool false)) (pr_bool (by kernel_rfl) (decide_eq_false c29)) ?_)
          refine lwp_nil ?_
          exact ⟨false, I6, H, ⟨by kernel_rfl, by kernel_rfl, by kernel_rfl, by kernel_rfl, by kernel_rfl, by kernel_rfl, by kernel_rfl, trivial⟩, pt7, r8, r12⟩
      · clear H
        rintro ρ' h30 ⟨x35, I31, H, hf, pt32, r33, r34⟩
        refine cwp_fits _ hf ?_
        subst e141
        try dsimp only at H
        refine cwp_seq ?_
        cases x35
        · rw [cond_false] at H
          refine cwp_false (by kernel_rfl) ?_
          refine cwp_exit ?_
          obtain rfl := Option.some.inj H
          show Exists _
          exact ⟨x9, a10, c11, I31, rfl, ⟨by kernel_rfl, trivial⟩, pt32, r34, fr14⟩
        · rw [cond_true] at H
          refine cwp_true (by kernel_rfl) ?_
          refine cwp_skip ?_
          refine cwp_seq ?_
          refine cwp_block ?_
          refine cwp_seq ?_
          refine cwp_region ?_
          obtain ⟨c37, H⟩ := guard_pos H
          obtain ⟨c38, H⟩ := guard_pos H
          refine lwp_run 1 (by kernel_rfl) ?_
          have hs39 := (r33.toSl).isSome c37 c38
          refine lwp_op (by kernel_rfl) (owp_pure (elemPtr a1 (x15.toNat * 8)) (pr_indexElem (e := 26) (r33.toSl) (k := .i64) (by kernel_rfl) (by kernel_rfl) (by kernel_rfl) (by kernel_rfl) c37 c38) ?_)
          obtain ⟨cs40, hs41, rp42⟩ := (r33.toSl).seg c37 c38
          obtain ⟨a43, c44, rfl, r46⟩ := t_api_Order.open_ rp42
          refine lwp_op (by kernel_rfl) (owp_loadN (by kernel_rfl) (by kernel_rfl) (by kernel_rfl) hs41 ?_)
          refine lwp_op (by kernel_rfl) (owp_alloc [.int .i64 0, .slice none 0 0, .bool false, .bool false, .int .i64 0, .bool false, .int .i64 0, .int .u8 0] (.agg #[.int .i64 0, .slice none 0 0, .bool false, .bool false, .int .i64 0, .bool false, .int .i64 0, .int .u8 0]) pt32.bd (by kernel_rfl) (by kernel_rfl) ?_)
          intro b47 h48 hc49 p50 o51
          have pt52 := pt32.no p50
          have fr53 : No b47 ∨ h.size ≤ b47 := .inr (Nat.le_trans pt32.size hc49)
          have d54 := notIn_new r34.lt hc49
          refine lwp_run 1 (by kernel_rfl) ?_
          refine lwp_op (by kernel_rfl) (owp_storeN 0 [.int .i64 ((at_ x0 x15).Kind), .slice a43 (((at_ x0 x15).Text).length) c44, .bool (((at_ x0 x15).Attr).Protected), .bool (((at_ x0 x15).Attr).Numeric), .int .i64 (((at_ x0 x15).Attr).Show), .bool (((at_ x0 x15).Attr).Modified), .int .i64 ((at_ x0 x15).Addr), .int .u8 ((at_ x0 x15).Char)] p50.bd o51 (by kernel_rfl) (by kernel_rfl) (by simp [Value.oneCell']) (by kernel_rfl) (Nat.le_of_ble_eq_true rfl) ?_)
          intro h55 p56 o57
          have pt58 := pt52.own p56 (one_nw fr53)
          refine lwp_nil ?_
          refine cwp_seq ?_
          refine cwp_region ?_
          refine lwp_op (by kernel_rfl) (owp_loadN (by kernel_rfl) (by kernel_rfl) (by kernel_rfl) (o57.seg_ 0 8 (Nat.le_of_ble_eq_true rfl)) ?_)
          refine lwp_run 1 (by kernel_rfl) ?_
          have f59 := r46.up (upOr (p50.up pt32.bd (fun _ x => x.elim)) (keepB p50 (hBB.mono pt32.size) (fun _ x => x.elim)))
          have f60 := f59.up (upOr (p56.up p50.bd (one_not o51.no)) (keepB p56 (hBB.mono pt52.size) (nwB (one_nw fr53) (fun _ x => x.elim) hBB)))
          obtain ⟨t61, m62, H⟩ := bind_some H
          refine lwp_op (by kernel_rfl) (owp_callF (by kernel_rfl) (order_Put.calls (I := I31) (B := (Or2 I31 B)) p56.bd (bdOr p56.bd (hBB.mono pt58.size)) (Rd.mono (I' := Or2 I31 (Or2 I31 B)) f60 (fun _ x => Or.inr x)) m62) ?_)
          rintro v63 h64 ⟨I65, a67, c68, v72, rfl, p66, r70, fr71, q74⟩
          have pt75 := pt58.no p66
          have fr76 := nw_step (M := No) (n := h.size) (fun _ x => x.elim) fr71 pt58.size
          have d77 := step_blk fr71 o57.lt (fun x => x.elim)
          have f78 := r34.post pt32.bd p50 (fun _ x => x.elim) (fun _ _ x => x.elim)
          have f79 := f78.post p50.bd p56 (one_not o51.no) (dis_one d54)
          have d80 := step_sl fr71 f79.lt (fun _ _ x => x.elim)
          refine lwp_run 5 (by kernel_rfl) ?_
          refine lwp_nil ?_
          obtain ⟨j113, e140, H⟩ := letJ_some H
          refine cwp_join (fun ρ' h101 => ∃ (x107 : GoErr) (v108 : Value) (I102 : Gh), j113 x107 = some s17 ∧ Fits [(0, .slice a1 x0.length c2), (1, .int .i64 x1), (6, .slice a10 x9.length c11), (7, .int .i64 x15), (9, .slice a67 t61.1.length c68), (10, v108), (11, .slice a1 x0.length c2), (12, .int .i64 (x0.length : Int)), (13, .int .i64 x15)] ρ' ∧ Pst No I h I102 h101 ∧ Rd t_api_Order (Or2 I102 B) h101 a1 c2 x0 ∧ OwnX (tInt .u8) I102 I102 h101 a10 c11 x9 ∧ OwnX (tInt .u8) I102 I102 h101 a67 c68 t61.1 ∧ ErrV I102 h101 x107 v108 ∧ Rd (tInt .u8) (Or2 I102 B) h101 a43 c44 ((at_ x0 x15).Text) ∧ OwnB I102 h101 b47 [.int .i64 ((at_ x0 x15).Kind), .slice a43 (((at_ x0 x15).Text).length) c44, .bool (((at_ x0 x15).Attr).Protected), .bool (((at_ x0 x15).Attr).Numeric), .int .i64 (((at_ x0 x15).Attr).Show), .bool (((at_ x0 x15).Attr).Modified), .int .i64 ((at_ x0 x15).Addr), .int .u8 ((at_ x0 x15).Char)] 26) ?_ ?_
          · refine cwp_seq ?_
            refine cwp_region ?_
            refine lwp_run 1 (by kernel_rfl) ?_
            rcases q74.cases with ⟨c81, rfl⟩ | ⟨c81, t82, u83, rfl⟩
            · rw [if_pos c81] at H
              refine lwp_run 3 (by kernel_rfl) ?_
              by_cases c84 : x15 > 0
              · rw [if_pos c84] at H
                refine lwp_op (by kernel_rfl) (owp_pure ((.bool true)) (pr_bool (by kernel_rfl) (decide_eq_true c84)) ?_)
                refine lwp_run 3 (by kernel_rfl) ?_
                have f85 := o57.post p66 (fun x => x.elim)
                refine lwp_op (by kernel_rfl) (owp_load (by kernel_rfl) (by kernel_rfl) (f85.cell (off := 0) rfl) ?_)
                by_cases c86 : (at_ x0 x15).Kind = 1
                · rw [if_pos c86] at H
                  refine lwp_op (by kernel_rfl) (owp_pure ((.bool true)) (pr_bool (by kernel_rfl) (eqT c86)) ?_)
                  obtain ⟨c87, H⟩ := guard_pos H
                  obtain ⟨c88, H⟩ := guard_pos H
                  refine lwp_run 5 (by kernel_rfl) ?_
                  have f89 := r33.up (upOr (p50.up pt32.bd (fun _ x => x.elim)) (keepB p50 (hBB.mono pt32.size) (fun _ x => x.elim)))
                  have f90 := f89.up (upOr (p56.up p50.bd (one_not o51.no)) (keepB p56 (hBB.mono pt52.size) (nwB (one_nw fr53) (fun _ x => x.elim) hBB)))
                  have f91 := f90.up (upOr (p66.up p56.bd (fun _ x => x.elim)) (keepB p66 (hBB.mono pt58.size) (fun _ x => x.elim)))
                  have hs92 := (f91.toSl).isSome c87 c88
                  refine lwp_op (by kernel_rfl) (owp_pure (elemPtr a1 ((w64 (x15 - 1)).toNat * 8)) (pr_indexElem (e := 26) (f91.toSl) (k := .i64) (by kernel_rfl) (by kernel_rfl) (by kernel_rfl) (by kernel_rfl) c87 c88) ?_)
                  refine lwp_op (by kernel_rfl) (owp_pure ((elemPtr a1 ((w64 (x15 - 1)).toNat * 8 + 0))) (pr_fieldAddr (a := a1) (n := ((w64 (x15 - 1)).toNat * 8)) (off := 0) (by kernel_rfl) hs92 (fun _ _ => by kernel_rfl)) ?_)
                  obtain ⟨cs93, hs94, rp95⟩ := (f91.toSl).seg c87 c88
                  obtain ⟨a96, c97, rfl, r99⟩ := t_api_Order.open_ rp95
                  refine lwp_op (by kernel_rfl) (owp_load (by kernel_rfl) (by kernel_rfl) (seg_cell (f := 0) hs94 rfl) ?_)
                  by_cases c100 : (at_ x0 (w64 (x15 - 1))).Kind = 1
                  · rw [if_pos c100] at H
                    refine lwp_op (by kernel_rfl) (owp_pure ((.bool true)) (pr_bool (by kernel_rfl) (eqT c100)) ?_)
                    refine lwp_run 1 (by kernel_rfl) ?_
                    refine lwp_nil ?_
                    refine cwp_true (by kernel_rfl) ?_
                    refine cwp_region ?_
                    refine lwp_run 2 (by kernel_rfl) ?_
                    refine lwp_nil ?_
                    have f100023 := f79.post p56.bd p66 (fun _ x => x.elim) (fun _ _ x => x.elim)
                    have f100024 := f60.up (upOr (p66.up p56.bd (fun _ x => x.elim)) (keepB p66 (hBB.mono pt58.size) (fun _ x => x.elim)))
                    exact ⟨(GoErr.no 1), .iface 78 (.int .i64 1), I65, H, ⟨by kernel_rfl, by kernel_rfl, by kernel_rfl, by kernel_rfl, by kernel_rfl, by kernel_rfl, by kernel_rfl, by kernel_rfl, by kernel_rfl, trivial⟩, pt75, f91, f100023, r70, (show ErrV I65 h64 (GoErr.no 1) (.iface 78 (.int .i64 1)) from rfl), f100024, f85⟩
                  · rw [if_neg c100] at H
                    refine lwp_op (by kernel_rfl) (owp_pure ((.bool false)) (pr_bool (by kernel_rfl) (eqF c100)) ?_)
                    refine lwp_run 1 (by kernel_rfl) ?_
                    refine lwp_nil ?_
                    refine cwp_false (by kernel_rfl) ?_
                    refine cwp_skip ?_
                    have f100025 := f79.post p56.bd p66 (fun _ x => x.elim) (fun _ _ x => x.elim)
                    have f100026 := f60.up (upOr (p66.up p56.bd (fun _ x => x.elim)) (keepB p66 (hBB.mono pt58.size) (fun _ x => x.elim)))
                    exact ⟨t61.2, .nilIface, I65, H, ⟨by kernel_rfl, by kernel_rfl, by kernel_rfl, by kernel_rfl, by kernel_rfl, by kernel_rfl, by kernel_rfl, by kernel_rfl, by kernel_rfl, trivial⟩, pt75, f91, f100025, r70, q74, f100026, f85⟩
                · rw [if_neg c86] at H
                  refine lwp_op (by kernel_rfl) (owp_pure ((.bool false)) (pr_bool (by kernel_rfl) (eqF c86)) ?_)
                  refine lwp_run 10 (by kernel_rfl) ?_
                  refine lwp_nil ?_
                  refine cwp_false (by kernel_rfl) ?_
                  refine cwp_skip ?_
                  have f100027 := r33.up (upOr (p50.up pt32.bd (fun _ x => x.elim)) (keepB p50 (hBB.mono pt32.size) (fun _ x => x.elim)))
                  have f100028 := f100027.up (upOr (p56.up p50.bd (one_not o51.no)) (keepB p56 (hBB.mono pt52.size) (nwB (one_nw fr53) (fun _ x => x.elim) hBB)))
                  have f100029 := f100028.up (upOr (p66.up p56.bd (fun _ x => x.elim)) (keepB p66 (hBB.mono pt58.size) (fun _ x => x.elim)))
                  have f100030 := f79.post p56.bd p66 (fun _ x => x.elim) (fun _ _ x => x.elim)
                  have f100031 := f60.up (upOr (p66.up p56.bd (fun _ x => x.elim)) (keepB p66 (hBB.mono pt58.size) (fun _ x => x.elim)))
                  exact ⟨t61.2, .nilIface, I65, H, ⟨by kernel_rfl, by kernel_rfl, by kernel_rfl, by kernel_rfl, by kernel_rfl, by kernel_rfl, by kernel_rfl, by kernel_rfl, by kernel_rfl, trivial⟩, pt75, f100029, f100030, r70, q74, f100031, f85⟩
              · rw [if_neg c84] at H
                refine lwp_op (by kernel_rfl) (owp_pure ((.bool false)) (pr_bool (by kernel_rfl) (decide_eq_false c84)) ?_)
                refine lwp_run 15 (by kernel_rfl) ?_
                refine lwp_nil ?_
                refine cwp_false (by kernel_rfl) ?_
                refine cwp_skip ?_
                have f100032 := r33.up (upOr (p50.up pt32.bd (fun _ x => x.elim)) (keepB p50 (hBB.mono pt32.size) (fun _ x => x.elim)))
                have f100033 := f100032.up (upOr (p56.up p50.bd (one_not o51.no)) (keepB p56 (hBB.mono pt52.size) (nwB (one_nw fr53) (fun _ x => x.elim) hBB)))
                have f100034 := f100033.up (upOr (p66.up p56.bd (fun _ x => x.elim)) (keepB p66 (hBB.mono pt58.size) (fun _ x => x.elim)))
                have f100035 := f79.post p56.bd p66 (fun _ x => x.elim) (fun _ _ x => x.elim)
                have f100036 := f60.up (upOr (p66.up p56.bd (fun _ x => x.elim)) (keepB p66 (hBB.mono pt58.size) (fun _ x => x.elim)))
                have f100037 := o57.post p66 (fun x => x.elim)
                exact ⟨t61.2, .nilIface, I65, H, ⟨by kernel_rfl, by kernel_rfl, by kernel_rfl, by kernel_rfl, by kernel_rfl, by kernel_rfl, by kernel_rfl, by kernel_rfl, by kernel_rfl, trivial⟩, pt75, f100034, f100035, r70, q74, f100036, f100037⟩
            · rw [if_neg c81] at H
              refine lwp_run 19 (by kernel_rfl) ?_
              refine lwp_nil ?_
              refine cwp_false (by kernel_rfl) ?_
              refine cwp_skip ?_
              have f100038 := r33.up (upOr (p50.up pt32.bd (fun _ x => x.elim)) (keepB p50 (hBB.mono pt32.size) (fun _ x => x.elim)))
              have f100039 := f100038.up (upOr (p56.up p50.bd (one_not o51.no)) (keepB p56 (hBB.mono pt52.size) (nwB (one_nw fr53) (fun _ x => x.elim) hBB)))
              have f100040 := f100039.up (upOr (p66.up p56.bd (fun _ x => x.elim)) (keepB p66 (hBB.mono pt58.size) (fun _ x => x.elim)))
              have f100041 := f79.post p56.bd p66 (fun _ x => x.elim) (fun _ _ x => x.elim)
              have f100042 := f60.up (upOr (p66.up p56.bd (fun _ x => x.elim)) (keepB p66 (hBB.mono pt58.size) (fun _ x => x.elim)))
              have f100043 := o57.post p66 (fun x => x.elim)
              exact ⟨t61.2, (.iface t82 u83), I65, H, ⟨by kernel_rfl, by kernel_rfl, by kernel_rfl, by kernel_rfl, by kernel_rfl, by kernel_rfl, by kernel_rfl, by kernel_rfl, by kernel_rfl, trivial⟩, pt75, f100040, f100041, r70, q74, f100042, f100043⟩
          · clear H
            rintro ρ' h101 ⟨x107, v108, I102, H, hf, pt103, r104, r105, r106, q109, r111, o112⟩
            refine cwp_fits _ hf ?_
            subst e140
            try dsimp only at H
            refine cwp_seq ?_
            refine cwp_seq ?_
            refine cwp_region ?_
            refine lwp_run 1 (by kernel_rfl) ?_
            rcases q109.cases with ⟨c114, rfl⟩ | ⟨c114, t115, u116, rfl⟩
            · rw [if_pos c114] at H
              refine lwp_run 1 (by kernel_rfl) ?_
              refine lwp_nil ?_
              refine cwp_false (by kernel_rfl) ?_
              refine cwp_skip ?_
              refine cwp_region ?_
              refine lwp_run 2 (by kernel_rfl) ?_
              obtain ⟨l117, m118, H⟩ := bind_some H
              refine lwp_op (by kernel_rfl) (owp_app (e := 5) (bytes := 1) (tInt .u8) (by kernel_rfl) (elemOk_of (by kernel_rfl)) rfl rfl pt103.bd pt103.bd r105 r105.notI (r106.toSl) m118 (by kernel_rfl) (by kernel_rfl) ?_)
              intro a119 c120 h121 p122 o123 fr124
              have pt125 := pt103.own p122 fr14
              have fr127 := nw_step (M := No) (n := h.size) fr14 fr124 pt103.size
              have d128 := step_blk fr124 o112.lt d54
              have d129 := step_sl fr124 r106.lt d80
              refine lwp_run 1 (by kernel_rfl) ?_
              refine lwp_nil ?_
              refine cwp_region ?_
              refine lwp_run 2 (by kernel_rfl) ?_
              refine lwp_nil ?_
              have f100022 := r104.up (upOr (p122.up pt103.bd r105.notI) (keepB p122 (hBB.mono pt103.size) (nwB fr14 (fun _ x => x.elim) hBB)))
              show Exists _
              exact ⟨k, Nat.lt_succ_self _, l117, (w64 (x15 + 1)), a119, c120, I102, H, ⟨by kernel_rfl, by kernel_rfl, by kernel_rfl, by kernel_rfl, by kernel_rfl, by kernel_rfl, trivial⟩, pt125, f100022, o123, fr127⟩
            · rw [if_neg c114] at H
              refine lwp_run 1 (by kernel_rfl) ?_
              refine lwp_nil ?_
              refine cwp_true (by kernel_rfl) ?_
              refine cwp_seq ?_
              refine cwp_region ?_
              refine lwp_run 2 (by kernel_rfl) ?_
              obtain ⟨t130, m131, H⟩ := bind_some H
              refine lwp_op (by kernel_rfl) (owp_callF (by kernel_rfl) (stream_spot.calls (I := I102) pt103.bd q109 m131) ?_)
              rintro v132 h133 ⟨I134, v136, rfl, p135, q138⟩
              have pt139 := pt103.no p135
              refine lwp_run 2 (by kernel_rfl) ?_
              refine lwp_nil ?_
              refine cwp_ret ?_
              obtain rfl := Option.some.inj H
              obtain rfl := Option.some.inj HR28
              show Exists _
              exact ⟨.tuple #[.slice none 0 0, v136], by kernel_rfl, I134, none, 0, (v136), rfl, pt139, (own_nil (tInt .u8) I134 I134 h133), none_nw, q138⟩
  · rintro ρ' h18 ⟨x21, a22, c23, I19, rfl, hf, pt20, r24, fr26⟩
    have H := HR28
    try dsimp only at H
    refine cwp_fits _ hf ?_
    refine cwp_seq ?_
    refine cwp_region ?_
    refine lwp_run 3 (by kernel_rfl) ?_
    refine lwp_nil ?_
    refine cwp_ret ?_
    obtain rfl := Option.some.inj H
    show Exists _
    exact ⟨.tuple #[.slice a22 x21.length c23, .nilIface], by kernel_rfl, I19, a22, c23, (.nilIface), rfl, pt20, r24, fr26, (show ErrV I19 h18 GoErr.nil .nilIface from rfl)⟩

/-! shutter/attr.PutWcc -/
def attr_PutWcc.m (K : Nat) (x0 : api_Wcc) : Option Int :=
  ((attr_bit.m x0.Alarm 4).bind fun t8 => ((attr_bit.m x0.Unlock 2).bind fun t16 => ((attr_bit.m x0.Reset 1).bind fun t24 => ((attr_sum.m K [t8, t16, t24]).bind fun t45 => ((six_Put.m t45).bind fun t54 => (some t54.1))))))

set_option maxRecDepth 100000 in
theorem attr_PutWcc.calls {I : Gh} {h : Heap} {K : Nat} {x0 : api_Wcc} (hB : Bd I h)  {r : Int}
    (H : attr_PutWcc.m K x0 = some r) :
    Ret Tryd.prog 65 #[.agg #[.bool x0.Alarm, .bool x0.Unlock, .bool x0.Reset]] h (fun v h' => ∃ (I' : Gh), .int .u8 r = v ∧ Pst No I h I' h') := by
  unfold attr_PutWcc.m at H
  refine ret_of (args := [.agg #[.bool x0.Alarm, .bool x0.Unlock, .bool x0.Reset]]) (rs := [.tmp 2]) (N := 21) Tryd.func65 rfl rfl rfl (Nat.le_of_ble_eq_true rfl) ?_
  have pt0 : Pst No I h I h := Pst.refl hB
  refine cwp_seq ?_
  refine cwp_region ?_
  refine lwp_op (by kernel_rfl) (owp_box [.bool x0.Alarm, .bool x0.Unlock, .bool x0.Reset] hB (by kernel_rfl) ?_)
  intro b1 h2 hc3 p4 o5
  have pt6 := pt0.no p4
  have fr7 : No b1 ∨ h.size ≤ b1 := .inr (Nat.le_trans pt0.size hc3)
  refine lwp_run 1 (by kernel_rfl) ?_
  refine lwp_nil ?_
  refine cwp_seq ?_
  refine cwp_regionD (Keep No h2) 17 (by kernel_rfl) ?_
  refine awp_run (fuel := 16) [0] Keep.refl (by kernel_rfl) ?_
  refine awp_load 1 rfl (by kernel_rfl) (by kernel_rfl) (by kernel_rfl) (by kernel_rfl) Keep.refl (o5.cell (off := 0) rfl) (fun _ _ x => x.elim) ?_
  refine awp_run (fuel := 14) [3] Keep.refl (by kernel_rfl) ?_
  refine awp_load 4 rfl (by kernel_rfl) (by kernel_rfl) (by kernel_rfl) (by kernel_rfl) Keep.refl (o5.cell (off := 1) rfl) (fun _ _ x => x.elim) ?_
  refine awp_run (fuel := 12) [6] Keep.refl (by kernel_rfl) ?_
  refine awp_load 7 rfl (by kernel_rfl) (by kernel_rfl) (by kernel_rfl) (by kernel_rfl) Keep.refl (o5.cell (off := 2) rfl) (fun _ _ x => x.elim) ?_
  obtain ⟨t8, m9, H⟩ := bind_some H
  refine awp_op 2 (by kernel_rfl) rfl (by kernel_rfl) (owp_callF (by kernel_rfl) (attr_bit.calls (I := I) p4.bd m9) ?_)
  rintro v10 h11 ⟨I12, rfl, p13⟩
  have pt14 := pt6.no p13
  have hK15 := Keep.post (M := No) Keep.refl (Nat.le_refl _) p13 (fun _ x => x.elim)
  refine ⟨hK15, ?_⟩
  obtain ⟨t16, m17, H⟩ := bind_some H
  refine awp_op 5 (by kernel_rfl) rfl (by kernel_rfl) (owp_callF (by kernel_rfl) (attr_bit.calls (I := I12) p13.bd m17) ?_)
  rintro v18 h19 ⟨I20, rfl, p21⟩
  have pt22 := pt14.no p21
  have hK23 := Keep.post (M := No) hK15 (Nat.le_trans (Nat.le_refl _) p13.size) p21 (fun _ x => x.elim)
  refine ⟨hK23, ?_⟩
  obtain ⟨t24, m25, H⟩ := bind_some H
  refine awp_op 8 (by kernel_rfl) rfl (by kernel_rfl) (owp_callF (by kernel_rfl) (attr_bit.calls (I := I20) p21.bd m25) ?_)
  rintro v26 h27 ⟨I28, rfl, p29⟩
  have pt30 := pt22.no p29
  have hK31 := Keep.post (M := No) hK23 (Nat.le_trans (Nat.le_trans (Nat.le_refl _) p13.size) p21.size) p29 (fun _ x => x.elim)
  refine ⟨hK31, ?_⟩
  refine awp_op 9 (by kernel_rfl) rfl (by kernel_rfl) (owp_buildSlice (e := 117) [.bool t8.is', .int .i64 t8.n', .bool t16.is', .int .i64 t16.n', .bool t24.is', .int .i64 t24.n'] 2 (.agg #[.bool false, .int .i64 0]) p29.bd (by kernel_rfl) (by kernel_rfl) (by kernel_rfl) (by kernel_rfl) (by kernel_rfl) ?_)
  intro b32 h33 hc34 p35 o36
  have pt37 := pt30.no p35
  have w38 := o36.own (l := ([t8, t16, t24] : List Anon_is_n)) (Reps.cons (T := t_Anon_is_n) (c := [.bool t8.is', .int .i64 t8.n']) (x := t8) (rfl) (Reps.cons (T := t_Anon_is_n) (c := [.bool t16.is', .int .i64 t16.n']) (x := t16) (rfl) (Reps.cons (T := t_Anon_is_n) (c := [.bool t24.is', .int .i64 t24.n']) (x := t24) (rfl) (.nil : Reps t_Anon_is_n I28 h33 [] []))))
  have fw38 := some_nw (M := No) (Nat.le_trans pt30.size hc34)
  have f40 := o5.post p13 (fun x => x.elim)
  have f41 := f40.post p21 (fun x => x.elim)
  have f42 := f41.post p29 (fun x => x.elim)
  have d43 := some_ne (ne_new f42.lt hc34)
  have hK44 := Keep.post (M := No) hK31 (Nat.le_trans (Nat.le_trans (Nat.le_trans (Nat.le_refl _) p13.size) p21.size) p29.size) p35 (fun _ x => x.elim)
  refine ⟨hK44, ?_⟩
  obtain ⟨t45, m46, H⟩ := bind_some H
  refine awp_op 10 (by kernel_rfl) rfl (by kernel_rfl) (owp_callF (by kernel_rfl) (attr_sum.calls (I := (Fz I28 (some ⟨b32, 0, none⟩))) (bd_fz w38 p35.bd) w38.rd m46) ?_)
  rintro v47 h48 ⟨I49, rfl, p50⟩
  have p51 := Pst.forget p50 p35.bd
  have pt52 := pt37.no p51
  have hK53 := Keep.post (M := No) hK44 (Nat.le_trans (Nat.le_trans (Nat.le_trans (Nat.le_trans (Nat.le_refl _) p13.size) p21.size) p29.size) p35.size) p51 (fun _ x => x.elim)
  refine ⟨hK53, ?_⟩
  obtain ⟨t54, m55, H⟩ := bind_some H
  refine awp_op 11 (by kernel_rfl) rfl (by kernel_rfl) (owp_callF (by kernel_rfl) (six_Put.calls (I := I28) p51.bd m55) ?_)
  rintro v56 h57 ⟨v60, rfl, rfl, q62⟩
  refine ⟨hK53, ?_⟩
  refine awp_run (fuel := 0) [12, 13, 14, 15, 16] hK53 (by kernel_rfl) ?_
  refine awp_nil (by kernel_rfl) ?_ 0
  refine cwp_seq ?_
  refine cwp_region ?_
  refine lwp_run 2 (by kernel_rfl) ?_
  refine lwp_nil ?_
  refine cwp_ret ?_
  obtain rfl := Option.some.inj H
  show Exists _
  exact ⟨.int .u8 t54.1, by kernel_rfl, I28, rfl, pt52⟩

/-! shutter/stream.known -/
def stream_known.m (x0 : Int) : Option Bool :=
  (if x0 = 241 then (some true) else (if x0 = 245 then (some true) else (if x0 = 111 then (some true) else (if x0 = 242 then (some true) else (if x0 = 246 then (some true) else (some false))))))

set_option maxRecDepth 100000 in
theorem stream_known.calls {I : Gh} {h : Heap} {x0 : Int} (_hB : Bd I h)  {r : Bool}
    (H : stream_known.m x0 = some r) :
    Ret Tryd.prog 63 #[.int .i64 x0] h (fun v h' => ∃ _ : Unit, .bool r = v ∧ h = h') := by
  unfold stream_known.m at H
  refine ret_of (args := [.int .i64 x0]) (rs := [.tmp 2]) (N := 12) Tryd.func63 rfl rfl rfl (Nat.le_of_ble_eq_true rfl) ?_
  refine cwp_seq ?_
  refine cwp_region ?_
  refine lwp_run 1 (by kernel_rfl) ?_
  refine lwp_nil ?_
  refine cwp_seq ?_
  refine cwp_seq ?_
  refine cwp_region ?_
  refine lwp_run 1 (by kernel_rfl) ?_
  refine lwp_nil ?_
  refine cwp_block ?_
  refine cwp_seq ?_
  refine cwp_block ?_
  refine cwp_block ?_
  refine cwp_block ?_
  refine cwp_seq ?_
  refine cwp_seq ?_
  refine cwp_seq ?_
  refine cwp_seq ?_
  refine cwp_region ?_
  by_cases c1 : x0 = 241
  · rw [if_pos c1] at H
    refine lwp_op (by kernel_rfl) (owp_pure ((.bool true)) (pr_bool (by kernel_rfl) (eqT c1)) ?_)
    refine lwp_run 1 (by kernel_rfl) ?_
    refine lwp_nil ?_
    refine cwp_true (by kernel_rfl) ?_
    refine cwp_skip ?_
    refine cwp_true (by kernel_rfl) ?_
    refine cwp_exit ?_
    refine cwp_seq ?_
    refine cwp_seq ?_
    refine cwp_region ?_
    refine lwp_run 1 (by kernel_rfl) ?_
    refine lwp_nil ?_
    refine cwp_ret ?_
    obtain rfl := Option.some.inj H
    show Exists _
    exact ⟨.bool true, by kernel_rfl, (), rfl, rfl⟩
  · rw [if_neg c1] at H
    refine lwp_op (by kernel_rfl) (owp_pure ((.bool false)) (pr_bool (by kernel_rfl) (eqF c1)) ?_)
    refine lwp_run 1 (by kernel_rfl) ?_
    refine lwp_nil ?_
    refine cwp_false (by kernel_rfl) ?_
    refine cwp_region ?_
    by_cases c2 : x0 = 245
    · rw [if_pos c2] at H
      refine lwp_op (by kernel_rfl) (owp_pure ((.bool true)) (pr_bool (by kernel_rfl) (eqT c2)) ?_)
      refine lwp_run 1 (by kernel_rfl) ?_
      refine lwp_nil ?_
      refine cwp_true (by kernel_rfl) ?_
      refine cwp_exit ?_
      refine cwp_seq ?_
      refine cwp_seq ?_
      refine cwp_region ?_
      refine lwp_run 1 (by kernel_rfl) ?_
      refine lwp_nil ?_
      refine cwp_ret ?_
      obtain rfl := Option.some.inj H
      show Exists _
      exact ⟨.bool true, by kernel_rfl, (), rfl, rfl⟩
    · rw [if_neg c2] at H
      refine lwp_op (by kernel_rfl) (owp_pure ((.bool false)) (pr_bool (by kernel_rfl) (eqF c2)) ?_)
      refine lwp_run 1 (by kernel_rfl) ?_
      refine lwp_nil ?_
      refine cwp_false (by kernel_rfl) ?_
      refine cwp_skip ?_
      refine cwp_seq ?_
      refine cwp_seq ?_
      refine cwp_region ?_
      by_cases c3 : x0 = 111
      · rw [if_pos c3] at H
        refine lwp_op (by kernel_rfl) (owp_pure ((.bool true)) (pr_bool (by kernel_rfl) (eqT c3)) ?_)
        refine lwp_run 1 (by kernel_rfl) ?_
        refine lwp_nil ?_
        refine cwp_true (by kernel_rfl) ?_
        refine cwp_exit ?_
        refine cwp_seq ?_
        refine cwp_seq ?_
        refine cwp_region ?_
        refine lwp_run 1 (by kernel_rfl) ?_
        refine lwp_nil ?_
        refine cwp_ret ?_
        obtain rfl := Option.some.inj H
        show Exists _
        exact ⟨.bool true, by kernel_rfl, (), rfl, rfl⟩
      · rw [if_neg c3] at H
        refine lwp_op (by kernel_rfl) (owp_pure ((.bool false)) (pr_bool (by kernel_rfl) (eqF c3)) ?_)
        refine lwp_run 1 (by kernel_rfl) ?_
        refine lwp_nil ?_
        refine cwp_false (by kernel_rfl) ?_
        refine cwp_skip ?_
        refine cwp_seq ?_
        refine cwp_seq ?_
        refine cwp_region ?_
        by_cases c4 : x0 = 242
        · rw [if_pos c4] at H
          refine lwp_op (by kernel_rfl) (owp_pure ((.bool true)) (pr_bool (by kernel_rfl) (eqT c4)) ?_)
          refine lwp_run 1 (by kernel_rfl) ?_
          refine lwp_nil ?_
          refine cwp_true (by kernel_rfl) ?_
          refine cwp_skip ?_
          refine cwp_true (by kernel_rfl) ?_
          refine cwp_exit ?_
          refine cwp_seq ?_
          refine cwp_seq ?_
          refine cwp_region ?_
          refine lwp_run 1 (by kernel_rfl) ?_
          refine lwp_nil ?_
          refine cwp_ret ?_
          obtain rfl := Option.some.inj H
          show Exists _
          exact ⟨.bool true, by kernel_rfl, (), rfl, rfl⟩
        · rw [if_neg c4] at H
          refine lwp_op (by kernel_rfl) (owp_pure ((.bool false)) (pr_bool (by kernel_rfl) (eqF c4)) ?_)
          refine lwp_run 1 (by kernel_rfl) ?_
          refine lwp_nil ?_
          refine cwp_false (by kernel_rfl) ?_
          refine cwp_region ?_
          by_cases c5 : x0 = 246
          · rw [if_pos c5] at H
            refine lwp_op (by kernel_rfl) (owp_pure ((.bool true)) (pr_bool (by kernel_rfl) (eqT c5)) ?_)
            refine lwp_run 1 (by kernel_rfl) ?_
            refine lwp_nil ?_
            refine cwp_true (by kernel_rfl) ?_
            refine cwp_exit ?_
            refine cwp_seq ?_
            refine cwp_seq ?_
            refine cwp_region ?_
            refine lwp_run 1 (by kernel_rfl) ?_
            refine lwp_nil ?_
            refine cwp_ret ?_
            obtain rfl := Option.some.inj H
            show Exists _
            exact ⟨.bool true, by kernel_rfl, (), rfl, rfl⟩
          · rw [if_neg c5] at H
            refine lwp_op (by kernel_rfl) (owp_pure ((.bool false)) (pr_bool (by kernel_rfl) (eqF c5)) ?_)
            refine lwp_run 1 (by kernel_rfl) ?_
            refine lwp_nil ?_
            refine cwp_false (by kernel_rfl) ?_
            refine cwp_skip ?_
            refine cwp_exit ?_
            refine cwp_seq ?_
            refine cwp_region ?_
            refine lwp_run 1 (by kernel_rfl) ?_
            refine lwp_nil ?_
            refine cwp_ret ?_
            obtain rfl := Option.some.inj H
            show Exists _
            exact ⟨.bool false, by kernel_rfl, (), rfl, rfl⟩

/-! shutter/stream.Write -/
def stream_Write.m (K : Nat) (x0 : api_Out) (x1 : Int) : Option ((List Int) × GoErr) :=
  ((stream_known.m x0.Cmd).bind fun t12 => bif t12 then (letJ (α := Bool → Option ((List Int) × GoErr)) (fun (x38 : Bool) => (bif x38 then (bif ((x0.Wcc.Alarm == false) && ((x0.Wcc.Unlock == false) && ((x0.Wcc.Reset == false) && true))) then (if (x0.Orders.length : Int) > 0 then (some ([], (GoErr.no 1))) else (some ([(IntKind.u8.wrap (x0.Cmd))], GoErr.nil))) else (some ([], (GoErr.no 1)))) else ((stream_orders.m K x0.Orders x1).bind fun t44 => (if t44.2 = GoErr.nil then ((attr_PutWcc.m K x0.Wcc).bind fun t66 => ((app [(IntKind.u8.wrap (x0.Cmd))] [t66]).bind fun l91 => ((app l91 t44.1).bind fun l112 => (if (l112.length : Int) > 8192 then (some ([], (GoErr.no 6))) else (some (l112, GoErr.nil)))))) else (some ([], t44.2)))))) fun (j41 : Bool → Option ((List Int) × GoErr)) => ((stream_Writes.m x0.Cmd).bind fun t28 => bif t28 then (j41 false) else (j41 true))) else (some ([], (GoErr.no 5))))

set_option maxRecDepth 100000 in
theorem stream_Write.calls {I B : Gh} {h : Heap} {K : Nat} {x0 : api_Out} {a1 : Option Addr} {c2 : Nat} {x1 : Int} (hB : Bd I h) (hBB : Bd B h) (r4 : Rd t_api_Order (Or2 I B) h a1 c2 x0.Orders) {r : ((List Int) × GoErr)}
    (H : stream_Write.m K x0 x1 = some r) :
    Ret Tryd.prog 29 #[.agg #[.int .i64 x0.Cmd, .bool x0.Wcc.Alarm, .bool x0.Wcc.Unlock, .bool x0.Wcc.Reset, .slice a1 x0.Orders.length c2], .int .i64 x1] h (fun v h' => ∃ (I' : Gh) (a132 : Option Addr) (c133 : Nat) (v137 : Value), .tuple #[.slice a132 r.1.length c133, v137] = v ∧ Pst No I h I' h' ∧ Own (tInt .u8) I' h' a132 c133 r.1 ∧ (∀ b, InA a132 b → No b ∨ h.size ≤ b) ∧ ErrV I' h' r.2 v137) := by
  unfold stream_Write.m at H
  refine ret_of (args := [.agg #[.int .i64 x0.Cmd, .bool x0.Wcc.Alarm, .bool x0.Wcc.Unlock, .bool x0.Wcc.Reset, .slice a1 x0.Orders.length c2], .int .i64 x1]) (rs := [.tmp 4, .tmp 5]) (N := 57) Tryd.func29 rfl rfl rfl (Nat.le_of_ble_eq_true rfl) ?_
  have pt0 : Pst No I h I h := Pst.refl hB
  refine cwp_seq ?_
  refine cwp_region ?_
  refine lwp_op (by kernel_rfl) (owp_box [.int .i64 x0.Cmd, .bool x0.Wcc.Alarm, .bool x0.Wcc.Unlock, .bool x0.Wcc.Reset, .slice a1 x0.Orders.length c2] hB (by kernel_rfl) ?_)
  intro b5 h6 hc7 p8 o9
  have pt10 := pt0.no p8
  have fr11 : No b5 ∨ h.size ≤ b5 := .inr (Nat.le_trans pt0.size hc7)
  refine lwp_run 2 (by kernel_rfl) ?_
  refine lwp_nil ?_
  refine cwp_seq ?_
  refine cwp_seq ?_
  refine cwp_region ?_
  refine lwp_run 1 (by kernel_rfl) ?_
  refine lwp_op (by kernel_rfl) (owp_load (by kernel_rfl) (by kernel_rfl) (o9.cell (off := 0) rfl) ?_)
  obtain ⟨t12, m13, H⟩ := bind_some H
  refine lwp_op (by kernel_rfl) (owp_callF (by kernel_rfl) (stream_known.calls (I := I) p8.bd m13) ?_)
  rintro v14 h15 ⟨_, rfl, rfl⟩
  cases t12
  · rw [cond_false] at H
    refine lwp_run 1 (by kernel_rfl) ?_
    refine lwp_nil ?_
    refine cwp_true (by kernel_rfl) ?_
    refine cwp_seq ?_
    refine cwp_region ?_
    refine lwp_run 3 (by kernel_rfl) ?_
    refine lwp_nil ?_
    refine cwp_ret ?_
    obtain rfl := Option.some.inj H
    show Exists _
    exact ⟨.tuple #[.slice none 0 0, .iface 78 (.int .i64 5)], by kernel_rfl, I, none, 0, (.iface 78 (.int .i64 5)), rfl, pt10, (own_nil (tInt .u8) I I h6), none_nw, (show ErrV I h6 (GoErr.no 5) (.iface 78 (.int .i64 5)) from rfl)⟩
  · rw [cond_true] at H
    refine lwp_run 1 (by kernel_rfl) ?_
    refine lwp_nil ?_
    refine cwp_false (by kernel_rfl) ?_
    refine cwp_skip ?_
    refine cwp_seq ?_
    refine cwp_region ?_
    refine lwp_run 1 (by kernel_rfl) ?_
    refine lwp_op (by kernel_rfl) (owp_load (by kernel_rfl) (by kernel_rfl) (o9.cell (off := 0) rfl) ?_)
    refine lwp_run 1 (by kernel_rfl) ?_
    refine lwp_op (by kernel_rfl) (owp_buildSlice (e := 5) [.int .u8 (IntKind.u8.wrap (x0.Cmd))] 1 (.int .u8 0) p8.bd (by kernel_rfl) (by kernel_rfl) (by kernel_rfl) (by kernel_rfl) (by kernel_rfl) ?_)
    intro b18 h19 hc20 p21 o22
    have pt23 := pt10.no p21
    have w24 := o22.own (l := ([(IntKind.u8.wrap (x0.Cmd))] : List Int)) (Reps.int (I := I) (k := .u8) (l := [(IntKind.u8.wrap (x0.Cmd))]))
    have fw24 := some_nw (M := No) (Nat.le_trans pt10.size hc20)
    have d26 := some_ne (ne_new o9.lt hc20)
    refine lwp_run 1 (by kernel_rfl) ?_
    refine lwp_nil ?_
    refine cwp_seq ?_
    obtain ⟨j41, e131, H⟩ := letJ_some H
    refine cwp_join (fun ρ' h34 => ∃ (x38 : Bool) (I35 : Gh), j41 x38 = some r ∧ Fits [(1, .int .i64 x1), (2, .pointer (some ⟨b5, 0, none⟩)), (6, .slice (some ⟨b18, 0, none⟩) ([(IntKind.u8.wrap (x0.Cmd))].length) 1), (21, .bool x38)] ρ' ∧ Pst No I h I35 h34 ∧ OwnX (tInt .u8) I35 I35 h34 (some ⟨b18, 0, none⟩) 1 [(IntKind.u8.wrap (x0.Cmd))] ∧ Rd t_api_Order (Or2 I35 B) h34 a1 c2 x0.Orders ∧ OwnB I35 h34 b5 [.int .i64 x0.Cmd, .bool x0.Wcc.Alarm, .bool x0.Wcc.Unlock, .bool x0.Wcc.Reset, .slice a1 x0.Orders.length c2] 54) ?_ ?_
    · refine cwp_region ?_
      refine lwp_run 1 (by kernel_rfl) ?_
      have f27 := o9.post p21 (fun x => x.elim)
      refine lwp_op (by kernel_rfl) (owp_load (by kernel_rfl) (by kernel_rfl) (f27.cell (off := 0) rfl) ?_)
      obtain ⟨t28, m29, H⟩ := bind_some H
      refine lwp_op (by kernel_rfl) (owp_callF (by kernel_rfl) (stream_Writes.calls (I := I) p21.bd m29) ?_)
      rintro v30 h31 ⟨_, rfl, rfl⟩
      cases t28
      · rw [cond_false] at H
        refine lwp_run 1 (by kernel_rfl) ?_
        refine lwp_nil ?_
        have f100007 := r4.up (upOr (p8.up hB (fun _ x => x.elim)) (keepB p8 (hBB.mono pt0.size) (fun _ x => x.elim)))
        have f100008 := f100007.up (upOr (p21.up p8.bd (fun _ x => x.elim)) (keepB p21 (hBB.mono pt10.size) (fun _ x => x.elim)))
        exact ⟨true, I, H, ⟨by kernel_rfl, by kernel_rfl, by kernel_rfl, by kernel_rfl, trivial⟩, pt23, w24, f100008, f27⟩
      · rw [cond_true] at H
        refine lwp_run 1 (by kernel_rfl) ?_
        refine lwp_nil ?_
        have f100005 := r4.up (upOr (p8.up hB (fun _ x => x.elim)) (keepB p8 (hBB.mono pt0.size) (fun _ x => x.elim)))
        have f100006 := f100005.up (upOr (p21.up p8.bd (fun _ x => x.elim)) (keepB p21 (hBB.mono pt10.size) (fun _ x => x.elim)))
        exact ⟨false, I, H, ⟨by kernel_rfl, by kernel_rfl, by kernel_rfl, by kernel_rfl, trivial⟩, pt23, w24, f100006, f27⟩
    · clear H
      rintro ρ' h34 ⟨x38, I35, H, hf, pt36, r37, r39, o40⟩
      refine cwp_fits _ hf ?_
      subst e131
      try dsimp only at H
      cases x38
      · rw [cond_false] at H
        refine cwp_false (by kernel_rfl) ?_
        refine cwp_skip ?_
        refine cwp_seq ?_
        refine cwp_region ?_
        refine lwp_run 1 (by kernel_rfl) ?_
        refine lwp_op (by kernel_rfl) (owp_load (by kernel_rfl) (by kernel_rfl) (o40.cell (off := 4) rfl) ?_)
        refine lwp_run 1 (by kernel_rfl) ?_
        obtain ⟨t44, m45, H⟩ := bind_some H
        refine lwp_op (by kernel_rfl) (owp_callF (by kernel_rfl) (stream_orders.calls (I := I35) (B := (Or2 I35 B)) pt36.bd (bdOr pt36.bd (hBB.mono pt36.size)) (Rd.mono (I' := Or2 I35 (Or2 I35 B)) r39 (fun _ x => Or.inr x)) m45) ?_)
        rintro v46 h47 ⟨I48, a50, c51, v55, rfl, p49, r53, fr54, q57⟩
        have pt58 := pt36.no p49
        have fr59 := nw_step (M := No) (n := h.size) (fun _ x => x.elim) fr54 pt36.size
        have d60 := step_blk fr54 o40.lt (fun x => x.elim)
        have d61 := step_sl fr54 r37.lt (fun _ _ x => x.elim)
        refine lwp_run 5 (by kernel_rfl) ?_
        refine lwp_nil ?_
        refine cwp_seq ?_
        refine cwp_seq ?_
        refine cwp_region ?_
        refine lwp_run 1 (by kernel_rfl) ?_
        rcases q57.cases with ⟨c62, rfl⟩ | ⟨c62, t63, u64, rfl⟩
        · rw [if_pos c62] at H
          refine lwp_run 1 (by kernel_rfl) ?_
          refine lwp_nil ?_
          refine cwp_false (by kernel_rfl) ?_
          refine cwp_skip ?_
          refine cwp_seq ?_
          refine cwp_seq ?_
          refine cwp_region ?_
          refine lwp_run 2 (by kernel_rfl) ?_
          have f65 := o40.post p49 (fun x => x.elim)
          refine lwp_op (by kernel_rfl) (owp_loadN (by kernel_rfl) (by kernel_rfl) (by kernel_rfl) (f65.seg_ 1 3 (Nat.le_of_ble_eq_true rfl)) ?_)
          obtain ⟨t66, m67, H⟩ := bind_some H
          refine lwp_op (by kernel_rfl) (owp_callF (by kernel_rfl) (attr_PutWcc.calls (I := I48) p49.bd m67) ?_)
          rintro v68 h69 ⟨I70, rfl, p71⟩
          have pt72 := pt58.no p71
          refine lwp_op (by kernel_rfl) (owp_buildSlice (e := 5) [.int .u8 t66] 1 (.int .u8 0) p71.bd (by kernel_rfl) (by kernel_rfl) (by kernel_rfl) (by kernel_rfl) (by kernel_rfl) ?_)
          intro b73 h74 hc75 p76 o77
          have pt78 := pt72.no p76
          have w79 := o77.own (l := ([t66] : List Int)) (Reps.int (I := I70) (k := .u8) (l := [t66]))
          have fw79 := some_nw (M := No) (Nat.le_trans pt72.size hc75)
          have f81 := f65.post p71 (fun x => x.elim)
          have d82 := some_ne (ne_new f81.lt hc75)
          have f83 := r37.post pt36.bd p49 (fun _ x => x.elim) (fun _ _ x => x.elim)
          have f84 := f83.post p49.bd p71 (fun _ x => x.elim) (fun _ _ x => x.elim)
          have d85 := some_notIn (notIn_new f84.lt hc75)
          have f86 := r53.post p49.bd p71 (fun _ x => x.elim) (fun _ _ x => x.elim)
          have d87 := some_notIn (notIn_new f86.lt hc75)
          have f88 := r37.post pt36.bd p49 (fun _ x => x.elim) (fun _ _ x => x.elim)
          have f89 := f88.post p49.bd p71 (fun _ x => x.elim) (fun _ _ x => x.elim)
          have f90 := f89.post p71.bd p76 (fun _ x => x.elim) (fun _ _ x => x.elim)
          obtain ⟨l91, m92, H⟩ := bind_some H
          refine lwp_op (by kernel_rfl) (owp_app (e := 5) (bytes := 1) (tInt .u8) (by kernel_rfl) (elemOk_of (by kernel_rfl)) rfl rfl p76.bd p76.bd f90 f90.notI (w79.toSl) m92 (by kernel_rfl) (by kernel_rfl) ?_)
          intro a93 c94 h95 p96 o97 fr98
          have pt99 := pt78.own p96 fw24
          have fr101 := nw_step (M := No) (n := h.size) fw24 fr98 pt78.size
          have f102 := f65.post p71 (fun x => x.elim)
          have f103 := f102.post p76 (fun x => x.elim)
          have d104 := step_blk fr98 f103.lt d26
          have f105 := r53.post p49.bd p71 (fun _ x => x.elim) (fun _ _ x => x.elim)
          have f106 := f105.post p71.bd p76 (fun _ x => x.elim) (fun _ _ x => x.elim)
          have d107 := step_sl fr98 f106.lt d61
          have d108 := step_sl fr98 w79.lt d85
          refine lwp_run 1 (by kernel_rfl) ?_
          have f109 := r53.post p49.bd p71 (fun _ x => x.elim) (fun _ _ x => x.elim)
          have f110 := f109.post p71.bd p76 (fun _ x => x.elim) (fun _ _ x => x.elim)
          have f111 := f110.post p76.bd p96 f90.notI d61
          obtain ⟨l112, m113, H⟩ := bind_some H
          refine lwp_op (by kernel_rfl) (owp_app (e := 5) (bytes := 1) (tInt .u8) (by kernel_rfl) (elemOk_of (by kernel_rfl)) rfl rfl p96.bd p96.bd o97 o97.notI (f111.toSl) m113 (by kernel_rfl) (by kernel_rfl) ?_)
          intro a114 c115 h116 p117 o118 fr119
          have pt120 := pt99.own p117 fr101
          have fr122 := nw_step (M := No) (n := h.size) fr101 fr119 pt99.size
          have f123 := f65.post p71 (fun x => x.elim)
          have f124 := f123.post p76 (fun x => x.elim)
          have f125 := f124.post p96 d26
          have d126 := step_blk fr119 f125.lt d104
          have d127 := step_sl fr119 f111.lt (flipD d107)
          have f128 := w79.post p76.bd p96 f90.notI d85
          have d129 := step_sl fr119 f128.lt (flipD d108)
          refine lwp_run 1 (by kernel_rfl) ?_
          refine lwp_nil ?_
          refine cwp_seq ?_
          refine cwp_region ?_
          refine lwp_run 2 (by kernel_rfl) ?_
          by_cases c130 : (l112.length : Int) > 8192
          · rw [if_pos c130] at H
            refine lwp_op (by kernel_rfl) (owp_pure ((.bool true)) (pr_bool (by kernel_rfl) (decide_eq_true c130)) ?_)
            refine lwp_nil ?_
            refine cwp_true (by kernel_rfl) ?_
            refine cwp_seq ?_
            refine cwp_region ?_
            refine lwp_run 3 (by kernel_rfl) ?_
            refine lwp_nil ?_
            refine cwp_ret ?_
            obtain rfl := Option.some.inj H
            show Exists _
            exact ⟨.tuple #[.slice none 0 0, .iface 78 (.int .i64 6)], by kernel_rfl, I70, none, 0, (.iface 78 (.int .i64 6)), rfl, pt120, (own_nil (tInt .u8) I70 I70 h116), none_nw, (show ErrV I70 h116 (GoErr.no 6) (.iface 78 (.int .i64 6)) from rfl)⟩
          · rw [if_neg c130] at H
            refine lwp_op (by kernel_rfl) (owp_pure ((.bool false)) (pr_bool (by kernel_rfl) (decide_eq_false c130)) ?_)
            refine lwp_nil ?_
            refine cwp_false (by kernel_rfl) ?_
            refine cwp_skip ?_
            refine cwp_seq ?_
            refine cwp_region ?_
            refine lwp_run 3 (by kernel_rfl) ?_
            refine lwp_nil ?_
            refine cwp_ret ?_
            obtain rfl := Option.some.inj H
            show Exists _
            exact ⟨.tuple #[.slice a114 l112.length c115, .nilIface], by kernel_rfl, I70, a114, c115, (.nilIface), rfl, pt120, o118, fr122, (show ErrV I70 h116 GoErr.nil .nilIface from rfl)⟩
        · rw [if_neg c62] at H
          refine lwp_run 1 (by kernel_rfl) ?_
          refine lwp_nil ?_
          refine cwp_true (by kernel_rfl) ?_
          refine cwp_seq ?_
          refine cwp_region ?_
          refine lwp_run 3 (by kernel_rfl) ?_
          refine lwp_nil ?_
          refine cwp_ret ?_
          obtain rfl := Option.some.inj H
          show Exists _
          exact ⟨.tuple #[.slice none 0 0, (.iface t63 u64)], by kernel_rfl, I48, none, 0, ((.iface t63 u64)), rfl, pt58, (own_nil (tInt .u8) I48 I48 h47), none_nw, q57⟩
      · rw [cond_true] at H
        refine cwp_true (by kernel_rfl) ?_
        refine cwp_seq ?_
        refine cwp_seq ?_
        refine cwp_region ?_
        refine lwp_run 1 (by kernel_rfl) ?_
        refine lwp_op (by kernel_rfl) (owp_loadN (by kernel_rfl) (by kernel_rfl) (by kernel_rfl) (o40.seg_ 1 3 (Nat.le_of_ble_eq_true rfl)) ?_)
        refine lwp_run 1 (by kernel_rfl) ?_
        rcases bool_or ((x0.Wcc.Alarm == false) && ((x0.Wcc.Unlock == false) && ((x0.Wcc.Reset == false) && true))) with c42 | c42
        · replace H := bif_f c42 H
          refine lwp_op (by kernel_rfl) (owp_run (.bool true) (run_bool (run_neAgg (xs := #[.bool x0.Wcc.Alarm, .bool x0.Wcc.Unlock, .bool x0.Wcc.Reset]) (ys := #[.bool false, .bool false, .bool false]) (by kernel_rfl) (by kernel_rfl) (by kernel_rfl) (eqB_run (b := ((x0.Wcc.Alarm == false) && ((x0.Wcc.Unlock == false) && ((x0.Wcc.Reset == false) && true)))) (by kernel_rfl))) (notB c42)) ?_)
          refine lwp_run 6 (by kernel_rfl) ?_
          refine lwp_nil ?_
          refine cwp_true (by kernel_rfl) ?_
          refine cwp_seq ?_
          refine cwp_region ?_
          refine lwp_run 3 (by kernel_rfl) ?_
          refine lwp_nil ?_
          refine cwp_ret ?_
          obtain rfl := Option.some.inj H
          show Exists _
          exact ⟨.tuple #[.slice none 0 0, .iface 78 (.int .i64 1)], by kernel_rfl, I35, none, 0, (.iface 78 (.int .i64 1)), rfl, pt36, (own_nil (tInt .u8) I35 I35 h34), none_nw, (show ErrV I35 h34 (GoErr.no 1) (.iface 78 (.int .i64 1)) from rfl)⟩
        · replace H := bif_t c42 H
          refine lwp_op (by kernel_rfl) (owp_run (.bool false) (run_bool (run_neAgg (xs := #[.bool x0.Wcc.Alarm, .bool x0.Wcc.Unlock, .bool x0.Wcc.Reset]) (ys := #[.bool false, .bool false, .bool false]) (by kernel_rfl) (by kernel_rfl) (by kernel_rfl) (eqB_run (b := ((x0.Wcc.Alarm == false) && ((x0.Wcc.Unlock == false) && ((x0.Wcc.Reset == false) && true)))) (by kernel_rfl))) (notB c42)) ?_)
          refine lwp_run 2 (by kernel_rfl) ?_
          refine lwp_op (by kernel_rfl) (owp_load (by kernel_rfl) (by kernel_rfl) (o40.cell (off := 4) rfl) ?_)
          refine lwp_run 1 (by kernel_rfl) ?_
          by_cases c43 : (x0.Orders.length : Int) > 0
          · rw [if_pos c43] at H
            refine lwp_op (by kernel_rfl) (owp_pure ((.bool true)) (pr_bool (by kernel_rfl) (decide_eq_true c43)) ?_)
            refine lwp_run 1 (by kernel_rfl) ?_
            refine lwp_nil ?_
            refine cwp_true (by kernel_rfl) ?_
            refine cwp_seq ?_
            refine cwp_region ?_
            refine lwp_run 3 (by kernel_rfl) ?_
            refine lwp_nil ?_
            refine cwp_ret ?_
            obtain rfl := Option.some.inj H
            show Exists _
            exact ⟨.tuple #[.slice none 0 0, .iface 78 (.int .i64 1)], by kernel_rfl, I35, none, 0, (.iface 78 (.int .i64 1)), rfl, pt36, (own_nil (tInt .u8) I35 I35 h34), none_nw, (show ErrV I35 h34 (GoErr.no 1) (.iface 78 (.int .i64 1)) from rfl)⟩
          · rw [if_neg c43] at H
            refine lwp_op (by kernel_rfl) (owp_pure ((.bool false)) (pr_bool (by kernel_rfl) (decide_eq_false c43)) ?_)
            refine lwp_run 1 (by kernel_rfl) ?_
            refine lwp_nil ?_
            refine cwp_false (by kernel_rfl) ?_
            refine cwp_skip ?_
            refine cwp_seq ?_
            refine cwp_region ?_
            refine lwp_run 3 (by kernel_rfl) ?_
            refine lwp_nil ?_
            refine cwp_ret ?_
            obtain rfl := Option.some.inj H
            show Exists _
            exact ⟨.tuple #[.slice (some ⟨b18, 0, none⟩) ([(IntKind.u8.wrap (x0.Cmd))].length) 1, .nilIface], by kernel_rfl, I35, (some ⟨b18, 0, none⟩), 1, (.nilIface), rfl, pt36, r37, fw24, (show ErrV I35 h34 GoErr.nil .nilIface from rfl)⟩

/-! shutter/attr.GetWcc -/
def attr_GetWcc.m (x0 : Int) : Option (api_Wcc × GoErr) :=
  ((six_Get.m x0).bind fun t8 => (if t8.2 = GoErr.nil then (if t8.1 > 7 then (some ((⟨false, false, false⟩ : api_Wcc), (GoErr.no 3))) else (some ((⟨((bAnd .i64 t8.1 4) != 0), ((bAnd .i64 t8.1 2) != 0), ((bAnd .i64 t8.1 1) != 0)⟩ : api_Wcc), GoErr.nil))) else (some ((⟨false, false, false⟩ : api_Wcc), (GoErr.no 3)))))

set_option maxRecDepth 100000 in
theorem attr_GetWcc.calls {I : Gh} {h : Heap} {x0 : Int} (hB : Bd I h)  {r : (api_Wcc × GoErr)}
    (H : attr_GetWcc.m x0 = some r) :
    Ret Tryd.prog 67 #[.int .u8 x0] h (fun v h' => ∃ (I' : Gh) (v33 : Value), .tuple #[.agg #[.bool r.1.Alarm, .bool r.1.Unlock, .bool r.1.Reset], v33] = v ∧ Pst No I h I' h' ∧ ErrV I' h' r.2 v33) := by
  unfold attr_GetWcc.m at H
  refine ret_of2 (args := [.int .u8 x0]) (rs := [.cell 2 51, .tmp 3]) (N := 29) Tryd.func67 rfl rfl rfl (Nat.le_of_ble_eq_true rfl) ?_
  have pt0 : Pst No I h I h := Pst.refl hB
  refine cwp_seq ?_
  refine cwp_region ?_
  refine lwp_op (by kernel_rfl) (owp_alloc [.bool false, .bool false, .bool false] (.agg #[.bool false, .bool false, .bool false]) hB (by kernel_rfl) (by kernel_rfl) ?_)
  intro b1 h2 hc3 p4 o5
  have pt6 := pt0.no p4
  have fr7 : No b1 ∨ h.size ≤ b1 := .inr (Nat.le_trans pt0.size hc3)
  refine lwp_run 1 (by kernel_rfl) ?_
  refine lwp_nil ?_
  refine cwp_seq ?_
  refine cwp_region ?_
  refine lwp_run 1 (by kernel_rfl) ?_
  obtain ⟨t8, m9, H⟩ := bind_some H
  refine lwp_op (by kernel_rfl) (owp_callF (by kernel_rfl) (six_Get.calls (I := I) p4.bd m9) ?_)
  rintro v10 h11 ⟨v14, rfl, rfl, q16⟩
  refine lwp_run 5 (by kernel_rfl) ?_
  refine lwp_nil ?_
  refine cwp_seq ?_
  refine cwp_seq ?_
  refine cwp_region ?_
  refine lwp_run 1 (by kernel_rfl) ?_
  rcases q16.cases with ⟨c17, rfl⟩ | ⟨c17, t18, u19, rfl⟩
  · rw [if_pos c17] at H
    refine lwp_run 3 (by kernel_rfl) ?_
    by_cases c20 : t8.1 > 7
    · rw [if_pos c20] at H
      refine lwp_op (by kernel_rfl) (owp_pure ((.bool true)) (pr_bool (by kernel_rfl) (decide_eq_true c20)) ?_)
      refine lwp_run 1 (by kernel_rfl) ?_
      refine lwp_nil ?_
      refine cwp_true (by kernel_rfl) ?_
      refine cwp_seq ?_
      refine cwp_region ?_
      refine lwp_run 2 (by kernel_rfl) ?_
      refine lwp_op (by kernel_rfl) (owp_storeN 0 [.bool false, .bool false, .bool false] p4.bd o5 (by kernel_rfl) (by kernel_rfl) (by simp [Value.oneCell']) (by kernel_rfl) (Nat.le_of_ble_eq_true rfl) ?_)
      intro h21 p22 o23
      have pt24 := pt6.own p22 (one_nw fr7)
      refine lwp_run 1 (by kernel_rfl) ?_
      refine lwp_nil ?_
      refine cwp_ret ?_
      obtain rfl := Option.some.inj H
      show Exists _
      exact ⟨[.agg #[.bool false, .bool false, .bool false], .iface 78 (.int .i64 3)], (.cons (.agg (by kernel_rfl) (by kernel_rfl) (by kernel_rfl) (o23.seg_ 0 3 (Nat.le_of_ble_eq_true rfl))) (.cons (.tmp (by kernel_rfl)) .nil)), I, (.iface 78 (.int .i64 3)), rfl, pt24, (show ErrV I h21 (GoErr.no 3) (.iface 78 (.int .i64 3)) from rfl)⟩
    · rw [if_neg c20] at H
      refine lwp_op (by kernel_rfl) (owp_pure ((.bool false)) (pr_bool (by kernel_rfl) (decide_eq_false c20)) ?_)
      refine lwp_run 1 (by kernel_rfl) ?_
      refine lwp_nil ?_
      refine cwp_false (by kernel_rfl) ?_
      refine cwp_skip ?_
      refine cwp_seq ?_
      refine cwp_region ?_
      refine lwp_run 10 (by kernel_rfl) ?_
      refine lwp_op (by kernel_rfl) (owp_storeN 0 [.bool ((bAnd .i64 t8.1 4) != 0), .bool ((bAnd .i64 t8.1 2) != 0), .bool ((bAnd .i64 t8.1 1) != 0)] p4.bd o5 (by kernel_rfl) (by kernel_rfl) (by simp [Value.oneCell']) (by kernel_rfl) (Nat.le_of_ble_eq_true rfl) ?_)
      intro h25 p26 o27
      have pt28 := pt6.own p26 (one_nw fr7)
      refine lwp_run 1 (by kernel_rfl) ?_
      refine lwp_nil ?_
      refine cwp_ret ?_
      obtain rfl := Option.some.inj H
      show Exists _
      exact ⟨[.agg #[.bool ((bAnd .i64 t8.1 4) != 0), .bool ((bAnd .i64 t8.1 2) != 0), .bool ((bAnd .i64 t8.1 1) != 0)], .nilIface], (.cons (.agg (by kernel_rfl) (by kernel_rfl) (by kernel_rfl) (o27.seg_ 0 3 (Nat.le_of_ble_eq_true rfl))) (.cons (.tmp (by kernel_rfl)) .nil)), I, (.nilIface), rfl, pt28, (show ErrV I h25 GoErr.nil .nilIface from rfl)⟩
  · rw [if_neg c17] at H
    refine lwp_run 5 (by kernel_rfl) ?_
    refine lwp_nil ?_
    refine cwp_true (by kernel_rfl) ?_
    refine cwp_seq ?_
    refine cwp_region ?_
    refine lwp_run 2 (by kernel_rfl) ?_
    refine lwp_op (by kernel_rfl) (owp_storeN 0 [.bool false, .bool false, .bool false] p4.bd o5 (by kernel_rfl) (by kernel_rfl) (by simp [Value.oneCell']) (by kernel_rfl) (Nat.le_of_ble_eq_true rfl) ?_)
    intro h29 p30 o31
    have pt32 := pt6.own p30 (one_nw fr7)
    refine lwp_run 1 (by kernel_rfl) ?_
    refine lwp_nil ?_
    refine cwp_ret ?_
    obtain rfl := Option.some.inj H
    show Exists _
    exact ⟨[.agg #[.bool false, .bool false, .bool false], .iface 78 (.int .i64 3)], (.cons (.agg (by kernel_rfl) (by kernel_rfl) (by kernel_rfl) (o31.seg_ 0 3 (Nat.le_of_ble_eq_true rfl))) (.cons (.tmp (by kernel_rfl)) .nil)), I, (.iface 78 (.int .i64 3)), rfl, pt32, (show ErrV I h29 (GoErr.no 3) (.iface 78 (.int .i64 3)) from rfl)⟩

end Go.Proofs.YtociikgdocjfnaaDoor.Sx
