/- Printed walks, part 7: each function's model, and that the code comes to it. -/
import Derived.Test.YtociikgdocjfnaaDoorProg
import Derived.Test.YtociikgdocjfnaaDoorSx9
import Derived.Test.YtociikgdocjfnaaDoorG6
namespace Go.Proofs.YtociikgdocjfnaaDoor.Sx
open Go

/-! shutter/shutterlaw08.StreamKeeps -/
def shutterlaw08_StreamKeeps.l1.m (K : Nat) : Nat → (List Int) → Int → Option (Unit)
  | 0, _, _ => none
  | k + 1, x86, x93 => (if x93 < (x86.length : Int) then (if 0 ≤ x93 then (shutterlaw08_StreamKeeps.l1.m K k (x86.set x93.toNat (bXor .u8 (at_ x86 x93) 255)) (w64 (x93 + 1))) else none) else (some (())))
def shutterlaw08_StreamKeeps.l2.m (K : Nat) : Nat → (List Int) → Int → Option (Unit)
  | 0, _, _ => none
  | k + 1, x299, x305 => (if x305 < (x299.length : Int) then (if 0 ≤ x305 then (shutterlaw08_StreamKeeps.l2.m K k (x299.set x305.toNat (bXor .u8 (at_ x299 x305) 255)) (w64 (x305 + 1))) else none) else (some (())))
def shutterlaw08_StreamKeeps.m (K : Nat) (x0 : (List Int)) : Option Bool :=
  ((shutterlaw08_awake.m K).bind fun t5 => bif t5 then (if (x0.length : Int) < 1 then ((shutterlaw08_awake.m K).bind fun t13 => (some t13)) else (if (x0.length : Int) > 200 then ((shutterlaw08_awake.m K).bind fun t22 => (some t22)) else ((app [241, 64] x0).bind fun l40 => ((stream_Read.m K l40 80).bind fun t51 => ((shutterlaw08_StreamKeeps.l1.m K K l40 0).bind fun _ => ((app [241, 64] x0).bind fun l153 => ((stream_Read.m K l153 80).bind fun t168 => (letJ (α := Option Bool) ((stream_Write.m K t51.1 80).bind fun t276 => ((shutterlaw08_StreamKeeps.l2.m K K t276.1 0).bind fun _ => ((shutterref08_Same.m K t51.1 t168.1).bind fun t346 => (some t346)))) fun (j275 : Option Bool) => (if t51.2 = GoErr.nil then (if t168.2 = GoErr.nil then ((shutterref08_Same.m K t51.1 t168.1).bind fun t234 => bif t234 then j275 else (some false)) else (some false)) else (if t168.2 = GoErr.nil then (some false) else ((shutterref08_Same.m K t51.1 t168.1).bind fun t258 => bif t258 then j275 else (some false)))))))))))) else ((shutterlaw08_awake.m K).bind fun t355 => (some t355)))

set_option maxRecDepth 100000 in
theorem shutterlaw08_StreamKeeps.calls {I : Gh} {h : Heap} {K : Nat} {x0 : List Int} {a1 : Option Addr} {c2 : Nat} (hB : Bd I h) (hG : Glob I h) (r4 : Rd (tInt .u8) I h a1 c2 x0) {r : Bool}
    (H : shutterlaw08_StreamKeeps.m K x0 = some r) :
    Ret Tryd.prog 6 #[.slice a1 x0.length c2] h (fun v h' => ∃ (I' : Gh), .bool r = v ∧ Pst No I h I' h') := by
  unfold shutterlaw08_StreamKeeps.m at H
  refine ret_of (args := [.slice a1 x0.length c2]) (rs := [.tmp 2]) (N := 87) Tryd.func6 rfl rfl rfl (Nat.le_of_ble_eq_true rfl) ?_
  have pt0 : Pst No I h I h := Pst.refl hB
  refine cwp_seq ?_
  refine cwp_region ?_
  refine lwp_run 1 (by kernel_rfl) ?_
  refine lwp_nil ?_
  refine cwp_seq ?_
  refine cwp_seq ?_
  refine cwp_region ?_
  obtain ⟨t5, m6, H⟩ := bind_some H
  refine lwp_op (by kernel_rfl) (owp_callF (by kernel_rfl) (shutterlaw08_awake.calls (I := I) hB hG m6) ?_)
  rintro v7 h8 ⟨I9, rfl, p10⟩
  have pt11 := pt0.no p10
  cases t5
  · rw [cond_false] at H
    refine lwp_run 11 (by kernel_rfl) ?_
    refine lwp_nil ?_
    refine cwp_true (by kernel_rfl) ?_
    refine cwp_seq ?_
    refine cwp_region ?_
    obtain ⟨t355, m356, H⟩ := bind_some H
    have f357 := hG.up (p10.up hB (fun _ x => x.elim))
    refine lwp_op (by kernel_rfl) (owp_callF (by kernel_rfl) (shutterlaw08_awake.calls (I := I9) p10.bd f357 m356) ?_)
    rintro v358 h359 ⟨I360, rfl, p361⟩
    have pt362 := pt11.no p361
    refine lwp_run 1 (by kernel_rfl) ?_
    refine lwp_nil ?_
    refine cwp_ret ?_
    obtain rfl := Option.some.inj H
    show Exists _
    exact ⟨.bool t355, by kernel_rfl, I360, rfl, pt362⟩
  · rw [cond_true] at H
    refine lwp_run 4 (by kernel_rfl) ?_
    by_cases c12 : (x0.length : Int) < 1
    · rw [if_pos c12] at H
      refine lwp_op (by kernel_rfl) (owp_pure ((.bool true)) (pr_bool (by kernel_rfl) (decide_eq_true c12)) ?_)
      refine lwp_run 6 (by kernel_rfl) ?_
      refine lwp_nil ?_
      refine cwp_true (by kernel_rfl) ?_
      refine cwp_seq ?_
      refine cwp_region ?_
      obtain ⟨t13, m14, H⟩ := bind_some H
      have f15 := hG.up (p10.up hB (fun _ x => x.elim))
      refine lwp_op (by kernel_rfl) (owp_callF (by kernel_rfl) (shutterlaw08_awake.calls (I := I9) p10.bd f15 m14) ?_)
      rintro v16 h17 ⟨I18, rfl, p19⟩
      have pt20 := pt11.no p19
      refine lwp_run 1 (by kernel_rfl) ?_
      refine lwp_nil ?_
      refine cwp_ret ?_
      obtain rfl := Option.some.inj H
      show Exists _
      exact ⟨.bool t13, by kernel_rfl, I18, rfl, pt20⟩
    · rw [if_neg c12] at H
      refine lwp_op (by kernel_rfl) (owp_pure ((.bool false)) (pr_bool (by kernel_rfl) (decide_eq_false c12)) ?_)
      refine lwp_run 4 (by kernel_rfl) ?_
      by_cases c21 : (x0.length : Int) > 200
      · rw [if_pos c21] at H
        refine lwp_op (by kernel_rfl) (owp_pure ((.bool true)) (pr_bool (by kernel_rfl) (decide_eq_true c21)) ?_)
        refine lwp_run 1 (by kernel_rfl) ?_
        refine lwp_nil ?_
        refine cwp_true (by kernel_rfl) ?_
        refine cwp_seq ?_
        refine cwp_region ?_
        obtain ⟨t22, m23, H⟩ := bind_some H
        have f24 := hG.up (p10.up hB (fun _ x => x.elim))
        refine lwp_op (by kernel_rfl) (owp_callF (by kernel_rfl) (shutterlaw08_awake.calls (I := I9) p10.bd f24 m23) ?_)
        rintro v25 h26 ⟨I27, rfl, p28⟩
        have pt29 := pt11.no p28
        refine lwp_run 1 (by kernel_rfl) ?_
        refine lwp_nil ?_
        refine cwp_ret ?_
        obtain rfl := Option.some.inj H
        show Exists _
        exact ⟨.bool t22, by kernel_rfl, I27, rfl, pt29⟩
      · rw [if_neg c21] at H
        refine lwp_op (by kernel_rfl) (owp_pure ((.bool false)) (pr_bool (by kernel_rfl) (decide_eq_false c21)) ?_)
        refine lwp_run 1 (by kernel_rfl) ?_
        refine lwp_nil ?_
        refine cwp_false (by kernel_rfl) ?_
        refine cwp_skip ?_
        refine cwp_seq ?_
        refine cwp_region ?_
        refine lwp_op (by kernel_rfl) (owp_buildSlice (e := 5) [.int .u8 241, .int .u8 64] 1 (.int .u8 0) p10.bd (by kernel_rfl) (by kernel_rfl) (by kernel_rfl) (by kernel_rfl) (by kernel_rfl) ?_)
        intro b30 h31 hc32 p33 o34
        have pt35 := pt11.no p33
        have w36 := o34.own (l := ([241, 64] : List Int)) (Reps.int (I := I9) (k := .u8) (l := [241, 64]))
        have fw36 := some_nw (M := No) (Nat.le_trans pt11.size hc32)
        refine lwp_run 1 (by kernel_rfl) ?_
        have f38 := r4.up (p10.up hB (fun _ x => x.elim))
        have f39 := f38.up (p33.up p10.bd (fun _ x => x.elim))
        obtain ⟨l40, m41, H⟩ := bind_some H
        refine lwp_op (by kernel_rfl) (owp_app (e := 5) (bytes := 1) (tInt .u8) (by kernel_rfl) (elemOk_of (by kernel_rfl)) rfl rfl p33.bd p33.bd w36 w36.notI (f39.toSl) m41 (by kernel_rfl) (by kernel_rfl) ?_)
        intro a42 c43 h44 p45 o46 fr47
        have pt48 := pt35.own p45 fw36
        have fr50 := nw_step (M := No) (n := h.size) fw36 fr47 pt35.size
        refine lwp_run 1 (by kernel_rfl) ?_
        refine lwp_nil ?_
        refine cwp_seq ?_
        refine cwp_region ?_
        refine lwp_run 1 (by kernel_rfl) ?_
        obtain ⟨t51, m52, H⟩ := bind_some H
        refine lwp_op (by kernel_rfl) (owp_callF (by kernel_rfl) (stream_Read.calls (I := I9) (B := (Fz I9 a42)) p45.bd (bd_fz o46 p45.bd) (Rd.mono (I' := Or2 I9 (Fz I9 a42)) o46.rd (fun _ x => Or.inr x)) m52) ?_)
        rintro v53 h54 ⟨I55, a57, c58, v62, rfl, p56, r60, fr61, q64⟩
        have pt65 := pt48.no p56
        have fr66 := nw_step (M := No) (n := h.size) (fun _ x => x.elim) fr61 pt48.size
        have d67 := step_sl fr61 o46.lt (fun _ _ x => x.elim)
        refine lwp_run 3 (by kernel_rfl) ?_
        refine lwp_op (by kernel_rfl) (owp_alloc [.int .i64 0, .bool false, .bool false, .bool false, .slice none 0 0] (.agg #[.int .i64 0, .bool false, .bool false, .bool false, .slice none 0 0]) p56.bd (by kernel_rfl) (by kernel_rfl) ?_)
        intro b68 h69 hc70 p71 o72
        have pt73 := pt65.no p71
        have fr74 : No b68 ∨ h.size ≤ b68 := .inr (Nat.le_trans pt65.size hc70)
        have f75 := o46.post p45.bd p56 (fun _ x => x.elim) (fun _ _ x => x.elim)
        have d76 := notIn_new f75.lt hc70
        have d77 := notIn_new r60.lt hc70
        refine lwp_op (by kernel_rfl) (owp_storeN 0 [.int .i64 t51.1.Cmd, .bool t51.1.Wcc.Alarm, .bool t51.1.Wcc.Unlock, .bool t51.1.Wcc.Reset, .slice a57 t51.1.Orders.length c58] p71.bd o72 (by kernel_rfl) (by kernel_rfl) (by simp [Value.oneCell']) (by kernel_rfl) (Nat.le_of_ble_eq_true rfl) ?_)
        intro h78 p79 o80
        have pt81 := pt73.own p79 (one_nw fr74)
        refine lwp_run 1 (by kernel_rfl) ?_
        refine lwp_nil ?_
        refine cwp_seq ?_
        refine cwp_seq ?_
        refine cwp_region ?_
        refine lwp_run 1 (by kernel_rfl) ?_
        refine lwp_nil ?_
        refine cwp_block ?_
        have f125 := f39.up (p45.up p33.bd w36.notI)
        have f126 := f125.up (p56.up p45.bd (fun _ x => x.elim))
        have f127 := f126.up (p71.up p56.bd (fun _ x => x.elim))
        have f128 := f127.up (p79.up p71.bd (one_not o72.no))
        have f129 := o46.post p45.bd p56 (fun _ x => x.elim) (fun _ _ x => x.elim)
        have f130 := f129.post p56.bd p71 (fun _ x => x.elim) (fun _ _ x => x.elim)
        have f131 := f130.post p71.bd p79 (one_not o72.no) (dis_one d76)
        have f132 := ErrV.up (p71.up p56.bd (fun _ x => x.elim)) q64
        have f133 := ErrV.up (p79.up p71.bd (one_not o72.no)) f132
        have f134 := r60.post p56.bd p71 (fun _ x => x.elim) (fun _ _ x => x.elim)
        have f135 := f134.post p71.bd p79 (one_not o72.no) (dis_one d77)
        have f136 := hG.up (p10.up hB (fun _ x => x.elim))
        have f137 := f136.up (p33.up p10.bd (fun _ x => x.elim))
        have f138 := f137.up (p45.up p33.bd w36.notI)
        have f139 := f138.up (p56.up p45.bd (fun _ x => x.elim))
        have f140 := f139.up (p71.up p56.bd (fun _ x => x.elim))
        have f141 := f140.up (p79.up p71.bd (one_not o72.no))
        obtain ⟨s100, m109, HR110⟩ := bind_some H
        refine cwp_loopE 0 (fun ρ' h101 => ∃ (I102 : Gh), () = s100 ∧ Fits [(0, .slice a1 x0.length c2), (4, .pointer (some ⟨b68, 0, none⟩)), (5, v62)] ρ' ∧ Pst No I h I102 h101 ∧ Rd (tInt .u8) I102 h101 a1 c2 x0 ∧ ErrV I102 h101 t51.2 v62 ∧ OwnX t_api_Order I102 I102 h101 a57 c58 t51.1.Orders ∧ OwnB I102 h101 b68 [.int .i64 t51.1.Cmd, .bool t51.1.Wcc.Alarm, .bool t51.1.Wcc.Unlock, .bool t51.1.Wcc.Reset, .slice a57 t51.1.Orders.length c58] 54 ∧ Glob I102 h101) ?_ ?_
        · refine cwp_loop (fun k' ρ' h82 => ∃ (x86 : List Int) (x93 : Int) (a87 : Option Addr) (c88 : Nat) (I83 : Gh), shutterlaw08_StreamKeeps.l1.m K k' x86 x93 = some s100 ∧ Fits [(0, .slice a1 x0.length c2), (3, .slice a87 x86.length c88), (4, .pointer (some ⟨b68, 0, none⟩)), (5, v62), (6, .int .i64 x93)] ρ' ∧ Pst No I h I83 h82 ∧ Rd (tInt .u8) I83 h82 a1 c2 x0 ∧ OwnX (tInt .u8) I83 I83 h82 a87 c88 x86 ∧ (∀ b, InA a87 b → No b ∨ h.size ≤ b) ∧ ErrV I83 h82 t51.2 v62 ∧ OwnX t_api_Order I83 I83 h82 a57 c58 t51.1.Orders ∧ OwnB I83 h82 b68 [.int .i64 t51.1.Cmd, .bool t51.1.Wcc.Alarm, .bool t51.1.Wcc.Unlock, .bool t51.1.Wcc.Reset, .slice a57 t51.1.Orders.length c58] 54 ∧ (∀ b, InA a87 b → ¬ InA a57 b) ∧ ¬ InA a87 b68 ∧ Glob I83 h82) K ⟨l40, 0, a42, c43, I55, m109, ⟨by kernel_rfl, by kernel_rfl, by kernel_rfl, by kernel_rfl, by kernel_rfl, trivial⟩, pt81, f128, f131, fr50, f133, f135, o80, (flipD d67), d76, f141⟩ ?_
          clear m109
          rintro k' ρ' h82 ⟨x86, x93, a87, c88, I83, H, hf, pt84, r85, r89, fr91, q92, r94, o95, d96, d97, g98⟩
          cases k' with
          | zero => cases H
          | succ k =>
            rw [shutterlaw08_StreamKeeps.l1.m] at H
            refine cwp_fits _ hf ?_
            refine cwp_seq ?_
            refine cwp_seq ?_
            refine cwp_region ?_
            refine lwp_run 3 (by kernel_rfl) ?_
            by_cases c111 : x93 < (x86.length : Int)
            · rw [if_pos c111] at H
              refine lwp_op (by kernel_rfl) (owp_pure ((.bool true)) (pr_bool (by kernel_rfl) (decide_eq_true c111)) ?_)
              refine lwp_nil ?_
              refine cwp_true (by kernel_rfl) ?_
              refine cwp_skip ?_
              refine cwp_seq ?_
              refine cwp_block ?_
              refine cwp_region ?_
              obtain ⟨c112, H⟩ := guard_pos H
              refine lwp_run 4 (by kernel_rfl) ?_
              have hs113 := (r89.toSl).isSome c112 c111
              refine lwp_op (by kernel_rfl) (owp_pure (elemPtr a87 (x93.toNat * 1)) (pr_indexElem (e := 5) (r89.toSl) (k := .i64) (by kernel_rfl) (by kernel_rfl) (by kernel_rfl) (by kernel_rfl) c112 c111) ?_)
              obtain ⟨cs114, hs115, rp116⟩ := (r89.toSl).seg c112 c111
              obtain rfl := rep_int rp116
              refine lwp_op (by kernel_rfl) (owp_load (by kernel_rfl) (by kernel_rfl) (seg_cell (f := 0) hs115 rfl) ?_)
              refine lwp_run 1 (by kernel_rfl) ?_
              have hs117 := (r89.toSl).isSome c112 c111
              refine lwp_op (by kernel_rfl) (owp_pure (elemPtr a87 (x93.toNat * 1)) (pr_indexElem (e := 5) (r89.toSl) (k := .i64) (by kernel_rfl) (by kernel_rfl) (by kernel_rfl) (by kernel_rfl) c112 c111) ?_)
              obtain ⟨cs118, hs119, rp120⟩ := r89.toSl.seg c112 c111
              obtain rfl := rep_int rp120
              refine lwp_op (by kernel_rfl) (owp_storeElem (tInt .u8) 0 [.int .u8 (bXor .u8 (at_ x86 x93) 255)] ((bXor .u8 (at_ x86 x93) 255)) pt84.bd pt84.bd r89 r89.notI c112 c111 hs119 (by kernel_rfl) (by kernel_rfl) (by kernel_rfl) (by simp [Value.oneCell']) (by kernel_rfl) rfl ?_)
              intro h121 p122 o123
              have pt124 := pt84.own p122 fr91
              refine lwp_nil ?_
              refine cwp_region ?_
              refine lwp_run 3 (by kernel_rfl) ?_
              refine lwp_nil ?_
              have f100001 := r85.up (p122.up pt84.bd r89.notI)
              have f100002 := ErrV.up (p122.up pt84.bd r89.notI) q92
              have f100003 := r94.post pt84.bd p122 r89.notI (flipD d96)
              have f100004 := o95.post p122 d97
              have f100005 := g98.up (p122.up pt84.bd r89.notI)
              show Exists _
              exact ⟨k, Nat.lt_succ_self _, (x86.set x93.toNat (bXor .u8 (at_ x86 x93) 255)), (w64 (x93 + 1)), a87, c88, I83, H, ⟨by kernel_rfl, by rw [List.length_set]; kernel_rfl, by kernel_rfl, by kernel_rfl, by kernel_rfl, trivial⟩, pt124, f100001, o123, fr91, f100002, f100003, f100004, d96, d97, f100005⟩
            · rw [if_neg c111] at H
              refine lwp_op (by kernel_rfl) (owp_pure ((.bool false)) (pr_bool (by kernel_rfl) (decide_eq_false c111)) ?_)
              refine lwp_nil ?_
              refine cwp_false (by kernel_rfl) ?_
              refine cwp_exit ?_
              obtain rfl := Option.some.inj H
              show Exists _
              exact ⟨I83, rfl, ⟨by kernel_rfl, by kernel_rfl, by kernel_rfl, trivial⟩, pt84, r85, q92, r94, o95, g98⟩
        · rintro ρ' h101 ⟨I102, rfl, hf, pt103, r104, q105, r106, o107, g108⟩
          have H := HR110
          try dsimp only at H
          refine cwp_fits _ hf ?_
          refine cwp_seq ?_
          refine cwp_region ?_
          refine lwp_op (by kernel_rfl) (owp_buildSlice (e := 5) [.int .u8 241, .int .u8 64] 1 (.int .u8 0) pt103.bd (by kernel_rfl) (by kernel_rfl) (by kernel_rfl) (by kernel_rfl) (by kernel_rfl) ?_)
          intro b142 h143 hc144 p145 o146
          have pt147 := pt103.no p145
          have w148 := o146.own (l := ([241, 64] : List Int)) (Reps.int (I := I102) (k := .u8) (l := [241, 64]))
          have fw148 := some_nw (M := No) (Nat.le_trans pt103.size hc144)
          have d150 := some_ne (ne_new o107.lt hc144)
          have d151 := some_notIn (notIn_new r106.lt hc144)
          refine lwp_run 1 (by kernel_rfl) ?_
          have f152 := r104.up (p145.up pt103.bd (fun _ x => x.elim))
          obtain ⟨l153, m154, H⟩ := bind_some H
          refine lwp_op (by kernel_rfl) (owp_app (e := 5) (bytes := 1) (tInt .u8) (by kernel_rfl) (elemOk_of (by kernel_rfl)) rfl rfl p145.bd p145.bd w148 w148.notI (f152.toSl) m154 (by kernel_rfl) (by kernel_rfl) ?_)
          intro a155 c156 h157 p158 o159 fr160
          have pt161 := pt147.own p158 fw148
          have fr163 := nw_step (M := No) (n := h.size) fw148 fr160 pt147.size
          have f164 := o107.post p145 (fun x => x.elim)
          have d165 := step_blk fr160 f164.lt d150
          have f166 := r106.post pt103.bd p145 (fun _ x => x.elim) (fun _ _ x => x.elim)
          have d167 := step_sl fr160 f166.lt (flipD d151)
          obtain ⟨t168, m169, H⟩ := bind_some H
          refine lwp_op (by kernel_rfl) (owp_callF (by kernel_rfl) (stream_Read.calls (I := I102) (B := (Fz I102 a155)) p158.bd (bd_fz o159 p158.bd) (Rd.mono (I' := Or2 I102 (Fz I102 a155)) o159.rd (fun _ x => Or.inr x)) m169) ?_)
          rintro v170 h171 ⟨I172, a174, c175, v179, rfl, p173, r177, fr178, q181⟩
          have pt182 := pt161.no p173
          have fr183 := nw_step (M := No) (n := h.size) (fun _ x => x.elim) fr178 pt161.size
          have f184 := o107.post p145 (fun x => x.elim)
          have f185 := f184.post p158 d150
          have d186 := step_blk fr178 f185.lt (fun x => x.elim)
          have f187 := r106.post pt103.bd p145 (fun _ x => x.elim) (fun _ _ x => x.elim)
          have f188 := f187.post p145.bd p158 w148.notI (flipD d151)
          have d189 := step_sl fr178 f188.lt (fun _ _ x => x.elim)
          have d190 := step_sl fr178 o159.lt (fun _ _ x => x.elim)
          refine lwp_run 3 (by kernel_rfl) ?_
          refine lwp_op (by kernel_rfl) (owp_alloc [.int .i64 0, .bool false, .bool false, .bool false, .slice none 0 0] (.agg #[.int .i64 0, .bool false, .bool false, .bool false, .slice none 0 0]) p173.bd (by kernel_rfl) (by kernel_rfl) ?_)
          intro b191 h192 hc193 p194 o195
          have pt196 := pt182.no p194
          have fr197 : No b191 ∨ h.size ≤ b191 := .inr (Nat.le_trans pt182.size hc193)
          have f198 := o107.post p145 (fun x => x.elim)
          have f199 := f198.post p158 d150
          have f200 := f199.post p173 (fun x => x.elim)
          have d201 := ne_new f200.lt hc193
          have f202 := f188.post p158.bd p173 (fun _ x => x.elim) (fun _ _ x => x.elim)
          have d203 := notIn_new f202.lt hc193
          have f204 := o159.post p158.bd p173 (fun _ x => x.elim) (fun _ _ x => x.elim)
          have d205 := notIn_new f204.lt hc193
          have d206 := notIn_new r177.lt hc193
          refine lwp_op (by kernel_rfl) (owp_storeN 0 [.int .i64 t168.1.Cmd, .bool t168.1.Wcc.Alarm, .bool t168.1.Wcc.Unlock, .bool t168.1.Wcc.Reset, .slice a174 t168.1.Orders.length c175] p194.bd o195 (by kernel_rfl) (by kernel_rfl) (by simp [Value.oneCell']) (by kernel_rfl) (Nat.le_of_ble_eq_true rfl) ?_)
          intro h207 p208 o209
          have pt210 := pt196.own p208 (one_nw fr197)
          refine lwp_run 1 (by kernel_rfl) ?_
          refine lwp_nil ?_
          obtain ⟨j275, e354, H⟩ := letJ_some H
          refine cwp_join (fun ρ' h267 => ∃ (I268 : Gh), j275 = some r ∧ Fits [(4, .pointer (some ⟨b68, 0, none⟩)), (7, .pointer (some ⟨b191, 0, none⟩))] ρ' ∧ Pst No I h I268 h267 ∧ OwnX t_api_Order I268 I268 h267 a57 c58 t51.1.Orders ∧ OwnB I268 h267 b68 [.int .i64 t51.1.Cmd, .bool t51.1.Wcc.Alarm, .bool t51.1.Wcc.Unlock, .bool t51.1.Wcc.Reset, .slice a57 t51.1.Orders.length c58] 54 ∧ OwnX t_api_Order I268 I268 h267 a174 c175 t168.1.Orders ∧ OwnB I268 h267 b191 [.int .i64 t168.1.Cmd, .bool t168.1.Wcc.Alarm, .bool t168.1.Wcc.Unlock, .bool t168.1.Wcc.Reset, .slice a174 t168.1.Orders.length c175] 54 ∧ Glob I268 h267) ?_ ?_
          · refine cwp_seq ?_
            refine cwp_regionD (Keep No h207) 11 (by kernel_rfl) ?_
            refine awp_run (fuel := 10) [0] Keep.refl (by kernel_rfl) ?_
            have f211 := ErrV.up (p145.up pt103.bd (fun _ x => x.elim)) q105
            have f212 := ErrV.up (p158.up p145.bd w148.notI) f211
            have f213 := ErrV.up (p173.up p158.bd (fun _ x => x.elim)) f212
            have f214 := ErrV.up (p194.up p173.bd (fun _ x => x.elim)) f213
            have f215 := ErrV.up (p208.up p194.bd (one_not o195.no)) f214
            rcases f215.cases with ⟨c216, rfl⟩ | ⟨c216, t217, u218, rfl⟩
            · rw [if_pos c216] at H
              refine awp_run (fuel := 8) [1, 2] Keep.refl (by kernel_rfl) ?_
              have f219 := ErrV.up (p194.up p173.bd (fun _ x => x.elim)) q181
              have f220 := ErrV.up (p208.up p194.bd (one_not o195.no)) f219
              rcases f220.cases with ⟨c221, rfl⟩ | ⟨c221, t222, u223, rfl⟩
              · rw [if_pos c221] at H
                refine awp_run (fuel := 5) [3, 4, 5] Keep.refl (by kernel_rfl) ?_
                have f224 := o107.post p145 (fun x => x.elim)
                have f225 := f224.post p158 d150
                have f226 := f225.post p173 (fun x => x.elim)
                have f227 := f226.post p194 (fun x => x.elim)
                have f228 := f227.post p208 (fun e => d201 e.symm)
                refine awp_loadN 6 rfl (by kernel_rfl) (by kernel_rfl) (by kernel_rfl) (by kernel_rfl) (by kernel_rfl) Keep.refl (f228.seg_ 0 5 (Nat.le_of_ble_eq_true rfl)) (fun _ _ x => x.elim) ?_
                refine awp_loadN 7 rfl (by kernel_rfl) (by kernel_rfl) (by kernel_rfl) (by kernel_rfl) (by kernel_rfl) Keep.refl (o209.seg_ 0 5 (Nat.le_of_ble_eq_true rfl)) (fun _ _ x => x.elim) ?_
                have f229 := f188.post p158.bd p173 (fun _ x => x.elim) (fun _ _ x => x.elim)
                have f230 := f229.post p173.bd p194 (fun _ x => x.elim) (fun _ _ x => x.elim)
                have f231 := f230.post p194.bd p208 (one_not o195.no) (dis_one d203)
                have f232 := r177.post p173.bd p194 (fun _ x => x.elim) (fun _ _ x => x.elim)
                have f233 := f232.post p194.bd p208 (one_not o195.no) (dis_one d206)
                obtain ⟨t234, m235, H⟩ := bind_some H
                refine awp_op 8 (by kernel_rfl) rfl (by kernel_rfl) (owp_callF (by kernel_rfl) (shutterref08_Same.calls (I := (Fz (Fz I172 a57) a174)) (bd_fz f233 (bd_fz f231 p208.bd)) (Rd.mono (I' := (Fz (Fz I172 a57) a174)) f231.rd (fun _ x => (Or.inl x))) (Rd.mono (I' := (Fz (Fz I172 a57) a174)) f233.rd (fun _ x => (Or.elim x (fun x => (Or.inl (Or.inl x))) (fun x => (Or.inr x))))) m235) ?_)
                rintro v236 h237 ⟨I238, rfl, p239⟩
                have p240 := Pst.forget p239 p208.bd
                have pt241 := pt210.no p240
                have hK242 := Keep.post (M := No) Keep.refl (Nat.le_refl _) p240 (fun _ x => x.elim)
                refine ⟨hK242, ?_⟩
                cases t234
                · rw [cond_false] at H
                  refine awp_run (fuel := 0) [9, 10] hK242 (by kernel_rfl) ?_
                  refine awp_nil (by kernel_rfl) ?_ 0
                  refine cwp_true (by kernel_rfl) ?_
                  refine cwp_seq ?_
                  refine cwp_region ?_
                  refine lwp_run 1 (by kernel_rfl) ?_
                  refine lwp_nil ?_
                  refine cwp_ret ?_
                  obtain rfl := Option.some.inj H
                  show Exists _
                  exact ⟨.bool false, by kernel_rfl, I172, rfl, pt241⟩
                · rw [cond_true] at H
                  refine awp_run (fuel := 0) [9, 10] hK242 (by kernel_rfl) ?_
                  refine awp_nil (by kernel_rfl) ?_ 0
                  refine cwp_false (by kernel_rfl) ?_
                  refine cwp_skip ?_
                  have f100011 := f231.post p208.bd p240 (fun _ x => x.elim) (fun _ _ x => x.elim)
                  have f100012 := o107.post p145 (fun x => x.elim)
                  have f100013 := f100012.post p158 d150
                  have f100014 := f100013.post p173 (fun x => x.elim)
                  have f100015 := f100014.post p194 (fun x => x.elim)
                  have f100016 := f100015.post p208 (fun e => d201 e.symm)
                  have f100017 := f100016.post p240 (fun x => x.elim)
                  have f100018 := f233.post p208.bd p240 (fun _ x => x.elim) (fun _ _ x => x.elim)
                  have f100019 := o209.post p240 (fun x => x.elim)
                  have f100020 := g108.up (p145.up pt103.bd (fun _ x => x.elim))
                  have f100021 := f100020.up (p158.up p145.bd w148.notI)
                  have f100022 := f100021.up (p173.up p158.bd (fun _ x => x.elim))
                  have f100023 := f100022.up (p194.up p173.bd (fun _ x => x.elim))
                  have f100024 := f100023.up (p208.up p194.bd (one_not o195.no))
                  have f100025 := f100024.up (p240.up p208.bd (fun _ x => x.elim))
                  exact ⟨I172, H, ⟨by kernel_rfl, by kernel_rfl, trivial⟩, pt241, f100011, f100017, f100018, f100019, f100025⟩
              · rw [if_neg c221] at H
                refine awp_run (fuel := 0) [3, 4, 5, 6, 7, 8, 9, 10] Keep.refl (by kernel_rfl) ?_
                refine awp_nil (by kernel_rfl) ?_ 0
                refine cwp_true (by kernel_rfl) ?_
                refine cwp_seq ?_
                refine cwp_region ?_
                refine lwp_run 1 (by kernel_rfl) ?_
                refine lwp_nil ?_
                refine cwp_ret ?_
                obtain rfl := Option.some.inj H
                show Exists _
                exact ⟨.bool false, by kernel_rfl, I172, rfl, pt210⟩
            · rw [if_neg c216] at H
              refine awp_run (fuel := 8) [1, 2] Keep.refl (by kernel_rfl) ?_
              have f243 := ErrV.up (p194.up p173.bd (fun _ x => x.elim)) q181
              have f244 := ErrV.up (p208.up p194.bd (one_not o195.no)) f243
              rcases f244.cases with ⟨c245, rfl⟩ | ⟨c245, t246, u247, rfl⟩
              · rw [if_pos c245] at H
                refine awp_run (fuel := 0) [3, 4, 5, 6, 7, 8, 9, 10] Keep.refl (by kernel_rfl) ?_
                refine awp_nil (by kernel_rfl) ?_ 0
                refine cwp_true (by kernel_rfl) ?_
                refine cwp_seq ?_
                refine cwp_region ?_
                refine lwp_run 1 (by kernel_rfl) ?_
                refine lwp_nil ?_
                refine cwp_ret ?_
                obtain rfl := Option.some.inj H
                show Exists _
                exact ⟨.bool false, by kernel_rfl, I172, rfl, pt210⟩
              · rw [if_neg c245] at H
                refine awp_run (fuel := 5) [3, 4, 5] Keep.refl (by kernel_rfl) ?_
                have f248 := o107.post p145 (fun x => x.elim)
                have f249 := f248.post p158 d150
                have f250 := f249.post p173 (fun x => x.elim)
                have f251 := f250.post p194 (fun x => x.elim)
                have f252 := f251.post p208 (fun e => d201 e.symm)
                refine awp_loadN 6 rfl (by kernel_rfl) (by kernel_rfl) (by kernel_rfl) (by kernel_rfl) (by kernel_rfl) Keep.refl (f252.seg_ 0 5 (Nat.le_of_ble_eq_true rfl)) (fun _ _ x => x.elim) ?_
                refine awp_loadN 7 rfl (by kernel_rfl) (by kernel_rfl) (by kernel_rfl) (by kernel_rfl) (by kernel_rfl) Keep.refl (o209.seg_ 0 5 (Nat.le_of_ble_eq_true rfl)) (fun _ _ x => x.elim) ?_
                have f253 := f188.post p158.bd p173 (fun _ x => x.elim) (fun _ _ x => x.elim)
                have f254 := f253.post p173.bd p194 (fun _ x => x.elim) (fun _ _ x => x.elim)
                have f255 := f254.post p194.bd p208 (one_not o195.no) (dis_one d203)
                have f256 := r177.post p173.bd p194 (fun _ x => x.elim) (fun _ _ x => x.elim)
                have f257 := f256.post p194.bd p208 (one_not o195.no) (dis_one d206)
                obtain ⟨t258, m259, H⟩ := bind_some H
                refine awp_op 8 (by kernel_rfl) rfl (by kernel_rfl) (owp_callF (by kernel_rfl) (shutterref08_Same.calls (I := (Fz (Fz I172 a57) a174)) (bd_fz f257 (bd_fz f255 p208.bd)) (Rd.mono (I' := (Fz (Fz I172 a57) a174)) f255.rd (fun _ x => (Or.inl x))) (Rd.mono (I' := (Fz (Fz I172 a57) a174)) f257.rd (fun _ x => (Or.elim x (fun x => (Or.inl (Or.inl x))) (fun x => (Or.inr x))))) m259) ?_)
                rintro v260 h261 ⟨I262, rfl, p263⟩
                have p264 := Pst.forget p263 p208.bd
                have pt265 := pt210.no p264
                have hK266 := Keep.post (M := No) Keep.refl (Nat.le_refl _) p264 (fun _ x => x.elim)
                refine ⟨hK266, ?_⟩
                cases t258
                · rw [cond_false] at H
                  refine awp_run (fuel := 0) [9, 10] hK266 (by kernel_rfl) ?_
                  refine awp_nil (by kernel_rfl) ?_ 0
                  refine cwp_true (by kernel_rfl) ?_
                  refine cwp_seq ?_
                  refine cwp_region ?_
                  refine lwp_run 1 (by kernel_rfl) ?_
                  refine lwp_nil ?_
                  refine cwp_ret ?_
                  obtain rfl := Option.some.inj H
                  show Exists _
                  exact ⟨.bool false, by kernel_rfl, I172, rfl, pt265⟩
                · rw [cond_true] at H
                  refine awp_run (fuel := 0) [9, 10] hK266 (by kernel_rfl) ?_
                  refine awp_nil (by kernel_rfl) ?_ 0
                  refine cwp_false (by kernel_rfl) ?_
                  refine cwp_skip ?_
                  have f100026 := f255.post p208.bd p264 (fun _ x => x.elim) (fun _ _ x => x.elim)
                  have f100027 := o107.post p145 (fun x => x.elim)
                  have f100028 := f100027.post p158 d150
                  have f100029 := f100028.post p173 (fun x => x.elim)
                  have f100030 := f100029.post p194 (fun x => x.elim)
                  have f100031 := f100030.post p208 (fun e => d201 e.symm)
                  have f100032 := f100031.post p264 (fun x => x.elim)
                  have f100033 := f257.post p208.bd p264 (fun _ x => x.elim) (fun _ _ x => x.elim)
                  have f100034 := o209.post p264 (fun x => x.elim)
                  have f100035 := g108.up (p145.up pt103.bd (fun _ x => x.elim))
                  have f100036 := f100035.up (p158.up p145.bd w148.notI)
                  have f100037 := f100036.up (p173.up p158.bd (fun _ x => x.elim))
                  have f100038 := f100037.up (p194.up p173.bd (fun _ x => x.elim))
                  have f100039 := f100038.up (p208.up p194.bd (one_not o195.no))
                  have f100040 := f100039.up (p264.up p208.bd (fun _ x => x.elim))
                  exact ⟨I172, H, ⟨by kernel_rfl, by kernel_rfl, trivial⟩, pt265, f100026, f100032, f100033, f100034, f100040⟩
          · clear H
            rintro ρ' h267 ⟨I268, H, hf, pt269, r270, o271, r272, o273, g274⟩
            refine cwp_fits _ hf ?_
            subst e354
            try dsimp only at H
            refine cwp_seq ?_
            refine cwp_region ?_
            refine lwp_op (by kernel_rfl) (owp_loadN (by kernel_rfl) (by kernel_rfl) (by kernel_rfl) (o271.seg_ 0 5 (Nat.le_of_ble_eq_true rfl)) ?_)
            obtain ⟨t276, m277, H⟩ := bind_some H
            refine lwp_op (by kernel_rfl) (owp_callF (by kernel_rfl) (stream_Write.calls (I := I268) (B := (Fz I268 a57)) pt269.bd (bd_fz r270 pt269.bd) (Rd.mono (I' := Or2 I268 (Fz I268 a57)) r270.rd (fun _ x => Or.inr x)) m277) ?_)
            rintro v278 h279 ⟨I280, a282, c283, v287, rfl, p281, r285, fr286, q289⟩
            have pt290 := pt269.no p281
            have fr291 := nw_step (M := No) (n := h.size) (fun _ x => x.elim) fr286 pt269.size
            have d292 := step_blk fr286 o271.lt (fun x => x.elim)
            have d293 := step_blk fr286 o273.lt (fun x => x.elim)
            have d294 := step_sl fr286 r270.lt (fun _ _ x => x.elim)
            have d295 := step_sl fr286 r272.lt (fun _ _ x => x.elim)
            refine lwp_run 5 (by kernel_rfl) ?_
            refine lwp_nil ?_
            refine cwp_seq ?_
            refine cwp_seq ?_
            refine cwp_region ?_
            refine lwp_run 1 (by kernel_rfl) ?_
            refine lwp_nil ?_
            refine cwp_block ?_
            have f341 := r270.post pt269.bd p281 (fun _ x => x.elim) (fun _ _ x => x.elim)
            have f342 := o271.post p281 (fun x => x.elim)
            have f343 := r272.post pt269.bd p281 (fun _ x => x.elim) (fun _ _ x => x.elim)
            have f344 := o273.post p281 (fun x => x.elim)
            have f345 := g274.up (p281.up pt269.bd (fun _ x => x.elim))
            obtain ⟨s316, m325, HR326⟩ := bind_some H
            refine cwp_loopE 2 (fun ρ' h317 => ∃ (I318 : Gh), () = s316 ∧ Fits [(4, .pointer (some ⟨b68, 0, none⟩)), (7, .pointer (some ⟨b191, 0, none⟩))] ρ' ∧ Pst No I h I318 h317 ∧ OwnX t_api_Order I318 I318 h317 a57 c58 t51.1.Orders ∧ OwnB I318 h317 b68 [.int .i64 t51.1.Cmd, .bool t51.1.Wcc.Alarm, .bool t51.1.Wcc.Unlock, .bool t51.1.Wcc.Reset, .slice a57 t51.1.Orders.length c58] 54 ∧ OwnX t_api_Order I318 I318 h317 a174 c175 t168.1.Orders ∧ OwnB I318 h317 b191 [.int .i64 t168.1.Cmd, .bool t168.1.Wcc.Alarm, .bool t168.1.Wcc.Unlock, .bool t168.1.Wcc.Reset, .slice a174 t168.1.Orders.length c175] 54 ∧ Glob I318 h317) ?_ ?_
            · refine cwp_loop (fun k' ρ' h296 => ∃ (x299 : List Int) (x305 : Int) (a300 : Option Addr) (c301 : Nat) (I297 : Gh), shutterlaw08_StreamKeeps.l2.m K k' x299 x305 = some s316 ∧ Fits [(4, .pointer (some ⟨b68, 0, none⟩)), (7, .pointer (some ⟨b191, 0, none⟩)), (9, .slice a300 x299.length c301), (11, .int .i64 x305)] ρ' ∧ Pst No I h I297 h296 ∧ OwnX (tInt .u8) I297 I297 h296 a300 c301 x299 ∧ (∀ b, InA a300 b → No b ∨ h.size ≤ b) ∧ OwnX t_api_Order I297 I297 h296 a57 c58 t51.1.Orders ∧ OwnB I297 h296 b68 [.int .i64 t51.1.Cmd, .bool t51.1.Wcc.Alarm, .bool t51.1.Wcc.Unlock, .bool t51.1.Wcc.Reset, .slice a57 t51.1.Orders.length c58] 54 ∧ OwnX t_api_Order I297 I297 h296 a174 c175 t168.1.Orders ∧ OwnB I297 h296 b191 [.int .i64 t168.1.Cmd, .bool t168.1.Wcc.Alarm, .bool t168.1.Wcc.Unlock, .bool t168.1.Wcc.Reset, .slice a174 t168.1.Orders.length c175] 54 ∧ (∀ b, InA a300 b → ¬ InA a57 b) ∧ (∀ b, InA a300 b → ¬ InA a174 b) ∧ ¬ InA a300 b68 ∧ ¬ InA a300 b191 ∧ Glob I297 h296) K ⟨t276.1, 0, a282, c283, I280, m325, ⟨by kernel_rfl, by kernel_rfl, by kernel_rfl, by kernel_rfl, trivial⟩, pt290, r285, fr291, f341, f342, f343, f344, d294, d295, d292, d293, f345⟩ ?_
              clear m325
              rintro k' ρ' h296 ⟨x299, x305, a300, c301, I297, H, hf, pt298, r302, fr304, r306, o307, r308, o309, d310, d311, d312, d313, g314⟩
              cases k' with
              | zero => cases H
              | succ k =>
                rw [shutterlaw08_StreamKeeps.l2.m] at H
                refine cwp_fits _ hf ?_
                refine cwp_seq ?_
                refine cwp_seq ?_
                refine cwp_region ?_
                refine lwp_run 3 (by kernel_rfl) ?_
                by_cases c327 : x305 < (x299.length : Int)
                · rw [if_pos c327] at H
                  refine lwp_op (by kernel_rfl) (owp_pure ((.bool true)) (pr_bool (by kernel_rfl) (decide_eq_true c327)) ?_)
                  refine lwp_nil ?_
                  refine cwp_true (by kernel_rfl) ?_
                  refine cwp_skip ?_
                  refine cwp_seq ?_
                  refine cwp_block ?_
                  refine cwp_region ?_
                  obtain ⟨c328, H⟩ := guard_pos H
                  refine lwp_run 4 (by kernel_rfl) ?_
                  have hs329 := (r302.toSl).isSome c328 c327
                  refine lwp_op (by kernel_rfl) (owp_pure (elemPtr a300 (x305.toNat * 1)) (pr_indexElem (e := 5) (r302.toSl) (k := .i64) (by kernel_rfl) (by kernel_rfl) (by kernel_rfl) (by kernel_rfl) c328 c327) ?_)
                  obtain ⟨cs330, hs331, rp332⟩ := (r302.toSl).seg c328 c327
                  obtain rfl := rep_int rp332
                  refine lwp_op (by kernel_rfl) (owp_load (by kernel_rfl) (by kernel_rfl) (seg_cell (f := 0) hs331 rfl) ?_)
                  refine lwp_run 1 (by kernel_rfl) ?_
                  have hs333 := (r302.toSl).isSome c328 c327
                  refine lwp_op (by kernel_rfl) (owp_pure (elemPtr a300 (x305.toNat * 1)) (pr_indexElem (e := 5) (r302.toSl) (k := .i64) (by kernel_rfl) (by kernel_rfl) (by kernel_rfl) (by kernel_rfl) c328 c327) ?_)
                  obtain ⟨cs334, hs335, rp336⟩ := r302.toSl.seg c328 c327
                  obtain rfl := rep_int rp336
                  refine lwp_op (by kernel_rfl) (owp_storeElem (tInt .u8) 0 [.int .u8 (bXor .u8 (at_ x299 x305) 255)] ((bXor .u8 (at_ x299 x305) 255)) pt298.bd pt298.bd r302 r302.notI c328 c327 hs335 (by kernel_rfl) (by kernel_rfl) (by kernel_rfl) (by simp [Value.oneCell']) (by kernel_rfl) rfl ?_)
                  intro h337 p338 o339
                  have pt340 := pt298.own p338 fr304
                  refine lwp_nil ?_
                  refine cwp_region ?_
                  refine lwp_run 3 (by kernel_rfl) ?_
                  refine lwp_nil ?_
                  have f100006 := r306.post pt298.bd p338 r302.notI (flipD d310)
                  have f100007 := o307.post p338 d312
                  have f100008 := r308.post pt298.bd p338 r302.notI (flipD d311)
                  have f100009 := o309.post p338 d313
                  have f100010 := g314.up (p338.up pt298.bd r302.notI)
                  show Exists _
                  exact ⟨k, Nat.lt_succ_self _, (x299.set x305.toNat (bXor .u8 (at_ x299 x305) 255)), (w64 (x305 + 1)), a300, c301, I297, H, ⟨by kernel_rfl, by kernel_rfl, by rw [List.length_set]; kernel_rfl, by kernel_rfl, trivial⟩, pt340, o339, fr304, f100006, f100007, f100008, f100009, d310, d311, d312, d313, f100010⟩
                · rw [if_neg c327] at H
                  refine lwp_op (by kernel_rfl) (owp_pure ((.bool false)) (pr_bool (by kernel_rfl) (decide_eq_false c327)) ?_)
                  refine lwp_nil ?_
                  refine cwp_false (by kernel_rfl) ?_
                  refine cwp_exit ?_
                  obtain rfl := Option.some.inj H
                  show Exists _
                  exact ⟨I297, rfl, ⟨by kernel_rfl, by kernel_rfl, trivial⟩, pt298, r306, o307, r308, o309, g314⟩
            · rintro ρ' h317 ⟨I318, rfl, hf, pt319, r320, o321, r322, o323, g324⟩
              have H := HR326
              try dsimp only at H
              refine cwp_fits _ hf ?_
              refine cwp_seq ?_
              refine cwp_region ?_
              refine lwp_op (by kernel_rfl) (owp_loadN (by kernel_rfl) (by kernel_rfl) (by kernel_rfl) (o321.seg_ 0 5 (Nat.le_of_ble_eq_true rfl)) ?_)
              refine lwp_op (by kernel_rfl) (owp_loadN (by kernel_rfl) (by kernel_rfl) (by kernel_rfl) (o323.seg_ 0 5 (Nat.le_of_ble_eq_true rfl)) ?_)
              obtain ⟨t346, m347, H⟩ := bind_some H
              refine lwp_op (by kernel_rfl) (owp_callF (by kernel_rfl) (shutterref08_Same.calls (I := (Fz (Fz I318 a57) a174)) (bd_fz r322 (bd_fz r320 pt319.bd)) (Rd.mono (I' := (Fz (Fz I318 a57) a174)) r320.rd (fun _ x => (Or.inl x))) (Rd.mono (I' := (Fz (Fz I318 a57) a174)) r322.rd (fun _ x => (Or.elim x (fun x => (Or.inl (Or.inl x))) (fun x => (Or.inr x))))) m347) ?_)
              rintro v348 h349 ⟨I350, rfl, p351⟩
              have p352 := Pst.forget p351 pt319.bd
              have pt353 := pt319.no p352
              refine lwp_run 1 (by kernel_rfl) ?_
              refine lwp_nil ?_
              refine cwp_ret ?_
              obtain rfl := Option.some.inj H
              show Exists _
              exact ⟨.bool t346, by kernel_rfl, I318, rfl, pt353⟩

/-! shutter/shutterlaw08.StreamLengths -/
def shutterlaw08_StreamLengths.l1.m (K : Nat) (x0 : api_Out) : Nat → Int → Int → Option (Int)
  | 0, _, _ => none
  | k + 1, x79, x80 => (if x80 < (x0.Orders.length : Int) then (if 0 ≤ x80 then (if 0 ≤ (at_ x0.Orders x80).Kind then (if (at_ x0.Orders x80).Kind < ([0, 0, 2, 3, 1, 1, 4, 3].length : Int) then (shutterlaw08_StreamLengths.l1.m K x0 k (w64 ((w64 (x79 + (((at_ x0.Orders x80).Text).length : Int))) + (at_ [0, 0, 2, 3, 1, 1, 4, 3] ((at_ x0.Orders x80).Kind)))) (w64 (x80 + 1))) else none) else none) else none) else (some (x79)))
def shutterlaw08_StreamLengths.m (K : Nat) (x0 : api_Out) (x1 : Int) : Option Bool :=
  ((shutterlaw08_awake.m K).bind fun t12 => bif t12 then ((shutterref08_Few.m K x0).bind fun t23 => bif t23 then ((shutterlaw08_size.m x1).bind fun t31 => ((stream_Write.m K x0 t31).bind fun t38 => (if t38.2 = GoErr.nil then (letJ (α := Int → Option Bool) (fun (x70 : Int) => ((shutterlaw08_StreamLengths.l1.m K x0 K x70 0).bind fun x90 => (if (t38.1.length : Int) = x90 then (if 0 < (t38.1.length : Int) then (if (w64 ((at_ t38.1 0))) = x0.Cmd then (some (decide (x90 ≤ 8192))) else (some false)) else none) else (some false)))) fun (j74 : Int → Option Bool) => ((stream_Writes.m x0.Cmd).bind fun t60 => bif t60 then (j74 2) else (j74 1))) else (some ((t38.1.length : Int) == 0))))) else ((shutterlaw08_awake.m K).bind fun t132 => (some t132))) else ((shutterlaw08_awake.m K).bind fun t141 => (some t141)))

set_option maxRecDepth 100000 in
theorem shutterlaw08_StreamLengths.calls {I : Gh} {h : Heap} {K : Nat} {x0 : api_Out} {a1 : Option Addr} {c2 : Nat} {x1 : Int} (hB : Bd I h) (hG : Glob I h) (r4 : Rd t_api_Order I h a1 c2 x0.Orders) {r : Bool}
    (H : shutterlaw08_StreamLengths.m K x0 x1 = some r) :
    Ret Tryd.prog 7 #[.agg #[.int .i64 x0.Cmd, .bool x0.Wcc.Alarm, .bool x0.Wcc.Unlock, .bool x0.Wcc.Reset, .slice a1 x0.Orders.length c2], .int .u16 x1] h (fun v h' => ∃ (I' : Gh), .bool r = v ∧ Pst No I h I' h') := by
  unfold shutterlaw08_StreamLengths.m at H
  refine ret_of (args := [.agg #[.int .i64 x0.Cmd, .bool x0.Wcc.Alarm, .bool x0.Wcc.Unlock, .bool x0.Wcc.Reset, .slice a1 x0.Orders.length c2], .int .u16 x1]) (rs := [.tmp 4]) (N := 77) Tryd.func7 rfl rfl rfl (Nat.le_of_ble_eq_true rfl) ?_
  have pt0 : Pst No I h I h := Pst.refl hB
  refine cwp_seq ?_
  refine cwp_region ?_
  refine lwp_op (by kernel_rfl) (owp_box [.int .i64 x0.Cmd, .bool x0.Wcc.Alarm, .bool x0.Wcc.Unlock, .bool x0.Wcc.Reset, .slice a1 x0.Orders.length c2] hB (by kernel_rfl) ?_)
  intro b5 h6 hc7 p8 o9
  have pt10 := pt0.no p8
  have fr11 : No b5 ∨ h.size ≤ b5 := .inr (Nat.le_trans pt0.size hc7)
  refine lwp_run 1 (by kernel_rfl) ?_
  refine lwp_nil ?_
  refine cwp_seq ?_
  refine cwp_seq ?_
  refine cwp_region ?_
  obtain ⟨t12, m13, H⟩ := bind_some H
  have f14 := hG.up (p8.up hB (fun _ x => x.elim))
  refine lwp_op (by kernel_rfl) (owp_callF (by kernel_rfl) (shutterlaw08_awake.calls (I := I) p8.bd f14 m13) ?_)
  rintro v15 h16 ⟨I17, rfl, p18⟩
  have pt19 := pt10.no p18
  cases t12
  · rw [cond_false] at H
    refine lwp_run 6 (by kernel_rfl) ?_
    refine lwp_nil ?_
    refine cwp_true (by kernel_rfl) ?_
    refine cwp_seq ?_
    refine cwp_region ?_
    obtain ⟨t141, m142, H⟩ := bind_some H
    have f143 := f14.up (p18.up p8.bd (fun _ x => x.elim))
    refine lwp_op (by kernel_rfl) (owp_callF (by kernel_rfl) (shutterlaw08_awake.calls (I := I17) p18.bd f143 m142) ?_)
    rintro v144 h145 ⟨I146, rfl, p147⟩
    have pt148 := pt19.no p147
    refine lwp_run 1 (by kernel_rfl) ?_
    refine lwp_nil ?_
    refine cwp_ret ?_
    obtain rfl := Option.some.inj H
    show Exists _
    exact ⟨.bool t141, by kernel_rfl, I146, rfl, pt148⟩
  · rw [cond_true] at H
    refine lwp_run 2 (by kernel_rfl) ?_
    have f20 := o9.post p18 (fun x => x.elim)
    refine lwp_op (by kernel_rfl) (owp_loadN (by kernel_rfl) (by kernel_rfl) (by kernel_rfl) (f20.seg_ 0 5 (Nat.le_of_ble_eq_true rfl)) ?_)
    have f21 := r4.up (p8.up hB (fun _ x => x.elim))
    have f22 := f21.up (p18.up p8.bd (fun _ x => x.elim))
    obtain ⟨t23, m24, H⟩ := bind_some H
    refine lwp_op (by kernel_rfl) (owp_callF (by kernel_rfl) (shutterref08_Few.calls (I := I17) p18.bd f22 m24) ?_)
    rintro v25 h26 ⟨I27, rfl, p28⟩
    have pt29 := pt19.no p28
    cases t23
    · rw [cond_false] at H
      refine lwp_run 2 (by kernel_rfl) ?_
      refine lwp_nil ?_
      refine cwp_true (by kernel_rfl) ?_
      refine cwp_seq ?_
      refine cwp_region ?_
      obtain ⟨t132, m133, H⟩ := bind_some H
      have f134 := f14.up (p18.up p8.bd (fun _ x => x.elim))
      have f135 := f134.up (p28.up p18.bd (fun _ x => x.elim))
      refine lwp_op (by kernel_rfl) (owp_callF (by kernel_rfl) (shutterlaw08_awake.calls (I := I27) p28.bd f135 m133) ?_)
      rintro v136 h137 ⟨I138, rfl, p139⟩
      have pt140 := pt29.no p139
      refine lwp_run 1 (by kernel_rfl) ?_
      refine lwp_nil ?_
      refine cwp_ret ?_
      obtain rfl := Option.some.inj H
      show Exists _
      exact ⟨.bool t132, by kernel_rfl, I138, rfl, pt140⟩
    · rw [cond_true] at H
      refine lwp_run 2 (by kernel_rfl) ?_
      refine lwp_nil ?_
      refine cwp_false (by kernel_rfl) ?_
      refine cwp_skip ?_
      refine cwp_seq ?_
      refine cwp_regionD (Keep No h26) 9 (by kernel_rfl) ?_
      have f30 := f20.post p28 (fun x => x.elim)
      refine awp_loadN 0 rfl (by kernel_rfl) (by kernel_rfl) (by kernel_rfl) (by kernel_rfl) (by kernel_rfl) Keep.refl (f30.seg_ 0 5 (Nat.le_of_ble_eq_true rfl)) (fun _ _ x => x.elim) ?_
      refine awp_run (fuel := 7) [1] Keep.refl (by kernel_rfl) ?_
      obtain ⟨t31, m32, H⟩ := bind_some H
      refine awp_op 2 (by kernel_rfl) rfl (by kernel_rfl) (owp_callF (by kernel_rfl) (shutterlaw08_size.calls (I := I27) p28.bd m32) ?_)
      rintro v33 h34 ⟨_, rfl, rfl⟩
      refine ⟨Keep.refl, ?_⟩
      have f37 := f22.up (p28.up p18.bd (fun _ x => x.elim))
      obtain ⟨t38, m39, H⟩ := bind_some H
      refine awp_op 3 (by kernel_rfl) rfl (by kernel_rfl) (owp_callF (by kernel_rfl) (stream_Write.calls (I := I27) (B := I27) p28.bd p28.bd (Rd.mono (I' := Or2 I27 I27) f37 (fun _ x => Or.inr x)) m39) ?_)
      rintro v40 h41 ⟨I42, a44, c45, v49, rfl, p43, r47, fr48, q51⟩
      have pt52 := pt29.no p43
      have fr53 := nw_step (M := No) (n := h.size) (fun _ x => x.elim) fr48 pt29.size
      have d54 := step_blk fr48 f30.lt (fun x => x.elim)
      have hK55 := Keep.post (M := No) Keep.refl (Nat.le_refl _) p43 (fun _ x => x.elim)
      refine ⟨hK55, ?_⟩
      refine awp_run (fuel := 0) [4, 5, 6, 7, 8] hK55 (by kernel_rfl) ?_
      refine awp_nil (by kernel_rfl) ?_ 0
      refine cwp_seq ?_
      refine cwp_seq ?_
      refine cwp_region ?_
      refine lwp_run 1 (by kernel_rfl) ?_
      rcases q51.cases with ⟨c56, rfl⟩ | ⟨c56, t57, u58, rfl⟩
      · rw [if_pos c56] at H
        refine lwp_run 1 (by kernel_rfl) ?_
        refine lwp_nil ?_
        refine cwp_false (by kernel_rfl) ?_
        refine cwp_skip ?_
        refine cwp_seq ?_
        refine cwp_region ?_
        refine lwp_run 1 (by kernel_rfl) ?_
        refine lwp_nil ?_
        obtain ⟨j74, e131, H⟩ := letJ_some H
        refine cwp_join (fun ρ' h66 => ∃ (x70 : Int) (I67 : Gh), j74 x70 = some r ∧ Fits [(2, .pointer (some ⟨b5, 0, none⟩)), (5, .slice a44 t38.1.length c45), (7, .int .i64 x70)] ρ' ∧ Pst No I h I67 h66 ∧ OwnX (tInt .u8) I67 I67 h66 a44 c45 t38.1 ∧ Rd t_api_Order I67 h66 a1 c2 x0.Orders ∧ OwnB I67 h66 b5 [.int .i64 x0.Cmd, .bool x0.Wcc.Alarm, .bool x0.Wcc.Unlock, .bool x0.Wcc.Reset, .slice a1 x0.Orders.length c2] 54 ∧ Glob I67 h66) ?_ ?_
        · refine cwp_seq ?_
          refine cwp_region ?_
          refine lwp_run 1 (by kernel_rfl) ?_
          have f59 := f30.post p43 (fun x => x.elim)
          refine lwp_op (by kernel_rfl) (owp_load (by kernel_rfl) (by kernel_rfl) (f59.cell (off := 0) rfl) ?_)
          obtain ⟨t60, m61, H⟩ := bind_some H
          refine lwp_op (by kernel_rfl) (owp_callF (by kernel_rfl) (stream_Writes.calls (I := I42) p43.bd m61) ?_)
          rintro v62 h63 ⟨_, rfl, rfl⟩
          cases t60
          · rw [cond_false] at H
            refine lwp_nil ?_
            refine cwp_false (by kernel_rfl) ?_
            refine cwp_skip ?_
            have f100009 := f37.up (p43.up p28.bd (fun _ x => x.elim))
            have f100010 := f14.up (p18.up p8.bd (fun _ x => x.elim))
            have f100011 := f100010.up (p28.up p18.bd (fun _ x => x.elim))
            have f100012 := f100011.up (p43.up p28.bd (fun _ x => x.elim))
            exact ⟨1, I42, H, ⟨by kernel_rfl, by kernel_rfl, by kernel_rfl, trivial⟩, pt52, r47, f100009, f59, f100012⟩
          · rw [cond_true] at H
            refine lwp_nil ?_
            refine cwp_true (by kernel_rfl) ?_
            refine cwp_region ?_
            refine lwp_run 1 (by kernel_rfl) ?_
            refine lwp_nil ?_
            have f100005 := f37.up (p43.up p28.bd (fun _ x => x.elim))
            have f100006 := f14.up (p18.up p8.bd (fun _ x => x.elim))
            have f100007 := f100006.up (p28.up p18.bd (fun _ x => x.elim))
            have f100008 := f100007.up (p43.up p28.bd (fun _ x => x.elim))
            exact ⟨2, I42, H, ⟨by kernel_rfl, by kernel_rfl, by kernel_rfl, trivial⟩, pt52, r47, f100005, f59, f100008⟩
        · clear H
          rintro ρ' h66 ⟨x70, I67, H, hf, pt68, r69, r71, o72, g73⟩
          refine cwp_fits _ hf ?_
          subst e131
          try dsimp only at H
          refine cwp_seq ?_
          refine cwp_seq ?_
          refine cwp_region ?_
          refine lwp_run 1 (by kernel_rfl) ?_
          refine lwp_nil ?_
          refine cwp_block ?_
          obtain ⟨s85, m94, HR95⟩ := bind_some H
          refine cwp_loopE 0 (fun ρ' h86 => ∃ (x90 : Int) (I87 : Gh), x90 = s85 ∧ Fits [(2, .pointer (some ⟨b5, 0, none⟩)), (5, .slice a44 t38.1.length c45), (7, .int .i64 x90)] ρ' ∧ Pst No I h I87 h86 ∧ OwnX (tInt .u8) I87 I87 h86 a44 c45 t38.1 ∧ Rd t_api_Order I87 h86 a1 c2 x0.Orders ∧ OwnB I87 h86 b5 [.int .i64 x0.Cmd, .bool x0.Wcc.Alarm, .bool x0.Wcc.Unlock, .bool x0.Wcc.Reset, .slice a1 x0.Orders.length c2] 54 ∧ Glob I87 h86) ?_ ?_
          · refine cwp_loop (fun k' ρ' h75 => ∃ (x79 : Int) (x80 : Int) (I76 : Gh), shutterlaw08_StreamLengths.l1.m K x0 k' x79 x80 = some s85 ∧ Fits [(2, .pointer (some ⟨b5, 0, none⟩)), (5, .slice a44 t38.1.length c45), (7, .int .i64 x79), (8, .int .i64 x80)] ρ' ∧ Pst No I h I76 h75 ∧ OwnX (tInt .u8) I76 I76 h75 a44 c45 t38.1 ∧ Rd t_api_Order I76 h75 a1 c2 x0.Orders ∧ OwnB I76 h75 b5 [.int .i64 x0.Cmd, .bool x0.Wcc.Alarm, .bool x0.Wcc.Unlock, .bool x0.Wcc.Reset, .slice a1 x0.Orders.length c2] 54 ∧ Glob I76 h75) K ⟨x70, 0, I67, m94, ⟨by kernel_rfl, by kernel_rfl, by kernel_rfl, by kernel_rfl, trivial⟩, pt68, r69, r71, o72, g73⟩ ?_
            clear m94
            rintro k' ρ' h75 ⟨x79, x80, I76, H, hf, pt77, r78, r81, o82, g83⟩
            cases k' with
            | zero => cases H
            | succ k =>
              rw [shutterlaw08_StreamLengths.l1.m] at H
              refine cwp_fits _ hf ?_
              refine cwp_seq ?_
              refine cwp_seq ?_
              refine cwp_region ?_
              refine lwp_run 2 (by kernel_rfl) ?_
              refine lwp_op (by kernel_rfl) (owp_load (by kernel_rfl) (by kernel_rfl) (o82.cell (off := 4) rfl) ?_)
              refine lwp_run 1 (by kernel_rfl) ?_
              by_cases c96 : x80 < (x0.Orders.length : Int)
              · rw [if_pos c96] at H
                refine lwp_op (by kernel_rfl) (owp_pure ((.bool true)) (pr_bool (by kernel_rfl) (decide_eq_true c96)) ?_)
                refine lwp_nil ?_
                refine cwp_true (by kernel_rfl) ?_
                refine cwp_skip ?_
                refine cwp_seq ?_
                refine cwp_block ?_
                refine cwp_seq ?_
                refine cwp_region ?_
                refine lwp_run 1 (by kernel_rfl) ?_
                refine lwp_op (by kernel_rfl) (owp_load (by kernel_rfl) (by kernel_rfl) (o82.cell (off := 4) rfl) ?_)
                obtain ⟨c97, H⟩ := guard_pos H
                refine lwp_run 1 (by kernel_rfl) ?_
                have hs98 := (r81.toSl).isSome c97 c96
                refine lwp_op (by kernel_rfl) (owp_pure (elemPtr a1 (x80.toNat * 8)) (pr_indexElem (e := 26) (r81.toSl) (k := .i64) (by kernel_rfl) (by kernel_rfl) (by kernel_rfl) (by kernel_rfl) c97 c96) ?_)
                refine lwp_op (by kernel_rfl) (owp_pure ((elemPtr a1 (x80.toNat * 8 + 0))) (pr_fieldAddr (a := a1) (n := (x80.toNat * 8)) (off := 0) (by kernel_rfl) hs98 (fun _ _ => by kernel_rfl)) ?_)
                obtain ⟨cs99, hs100, rp101⟩ := (r81.toSl).seg c97 c96
                obtain ⟨a102, c103, rfl, r105⟩ := t_api_Order.open_ rp101
                refine lwp_op (by kernel_rfl) (owp_load (by kernel_rfl) (by kernel_rfl) (seg_cell (f := 0) hs100 rfl) ?_)
                refine lwp_run 1 (by kernel_rfl) ?_
                refine lwp_nil ?_
                refine cwp_regionD (Keep No h75) 15 (by kernel_rfl) ?_
                refine awp_run (fuel := 13) [0, 1] Keep.refl (by kernel_rfl) ?_
                refine awp_load 2 rfl (by kernel_rfl) (by kernel_rfl) (by kernel_rfl) (by kernel_rfl) Keep.refl (o82.cell (off := 4) rfl) (fun _ _ x => x.elim) ?_
                refine awp_run (fuel := 11) [3] Keep.refl (by kernel_rfl) ?_
                have hs106 := (r81.toSl).isSome c97 c96
                refine awp_pure 4 (elemPtr a1 (x80.toNat * 8)) rfl (by kernel_rfl) (by kernel_rfl) (pr_indexElem (e := 26) (r81.toSl) (k := .i64) (by kernel_rfl) (by kernel_rfl) (by kernel_rfl) (by kernel_rfl) c97 c96) Keep.refl ?_
                refine awp_pure 5 ((elemPtr a1 (x80.toNat * 8 + 1))) rfl (by kernel_rfl) (by kernel_rfl) (pr_fieldAddr (a := a1) (n := (x80.toNat * 8)) (off := 1) (by kernel_rfl) hs106 (fun _ _ => by kernel_rfl)) Keep.refl ?_
                refine awp_load 6 rfl (by kernel_rfl) (by kernel_rfl) (by kernel_rfl) (by kernel_rfl) Keep.refl (seg_cell (f := 1) hs100 rfl) (fun _ _ x => x.elim) ?_
                refine awp_run (fuel := 5) [7, 8, 10] Keep.refl (by kernel_rfl) ?_
                refine awp_op 9 (by kernel_rfl) rfl (by kernel_rfl) (owp_buildSlice (e := 3) [.int .i64 0, .int .i64 0, .int .i64 2, .int .i64 3, .int .i64 1, .int .i64 1, .int .i64 4, .int .i64 3] 1 (.int .i64 0) pt77.bd (by kernel_rfl) (by kernel_rfl) (by kernel_rfl) (by kernel_rfl) (by kernel_rfl) ?_)
                intro b107 h108 hc109 p110 o111
                have pt112 := pt77.no p110
                have w113 := o111.own (l := ([0, 0, 2, 3, 1, 1, 4, 3] : List Int)) (Reps.int (I := I76) (k := .i64) (l := [0, 0, 2, 3, 1, 1, 4, 3]))
                have fw113 := some_nw (M := No) (Nat.le_trans pt77.size hc109)
                have d115 := some_ne (ne_new o82.lt hc109)
                have d116 := some_notIn (notIn_new r78.lt hc109)
                have hK117 := Keep.post (M := No) Keep.refl (Nat.le_refl _) p110 (fun _ x => x.elim)
                refine ⟨hK117, ?_⟩
                obtain ⟨c118, H⟩ := guard_pos H
                obtain ⟨c119, H⟩ := guard_pos H
                have hs120 := (w113.toSl).isSome c118 c119
                refine awp_pure 11 (elemPtr (some ⟨b107, 0, none⟩) (((at_ x0.Orders x80).Kind).toNat * 1)) rfl (by kernel_rfl) (by kernel_rfl) (pr_indexElem (e := 3) (w113.toSl) (k := .i64) (by kernel_rfl) (by kernel_rfl) (by kernel_rfl) (by kernel_rfl) c118 c119) hK117 ?_
                obtain ⟨cs121, hs122, rp123⟩ := (w113.toSl).seg c118 c119
                obtain rfl := rep_int rp123
                refine awp_op 12 (by kernel_rfl) rfl (by kernel_rfl) (owp_load (by kernel_rfl) (by kernel_rfl) (seg_cell (f := 0) hs122 rfl) ?_)
                refine ⟨hK117, ?_⟩
                refine awp_run (fuel := 0) [13, 14] hK117 (by kernel_rfl) ?_
                refine awp_nil (by kernel_rfl) ?_ 0
                refine cwp_region ?_
                refine lwp_run 3 (by kernel_rfl) ?_
                refine lwp_nil ?_
                have f100001 := r78.post pt77.bd p110 (fun _ x => x.elim) (fun _ _ x => x.elim)
                have f100002 := r81.up (p110.up pt77.bd (fun _ x => x.elim))
                have f100003 := o82.post p110 (fun x => x.elim)
                have f100004 := g83.up (p110.up pt77.bd (fun _ x => x.elim))
                show Exists _
                exact ⟨k, Nat.lt_succ_self _, (w64 ((w64 (x79 + (((at_ x0.Orders x80).Text).length : Int))) + (at_ [0, 0, 2, 3, 1, 1, 4, 3] ((at_ x0.Orders x80).Kind)))), (w64 (x80 + 1)), I76, H, ⟨by kernel_rfl, by kernel_rfl, by kernel_rfl, by kernel_rfl, trivial⟩, pt112, f100001, f100002, f100003, f100004⟩
              · rw [if_neg c96] at H
                refine lwp_op (by kernel_rfl) (owp_pure ((.bool false)) (pr_bool (by kernel_rfl) (decide_eq_false c96)) ?_)
                refine lwp_nil ?_
                refine cwp_false (by kernel_rfl) ?_
                refine cwp_exit ?_
                obtain rfl := Option.some.inj H
                show Exists _
                exact ⟨x79, I76, rfl, ⟨by kernel_rfl, by kernel_rfl, by kernel_rfl, trivial⟩, pt77, r78, r81, o82, g83⟩
          · rintro ρ' h86 ⟨x90, I87, rfl, hf, pt88, r89, r91, o92, g93⟩
            have H := HR95
            try dsimp only at H
            refine cwp_fits _ hf ?_
            refine cwp_seq ?_
            refine cwp_regionD (Keep No h86) 18 (by kernel_rfl) ?_
            refine awp_run (fuel := 15) [0, 1, 2] Keep.refl (by kernel_rfl) ?_
            by_cases c124 : (t38.1.length : Int) = x90
            · rw [if_pos c124] at H
              refine awp_pure 3 ((.bool true)) rfl (by kernel_rfl) (by kernel_rfl) (pr_bool (by kernel_rfl) (eqT c124)) Keep.refl ?_
              obtain ⟨c125, H⟩ := guard_pos H
              refine awp_run (fuel := 12) [4, 5] Keep.refl (by kernel_rfl) ?_
              have hs126 := (r89.toSl).isSome (by decide) c125
              refine awp_pure 6 (elemPtr a44 ((0 : Int).toNat * 1)) rfl (by kernel_rfl) (by kernel_rfl) (pr_indexElem (e := 5) (r89.toSl) (k := .i64) (by kernel_rfl) (by kernel_rfl) (by kernel_rfl) (by kernel_rfl) (by decide) c125) Keep.refl ?_
              obtain ⟨cs127, hs128, rp129⟩ := (r89.toSl).seg (by decide) c125
              obtain rfl := rep_int rp129
              refine awp_load 7 rfl (by kernel_rfl) (by kernel_rfl) (by kernel_rfl) (by kernel_rfl) Keep.refl (seg_cell (f := 0) hs128 rfl) (fun _ _ x => x.elim) ?_
              refine awp_run (fuel := 8) [8, 9] Keep.refl (by kernel_rfl) ?_
              refine awp_load 10 rfl (by kernel_rfl) (by kernel_rfl) (by kernel_rfl) (by kernel_rfl) Keep.refl (o92.cell (off := 0) rfl) (fun _ _ x => x.elim) ?_
              by_cases c130 : (w64 ((at_ t38.1 0))) = x0.Cmd
              · rw [if_pos c130] at H
                refine awp_pure 11 ((.bool true)) rfl (by kernel_rfl) (by kernel_rfl) (pr_bool (by kernel_rfl) (eqT c130)) Keep.refl ?_
                refine awp_run (fuel := 0) [12, 13, 14, 15, 16, 17] Keep.refl (by kernel_rfl) ?_
                refine awp_nil (by kernel_rfl) ?_ 0
                refine cwp_ret ?_
                obtain rfl := Option.some.inj H
                show Exists _
                exact ⟨.bool (decide (x90 ≤ 8192)), by kernel_rfl, I87, rfl, pt88⟩
              · rw [if_neg c130] at H
                refine awp_pure 11 ((.bool false)) rfl (by kernel_rfl) (by kernel_rfl) (pr_bool (by kernel_rfl) (eqF c130)) Keep.refl ?_
                refine awp_run (fuel := 0) [12, 13, 14, 15, 16, 17] Keep.refl (by kernel_rfl) ?_
                refine awp_nil (by kernel_rfl) ?_ 0
                refine cwp_ret ?_
                obtain rfl := Option.some.inj H
                show Exists _
                exact ⟨.bool false, by kernel_rfl, I87, rfl, pt88⟩
            · rw [if_neg c124] at H
              refine awp_pure 3 ((.bool false)) rfl (by kernel_rfl) (by kernel_rfl) (pr_bool (by kernel_rfl) (eqF c124)) Keep.refl ?_
              refine awp_run (fuel := 0) [4, 5, 6, 7, 8, 9, 10, 11, 12, 13, 14, 15, 16, 17] Keep.refl (by kernel_rfl) ?_
              refine awp_nil (by kernel_rfl) ?_ 0
              refine cwp_ret ?_
              obtain rfl := Option.some.inj H
              show Exists _
              exact ⟨.bool false, by kernel_rfl, I87, rfl, pt88⟩
      · rw [if_neg c56] at H
        refine lwp_run 1 (by kernel_rfl) ?_
        refine lwp_nil ?_
        refine cwp_true (by kernel_rfl) ?_
        refine cwp_seq ?_
        refine cwp_region ?_
        refine lwp_run 4 (by kernel_rfl) ?_
        refine lwp_nil ?_
        refine cwp_ret ?_
        obtain rfl := Option.some.inj H
        show Exists _
        exact ⟨.bool ((t38.1.length : Int) == 0), by kernel_rfl, I42, rfl, pt52⟩

/-! shutter/shutterref08.Writes -/
def shutterref08_Writes.m (x0 : Int) : Option Bool :=
  (if x0 = 241 then (some true) else (some (x0 == 245)))

set_option maxRecDepth 100000 in
theorem shutterref08_Writes.calls {I : Gh} {h : Heap} {x0 : Int} (_hB : Bd I h)  {r : Bool}
    (H : shutterref08_Writes.m x0 = some r) :
    Ret Tryd.prog 36 #[.int .i64 x0] h (fun v h' => ∃ _ : Unit, .bool r = v ∧ h = h') := by
  unfold shutterref08_Writes.m at H
  refine ret_of (args := [.int .i64 x0]) (rs := [.tmp 2]) (N := 9) Tryd.func36 rfl rfl rfl (Nat.le_of_ble_eq_true rfl) ?_
  refine cwp_seq ?_
  refine cwp_region ?_
  refine lwp_run 1 (by kernel_rfl) ?_
  refine lwp_nil ?_
  refine cwp_seq ?_
  refine cwp_region ?_
  refine lwp_run 1 (by kernel_rfl) ?_
  by_cases c1 : x0 = 241
  · rw [if_pos c1] at H
    refine lwp_op (by kernel_rfl) (owp_pure ((.bool true)) (pr_bool (by kernel_rfl) (eqT c1)) ?_)
    refine lwp_run 5 (by kernel_rfl) ?_
    refine lwp_nil ?_
    refine cwp_ret ?_
    obtain rfl := Option.some.inj H
    show Exists _
    exact ⟨.bool true, by kernel_rfl, (), rfl, rfl⟩
  · rw [if_neg c1] at H
    refine lwp_op (by kernel_rfl) (owp_pure ((.bool false)) (pr_bool (by kernel_rfl) (eqF c1)) ?_)
    refine lwp_run 5 (by kernel_rfl) ?_
    refine lwp_nil ?_
    refine cwp_ret ?_
    obtain rfl := Option.some.inj H
    show Exists _
    exact ⟨.bool (x0 == 245), by kernel_rfl, (), rfl, rfl⟩

/-! shutter/shutterref08.Known -/
def shutterref08_Known.m (x0 : Int) : Option Bool :=
  ((shutterref08_Writes.m x0).bind fun t1 => bif t1 then (some true) else (if x0 = 111 then (some true) else (if x0 = 242 then (some true) else (some (x0 == 246)))))

set_option maxRecDepth 100000 in
theorem shutterref08_Known.calls {I : Gh} {h : Heap} {x0 : Int} (hB : Bd I h)  {r : Bool}
    (H : shutterref08_Known.m x0 = some r) :
    Ret Tryd.prog 69 #[.int .i64 x0] h (fun v h' => ∃ _ : Unit, .bool r = v ∧ h = h') := by
  unfold shutterref08_Known.m at H
  refine ret_of (args := [.int .i64 x0]) (rs := [.tmp 2]) (N := 17) Tryd.func69 rfl rfl rfl (Nat.le_of_ble_eq_true rfl) ?_
  refine cwp_seq ?_
  refine cwp_region ?_
  refine lwp_run 1 (by kernel_rfl) ?_
  refine lwp_nil ?_
  refine cwp_seq ?_
  refine cwp_region ?_
  refine lwp_run 1 (by kernel_rfl) ?_
  obtain ⟨t1, m2, H⟩ := bind_some H
  refine lwp_op (by kernel_rfl) (owp_callF (by kernel_rfl) (shutterref08_Writes.calls (I := I) hB m2) ?_)
  rintro v3 h4 ⟨_, rfl, rfl⟩
  cases t1
  · rw [cond_false] at H
    refine lwp_run 2 (by kernel_rfl) ?_
    by_cases c7 : x0 = 111
    · rw [if_pos c7] at H
      refine lwp_op (by kernel_rfl) (owp_pure ((.bool true)) (pr_bool (by kernel_rfl) (eqT c7)) ?_)
      refine lwp_run 10 (by kernel_rfl) ?_
      refine lwp_nil ?_
      refine cwp_ret ?_
      obtain rfl := Option.some.inj H
      show Exists _
      exact ⟨.bool true, by kernel_rfl, (), rfl, rfl⟩
    · rw [if_neg c7] at H
      refine lwp_op (by kernel_rfl) (owp_pure ((.bool false)) (pr_bool (by kernel_rfl) (eqF c7)) ?_)
      refine lwp_run 3 (by kernel_rfl) ?_
      by_cases c8 : x0 = 242
      · rw [if_pos c8] at H
        refine lwp_op (by kernel_rfl) (owp_pure ((.bool true)) (pr_bool (by kernel_rfl) (eqT c8)) ?_)
        refine lwp_run 6 (by kernel_rfl) ?_
        refine lwp_nil ?_
        refine cwp_ret ?_
        obtain rfl := Option.some.inj H
        show Exists _
        exact ⟨.bool true, by kernel_rfl, (), rfl, rfl⟩
      · rw [if_neg c8] at H
        refine lwp_op (by kernel_rfl) (owp_pure ((.bool false)) (pr_bool (by kernel_rfl) (eqF c8)) ?_)
        refine lwp_run 6 (by kernel_rfl) ?_
        refine lwp_nil ?_
        refine cwp_ret ?_
        obtain rfl := Option.some.inj H
        show Exists _
        exact ⟨.bool (x0 == 246), by kernel_rfl, (), rfl, rfl⟩
  · rw [cond_true] at H
    refine lwp_run 13 (by kernel_rfl) ?_
    refine lwp_nil ?_
    refine cwp_ret ?_
    obtain rfl := Option.some.inj H
    show Exists _
    exact ⟨.bool true, by kernel_rfl, (), rfl, rfl⟩

/-! shutter/shutterref05.PutWcc -/
def shutterref05_PutWcc.m (x0 : api_Wcc) : Option Int :=
  (letJ (α := Int → Option Int) (fun (x12 : Int) => (bif x0.Unlock then (bif x0.Reset then ((shutterref03_Put.m (w64 ((w64 (x12 + 2)) + 1))).bind fun t17 => (some t17)) else ((shutterref03_Put.m (w64 (x12 + 2))).bind fun t23 => (some t23))) else (bif x0.Reset then ((shutterref03_Put.m (w64 (x12 + 1))).bind fun t30 => (some t30)) else ((shutterref03_Put.m x12).bind fun t36 => (some t36))))) fun (j14 : Int → Option Int) => (bif x0.Alarm then (j14 (w64 (0 + 4))) else (j14 0)))

set_option maxRecDepth 100000 in
theorem shutterref05_PutWcc.calls {I : Gh} {h : Heap} {x0 : api_Wcc} (hB : Bd I h)  {r : Int}
    (H : shutterref05_PutWcc.m x0 = some r) :
    Ret Tryd.prog 70 #[.agg #[.bool x0.Alarm, .bool x0.Unlock, .bool x0.Reset]] h (fun v h' => ∃ (I' : Gh), .int .u8 r = v ∧ Pst No I h I' h') := by
  unfold shutterref05_PutWcc.m at H
  refine ret_of (args := [.agg #[.bool x0.Alarm, .bool x0.Unlock, .bool x0.Reset]]) (rs := [.tmp 2]) (N := 18) Tryd.func70 rfl rfl rfl (Nat.le_of_ble_eq_true rfl) ?_
  have pt0 : Pst No I h I h := Pst.refl hB
  refine cwp_seq ?_
  refine cwp_region ?_
  refine lwp_op (by kernel_rfl) (owp_box [.bool x0.Alarm, .bool x0.Unlock, .bool x0.Reset] hB (by kernel_rfl) ?_)
  intro b1 h2 hc3 p4 o5
  have pt6 := pt0.no p4
  have fr7 : No b1 ∨ h.size ≤ b1 := .inr (Nat.le_trans pt0.size hc3)
  refine lwp_run 1 (by kernel_rfl) ?_
  refine lwp_nil ?_
  refine cwp_seq ?_
  refine cwp_region ?_
  refine lwp_run 1 (by kernel_rfl) ?_
  refine lwp_nil ?_
  obtain ⟨j14, e42, H⟩ := letJ_some H
  refine cwp_join (fun ρ' h9 => ∃ (x12 : Int) (I10 : Gh), j14 x12 = some r ∧ Fits [(1, .pointer (some ⟨b1, 0, none⟩)), (3, .int .i64 x12)] ρ' ∧ Pst No I h I10 h9 ∧ OwnB I10 h9 b1 [.bool x0.Alarm, .bool x0.Unlock, .bool x0.Reset] 51) ?_ ?_
  · refine cwp_seq ?_
    refine cwp_region ?_
    refine lwp_run 1 (by kernel_rfl) ?_
    rcases bool_or x0.Alarm with c8 | c8
    · replace H := bif_f c8 H
      refine lwp_op (by kernel_rfl) (owp_load (by kernel_rfl) (by kernel_rfl) ((o5.cell (off := 0) rfl).trans (congrArg (fun b => some (Value.bool b)) c8)) ?_)
      refine lwp_nil ?_
      refine cwp_false (by kernel_rfl) ?_
      refine cwp_skip ?_
      exact ⟨0, I, H, ⟨by kernel_rfl, by kernel_rfl, trivial⟩, pt6, o5⟩
    · replace H := bif_t c8 H
      refine lwp_op (by kernel_rfl) (owp_load (by kernel_rfl) (by kernel_rfl) ((o5.cell (off := 0) rfl).trans (congrArg (fun b => some (Value.bool b)) c8)) ?_)
      refine lwp_nil ?_
      refine cwp_true (by kernel_rfl) ?_
      refine cwp_region ?_
      refine lwp_run 3 (by kernel_rfl) ?_
      refine lwp_nil ?_
      exact ⟨(w64 (0 + 4)), I, H, ⟨by kernel_rfl, by kernel_rfl, trivial⟩, pt6, o5⟩
  · clear H
    rintro ρ' h9 ⟨x12, I10, H, hf, pt11, o13⟩
    refine cwp_fits _ hf ?_
    subst e42
    try dsimp only at H
    refine cwp_seq ?_
    refine cwp_seq ?_
    refine cwp_region ?_
    refine lwp_run 1 (by kernel_rfl) ?_
    rcases bool_or x0.Unlock with c15 | c15
    · replace H := bif_f c15 H
      refine lwp_op (by kernel_rfl) (owp_load (by kernel_rfl) (by kernel_rfl) ((o13.cell (off := 1) rfl).trans (congrArg (fun b => some (Value.bool b)) c15)) ?_)
      refine lwp_nil ?_
      refine cwp_false (by kernel_rfl) ?_
      refine cwp_skip ?_
      refine cwp_seq ?_
      refine cwp_seq ?_
      refine cwp_region ?_
      refine lwp_run 1 (by kernel_rfl) ?_
      rcases bool_or x0.Reset with c29 | c29
      · replace H := bif_f c29 H
        refine lwp_op (by kernel_rfl) (owp_load (by kernel_rfl) (by kernel_rfl) ((o13.cell (off := 2) rfl).trans (congrArg (fun b => some (Value.bool b)) c29)) ?_)
        refine lwp_nil ?_
        refine cwp_false (by kernel_rfl) ?_
        refine cwp_skip ?_
        refine cwp_seq ?_
        refine cwp_region ?_
        refine lwp_run 1 (by kernel_rfl) ?_
        obtain ⟨t36, m37, H⟩ := bind_some H
        refine lwp_op (by kernel_rfl) (owp_callF (by kernel_rfl) (shutterref03_Put.calls (I := I10) pt11.bd m37) ?_)
        rintro v38 h39 ⟨_, rfl, rfl⟩
        refine lwp_run 1 (by kernel_rfl) ?_
        refine lwp_nil ?_
        refine cwp_ret ?_
        obtain rfl := Option.some.inj H
        show Exists _
        exact ⟨.int .u8 t36, by kernel_rfl, I10, rfl, pt11⟩
      · replace H := bif_t c29 H
        refine lwp_op (by kernel_rfl) (owp_load (by kernel_rfl) (by kernel_rfl) ((o13.cell (off := 2) rfl).trans (congrArg (fun b => some (Value.bool b)) c29)) ?_)
        refine lwp_nil ?_
        refine cwp_true (by kernel_rfl) ?_
        refine cwp_region ?_
        refine lwp_run 3 (by kernel_rfl) ?_
        refine lwp_nil ?_
        refine cwp_seq ?_
        refine cwp_region ?_
        refine lwp_run 1 (by kernel_rfl) ?_
        obtain ⟨t30, m31, H⟩ := bind_some H
        refine lwp_op (by kernel_rfl) (owp_callF (by kernel_rfl) (shutterref03_Put.calls (I := I10) pt11.bd m31) ?_)
        rintro v32 h33 ⟨_, rfl, rfl⟩
        refine lwp_run 1 (by kernel_rfl) ?_
        refine lwp_nil ?_
        refine cwp_ret ?_
        obtain rfl := Option.some.inj H
        show Exists _
        exact ⟨.int .u8 t30, by kernel_rfl, I10, rfl, pt11⟩
    · replace H := bif_t c15 H
      refine lwp_op (by kernel_rfl) (owp_load (by kernel_rfl) (by kernel_rfl) ((o13.cell (off := 1) rfl).trans (congrArg (fun b => some (Value.bool b)) c15)) ?_)
      refine lwp_nil ?_
      refine cwp_true (by kernel_rfl) ?_
      refine cwp_region ?_
      refine lwp_run 3 (by kernel_rfl) ?_
      refine lwp_nil ?_
      refine cwp_seq ?_
      refine cwp_seq ?_
      refine cwp_region ?_
      refine lwp_run 1 (by kernel_rfl) ?_
      rcases bool_or x0.Reset with c16 | c16
      · replace H := bif_f c16 H
        refine lwp_op (by kernel_rfl) (owp_load (by kernel_rfl) (by kernel_rfl) ((o13.cell (off := 2) rfl).trans (congrArg (fun b => some (Value.bool b)) c16)) ?_)
        refine lwp_nil ?_
        refine cwp_false (by kernel_rfl) ?_
        refine cwp_skip ?_
        refine cwp_seq ?_
        refine cwp_region ?_
        refine lwp_run 1 (by kernel_rfl) ?_
        obtain ⟨t23, m24, H⟩ := bind_some H
        refine lwp_op (by kernel_rfl) (owp_callF (by kernel_rfl) (shutterref03_Put.calls (I := I10) pt11.bd m24) ?_)
        rintro v25 h26 ⟨_, rfl, rfl⟩
        refine lwp_run 1 (by kernel_rfl) ?_
        refine lwp_nil ?_
        refine cwp_ret ?_
        obtain rfl := Option.some.inj H
        show Exists _
        exact ⟨.int .u8 t23, by kernel_rfl, I10, rfl, pt11⟩
      · replace H := bif_t c16 H
        refine lwp_op (by kernel_rfl) (owp_load (by kernel_rfl) (by kernel_rfl) ((o13.cell (off := 2) rfl).trans (congrArg (fun b => some (Value.bool b)) c16)) ?_)
        refine lwp_nil ?_
        refine cwp_true (by kernel_rfl) ?_
        refine cwp_region ?_
        refine lwp_run 3 (by kernel_rfl) ?_
        refine lwp_nil ?_
        refine cwp_seq ?_
        refine cwp_region ?_
        refine lwp_run 1 (by kernel_rfl) ?_
        obtain ⟨t17, m18, H⟩ := bind_some H
        refine lwp_op (by kernel_rfl) (owp_callF (by kernel_rfl) (shutterref03_Put.calls (I := I10) pt11.bd m18) ?_)
        rintro v19 h20 ⟨_, rfl, rfl⟩
        refine lwp_run 1 (by kernel_rfl) ?_
        refine lwp_nil ?_
        refine cwp_ret ?_
        obtain rfl := Option.some.inj H
        show Exists _
        exact ⟨.int .u8 t17, by kernel_rfl, I10, rfl, pt11⟩

/-! shutter/shutterref08.Write -/
def shutterref08_Write.l1.m (K : Nat) (x0 : api_Out) (x1 : Int) : Nat → (List Int) → Int → Option (((List Int) × Int × Int) ⊕ ((List Int)))
  | 0, _, _ => none
  | k + 1, x83, x89 => (if x89 < (x0.Orders.length : Int) then (if 0 ≤ x89 then ((shutterref07_Wrong.m K (⟨(at_ x0.Orders x89).Kind, (at_ x0.Orders x89).Text, ((at_ x0.Orders x89).Attr), (at_ x0.Orders x89).Addr, (at_ x0.Orders x89).Char⟩ : api_Order) x1).bind fun t119 => (letJ (α := Int → Option (((List Int) × Int × Int) ⊕ ((List Int)))) (fun (x154 : Int) => (if x154 = 0 then ((shutterref07_Put.m (⟨(at_ x0.Orders x89).Kind, (at_ x0.Orders x89).Text, ((at_ x0.Orders x89).Attr), (at_ x0.Orders x89).Addr, (at_ x0.Orders x89).Char⟩ : api_Order) x1).bind fun t167 => ((app x83 t167).bind fun l183 => (shutterref08_Write.l1.m K x0 x1 k l183 (w64 (x89 + 1))))) else (some (Sum.inl ([], x154, x89))))) fun (j157 : Int → Option (((List Int) × Int × Int) ⊕ ((List Int)))) => (if t119 = 0 then (if x89 > 0 then (if (at_ x0.Orders x89).Kind = 1 then (if 0 ≤ (w64 (x89 - 1)) then (if (w64 (x89 - 1)) < (x0.Orders.length : Int) then (if (at_ x0.Orders (w64 (x89 - 1))).Kind = 1 then (j157 1) else (j157 t119)) else none) else none) else (j157 t119)) else (j157 t119)) else (j157 t119)))) else none) else (some (Sum.inr x83)))
def shutterref08_Write.m (K : Nat) (x0 : api_Out) (x1 : Int) : Option ((List Int) × Int × Int) :=
  ((shutterref08_Known.m x0.Cmd).bind fun t12 => bif t12 then (letJ (α := Bool → Option ((List Int) × Int × Int)) (fun (x38 : Bool) => (bif x38 then (bif ((x0.Wcc.Alarm == false) && ((x0.Wcc.Unlock == false) && ((x0.Wcc.Reset == false) && true))) then (if (x0.Orders.length : Int) > 0 then (some ([], 1, (-1))) else (some ([(IntKind.u8.wrap (x0.Cmd))], 0, (-1)))) else (some ([], 1, (-1)))) else ((shutterref05_PutWcc.m x0.Wcc).bind fun t44 => ((app [(IntKind.u8.wrap (x0.Cmd))] [t44]).bind fun l65 => ((shutterref08_Write.l1.m K x0 x1 K l65 0).bind fun s94 => match s94 with | .inl q => (some q) | .inr x98 => (if (x98.length : Int) > 8192 then (some ([], 6, (-1))) else (some (x98, 0, (-1))))))))) fun (j41 : Bool → Option ((List Int) × Int × Int)) => ((shutterref08_Writes.m x0.Cmd).bind fun t28 => bif t28 then (j41 false) else (j41 true))) else (some ([], 5, (-1))))

set_option maxRecDepth 100000 in
theorem shutterref08_Write.calls {I : Gh} {h : Heap} {K : Nat} {x0 : api_Out} {a1 : Option Addr} {c2 : Nat} {x1 : Int} (hB : Bd I h) (r4 : Rd t_api_Order I h a1 c2 x0.Orders) {r : ((List Int) × Int × Int)}
    (H : shutterref08_Write.m K x0 x1 = some r) :
    Ret Tryd.prog 35 #[.agg #[.int .i64 x0.Cmd, .bool x0.Wcc.Alarm, .bool x0.Wcc.Unlock, .bool x0.Wcc.Reset, .slice a1 x0.Orders.length c2], .int .i64 x1] h (fun v h' => ∃ (I' : Gh) (a206 : Option Addr) (c207 : Nat), .tuple #[.slice a206 r.1.length c207, .int .i64 r.2.1, .int .i64 r.2.2] = v ∧ Pst No I h I' h' ∧ Own (tInt .u8) I' h' a206 c207 r.1 ∧ (∀ b, InA a206 b → No b ∨ h.size ≤ b)) := by
  unfold shutterref08_Write.m at H
  refine ret_of (args := [.agg #[.int .i64 x0.Cmd, .bool x0.Wcc.Alarm, .bool x0.Wcc.Unlock, .bool x0.Wcc.Reset, .slice a1 x0.Orders.length c2], .int .i64 x1]) (rs := [.tmp 4, .tmp 5, .tmp 6]) (N := 95) Tryd.func35 rfl rfl rfl (Nat.le_of_ble_eq_true rfl) ?_
  have pt0 : Pst No I h I h := Pst.refl hB
  refine cwp_seq ?_
  refine cwp_region ?_
  refine lwp_op (by kernel_rfl) (owp_box [.int .i64 x0.Cmd, .bool x0.Wcc.Alarm, .bool x0.Wcc.Unlock, .bool x0.Wcc.Reset, .slice a1 x0.Orders.length c2] hB (by kernel_rfl) ?_)
  intro b5 h6 hc7 p8 o9
  have pt10 := pt0.no p8
  have fr11 : No b5 ∨ h.size ≤ b5 := .inr (Nat.le_trans pt0.size hc7)
  refine lwp_run 3 (by kernel_rfl) ?_
  refine lwp_nil ?_
  refine cwp_seq ?_
  refine cwp_seq ?_
  refine cwp_region ?_
  refine lwp_run 1 (by kernel_rfl) ?_
  refine lwp_op (by kernel_rfl) (owp_load (by kernel_rfl) (by kernel_rfl) (o9.cell (off := 0) rfl) ?_)
  obtain ⟨t12, m13, H⟩ := bind_some H
  refine lwp_op (by kernel_rfl) (owp_callF (by kernel_rfl) (shutterref08_Known.calls (I := I) p8.bd m13) ?_)
  rintro v14 h15 ⟨_, rfl, rfl⟩
  cases t12
  · rw [cond_false] at H
    refine lwp_run 1 (by kernel_rfl) ?_
    refine lwp_nil ?_
    refine cwp_true (by kernel_rfl) ?_
    refine cwp_seq ?_
    refine cwp_region ?_
    refine lwp_run 3 (by kernel_rfl) ?_
    refine lwp_nil ?_
    refine cwp_ret ?_
    obtain rfl := Option.some.inj H
    show Exists _
    exact ⟨.tuple #[.slice none 0 0, .int .i64 5, .int .i64 (-1)], by kernel_rfl, I, none, 0, rfl, pt10, (own_nil (tInt .u8) I I h6), none_nw⟩
  · rw [cond_true] at H
    refine lwp_run 1 (by kernel_rfl) ?_
    refine lwp_nil ?_
    refine cwp_false (by kernel_rfl) ?_
    refine cwp_skip ?_
    refine cwp_seq ?_
    refine cwp_region ?_
    refine lwp_run 1 (by kernel_rfl) ?_
    refine lwp_op (by kernel_rfl) (owp_load (by kernel_rfl) (by kernel_rfl) (o9.cell (off := 0) rfl) ?_)
    refine lwp_run 1 (by kernel_rfl) ?_
    refine lwp_op (by kernel_rfl) (owp_buildSlice (e := 5) [.int .u8 (IntKind.u8.wrap (x0.Cmd))] 1 (.int .u8 0) p8.bd (by kernel_rfl) (by kernel_rfl) (by kernel_rfl) (by kernel_rfl) (by kernel_rfl) ?_)
    intro b18 h19 hc20 p21 o22
    have pt23 := pt10.no p21
    have w24 := o22.own (l := ([(IntKind.u8.wrap (x0.Cmd))] : List Int)) (Reps.int (I := I) (k := .u8) (l := [(IntKind.u8.wrap (x0.Cmd))]))
    have fw24 := some_nw (M := No) (Nat.le_trans pt10.size hc20)
    have d26 := some_ne (ne_new o9.lt hc20)
    refine lwp_run 1 (by kernel_rfl) ?_
    refine lwp_nil ?_
    refine cwp_seq ?_
    obtain ⟨j41, e205, H⟩ := letJ_some H
    refine cwp_join (fun ρ' h34 => ∃ (x38 : Bool) (I35 : Gh), j41 x38 = some r ∧ Fits [(1, .int .i64 x1), (2, .pointer (some ⟨b5, 0, none⟩)), (7, .slice (some ⟨b18, 0, none⟩) ([(IntKind.u8.wrap (x0.Cmd))].length) 1), (21, .bool x38)] ρ' ∧ Pst No I h I35 h34 ∧ OwnX (tInt .u8) I35 I35 h34 (some ⟨b18, 0, none⟩) 1 [(IntKind.u8.wrap (x0.Cmd))] ∧ Rd t_api_Order I35 h34 a1 c2 x0.Orders ∧ OwnB I35 h34 b5 [.int .i64 x0.Cmd, .bool x0.Wcc.Alarm, .bool x0.Wcc.Unlock, .bool x0.Wcc.Reset, .slice a1 x0.Orders.length c2] 54) ?_ ?_
    · refine cwp_region ?_
      refine lwp_run 1 (by kernel_rfl) ?_
      have f27 := o9.post p21 (fun x => x.elim)
      refine lwp_op (by kernel_rfl) (owp_load (by kernel_rfl) (by kernel_rfl) (f27.cell (off := 0) rfl) ?_)
      obtain ⟨t28, m29, H⟩ := bind_some H
      refine lwp_op (by kernel_rfl) (owp_callF (by kernel_rfl) (shutterref08_Writes.calls (I := I) p21.bd m29) ?_)
      rintro v30 h31 ⟨_, rfl, rfl⟩
      cases t28
      · rw [cond_false] at H
        refine lwp_run 1 (by kernel_rfl) ?_
        refine lwp_nil ?_
        have f100029 := r4.up (p8.up hB (fun _ x => x.elim))
        have f100030 := f100029.up (p21.up p8.bd (fun _ x => x.elim))
        exact ⟨true, I, H, ⟨by kernel_rfl, by kernel_rfl, by kernel_rfl, by kernel_rfl, trivial⟩, pt23, w24, f100030, f27⟩
      · rw [cond_true] at H
        refine lwp_run 1 (by kernel_rfl) ?_
        refine lwp_nil ?_
        have f100027 := r4.up (p8.up hB (fun _ x => x.elim))
        have f100028 := f100027.up (p21.up p8.bd (fun _ x => x.elim))
        exact ⟨false, I, H, ⟨by kernel_rfl, by kernel_rfl, by kernel_rfl, by kernel_rfl, trivial⟩, pt23, w24, f100028, f27⟩
    · clear H
      rintro ρ' h34 ⟨x38, I35, H, hf, pt36, r37, r39, o40⟩
      refine cwp_fits _ hf ?_
      subst e205
      try dsimp only at H
      cases x38
      · rw [cond_false] at H
        refine cwp_false (by kernel_rfl) ?_
        refine cwp_skip ?_
        refine cwp_seq ?_
        refine cwp_region ?_
        refine lwp_run 2 (by kernel_rfl) ?_
        refine lwp_op (by kernel_rfl) (owp_loadN (by kernel_rfl) (by kernel_rfl) (by kernel_rfl) (o40.seg_ 1 3 (Nat.le_of_ble_eq_true rfl)) ?_)
        obtain ⟨t44, m45, H⟩ := bind_some H
        refine lwp_op (by kernel_rfl) (owp_callF (by kernel_rfl) (shutterref05_PutWcc.calls (I := I35) pt36.bd m45) ?_)
        rintro v46 h47 ⟨I48, rfl, p49⟩
        have pt50 := pt36.no p49
        refine lwp_op (by kernel_rfl) (owp_buildSlice (e := 5) [.int .u8 t44] 1 (.int .u8 0) p49.bd (by kernel_rfl) (by kernel_rfl) (by kernel_rfl) (by kernel_rfl) (by kernel_rfl) ?_)
        intro b51 h52 hc53 p54 o55
        have pt56 := pt50.no p54
        have w57 := o55.own (l := ([t44] : List Int)) (Reps.int (I := I48) (k := .u8) (l := [t44]))
        have fw57 := some_nw (M := No) (Nat.le_trans pt50.size hc53)
        have f59 := o40.post p49 (fun x => x.elim)
        have d60 := some_ne (ne_new f59.lt hc53)
        have f61 := r37.post pt36.bd p49 (fun _ x => x.elim) (fun _ _ x => x.elim)
        have d62 := some_notIn (notIn_new f61.lt hc53)
        have f63 := r37.post pt36.bd p49 (fun _ x => x.elim) (fun _ _ x => x.elim)
        have f64 := f63.post p49.bd p54 (fun _ x => x.elim) (fun _ _ x => x.elim)
        obtain ⟨l65, m66, H⟩ := bind_some H
        refine lwp_op (by kernel_rfl) (owp_app (e := 5) (bytes := 1) (tInt .u8) (by kernel_rfl) (elemOk_of (by kernel_rfl)) rfl rfl p54.bd p54.bd f64 f64.notI (w57.toSl) m66 (by kernel_rfl) (by kernel_rfl) ?_)
        intro a67 c68 h69 p70 o71 fr72
        have pt73 := pt56.own p70 fw24
        have fr75 := nw_step (M := No) (n := h.size) fw24 fr72 pt56.size
        have f76 := o40.post p49 (fun x => x.elim)
        have f77 := f76.post p54 (fun x => x.elim)
        have d78 := step_blk fr72 f77.lt d26
        have d79 := step_sl fr72 w57.lt d62
        refine lwp_run 1 (by kernel_rfl) ?_
        refine lwp_nil ?_
        refine cwp_seq ?_
        refine cwp_seq ?_
        refine cwp_region ?_
        refine lwp_run 1 (by kernel_rfl) ?_
        refine lwp_nil ?_
        refine cwp_block ?_
        have f198 := r39.up (p49.up pt36.bd (fun _ x => x.elim))
        have f199 := f198.up (p54.up p49.bd (fun _ x => x.elim))
        have f200 := f199.up (p70.up p54.bd f64.notI)
        have f201 := o40.post p49 (fun x => x.elim)
        have f202 := f201.post p54 (fun x => x.elim)
        have f203 := f202.post p70 d26
        obtain ⟨s94, m107, HR108⟩ := bind_some H
        refine cwp_loopE 0 (fun ρ' h95 => ∃ (x98 : List Int) (a99 : Option Addr) (c100 : Nat) (I96 : Gh), Sum.inr x98 = s94 ∧ Fits [(7, .slice a99 x98.length c100)] ρ' ∧ Pst No I h I96 h95 ∧ OwnX (tInt .u8) I96 I96 h95 a99 c100 x98 ∧ (∀ b, InA a99 b → No b ∨ h.size ≤ b) ∧ Rd t_api_Order I96 h95 a1 c2 x0.Orders ∧ OwnB I96 h95 b5 [.int .i64 x0.Cmd, .bool x0.Wcc.Alarm, .bool x0.Wcc.Unlock, .bool x0.Wcc.Reset, .slice a1 x0.Orders.length c2] 54 ∧ ¬ InA a99 b5) ?_ ?_
        · refine cwp_loop (fun k' ρ' h80 => ∃ (x83 : List Int) (x89 : Int) (a84 : Option Addr) (c85 : Nat) (I81 : Gh), shutterref08_Write.l1.m K x0 x1 k' x83 x89 = some s94 ∧ Fits [(1, .int .i64 x1), (2, .pointer (some ⟨b5, 0, none⟩)), (7, .slice a84 x83.length c85), (8, .int .i64 x89)] ρ' ∧ Pst No I h I81 h80 ∧ OwnX (tInt .u8) I81 I81 h80 a84 c85 x83 ∧ (∀ b, InA a84 b → No b ∨ h.size ≤ b) ∧ Rd t_api_Order I81 h80 a1 c2 x0.Orders ∧ OwnB I81 h80 b5 [.int .i64 x0.Cmd, .bool x0.Wcc.Alarm, .bool x0.Wcc.Unlock, .bool x0.Wcc.Reset, .slice a1 x0.Orders.length c2] 54 ∧ ¬ InA a84 b5) K ⟨l65, 0, a67, c68, I48, m107, ⟨by kernel_rfl, by kernel_rfl, by kernel_rfl, by kernel_rfl, trivial⟩, pt73, o71, fr75, f200, f203, d78⟩ ?_
          clear m107
          rintro k' ρ' h80 ⟨x83, x89, a84, c85, I81, H, hf, pt82, r86, fr88, r90, o91, d92⟩
          cases k' with
          | zero => cases H
          | succ k =>
            rw [shutterref08_Write.l1.m] at H
            refine cwp_fits _ hf ?_
            refine cwp_seq ?_
            refine cwp_seq ?_
            refine cwp_region ?_
            refine lwp_run 2 (by kernel_rfl) ?_
            refine lwp_op (by kernel_rfl) (owp_load (by kernel_rfl) (by kernel_rfl) (o91.cell (off := 4) rfl) ?_)
            refine lwp_run 1 (by kernel_rfl) ?_
            by_cases c109 : x89 < (x0.Orders.length : Int)
            · rw [if_pos c109] at H
              refine lwp_op (by kernel_rfl) (owp_pure ((.bool true)) (pr_bool (by kernel_rfl) (decide_eq_true c109)) ?_)
              refine lwp_nil ?_
              refine cwp_true (by kernel_rfl) ?_
              refine cwp_skip ?_
              refine cwp_seq ?_
              refine cwp_block ?_
              refine cwp_seq ?_
              refine cwp_region ?_
              refine lwp_run 1 (by kernel_rfl) ?_
              refine lwp_op (by kernel_rfl) (owp_load (by kernel_rfl) (by kernel_rfl) (o91.cell (off := 4) rfl) ?_)
              obtain ⟨c110, H⟩ := guard_pos H
              refine lwp_run 1 (by kernel_rfl) ?_
              have hs111 := (r90.toSl).isSome c110 c109
              refine lwp_op (by kernel_rfl) (owp_pure (elemPtr a1 (x89.toNat * 8)) (pr_indexElem (e := 26) (r90.toSl) (k := .i64) (by kernel_rfl) (by kernel_rfl) (by kernel_rfl) (by kernel_rfl) c110 c109) ?_)
              obtain ⟨cs112, hs113, rp114⟩ := (r90.toSl).seg c110 c109
              obtain ⟨a115, c116, rfl, r118⟩ := t_api_Order.open_ rp114
              refine lwp_op (by kernel_rfl) (owp_loadN (by kernel_rfl) (by kernel_rfl) (by kernel_rfl) hs113 ?_)
              refine lwp_run 1 (by kernel_rfl) ?_
              obtain ⟨t119, m120, H⟩ := bind_some H
              refine lwp_op (by kernel_rfl) (owp_callF (by kernel_rfl) (shutterref07_Wrong.calls (I := I81) pt82.bd r118 m120) ?_)
              rintro v121 h122 ⟨I123, rfl, p124⟩
              have pt125 := pt82.no p124
              refine lwp_run 1 (by kernel_rfl) ?_
              refine lwp_nil ?_
              obtain ⟨j157, e197, H⟩ := letJ_some H
              refine cwp_join (fun ρ' h150 => ∃ (x154 : Int) (I151 : Gh), j157 x154 = some s94 ∧ Fits [(1, .int .i64 x1), (2, .pointer (some ⟨b5, 0, none⟩)), (7, .slice a84 x83.length c85), (8, .int .i64 x89), (9, .int .i64 x154)] ρ' ∧ Pst No I h I151 h150 ∧ OwnX (tInt .u8) I151 I151 h150 a84 c85 x83 ∧ Rd t_api_Order I151 h150 a1 c2 x0.Orders ∧ OwnB I151 h150 b5 [.int .i64 x0.Cmd, .bool x0.Wcc.Alarm, .bool x0.Wcc.Unlock, .bool x0.Wcc.Reset, .slice a1 x0.Orders.length c2] 54) ?_ ?_
              · refine cwp_seq ?_
                refine cwp_region ?_
                refine lwp_run 1 (by kernel_rfl) ?_
                by_cases c126 : t119 = 0
                · rw [if_pos c126] at H
                  refine lwp_op (by kernel_rfl) (owp_pure ((.bool true)) (pr_bool (by kernel_rfl) (eqT c126)) ?_)
                  refine lwp_run 2 (by kernel_rfl) ?_
                  by_cases c127 : x89 > 0
                  · rw [if_pos c127] at H
                    refine lwp_op (by kernel_rfl) (owp_pure ((.bool true)) (pr_bool (by kernel_rfl) (decide_eq_true c127)) ?_)
                    refine lwp_run 3 (by kernel_rfl) ?_
                    have f128 := o91.post p124 (fun x => x.elim)
                    refine lwp_op (by kernel_rfl) (owp_load (by kernel_rfl) (by kernel_rfl) (f128.cell (off := 4) rfl) ?_)
                    refine lwp_run 1 (by kernel_rfl) ?_
                    have f129 := r90.up (p124.up pt82.bd (fun _ x => x.elim))
                    have hs130 := (f129.toSl).isSome c110 c109
                    refine lwp_op (by kernel_rfl) (owp_pure (elemPtr a1 (x89.toNat * 8)) (pr_indexElem (e := 26) (f129.toSl) (k := .i64) (by kernel_rfl) (by kernel_rfl) (by kernel_rfl) (by kernel_rfl) c110 c109) ?_)
                    refine lwp_op (by kernel_rfl) (owp_pure ((elemPtr a1 (x89.toNat * 8 + 0))) (pr_fieldAddr (a := a1) (n := (x89.toNat * 8)) (off := 0) (by kernel_rfl) hs130 (fun _ _ => by kernel_rfl)) ?_)
                    obtain ⟨cs131, hs132, rp133⟩ := (f129.toSl).seg c110 c109
                    obtain ⟨a134, c135, rfl, r137⟩ := t_api_Order.open_ rp133
                    refine lwp_op (by kernel_rfl) (owp_load (by kernel_rfl) (by kernel_rfl) (seg_cell (f := 0) hs132 rfl) ?_)
                    by_cases c138 : (at_ x0.Orders x89).Kind = 1
                    · rw [if_pos c138] at H
                      refine lwp_op (by kernel_rfl) (owp_pure ((.bool true)) (pr_bool (by kernel_rfl) (eqT c138)) ?_)
                      refine lwp_run 3 (by kernel_rfl) ?_
                      refine lwp_op (by kernel_rfl) (owp_load (by kernel_rfl) (by kernel_rfl) (f128.cell (off := 4) rfl) ?_)
                      obtain ⟨c139, H⟩ := guard_pos H
                      obtain ⟨c140, H⟩ := guard_pos H
                      refine lwp_run 2 (by kernel_rfl) ?_
                      have hs141 := (f129.toSl).isSome c139 c140
                      refine lwp_op (by kernel_rfl) (owp_pure (elemPtr a1 ((w64 (x89 - 1)).toNat * 8)) (pr_indexElem (e := 26) (f129.toSl) (k := .i64) (by kernel_rfl) (by kernel_rfl) (by kernel_rfl) (by kernel_rfl) c139 c140) ?_)
                      refine lwp_op (by kernel_rfl) (owp_pure ((elemPtr a1 ((w64 (x89 - 1)).toNat * 8 + 0))) (pr_fieldAddr (a := a1) (n := ((w64 (x89 - 1)).toNat * 8)) (off := 0) (by kernel_rfl) hs141 (fun _ _ => by kernel_rfl)) ?_)
                      obtain ⟨cs142, hs143, rp144⟩ := (f129.toSl).seg c139 c140
                      obtain ⟨a145, c146, rfl, r148⟩ := t_api_Order.open_ rp144
                      refine lwp_op (by kernel_rfl) (owp_load (by kernel_rfl) (by kernel_rfl) (seg_cell (f := 0) hs143 rfl) ?_)
                      by_cases c149 : (at_ x0.Orders (w64 (x89 - 1))).Kind = 1
                      · rw [if_pos c149] at H
                        refine lwp_op (by kernel_rfl) (owp_pure ((.bool true)) (pr_bool (by kernel_rfl) (eqT c149)) ?_)
                        refine lwp_run 1 (by kernel_rfl) ?_
                        refine lwp_nil ?_
                        refine cwp_true (by kernel_rfl) ?_
                        refine cwp_region ?_
                        refine lwp_run 1 (by kernel_rfl) ?_
                        refine lwp_nil ?_
                        have f100018 := r86.post pt82.bd p124 (fun _ x => x.elim) (fun _ _ x => x.elim)
                        exact ⟨1, I123, H, ⟨by kernel_rfl, by kernel_rfl, by kernel_rfl, by kernel_rfl, by kernel_rfl, trivial⟩, pt125, f100018, f129, f128⟩
                      · rw [if_neg c149] at H
                        refine lwp_op (by kernel_rfl) (owp_pure ((.bool false)) (pr_bool (by kernel_rfl) (eqF c149)) ?_)
                        refine lwp_run 1 (by kernel_rfl) ?_
                        refine lwp_nil ?_
                        refine cwp_false (by kernel_rfl) ?_
                        refine cwp_skip ?_
                        have f100019 := r86.post pt82.bd p124 (fun _ x => x.elim) (fun _ _ x => x.elim)
                        exact ⟨t119, I123, H, ⟨by kernel_rfl, by kernel_rfl, by kernel_rfl, by kernel_rfl, by kernel_rfl, trivial⟩, pt125, f100019, f129, f128⟩
                    · rw [if_neg c138] at H
                      refine lwp_op (by kernel_rfl) (owp_pure ((.bool false)) (pr_bool (by kernel_rfl) (eqF c138)) ?_)
                      refine lwp_run 11 (by kernel_rfl) ?_
                      refine lwp_nil ?_
                      refine cwp_false (by kernel_rfl) ?_
                      refine cwp_skip ?_
                      have f100020 := r86.post pt82.bd p124 (fun _ x => x.elim) (fun _ _ x => x.elim)
                      exact ⟨t119, I123, H, ⟨by kernel_rfl, by kernel_rfl, by kernel_rfl, by kernel_rfl, by kernel_rfl, trivial⟩, pt125, f100020, f129, f128⟩
                  · rw [if_neg c127] at H
                    refine lwp_op (by kernel_rfl) (owp_pure ((.bool false)) (pr_bool (by kernel_rfl) (decide_eq_false c127)) ?_)
                    refine lwp_run 20 (by kernel_rfl) ?_
                    refine lwp_nil ?_
                    refine cwp_false (by kernel_rfl) ?_
                    refine cwp_skip ?_
                    have f100021 := r86.post pt82.bd p124 (fun _ x => x.elim) (fun _ _ x => x.elim)
                    have f100022 := r90.up (p124.up pt82.bd (fun _ x => x.elim))
                    have f100023 := o91.post p124 (fun x => x.elim)
                    exact ⟨t119, I123, H, ⟨by kernel_rfl, by kernel_rfl, by kernel_rfl, by kernel_rfl, by kernel_rfl, trivial⟩, pt125, f100021, f100022, f100023⟩
                · rw [if_neg c126] at H
                  refine lwp_op (by kernel_rfl) (owp_pure ((.bool false)) (pr_bool (by kernel_rfl) (eqF c126)) ?_)
                  refine lwp_run 23 (by kernel_rfl) ?_
                  refine lwp_nil ?_
                  refine cwp_false (by kernel_rfl) ?_
                  refine cwp_skip ?_
                  have f100024 := r86.post pt82.bd p124 (fun _ x => x.elim) (fun _ _ x => x.elim)
                  have f100025 := r90.up (p124.up pt82.bd (fun _ x => x.elim))
                  have f100026 := o91.post p124 (fun x => x.elim)
                  exact ⟨t119, I123, H, ⟨by kernel_rfl, by kernel_rfl, by kernel_rfl, by kernel_rfl, by kernel_rfl, trivial⟩, pt125, f100024, f100025, f100026⟩
              · clear H
                rintro ρ' h150 ⟨x154, I151, H, hf, pt152, r153, r155, o156⟩
                refine cwp_fits _ hf ?_
                subst e197
                try dsimp only at H
                refine cwp_seq ?_
                refine cwp_seq ?_
                refine cwp_region ?_
                refine lwp_run 1 (by kernel_rfl) ?_
                by_cases c158 : x154 = 0
                · rw [if_pos c158] at H
                  refine lwp_op (by kernel_rfl) (owp_pure ((.bool false)) (pr_bool (by kernel_rfl) (neF c158)) ?_)
                  refine lwp_nil ?_
                  refine cwp_false (by kernel_rfl) ?_
                  refine cwp_skip ?_
                  refine cwp_region ?_
                  refine lwp_run 2 (by kernel_rfl) ?_
                  refine lwp_op (by kernel_rfl) (owp_load (by kernel_rfl) (by kernel_rfl) (o156.cell (off := 4) rfl) ?_)
                  refine lwp_run 1 (by kernel_rfl) ?_
                  have hs159 := (r155.toSl).isSome c110 c109
                  refine lwp_op (by kernel_rfl) (owp_pure (elemPtr a1 (x89.toNat * 8)) (pr_indexElem (e := 26) (r155.toSl) (k := .i64) (by kernel_rfl) (by kernel_rfl) (by kernel_rfl) (by kernel_rfl) c110 c109) ?_)
                  obtain ⟨cs160, hs161, rp162⟩ := (r155.toSl).seg c110 c109
                  obtain ⟨a163, c164, rfl, r166⟩ := t_api_Order.open_ rp162
                  refine lwp_op (by kernel_rfl) (owp_loadN (by kernel_rfl) (by kernel_rfl) (by kernel_rfl) hs161 ?_)
                  refine lwp_run 1 (by kernel_rfl) ?_
                  obtain ⟨t167, m168, H⟩ := bind_some H
                  refine lwp_op (by kernel_rfl) (owp_callF (by kernel_rfl) (shutterref07_Put.calls (I := I151) pt152.bd r166 m168) ?_)
                  rintro v169 h170 ⟨I171, a173, c174, rfl, p172, r176, fr177⟩
                  have pt178 := pt152.no p172
                  have fr179 := nw_step (M := No) (n := h.size) (fun _ x => x.elim) fr177 pt152.size
                  have d180 := step_blk fr177 o156.lt (fun x => x.elim)
                  have d181 := step_sl fr177 r153.lt (fun _ _ x => x.elim)
                  have f182 := r153.post pt152.bd p172 (fun _ x => x.elim) (fun _ _ x => x.elim)
                  obtain ⟨l183, m184, H⟩ := bind_some H
                  refine lwp_op (by kernel_rfl) (owp_app (e := 5) (bytes := 1) (tInt .u8) (by kernel_rfl) (elemOk_of (by kernel_rfl)) rfl rfl p172.bd p172.bd f182 f182.notI (r176.toSl) m184 (by kernel_rfl) (by kernel_rfl) ?_)
                  intro a185 c186 h187 p188 o189 fr190
                  have pt191 := pt178.own p188 fr88
                  have fr193 := nw_step (M := No) (n := h.size) fr88 fr190 pt178.size
                  have f194 := o156.post p172 (fun x => x.elim)
                  have d195 := step_blk fr190 f194.lt d92
                  have d196 := step_sl fr190 r176.lt d181
                  refine lwp_run 1 (by kernel_rfl) ?_
                  refine lwp_nil ?_
                  refine cwp_region ?_
                  refine lwp_run 3 (by kernel_rfl) ?_
                  refine lwp_nil ?_
                  have f100014 := r155.up (p172.up pt152.bd (fun _ x => x.elim))
                  have f100015 := f100014.up (p188.up p172.bd f182.notI)
                  have f100016 := o156.post p172 (fun x => x.elim)
                  have f100017 := f100016.post p188 d92
                  show Exists _
                  exact ⟨k, Nat.lt_succ_self _, l183, (w64 (x89 + 1)), a185, c186, I171, H, ⟨by kernel_rfl, by kernel_rfl, by kernel_rfl, by kernel_rfl, trivial⟩, pt191, o189, fr193, f100015, f100017, d195⟩
                · rw [if_neg c158] at H
                  refine lwp_op (by kernel_rfl) (owp_pure ((.bool true)) (pr_bool (by kernel_rfl) (neT c158)) ?_)
                  refine lwp_nil ?_
                  refine cwp_true (by kernel_rfl) ?_
                  refine cwp_seq ?_
                  refine cwp_region ?_
                  refine lwp_run 5 (by kernel_rfl) ?_
                  refine lwp_nil ?_
                  refine cwp_ret ?_
                  obtain rfl := Option.some.inj H
                  obtain rfl := Option.some.inj HR108
                  show Exists _
                  exact ⟨.tuple #[.slice none 0 0, .int .i64 x154, .int .i64 x89], by kernel_rfl, I151, none, 0, rfl, pt152, (own_nil (tInt .u8) I151 I151 h150), none_nw⟩
            · rw [if_neg c109] at H
              refine lwp_op (by kernel_rfl) (owp_pure ((.bool false)) (pr_bool (by kernel_rfl) (decide_eq_false c109)) ?_)
              refine lwp_nil ?_
              refine cwp_false (by kernel_rfl) ?_
              refine cwp_exit ?_
              obtain rfl := Option.some.inj H
              show Exists _
              exact ⟨x83, a84, c85, I81, rfl, ⟨by kernel_rfl, trivial⟩, pt82, r86, fr88, r90, o91, d92⟩
        · rintro ρ' h95 ⟨x98, a99, c100, I96, rfl, hf, pt97, r101, fr103, r104, o105, d106⟩
          have H := HR108
          try dsimp only at H
          refine cwp_fits _ hf ?_
          refine cwp_seq ?_
          refine cwp_seq ?_
          refine cwp_region ?_
          refine lwp_run 2 (by kernel_rfl) ?_
          by_cases c204 : (x98.length : Int) > 8192
          · rw [if_pos c204] at H
            refine lwp_op (by kernel_rfl) (owp_pure ((.bool true)) (pr_bool (by kernel_rfl) (decide_eq_true c204)) ?_)
            refine lwp_nil ?_
            refine cwp_true (by kernel_rfl) ?_
            refine cwp_seq ?_
            refine cwp_region ?_
            refine lwp_run 3 (by kernel_rfl) ?_
            refine lwp_nil ?_
            refine cwp_ret ?_
            obtain rfl := Option.some.inj H
            show Exists _
            exact ⟨.tuple #[.slice none 0 0, .int .i64 6, .int .i64 (-1)], by kernel_rfl, I96, none, 0, rfl, pt97, (own_nil (tInt .u8) I96 I96 h95), none_nw⟩
          · rw [if_neg c204] at H
            refine lwp_op (by kernel_rfl) (owp_pure ((.bool false)) (pr_bool (by kernel_rfl) (decide_eq_false c204)) ?_)
            refine lwp_nil ?_
            refine cwp_false (by kernel_rfl) ?_
            refine cwp_skip ?_
            refine cwp_seq ?_
            refine cwp_region ?_
            refine lwp_run 4 (by kernel_rfl) ?_
            refine lwp_nil ?_
            refine cwp_ret ?_
            obtain rfl := Option.some.inj H
            show Exists _
            exact ⟨.tuple #[.slice a99 x98.length c100, .int .i64 0, .int .i64 (-1)], by kernel_rfl, I96, a99, c100, rfl, pt97, r101, fr103⟩
      · rw [cond_true] at H
        refine cwp_true (by kernel_rfl) ?_
        refine cwp_seq ?_
        refine cwp_seq ?_
        refine cwp_region ?_
        refine lwp_run 1 (by kernel_rfl) ?_
        refine lwp_op (by kernel_rfl) (owp_loadN (by kernel_rfl) (by kernel_rfl) (by kernel_rfl) (o40.seg_ 1 3 (Nat.le_of_ble_eq_true rfl)) ?_)
        refine lwp_run 1 (by kernel_rfl) ?_
        rcases bool_or ((x0.Wcc.Alarm == false) && ((x0.Wcc.Unlock == false) && ((x0.Wcc.Reset == false) && true))) with c42 | c42
        · replace H := bif_f c42 H
          refine lwp_op (by kernel_rfl) (owp_run (.bool true) (run_bool (run_neAgg (xs := #[.bool x0.Wcc.Alarm, .bool x0.Wcc.Unlock, .bool x0.Wcc.Reset]) (ys := #[.bool false, .bool false, .bool false]) (by kernel_rfl) (by kernel_rfl) (by kernel_rfl) (eqB_run (b := ((x0.Wcc.Alarm == false) && ((x0.Wcc.Unlock == false) && ((x0.Wcc.Reset == false) && true)))) (by kernel_rfl))) (notB c42)) ?_)
          refine lwp_run 6 (by kernel_rfl) ?_
          refine lwp_nil ?_
          refine cwp_true (by kernel_rfl) ?_
          refine cwp_seq ?_
          refine cwp_region ?_
          refine lwp_run 3 (by kernel_rfl) ?_
          refine lwp_nil ?_
          refine cwp_ret ?_
          obtain rfl := Option.some.inj H
          show Exists _
          exact ⟨.tuple #[.slice none 0 0, .int .i64 1, .int .i64 (-1)], by kernel_rfl, I35, none, 0, rfl, pt36, (own_nil (tInt .u8) I35 I35 h34), none_nw⟩
        · replace H := bif_t c42 H
          refine lwp_op (by kernel_rfl) (owp_run (.bool false) (run_bool (run_neAgg (xs := #[.bool x0.Wcc.Alarm, .bool x0.Wcc.Unlock, .bool x0.Wcc.Reset]) (ys := #[.bool false, .bool false, .bool false]) (by kernel_rfl) (by kernel_rfl) (by kernel_rfl) (eqB_run (b := ((x0.Wcc.Alarm == false) && ((x0.Wcc.Unlock == false) && ((x0.Wcc.Reset == false) && true)))) (by kernel_rfl))) (notB c42)) ?_)
          refine lwp_run 2 (by kernel_rfl) ?_
          refine lwp_op (by kernel_rfl) (owp_load (by kernel_rfl) (by kernel_rfl) (o40.cell (off := 4) rfl) ?_)
          refine lwp_run 1 (by kernel_rfl) ?_
          by_cases c43 : (x0.Orders.length : Int) > 0
          · rw [if_pos c43] at H
            refine lwp_op (by kernel_rfl) (owp_pure ((.bool true)) (pr_bool (by kernel_rfl) (decide_eq_true c43)) ?_)
            refine lwp_run 1 (by kernel_rfl) ?_
            refine lwp_nil ?_
            refine cwp_true (by kernel_rfl) ?_
            refine cwp_seq ?_
            refine cwp_region ?_
            refine lwp_run 3 (by kernel_rfl) ?_
            refine lwp_nil ?_
            refine cwp_ret ?_
            obtain rfl := Option.some.inj H
            show Exists _
            exact ⟨.tuple #[.slice none 0 0, .int .i64 1, .int .i64 (-1)], by kernel_rfl, I35, none, 0, rfl, pt36, (own_nil (tInt .u8) I35 I35 h34), none_nw⟩
          · rw [if_neg c43] at H
            refine lwp_op (by kernel_rfl) (owp_pure ((.bool false)) (pr_bool (by kernel_rfl) (decide_eq_false c43)) ?_)
            refine lwp_run 1 (by kernel_rfl) ?_
            refine lwp_nil ?_
            refine cwp_false (by kernel_rfl) ?_
            refine cwp_skip ?_
            refine cwp_seq ?_
            refine cwp_region ?_
            refine lwp_run 4 (by kernel_rfl) ?_
            refine lwp_nil ?_
            refine cwp_ret ?_
            obtain rfl := Option.some.inj H
            show Exists _
            exact ⟨.tuple #[.slice (some ⟨b18, 0, none⟩) ([(IntKind.u8.wrap (x0.Cmd))].length) 1, .int .i64 0, .int .i64 (-1)], by kernel_rfl, I35, (some ⟨b18, 0, none⟩), 1, rfl, pt36, r37, fw24⟩

/-! shutter/shutterlaw08.StreamWrites -/
def shutterlaw08_StreamWrites.m (K : Nat) (x0 : api_Out) (x1 : Int) : Option Bool :=
  ((shutterlaw08_awake.m K).bind fun t12 => bif t12 then ((shutterref08_Few.m K x0).bind fun t23 => bif t23 then ((shutterlaw08_size.m x1).bind fun t31 => ((stream_Write.m K x0 t31).bind fun t38 => ((shutterlaw08_size.m x1).bind fun t57 => ((shutterref08_Write.m K x0 t57).bind fun t64 => ((shutterref01_Same.m K t38.1 t64.1).bind fun t81 => bif t81 then ((api_Code.m t38.2).bind fun t88 => (if t88 = t64.2.1 then ((api_Where.m t38.2).bind fun t102 => (if t102 = t64.2.2 then ((stream_Writes.m x0.Cmd).bind fun t113 => ((shutterref08_Writes.m x0.Cmd).bind fun t119 => (some (t113 == t119)))) else (some false))) else (some false))) else (some false)))))) else ((shutterlaw08_awake.m K).bind fun t125 => (some t125))) else ((shutterlaw08_awake.m K).bind fun t134 => (some t134)))

set_option maxRecDepth 100000 in
theorem shutterlaw08_StreamWrites.calls {I : Gh} {h : Heap} {K : Nat} {x0 : api_Out} {a1 : Option Addr} {c2 : Nat} {x1 : Int} (hB : Bd I h) (hG : Glob I h) (r4 : Rd t_api_Order I h a1 c2 x0.Orders) {r : Bool}
    (H : shutterlaw08_StreamWrites.m K x0 x1 = some r) :
    Ret Tryd.prog 8 #[.agg #[.int .i64 x0.Cmd, .bool x0.Wcc.Alarm, .bool x0.Wcc.Unlock, .bool x0.Wcc.Reset, .slice a1 x0.Orders.length c2], .int .u16 x1] h (fun v h' => ∃ (I' : Gh), .bool r = v ∧ Pst No I h I' h') := by
  unfold shutterlaw08_StreamWrites.m at H
  refine ret_of (args := [.agg #[.int .i64 x0.Cmd, .bool x0.Wcc.Alarm, .bool x0.Wcc.Unlock, .bool x0.Wcc.Reset, .slice a1 x0.Orders.length c2], .int .u16 x1]) (rs := [.tmp 4]) (N := 57) Tryd.func8 rfl rfl rfl (Nat.le_of_ble_eq_true rfl) ?_
  have pt0 : Pst No I h I h := Pst.refl hB
  refine cwp_seq ?_
  refine cwp_region ?_
  refine lwp_op (by kernel_rfl) (owp_box [.int .i64 x0.Cmd, .bool x0.Wcc.Alarm, .bool x0.Wcc.Unlock, .bool x0.Wcc.Reset, .slice a1 x0.Orders.length c2] hB (by kernel_rfl) ?_)
  intro b5 h6 hc7 p8 o9
  have pt10 := pt0.no p8
  have fr11 : No b5 ∨ h.size ≤ b5 := .inr (Nat.le_trans pt0.size hc7)
  refine lwp_run 1 (by kernel_rfl) ?_
  refine lwp_nil ?_
  refine cwp_seq ?_
  refine cwp_seq ?_
  refine cwp_region ?_
  obtain ⟨t12, m13, H⟩ := bind_some H
  have f14 := hG.up (p8.up hB (fun _ x => x.elim))
  refine lwp_op (by kernel_rfl) (owp_callF (by kernel_rfl) (shutterlaw08_awake.calls (I := I) p8.bd f14 m13) ?_)
  rintro v15 h16 ⟨I17, rfl, p18⟩
  have pt19 := pt10.no p18
  cases t12
  · rw [cond_false] at H
    refine lwp_run 6 (by kernel_rfl) ?_
    refine lwp_nil ?_
    refine cwp_true (by kernel_rfl) ?_
    refine cwp_seq ?_
    refine cwp_region ?_
    obtain ⟨t134, m135, H⟩ := bind_some H
    have f136 := f14.up (p18.up p8.bd (fun _ x => x.elim))
    refine lwp_op (by kernel_rfl) (owp_callF (by kernel_rfl) (shutterlaw08_awake.calls (I := I17) p18.bd f136 m135) ?_)
    rintro v137 h138 ⟨I139, rfl, p140⟩
    have pt141 := pt19.no p140
    refine lwp_run 1 (by kernel_rfl) ?_
    refine lwp_nil ?_
    refine cwp_ret ?_
    obtain rfl := Option.some.inj H
    show Exists _
    exact ⟨.bool t134, by kernel_rfl, I139, rfl, pt141⟩
  · rw [cond_true] at H
    refine lwp_run 2 (by kernel_rfl) ?_
    have f20 := o9.post p18 (fun x => x.elim)
    refine lwp_op (by kernel_rfl) (owp_loadN (by kernel_rfl) (by kernel_rfl) (by kernel_rfl) (f20.seg_ 0 5 (Nat.le_of_ble_eq_true rfl)) ?_)
    have f21 := r4.up (p8.up hB (fun _ x => x.elim))
    have f22 := f21.up (p18.up p8.bd (fun _ x => x.elim))
    obtain ⟨t23, m24, H⟩ := bind_some H
    refine lwp_op (by kernel_rfl) (owp_callF (by kernel_rfl) (shutterref08_Few.calls (I := I17) p18.bd f22 m24) ?_)
    rintro v25 h26 ⟨I27, rfl, p28⟩
    have pt29 := pt19.no p28
    cases t23
    · rw [cond_false] at H
      refine lwp_run 2 (by kernel_rfl) ?_
      refine lwp_nil ?_
      refine cwp_true (by kernel_rfl) ?_
      refine cwp_seq ?_
      refine cwp_region ?_
      obtain ⟨t125, m126, H⟩ := bind_some H
      have f127 := f14.up (p18.up p8.bd (fun _ x => x.elim))
      have f128 := f127.up (p28.up p18.bd (fun _ x => x.elim))
      refine lwp_op (by kernel_rfl) (owp_callF (by kernel_rfl) (shutterlaw08_awake.calls (I := I27) p28.bd f128 m126) ?_)
      rintro v129 h130 ⟨I131, rfl, p132⟩
      have pt133 := pt29.no p132
      refine lwp_run 1 (by kernel_rfl) ?_
      refine lwp_nil ?_
      refine cwp_ret ?_
      obtain rfl := Option.some.inj H
      show Exists _
      exact ⟨.bool t125, by kernel_rfl, I131, rfl, pt133⟩
    · rw [cond_true] at H
      refine lwp_run 2 (by kernel_rfl) ?_
      refine lwp_nil ?_
      refine cwp_false (by kernel_rfl) ?_
      refine cwp_skip ?_
      refine cwp_seq ?_
      refine cwp_regionD (Keep No h26) 9 (by kernel_rfl) ?_
      have f30 := f20.post p28 (fun x => x.elim)
      refine awp_loadN 0 rfl (by kernel_rfl) (by kernel_rfl) (by kernel_rfl) (by kernel_rfl) (by kernel_rfl) Keep.refl (f30.seg_ 0 5 (Nat.le_of_ble_eq_true rfl)) (fun _ _ x => x.elim) ?_
      refine awp_run (fuel := 7) [1] Keep.refl (by kernel_rfl) ?_
      obtain ⟨t31, m32, H⟩ := bind_some H
      refine awp_op 2 (by kernel_rfl) rfl (by kernel_rfl) (owp_callF (by kernel_rfl) (shutterlaw08_size.calls (I := I27) p28.bd m32) ?_)
      rintro v33 h34 ⟨_, rfl, rfl⟩
      refine ⟨Keep.refl, ?_⟩
      have f37 := f22.up (p28.up p18.bd (fun _ x => x.elim))
      obtain ⟨t38, m39, H⟩ := bind_some H
      refine awp_op 3 (by kernel_rfl) rfl (by kernel_rfl) (owp_callF (by kernel_rfl) (stream_Write.calls (I := I27) (B := I27) p28.bd p28.bd (Rd.mono (I' := Or2 I27 I27) f37 (fun _ x => Or.inr x)) m39) ?_)
      rintro v40 h41 ⟨I42, a44, c45, v49, rfl, p43, r47, fr48, q51⟩
      have pt52 := pt29.no p43
      have fr53 := nw_step (M := No) (n := h.size) (fun _ x => x.elim) fr48 pt29.size
      have d54 := step_blk fr48 f30.lt (fun x => x.elim)
      have hK55 := Keep.post (M := No) Keep.refl (Nat.le_refl _) p43 (fun _ x => x.elim)
      refine ⟨hK55, ?_⟩
      refine awp_run (fuel := 0) [4, 5, 6, 7, 8] hK55 (by kernel_rfl) ?_
      refine awp_nil (by kernel_rfl) ?_ 0
      refine cwp_seq ?_
      refine cwp_regionD (Keep No h41) 11 (by kernel_rfl) ?_
      have f56 := f30.post p43 (fun x => x.elim)
      refine awp_loadN 0 rfl (by kernel_rfl) (by kernel_rfl) (by kernel_rfl) (by kernel_rfl) (by kernel_rfl) Keep.refl (f56.seg_ 0 5 (Nat.le_of_ble_eq_true rfl)) (fun _ _ x => x.elim) ?_
      refine awp_run (fuel := 9) [1] Keep.refl (by kernel_rfl) ?_
      obtain ⟨t57, m58, H⟩ := bind_some H
      refine awp_op 2 (by kernel_rfl) rfl (by kernel_rfl) (owp_callF (by kernel_rfl) (shutterlaw08_size.calls (I := I42) p43.bd m58) ?_)
      rintro v59 h60 ⟨_, rfl, rfl⟩
      refine ⟨Keep.refl, ?_⟩
      have f63 := f37.up (p43.up p28.bd (fun _ x => x.elim))
      obtain ⟨t64, m65, H⟩ := bind_some H
      refine awp_op 3 (by kernel_rfl) rfl (by kernel_rfl) (owp_callF (by kernel_rfl) (shutterref08_Write.calls (I := I42) p43.bd f63 m65) ?_)
      rintro v66 h67 ⟨I68, a70, c71, rfl, p69, r73, fr74⟩
      have pt75 := pt52.no p69
      have fr76 := nw_step (M := No) (n := h.size) (fun _ x => x.elim) fr74 pt52.size
      have d77 := step_blk fr74 f56.lt (fun x => x.elim)
      have d78 := step_sl fr74 r47.lt (fun _ _ x => x.elim)
      have hK79 := Keep.post (M := No) Keep.refl (Nat.le_refl _) p69 (fun _ x => x.elim)
      refine ⟨hK79, ?_⟩
      refine awp_run (fuel := 0) [4, 5, 6, 7, 8, 9, 10] hK79 (by kernel_rfl) ?_
      refine awp_nil (by kernel_rfl) ?_ 0
      refine cwp_seq ?_
      refine cwp_regionD (Keep No h67) 25 (by kernel_rfl) ?_
      refine awp_run (fuel := 23) [0, 1] Keep.refl (by kernel_rfl) ?_
      have f80 := r47.post p43.bd p69 (fun _ x => x.elim) (fun _ _ x => x.elim)
      obtain ⟨t81, m82, H⟩ := bind_some H
      refine awp_op 2 (by kernel_rfl) rfl (by kernel_rfl) (owp_callF (by kernel_rfl) (shutterref01_Same.calls (I := (Fz (Fz I68 a44) a70)) (bd_fz r73 (bd_fz f80 p69.bd)) (Rd.mono (I' := (Fz (Fz I68 a44) a70)) f80.rd (fun _ x => (Or.inl x))) (Rd.mono (I' := (Fz (Fz I68 a44) a70)) r73.rd (fun _ x => (Or.elim x (fun x => (Or.inl (Or.inl x))) (fun x => (Or.inr x))))) m82) ?_)
      rintro v83 h84 ⟨_, rfl, rfl⟩
      refine ⟨Keep.refl, ?_⟩
      cases t81
      · rw [cond_false] at H
        refine awp_run (fuel := 0) [3, 4, 5, 6, 7, 8, 9, 10, 11, 12, 13, 14, 15, 16, 17, 18, 19, 20, 21, 22, 23, 24] Keep.refl (by kernel_rfl) ?_
        refine awp_nil (by kernel_rfl) ?_ 0
        refine cwp_ret ?_
        obtain rfl := Option.some.inj H
        show Exists _
        exact ⟨.bool false, by kernel_rfl, I68, rfl, pt75⟩
      · rw [cond_true] at H
        refine awp_run (fuel := 19) [3, 4, 6] Keep.refl (by kernel_rfl) ?_
        have f87 := ErrV.up (p69.up p43.bd (fun _ x => x.elim)) q51
        obtain ⟨t88, m89, H⟩ := bind_some H
        have f90 := f14.up (p18.up p8.bd (fun _ x => x.elim))
        have f91 := f90.up (p28.up p18.bd (fun _ x => x.elim))
        have f92 := f91.up (p43.up p28.bd (fun _ x => x.elim))
        have f93 := f92.up (p69.up p43.bd (fun _ x => x.elim))
        refine awp_op 5 (by kernel_rfl) rfl (by kernel_rfl) (owp_callF (by kernel_rfl) (api_Code.calls (I := I68) p69.bd f93 f87 m89) ?_)
        rintro v94 h95 ⟨I96, rfl, p97⟩
        have pt98 := pt75.no p97
        have hK99 := Keep.post (M := No) Keep.refl (Nat.le_refl _) p97 (fun _ x => x.elim)
        refine ⟨hK99, ?_⟩
        by_cases c100 : t88 = t64.2.1
        · rw [if_pos c100] at H
          refine awp_pure 7 ((.bool true)) rfl (by kernel_rfl) (by kernel_rfl) (pr_bool (by kernel_rfl) (eqT c100)) hK99 ?_
          refine awp_run (fuel := 13) [8, 9, 10, 12] hK99 (by kernel_rfl) ?_
          have f101 := ErrV.up (p97.up p69.bd (fun _ x => x.elim)) f87
          obtain ⟨t102, m103, H⟩ := bind_some H
          have f104 := f93.up (p97.up p69.bd (fun _ x => x.elim))
          refine awp_op 11 (by kernel_rfl) rfl (by kernel_rfl) (owp_callF (by kernel_rfl) (api_Where.calls (I := I96) p97.bd f104 f101 m103) ?_)
          rintro v105 h106 ⟨I107, rfl, p108⟩
          have pt109 := pt98.no p108
          have hK110 := Keep.post (M := No) hK99 (Nat.le_trans (Nat.le_refl _) p97.size) p108 (fun _ x => x.elim)
          refine ⟨hK110, ?_⟩
          by_cases c111 : t102 = t64.2.2
          · rw [if_pos c111] at H
            refine awp_pure 13 ((.bool true)) rfl (by kernel_rfl) (by kernel_rfl) (pr_bool (by kernel_rfl) (eqT c111)) hK110 ?_
            refine awp_run (fuel := 8) [14, 15, 16] hK110 (by kernel_rfl) ?_
            have f112 := f56.post p69 (fun x => x.elim)
            refine awp_load 17 rfl (by kernel_rfl) (by kernel_rfl) (by kernel_rfl) (by kernel_rfl) hK110 (f112.cell (off := 0) rfl) (fun _ _ x => x.elim) ?_
            refine awp_run (fuel := 6) [19] hK110 (by kernel_rfl) ?_
            refine awp_load 20 rfl (by kernel_rfl) (by kernel_rfl) (by kernel_rfl) (by kernel_rfl) hK110 (f112.cell (off := 0) rfl) (fun _ _ x => x.elim) ?_
            obtain ⟨t113, m114, H⟩ := bind_some H
            refine awp_op 18 (by kernel_rfl) rfl (by kernel_rfl) (owp_callF (by kernel_rfl) (stream_Writes.calls (I := I107) p108.bd m114) ?_)
            rintro v115 h116 ⟨_, rfl, rfl⟩
            refine ⟨hK110, ?_⟩
            obtain ⟨t119, m120, H⟩ := bind_some H
            refine awp_op 21 (by kernel_rfl) rfl (by kernel_rfl) (owp_callF (by kernel_rfl) (shutterref08_Writes.calls (I := I107) p108.bd m120) ?_)
            rintro v121 h122 ⟨_, rfl, rfl⟩
            refine ⟨hK110, ?_⟩
            refine awp_run (fuel := 0) [22, 23, 24] hK110 (by kernel_rfl) ?_
            refine awp_nil (by kernel_rfl) ?_ 0
            refine cwp_ret ?_
            obtain rfl := Option.some.inj H
            show Exists _
            exact ⟨.bool (t113 == t119), by kernel_rfl, I107, rfl, pt109⟩
          · rw [if_neg c111] at H
            refine awp_pure 13 ((.bool false)) rfl (by kernel_rfl) (by kernel_rfl) (pr_bool (by kernel_rfl) (eqF c111)) hK110 ?_
            refine awp_run (fuel := 0) [14, 15, 16, 17, 18, 19, 20, 21, 22, 23, 24] hK110 (by kernel_rfl) ?_
            refine awp_nil (by kernel_rfl) ?_ 0
            refine cwp_ret ?_
            obtain rfl := Option.some.inj H
            show Exists _
            exact ⟨.bool false, by kernel_rfl, I107, rfl, pt109⟩
        · rw [if_neg c100] at H
          refine awp_pure 7 ((.bool false)) rfl (by kernel_rfl) (by kernel_rfl) (pr_bool (by kernel_rfl) (eqF c100)) hK99 ?_
          refine awp_run (fuel := 0) [8, 9, 10, 11, 12, 13, 14, 15, 16, 17, 18, 19, 20, 21, 22, 23, 24] hK99 (by kernel_rfl) ?_
          refine awp_nil (by kernel_rfl) ?_ 0
          refine cwp_ret ?_
          obtain rfl := Option.some.inj H
          show Exists _
          exact ⟨.bool false, by kernel_rfl, I96, rfl, pt98⟩

end Go.Proofs.YtociikgdocjfnaaDoor.Sx
