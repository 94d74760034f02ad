/- Printed walks, part 4: each function's model, and that the code comes to it. -/
import Derived.Test.YtenlbpcfilmgpaaDoorProg
import Derived.Test.YtenlbpcfilmgpaaDoorSx9
import Derived.Test.YtenlbpcfilmgpaaDoorG3
namespace Go.Proofs.YtenlbpcfilmgpaaDoor.Sx
open Go

/-! shutter/shutterlaw06.BytesSticks -/
def shutterlaw06_BytesSticks.m (K : Nat) (x0 : (List Int)) (x1 : Int) (x2 : Int) : Option Bool :=
  ((shutterlaw06_awake.m K).bind fun t5 => bif t5 then (if (x0.length : Int) > 300 then ((shutterlaw06_awake.m K).bind fun t14 => (some t14)) else ((bytes_New.m x0).bind fun t24 => (if (w64 ((x0.length : Int) + 1)) ≠ 0 then ((bytes_Cursor_Take.m t24 (Int.tmod (w64 (x1)) (w64 ((x0.length : Int) + 1)))).bind fun t44 => ((bytes_Cursor_Fail.m t44.2 (GoErr.no 5)).bind fun t67 => ((bytes_Cursor_Fail.m t67 (GoErr.no 3)).bind fun t83 => ((bytes_Cursor_Byte.m t83).bind fun t99 => ((bytes_Cursor_Take.m t99.2 1).bind fun t115 => ((bytes_Cursor_Addr.m K t115.2 x2).bind fun t142 => ((bytes_Cursor_Chars.m K t142.2).bind fun t158 => (letJ (fun (x211 : Bool) (x212 : List Int) (x217 : Int) (x218 : GoErr) => (if t99.1 = 0 then (if (t115.1.length : Int) = 0 then (if t142.1 = 0 then (if (t158.1.length : Int) = 0 then (bif x211 then (some false) else ((bytes_Cursor_At.m (⟨x212, x217, x218⟩ : bytes_Cursor)).bind fun t230 => (if t230.1 = (Int.tmod (w64 (x1)) (w64 ((x0.length : Int) + 1))) then ((bytes_Cursor_Err.m t230.2).bind fun t247 => ((api_Code.m t247.1).bind fun t266 => (if t266 = 5 then ((bytes_Cursor_Err.m t247.2).bind fun t280 => ((api_Where.m t280.1).bind fun t299 => (some (t299 == (Int.tmod (w64 (x1)) (w64 ((x0.length : Int) + 1))))))) else (some false)))) else (some false)))) else (some false)) else (some false)) else (some false)) else (some false))) fun (j224 : Bool → (List Int) → Int → GoErr → Option Bool) => ((bytes_Cursor_Peek.m t158.2).bind fun t189 => (bif t189.2.1 then (j224 true t189.2.2.b' t189.2.2.at' t189.2.2.err') else (j224 false t189.2.2.b' t189.2.2.at' t189.2.2.err'))))))))))) else none))) else ((shutterlaw06_awake.m K).bind fun t310 => (some t310)))

set_option maxRecDepth 100000 in
theorem shutterlaw06_BytesSticks.calls {I : Gh} {h : Heap} {K : Nat} {x0 : List Int} {a1 : Option Addr} {c2 : Nat} {x1 : Int} {x2 : Int} (hB : Bd I h) (hG : Glob I h) (r4 : Rd (tInt .u8) I h a1 c2 x0) {r : Bool}
    (H : shutterlaw06_BytesSticks.m K x0 x1 x2 = some r) :
    Ret Tryd.prog 10 #[.slice a1 x0.length c2, .int .u8 x1, .int .i64 x2] h (fun v h' => ∃ (I' : Gh), .bool r = v ∧ Pst No I h I' h') := by
  unfold shutterlaw06_BytesSticks.m at H
  refine ret_of (args := [.slice a1 x0.length c2, .int .u8 x1, .int .i64 x2]) (rs := [.tmp 6]) (N := 95) Tryd.func10 rfl rfl rfl (Nat.le_of_ble_eq_true rfl) ?_
  have pt0 : Pst No I h I h := Pst.refl hB
  refine cwp_seq ?_
  refine cwp_region ?_
  refine lwp_run 1 (by kernel_rfl) ?_
  refine lwp_nil ?_
  refine cwp_seq ?_
  refine cwp_seq ?_
  refine cwp_region ?_
  obtain ⟨t5, m6, H⟩ := bind_some H
  refine lwp_op (by kernel_rfl) (owp_callF (by kernel_rfl) (shutterlaw06_awake.calls hB hG m6) ?_)
  rintro v7 h8 ⟨I9, rfl, p10⟩
  have pt12 := pt0.no p10
  cases t5
  · rw [cond_false] at H
    refine lwp_run 6 (by kernel_rfl) ?_
    refine lwp_nil ?_
    refine cwp_true (by kernel_rfl) ?_
    refine cwp_seq ?_
    refine cwp_region ?_
    obtain ⟨t310, m311, H⟩ := bind_some H
    have f312 := hG.up (p10.up hB (fun _ x => x.elim))
    refine lwp_op (by kernel_rfl) (owp_callF (by kernel_rfl) (shutterlaw06_awake.calls p10.bd f312 m311) ?_)
    rintro v313 h314 ⟨I315, rfl, p316⟩
    have pt318 := pt12.no p316
    refine lwp_run 1 (by kernel_rfl) ?_
    refine lwp_nil ?_
    refine cwp_ret ?_
    obtain rfl := Option.some.inj H
    show Exists _
    exact ⟨.bool t310, by kernel_rfl, I315, rfl, pt318⟩
  · rw [cond_true] at H
    refine lwp_run 4 (by kernel_rfl) ?_
    by_cases c13 : (x0.length : Int) > 300
    · rw [if_pos c13] at H
      refine lwp_op (by kernel_rfl) (owp_pure ((.bool true)) (pr_bool (by kernel_rfl) (decide_eq_true c13)) ?_)
      refine lwp_run 1 (by kernel_rfl) ?_
      refine lwp_nil ?_
      refine cwp_true (by kernel_rfl) ?_
      refine cwp_seq ?_
      refine cwp_region ?_
      obtain ⟨t14, m15, H⟩ := bind_some H
      have f16 := hG.up (p10.up hB (fun _ x => x.elim))
      refine lwp_op (by kernel_rfl) (owp_callF (by kernel_rfl) (shutterlaw06_awake.calls p10.bd f16 m15) ?_)
      rintro v17 h18 ⟨I19, rfl, p20⟩
      have pt22 := pt12.no p20
      refine lwp_run 1 (by kernel_rfl) ?_
      refine lwp_nil ?_
      refine cwp_ret ?_
      obtain rfl := Option.some.inj H
      show Exists _
      exact ⟨.bool t14, by kernel_rfl, I19, rfl, pt22⟩
    · rw [if_neg c13] at H
      refine lwp_op (by kernel_rfl) (owp_pure ((.bool false)) (pr_bool (by kernel_rfl) (decide_eq_false c13)) ?_)
      refine lwp_run 1 (by kernel_rfl) ?_
      refine lwp_nil ?_
      refine cwp_false (by kernel_rfl) ?_
      refine cwp_skip ?_
      refine cwp_seq ?_
      refine cwp_region ?_
      refine lwp_run 1 (by kernel_rfl) ?_
      have f23 := r4.up (p10.up hB (fun _ x => x.elim))
      obtain ⟨t24, m25, H⟩ := bind_some H
      refine lwp_op (by kernel_rfl) (owp_callF (by kernel_rfl) (bytes_New.calls p10.bd f23 m25) ?_)
      rintro v26 h27 ⟨I28, b31, a32, c33, v36, rfl, p29, r35, q38, o39, fr40⟩
      have pt41 := pt12.no p29
      have fr42 := Nat.le_trans pt12.size fr40
      refine lwp_run 1 (by kernel_rfl) ?_
      refine lwp_nil ?_
      refine cwp_seq ?_
      refine cwp_seq ?_
      refine cwp_region ?_
      refine lwp_run 2 (by kernel_rfl) ?_
      refine lwp_nil ?_
      refine cwp_false (by kernel_rfl) ?_
      refine cwp_skip ?_
      refine cwp_seq ?_
      refine cwp_region ?_
      obtain ⟨c43, H⟩ := guard_pos H
      refine lwp_run 5 (by kernel_rfl) ?_
      refine lwp_op (by kernel_rfl) (owp_pure ((.int .i64 (Int.tmod (w64 (x1)) (w64 ((x0.length : Int) + 1))))) (pr_rem (k := .i64) (a := (w64 (x1))) (b := (w64 ((x0.length : Int) + 1))) (by kernel_rfl) (by kernel_rfl) c43) ?_)
      refine lwp_run 1 (by kernel_rfl) ?_
      refine lwp_nil ?_
      refine cwp_seq ?_
      refine cwp_region ?_
      refine lwp_run 2 (by kernel_rfl) ?_
      obtain ⟨t44, m45, H⟩ := bind_some H
      refine lwp_op (by kernel_rfl) (owp_callF (by kernel_rfl) (bytes_Cursor_Take.calls p29.bd o39 r35 q38 m45) ?_)
      rintro v46 h47 ⟨I48, a51, c52, a56, c57, v60, rfl, p49, r54, fr55, r59, q62, o63⟩
      have pt64 := pt41.own p49 (one_fresh fr42)
      have fr65 := fresh_up fr55 pt41.size
      have d66 := fresh_blk fr55 o39.lt
      refine lwp_nil ?_
      refine cwp_seq ?_
      refine cwp_region ?_
      refine lwp_run 2 (by kernel_rfl) ?_
      obtain ⟨t67, m68, H⟩ := bind_some H
      refine lwp_op (by kernel_rfl) (owp_callF (by kernel_rfl) (bytes_Cursor_Fail.calls p49.bd o63 r59 q62 (show ErrV I48 h47 (GoErr.no 5) (.iface 55 (.int .i64 5)) from rfl) m68) ?_)
      rintro v69 h70 ⟨I71, a74, c75, v78, rfl, p72, r77, q80, o81⟩
      have pt82 := pt64.own p72 (one_fresh fr42)
      refine lwp_nil ?_
      refine cwp_seq ?_
      refine cwp_region ?_
      refine lwp_run 2 (by kernel_rfl) ?_
      obtain ⟨t83, m84, H⟩ := bind_some H
      refine lwp_op (by kernel_rfl) (owp_callF (by kernel_rfl) (bytes_Cursor_Fail.calls p72.bd o81 r77 q80 (show ErrV I71 h70 (GoErr.no 3) (.iface 55 (.int .i64 3)) from rfl) m84) ?_)
      rintro v85 h86 ⟨I87, a90, c91, v94, rfl, p88, r93, q96, o97⟩
      have pt98 := pt82.own p88 (one_fresh fr42)
      refine lwp_nil ?_
      refine cwp_seq ?_
      refine cwp_region ?_
      refine lwp_run 1 (by kernel_rfl) ?_
      obtain ⟨t99, m100, H⟩ := bind_some H
      refine lwp_op (by kernel_rfl) (owp_callF (by kernel_rfl) (bytes_Cursor_Byte.calls p88.bd o97 r93 q96 m100) ?_)
      rintro v101 h102 ⟨I103, a106, c107, v110, rfl, p104, r109, q112, o113⟩
      have pt114 := pt98.own p104 (one_fresh fr42)
      refine lwp_run 1 (by kernel_rfl) ?_
      refine lwp_nil ?_
      refine cwp_seq ?_
      refine cwp_region ?_
      refine lwp_run 1 (by kernel_rfl) ?_
      obtain ⟨t115, m116, H⟩ := bind_some H
      refine lwp_op (by kernel_rfl) (owp_callF (by kernel_rfl) (bytes_Cursor_Take.calls p104.bd o113 r109 q112 m116) ?_)
      rintro v117 h118 ⟨I119, a122, c123, a127, c128, v131, rfl, p120, r125, fr126, r130, q133, o134⟩
      have pt135 := pt114.own p120 (one_fresh fr42)
      have fr136 := fresh_up fr126 pt114.size
      have d137 := fresh_blk fr126 o113.lt
      have f139 := r54.post p49.bd p72 (one_not o63.no) (dis_one d66)
      have f140 := f139.post p72.bd p88 (one_not o81.no) (dis_one d66)
      have f141 := f140.post p88.bd p104 (one_not o97.no) (dis_one d66)
      have d138 := fresh_sl fr126 f141.lt
      refine lwp_run 1 (by kernel_rfl) ?_
      refine lwp_nil ?_
      refine cwp_seq ?_
      refine cwp_region ?_
      refine lwp_run 2 (by kernel_rfl) ?_
      obtain ⟨t142, m143, H⟩ := bind_some H
      refine lwp_op (by kernel_rfl) (owp_callF (by kernel_rfl) (bytes_Cursor_Addr.calls p120.bd o134 r130 q133 m143) ?_)
      rintro v144 h145 ⟨I146, a149, c150, v153, rfl, p147, r152, q155, o156⟩
      have pt157 := pt135.own p147 (one_fresh fr42)
      refine lwp_run 1 (by kernel_rfl) ?_
      refine lwp_nil ?_
      refine cwp_seq ?_
      refine cwp_region ?_
      refine lwp_run 1 (by kernel_rfl) ?_
      obtain ⟨t158, m159, H⟩ := bind_some H
      refine lwp_op (by kernel_rfl) (owp_callF (by kernel_rfl) (bytes_Cursor_Chars.calls p147.bd o156 r152 q155 m159) ?_)
      rintro v160 h161 ⟨I162, a165, c166, a170, c171, v174, rfl, p163, r168, fr169, r173, q176, o177⟩
      have pt178 := pt157.own p163 (one_fresh fr42)
      have fr179 := fresh_up fr169 pt157.size
      have d180 := fresh_blk fr169 o156.lt
      have f182 := r54.post p49.bd p72 (one_not o63.no) (dis_one d66)
      have f183 := f182.post p72.bd p88 (one_not o81.no) (dis_one d66)
      have f184 := f183.post p88.bd p104 (one_not o97.no) (dis_one d66)
      have f185 := f184.post p104.bd p120 (one_not o113.no) (dis_one d66)
      have f186 := f185.post p120.bd p147 (one_not o134.no) (dis_one d66)
      have d181 := fresh_sl fr169 f186.lt
      have f188 := r125.post p120.bd p147 (one_not o134.no) (dis_one d137)
      have d187 := fresh_sl fr169 f188.lt
      refine lwp_run 1 (by kernel_rfl) ?_
      refine lwp_nil ?_
      obtain ⟨j224, e309, H⟩ := letJ_some H
      refine cwp_join (fun ρ' h206 => ∃ (x211 : Bool) (x212 : List Int) (x217 : Int) (x218 : GoErr) (a213 : Option Addr) (c214 : Nat) (v219 : Value) (I207 : Gh), j224 x211 x212 x217 x218 = some r ∧ Fits [(7, .pointer (some ⟨b31, 0, none⟩)), (8, .int .i64 (Int.tmod (w64 (x1)) (w64 ((x0.length : Int) + 1)))), (9, .int .u8 t99.1), (10, .slice a122 t115.1.length c123), (11, .int .i64 t142.1), (12, .slice a165 t158.1.length c166), (14, .bool x211)] ρ' ∧ Pst No I h I207 h206 ∧ Own (tInt .u8) I207 h206 a122 c123 t115.1 ∧ Own (tInt .u8) I207 h206 a165 c166 t158.1 ∧ Rd (tInt .u8) I207 h206 a213 c214 x212 ∧ ErrV I207 h206 x218 v219 ∧ OwnB I207 h206 b31 [.slice a213 x212.length c214, .int .i64 x217, v219] 62 ∧ Glob I207 h206) ?_ ?_
      · refine cwp_region ?_
        refine lwp_run 1 (by kernel_rfl) ?_
        obtain ⟨t189, m190, H⟩ := bind_some H
        refine lwp_op (by kernel_rfl) (owp_callF (by kernel_rfl) (bytes_Cursor_Peek.calls p163.bd o177 r173 q176 m190) ?_)
        rintro v191 h192 ⟨I193, a196, c197, v200, rfl, p194, r199, q202, o203⟩
        have pt204 := pt178.own p194 (one_fresh fr42)
        refine lwp_run 2 (by kernel_rfl) ?_
        rcases bool_or t189.2.1 with c205 | c205
        · replace H := bif_f c205 H
          refine lwp_op (by kernel_rfl) (owp_pure ((.bool false)) (pr_bool (by kernel_rfl) c205) ?_)
          refine lwp_run 2 (by kernel_rfl) ?_
          refine lwp_nil ?_
          have f100015 := r125.post p120.bd p147 (one_not o134.no) (dis_one d137)
          have f100016 := f100015.post p147.bd p163 (one_not o156.no) (dis_one d137)
          have f100017 := f100016.post p163.bd p194 (one_not o177.no) (dis_one d137)
          have f100018 := r168.post p163.bd p194 (one_not o177.no) (dis_one d180)
          have f100019 := hG.up (p10.up hB (fun _ x => x.elim))
          have f100020 := f100019.up (p29.up p10.bd (fun _ x => x.elim))
          have f100021 := f100020.up (p49.up p29.bd (one_not o39.no))
          have f100022 := f100021.up (p72.up p49.bd (one_not o63.no))
          have f100023 := f100022.up (p88.up p72.bd (one_not o81.no))
          have f100024 := f100023.up (p104.up p88.bd (one_not o97.no))
          have f100025 := f100024.up (p120.up p104.bd (one_not o113.no))
          have f100026 := f100025.up (p147.up p120.bd (one_not o134.no))
          have f100027 := f100026.up (p163.up p147.bd (one_not o156.no))
          have f100028 := f100027.up (p194.up p163.bd (one_not o177.no))
          exact ⟨false, t189.2.2.b', t189.2.2.at', t189.2.2.err', a196, c197, v200, I193, H, ⟨by kernel_rfl, by kernel_rfl, by kernel_rfl, by kernel_rfl, by kernel_rfl, by kernel_rfl, by kernel_rfl, trivial⟩, pt204, f100017, f100018, r199, q202, o203, f100028⟩
        · replace H := bif_t c205 H
          refine lwp_op (by kernel_rfl) (owp_pure ((.bool true)) (pr_bool (by kernel_rfl) c205) ?_)
          refine lwp_run 2 (by kernel_rfl) ?_
          refine lwp_nil ?_
          have f100001 := r125.post p120.bd p147 (one_not o134.no) (dis_one d137)
          have f100002 := f100001.post p147.bd p163 (one_not o156.no) (dis_one d137)
          have f100003 := f100002.post p163.bd p194 (one_not o177.no) (dis_one d137)
          have f100004 := r168.post p163.bd p194 (one_not o177.no) (dis_one d180)
          have f100005 := hG.up (p10.up hB (fun _ x => x.elim))
          have f100006 := f100005.up (p29.up p10.bd (fun _ x => x.elim))
          have f100007 := f100006.up (p49.up p29.bd (one_not o39.no))
          have f100008 := f100007.up (p72.up p49.bd (one_not o63.no))
          have f100009 := f100008.up (p88.up p72.bd (one_not o81.no))
          have f100010 := f100009.up (p104.up p88.bd (one_not o97.no))
          have f100011 := f100010.up (p120.up p104.bd (one_not o113.no))
          have f100012 := f100011.up (p147.up p120.bd (one_not o134.no))
          have f100013 := f100012.up (p163.up p147.bd (one_not o156.no))
          have f100014 := f100013.up (p194.up p163.bd (one_not o177.no))
          exact ⟨true, t189.2.2.b', t189.2.2.at', t189.2.2.err', a196, c197, v200, I193, H, ⟨by kernel_rfl, by kernel_rfl, by kernel_rfl, by kernel_rfl, by kernel_rfl, by kernel_rfl, by kernel_rfl, trivial⟩, pt204, f100003, f100004, r199, q202, o203, f100014⟩
      · clear H
        rintro ρ' h206 ⟨x211, x212, x217, x218, a213, c214, v219, I207, H, hf, pt208, r209, r210, r215, q220, o222, g223⟩
        refine cwp_fits _ hf ?_
        subst e309
        try dsimp only at H
        refine cwp_seq ?_
        refine cwp_region ?_
        refine lwp_run 1 (by kernel_rfl) ?_
        by_cases c225 : t99.1 = 0
        · rw [if_pos c225] at H
          refine lwp_op (by kernel_rfl) (owp_pure ((.bool true)) (pr_bool (by kernel_rfl) (eqT c225)) ?_)
          refine lwp_run 3 (by kernel_rfl) ?_
          by_cases c226 : (t115.1.length : Int) = 0
          · rw [if_pos c226] at H
            refine lwp_op (by kernel_rfl) (owp_pure ((.bool true)) (pr_bool (by kernel_rfl) (eqT c226)) ?_)
            refine lwp_run 3 (by kernel_rfl) ?_
            by_cases c227 : t142.1 = 0
            · rw [if_pos c227] at H
              refine lwp_op (by kernel_rfl) (owp_pure ((.bool true)) (pr_bool (by kernel_rfl) (eqT c227)) ?_)
              refine lwp_run 4 (by kernel_rfl) ?_
              by_cases c228 : (t158.1.length : Int) = 0
              · rw [if_pos c228] at H
                refine lwp_op (by kernel_rfl) (owp_pure ((.bool true)) (pr_bool (by kernel_rfl) (eqT c228)) ?_)
                refine lwp_run 2 (by kernel_rfl) ?_
                rcases bool_or x211 with c229 | c229
                · replace H := bif_f c229 H
                  refine lwp_op (by kernel_rfl) (owp_pure ((.bool false)) (pr_bool (by kernel_rfl) c229) ?_)
                  refine lwp_run 4 (by kernel_rfl) ?_
                  obtain ⟨t230, m231, H⟩ := bind_some H
                  refine lwp_op (by kernel_rfl) (owp_callF (by kernel_rfl) (bytes_Cursor_At.calls pt208.bd o222 r215 q220 m231) ?_)
                  rintro v232 h233 ⟨I234, a237, c238, v241, rfl, p235, r240, q243, o244⟩
                  have pt245 := pt208.own p235 (one_fresh fr42)
                  refine lwp_run 1 (by kernel_rfl) ?_
                  by_cases c246 : t230.1 = (Int.tmod (w64 (x1)) (w64 ((x0.length : Int) + 1)))
                  · rw [if_pos c246] at H
                    refine lwp_op (by kernel_rfl) (owp_pure ((.bool true)) (pr_bool (by kernel_rfl) (eqT c246)) ?_)
                    refine lwp_run 3 (by kernel_rfl) ?_
                    obtain ⟨t247, m248, H⟩ := bind_some H
                    refine lwp_op (by kernel_rfl) (owp_callF (by kernel_rfl) (bytes_Cursor_Err.calls p235.bd o244 r240 q243 m248) ?_)
                    rintro v249 h250 ⟨I251, v254, a257, c258, v261, rfl, p252, q256, r260, q263, o264⟩
                    have pt265 := pt245.own p252 (one_fresh fr42)
                    obtain ⟨t266, m267, H⟩ := bind_some H
                    have f268 := g223.up (p235.up pt208.bd (one_not o222.no))
                    have f269 := f268.up (p252.up p235.bd (one_not o244.no))
                    refine lwp_op (by kernel_rfl) (owp_callF (by kernel_rfl) (api_Code.calls p252.bd f269 q256 m267) ?_)
                    rintro v270 h271 ⟨I272, rfl, p273⟩
                    have pt275 := pt265.no p273
                    by_cases c276 : t266 = 5
                    · rw [if_pos c276] at H
                      refine lwp_op (by kernel_rfl) (owp_pure ((.bool true)) (pr_bool (by kernel_rfl) (eqT c276)) ?_)
                      refine lwp_run 3 (by kernel_rfl) ?_
                      have f277 := o264.post p273 (fun x => x.elim)
                      have f278 := r260.up (p273.up p252.bd (fun _ x => x.elim))
                      have f279 := ErrV.up (p273.up p252.bd (fun _ x => x.elim)) q263
                      obtain ⟨t280, m281, H⟩ := bind_some H
                      refine lwp_op (by kernel_rfl) (owp_callF (by kernel_rfl) (bytes_Cursor_Err.calls p273.bd f277 f278 f279 m281) ?_)
                      rintro v282 h283 ⟨I284, v287, a290, c291, v294, rfl, p285, q289, r293, q296, o297⟩
                      have pt298 := pt275.own p285 (one_fresh fr42)
                      obtain ⟨t299, m300, H⟩ := bind_some H
                      have f301 := f269.up (p273.up p252.bd (fun _ x => x.elim))
                      have f302 := f301.up (p285.up p273.bd (one_not f277.no))
                      refine lwp_op (by kernel_rfl) (owp_callF (by kernel_rfl) (api_Where.calls p285.bd f302 q289 m300) ?_)
                      rintro v303 h304 ⟨I305, rfl, p306⟩
                      have pt308 := pt298.no p306
                      refine lwp_run 4 (by kernel_rfl) ?_
                      refine lwp_nil ?_
                      refine cwp_ret ?_
                      obtain rfl := Option.some.inj H
                      show Exists _
                      exact ⟨.bool (t299 == (Int.tmod (w64 (x1)) (w64 ((x0.length : Int) + 1)))), by kernel_rfl, I305, rfl, pt308⟩
                    · rw [if_neg c276] at H
                      refine lwp_op (by kernel_rfl) (owp_pure ((.bool false)) (pr_bool (by kernel_rfl) (eqF c276)) ?_)
                      refine lwp_run 9 (by kernel_rfl) ?_
                      refine lwp_nil ?_
                      refine cwp_ret ?_
                      obtain rfl := Option.some.inj H
                      show Exists _
                      exact ⟨.bool false, by kernel_rfl, I272, rfl, pt275⟩
                  · rw [if_neg c246] at H
                    refine lwp_op (by kernel_rfl) (owp_pure ((.bool false)) (pr_bool (by kernel_rfl) (eqF c246)) ?_)
                    refine lwp_run 15 (by kernel_rfl) ?_
                    refine lwp_nil ?_
                    refine cwp_ret ?_
                    obtain rfl := Option.some.inj H
                    show Exists _
                    exact ⟨.bool false, by kernel_rfl, I234, rfl, pt245⟩
                · replace H := bif_t c229 H
                  refine lwp_op (by kernel_rfl) (owp_pure ((.bool true)) (pr_bool (by kernel_rfl) c229) ?_)
                  refine lwp_run 22 (by kernel_rfl) ?_
                  refine lwp_nil ?_
                  refine cwp_ret ?_
                  obtain rfl := Option.some.inj H
                  show Exists _
                  exact ⟨.bool false, by kernel_rfl, I207, rfl, pt208⟩
              · rw [if_neg c228] at H
                refine lwp_op (by kernel_rfl) (owp_pure ((.bool false)) (pr_bool (by kernel_rfl) (eqF c228)) ?_)
                refine lwp_run 25 (by kernel_rfl) ?_
                refine lwp_nil ?_
                refine cwp_ret ?_
                obtain rfl := Option.some.inj H
                show Exists _
                exact ⟨.bool false, by kernel_rfl, I207, rfl, pt208⟩
            · rw [if_neg c227] at H
              refine lwp_op (by kernel_rfl) (owp_pure ((.bool false)) (pr_bool (by kernel_rfl) (eqF c227)) ?_)
              refine lwp_run 30 (by kernel_rfl) ?_
              refine lwp_nil ?_
              refine cwp_ret ?_
              obtain rfl := Option.some.inj H
              show Exists _
              exact ⟨.bool false, by kernel_rfl, I207, rfl, pt208⟩
          · rw [if_neg c226] at H
            refine lwp_op (by kernel_rfl) (owp_pure ((.bool false)) (pr_bool (by kernel_rfl) (eqF c226)) ?_)
            refine lwp_run 34 (by kernel_rfl) ?_
            refine lwp_nil ?_
            refine cwp_ret ?_
            obtain rfl := Option.some.inj H
            show Exists _
            exact ⟨.bool false, by kernel_rfl, I207, rfl, pt208⟩
        · rw [if_neg c225] at H
          refine lwp_op (by kernel_rfl) (owp_pure ((.bool false)) (pr_bool (by kernel_rfl) (eqF c225)) ?_)
          refine lwp_run 38 (by kernel_rfl) ?_
          refine lwp_nil ?_
          refine cwp_ret ?_
          obtain rfl := Option.some.inj H
          show Exists _
          exact ⟨.bool false, by kernel_rfl, I207, rfl, pt208⟩

end Go.Proofs.YtenlbpcfilmgpaaDoor.Sx
