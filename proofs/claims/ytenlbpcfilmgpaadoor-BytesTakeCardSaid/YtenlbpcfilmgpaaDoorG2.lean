/- Printed walks, part 2: each function's model, and that the code comes to it. -/
import Derived.Test.YtenlbpcfilmgpaaDoorProg
import Derived.Test.YtenlbpcfilmgpaaDoorSx9
import Derived.Test.YtenlbpcfilmgpaaDoorG1
namespace Go.Proofs.YtenlbpcfilmgpaaDoor.Sx
open Go

/-! shutter/shutterref04.Get -/
def shutterref04_Get.m (K : Nat) (x0 : (List Int)) (x1 : Int) : Option (Int × Int × Int) :=
  (if x1 < 1 then (some (0, 1, (-1))) else (if x1 > 16383 then (some (0, 1, (-1))) else (if (x0.length : Int) < 2 then (some (0, 2, (-1))) else (if 0 < (x0.length : Int) then (if 1 < (x0.length : Int) then (letJ (fun (x22 : Bool) => (bif x22 then ((shutterref03_Get.m K (at_ x0 0)).bind fun t28 => ((shutterref03_Get.m K (at_ x0 1)).bind fun t38 => (if t28 < 0 then (some (0, 3, 0)) else (if t38 < 0 then (some (0, 3, 1)) else (if (w64 ((w64 (64 * t28)) + t38)) ≥ x1 then (some (0, 4, (-1))) else (some ((w64 ((w64 (64 * t28)) + t38)), 0, (-1)))))))) else (if (at_ x0 0) > 63 then (some (0, 3, 0)) else (if (w64 ((w64 (256 * (w64 ((at_ x0 0))))) + (w64 ((at_ x0 1))))) ≥ x1 then (some (0, 4, (-1))) else (some ((w64 ((w64 (256 * (w64 ((at_ x0 0))))) + (w64 ((at_ x0 1))))), 0, (-1))))))) fun (j23 : Bool → Option (Int × Int × Int)) => (if x1 ≤ 4096 then (j23 true) else (j23 false))) else none) else none))))

set_option maxRecDepth 100000 in
theorem shutterref04_Get.calls {I : Gh} {h : Heap} {K : Nat} {x0 : List Int} {a1 : Option Addr} {c2 : Nat} {x1 : Int} (hB : Bd I h) (r4 : Rd (tInt .u8) I h a1 c2 x0) {r : (Int × Int × Int)}
    (H : shutterref04_Get.m K x0 x1 = some r) :
    Ret Tryd.prog 23 #[.slice a1 x0.length c2, .int .i64 x1] h (fun v h' => ∃ _ : Unit, .tuple #[.int .i64 r.1, .int .i64 r.2.1, .int .i64 r.2.2] = v ∧ h = h') := by
  unfold shutterref04_Get.m at H
  refine ret_of (args := [.slice a1 x0.length c2, .int .i64 x1]) (rs := [.tmp 4, .tmp 5, .tmp 6]) (N := 55) Tryd.func23 rfl rfl rfl (Nat.le_of_ble_eq_true rfl) ?_
  refine cwp_seq ?_
  refine cwp_region ?_
  refine lwp_run 3 (by kernel_rfl) ?_
  refine lwp_nil ?_
  refine cwp_seq ?_
  refine cwp_seq ?_
  refine cwp_region ?_
  refine lwp_run 1 (by kernel_rfl) ?_
  by_cases c5 : x1 < 1
  · rw [if_pos c5] at H
    refine lwp_op (by kernel_rfl) (owp_pure ((.bool true)) (pr_bool (by kernel_rfl) (decide_eq_true c5)) ?_)
    refine lwp_run 4 (by kernel_rfl) ?_
    refine lwp_nil ?_
    refine cwp_true (by kernel_rfl) ?_
    refine cwp_seq ?_
    refine cwp_region ?_
    refine lwp_run 3 (by kernel_rfl) ?_
    refine lwp_nil ?_
    refine cwp_ret ?_
    obtain rfl := Option.some.inj H
    show Exists _
    exact ⟨.tuple #[.int .i64 0, .int .i64 1, .int .i64 (-1)], by kernel_rfl, (), rfl, rfl⟩
  · rw [if_neg c5] at H
    refine lwp_op (by kernel_rfl) (owp_pure ((.bool false)) (pr_bool (by kernel_rfl) (decide_eq_false c5)) ?_)
    refine lwp_run 2 (by kernel_rfl) ?_
    by_cases c6 : x1 > 16383
    · rw [if_pos c6] at H
      refine lwp_op (by kernel_rfl) (owp_pure ((.bool true)) (pr_bool (by kernel_rfl) (decide_eq_true c6)) ?_)
      refine lwp_run 1 (by kernel_rfl) ?_
      refine lwp_nil ?_
      refine cwp_true (by kernel_rfl) ?_
      refine cwp_seq ?_
      refine cwp_region ?_
      refine lwp_run 3 (by kernel_rfl) ?_
      refine lwp_nil ?_
      refine cwp_ret ?_
      obtain rfl := Option.some.inj H
      show Exists _
      exact ⟨.tuple #[.int .i64 0, .int .i64 1, .int .i64 (-1)], by kernel_rfl, (), rfl, rfl⟩
    · rw [if_neg c6] at H
      refine lwp_op (by kernel_rfl) (owp_pure ((.bool false)) (pr_bool (by kernel_rfl) (decide_eq_false c6)) ?_)
      refine lwp_run 1 (by kernel_rfl) ?_
      refine lwp_nil ?_
      refine cwp_false (by kernel_rfl) ?_
      refine cwp_skip ?_
      refine cwp_seq ?_
      refine cwp_seq ?_
      refine cwp_region ?_
      refine lwp_run 2 (by kernel_rfl) ?_
      by_cases c7 : (x0.length : Int) < 2
      · rw [if_pos c7] at H
        refine lwp_op (by kernel_rfl) (owp_pure ((.bool true)) (pr_bool (by kernel_rfl) (decide_eq_true c7)) ?_)
        refine lwp_nil ?_
        refine cwp_true (by kernel_rfl) ?_
        refine cwp_seq ?_
        refine cwp_region ?_
        refine lwp_run 3 (by kernel_rfl) ?_
        refine lwp_nil ?_
        refine cwp_ret ?_
        obtain rfl := Option.some.inj H
        show Exists _
        exact ⟨.tuple #[.int .i64 0, .int .i64 2, .int .i64 (-1)], by kernel_rfl, (), rfl, rfl⟩
      · rw [if_neg c7] at H
        refine lwp_op (by kernel_rfl) (owp_pure ((.bool false)) (pr_bool (by kernel_rfl) (decide_eq_false c7)) ?_)
        refine lwp_nil ?_
        refine cwp_false (by kernel_rfl) ?_
        refine cwp_skip ?_
        refine cwp_seq ?_
        refine cwp_regionD (Keep No h) (by kernel_rfl) ?_
        obtain ⟨c8, H⟩ := guard_pos H
        refine awp_run (fuel := 10) [0] Keep.refl (by kernel_rfl) ?_
        have hs9 := r4.isSome (by decide) c8
        refine awp_pure 1 (elemPtr a1 ((0 : Int).toNat * 1)) rfl (by kernel_rfl) (by kernel_rfl) (pr_indexElem (e := 5) r4.toSl (k := .i64) (by kernel_rfl) (by kernel_rfl) (by kernel_rfl) (by kernel_rfl) (by decide) c8) Keep.refl ?_
        obtain ⟨cs10, hs11, rp12⟩ := r4.toSl.seg (by decide) c8
        obtain rfl := rep_int rp12
        refine awp_load 2 rfl (by kernel_rfl) (by kernel_rfl) (by kernel_rfl) (by kernel_rfl) Keep.refl (seg_cell (f := 0) hs11 rfl) (fun _ _ x => x.elim) ?_
        obtain ⟨c13, H⟩ := guard_pos H
        refine awp_run (fuel := 5) [3, 4, 5] Keep.refl (by kernel_rfl) ?_
        have hs14 := r4.isSome (by decide) c13
        refine awp_pure 6 (elemPtr a1 ((1 : Int).toNat * 1)) rfl (by kernel_rfl) (by kernel_rfl) (pr_indexElem (e := 5) r4.toSl (k := .i64) (by kernel_rfl) (by kernel_rfl) (by kernel_rfl) (by kernel_rfl) (by decide) c13) Keep.refl ?_
        obtain ⟨cs15, hs16, rp17⟩ := r4.toSl.seg (by decide) c13
        obtain rfl := rep_int rp17
        refine awp_load 7 rfl (by kernel_rfl) (by kernel_rfl) (by kernel_rfl) (by kernel_rfl) Keep.refl (seg_cell (f := 0) hs16 rfl) (fun _ _ x => x.elim) ?_
        refine awp_run (fuel := 0) [8, 9, 10] Keep.refl (by kernel_rfl) ?_
        refine awp_nil (by kernel_rfl) ?_ 0
        refine cwp_seq ?_
        obtain ⟨j23, e53, H⟩ := letJ_some H
        refine cwp_join (fun ρ' h19 => ∃ (x22 : Bool) (_ : Unit), j23 x22 = some r ∧ Fits [(0, .slice a1 x0.length c2), (1, .int .i64 x1), (7, .int .i64 (w64 ((w64 (256 * (w64 ((at_ x0 0))))) + (w64 ((at_ x0 1)))))), (30, .bool x22)] ρ' ∧ h = h19) ?_ ?_
        · refine cwp_region ?_
          refine lwp_run 1 (by kernel_rfl) ?_
          by_cases c18 : x1 ≤ 4096
          · rw [if_pos c18] at H
            refine lwp_op (by kernel_rfl) (owp_pure ((.bool true)) (pr_bool (by kernel_rfl) (decide_eq_true c18)) ?_)
            refine lwp_nil ?_
            exact ⟨true, (), H, ⟨by kernel_rfl, by kernel_rfl, by kernel_rfl, by kernel_rfl, trivial⟩, rfl⟩
          · rw [if_neg c18] at H
            refine lwp_op (by kernel_rfl) (owp_pure ((.bool false)) (pr_bool (by kernel_rfl) (decide_eq_false c18)) ?_)
            refine lwp_nil ?_
            exact ⟨false, (), H, ⟨by kernel_rfl, by kernel_rfl, by kernel_rfl, by kernel_rfl, trivial⟩, rfl⟩
        · clear H
          rintro ρ' h19 ⟨x22, _, H, hf, rfl⟩
          refine cwp_fits _ hf ?_
          subst e53
          try dsimp only at H
          cases x22
          · rw [cond_false] at H
            refine cwp_false (by kernel_rfl) ?_
            refine cwp_seq ?_
            refine cwp_region ?_
            refine lwp_run 1 (by kernel_rfl) ?_
            have hs47 := r4.isSome (by decide) c8
            refine lwp_op (by kernel_rfl) (owp_pure (elemPtr a1 ((0 : Int).toNat * 1)) (pr_indexElem (e := 5) r4.toSl (k := .i64) (by kernel_rfl) (by kernel_rfl) (by kernel_rfl) (by kernel_rfl) (by decide) c8) ?_)
            obtain ⟨cs48, hs49, rp50⟩ := r4.toSl.seg (by decide) c8
            obtain rfl := rep_int rp50
            refine lwp_op (by kernel_rfl) (owp_load (by kernel_rfl) (by kernel_rfl) (seg_cell (f := 0) hs49 rfl) ?_)
            by_cases c51 : (at_ x0 0) > 63
            · rw [if_pos c51] at H
              refine lwp_op (by kernel_rfl) (owp_pure ((.bool true)) (pr_bool (by kernel_rfl) (decide_eq_true c51)) ?_)
              refine lwp_nil ?_
              refine cwp_true (by kernel_rfl) ?_
              refine cwp_seq ?_
              refine cwp_region ?_
              refine lwp_run 3 (by kernel_rfl) ?_
              refine lwp_nil ?_
              refine cwp_ret ?_
              obtain rfl := Option.some.inj H
              show Exists _
              exact ⟨.tuple #[.int .i64 0, .int .i64 3, .int .i64 0], by kernel_rfl, (), rfl, rfl⟩
            · rw [if_neg c51] at H
              refine lwp_op (by kernel_rfl) (owp_pure ((.bool false)) (pr_bool (by kernel_rfl) (decide_eq_false c51)) ?_)
              refine lwp_nil ?_
              refine cwp_false (by kernel_rfl) ?_
              refine cwp_skip ?_
              refine cwp_seq ?_
              refine cwp_seq ?_
              refine cwp_region ?_
              refine lwp_run 2 (by kernel_rfl) ?_
              by_cases c52 : (w64 ((w64 (256 * (w64 ((at_ x0 0))))) + (w64 ((at_ x0 1))))) ≥ x1
              · rw [if_pos c52] at H
                refine lwp_op (by kernel_rfl) (owp_pure ((.bool true)) (pr_bool (by kernel_rfl) (decide_eq_true c52)) ?_)
                refine lwp_nil ?_
                refine cwp_true (by kernel_rfl) ?_
                refine cwp_seq ?_
                refine cwp_region ?_
                refine lwp_run 3 (by kernel_rfl) ?_
                refine lwp_nil ?_
                refine cwp_ret ?_
                obtain rfl := Option.some.inj H
                show Exists _
                exact ⟨.tuple #[.int .i64 0, .int .i64 4, .int .i64 (-1)], by kernel_rfl, (), rfl, rfl⟩
              · rw [if_neg c52] at H
                refine lwp_op (by kernel_rfl) (owp_pure ((.bool false)) (pr_bool (by kernel_rfl) (decide_eq_false c52)) ?_)
                refine lwp_nil ?_
                refine cwp_false (by kernel_rfl) ?_
                refine cwp_skip ?_
                refine cwp_seq ?_
                refine cwp_region ?_
                refine lwp_run 4 (by kernel_rfl) ?_
                refine lwp_nil ?_
                refine cwp_ret ?_
                obtain rfl := Option.some.inj H
                show Exists _
                exact ⟨.tuple #[.int .i64 (w64 ((w64 (256 * (w64 ((at_ x0 0))))) + (w64 ((at_ x0 1))))), .int .i64 0, .int .i64 (-1)], by kernel_rfl, (), rfl, rfl⟩
          · rw [cond_true] at H
            refine cwp_true (by kernel_rfl) ?_
            refine cwp_seq ?_
            refine cwp_region ?_
            refine lwp_run 1 (by kernel_rfl) ?_
            have hs24 := r4.isSome (by decide) c8
            refine lwp_op (by kernel_rfl) (owp_pure (elemPtr a1 ((0 : Int).toNat * 1)) (pr_indexElem (e := 5) r4.toSl (k := .i64) (by kernel_rfl) (by kernel_rfl) (by kernel_rfl) (by kernel_rfl) (by decide) c8) ?_)
            obtain ⟨cs25, hs26, rp27⟩ := r4.toSl.seg (by decide) c8
            obtain rfl := rep_int rp27
            refine lwp_op (by kernel_rfl) (owp_load (by kernel_rfl) (by kernel_rfl) (seg_cell (f := 0) hs26 rfl) ?_)
            obtain ⟨t28, m29, H⟩ := bind_some H
            refine lwp_op (by kernel_rfl) (owp_callF (by kernel_rfl) (shutterref03_Get.calls hB m29) ?_)
            rintro v30 h31 ⟨_, rfl, rfl⟩
            refine lwp_run 1 (by kernel_rfl) ?_
            refine lwp_nil ?_
            refine cwp_seq ?_
            refine cwp_region ?_
            refine lwp_run 1 (by kernel_rfl) ?_
            have hs34 := r4.isSome (by decide) c13
            refine lwp_op (by kernel_rfl) (owp_pure (elemPtr a1 ((1 : Int).toNat * 1)) (pr_indexElem (e := 5) r4.toSl (k := .i64) (by kernel_rfl) (by kernel_rfl) (by kernel_rfl) (by kernel_rfl) (by decide) c13) ?_)
            obtain ⟨cs35, hs36, rp37⟩ := r4.toSl.seg (by decide) c13
            obtain rfl := rep_int rp37
            refine lwp_op (by kernel_rfl) (owp_load (by kernel_rfl) (by kernel_rfl) (seg_cell (f := 0) hs36 rfl) ?_)
            obtain ⟨t38, m39, H⟩ := bind_some H
            refine lwp_op (by kernel_rfl) (owp_callF (by kernel_rfl) (shutterref03_Get.calls hB m39) ?_)
            rintro v40 h41 ⟨_, rfl, rfl⟩
            refine lwp_run 1 (by kernel_rfl) ?_
            refine lwp_nil ?_
            refine cwp_seq ?_
            refine cwp_seq ?_
            refine cwp_region ?_
            refine lwp_run 1 (by kernel_rfl) ?_
            by_cases c44 : t28 < 0
            · rw [if_pos c44] at H
              refine lwp_op (by kernel_rfl) (owp_pure ((.bool true)) (pr_bool (by kernel_rfl) (decide_eq_true c44)) ?_)
              refine lwp_nil ?_
              refine cwp_true (by kernel_rfl) ?_
              refine cwp_seq ?_
              refine cwp_region ?_
              refine lwp_run 3 (by kernel_rfl) ?_
              refine lwp_nil ?_
              refine cwp_ret ?_
              obtain rfl := Option.some.inj H
              show Exists _
              exact ⟨.tuple #[.int .i64 0, .int .i64 3, .int .i64 0], by kernel_rfl, (), rfl, rfl⟩
            · rw [if_neg c44] at H
              refine lwp_op (by kernel_rfl) (owp_pure ((.bool false)) (pr_bool (by kernel_rfl) (decide_eq_false c44)) ?_)
              refine lwp_nil ?_
              refine cwp_false (by kernel_rfl) ?_
              refine cwp_skip ?_
              refine cwp_seq ?_
              refine cwp_seq ?_
              refine cwp_region ?_
              refine lwp_run 1 (by kernel_rfl) ?_
              by_cases c45 : t38 < 0
              · rw [if_pos c45] at H
                refine lwp_op (by kernel_rfl) (owp_pure ((.bool true)) (pr_bool (by kernel_rfl) (decide_eq_true c45)) ?_)
                refine lwp_nil ?_
                refine cwp_true (by kernel_rfl) ?_
                refine cwp_seq ?_
                refine cwp_region ?_
                refine lwp_run 3 (by kernel_rfl) ?_
                refine lwp_nil ?_
                refine cwp_ret ?_
                obtain rfl := Option.some.inj H
                show Exists _
                exact ⟨.tuple #[.int .i64 0, .int .i64 3, .int .i64 1], by kernel_rfl, (), rfl, rfl⟩
              · rw [if_neg c45] at H
                refine lwp_op (by kernel_rfl) (owp_pure ((.bool false)) (pr_bool (by kernel_rfl) (decide_eq_false c45)) ?_)
                refine lwp_nil ?_
                refine cwp_false (by kernel_rfl) ?_
                refine cwp_skip ?_
                refine cwp_region ?_
                refine lwp_run 5 (by kernel_rfl) ?_
                refine lwp_nil ?_
                refine cwp_seq ?_
                refine cwp_seq ?_
                refine cwp_region ?_
                refine lwp_run 2 (by kernel_rfl) ?_
                by_cases c46 : (w64 ((w64 (64 * t28)) + t38)) ≥ x1
                · rw [if_pos c46] at H
                  refine lwp_op (by kernel_rfl) (owp_pure ((.bool true)) (pr_bool (by kernel_rfl) (decide_eq_true c46)) ?_)
                  refine lwp_nil ?_
                  refine cwp_true (by kernel_rfl) ?_
                  refine cwp_seq ?_
                  refine cwp_region ?_
                  refine lwp_run 3 (by kernel_rfl) ?_
                  refine lwp_nil ?_
                  refine cwp_ret ?_
                  obtain rfl := Option.some.inj H
                  show Exists _
                  exact ⟨.tuple #[.int .i64 0, .int .i64 4, .int .i64 (-1)], by kernel_rfl, (), rfl, rfl⟩
                · rw [if_neg c46] at H
                  refine lwp_op (by kernel_rfl) (owp_pure ((.bool false)) (pr_bool (by kernel_rfl) (decide_eq_false c46)) ?_)
                  refine lwp_nil ?_
                  refine cwp_false (by kernel_rfl) ?_
                  refine cwp_skip ?_
                  refine cwp_seq ?_
                  refine cwp_region ?_
                  refine lwp_run 4 (by kernel_rfl) ?_
                  refine lwp_nil ?_
                  refine cwp_ret ?_
                  obtain rfl := Option.some.inj H
                  show Exists _
                  exact ⟨.tuple #[.int .i64 (w64 ((w64 (64 * t28)) + t38)), .int .i64 0, .int .i64 (-1)], by kernel_rfl, (), rfl, rfl⟩

/-! shutter/shutterlaw04.AddrGets -/
def shutterlaw04_AddrGets.m (K : Nat) (x0 : (List Int)) (x1 : Int) : Option Bool :=
  ((shutterlaw04_awake.m K).bind fun t5 => bif t5 then (if (x0.length : Int) > 100 then ((shutterlaw04_awake.m K).bind fun t14 => (some t14)) else ((addr_Get.m K x0 x1).bind fun t24 => ((shutterref04_Get.m K x0 x1).bind fun t36 => (if t24.1 = t36.1 then ((api_Code.m t24.2).bind fun t43 => (if t43 = t36.2.1 then ((api_Where.m t24.2).bind fun t55 => (some (t55 == t36.2.2))) else (some false))) else (some false))))) else ((shutterlaw04_awake.m K).bind fun t64 => (some t64)))

set_option maxRecDepth 100000 in
theorem shutterlaw04_AddrGets.calls {I : Gh} {h : Heap} {K : Nat} {x0 : List Int} {a1 : Option Addr} {c2 : Nat} {x1 : Int} (hB : Bd I h) (hG : Glob I h) (r4 : Rd (tInt .u8) I h a1 c2 x0) {r : Bool}
    (H : shutterlaw04_AddrGets.m K x0 x1 = some r) :
    Ret Tryd.prog 8 #[.slice a1 x0.length c2, .int .i64 x1] h (fun v h' => ∃ (I' : Gh), .bool r = v ∧ Pst No I h I' h') := by
  unfold shutterlaw04_AddrGets.m at H
  refine ret_of (args := [.slice a1 x0.length c2, .int .i64 x1]) (rs := [.tmp 4]) (N := 46) Tryd.func8 rfl rfl rfl (Nat.le_of_ble_eq_true rfl) ?_
  have pt0 : Pst No I h I h := Pst.refl hB
  refine cwp_seq ?_
  refine cwp_region ?_
  refine lwp_run 1 (by kernel_rfl) ?_
  refine lwp_nil ?_
  refine cwp_seq ?_
  refine cwp_seq ?_
  refine cwp_region ?_
  obtain ⟨t5, m6, H⟩ := bind_some H
  refine lwp_op (by kernel_rfl) (owp_callF (by kernel_rfl) (shutterlaw04_awake.calls hB hG m6) ?_)
  rintro v7 h8 ⟨I9, rfl, p10⟩
  have pt12 := pt0.no p10
  cases t5
  · rw [cond_false] at H
    refine lwp_run 6 (by kernel_rfl) ?_
    refine lwp_nil ?_
    refine cwp_true (by kernel_rfl) ?_
    refine cwp_seq ?_
    refine cwp_region ?_
    obtain ⟨t64, m65, H⟩ := bind_some H
    have f66 := hG.up (p10.up hB (fun _ x => x.elim))
    refine lwp_op (by kernel_rfl) (owp_callF (by kernel_rfl) (shutterlaw04_awake.calls p10.bd f66 m65) ?_)
    rintro v67 h68 ⟨I69, rfl, p70⟩
    have pt72 := pt12.no p70
    refine lwp_run 1 (by kernel_rfl) ?_
    refine lwp_nil ?_
    refine cwp_ret ?_
    obtain rfl := Option.some.inj H
    show Exists _
    exact ⟨.bool t64, by kernel_rfl, I69, rfl, pt72⟩
  · rw [cond_true] at H
    refine lwp_run 4 (by kernel_rfl) ?_
    by_cases c13 : (x0.length : Int) > 100
    · rw [if_pos c13] at H
      refine lwp_op (by kernel_rfl) (owp_pure ((.bool true)) (pr_bool (by kernel_rfl) (decide_eq_true c13)) ?_)
      refine lwp_run 1 (by kernel_rfl) ?_
      refine lwp_nil ?_
      refine cwp_true (by kernel_rfl) ?_
      refine cwp_seq ?_
      refine cwp_region ?_
      obtain ⟨t14, m15, H⟩ := bind_some H
      have f16 := hG.up (p10.up hB (fun _ x => x.elim))
      refine lwp_op (by kernel_rfl) (owp_callF (by kernel_rfl) (shutterlaw04_awake.calls p10.bd f16 m15) ?_)
      rintro v17 h18 ⟨I19, rfl, p20⟩
      have pt22 := pt12.no p20
      refine lwp_run 1 (by kernel_rfl) ?_
      refine lwp_nil ?_
      refine cwp_ret ?_
      obtain rfl := Option.some.inj H
      show Exists _
      exact ⟨.bool t14, by kernel_rfl, I19, rfl, pt22⟩
    · rw [if_neg c13] at H
      refine lwp_op (by kernel_rfl) (owp_pure ((.bool false)) (pr_bool (by kernel_rfl) (decide_eq_false c13)) ?_)
      refine lwp_run 1 (by kernel_rfl) ?_
      refine lwp_nil ?_
      refine cwp_false (by kernel_rfl) ?_
      refine cwp_skip ?_
      refine cwp_seq ?_
      refine cwp_region ?_
      refine lwp_run 2 (by kernel_rfl) ?_
      have f23 := r4.up (p10.up hB (fun _ x => x.elim))
      obtain ⟨t24, m25, H⟩ := bind_some H
      refine lwp_op (by kernel_rfl) (owp_callF (by kernel_rfl) (addr_Get.calls p10.bd f23 m25) ?_)
      rintro v26 h27 ⟨I28, v31, rfl, p29, q33⟩
      have pt34 := pt12.no p29
      refine lwp_run 5 (by kernel_rfl) ?_
      refine lwp_nil ?_
      refine cwp_seq ?_
      refine cwp_region ?_
      refine lwp_run 2 (by kernel_rfl) ?_
      have f35 := f23.up (p29.up p10.bd (fun _ x => x.elim))
      obtain ⟨t36, m37, H⟩ := bind_some H
      refine lwp_op (by kernel_rfl) (owp_callF (by kernel_rfl) (shutterref04_Get.calls p29.bd f35 m37) ?_)
      rintro v38 h39 ⟨_, rfl, rfl⟩
      refine lwp_run 7 (by kernel_rfl) ?_
      refine lwp_nil ?_
      refine cwp_seq ?_
      refine cwp_region ?_
      refine lwp_run 2 (by kernel_rfl) ?_
      by_cases c42 : t24.1 = t36.1
      · rw [if_pos c42] at H
        refine lwp_op (by kernel_rfl) (owp_pure ((.bool true)) (pr_bool (by kernel_rfl) (eqT c42)) ?_)
        refine lwp_run 2 (by kernel_rfl) ?_
        obtain ⟨t43, m44, H⟩ := bind_some H
        have f45 := hG.up (p10.up hB (fun _ x => x.elim))
        have f46 := f45.up (p29.up p10.bd (fun _ x => x.elim))
        refine lwp_op (by kernel_rfl) (owp_callF (by kernel_rfl) (api_Code.calls p29.bd f46 q33 m44) ?_)
        rintro v47 h48 ⟨I49, rfl, p50⟩
        have pt52 := pt34.no p50
        refine lwp_run 1 (by kernel_rfl) ?_
        by_cases c53 : t43 = t36.2.1
        · rw [if_pos c53] at H
          refine lwp_op (by kernel_rfl) (owp_pure ((.bool true)) (pr_bool (by kernel_rfl) (eqT c53)) ?_)
          refine lwp_run 3 (by kernel_rfl) ?_
          have f54 := ErrV.up (p50.up p29.bd (fun _ x => x.elim)) q33
          obtain ⟨t55, m56, H⟩ := bind_some H
          have f57 := f46.up (p50.up p29.bd (fun _ x => x.elim))
          refine lwp_op (by kernel_rfl) (owp_callF (by kernel_rfl) (api_Where.calls p50.bd f57 f54 m56) ?_)
          rintro v58 h59 ⟨I60, rfl, p61⟩
          have pt63 := pt52.no p61
          refine lwp_run 4 (by kernel_rfl) ?_
          refine lwp_nil ?_
          refine cwp_ret ?_
          obtain rfl := Option.some.inj H
          show Exists _
          exact ⟨.bool (t55 == t36.2.2), by kernel_rfl, I60, rfl, pt63⟩
        · rw [if_neg c53] at H
          refine lwp_op (by kernel_rfl) (owp_pure ((.bool false)) (pr_bool (by kernel_rfl) (eqF c53)) ?_)
          refine lwp_run 8 (by kernel_rfl) ?_
          refine lwp_nil ?_
          refine cwp_ret ?_
          obtain rfl := Option.some.inj H
          show Exists _
          exact ⟨.bool false, by kernel_rfl, I49, rfl, pt52⟩
      · rw [if_neg c42] at H
        refine lwp_op (by kernel_rfl) (owp_pure ((.bool false)) (pr_bool (by kernel_rfl) (eqF c42)) ?_)
        refine lwp_run 13 (by kernel_rfl) ?_
        refine lwp_nil ?_
        refine cwp_ret ?_
        obtain rfl := Option.some.inj H
        show Exists _
        exact ⟨.bool false, by kernel_rfl, I28, rfl, pt34⟩

/-! (*shutter/bytes.Cursor).Addr -/
def bytes_Cursor_Addr.m (K : Nat) (x0 : bytes_Cursor) (x1 : Int) : Option (Int × bytes_Cursor) :=
  (if x0.err' = GoErr.nil then (if 0 ≤ x0.at' then (if x0.at' ≤ (x0.b'.length : Int) then ((addr_Get.m K (sub x0.b' x0.at' (x0.b'.length : Int)) x1).bind fun t19 => ((bytes_Cursor_Fail.m x0 t19.2).bind fun t34 => (if t19.2 = GoErr.nil then (some (t19.1, (⟨t34.b', (w64 (t34.at' + 2)), t34.err'⟩ : bytes_Cursor))) else (some (t19.1, t34))))) else none) else none) else (some (0, x0)))

set_option maxRecDepth 100000 in
theorem bytes_Cursor_Addr.calls {I : Gh} {h : Heap} {K : Nat} {b0 : Nat} {x0 : bytes_Cursor} {a1 : Option Addr} {c2 : Nat} {v5 : Value} {x1 : Int} (hB : Bd I h) (o8 : OwnB I h b0 [.slice a1 x0.b'.length c2, .int .i64 x0.at', v5] 62) (r4 : Rd (tInt .u8) I h a1 c2 x0.b') (q7 : ErrV I h x0.err' v5) {r : (Int × bytes_Cursor)}
    (H : bytes_Cursor_Addr.m K x0 x1 = some r) :
    Ret Tryd.prog 27 #[.pointer (some ⟨b0, 0, none⟩), .int .i64 x1] h (fun v h' => ∃ (I' : Gh) (a60 : Option Addr) (c61 : Nat) (v64 : Value), .int .i64 r.1 = v ∧ Pst (One b0) I h I' h' ∧ Rd (tInt .u8) I' h' a60 c61 r.2.b' ∧ ErrV I' h' r.2.err' v64 ∧ OwnB I' h' b0 [.slice a60 r.2.b'.length c61, .int .i64 r.2.at', v64] 62) := by
  unfold bytes_Cursor_Addr.m at H
  refine ret_of (args := [.pointer (some ⟨b0, 0, none⟩), .int .i64 x1]) (rs := [.tmp 4]) (N := 39) Tryd.func27 rfl rfl rfl (Nat.le_of_ble_eq_true rfl) ?_
  have pt0 : Pst (One b0) I h I h := Pst.refl hB
  refine cwp_seq ?_
  refine cwp_region ?_
  refine lwp_run 1 (by kernel_rfl) ?_
  refine lwp_nil ?_
  refine cwp_seq ?_
  refine cwp_seq ?_
  refine cwp_region ?_
  refine lwp_run 3 (by kernel_rfl) ?_
  refine lwp_op (by kernel_rfl) (owp_load (by kernel_rfl) (by kernel_rfl) (o8.cell (off := 2) rfl) ?_)
  rcases q7.cases with ⟨c9, rfl⟩ | ⟨c9, t10, u11, rfl⟩
  · rw [if_pos c9] at H
    refine lwp_run 1 (by kernel_rfl) ?_
    refine lwp_nil ?_
    refine cwp_false (by kernel_rfl) ?_
    refine cwp_skip ?_
    refine cwp_seq ?_
    refine cwp_regionD (Keep No h) (by kernel_rfl) ?_
    refine awp_run (fuel := 13) [0, 1, 2] Keep.refl (by kernel_rfl) ?_
    refine awp_load 3 rfl (by kernel_rfl) (by kernel_rfl) (by kernel_rfl) (by kernel_rfl) Keep.refl (o8.cell (off := 0) rfl) (fun _ _ x => x.elim) ?_
    refine awp_run (fuel := 9) [4, 5, 6] Keep.refl (by kernel_rfl) ?_
    refine awp_load 7 rfl (by kernel_rfl) (by kernel_rfl) (by kernel_rfl) (by kernel_rfl) Keep.refl (o8.cell (off := 1) rfl) (fun _ _ x => x.elim) ?_
    obtain ⟨c12, H⟩ := guard_pos H
    obtain ⟨c13, H⟩ := guard_pos H
    obtain ⟨a16, c17, r15, e18⟩ := r4.part (lo := x0.at') (hi := (x0.b'.length : Int)) c12 c13 (Int.le_refl _)
    refine awp_pure 8 ((.slice a16 (sub x0.b' x0.at' (x0.b'.length : Int)).length c17)) rfl (by kernel_rfl) (by kernel_rfl) (pr_slice_l (e := 5) r4.toSl e18 (by kernel_rfl) (k1 := .i64) (by kernel_rfl) (by kernel_rfl) (by kernel_rfl) c12 c13 (Int.le_refl _)) Keep.refl ?_
    refine awp_run (fuel := 6) [9] Keep.refl (by kernel_rfl) ?_
    obtain ⟨t19, m20, H⟩ := bind_some H
    refine awp_op 10 (by kernel_rfl) rfl (by kernel_rfl) (owp_callF (by kernel_rfl) (addr_Get.calls hB r15 m20) ?_)
    rintro v21 h22 ⟨I23, v26, rfl, p24, q28⟩
    have pt29 := pt0.no p24
    have hK30 := Keep.post (M := No) Keep.refl (Nat.le_refl _) p24 (fun _ x => x.elim)
    refine ⟨hK30, ?_⟩
    refine awp_run (fuel := 0) [11, 12, 13, 14, 15] hK30 (by kernel_rfl) ?_
    refine awp_nil (by kernel_rfl) ?_ 0
    refine cwp_seq ?_
    refine cwp_region ?_
    refine lwp_run 2 (by kernel_rfl) ?_
    have f31 := o8.post p24 (fun x => x.elim)
    have f32 := r4.up (p24.up hB (fun _ x => x.elim))
    have f33 := ErrV.up (p24.up hB (fun _ x => x.elim)) q7
    obtain ⟨t34, m35, H⟩ := bind_some H
    refine lwp_op (by kernel_rfl) (owp_callF (by kernel_rfl) (bytes_Cursor_Fail.calls p24.bd f31 f32 f33 q28 m35) ?_)
    rintro v36 h37 ⟨I38, a41, c42, v45, rfl, p39, r44, q47, o48⟩
    have pt49 := pt29.own p39 (one_in (show One b0 b0 from rfl))
    refine lwp_nil ?_
    refine cwp_seq ?_
    refine cwp_seq ?_
    refine cwp_region ?_
    refine lwp_run 1 (by kernel_rfl) ?_
    have f50 := ErrV.up (p39.up p24.bd (one_not f31.no)) q28
    rcases f50.cases with ⟨c51, rfl⟩ | ⟨c51, t52, u53, rfl⟩
    · rw [if_pos c51] at H
      refine lwp_run 1 (by kernel_rfl) ?_
      refine lwp_nil ?_
      refine cwp_true (by kernel_rfl) ?_
      refine cwp_region ?_
      refine lwp_run 3 (by kernel_rfl) ?_
      refine lwp_op (by kernel_rfl) (owp_load (by kernel_rfl) (by kernel_rfl) (o48.cell (off := 1) rfl) ?_)
      refine lwp_run 3 (by kernel_rfl) ?_
      refine lwp_op (by kernel_rfl) (owp_store1 1 (.int .i64 (w64 (t34.at' + 2))) p39.bd o48 (by kernel_rfl) (by kernel_rfl) rfl (by kernel_rfl) (Nat.le_of_ble_eq_true rfl) ?_)
      intro h54 p55 o56
      have pt57 := pt49.own p55 (one_in (show One b0 b0 from rfl))
      refine lwp_nil ?_
      refine cwp_seq ?_
      refine cwp_region ?_
      refine lwp_run 2 (by kernel_rfl) ?_
      refine lwp_nil ?_
      refine cwp_ret ?_
      obtain rfl := Option.some.inj H
      have f58 := r44.up (p55.up p39.bd (one_not o48.no))
      have f59 := ErrV.up (p55.up p39.bd (one_not o48.no)) q47
      show Exists _
      exact ⟨.int .i64 t19.1, by kernel_rfl, I38, a41, c42, (v45), rfl, pt57, f58, f59, o56⟩
    · rw [if_neg c51] at H
      refine lwp_run 1 (by kernel_rfl) ?_
      refine lwp_nil ?_
      refine cwp_false (by kernel_rfl) ?_
      refine cwp_skip ?_
      refine cwp_seq ?_
      refine cwp_region ?_
      refine lwp_run 2 (by kernel_rfl) ?_
      refine lwp_nil ?_
      refine cwp_ret ?_
      obtain rfl := Option.some.inj H
      show Exists _
      exact ⟨.int .i64 t19.1, by kernel_rfl, I38, a41, c42, (v45), rfl, pt49, r44, q47, o48⟩
  · rw [if_neg c9] at H
    refine lwp_run 1 (by kernel_rfl) ?_
    refine lwp_nil ?_
    refine cwp_true (by kernel_rfl) ?_
    refine cwp_seq ?_
    refine cwp_region ?_
    refine lwp_run 1 (by kernel_rfl) ?_
    refine lwp_nil ?_
    refine cwp_ret ?_
    obtain rfl := Option.some.inj H
    show Exists _
    exact ⟨.int .i64 0, by kernel_rfl, I, a1, c2, ((.iface t10 u11)), rfl, pt0, r4, q7, o8⟩

/-! shutter/shutterref05.Char -/
def shutterref05_Char.m (x0 : Int) : Option Bool :=
  (if x0 = 0 then (some true) else (if x0 = 28 then (some true) else (if x0 = 30 then (some true) else (if x0 ≥ 64 then (some (decide (x0 ≤ 254))) else (some false)))))

set_option maxRecDepth 100000 in
theorem shutterref05_Char.calls {I : Gh} {h : Heap} {x0 : Int} (_hB : Bd I h)  {r : Bool}
    (H : shutterref05_Char.m x0 = some r) :
    Ret Tryd.prog 28 #[.int .u8 x0] h (fun v h' => ∃ _ : Unit, .bool r = v ∧ h = h') := by
  unfold shutterref05_Char.m at H
  refine ret_of (args := [.int .u8 x0]) (rs := [.tmp 2]) (N := 21) Tryd.func28 rfl rfl rfl (Nat.le_of_ble_eq_true rfl) ?_
  refine cwp_seq ?_
  refine cwp_region ?_
  refine lwp_run 1 (by kernel_rfl) ?_
  refine lwp_nil ?_
  refine cwp_seq ?_
  refine cwp_region ?_
  refine lwp_run 1 (by kernel_rfl) ?_
  by_cases c1 : x0 = 0
  · rw [if_pos c1] at H
    refine lwp_op (by kernel_rfl) (owp_pure ((.bool true)) (pr_bool (by kernel_rfl) (eqT c1)) ?_)
    refine lwp_run 17 (by kernel_rfl) ?_
    refine lwp_nil ?_
    refine cwp_ret ?_
    obtain rfl := Option.some.inj H
    show Exists _
    exact ⟨.bool true, by kernel_rfl, (), rfl, rfl⟩
  · rw [if_neg c1] at H
    refine lwp_op (by kernel_rfl) (owp_pure ((.bool false)) (pr_bool (by kernel_rfl) (eqF c1)) ?_)
    refine lwp_run 2 (by kernel_rfl) ?_
    by_cases c2 : x0 = 28
    · rw [if_pos c2] at H
      refine lwp_op (by kernel_rfl) (owp_pure ((.bool true)) (pr_bool (by kernel_rfl) (eqT c2)) ?_)
      refine lwp_run 14 (by kernel_rfl) ?_
      refine lwp_nil ?_
      refine cwp_ret ?_
      obtain rfl := Option.some.inj H
      show Exists _
      exact ⟨.bool true, by kernel_rfl, (), rfl, rfl⟩
    · rw [if_neg c2] at H
      refine lwp_op (by kernel_rfl) (owp_pure ((.bool false)) (pr_bool (by kernel_rfl) (eqF c2)) ?_)
      refine lwp_run 3 (by kernel_rfl) ?_
      by_cases c3 : x0 = 30
      · rw [if_pos c3] at H
        refine lwp_op (by kernel_rfl) (owp_pure ((.bool true)) (pr_bool (by kernel_rfl) (eqT c3)) ?_)
        refine lwp_run 10 (by kernel_rfl) ?_
        refine lwp_nil ?_
        refine cwp_ret ?_
        obtain rfl := Option.some.inj H
        show Exists _
        exact ⟨.bool true, by kernel_rfl, (), rfl, rfl⟩
      · rw [if_neg c3] at H
        refine lwp_op (by kernel_rfl) (owp_pure ((.bool false)) (pr_bool (by kernel_rfl) (eqF c3)) ?_)
        refine lwp_run 3 (by kernel_rfl) ?_
        by_cases c4 : x0 ≥ 64
        · rw [if_pos c4] at H
          refine lwp_op (by kernel_rfl) (owp_pure ((.bool true)) (pr_bool (by kernel_rfl) (decide_eq_true c4)) ?_)
          refine lwp_run 6 (by kernel_rfl) ?_
          refine lwp_nil ?_
          refine cwp_ret ?_
          obtain rfl := Option.some.inj H
          show Exists _
          exact ⟨.bool (decide (x0 ≤ 254)), by kernel_rfl, (), rfl, rfl⟩
        · rw [if_neg c4] at H
          refine lwp_op (by kernel_rfl) (owp_pure ((.bool false)) (pr_bool (by kernel_rfl) (decide_eq_false c4)) ?_)
          refine lwp_run 6 (by kernel_rfl) ?_
          refine lwp_nil ?_
          refine cwp_ret ?_
          obtain rfl := Option.some.inj H
          show Exists _
          exact ⟨.bool false, by kernel_rfl, (), rfl, rfl⟩

/-! (*shutter/bytes.Cursor).Peek -/
def bytes_Cursor_Peek.m (x0 : bytes_Cursor) : Option (Int × Bool × bytes_Cursor) :=
  (if x0.err' = GoErr.nil then ((bytes_Cursor_Left.m x0).bind fun t12 => (if t12.1 = 0 then (some (0, false, t12.2)) else (if 0 ≤ t12.2.at' then (if t12.2.at' < (t12.2.b'.length : Int) then (some ((at_ t12.2.b' t12.2.at'), true, t12.2)) else none) else none))) else (some (0, false, x0)))

set_option maxRecDepth 100000 in
theorem bytes_Cursor_Peek.calls {I : Gh} {h : Heap} {b0 : Nat} {x0 : bytes_Cursor} {a1 : Option Addr} {c2 : Nat} {v5 : Value} (hB : Bd I h) (o8 : OwnB I h b0 [.slice a1 x0.b'.length c2, .int .i64 x0.at', v5] 62) (r4 : Rd (tInt .u8) I h a1 c2 x0.b') (q7 : ErrV I h x0.err' v5) {r : (Int × Bool × bytes_Cursor)}
    (H : bytes_Cursor_Peek.m x0 = some r) :
    Ret Tryd.prog 29 #[.pointer (some ⟨b0, 0, none⟩)] h (fun v h' => ∃ (I' : Gh) (a35 : Option Addr) (c36 : Nat) (v39 : Value), .tuple #[.int .u8 r.1, .bool r.2.1] = v ∧ Pst (One b0) I h I' h' ∧ Rd (tInt .u8) I' h' a35 c36 r.2.2.b' ∧ ErrV I' h' r.2.2.err' v39 ∧ OwnB I' h' b0 [.slice a35 r.2.2.b'.length c36, .int .i64 r.2.2.at', v39] 62) := by
  unfold bytes_Cursor_Peek.m at H
  refine ret_of (args := [.pointer (some ⟨b0, 0, none⟩)]) (rs := [.tmp 2, .tmp 3]) (N := 24) Tryd.func29 rfl rfl rfl (Nat.le_of_ble_eq_true rfl) ?_
  have pt0 : Pst (One b0) I h I h := Pst.refl hB
  refine cwp_seq ?_
  refine cwp_region ?_
  refine lwp_run 2 (by kernel_rfl) ?_
  refine lwp_nil ?_
  refine cwp_seq ?_
  refine cwp_seq ?_
  refine cwp_region ?_
  refine lwp_run 3 (by kernel_rfl) ?_
  refine lwp_op (by kernel_rfl) (owp_load (by kernel_rfl) (by kernel_rfl) (o8.cell (off := 2) rfl) ?_)
  rcases q7.cases with ⟨c9, rfl⟩ | ⟨c9, t10, u11, rfl⟩
  · rw [if_pos c9] at H
    refine lwp_run 3 (by kernel_rfl) ?_
    obtain ⟨t12, m13, H⟩ := bind_some H
    refine lwp_op (by kernel_rfl) (owp_callF (by kernel_rfl) (bytes_Cursor_Left.calls hB o8 r4 q7 m13) ?_)
    rintro v14 h15 ⟨I16, a19, c20, v23, rfl, p17, r22, q25, o26⟩
    have pt27 := pt0.own p17 (one_in (show One b0 b0 from rfl))
    by_cases c28 : t12.1 = 0
    · rw [if_pos c28] at H
      refine lwp_op (by kernel_rfl) (owp_pure ((.bool true)) (pr_bool (by kernel_rfl) (eqT c28)) ?_)
      refine lwp_run 1 (by kernel_rfl) ?_
      refine lwp_nil ?_
      refine cwp_true (by kernel_rfl) ?_
      refine cwp_seq ?_
      refine cwp_region ?_
      refine lwp_run 2 (by kernel_rfl) ?_
      refine lwp_nil ?_
      refine cwp_ret ?_
      obtain rfl := Option.some.inj H
      show Exists _
      exact ⟨.tuple #[.int .u8 0, .bool false], by kernel_rfl, I16, a19, c20, (v23), rfl, pt27, r22, q25, o26⟩
    · rw [if_neg c28] at H
      refine lwp_op (by kernel_rfl) (owp_pure ((.bool false)) (pr_bool (by kernel_rfl) (eqF c28)) ?_)
      refine lwp_run 1 (by kernel_rfl) ?_
      refine lwp_nil ?_
      refine cwp_false (by kernel_rfl) ?_
      refine cwp_skip ?_
      refine cwp_seq ?_
      refine cwp_regionD (Keep No h15) (by kernel_rfl) ?_
      refine awp_run (fuel := 9) [0, 1, 2] Keep.refl (by kernel_rfl) ?_
      refine awp_load 3 rfl (by kernel_rfl) (by kernel_rfl) (by kernel_rfl) (by kernel_rfl) Keep.refl (o26.cell (off := 0) rfl) (fun _ _ x => x.elim) ?_
      refine awp_run (fuel := 5) [4, 5, 6] Keep.refl (by kernel_rfl) ?_
      refine awp_load 7 rfl (by kernel_rfl) (by kernel_rfl) (by kernel_rfl) (by kernel_rfl) Keep.refl (o26.cell (off := 1) rfl) (fun _ _ x => x.elim) ?_
      obtain ⟨c29, H⟩ := guard_pos H
      obtain ⟨c30, H⟩ := guard_pos H
      have hs31 := r22.isSome c29 c30
      refine awp_pure 8 (elemPtr a19 (t12.2.at'.toNat * 1)) rfl (by kernel_rfl) (by kernel_rfl) (pr_indexElem (e := 5) r22.toSl (k := .i64) (by kernel_rfl) (by kernel_rfl) (by kernel_rfl) (by kernel_rfl) c29 c30) Keep.refl ?_
      obtain ⟨cs32, hs33, rp34⟩ := r22.toSl.seg c29 c30
      obtain rfl := rep_int rp34
      refine awp_load 9 rfl (by kernel_rfl) (by kernel_rfl) (by kernel_rfl) (by kernel_rfl) Keep.refl (seg_cell (f := 0) hs33 rfl) (fun _ _ x => x.elim) ?_
      refine awp_run (fuel := 0) [10, 11] Keep.refl (by kernel_rfl) ?_
      refine awp_nil (by kernel_rfl) ?_ 0
      refine cwp_ret ?_
      obtain rfl := Option.some.inj H
      show Exists _
      exact ⟨.tuple #[.int .u8 (at_ t12.2.b' t12.2.at'), .bool true], by kernel_rfl, I16, a19, c20, (v23), rfl, pt27, r22, q25, o26⟩
  · rw [if_neg c9] at H
    refine lwp_run 6 (by kernel_rfl) ?_
    refine lwp_nil ?_
    refine cwp_true (by kernel_rfl) ?_
    refine cwp_seq ?_
    refine cwp_region ?_
    refine lwp_run 2 (by kernel_rfl) ?_
    refine lwp_nil ?_
    refine cwp_ret ?_
    obtain rfl := Option.some.inj H
    show Exists _
    exact ⟨.tuple #[.int .u8 0, .bool false], by kernel_rfl, I, a1, c2, ((.iface t10 u11)), rfl, pt0, r4, q7, o8⟩

end Go.Proofs.YtenlbpcfilmgpaaDoor.Sx
