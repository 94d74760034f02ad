/- Printed walks, part 4: each function's model, and that the code comes to it. -/
import Derived.Test.YtlomgckbmdjmhaaDoorProg
import Derived.Test.YtlomgckbmdjmhaaDoorSxF
import Derived.Test.YtlomgckbmdjmhaaDoorG3
namespace Go.Proofs.YtlomgckbmdjmhaaDoor.Sx
open Go

/-! shutter/shutterref09.Read -/
def shutterref09_Read.l1.m (K : Nat) (x0 : (List Int)) (x1 : Int) : Nat → Int → Int → Int → (List api_Entry) → Option ((api_In × Int × Int) ⊕ (Int × Int × (List api_Entry)))
  | 0, _, _, _, _ => none
  | k + 1, x191, x193, x194, x195 => (if x191 < (x0.length : Int) then (if 0 ≤ x191 then (if (at_ x0 x191) = 17 then (if 0 ≤ (w64 (x191 + 1)) then (if (w64 (x191 + 1)) ≤ (x0.length : Int) then ((shutterref04_Get.m K (sub x0 (w64 (x191 + 1)) (x0.length : Int)) x1).bind fun t237 => (if t237.2.1 = 0 then ((shutterref09_letters.m K x0 (w64 (x191 + 3))).bind fun t244 => (if 0 ≤ (w64 (x191 + 3)) then (if (w64 (x191 + 3)) ≤ (w64 ((w64 (x191 + 3)) + t244)) then (if (w64 ((w64 (x191 + 3)) + t244)) ≤ (x0.length : Int) then ((app [] (sub x0 (w64 (x191 + 3)) (w64 ((w64 (x191 + 3)) + t244)))).bind fun l271 => ((app x195 [(⟨t237.1, l271⟩ : api_Entry)]).bind fun l313 => (shutterref09_Read.l1.m K x0 x1 k (w64 ((w64 (x191 + 3)) + t244)) x193 x194 l313))) else none) else none) else none)) else (some (Sum.inl ((⟨0, 0, []⟩ : api_In), t237.2.1, (w64 (x191 + 1))))))) else none) else none) else (some (Sum.inl ((⟨0, 0, []⟩ : api_In), 3, x191)))) else none) else (some (Sum.inr (x193, x194, x195))))
def shutterref09_Read.m (K : Nat) (x0 : (List Int)) (x1 : Int) : Option (api_In × Int × Int) :=
  (if (x0.length : Int) > 8192 then (some ((⟨0, 0, []⟩ : api_In), 6, 8192)) else (if (x0.length : Int) = 0 then (some ((⟨0, 0, []⟩ : api_In), 2, 0)) else (if 0 < (x0.length : Int) then ((shutterref05_Aid.m (at_ x0 0)).bind fun t46 => bif t46 then (letJ (α := Bool → Option (api_In × Int × Int)) (fun (x63 : Bool) => (bif x63 then (if (x0.length : Int) > 1 then (some ((⟨0, 0, []⟩ : api_In), 1, 1)) else (some ((⟨(at_ x0 0), 0, []⟩ : api_In), 0, (-1)))) else (if 1 ≤ (x0.length : Int) then ((shutterref04_Get.m K (sub x0 1 (x0.length : Int)) x1).bind fun t82 => (if t82.2.1 = 0 then ((shutterref09_letters.m K x0 3).bind fun t94 => (letJ (α := Bool → Option (api_In × Int × Int)) (fun (x105 : Bool) => (bif x105 then (if (w64 (3 + t94)) < (x0.length : Int) then (some ((⟨0, 0, []⟩ : api_In), 3, (w64 (3 + t94)))) else (if 3 ≤ (x0.length : Int) then ((app [] (sub x0 3 (x0.length : Int))).bind fun l131 => (some ((⟨(at_ x0 0), t82.1, [(⟨(-1), l131⟩ : api_Entry)]⟩ : api_In), 0, (-1)))) else none)) else ((shutterref09_Read.l1.m K x0 x1 K 3 (at_ x0 0) t82.1 []).bind fun s205 => match s205 with | .inl q => (some q) | .inr (x210, x211, x212) => (some ((⟨x210, x211, x212⟩ : api_In), 0, (-1)))))) fun (j108 : Bool → Option (api_In × Int × Int)) => (if t94 > 0 then (j108 true) else (j108 false)))) else (some ((⟨0, 0, []⟩ : api_In), t82.2.1, 1)))) else none))) fun (j66 : Bool → Option (api_In × Int × Int)) => ((shutterref05_Bare.m (at_ x0 0)).bind fun t53 => bif t53 then (j66 true) else (j66 false))) else (some ((⟨0, 0, []⟩ : api_In), 3, 0))) else none)))

set_option maxRecDepth 100000 in
theorem shutterref09_Read.calls {I B : Gh} {h : Heap} {K : Nat} {x0 : List Int} {a1 : Option Addr} {c2 : Nat} {x1 : Int} (hB : Bd I h) (hBB : Bd B h) (r4 : Rd (tInt .u8) (Or2 I B) h a1 c2 x0) {r : (api_In × Int × Int)}
    (H : shutterref09_Read.m K x0 x1 = some r) :
    Ret Tryd.prog 29 #[.slice a1 x0.length c2, .int .i64 x1] h (fun v h' => ∃ (I' : Gh) (a367 : Option Addr) (c368 : Nat), .tuple #[.agg #[.int .u8 r.1.Aid, .int .i64 r.1.Cursor, .slice a367 r.1.Fields.length c368], .int .i64 r.2.1, .int .i64 r.2.2] = v ∧ Pst No I h I' h' ∧ Own t_api_Entry I' h' a367 c368 r.1.Fields ∧ (∀ b, InA a367 b → No b ∨ h.size ≤ b)) := by
  unfold shutterref09_Read.m at H
  refine ret_of2 (args := [.slice a1 x0.length c2, .int .i64 x1]) (rs := [.cell 4 51, .tmp 5, .tmp 6]) (N := 135) Tryd.func29 rfl rfl rfl (Nat.le_of_ble_eq_true rfl) ?_
  have pt0 : Pst No I h I h := Pst.refl hB
  refine cwp_seq ?_
  refine cwp_region ?_
  refine lwp_op (by kernel_rfl) (owp_alloc [.int .u8 0, .int .i64 0, .slice none 0 0] (.agg #[.int .u8 0, .int .i64 0, .slice none 0 0]) hB (by kernel_rfl) (by kernel_rfl) ?_)
  intro b5 h6 hc7 p8 o9
  have pt10 := pt0.no p8
  have fr11 : No b5 ∨ h.size ≤ b5 := .inr (Nat.le_trans pt0.size hc7)
  refine lwp_run 2 (by kernel_rfl) ?_
  refine lwp_nil ?_
  refine cwp_seq ?_
  refine cwp_seq ?_
  refine cwp_region ?_
  refine lwp_run 2 (by kernel_rfl) ?_
  by_cases c12 : (x0.length : Int) > 8192
  · rw [if_pos c12] at H
    refine lwp_op (by kernel_rfl) (owp_pure ((.bool true)) (pr_bool (by kernel_rfl) (decide_eq_true c12)) ?_)
    refine lwp_nil ?_
    refine cwp_true (by kernel_rfl) ?_
    refine cwp_seq ?_
    refine cwp_region ?_
    refine lwp_run 1 (by kernel_rfl) ?_
    refine lwp_op (by kernel_rfl) (owp_storeN 0 [.int .u8 0, .int .i64 0, .slice none 0 0] p8.bd o9 (by kernel_rfl) (by kernel_rfl) (by simp [Value.oneCell']) (by kernel_rfl) (Nat.le_of_ble_eq_true rfl) ?_)
    intro h13 p14 o15
    have pt16 := pt10.own p14 (one_nw fr11)
    refine lwp_run 2 (by kernel_rfl) ?_
    refine lwp_nil ?_
    refine cwp_ret ?_
    obtain rfl := Option.some.inj H
    show Exists _
    exact ⟨[.agg #[.int .u8 0, .int .i64 0, .slice none 0 0], .int .i64 6, .int .i64 8192], (.cons (.agg (by kernel_rfl) (by kernel_rfl) (by kernel_rfl) (o15.seg_ 0 3 (Nat.le_of_ble_eq_true rfl))) (.cons (.tmp (by kernel_rfl)) (.cons (.tmp (by kernel_rfl)) .nil))), I, none, 0, rfl, pt16, (own_nil t_api_Entry I I h13), none_nw⟩
  · rw [if_neg c12] at H
    refine lwp_op (by kernel_rfl) (owp_pure ((.bool false)) (pr_bool (by kernel_rfl) (decide_eq_false c12)) ?_)
    refine lwp_nil ?_
    refine cwp_false (by kernel_rfl) ?_
    refine cwp_skip ?_
    refine cwp_seq ?_
    refine cwp_seq ?_
    refine cwp_region ?_
    refine lwp_run 2 (by kernel_rfl) ?_
    by_cases c17 : (x0.length : Int) = 0
    · rw [if_pos c17] at H
      refine lwp_op (by kernel_rfl) (owp_pure ((.bool true)) (pr_bool (by kernel_rfl) (eqT c17)) ?_)
      refine lwp_nil ?_
      refine cwp_true (by kernel_rfl) ?_
      refine cwp_seq ?_
      refine cwp_region ?_
      refine lwp_run 1 (by kernel_rfl) ?_
      refine lwp_op (by kernel_rfl) (owp_storeN 0 [.int .u8 0, .int .i64 0, .slice none 0 0] p8.bd o9 (by kernel_rfl) (by kernel_rfl) (by simp [Value.oneCell']) (by kernel_rfl) (Nat.le_of_ble_eq_true rfl) ?_)
      intro h18 p19 o20
      have pt21 := pt10.own p19 (one_nw fr11)
      refine lwp_run 2 (by kernel_rfl) ?_
      refine lwp_nil ?_
      refine cwp_ret ?_
      obtain rfl := Option.some.inj H
      show Exists _
      exact ⟨[.agg #[.int .u8 0, .int .i64 0, .slice none 0 0], .int .i64 2, .int .i64 0], (.cons (.agg (by kernel_rfl) (by kernel_rfl) (by kernel_rfl) (o20.seg_ 0 3 (Nat.le_of_ble_eq_true rfl))) (.cons (.tmp (by kernel_rfl)) (.cons (.tmp (by kernel_rfl)) .nil))), I, none, 0, rfl, pt21, (own_nil t_api_Entry I I h18), none_nw⟩
    · rw [if_neg c17] at H
      refine lwp_op (by kernel_rfl) (owp_pure ((.bool false)) (pr_bool (by kernel_rfl) (eqF c17)) ?_)
      refine lwp_nil ?_
      refine cwp_false (by kernel_rfl) ?_
      refine cwp_skip ?_
      refine cwp_seq ?_
      refine cwp_region ?_
      obtain ⟨c22, H⟩ := guard_pos H
      refine lwp_run 1 (by kernel_rfl) ?_
      have f23 := r4.up (upOr (p8.up hB (fun _ x => x.elim)) (keepB p8 (hBB.mono pt0.size) (fun _ x => x.elim)))
      have hs24 := (f23.toSl).isSome (by decide) c22
      refine lwp_op (by kernel_rfl) (owp_pure (elemPtr a1 ((0 : Int).toNat * 1)) (pr_indexElem (e := 5) (f23.toSl) (k := .i64) (by kernel_rfl) (by kernel_rfl) (by kernel_rfl) (by kernel_rfl) (by decide) c22) ?_)
      obtain ⟨cs25, hs26, rp27⟩ := (f23.toSl).seg (by decide) c22
      obtain rfl := rep_int rp27
      refine lwp_op (by kernel_rfl) (owp_load (by kernel_rfl) (by kernel_rfl) (seg_cell (f := 0) hs26 rfl) ?_)
      refine lwp_run 1 (by kernel_rfl) ?_
      refine lwp_op (by kernel_rfl) (owp_alloc [.int .u8 0, .int .i64 0, .slice none 0 0] (.agg #[.int .u8 0, .int .i64 0, .slice none 0 0]) p8.bd (by kernel_rfl) (by kernel_rfl) ?_)
      intro b28 h29 hc30 p31 o32
      have pt33 := pt10.no p31
      have fr34 : No b28 ∨ h.size ≤ b28 := .inr (Nat.le_trans pt10.size hc30)
      have d35 := ne_new o9.lt hc30
      refine lwp_op (by kernel_rfl) (owp_storeN 0 [.int .u8 (at_ x0 0), .int .i64 0, .slice none 0 0] p31.bd o32 (by kernel_rfl) (by kernel_rfl) (by simp [Value.oneCell']) (by kernel_rfl) (Nat.le_of_ble_eq_true rfl) ?_)
      intro h36 p37 o38
      have pt39 := pt33.own p37 (one_nw fr34)
      refine lwp_nil ?_
      refine cwp_seq ?_
      refine cwp_seq ?_
      refine cwp_region ?_
      refine lwp_run 1 (by kernel_rfl) ?_
      have f40 := f23.up (upOr (p31.up p8.bd (fun _ x => x.elim)) (keepB p31 (hBB.mono pt10.size) (fun _ x => x.elim)))
      have f41 := f40.up (upOr (p37.up p31.bd (one_not o32.no)) (keepB p37 (hBB.mono pt33.size) (nwB (one_nw fr34) (fun _ x => x.elim) hBB)))
      have hs42 := (f41.toSl).isSome (by decide) c22
      refine lwp_op (by kernel_rfl) (owp_pure (elemPtr a1 ((0 : Int).toNat * 1)) (pr_indexElem (e := 5) (f41.toSl) (k := .i64) (by kernel_rfl) (by kernel_rfl) (by kernel_rfl) (by kernel_rfl) (by decide) c22) ?_)
      obtain ⟨cs43, hs44, rp45⟩ := (f41.toSl).seg (by decide) c22
      obtain rfl := rep_int rp45
      refine lwp_op (by kernel_rfl) (owp_load (by kernel_rfl) (by kernel_rfl) (seg_cell (f := 0) hs44 rfl) ?_)
      obtain ⟨t46, m47, H⟩ := bind_some H
      refine lwp_op (by kernel_rfl) (owp_callF (by kernel_rfl) (shutterref05_Aid.calls (I := I) p37.bd m47) ?_)
      rintro v48 h49 ⟨_, rfl, rfl⟩
      cases t46
      · rw [cond_false] at H
        refine lwp_run 1 (by kernel_rfl) ?_
        refine lwp_nil ?_
        refine cwp_true (by kernel_rfl) ?_
        refine cwp_seq ?_
        refine cwp_region ?_
        refine lwp_run 1 (by kernel_rfl) ?_
        have f361 := o9.post p31 (fun x => x.elim)
        have f362 := f361.post p37 (fun e => d35 e.symm)
        refine lwp_op (by kernel_rfl) (owp_storeN 0 [.int .u8 0, .int .i64 0, .slice none 0 0] p37.bd f362 (by kernel_rfl) (by kernel_rfl) (by simp [Value.oneCell']) (by kernel_rfl) (Nat.le_of_ble_eq_true rfl) ?_)
        intro h363 p364 o365
        have pt366 := pt39.own p364 (one_nw fr11)
        refine lwp_run 2 (by kernel_rfl) ?_
        refine lwp_nil ?_
        refine cwp_ret ?_
        obtain rfl := Option.some.inj H
        show Exists _
        exact ⟨[.agg #[.int .u8 0, .int .i64 0, .slice none 0 0], .int .i64 3, .int .i64 0], (.cons (.agg (by kernel_rfl) (by kernel_rfl) (by kernel_rfl) (o365.seg_ 0 3 (Nat.le_of_ble_eq_true rfl))) (.cons (.tmp (by kernel_rfl)) (.cons (.tmp (by kernel_rfl)) .nil))), I, none, 0, rfl, pt366, (own_nil t_api_Entry I I h363), none_nw⟩
      · rw [cond_true] at H
        refine lwp_run 1 (by kernel_rfl) ?_
        refine lwp_nil ?_
        refine cwp_false (by kernel_rfl) ?_
        refine cwp_skip ?_
        refine cwp_seq ?_
        obtain ⟨j66, e360, H⟩ := letJ_some H
        refine cwp_join (fun ρ' h59 => ∃ (x63 : Bool) (I60 : Gh), j66 x63 = some r ∧ Fits [(0, .slice a1 x0.length c2), (1, .int .i64 x1), (4, .pointer (some ⟨b5, 0, none⟩)), (7, .pointer (some ⟨b28, 0, none⟩)), (38, .bool x63)] ρ' ∧ Pst No I h I60 h59 ∧ Rd (tInt .u8) (Or2 I60 B) h59 a1 c2 x0 ∧ OwnB I60 h59 b5 [.int .u8 0, .int .i64 0, .slice none 0 0] 51 ∧ OwnB I60 h59 b28 [.int .u8 (at_ x0 0), .int .i64 0, .slice none 0 0] 51) ?_ ?_
        · refine cwp_region ?_
          refine lwp_run 1 (by kernel_rfl) ?_
          have hs52 := (f41.toSl).isSome (by decide) c22
          refine lwp_op (by kernel_rfl) (owp_pure (elemPtr a1 ((0 : Int).toNat * 1)) (pr_indexElem (e := 5) (f41.toSl) (k := .i64) (by kernel_rfl) (by kernel_rfl) (by kernel_rfl) (by kernel_rfl) (by decide) c22) ?_)
          refine lwp_op (by kernel_rfl) (owp_load (by kernel_rfl) (by kernel_rfl) (seg_cell (f := 0) hs44 rfl) ?_)
          obtain ⟨t53, m54, H⟩ := bind_some H
          refine lwp_op (by kernel_rfl) (owp_callF (by kernel_rfl) (shutterref05_Bare.calls (I := I) p37.bd m54) ?_)
          rintro v55 h56 ⟨_, rfl, rfl⟩
          cases t53
          · rw [cond_false] at H
            refine lwp_nil ?_
            have f100032 := o9.post p31 (fun x => x.elim)
            have f100033 := f100032.post p37 (fun e => d35 e.symm)
            exact ⟨false, I, H, ⟨by kernel_rfl, by kernel_rfl, by kernel_rfl, by kernel_rfl, by kernel_rfl, trivial⟩, pt39, f41, f100033, o38⟩
          · rw [cond_true] at H
            refine lwp_nil ?_
            have f100030 := o9.post p31 (fun x => x.elim)
            have f100031 := f100030.post p37 (fun e => d35 e.symm)
            exact ⟨true, I, H, ⟨by kernel_rfl, by kernel_rfl, by kernel_rfl, by kernel_rfl, by kernel_rfl, trivial⟩, pt39, f41, f100031, o38⟩
        · clear H
          rintro ρ' h59 ⟨x63, I60, H, hf, pt61, r62, o64, o65⟩
          refine cwp_fits _ hf ?_
          subst e360
          try dsimp only at H
          cases x63
          · rw [cond_false] at H
            refine cwp_false (by kernel_rfl) ?_
            refine cwp_skip ?_
            refine cwp_seq ?_
            refine cwp_region ?_
            obtain ⟨c76, H⟩ := guard_pos H
            refine lwp_run 1 (by kernel_rfl) ?_
            obtain ⟨a79, c80, r78, e81⟩ := r62.part (lo := 1) (hi := (x0.length : Int)) (by decide) c76 (Int.le_refl _)
            refine lwp_op (by kernel_rfl) (owp_pure ((.slice a79 ((sub x0 1 (x0.length : Int)).length) c80)) (pr_slice_l (e := 5) (r62.toSl) e81 (by kernel_rfl) (k1 := .i64) (by kernel_rfl) (by kernel_rfl) (by kernel_rfl) (by decide) c76 (Int.le_refl _)) ?_)
            refine lwp_run 1 (by kernel_rfl) ?_
            obtain ⟨t82, m83, H⟩ := bind_some H
            refine lwp_op (by kernel_rfl) (owp_callF (by kernel_rfl) (shutterref04_Get.calls (I := (Or2 I60 B)) (bdOr pt61.bd (hBB.mono pt61.size)) r78 m83) ?_)
            rintro v84 h85 ⟨_, rfl, rfl⟩
            refine lwp_run 7 (by kernel_rfl) ?_
            refine lwp_nil ?_
            refine cwp_seq ?_
            refine cwp_seq ?_
            refine cwp_region ?_
            refine lwp_run 1 (by kernel_rfl) ?_
            by_cases c88 : t82.2.1 = 0
            · rw [if_pos c88] at H
              refine lwp_op (by kernel_rfl) (owp_pure ((.bool false)) (pr_bool (by kernel_rfl) (neF c88)) ?_)
              refine lwp_nil ?_
              refine cwp_false (by kernel_rfl) ?_
              refine cwp_skip ?_
              refine cwp_seq ?_
              refine cwp_region ?_
              refine lwp_run 2 (by kernel_rfl) ?_
              refine lwp_op (by kernel_rfl) (owp_store1 1 (.int .i64 t82.1) pt61.bd o65 (by kernel_rfl) (by kernel_rfl) rfl (by kernel_rfl) (Nat.le_of_ble_eq_true rfl) ?_)
              intro h89 p90 o91
              have pt92 := pt61.own p90 (one_nw fr34)
              refine lwp_nil ?_
              refine cwp_seq ?_
              refine cwp_region ?_
              refine lwp_run 1 (by kernel_rfl) ?_
              refine lwp_nil ?_
              refine cwp_seq ?_
              refine cwp_region ?_
              refine lwp_run 2 (by kernel_rfl) ?_
              have f93 := r62.up (upOr (p90.up pt61.bd (one_not o65.no)) (keepB p90 (hBB.mono pt61.size) (nwB (one_nw fr34) (fun _ x => x.elim) hBB)))
              obtain ⟨t94, m95, H⟩ := bind_some H
              refine lwp_op (by kernel_rfl) (owp_callF (by kernel_rfl) (shutterref09_letters.calls (I := (Or2 I60 B)) (bdOr p90.bd (hBB.mono pt92.size)) f93 m95) ?_)
              rintro v96 h97 ⟨_, rfl, rfl⟩
              refine lwp_run 1 (by kernel_rfl) ?_
              refine lwp_nil ?_
              refine cwp_seq ?_
              obtain ⟨j108, e355, H⟩ := letJ_some H
              refine cwp_join (fun ρ' h101 => ∃ (x105 : Bool) (I102 : Gh), j108 x105 = some r ∧ Fits [(0, .slice a1 x0.length c2), (1, .int .i64 x1), (4, .pointer (some ⟨b5, 0, none⟩)), (7, .pointer (some ⟨b28, 0, none⟩)), (11, .int .i64 3), (12, .int .i64 t94), (62, .bool x105)] ρ' ∧ Pst No I h I102 h101 ∧ Rd (tInt .u8) (Or2 I102 B) h101 a1 c2 x0 ∧ OwnB I102 h101 b5 [.int .u8 0, .int .i64 0, .slice none 0 0] 51 ∧ OwnB I102 h101 b28 [.int .u8 (at_ x0 0), .int .i64 t82.1, .slice none 0 0] 51) ?_ ?_
              · refine cwp_region ?_
                refine lwp_run 1 (by kernel_rfl) ?_
                by_cases c100 : t94 > 0
                · rw [if_pos c100] at H
                  refine lwp_op (by kernel_rfl) (owp_pure ((.bool true)) (pr_bool (by kernel_rfl) (decide_eq_true c100)) ?_)
                  refine lwp_nil ?_
                  have f100028 := o64.post p90 (fun e => d35 e.symm)
                  exact ⟨true, I60, H, ⟨by kernel_rfl, by kernel_rfl, by kernel_rfl, by kernel_rfl, by kernel_rfl, by kernel_rfl, by kernel_rfl, trivial⟩, pt92, f93, f100028, o91⟩
                · rw [if_neg c100] at H
                  refine lwp_op (by kernel_rfl) (owp_pure ((.bool false)) (pr_bool (by kernel_rfl) (decide_eq_false c100)) ?_)
                  refine lwp_nil ?_
                  have f100029 := o64.post p90 (fun e => d35 e.symm)
                  exact ⟨false, I60, H, ⟨by kernel_rfl, by kernel_rfl, by kernel_rfl, by kernel_rfl, by kernel_rfl, by kernel_rfl, by kernel_rfl, trivial⟩, pt92, f93, f100029, o91⟩
              · clear H
                rintro ρ' h101 ⟨x105, I102, H, hf, pt103, r104, o106, o107⟩
                refine cwp_fits _ hf ?_
                subst e355
                try dsimp only at H
                cases x105
                · rw [cond_false] at H
                  refine cwp_false (by kernel_rfl) ?_
                  refine cwp_skip ?_
                  refine cwp_seq ?_
                  refine cwp_block ?_
                  obtain ⟨s205, m221, HR222⟩ := bind_some H
                  refine cwp_loopE 0 (fun ρ' h206 => ∃ (x210 : Int) (x211 : Int) (x212 : List api_Entry) (a213 : Option Addr) (c214 : Nat) (I207 : Gh), Sum.inr (x210, x211, x212) = s205 ∧ Fits [(4, .pointer (some ⟨b5, 0, none⟩)), (7, .pointer (some ⟨b28, 0, none⟩))] ρ' ∧ Pst No I h I207 h206 ∧ OwnB I207 h206 b5 [.int .u8 0, .int .i64 0, .slice none 0 0] 51 ∧ OwnX t_api_Entry I207 I207 h206 a213 c214 x212 ∧ (∀ b, InA a213 b → No b ∨ h.size ≤ b) ∧ OwnB I207 h206 b28 [.int .u8 x210, .int .i64 x211, .slice a213 x212.length c214] 51 ∧ ¬ InA a213 b5 ∧ ¬ InA a213 b28) ?_ ?_
                  · refine cwp_loop (fun k' ρ' h187 => ∃ (x191 : Int) (x193 : Int) (x194 : Int) (x195 : List api_Entry) (a196 : Option Addr) (c197 : Nat) (I188 : Gh), shutterref09_Read.l1.m K x0 x1 k' x191 x193 x194 x195 = some s205 ∧ Fits [(0, .slice a1 x0.length c2), (1, .int .i64 x1), (4, .pointer (some ⟨b5, 0, none⟩)), (7, .pointer (some ⟨b28, 0, none⟩)), (11, .int .i64 x191)] ρ' ∧ Pst No I h I188 h187 ∧ Rd (tInt .u8) (Or2 I188 B) h187 a1 c2 x0 ∧ OwnB I188 h187 b5 [.int .u8 0, .int .i64 0, .slice none 0 0] 51 ∧ OwnX t_api_Entry I188 I188 h187 a196 c197 x195 ∧ (∀ b, InA a196 b → No b ∨ h.size ≤ b) ∧ OwnB I188 h187 b28 [.int .u8 x193, .int .i64 x194, .slice a196 x195.length c197] 51 ∧ ¬ InA a196 b5 ∧ ¬ InA a196 b28) K ⟨3, (at_ x0 0), t82.1, [], none, 0, I102, m221, ⟨by kernel_rfl, by kernel_rfl, by kernel_rfl, by kernel_rfl, by kernel_rfl, trivial⟩, pt103, r104, o106, (own_nil t_api_Entry I102 I102 h101), none_nw, o107, inA_none, inA_none⟩ ?_
                    clear m221
                    rintro k' ρ' h187 ⟨x191, x193, x194, x195, a196, c197, I188, H, hf, pt189, r190, o192, r198, fr200, o201, d202, d203⟩
                    cases k' with
                    | zero => cases H
                    | succ k =>
                      rw [shutterref09_Read.l1.m] at H
                      refine cwp_fits _ hf ?_
                      refine cwp_seq ?_
                      refine cwp_seq ?_
                      refine cwp_region ?_
                      refine lwp_run 3 (by kernel_rfl) ?_
                      by_cases c223 : x191 < (x0.length : Int)
                      · rw [if_pos c223] at H
                        refine lwp_op (by kernel_rfl) (owp_pure ((.bool true)) (pr_bool (by kernel_rfl) (decide_eq_true c223)) ?_)
                        refine lwp_nil ?_
                        refine cwp_true (by kernel_rfl) ?_
                        refine cwp_skip ?_
                        refine cwp_block ?_
                        refine cwp_seq ?_
                        refine cwp_seq ?_
                        refine cwp_region ?_
                        obtain ⟨c224, H⟩ := guard_pos H
                        refine lwp_run 2 (by kernel_rfl) ?_
                        have hs225 := (r190.toSl).isSome c224 c223
                        refine lwp_op (by kernel_rfl) (owp_pure (elemPtr a1 (x191.toNat * 1)) (pr_indexElem (e := 5) (r190.toSl) (k := .i64) (by kernel_rfl) (by kernel_rfl) (by kernel_rfl) (by kernel_rfl) c224 c223) ?_)
                        obtain ⟨cs226, hs227, rp228⟩ := (r190.toSl).seg c224 c223
                        obtain rfl := rep_int rp228
                        refine lwp_op (by kernel_rfl) (owp_load (by kernel_rfl) (by kernel_rfl) (seg_cell (f := 0) hs227 rfl) ?_)
                        by_cases c229 : (at_ x0 x191) = 17
                        · rw [if_pos c229] at H
                          refine lwp_op (by kernel_rfl) (owp_pure ((.bool false)) (pr_bool (by kernel_rfl) (neF c229)) ?_)
                          refine lwp_nil ?_
                          refine cwp_false (by kernel_rfl) ?_
                          refine cwp_skip ?_
                          refine cwp_seq ?_
                          refine cwp_region ?_
                          obtain ⟨c230, H⟩ := guard_pos H
                          obtain ⟨c231, H⟩ := guard_pos H
                          refine lwp_run 3 (by kernel_rfl) ?_
                          obtain ⟨a234, c235, r233, e236⟩ := r190.part (lo := (w64 (x191 + 1))) (hi := (x0.length : Int)) c230 c231 (Int.le_refl _)
                          refine lwp_op (by kernel_rfl) (owp_pure ((.slice a234 ((sub x0 (w64 (x191 + 1)) (x0.length : Int)).length) c235)) (pr_slice_l (e := 5) (r190.toSl) e236 (by kernel_rfl) (k1 := .i64) (by kernel_rfl) (by kernel_rfl) (by kernel_rfl) c230 c231 (Int.le_refl _)) ?_)
                          refine lwp_run 1 (by kernel_rfl) ?_
                          obtain ⟨t237, m238, H⟩ := bind_some H
                          refine lwp_op (by kernel_rfl) (owp_callF (by kernel_rfl) (shutterref04_Get.calls (I := (Or2 I188 B)) (bdOr pt189.bd (hBB.mono pt189.size)) r233 m238) ?_)
                          rintro v239 h240 ⟨_, rfl, rfl⟩
                          refine lwp_run 7 (by kernel_rfl) ?_
                          refine lwp_nil ?_
                          refine cwp_seq ?_
                          refine cwp_seq ?_
                          refine cwp_region ?_
                          refine lwp_run 1 (by kernel_rfl) ?_
                          by_cases c243 : t237.2.1 = 0
                          · rw [if_pos c243] at H
                            refine lwp_op (by kernel_rfl) (owp_pure ((.bool false)) (pr_bool (by kernel_rfl) (neF c243)) ?_)
                            refine lwp_nil ?_
                            refine cwp_false (by kernel_rfl) ?_
                            refine cwp_skip ?_
                            refine cwp_seq ?_
                            refine cwp_region ?_
                            refine lwp_run 3 (by kernel_rfl) ?_
                            obtain ⟨t244, m245, H⟩ := bind_some H
                            refine lwp_op (by kernel_rfl) (owp_callF (by kernel_rfl) (shutterref09_letters.calls (I := (Or2 I188 B)) (bdOr pt189.bd (hBB.mono pt189.size)) r190 m245) ?_)
                            rintro v246 h247 ⟨_, rfl, rfl⟩
                            refine lwp_run 1 (by kernel_rfl) ?_
                            refine lwp_nil ?_
                            refine cwp_seq ?_
                            refine cwp_regionD (Keep No h187) 15 (by kernel_rfl) ?_
                            refine awp_run (fuel := 17) [0] Keep.refl (by kernel_rfl) ?_
                            refine awp_load 1 rfl (by kernel_rfl) (by kernel_rfl) (by kernel_rfl) (by kernel_rfl) Keep.refl (o201.cell (off := 2) rfl) (fun _ _ x => x.elim) ?_
                            obtain ⟨c250, H⟩ := guard_pos H
                            obtain ⟨c251, H⟩ := guard_pos H
                            obtain ⟨c252, H⟩ := guard_pos H
                            refine awp_run (fuel := 8) [2, 4, 5, 6, 7, 8, 9, 10] Keep.refl (by kernel_rfl) ?_
                            obtain ⟨a255, c256, r254, e257⟩ := r190.part (lo := (w64 (x191 + 3))) (hi := (w64 ((w64 (x191 + 3)) + t244))) c250 c251 c252
                            refine awp_pure 11 ((.slice a255 ((sub x0 (w64 (x191 + 3)) (w64 ((w64 (x191 + 3)) + t244))).length) c256)) rfl (by kernel_rfl) (by kernel_rfl) (pr_slice_lh (e := 5) (r190.toSl) e257 (by kernel_rfl) (k1 := .i64) (by kernel_rfl) (k2 := .i64) (by kernel_rfl) (by kernel_rfl) (by kernel_rfl) c250 c251 c252) Keep.refl ?_
                            refine awp_op 3 (by kernel_rfl) rfl (by kernel_rfl) (owp_buildSlice (e := 5) [] 1 (.int .u8 0) pt189.bd (by kernel_rfl) (by kernel_rfl) (by kernel_rfl) (by kernel_rfl) (by kernel_rfl) ?_)
                            intro b258 h259 hc260 p261 o262
                            have pt263 := pt189.no p261
                            have w264 := o262.own (l := ([] : List Int)) (Reps.int (I := I188) (k := .u8) (l := []))
                            have fw264 := some_nw (M := No) (Nat.le_trans pt189.size hc260)
                            have d266 := some_ne (ne_new o192.lt hc260)
                            have d267 := some_ne (ne_new o201.lt hc260)
                            have d268 := some_notIn (notIn_new r198.lt hc260)
                            have hK269 := Keep.post (M := No) Keep.refl (Nat.le_refl _) p261 (fun _ x => x.elim)
                            refine ⟨hK269, ?_⟩
                            have f270 := r254.up (upOr (p261.up pt189.bd (fun _ x => x.elim)) (keepB p261 (hBB.mono pt189.size) (fun _ x => x.elim)))
                            obtain ⟨l271, m272, H⟩ := bind_some H
                            refine awp_op 12 (by kernel_rfl) rfl (by kernel_rfl) (owp_app (e := 5) (bytes := 1) (tInt .u8) (by kernel_rfl) (elemOk_of (by kernel_rfl)) rfl rfl p261.bd p261.bd w264 w264.notI ((Sl.flat (I' := I188) (f270.toSl) flat_int)) m272 (by kernel_rfl) (by kernel_rfl) ?_)
                            intro a273 c274 h275 p276 o277 fr278
                            have pt279 := pt263.own p276 fw264
                            have fr281 := nw_step (M := No) (n := h.size) fw264 fr278 pt263.size
                            have f282 := o192.post p261 (fun x => x.elim)
                            have d283 := step_blk fr278 f282.lt d266
                            have f284 := o201.post p261 (fun x => x.elim)
                            have d285 := step_blk fr278 f284.lt d267
                            have f286 := r198.post pt189.bd p261 (fun _ x => x.elim) (fun _ _ x => x.elim)
                            have d287 := step_sl fr278 f286.lt (flipD d268)
                            have hK288 := Keep.post (M := No) hK269 (Nat.le_trans (Nat.le_refl _) p261.size) p276 (some_nw (Nat.le_trans (Nat.le_refl _) hc260))
                            refine ⟨hK288, ?_⟩
                            refine awp_run (fuel := 4) [13] hK288 (by kernel_rfl) ?_
                            refine awp_op 14 (by kernel_rfl) rfl (by kernel_rfl) (owp_buildSlice (e := 62) [.int .i64 t237.1, .slice a273 l271.length c274] 2 (.agg #[.int .i64 0, .slice none 0 0]) p276.bd (by kernel_rfl) (by kernel_rfl) (by kernel_rfl) (by kernel_rfl) (by kernel_rfl) ?_)
                            intro b289 h290 hc291 p292 o293
                            have pt294 := pt279.no p292
                            have f297 := o277.post p276.bd p292 (fun _ x => x.elim) (fun _ _ x => x.elim)
                            have w295 := o293.own (l := ([(⟨t237.1, l271⟩ : api_Entry)] : List api_Entry)) (Reps.cons (T := t_api_Entry) (c := [.int .i64 t237.1, .slice a273 l271.length c274]) (x := (⟨t237.1, l271⟩ : api_Entry)) (⟨_, _, rfl, f297.rd⟩) (.nil : Reps t_api_Entry (Fz I188 a273) h290 [] []))
                            have fw295 := some_nw (M := No) (Nat.le_trans pt279.size hc291)
                            have f298 := o192.post p261 (fun x => x.elim)
                            have f299 := f298.post p276 d266
                            have d300 := some_ne (ne_new f299.lt hc291)
                            have f301 := o201.post p261 (fun x => x.elim)
                            have f302 := f301.post p276 d267
                            have d303 := some_ne (ne_new f302.lt hc291)
                            have f304 := r198.post pt189.bd p261 (fun _ x => x.elim) (fun _ _ x => x.elim)
                            have f305 := f304.post p261.bd p276 w264.notI (flipD d268)
                            have d306 := some_notIn (notIn_new f305.lt hc291)
                            have d307 := some_notIn (notIn_new o277.lt hc291)
                            have hK308 := Keep.post (M := No) hK288 (Nat.le_trans (Nat.le_trans (Nat.le_refl _) p261.size) p276.size) p292 (fun _ x => x.elim)
                            refine ⟨hK308, ?_⟩
                            have f309 := r198.post pt189.bd p261 (fun _ x => x.elim) (fun _ _ x => x.elim)
                            have f310 := f309.post p261.bd p276 w264.notI (flipD d268)
                            have f311 := f310.post p276.bd p292 (fun _ x => x.elim) (fun _ _ x => x.elim)
                            have w312 := OwnX.fzX0 (G' := (Fz I188 a273)) f311 (up_sub (fun _ x => (Or.inl x)))
                            obtain ⟨l313, m314, H⟩ := bind_some H
                            refine awp_opL 15 (by kernel_rfl) (by kernel_rfl) rfl (by kernel_rfl) (owp_app (e := 62) (bytes := 32) t_api_Entry (by kernel_rfl) (elemOk_of (by kernel_rfl)) rfl rfl p292.bd (bd_fz f297 p292.bd) w312 (notFz f311.notI d287) (w295.toSl) m314 (by kernel_rfl) (by kernel_rfl) ?_)
                            intro a315 c316 h317 p318 o319 fr320
                            have pt321 := pt294.own p318 fr200
                            have fr323 := nw_step (M := No) (n := h.size) fr200 fr320 pt294.size
                            have f324 := o192.post p261 (fun x => x.elim)
                            have f325 := f324.post p276 d266
                            have f326 := f325.post p292 (fun x => x.elim)
                            have d327 := step_blk fr320 f326.lt d202
                            have f328 := o201.post p261 (fun x => x.elim)
                            have f329 := f328.post p276 d267
                            have f330 := f329.post p292 (fun x => x.elim)
                            have d331 := step_blk fr320 f330.lt d203
                            have d332 := step_sl fr320 f297.lt d287
                            have d333 := step_sl fr320 w295.lt d306
                            refine awp_opL 16 (by kernel_rfl) (by kernel_rfl) rfl (by kernel_rfl) (owp_pure ((.pointer (some ⟨b28, 2, none⟩))) (by kernel_rfl) ?_)
                            have f334 := o201.post p261 (fun x => x.elim)
                            have f335 := f334.post p276 d267
                            have f336 := f335.post p292 (fun x => x.elim)
                            have f337 := f336.post p318 d203
                            refine awp_opL 17 (by kernel_rfl) (by kernel_rfl) rfl (by kernel_rfl) (owp_store1 2 (.slice a315 l313.length c316) p318.bd f337 (by kernel_rfl) (by kernel_rfl) rfl (by kernel_rfl) (Nat.le_of_ble_eq_true rfl) ?_)
                            intro h338 p339 o340
                            have pt341 := pt321.own p339 (one_nw fr34)
                            refine awp_nil (by kernel_rfl) ?_ 0
                            refine cwp_region ?_
                            refine lwp_run 5 (by kernel_rfl) ?_
                            refine lwp_nil ?_
                            have f100007 := f297.post p292.bd p318 f311.notI d287
                            have f100008 := f100007.post p318.bd p339 (one_not f337.no) (dis_one d285)
                            have pt100009 := post_fz f100008 p339.bd pt341 fr281
                            have r100011 := f100008.rd
                            have bd100012 := bd_fz f100008 p339.bd
                            have f100013 := r190.up (upOr (p261.up pt189.bd (fun _ x => x.elim)) (keepB p261 (hBB.mono pt189.size) (fun _ x => x.elim)))
                            have f100014 := f100013.up (upOr (p276.up p261.bd w264.notI) (keepB p276 (hBB.mono pt263.size) (nwB fw264 (fun _ x => x.elim) hBB)))
                            have f100015 := f100014.up (upOr (p292.up p276.bd (fun _ x => x.elim)) (keepB p292 (hBB.mono pt279.size) (fun _ x => x.elim)))
                            have f100016 := f100015.up (upOr (p318.up p292.bd f311.notI) (keepB p318 (hBB.mono pt294.size) (nwB fr200 (fun _ x => x.elim) hBB)))
                            have f100017 := f100016.up (upOr (p339.up p318.bd (one_not f337.no)) (keepB p339 (hBB.mono pt321.size) (nwB (one_nw fr34) (fun _ x => x.elim) hBB)))
                            have f100018 := f100017.up (upOr (up_fz (a := a273)) keep_rfl)
                            have f100019 := o192.post p261 (fun x => x.elim)
                            have f100020 := f100019.post p276 d266
                            have f100021 := f100020.post p292 (fun x => x.elim)
                            have f100022 := f100021.post p318 d202
                            have f100023 := f100022.post p339 (fun e => d35 e.symm)
                            have f100024 := f100023.fz d283
                            have f100025 := o319.postX (upA (p339.up p318.bd (one_not f337.no)) (keepA f100007 p339 (dis_one d285))) p339 (dis_one d331)
                            have f100026 := OwnX.fzX f100025 (up_sub (fun _ x => x)) d332
                            have f100027 := o340.fz d285
                            show Exists _
                            exact ⟨k, Nat.lt_succ_self _, (w64 ((w64 (x191 + 3)) + t244)), x193, x194, l313, a315, c316, (Fz I188 a273), H, ⟨by kernel_rfl, by kernel_rfl, by kernel_rfl, by kernel_rfl, by kernel_rfl, trivial⟩, pt100009, f100018, f100024, f100026, fr323, f100027, d327, d331⟩
                          · rw [if_neg c243] at H
                            refine lwp_op (by kernel_rfl) (owp_pure ((.bool true)) (pr_bool (by kernel_rfl) (neT c243)) ?_)
                            refine lwp_nil ?_
                            refine cwp_true (by kernel_rfl) ?_
                            refine cwp_seq ?_
                            refine cwp_region ?_
                            refine lwp_run 4 (by kernel_rfl) ?_
                            refine lwp_op (by kernel_rfl) (owp_storeN 0 [.int .u8 0, .int .i64 0, .slice none 0 0] pt189.bd o192 (by kernel_rfl) (by kernel_rfl) (by simp [Value.oneCell']) (by kernel_rfl) (Nat.le_of_ble_eq_true rfl) ?_)
                            intro h342 p343 o344
                            have pt345 := pt189.own p343 (one_nw fr11)
                            refine lwp_run 2 (by kernel_rfl) ?_
                            refine lwp_nil ?_
                            refine cwp_ret ?_
                            obtain rfl := Option.some.inj H
                            obtain rfl := Option.some.inj HR222
                            show Exists _
                            exact ⟨[.agg #[.int .u8 0, .int .i64 0, .slice none 0 0], .int .i64 t237.2.1, .int .i64 (w64 (x191 + 1))], (.cons (.agg (by kernel_rfl) (by kernel_rfl) (by kernel_rfl) (o344.seg_ 0 3 (Nat.le_of_ble_eq_true rfl))) (.cons (.tmp (by kernel_rfl)) (.cons (.tmp (by kernel_rfl)) .nil))), I188, none, 0, rfl, pt345, (own_nil t_api_Entry I188 I188 h342), none_nw⟩
                        · rw [if_neg c229] at H
                          refine lwp_op (by kernel_rfl) (owp_pure ((.bool true)) (pr_bool (by kernel_rfl) (neT c229)) ?_)
                          refine lwp_nil ?_
                          refine cwp_true (by kernel_rfl) ?_
                          refine cwp_seq ?_
                          refine cwp_region ?_
                          refine lwp_run 2 (by kernel_rfl) ?_
                          refine lwp_op (by kernel_rfl) (owp_storeN 0 [.int .u8 0, .int .i64 0, .slice none 0 0] pt189.bd o192 (by kernel_rfl) (by kernel_rfl) (by simp [Value.oneCell']) (by kernel_rfl) (Nat.le_of_ble_eq_true rfl) ?_)
                          intro h346 p347 o348
                          have pt349 := pt189.own p347 (one_nw fr11)
                          refine lwp_run 2 (by kernel_rfl) ?_
                          refine lwp_nil ?_
                          refine cwp_ret ?_
                          obtain rfl := Option.some.inj H
                          obtain rfl := Option.some.inj HR222
                          show Exists _
                          exact ⟨[.agg #[.int .u8 0, .int .i64 0, .slice none 0 0], .int .i64 3, .int .i64 x191], (.cons (.agg (by kernel_rfl) (by kernel_rfl) (by kernel_rfl) (o348.seg_ 0 3 (Nat.le_of_ble_eq_true rfl))) (.cons (.tmp (by kernel_rfl)) (.cons (.tmp (by kernel_rfl)) .nil))), I188, none, 0, rfl, pt349, (own_nil t_api_Entry I188 I188 h346), none_nw⟩
                      · rw [if_neg c223] at H
                        refine lwp_op (by kernel_rfl) (owp_pure ((.bool false)) (pr_bool (by kernel_rfl) (decide_eq_false c223)) ?_)
                        refine lwp_nil ?_
                        refine cwp_false (by kernel_rfl) ?_
                        refine cwp_exit ?_
                        obtain rfl := Option.some.inj H
                        show Exists _
                        exact ⟨x193, x194, x195, a196, c197, I188, rfl, ⟨by kernel_rfl, by kernel_rfl, trivial⟩, pt189, o192, r198, fr200, o201, d202, d203⟩
                  · rintro ρ' h206 ⟨x210, x211, x212, a213, c214, I207, rfl, hf, pt208, o209, r215, fr217, o218, d219, d220⟩
                    have H := HR222
                    try dsimp only at H
                    refine cwp_fits _ hf ?_
                    refine cwp_seq ?_
                    refine cwp_region ?_
                    refine lwp_op (by kernel_rfl) (owp_loadN (by kernel_rfl) (by kernel_rfl) (by kernel_rfl) (o218.seg_ 0 3 (Nat.le_of_ble_eq_true rfl)) ?_)
                    refine lwp_op (by kernel_rfl) (owp_storeN 0 [.int .u8 x210, .int .i64 x211, .slice a213 x212.length c214] pt208.bd o209 (by kernel_rfl) (by kernel_rfl) (by simp [Value.oneCell']) (by kernel_rfl) (Nat.le_of_ble_eq_true rfl) ?_)
                    intro h350 p351 o352
                    have pt353 := pt208.own p351 (one_nw fr11)
                    refine lwp_run 2 (by kernel_rfl) ?_
                    refine lwp_nil ?_
                    refine cwp_ret ?_
                    obtain rfl := Option.some.inj H
                    have f354 := r215.post pt208.bd p351 (one_not o209.no) (dis_one d219)
                    show Exists _
                    exact ⟨[.agg #[.int .u8 x210, .int .i64 x211, .slice a213 x212.length c214], .int .i64 0, .int .i64 (-1)], (.cons (.agg (by kernel_rfl) (by kernel_rfl) (by kernel_rfl) (o352.seg_ 0 3 (Nat.le_of_ble_eq_true rfl))) (.cons (.tmp (by kernel_rfl)) (.cons (.tmp (by kernel_rfl)) .nil))), I207, a213, c214, rfl, pt353, f354, fr217⟩
                · rw [cond_true] at H
                  refine cwp_true (by kernel_rfl) ?_
                  refine cwp_seq ?_
                  refine cwp_seq ?_
                  refine cwp_region ?_
                  refine lwp_run 5 (by kernel_rfl) ?_
                  by_cases c109 : (w64 (3 + t94)) < (x0.length : Int)
                  · rw [if_pos c109] at H
                    refine lwp_op (by kernel_rfl) (owp_pure ((.bool true)) (pr_bool (by kernel_rfl) (decide_eq_true c109)) ?_)
                    refine lwp_nil ?_
                    refine cwp_true (by kernel_rfl) ?_
                    refine cwp_seq ?_
                    refine cwp_region ?_
                    refine lwp_run 4 (by kernel_rfl) ?_
                    refine lwp_op (by kernel_rfl) (owp_storeN 0 [.int .u8 0, .int .i64 0, .slice none 0 0] pt103.bd o106 (by kernel_rfl) (by kernel_rfl) (by simp [Value.oneCell']) (by kernel_rfl) (Nat.le_of_ble_eq_true rfl) ?_)
                    intro h110 p111 o112
                    have pt113 := pt103.own p111 (one_nw fr11)
                    refine lwp_run 2 (by kernel_rfl) ?_
                    refine lwp_nil ?_
                    refine cwp_ret ?_
                    obtain rfl := Option.some.inj H
                    show Exists _
                    exact ⟨[.agg #[.int .u8 0, .int .i64 0, .slice none 0 0], .int .i64 3, .int .i64 (w64 (3 + t94))], (.cons (.agg (by kernel_rfl) (by kernel_rfl) (by kernel_rfl) (o112.seg_ 0 3 (Nat.le_of_ble_eq_true rfl))) (.cons (.tmp (by kernel_rfl)) (.cons (.tmp (by kernel_rfl)) .nil))), I102, none, 0, rfl, pt113, (own_nil t_api_Entry I102 I102 h110), none_nw⟩
                  · rw [if_neg c109] at H
                    refine lwp_op (by kernel_rfl) (owp_pure ((.bool false)) (pr_bool (by kernel_rfl) (decide_eq_false c109)) ?_)
                    refine lwp_nil ?_
                    refine cwp_false (by kernel_rfl) ?_
                    refine cwp_skip ?_
                    refine cwp_seq ?_
                    refine cwp_region ?_
                    refine lwp_op (by kernel_rfl) (owp_buildSlice (e := 5) [] 1 (.int .u8 0) pt103.bd (by kernel_rfl) (by kernel_rfl) (by kernel_rfl) (by kernel_rfl) (by kernel_rfl) ?_)
                    intro b114 h115 hc116 p117 o118
                    have pt119 := pt103.no p117
                    have w120 := o118.own (l := ([] : List Int)) (Reps.int (I := I102) (k := .u8) (l := []))
                    have fw120 := some_nw (M := No) (Nat.le_trans pt103.size hc116)
                    have d122 := some_ne (ne_new o106.lt hc116)
                    have d123 := some_ne (ne_new o107.lt hc116)
                    obtain ⟨c124, H⟩ := guard_pos H
                    refine lwp_run 2 (by kernel_rfl) ?_
                    have f126 := r104.up (upOr (p117.up pt103.bd (fun _ x => x.elim)) (keepB p117 (hBB.mono pt103.size) (fun _ x => x.elim)))
                    obtain ⟨a128, c129, r127, e130⟩ := f126.part (lo := 3) (hi := (x0.length : Int)) (by decide) c124 (Int.le_refl _)
                    refine lwp_op (by kernel_rfl) (owp_pure ((.slice a128 ((sub x0 3 (x0.length : Int)).length) c129)) (pr_slice_l (e := 5) (f126.toSl) e130 (by kernel_rfl) (k1 := .i64) (by kernel_rfl) (by kernel_rfl) (by kernel_rfl) (by decide) c124 (Int.le_refl _)) ?_)
                    obtain ⟨l131, m132, H⟩ := bind_some H
                    refine lwp_op (by kernel_rfl) (owp_app (e := 5) (bytes := 1) (tInt .u8) (by kernel_rfl) (elemOk_of (by kernel_rfl)) rfl rfl p117.bd p117.bd w120 w120.notI ((Sl.flat (I' := I102) (r127.toSl) flat_int)) m132 (by kernel_rfl) (by kernel_rfl) ?_)
                    intro a133 c134 h135 p136 o137 fr138
                    have pt139 := pt119.own p136 fw120
                    have fr141 := nw_step (M := No) (n := h.size) fw120 fr138 pt119.size
                    have f142 := o106.post p117 (fun x => x.elim)
                    have d143 := step_blk fr138 f142.lt d122
                    have f144 := o107.post p117 (fun x => x.elim)
                    have d145 := step_blk fr138 f144.lt d123
                    refine lwp_run 1 (by kernel_rfl) ?_
                    refine lwp_op (by kernel_rfl) (owp_buildSlice (e := 62) [.int .i64 (-1), .slice a133 l131.length c134] 2 (.agg #[.int .i64 0, .slice none 0 0]) p136.bd (by kernel_rfl) (by kernel_rfl) (by kernel_rfl) (by kernel_rfl) (by kernel_rfl) ?_)
                    intro b146 h147 hc148 p149 o150
                    have pt151 := pt139.no p149
                    have f154 := o137.post p136.bd p149 (fun _ x => x.elim) (fun _ _ x => x.elim)
                    have w152 := o150.own (l := ([(⟨(-1), l131⟩ : api_Entry)] : List api_Entry)) (Reps.cons (T := t_api_Entry) (c := [.int .i64 (-1), .slice a133 l131.length c134]) (x := (⟨(-1), l131⟩ : api_Entry)) (⟨_, _, rfl, f154.rd⟩) (.nil : Reps t_api_Entry (Fz I102 a133) h147 [] []))
                    have fw152 := some_nw (M := No) (Nat.le_trans pt139.size hc148)
                    have f155 := o106.post p117 (fun x => x.elim)
                    have f156 := f155.post p136 d122
                    have d157 := some_ne (ne_new f156.lt hc148)
                    have f158 := o107.post p117 (fun x => x.elim)
                    have f159 := f158.post p136 d123
                    have d160 := some_ne (ne_new f159.lt hc148)
                    have d161 := some_notIn (notIn_new o137.lt hc148)
                    refine lwp_run 1 (by kernel_rfl) ?_
                    have f162 := o107.post p117 (fun x => x.elim)
                    have f163 := f162.post p136 d123
                    have f164 := f163.post p149 (fun x => x.elim)
                    refine lwp_op (by kernel_rfl) (owp_store1 2 (.slice (some ⟨b146, 0, none⟩) ([(⟨(-1), l131⟩ : api_Entry)].length) 1) p149.bd f164 (by kernel_rfl) (by kernel_rfl) rfl (by kernel_rfl) (Nat.le_of_ble_eq_true rfl) ?_)
                    intro h165 p166 o167
                    have pt168 := pt151.own p166 (one_nw fr34)
                    refine lwp_nil ?_
                    refine cwp_seq ?_
                    refine cwp_region ?_
                    refine lwp_op (by kernel_rfl) (owp_loadN (by kernel_rfl) (by kernel_rfl) (by kernel_rfl) (o167.seg_ 0 3 (Nat.le_of_ble_eq_true rfl)) ?_)
                    have f169 := o106.post p117 (fun x => x.elim)
                    have f170 := f169.post p136 d122
                    have f171 := f170.post p149 (fun x => x.elim)
                    have f172 := f171.post p166 (fun e => d35 e.symm)
                    refine lwp_op (by kernel_rfl) (owp_storeN 0 [.int .u8 (at_ x0 0), .int .i64 t82.1, .slice (some ⟨b146, 0, none⟩) ([(⟨(-1), l131⟩ : api_Entry)].length) 1] p166.bd f172 (by kernel_rfl) (by kernel_rfl) (by simp [Value.oneCell']) (by kernel_rfl) (Nat.le_of_ble_eq_true rfl) ?_)
                    intro h173 p174 o175
                    have pt176 := pt168.own p174 (one_nw fr11)
                    refine lwp_run 2 (by kernel_rfl) ?_
                    refine lwp_nil ?_
                    refine cwp_ret ?_
                    obtain rfl := Option.some.inj H
                    have f177 := f154.post p149.bd p166 (one_not f164.no) (dis_one d145)
                    have f178 := f177.post p166.bd p174 (one_not f172.no) (dis_one d143)
                    have pt179 := post_fz f178 p174.bd pt176 fr141
                    have r181 := f178.rd
                    have bd182 := bd_fz f178 p174.bd
                    have f183 := w152.postX (upA (p166.up p149.bd (one_not f164.no)) (keepA f154 p166 (dis_one d145))) p166 (dis_one d160)
                    have f184 := f183.postX (upA (p174.up p166.bd (one_not f172.no)) (keepA f177 p174 (dis_one d143))) p174 (dis_one d157)
                    have f185 := OwnX.fzX f184 (up_sub (fun _ x => x)) d161
                    have f186 := o175.fz d143
                    show Exists _
                    exact ⟨[.agg #[.int .u8 (at_ x0 0), .int .i64 t82.1, .slice (some ⟨b146, 0, none⟩) ([(⟨(-1), l131⟩ : api_Entry)].length) 1], .int .i64 0, .int .i64 (-1)], (.cons (.agg (by kernel_rfl) (by kernel_rfl) (by kernel_rfl) (f186.seg_ 0 3 (Nat.le_of_ble_eq_true rfl))) (.cons (.tmp (by kernel_rfl)) (.cons (.tmp (by kernel_rfl)) .nil))), (Fz I102 a133), (some ⟨b146, 0, none⟩), 1, rfl, pt179, f185, fw152⟩
            · rw [if_neg c88] at H
              refine lwp_op (by kernel_rfl) (owp_pure ((.bool true)) (pr_bool (by kernel_rfl) (neT c88)) ?_)
              refine lwp_nil ?_
              refine cwp_true (by kernel_rfl) ?_
              refine cwp_seq ?_
              refine cwp_region ?_
              refine lwp_run 2 (by kernel_rfl) ?_
              refine lwp_op (by kernel_rfl) (owp_storeN 0 [.int .u8 0, .int .i64 0, .slice none 0 0] pt61.bd o64 (by kernel_rfl) (by kernel_rfl) (by simp [Value.oneCell']) (by kernel_rfl) (Nat.le_of_ble_eq_true rfl) ?_)
              intro h356 p357 o358
              have pt359 := pt61.own p357 (one_nw fr11)
              refine lwp_run 2 (by kernel_rfl) ?_
              refine lwp_nil ?_
              refine cwp_ret ?_
              obtain rfl := Option.some.inj H
              show Exists _
              exact ⟨[.agg #[.int .u8 0, .int .i64 0, .slice none 0 0], .int .i64 t82.2.1, .int .i64 1], (.cons (.agg (by kernel_rfl) (by kernel_rfl) (by kernel_rfl) (o358.seg_ 0 3 (Nat.le_of_ble_eq_true rfl))) (.cons (.tmp (by kernel_rfl)) (.cons (.tmp (by kernel_rfl)) .nil))), I60, none, 0, rfl, pt359, (own_nil t_api_Entry I60 I60 h356), none_nw⟩
          · rw [cond_true] at H
            refine cwp_true (by kernel_rfl) ?_
            refine cwp_seq ?_
            refine cwp_seq ?_
            refine cwp_region ?_
            refine lwp_run 2 (by kernel_rfl) ?_
            by_cases c67 : (x0.length : Int) > 1
            · rw [if_pos c67] at H
              refine lwp_op (by kernel_rfl) (owp_pure ((.bool true)) (pr_bool (by kernel_rfl) (decide_eq_true c67)) ?_)
              refine lwp_nil ?_
              refine cwp_true (by kernel_rfl) ?_
              refine cwp_seq ?_
              refine cwp_region ?_
              refine lwp_run 1 (by kernel_rfl) ?_
              refine lwp_op (by kernel_rfl) (owp_storeN 0 [.int .u8 0, .int .i64 0, .slice none 0 0] pt61.bd o64 (by kernel_rfl) (by kernel_rfl) (by simp [Value.oneCell']) (by kernel_rfl) (Nat.le_of_ble_eq_true rfl) ?_)
              intro h68 p69 o70
              have pt71 := pt61.own p69 (one_nw fr11)
              refine lwp_run 2 (by kernel_rfl) ?_
              refine lwp_nil ?_
              refine cwp_ret ?_
              obtain rfl := Option.some.inj H
              show Exists _
              exact ⟨[.agg #[.int .u8 0, .int .i64 0, .slice none 0 0], .int .i64 1, .int .i64 1], (.cons (.agg (by kernel_rfl) (by kernel_rfl) (by kernel_rfl) (o70.seg_ 0 3 (Nat.le_of_ble_eq_true rfl))) (.cons (.tmp (by kernel_rfl)) (.cons (.tmp (by kernel_rfl)) .nil))), I60, none, 0, rfl, pt71, (own_nil t_api_Entry I60 I60 h68), none_nw⟩
            · rw [if_neg c67] at H
              refine lwp_op (by kernel_rfl) (owp_pure ((.bool false)) (pr_bool (by kernel_rfl) (decide_eq_false c67)) ?_)
              refine lwp_nil ?_
              refine cwp_false (by kernel_rfl) ?_
              refine cwp_skip ?_
              refine cwp_seq ?_
              refine cwp_region ?_
              refine lwp_op (by kernel_rfl) (owp_loadN (by kernel_rfl) (by kernel_rfl) (by kernel_rfl) (o65.seg_ 0 3 (Nat.le_of_ble_eq_true rfl)) ?_)
              refine lwp_op (by kernel_rfl) (owp_storeN 0 [.int .u8 (at_ x0 0), .int .i64 0, .slice none 0 0] pt61.bd o64 (by kernel_rfl) (by kernel_rfl) (by simp [Value.oneCell']) (by kernel_rfl) (Nat.le_of_ble_eq_true rfl) ?_)
              intro h72 p73 o74
              have pt75 := pt61.own p73 (one_nw fr11)
              refine lwp_run 2 (by kernel_rfl) ?_
              refine lwp_nil ?_
              refine cwp_ret ?_
              obtain rfl := Option.some.inj H
              show Exists _
              exact ⟨[.agg #[.int .u8 (at_ x0 0), .int .i64 0, .slice none 0 0], .int .i64 0, .int .i64 (-1)], (.cons (.agg (by kernel_rfl) (by kernel_rfl) (by kernel_rfl) (o74.seg_ 0 3 (Nat.le_of_ble_eq_true rfl))) (.cons (.tmp (by kernel_rfl)) (.cons (.tmp (by kernel_rfl)) .nil))), I60, none, 0, rfl, pt75, (own_nil t_api_Entry I60 I60 h72), none_nw⟩

/-! shutter/api.Where -/
def api_Where.m (x0 : GoErr) : Option Int := some (whereOf x0)
theorem api_Where.calls {I : Gh} {h : Heap} {x0 : GoErr} {v1 : Value} (hB : Bd I h) (hG : Glob I h) (q : ErrV I h x0 v1) {r : Int} (H : api_Where.m x0 = some r) :
    Ret Tryd.prog 30 #[v1] h (fun v h' => ∃ (I' : Gh), .int .i64 r = v ∧ Pst No I h I' h') := by
  obtain rfl := Option.some.inj H
  exact Where_calls hB hG q

/-! shutter/shutterlaw09.InputReads -/
def shutterlaw09_InputReads.m (K : Nat) (x0 : (List Int)) (x1 : Int) : Option Bool :=
  ((shutterlaw09_awake.m K).bind fun t5 => bif t5 then (if (x0.length : Int) > 9000 then ((shutterlaw09_awake.m K).bind fun t13 => (some t13)) else ((shutterlaw09_size.m x1).bind fun t21 => ((input_Read.m K x0 t21).bind fun t28 => ((shutterlaw09_size.m x1).bind fun t57 => ((shutterref09_Read.m K x0 t57).bind fun t66 => ((shutterref09_Same.m K t28.1 t66.1).bind fun t107 => bif t107 then ((api_Code.m t28.2).bind fun t121 => (if t121 = t66.2.1 then ((api_Where.m t28.2).bind fun t137 => (some (t137 == t66.2.2))) else (some false))) else (some false))))))) else ((shutterlaw09_awake.m K).bind fun t145 => (some t145)))

set_option maxRecDepth 100000 in
theorem shutterlaw09_InputReads.calls {I : Gh} {h : Heap} {K : Nat} {x0 : List Int} {a1 : Option Addr} {c2 : Nat} {x1 : Int} (hB : Bd I h) (hG : Glob I h) (r4 : Rd (tInt .u8) I h a1 c2 x0) {r : Bool}
    (H : shutterlaw09_InputReads.m K x0 x1 = some r) :
    Ret Tryd.prog 9 #[.slice a1 x0.length c2, .int .u16 x1] h (fun v h' => ∃ (I' : Gh), .bool r = v ∧ Pst No I h I' h') := by
  unfold shutterlaw09_InputReads.m at H
  refine ret_of (args := [.slice a1 x0.length c2, .int .u16 x1]) (rs := [.tmp 4]) (N := 48) Tryd.func9 rfl rfl rfl (Nat.le_of_ble_eq_true rfl) ?_
  have pt0 : Pst No I h I h := Pst.refl hB
  refine cwp_seq ?_
  refine cwp_region ?_
  refine lwp_run 1 (by kernel_rfl) ?_
  refine lwp_nil ?_
  refine cwp_seq ?_
  refine cwp_seq ?_
  refine cwp_region ?_
  obtain ⟨t5, m6, H⟩ := bind_some H
  refine lwp_op (by kernel_rfl) (owp_callF (by kernel_rfl) (shutterlaw09_awake.calls (I := I) hB hG m6) ?_)
  rintro v7 h8 ⟨I9, rfl, p10⟩
  have pt11 := pt0.no p10
  cases t5
  · rw [cond_false] at H
    refine lwp_run 6 (by kernel_rfl) ?_
    refine lwp_nil ?_
    refine cwp_true (by kernel_rfl) ?_
    refine cwp_seq ?_
    refine cwp_region ?_
    obtain ⟨t145, m146, H⟩ := bind_some H
    have f147 := hG.up (p10.up hB (fun _ x => x.elim))
    refine lwp_op (by kernel_rfl) (owp_callF (by kernel_rfl) (shutterlaw09_awake.calls (I := I9) p10.bd f147 m146) ?_)
    rintro v148 h149 ⟨I150, rfl, p151⟩
    have pt152 := pt11.no p151
    refine lwp_run 1 (by kernel_rfl) ?_
    refine lwp_nil ?_
    refine cwp_ret ?_
    obtain rfl := Option.some.inj H
    show Exists _
    exact ⟨.bool t145, by kernel_rfl, I150, rfl, pt152⟩
  · rw [cond_true] at H
    refine lwp_run 4 (by kernel_rfl) ?_
    by_cases c12 : (x0.length : Int) > 9000
    · rw [if_pos c12] at H
      refine lwp_op (by kernel_rfl) (owp_pure ((.bool true)) (pr_bool (by kernel_rfl) (decide_eq_true c12)) ?_)
      refine lwp_run 1 (by kernel_rfl) ?_
      refine lwp_nil ?_
      refine cwp_true (by kernel_rfl) ?_
      refine cwp_seq ?_
      refine cwp_region ?_
      obtain ⟨t13, m14, H⟩ := bind_some H
      have f15 := hG.up (p10.up hB (fun _ x => x.elim))
      refine lwp_op (by kernel_rfl) (owp_callF (by kernel_rfl) (shutterlaw09_awake.calls (I := I9) p10.bd f15 m14) ?_)
      rintro v16 h17 ⟨I18, rfl, p19⟩
      have pt20 := pt11.no p19
      refine lwp_run 1 (by kernel_rfl) ?_
      refine lwp_nil ?_
      refine cwp_ret ?_
      obtain rfl := Option.some.inj H
      show Exists _
      exact ⟨.bool t13, by kernel_rfl, I18, rfl, pt20⟩
    · rw [if_neg c12] at H
      refine lwp_op (by kernel_rfl) (owp_pure ((.bool false)) (pr_bool (by kernel_rfl) (decide_eq_false c12)) ?_)
      refine lwp_run 1 (by kernel_rfl) ?_
      refine lwp_nil ?_
      refine cwp_false (by kernel_rfl) ?_
      refine cwp_skip ?_
      refine cwp_seq ?_
      refine cwp_region ?_
      refine lwp_run 2 (by kernel_rfl) ?_
      obtain ⟨t21, m22, H⟩ := bind_some H
      refine lwp_op (by kernel_rfl) (owp_callF (by kernel_rfl) (shutterlaw09_size.calls (I := I9) p10.bd m22) ?_)
      rintro v23 h24 ⟨_, rfl, rfl⟩
      have f27 := r4.up (p10.up hB (fun _ x => x.elim))
      obtain ⟨t28, m29, H⟩ := bind_some H
      have f30 := hG.up (p10.up hB (fun _ x => x.elim))
      refine lwp_op (by kernel_rfl) (owp_callF (by kernel_rfl) (input_Read.calls (I := I9) (B := I9) p10.bd p10.bd f30 (Rd.mono (I' := Or2 I9 I9) f27 (fun _ x => Or.inr x)) m29) ?_)
      rintro v31 h32 ⟨I33, a35, c36, v40, rfl, p34, r38, fr39, q42⟩
      have pt43 := pt11.no p34
      have fr44 := nw_step (M := No) (n := h.size) (fun _ x => x.elim) fr39 pt11.size
      refine lwp_run 3 (by kernel_rfl) ?_
      refine lwp_op (by kernel_rfl) (owp_alloc [.int .u8 0, .int .i64 0, .slice none 0 0] (.agg #[.int .u8 0, .int .i64 0, .slice none 0 0]) p34.bd (by kernel_rfl) (by kernel_rfl) ?_)
      intro b45 h46 hc47 p48 o49
      have pt50 := pt43.no p48
      have fr51 : No b45 ∨ h.size ≤ b45 := .inr (Nat.le_trans pt43.size hc47)
      have d52 := notIn_new r38.lt hc47
      refine lwp_op (by kernel_rfl) (owp_storeN 0 [.int .u8 t28.1.Aid, .int .i64 t28.1.Cursor, .slice a35 t28.1.Fields.length c36] p48.bd o49 (by kernel_rfl) (by kernel_rfl) (by simp [Value.oneCell']) (by kernel_rfl) (Nat.le_of_ble_eq_true rfl) ?_)
      intro h53 p54 o55
      have pt56 := pt50.own p54 (one_nw fr51)
      refine lwp_run 1 (by kernel_rfl) ?_
      refine lwp_nil ?_
      refine cwp_seq ?_
      refine cwp_region ?_
      refine lwp_run 2 (by kernel_rfl) ?_
      obtain ⟨t57, m58, H⟩ := bind_some H
      refine lwp_op (by kernel_rfl) (owp_callF (by kernel_rfl) (shutterlaw09_size.calls (I := I33) p54.bd m58) ?_)
      rintro v59 h60 ⟨_, rfl, rfl⟩
      have f63 := f27.up (p34.up p10.bd (fun _ x => x.elim))
      have f64 := f63.up (p48.up p34.bd (fun _ x => x.elim))
      have f65 := f64.up (p54.up p48.bd (one_not o49.no))
      obtain ⟨t66, m67, H⟩ := bind_some H
      refine lwp_op (by kernel_rfl) (owp_callF (by kernel_rfl) (shutterref09_Read.calls (I := I33) (B := I33) p54.bd p54.bd (Rd.mono (I' := Or2 I33 I33) f65 (fun _ x => Or.inr x)) m67) ?_)
      rintro v68 h69 ⟨I70, a72, c73, rfl, p71, r75, fr76⟩
      have pt77 := pt56.no p71
      have fr78 := nw_step (M := No) (n := h.size) (fun _ x => x.elim) fr76 pt56.size
      have d79 := step_blk fr76 o55.lt (fun x => x.elim)
      have f80 := r38.post p34.bd p48 (fun _ x => x.elim) (fun _ _ x => x.elim)
      have f81 := f80.post p48.bd p54 (one_not o49.no) (dis_one d52)
      have d82 := step_sl fr76 f81.lt (fun _ _ x => x.elim)
      refine lwp_run 4 (by kernel_rfl) ?_
      refine lwp_op (by kernel_rfl) (owp_alloc [.int .u8 0, .int .i64 0, .slice none 0 0] (.agg #[.int .u8 0, .int .i64 0, .slice none 0 0]) p71.bd (by kernel_rfl) (by kernel_rfl) ?_)
      intro b83 h84 hc85 p86 o87
      have pt88 := pt77.no p86
      have fr89 : No b83 ∨ h.size ≤ b83 := .inr (Nat.le_trans pt77.size hc85)
      have f90 := o55.post p71 (fun x => x.elim)
      have d91 := ne_new f90.lt hc85
      have f92 := f81.post p54.bd p71 (fun _ x => x.elim) (fun _ _ x => x.elim)
      have d93 := notIn_new f92.lt hc85
      have d94 := notIn_new r75.lt hc85
      refine lwp_op (by kernel_rfl) (owp_storeN 0 [.int .u8 t66.1.Aid, .int .i64 t66.1.Cursor, .slice a72 t66.1.Fields.length c73] p86.bd o87 (by kernel_rfl) (by kernel_rfl) (by simp [Value.oneCell']) (by kernel_rfl) (Nat.le_of_ble_eq_true rfl) ?_)
      intro h95 p96 o97
      have pt98 := pt88.own p96 (one_nw fr89)
      refine lwp_run 2 (by kernel_rfl) ?_
      refine lwp_nil ?_
      refine cwp_seq ?_
      refine cwp_region ?_
      have f99 := o55.post p71 (fun x => x.elim)
      have f100 := f99.post p86 (fun x => x.elim)
      have f101 := f100.post p96 (fun e => d91 e.symm)
      refine lwp_op (by kernel_rfl) (owp_loadN (by kernel_rfl) (by kernel_rfl) (by kernel_rfl) (f101.seg_ 0 3 (Nat.le_of_ble_eq_true rfl)) ?_)
      refine lwp_op (by kernel_rfl) (owp_loadN (by kernel_rfl) (by kernel_rfl) (by kernel_rfl) (o97.seg_ 0 3 (Nat.le_of_ble_eq_true rfl)) ?_)
      have f102 := f81.post p54.bd p71 (fun _ x => x.elim) (fun _ _ x => x.elim)
      have f103 := f102.post p71.bd p86 (fun _ x => x.elim) (fun _ _ x => x.elim)
      have f104 := f103.post p86.bd p96 (one_not o87.no) (dis_one d93)
      have f105 := r75.post p71.bd p86 (fun _ x => x.elim) (fun _ _ x => x.elim)
      have f106 := f105.post p86.bd p96 (one_not o87.no) (dis_one d94)
      obtain ⟨t107, m108, H⟩ := bind_some H
      refine lwp_op (by kernel_rfl) (owp_callF (by kernel_rfl) (shutterref09_Same.calls (I := (Fz (Fz I70 a35) a72)) (bd_fz f106 (bd_fz f104 p96.bd)) (Rd.mono (I' := (Fz (Fz I70 a35) a72)) f104.rd (fun _ x => (Or.inl x))) (Rd.mono (I' := (Fz (Fz I70 a35) a72)) f106.rd (fun _ x => (Or.elim x (fun x => (Or.inl (Or.inl x))) (fun x => (Or.inr x))))) m108) ?_)
      rintro v109 h110 ⟨I111, rfl, p112⟩
      have p113 := Pst.forget p112 p96.bd
      have pt114 := pt98.no p113
      cases t107
      · rw [cond_false] at H
        refine lwp_run 13 (by kernel_rfl) ?_
        refine lwp_nil ?_
        refine cwp_ret ?_
        obtain rfl := Option.some.inj H
        show Exists _
        exact ⟨.bool false, by kernel_rfl, I70, rfl, pt114⟩
      · rw [cond_true] at H
        refine lwp_run 2 (by kernel_rfl) ?_
        have f115 := ErrV.up (p48.up p34.bd (fun _ x => x.elim)) q42
        have f116 := ErrV.up (p54.up p48.bd (one_not o49.no)) f115
        have f117 := ErrV.up (p71.up p54.bd (fun _ x => x.elim)) f116
        have f118 := ErrV.up (p86.up p71.bd (fun _ x => x.elim)) f117
        have f119 := ErrV.up (p96.up p86.bd (one_not o87.no)) f118
        have f120 := ErrV.up (p113.up p96.bd (fun _ x => x.elim)) f119
        obtain ⟨t121, m122, H⟩ := bind_some H
        have f123 := f30.up (p34.up p10.bd (fun _ x => x.elim))
        have f124 := f123.up (p48.up p34.bd (fun _ x => x.elim))
        have f125 := f124.up (p54.up p48.bd (one_not o49.no))
        have f126 := f125.up (p71.up p54.bd (fun _ x => x.elim))
        have f127 := f126.up (p86.up p71.bd (fun _ x => x.elim))
        have f128 := f127.up (p96.up p86.bd (one_not o87.no))
        have f129 := f128.up (p113.up p96.bd (fun _ x => x.elim))
        refine lwp_op (by kernel_rfl) (owp_callF (by kernel_rfl) (api_Code.calls (I := I70) p113.bd f129 f120 m122) ?_)
        rintro v130 h131 ⟨I132, rfl, p133⟩
        have pt134 := pt114.no p133
        refine lwp_run 1 (by kernel_rfl) ?_
        by_cases c135 : t121 = t66.2.1
        · rw [if_pos c135] at H
          refine lwp_op (by kernel_rfl) (owp_pure ((.bool true)) (pr_bool (by kernel_rfl) (eqT c135)) ?_)
          refine lwp_run 3 (by kernel_rfl) ?_
          have f136 := ErrV.up (p133.up p113.bd (fun _ x => x.elim)) f120
          obtain ⟨t137, m138, H⟩ := bind_some H
          have f139 := f129.up (p133.up p113.bd (fun _ x => x.elim))
          refine lwp_op (by kernel_rfl) (owp_callF (by kernel_rfl) (api_Where.calls (I := I132) p133.bd f139 f136 m138) ?_)
          rintro v140 h141 ⟨I142, rfl, p143⟩
          have pt144 := pt134.no p143
          refine lwp_run 4 (by kernel_rfl) ?_
          refine lwp_nil ?_
          refine cwp_ret ?_
          obtain rfl := Option.some.inj H
          show Exists _
          exact ⟨.bool (t137 == t66.2.2), by kernel_rfl, I142, rfl, pt144⟩
        · rw [if_neg c135] at H
          refine lwp_op (by kernel_rfl) (owp_pure ((.bool false)) (pr_bool (by kernel_rfl) (eqF c135)) ?_)
          refine lwp_run 8 (by kernel_rfl) ?_
          refine lwp_nil ?_
          refine cwp_ret ?_
          obtain rfl := Option.some.inj H
          show Exists _
          exact ⟨.bool false, by kernel_rfl, I132, rfl, pt134⟩

/-! shutter/shutterlaw09.InputBack -/
def shutterlaw09_InputBack.m (K : Nat) (x0 : api_In) (x1 : (List Int)) (x2 : Int) : Option Bool :=
  ((shutterlaw09_awake.m K).bind fun t16 => bif t16 then ((shutterref09_Few.m K x0).bind fun t27 => bif t27 then (if (x1.length : Int) > 9000 then ((shutterlaw09_awake.m K).bind fun t35 => (some t35)) else ((shutterlaw09_size.m x2).bind fun t45 => ((input_Write.m K x0 t45).bind fun t52 => (letJ (α := Option Bool) ((shutterlaw09_size.m x2).bind fun t165 => ((input_Read.m K x1 t165).bind fun t171 => (letJ (α := Bool → Option Bool) (fun (x213 : Bool) => (bif x213 then ((input_Same.m K t171.1 (⟨0, 0, []⟩ : api_In)).bind fun t220 => bif t220 then ((api_Where.m t171.2).bind fun t229 => (if t229 ≥ 0 then ((api_Where.m t171.2).bind fun t239 => (some (decide (t239 ≤ (x1.length : Int))))) else (some false))) else (some false)) else ((shutterlaw09_size.m x2).bind fun t247 => ((input_Write.m K t171.1 t247).bind fun t253 => (if t253.2 = GoErr.nil then ((shutterref01_Same.m K t253.1 x1).bind fun t277 => bif t277 then ((shutterlaw09_size.m x2).bind fun t284 => ((input_Right.m K t171.1 t284).bind fun t291 => (if t291 = GoErr.nil then (some true) else (some false)))) else (some false)) else (some false)))))) fun (j219 : Bool → Option Bool) => (if t171.2 = GoErr.nil then (j219 false) else (j219 true))))) fun (j164 : Option Bool) => (letJ (α := Bool → Option Bool) (fun (x78 : Bool) => (bif x78 then ((shutterlaw09_size.m x2).bind fun t83 => ((input_Read.m K t52.1 t83).bind fun t89 => (if t89.2 = GoErr.nil then ((input_Same.m K t89.1 x0).bind fun t136 => bif t136 then ((shutterref09_Same.m K t89.1 x0).bind fun t148 => bif t148 then j164 else (some false)) else (some false)) else (some false)))) else j164)) fun (j82 : Bool → Option Bool) => (if t52.2 = GoErr.nil then (j82 true) else (j82 false))))))) else ((shutterlaw09_awake.m K).bind fun t307 => (some t307))) else ((shutterlaw09_awake.m K).bind fun t316 => (some t316)))

set_option maxRecDepth 100000 in
theorem shutterlaw09_InputBack.calls {I : Gh} {h : Heap} {K : Nat} {x0 : api_In} {a1 : Option Addr} {c2 : Nat} {x1 : List Int} {a5 : Option Addr} {c6 : Nat} {x2 : Int} (hB : Bd I h) (hG : Glob I h) (r4 : Rd t_api_Entry I h a1 c2 x0.Fields) (r8 : Rd (tInt .u8) I h a5 c6 x1) {r : Bool}
    (H : shutterlaw09_InputBack.m K x0 x1 x2 = some r) :
    Ret Tryd.prog 10 #[.agg #[.int .u8 x0.Aid, .int .i64 x0.Cursor, .slice a1 x0.Fields.length c2], .slice a5 x1.length c6, .int .u16 x2] h (fun v h' => ∃ (I' : Gh), .bool r = v ∧ Pst No I h I' h') := by
  unfold shutterlaw09_InputBack.m at H
  refine ret_of (args := [.agg #[.int .u8 x0.Aid, .int .i64 x0.Cursor, .slice a1 x0.Fields.length c2], .slice a5 x1.length c6, .int .u16 x2]) (rs := [.tmp 6]) (N := 103) Tryd.func10 rfl rfl rfl (Nat.le_of_ble_eq_true rfl) ?_
  have pt0 : Pst No I h I h := Pst.refl hB
  refine cwp_seq ?_
  refine cwp_region ?_
  refine lwp_op (by kernel_rfl) (owp_box [.int .u8 x0.Aid, .int .i64 x0.Cursor, .slice a1 x0.Fields.length c2] hB (by kernel_rfl) ?_)
  intro b9 h10 hc11 p12 o13
  have pt14 := pt0.no p12
  have fr15 : No b9 ∨ h.size ≤ b9 := .inr (Nat.le_trans pt0.size hc11)
  refine lwp_run 1 (by kernel_rfl) ?_
  refine lwp_nil ?_
  refine cwp_seq ?_
  refine cwp_seq ?_
  refine cwp_region ?_
  obtain ⟨t16, m17, H⟩ := bind_some H
  have f18 := hG.up (p12.up hB (fun _ x => x.elim))
  refine lwp_op (by kernel_rfl) (owp_callF (by kernel_rfl) (shutterlaw09_awake.calls (I := I) p12.bd f18 m17) ?_)
  rintro v19 h20 ⟨I21, rfl, p22⟩
  have pt23 := pt14.no p22
  cases t16
  · rw [cond_false] at H
    refine lwp_run 11 (by kernel_rfl) ?_
    refine lwp_nil ?_
    refine cwp_true (by kernel_rfl) ?_
    refine cwp_seq ?_
    refine cwp_region ?_
    obtain ⟨t316, m317, H⟩ := bind_some H
    have f318 := f18.up (p22.up p12.bd (fun _ x => x.elim))
    refine lwp_op (by kernel_rfl) (owp_callF (by kernel_rfl) (shutterlaw09_awake.calls (I := I21) p22.bd f318 m317) ?_)
    rintro v319 h320 ⟨I321, rfl, p322⟩
    have pt323 := pt23.no p322
    refine lwp_run 1 (by kernel_rfl) ?_
    refine lwp_nil ?_
    refine cwp_ret ?_
    obtain rfl := Option.some.inj H
    show Exists _
    exact ⟨.bool t316, by kernel_rfl, I321, rfl, pt323⟩
  · rw [cond_true] at H
    refine lwp_run 2 (by kernel_rfl) ?_
    have f24 := o13.post p22 (fun x => x.elim)
    refine lwp_op (by kernel_rfl) (owp_loadN (by kernel_rfl) (by kernel_rfl) (by kernel_rfl) (f24.seg_ 0 3 (Nat.le_of_ble_eq_true rfl)) ?_)
    have f25 := r4.up (p12.up hB (fun _ x => x.elim))
    have f26 := f25.up (p22.up p12.bd (fun _ x => x.elim))
    obtain ⟨t27, m28, H⟩ := bind_some H
    refine lwp_op (by kernel_rfl) (owp_callF (by kernel_rfl) (shutterref09_Few.calls (I := I21) p22.bd f26 m28) ?_)
    rintro v29 h30 ⟨I31, rfl, p32⟩
    have pt33 := pt23.no p32
    cases t27
    · rw [cond_false] at H
      refine lwp_run 7 (by kernel_rfl) ?_
      refine lwp_nil ?_
      refine cwp_true (by kernel_rfl) ?_
      refine cwp_seq ?_
      refine cwp_region ?_
      obtain ⟨t307, m308, H⟩ := bind_some H
      have f309 := f18.up (p22.up p12.bd (fun _ x => x.elim))
      have f310 := f309.up (p32.up p22.bd (fun _ x => x.elim))
      refine lwp_op (by kernel_rfl) (owp_callF (by kernel_rfl) (shutterlaw09_awake.calls (I := I31) p32.bd f310 m308) ?_)
      rintro v311 h312 ⟨I313, rfl, p314⟩
      have pt315 := pt33.no p314
      refine lwp_run 1 (by kernel_rfl) ?_
      refine lwp_nil ?_
      refine cwp_ret ?_
      obtain rfl := Option.some.inj H
      show Exists _
      exact ⟨.bool t307, by kernel_rfl, I313, rfl, pt315⟩
    · rw [cond_true] at H
      refine lwp_run 5 (by kernel_rfl) ?_
      by_cases c34 : (x1.length : Int) > 9000
      · rw [if_pos c34] at H
        refine lwp_op (by kernel_rfl) (owp_pure ((.bool true)) (pr_bool (by kernel_rfl) (decide_eq_true c34)) ?_)
        refine lwp_run 1 (by kernel_rfl) ?_
        refine lwp_nil ?_
        refine cwp_true (by kernel_rfl) ?_
        refine cwp_seq ?_
        refine cwp_region ?_
        obtain ⟨t35, m36, H⟩ := bind_some H
        have f37 := f18.up (p22.up p12.bd (fun _ x => x.elim))
        have f38 := f37.up (p32.up p22.bd (fun _ x => x.elim))
        refine lwp_op (by kernel_rfl) (owp_callF (by kernel_rfl) (shutterlaw09_awake.calls (I := I31) p32.bd f38 m36) ?_)
        rintro v39 h40 ⟨I41, rfl, p42⟩
        have pt43 := pt33.no p42
        refine lwp_run 1 (by kernel_rfl) ?_
        refine lwp_nil ?_
        refine cwp_ret ?_
        obtain rfl := Option.some.inj H
        show Exists _
        exact ⟨.bool t35, by kernel_rfl, I41, rfl, pt43⟩
      · rw [if_neg c34] at H
        refine lwp_op (by kernel_rfl) (owp_pure ((.bool false)) (pr_bool (by kernel_rfl) (decide_eq_false c34)) ?_)
        refine lwp_run 1 (by kernel_rfl) ?_
        refine lwp_nil ?_
        refine cwp_false (by kernel_rfl) ?_
        refine cwp_skip ?_
        refine cwp_seq ?_
        refine cwp_regionD (Keep No h30) 9 (by kernel_rfl) ?_
        have f44 := f24.post p32 (fun x => x.elim)
        refine awp_loadN 0 rfl (by kernel_rfl) (by kernel_rfl) (by kernel_rfl) (by kernel_rfl) (by kernel_rfl) Keep.refl (f44.seg_ 0 3 (Nat.le_of_ble_eq_true rfl)) (fun _ _ x => x.elim) ?_
        refine awp_run (fuel := 7) [1] Keep.refl (by kernel_rfl) ?_
        obtain ⟨t45, m46, H⟩ := bind_some H
        refine awp_op 2 (by kernel_rfl) rfl (by kernel_rfl) (owp_callF (by kernel_rfl) (shutterlaw09_size.calls (I := I31) p32.bd m46) ?_)
        rintro v47 h48 ⟨_, rfl, rfl⟩
        refine ⟨Keep.refl, ?_⟩
        have f51 := f26.up (p32.up p22.bd (fun _ x => x.elim))
        obtain ⟨t52, m53, H⟩ := bind_some H
        refine awp_op 3 (by kernel_rfl) rfl (by kernel_rfl) (owp_callF (by kernel_rfl) (input_Write.calls (I := I31) (B := I31) p32.bd p32.bd (Rd.mono (I' := Or2 I31 I31) f51 (fun _ x => Or.inr x)) m53) ?_)
        rintro v54 h55 ⟨I56, a58, c59, v63, rfl, p57, r61, fr62, q65⟩
        have pt66 := pt33.no p57
        have fr67 := nw_step (M := No) (n := h.size) (fun _ x => x.elim) fr62 pt33.size
        have d68 := step_blk fr62 f44.lt (fun x => x.elim)
        have hK69 := Keep.post (M := No) Keep.refl (Nat.le_refl _) p57 (fun _ x => x.elim)
        refine ⟨hK69, ?_⟩
        refine awp_run (fuel := 0) [4, 5, 6, 7, 8] hK69 (by kernel_rfl) ?_
        refine awp_nil (by kernel_rfl) ?_ 0
        obtain ⟨j164, e306, H⟩ := letJ_some H
        refine cwp_join (fun ρ' h157 => ∃ (I158 : Gh), j164 = some r ∧ Fits [(1, .slice a5 x1.length c6), (2, .int .u16 x2)] ρ' ∧ Pst No I h I158 h157 ∧ Rd (tInt .u8) I158 h157 a5 c6 x1 ∧ Rd t_api_Entry I158 h157 a1 c2 x0.Fields ∧ OwnB I158 h157 b9 [.int .u8 x0.Aid, .int .i64 x0.Cursor, .slice a1 x0.Fields.length c2] 51 ∧ Glob I158 h157) ?_ ?_
        · obtain ⟨j82, e156, H⟩ := letJ_some H
          refine cwp_join (fun ρ' h73 => ∃ (x78 : Bool) (I74 : Gh), j82 x78 = some r ∧ Fits [(1, .slice a5 x1.length c6), (2, .int .u16 x2), (3, .pointer (some ⟨b9, 0, none⟩)), (7, .slice a58 t52.1.length c59), (36, .bool x78)] ρ' ∧ Pst No I h I74 h73 ∧ Rd (tInt .u8) I74 h73 a5 c6 x1 ∧ OwnX (tInt .u8) I74 I74 h73 a58 c59 t52.1 ∧ Rd t_api_Entry I74 h73 a1 c2 x0.Fields ∧ OwnB I74 h73 b9 [.int .u8 x0.Aid, .int .i64 x0.Cursor, .slice a1 x0.Fields.length c2] 51 ∧ Glob I74 h73) ?_ ?_
          · refine cwp_region ?_
            refine lwp_run 1 (by kernel_rfl) ?_
            rcases q65.cases with ⟨c70, rfl⟩ | ⟨c70, t71, u72, rfl⟩
            · rw [if_pos c70] at H
              refine lwp_run 1 (by kernel_rfl) ?_
              refine lwp_nil ?_
              have f100087 := r8.up (p12.up hB (fun _ x => x.elim))
              have f100088 := f100087.up (p22.up p12.bd (fun _ x => x.elim))
              have f100089 := f100088.up (p32.up p22.bd (fun _ x => x.elim))
              have f100090 := f100089.up (p57.up p32.bd (fun _ x => x.elim))
              have f100091 := f51.up (p57.up p32.bd (fun _ x => x.elim))
              have f100092 := f44.post p57 (fun x => x.elim)
              have f100093 := f18.up (p22.up p12.bd (fun _ x => x.elim))
              have f100094 := f100093.up (p32.up p22.bd (fun _ x => x.elim))
              have f100095 := f100094.up (p57.up p32.bd (fun _ x => x.elim))
              exact ⟨true, I56, H, ⟨by kernel_rfl, by kernel_rfl, by kernel_rfl, by kernel_rfl, by kernel_rfl, trivial⟩, pt66, f100090, r61, f100091, f100092, f100095⟩
            · rw [if_neg c70] at H
              refine lwp_run 1 (by kernel_rfl) ?_
              refine lwp_nil ?_
              have f100096 := r8.up (p12.up hB (fun _ x => x.elim))
              have f100097 := f100096.up (p22.up p12.bd (fun _ x => x.elim))
              have f100098 := f100097.up (p32.up p22.bd (fun _ x => x.elim))
              have f100099 := f100098.up (p57.up p32.bd (fun _ x => x.elim))
              have f100100 := f51.up (p57.up p32.bd (fun _ x => x.elim))
              have f100101 := f44.post p57 (fun x => x.elim)
              have f100102 := f18.up (p22.up p12.bd (fun _ x => x.elim))
              have f100103 := f100102.up (p32.up p22.bd (fun _ x => x.elim))
              have f100104 := f100103.up (p57.up p32.bd (fun _ x => x.elim))
              exact ⟨false, I56, H, ⟨by kernel_rfl, by kernel_rfl, by kernel_rfl, by kernel_rfl, by kernel_rfl, trivial⟩, pt66, f100099, r61, f100100, f100101, f100104⟩
          · clear H
            rintro ρ' h73 ⟨x78, I74, H, hf, pt75, r76, r77, r79, o80, g81⟩
            refine cwp_fits _ hf ?_
            subst e156
            try dsimp only at H
            cases x78
            · rw [cond_false] at H
              refine cwp_false (by kernel_rfl) ?_
              refine cwp_skip ?_
              exact ⟨I74, H, ⟨by kernel_rfl, by kernel_rfl, trivial⟩, pt75, r76, r79, o80, g81⟩
            · rw [cond_true] at H
              refine cwp_true (by kernel_rfl) ?_
              refine cwp_seq ?_
              refine cwp_region ?_
              refine lwp_run 2 (by kernel_rfl) ?_
              obtain ⟨t83, m84, H⟩ := bind_some H
              refine lwp_op (by kernel_rfl) (owp_callF (by kernel_rfl) (shutterlaw09_size.calls (I := I74) pt75.bd m84) ?_)
              rintro v85 h86 ⟨_, rfl, rfl⟩
              obtain ⟨t89, m90, H⟩ := bind_some H
              refine lwp_op (by kernel_rfl) (owp_callF (by kernel_rfl) (input_Read.calls (I := I74) (B := (Fz I74 a58)) pt75.bd (bd_fz r77 pt75.bd) g81 (Rd.mono (I' := Or2 I74 (Fz I74 a58)) r77.rd (fun _ x => Or.inr x)) m90) ?_)
              rintro v91 h92 ⟨I93, a95, c96, v100, rfl, p94, r98, fr99, q102⟩
              have pt103 := pt75.no p94
              have fr104 := nw_step (M := No) (n := h.size) (fun _ x => x.elim) fr99 pt75.size
              have d105 := step_blk fr99 o80.lt (fun x => x.elim)
              have d106 := step_sl fr99 r77.lt (fun _ _ x => x.elim)
              refine lwp_run 3 (by kernel_rfl) ?_
              refine lwp_op (by kernel_rfl) (owp_alloc [.int .u8 0, .int .i64 0, .slice none 0 0] (.agg #[.int .u8 0, .int .i64 0, .slice none 0 0]) p94.bd (by kernel_rfl) (by kernel_rfl) ?_)
              intro b107 h108 hc109 p110 o111
              have pt112 := pt103.no p110
              have fr113 : No b107 ∨ h.size ≤ b107 := .inr (Nat.le_trans pt103.size hc109)
              have f114 := o80.post p94 (fun x => x.elim)
              have d115 := ne_new f114.lt hc109
              have f116 := r77.post pt75.bd p94 (fun _ x => x.elim) (fun _ _ x => x.elim)
              have d117 := notIn_new f116.lt hc109
              have d118 := notIn_new r98.lt hc109
              refine lwp_op (by kernel_rfl) (owp_storeN 0 [.int .u8 t89.1.Aid, .int .i64 t89.1.Cursor, .slice a95 t89.1.Fields.length c96] p110.bd o111 (by kernel_rfl) (by kernel_rfl) (by simp [Value.oneCell']) (by kernel_rfl) (Nat.le_of_ble_eq_true rfl) ?_)
              intro h119 p120 o121
              have pt122 := pt112.own p120 (one_nw fr113)
              refine lwp_run 1 (by kernel_rfl) ?_
              refine lwp_nil ?_
              refine cwp_seq ?_
              refine cwp_region ?_
              refine lwp_run 1 (by kernel_rfl) ?_
              have f123 := ErrV.up (p110.up p94.bd (fun _ x => x.elim)) q102
              have f124 := ErrV.up (p120.up p110.bd (one_not o111.no)) f123
              rcases f124.cases with ⟨c125, rfl⟩ | ⟨c125, t126, u127, rfl⟩
              · rw [if_pos c125] at H
                refine lwp_run 2 (by kernel_rfl) ?_
                refine lwp_op (by kernel_rfl) (owp_loadN (by kernel_rfl) (by kernel_rfl) (by kernel_rfl) (o121.seg_ 0 3 (Nat.le_of_ble_eq_true rfl)) ?_)
                have f128 := o80.post p94 (fun x => x.elim)
                have f129 := f128.post p110 (fun x => x.elim)
                have f130 := f129.post p120 (fun e => d115 e.symm)
                refine lwp_op (by kernel_rfl) (owp_loadN (by kernel_rfl) (by kernel_rfl) (by kernel_rfl) (f130.seg_ 0 3 (Nat.le_of_ble_eq_true rfl)) ?_)
                have f131 := r98.post p94.bd p110 (fun _ x => x.elim) (fun _ _ x => x.elim)
                have f132 := f131.post p110.bd p120 (one_not o111.no) (dis_one d118)
                have f133 := r79.up (p94.up pt75.bd (fun _ x => x.elim))
                have f134 := f133.up (p110.up p94.bd (fun _ x => x.elim))
                have f135 := f134.up (p120.up p110.bd (one_not o111.no))
                obtain ⟨t136, m137, H⟩ := bind_some H
                refine lwp_op (by kernel_rfl) (owp_callF (by kernel_rfl) (input_Same.calls (I := (Fz I93 a95)) (bd_fz f132 p120.bd) f132.rd (Rd.mono (I' := (Fz I93 a95)) f135 (fun _ x => (Or.inl x))) m137) ?_)
                rintro v138 h139 ⟨I140, rfl, p141⟩
                have p142 := Pst.forget p141 p120.bd
                have pt143 := pt122.no p142
                cases t136
                · rw [cond_false] at H
                  refine lwp_run 8 (by kernel_rfl) ?_
                  refine lwp_nil ?_
                  refine cwp_true (by kernel_rfl) ?_
                  refine cwp_seq ?_
                  refine cwp_region ?_
                  refine lwp_run 1 (by kernel_rfl) ?_
                  refine lwp_nil ?_
                  refine cwp_ret ?_
                  obtain rfl := Option.some.inj H
                  show Exists _
                  exact ⟨.bool false, by kernel_rfl, I93, rfl, pt143⟩
                · rw [cond_true] at H
                  refine lwp_run 3 (by kernel_rfl) ?_
                  have f144 := o121.post p142 (fun x => x.elim)
                  refine lwp_op (by kernel_rfl) (owp_loadN (by kernel_rfl) (by kernel_rfl) (by kernel_rfl) (f144.seg_ 0 3 (Nat.le_of_ble_eq_true rfl)) ?_)
                  have f145 := f130.post p142 (fun x => x.elim)
                  refine lwp_op (by kernel_rfl) (owp_loadN (by kernel_rfl) (by kernel_rfl) (by kernel_rfl) (f145.seg_ 0 3 (Nat.le_of_ble_eq_true rfl)) ?_)
                  have f146 := f132.post p120.bd p142 (fun _ x => x.elim) (fun _ _ x => x.elim)
                  have f147 := f135.up (p142.up p120.bd (fun _ x => x.elim))
                  obtain ⟨t148, m149, H⟩ := bind_some H
                  refine lwp_op (by kernel_rfl) (owp_callF (by kernel_rfl) (shutterref09_Same.calls (I := (Fz I93 a95)) (bd_fz f146 p142.bd) f146.rd (Rd.mono (I' := (Fz I93 a95)) f147 (fun _ x => (Or.inl x))) m149) ?_)
                  rintro v150 h151 ⟨I152, rfl, p153⟩
                  have p154 := Pst.forget p153 p142.bd
                  have pt155 := pt143.no p154
                  cases t148
                  · rw [cond_false] at H
                    refine lwp_run 2 (by kernel_rfl) ?_
                    refine lwp_nil ?_
                    refine cwp_true (by kernel_rfl) ?_
                    refine cwp_seq ?_
                    refine cwp_region ?_
                    refine lwp_run 1 (by kernel_rfl) ?_
                    refine lwp_nil ?_
                    refine cwp_ret ?_
                    obtain rfl := Option.some.inj H
                    show Exists _
                    exact ⟨.bool false, by kernel_rfl, I93, rfl, pt155⟩
                  · rw [cond_true] at H
                    refine lwp_run 2 (by kernel_rfl) ?_
                    refine lwp_nil ?_
                    refine cwp_false (by kernel_rfl) ?_
                    refine cwp_skip ?_
                    have f100075 := r76.up (p94.up pt75.bd (fun _ x => x.elim))
                    have f100076 := f100075.up (p110.up p94.bd (fun _ x => x.elim))
                    have f100077 := f100076.up (p120.up p110.bd (one_not o111.no))
                    have f100078 := f100077.up (p142.up p120.bd (fun _ x => x.elim))
                    have f100079 := f100078.up (p154.up p142.bd (fun _ x => x.elim))
                    have f100080 := f147.up (p154.up p142.bd (fun _ x => x.elim))
                    have f100081 := f145.post p154 (fun x => x.elim)
                    have f100082 := g81.up (p94.up pt75.bd (fun _ x => x.elim))
                    have f100083 := f100082.up (p110.up p94.bd (fun _ x => x.elim))
                    have f100084 := f100083.up (p120.up p110.bd (one_not o111.no))
                    have f100085 := f100084.up (p142.up p120.bd (fun _ x => x.elim))
                    have f100086 := f100085.up (p154.up p142.bd (fun _ x => x.elim))
                    exact ⟨I93, H, ⟨by kernel_rfl, by kernel_rfl, trivial⟩, pt155, f100079, f100080, f100081, f100086⟩
              · rw [if_neg c125] at H
                refine lwp_run 13 (by kernel_rfl) ?_
                refine lwp_nil ?_
                refine cwp_true (by kernel_rfl) ?_
                refine cwp_seq ?_
                refine cwp_region ?_
                refine lwp_run 1 (by kernel_rfl) ?_
                refine lwp_nil ?_
                refine cwp_ret ?_
                obtain rfl := Option.some.inj H
                show Exists _
                exact ⟨.bool false, by kernel_rfl, I93, rfl, pt122⟩
        · clear H
          rintro ρ' h157 ⟨I158, H, hf, pt159, r160, r161, o162, g163⟩
          refine cwp_fits _ hf ?_
          subst e306
          try dsimp only at H
          refine cwp_seq ?_
          refine cwp_region ?_
          refine lwp_run 2 (by kernel_rfl) ?_
          obtain ⟨t165, m166, H⟩ := bind_some H
          refine lwp_op (by kernel_rfl) (owp_callF (by kernel_rfl) (shutterlaw09_size.calls (I := I158) pt159.bd m166) ?_)
          rintro v167 h168 ⟨_, rfl, rfl⟩
          obtain ⟨t171, m172, H⟩ := bind_some H
          refine lwp_op (by kernel_rfl) (owp_callF (by kernel_rfl) (input_Read.calls (I := I158) (B := I158) pt159.bd pt159.bd g163 (Rd.mono (I' := Or2 I158 I158) r160 (fun _ x => Or.inr x)) m172) ?_)
          rintro v173 h174 ⟨I175, a177, c178, v182, rfl, p176, r180, fr181, q184⟩
          have pt185 := pt159.no p176
          have fr186 := nw_step (M := No) (n := h.size) (fun _ x => x.elim) fr181 pt159.size
          have d187 := step_blk fr181 o162.lt (fun x => x.elim)
          refine lwp_run 3 (by kernel_rfl) ?_
          refine lwp_op (by kernel_rfl) (owp_alloc [.int .u8 0, .int .i64 0, .slice none 0 0] (.agg #[.int .u8 0, .int .i64 0, .slice none 0 0]) p176.bd (by kernel_rfl) (by kernel_rfl) ?_)
          intro b188 h189 hc190 p191 o192
          have pt193 := pt185.no p191
          have fr194 : No b188 ∨ h.size ≤ b188 := .inr (Nat.le_trans pt185.size hc190)
          have f195 := o162.post p176 (fun x => x.elim)
          have d196 := ne_new f195.lt hc190
          have d197 := notIn_new r180.lt hc190
          refine lwp_op (by kernel_rfl) (owp_storeN 0 [.int .u8 t171.1.Aid, .int .i64 t171.1.Cursor, .slice a177 t171.1.Fields.length c178] p191.bd o192 (by kernel_rfl) (by kernel_rfl) (by simp [Value.oneCell']) (by kernel_rfl) (Nat.le_of_ble_eq_true rfl) ?_)
          intro h198 p199 o200
          have pt201 := pt193.own p199 (one_nw fr194)
          refine lwp_run 1 (by kernel_rfl) ?_
          refine lwp_nil ?_
          refine cwp_seq ?_
          obtain ⟨j219, e305, H⟩ := letJ_some H
          refine cwp_join (fun ρ' h207 => ∃ (x213 : Bool) (v212 : Value) (I208 : Gh), j219 x213 = some r ∧ Fits [(1, .slice a5 x1.length c6), (2, .int .u16 x2), (11, .pointer (some ⟨b188, 0, none⟩)), (12, v212), (66, .bool x213)] ρ' ∧ Pst No I h I208 h207 ∧ Rd (tInt .u8) I208 h207 a5 c6 x1 ∧ ErrV I208 h207 t171.2 v212 ∧ Rd t_api_Entry I208 h207 a1 c2 x0.Fields ∧ OwnB I208 h207 b9 [.int .u8 x0.Aid, .int .i64 x0.Cursor, .slice a1 x0.Fields.length c2] 51 ∧ OwnX t_api_Entry I208 I208 h207 a177 c178 t171.1.Fields ∧ OwnB I208 h207 b188 [.int .u8 t171.1.Aid, .int .i64 t171.1.Cursor, .slice a177 t171.1.Fields.length c178] 51 ∧ Glob I208 h207) ?_ ?_
          · refine cwp_region ?_
            refine lwp_run 1 (by kernel_rfl) ?_
            have f202 := ErrV.up (p191.up p176.bd (fun _ x => x.elim)) q184
            have f203 := ErrV.up (p199.up p191.bd (one_not o192.no)) f202
            rcases f203.cases with ⟨c204, rfl⟩ | ⟨c204, t205, u206, rfl⟩
            · rw [if_pos c204] at H
              refine lwp_run 1 (by kernel_rfl) ?_
              refine lwp_nil ?_
              have f100047 := r160.up (p176.up pt159.bd (fun _ x => x.elim))
              have f100048 := f100047.up (p191.up p176.bd (fun _ x => x.elim))
              have f100049 := f100048.up (p199.up p191.bd (one_not o192.no))
              have f100050 := r161.up (p176.up pt159.bd (fun _ x => x.elim))
              have f100051 := f100050.up (p191.up p176.bd (fun _ x => x.elim))
              have f100052 := f100051.up (p199.up p191.bd (one_not o192.no))
              have f100053 := o162.post p176 (fun x => x.elim)
              have f100054 := f100053.post p191 (fun x => x.elim)
              have f100055 := f100054.post p199 (fun e => d196 e.symm)
              have f100056 := r180.post p176.bd p191 (fun _ x => x.elim) (fun _ _ x => x.elim)
              have f100057 := f100056.post p191.bd p199 (one_not o192.no) (dis_one d197)
              have f100058 := g163.up (p176.up pt159.bd (fun _ x => x.elim))
              have f100059 := f100058.up (p191.up p176.bd (fun _ x => x.elim))
              have f100060 := f100059.up (p199.up p191.bd (one_not o192.no))
              exact ⟨false, .nilIface, I175, H, ⟨by kernel_rfl, by kernel_rfl, by kernel_rfl, by kernel_rfl, by kernel_rfl, trivial⟩, pt201, f100049, f203, f100052, f100055, f100057, o200, f100060⟩
            · rw [if_neg c204] at H
              refine lwp_run 1 (by kernel_rfl) ?_
              refine lwp_nil ?_
              have f100061 := r160.up (p176.up pt159.bd (fun _ x => x.elim))
              have f100062 := f100061.up (p191.up p176.bd (fun _ x => x.elim))
              have f100063 := f100062.up (p199.up p191.bd (one_not o192.no))
              have f100064 := r161.up (p176.up pt159.bd (fun _ x => x.elim))
              have f100065 := f100064.up (p191.up p176.bd (fun _ x => x.elim))
              have f100066 := f100065.up (p199.up p191.bd (one_not o192.no))
              have f100067 := o162.post p176 (fun x => x.elim)
              have f100068 := f100067.post p191 (fun x => x.elim)
              have f100069 := f100068.post p199 (fun e => d196 e.symm)
              have f100070 := r180.post p176.bd p191 (fun _ x => x.elim) (fun _ _ x => x.elim)
              have f100071 := f100070.post p191.bd p199 (one_not o192.no) (dis_one d197)
              have f100072 := g163.up (p176.up pt159.bd (fun _ x => x.elim))
              have f100073 := f100072.up (p191.up p176.bd (fun _ x => x.elim))
              have f100074 := f100073.up (p199.up p191.bd (one_not o192.no))
              exact ⟨true, (.iface t205 u206), I175, H, ⟨by kernel_rfl, by kernel_rfl, by kernel_rfl, by kernel_rfl, by kernel_rfl, trivial⟩, pt201, f100063, f203, f100066, f100069, f100071, o200, f100074⟩
          · clear H
            rintro ρ' h207 ⟨x213, v212, I208, H, hf, pt209, r210, q211, r214, o215, r216, o217, g218⟩
            refine cwp_fits _ hf ?_
            subst e305
            try dsimp only at H
            cases x213
            · rw [cond_false] at H
              refine cwp_false (by kernel_rfl) ?_
              refine cwp_skip ?_
              refine cwp_seq ?_
              refine cwp_regionD (Keep No h207) 9 (by kernel_rfl) ?_
              refine awp_loadN 0 rfl (by kernel_rfl) (by kernel_rfl) (by kernel_rfl) (by kernel_rfl) (by kernel_rfl) Keep.refl (o217.seg_ 0 3 (Nat.le_of_ble_eq_true rfl)) (fun _ _ x => x.elim) ?_
              refine awp_run (fuel := 7) [1] Keep.refl (by kernel_rfl) ?_
              obtain ⟨t247, m248, H⟩ := bind_some H
              refine awp_op 2 (by kernel_rfl) rfl (by kernel_rfl) (owp_callF (by kernel_rfl) (shutterlaw09_size.calls (I := I208) pt209.bd m248) ?_)
              rintro v249 h250 ⟨_, rfl, rfl⟩
              refine ⟨Keep.refl, ?_⟩
              obtain ⟨t253, m254, H⟩ := bind_some H
              refine awp_op 3 (by kernel_rfl) rfl (by kernel_rfl) (owp_callF (by kernel_rfl) (input_Write.calls (I := I208) (B := (Fz I208 a177)) pt209.bd (bd_fz r216 pt209.bd) (Rd.mono (I' := Or2 I208 (Fz I208 a177)) r216.rd (fun _ x => Or.inr x)) m254) ?_)
              rintro v255 h256 ⟨I257, a259, c260, v264, rfl, p258, r262, fr263, q266⟩
              have pt267 := pt209.no p258
              have fr268 := nw_step (M := No) (n := h.size) (fun _ x => x.elim) fr263 pt209.size
              have d269 := step_blk fr263 o215.lt (fun x => x.elim)
              have d270 := step_blk fr263 o217.lt (fun x => x.elim)
              have d271 := step_sl fr263 r216.lt (fun _ _ x => x.elim)
              have hK272 := Keep.post (M := No) Keep.refl (Nat.le_refl _) p258 (fun _ x => x.elim)
              refine ⟨hK272, ?_⟩
              refine awp_run (fuel := 0) [4, 5, 6, 7, 8] hK272 (by kernel_rfl) ?_
              refine awp_nil (by kernel_rfl) ?_ 0
              refine cwp_seq ?_
              refine cwp_regionD (Keep No h256) 15 (by kernel_rfl) ?_
              refine awp_run (fuel := 14) [0] Keep.refl (by kernel_rfl) ?_
              rcases q266.cases with ⟨c273, rfl⟩ | ⟨c273, t274, u275, rfl⟩
              · rw [if_pos c273] at H
                refine awp_run (fuel := 10) [1, 2, 3, 4] Keep.refl (by kernel_rfl) ?_
                have f276 := r210.up (p258.up pt209.bd (fun _ x => x.elim))
                obtain ⟨t277, m278, H⟩ := bind_some H
                refine awp_op 5 (by kernel_rfl) rfl (by kernel_rfl) (owp_callF (by kernel_rfl) (shutterref01_Same.calls (I := (Fz I257 a259)) (bd_fz r262 p258.bd) r262.rd (Rd.mono (I' := (Fz I257 a259)) f276 (fun _ x => (Or.inl x))) m278) ?_)
                rintro v279 h280 ⟨_, rfl, rfl⟩
                refine ⟨Keep.refl, ?_⟩
                cases t277
                · rw [cond_false] at H
                  refine awp_run (fuel := 0) [6, 7, 8, 9, 10, 11, 12, 13, 14] Keep.refl (by kernel_rfl) ?_
                  refine awp_nil (by kernel_rfl) ?_ 0
                  refine cwp_ret ?_
                  obtain rfl := Option.some.inj H
                  show Exists _
                  exact ⟨.bool false, by kernel_rfl, I257, rfl, pt267⟩
                · rw [cond_true] at H
                  refine awp_run (fuel := 7) [6, 7] Keep.refl (by kernel_rfl) ?_
                  have f283 := o217.post p258 (fun x => x.elim)
                  refine awp_loadN 8 rfl (by kernel_rfl) (by kernel_rfl) (by kernel_rfl) (by kernel_rfl) (by kernel_rfl) Keep.refl (f283.seg_ 0 3 (Nat.le_of_ble_eq_true rfl)) (fun _ _ x => x.elim) ?_
                  refine awp_run (fuel := 5) [9] Keep.refl (by kernel_rfl) ?_
                  obtain ⟨t284, m285, H⟩ := bind_some H
                  refine awp_op 10 (by kernel_rfl) rfl (by kernel_rfl) (owp_callF (by kernel_rfl) (shutterlaw09_size.calls (I := I257) p258.bd m285) ?_)
                  rintro v286 h287 ⟨_, rfl, rfl⟩
                  refine ⟨Keep.refl, ?_⟩
                  have f290 := r216.post pt209.bd p258 (fun _ x => x.elim) (fun _ _ x => x.elim)
                  obtain ⟨t291, m292, H⟩ := bind_some H
                  refine awp_op 11 (by kernel_rfl) rfl (by kernel_rfl) (owp_callF (by kernel_rfl) (input_Right.calls (I := I257) (B := (Fz I257 a177)) p258.bd (bd_fz f290 p258.bd) (Rd.mono (I' := Or2 I257 (Fz I257 a177)) f290.rd (fun _ x => Or.inr x)) m292) ?_)
                  rintro v293 h294 ⟨I295, v297, rfl, p296, q299⟩
                  have pt300 := pt267.no p296
                  have hK301 := Keep.post (M := No) Keep.refl (Nat.le_refl _) p296 (fun _ x => x.elim)
                  refine ⟨hK301, ?_⟩
                  rcases q299.cases with ⟨c302, rfl⟩ | ⟨c302, t303, u304, rfl⟩
                  · rw [if_pos c302] at H
                    refine awp_run (fuel := 0) [12, 13, 14] hK301 (by kernel_rfl) ?_
                    refine awp_nil (by kernel_rfl) ?_ 0
                    refine cwp_ret ?_
                    obtain rfl := Option.some.inj H
                    show Exists _
                    exact ⟨.bool true, by kernel_rfl, I295, rfl, pt300⟩
                  · rw [if_neg c302] at H
                    refine awp_run (fuel := 0) [12, 13, 14] hK301 (by kernel_rfl) ?_
                    refine awp_nil (by kernel_rfl) ?_ 0
                    refine cwp_ret ?_
                    obtain rfl := Option.some.inj H
                    show Exists _
                    exact ⟨.bool false, by kernel_rfl, I295, rfl, pt300⟩
              · rw [if_neg c273] at H
                refine awp_run (fuel := 0) [1, 2, 3, 4, 5, 6, 7, 8, 9, 10, 11, 12, 13, 14] Keep.refl (by kernel_rfl) ?_
                refine awp_nil (by kernel_rfl) ?_ 0
                refine cwp_ret ?_
                obtain rfl := Option.some.inj H
                show Exists _
                exact ⟨.bool false, by kernel_rfl, I257, rfl, pt267⟩
            · rw [cond_true] at H
              refine cwp_true (by kernel_rfl) ?_
              refine cwp_seq ?_
              refine cwp_region ?_
              refine lwp_op (by kernel_rfl) (owp_loadN (by kernel_rfl) (by kernel_rfl) (by kernel_rfl) (o217.seg_ 0 3 (Nat.le_of_ble_eq_true rfl)) ?_)
              refine lwp_run 1 (by kernel_rfl) ?_
              obtain ⟨t220, m221, H⟩ := bind_some H
              refine lwp_op (by kernel_rfl) (owp_callF (by kernel_rfl) (input_Same.calls (I := (Fz I208 a177)) (bd_fz r216 pt209.bd) r216.rd (rd_nil t_api_Entry (Fz I208 a177) h207) m221) ?_)
              rintro v222 h223 ⟨I224, rfl, p225⟩
              have p226 := Pst.forget p225 pt209.bd
              have pt227 := pt209.no p226
              cases t220
              · rw [cond_false] at H
                refine lwp_run 13 (by kernel_rfl) ?_
                refine lwp_nil ?_
                refine cwp_ret ?_
                obtain rfl := Option.some.inj H
                show Exists _
                exact ⟨.bool false, by kernel_rfl, I208, rfl, pt227⟩
              · rw [cond_true] at H
                refine lwp_run 2 (by kernel_rfl) ?_
                have f228 := ErrV.up (p226.up pt209.bd (fun _ x => x.elim)) q211
                obtain ⟨t229, m230, H⟩ := bind_some H
                have f231 := g218.up (p226.up pt209.bd (fun _ x => x.elim))
                refine lwp_op (by kernel_rfl) (owp_callF (by kernel_rfl) (api_Where.calls (I := I208) p226.bd f231 f228 m230) ?_)
                rintro v232 h233 ⟨I234, rfl, p235⟩
                have pt236 := pt227.no p235
                by_cases c237 : t229 ≥ 0
                · rw [if_pos c237] at H
                  refine lwp_op (by kernel_rfl) (owp_pure ((.bool true)) (pr_bool (by kernel_rfl) (decide_eq_true c237)) ?_)
                  refine lwp_run 3 (by kernel_rfl) ?_
                  have f238 := ErrV.up (p235.up p226.bd (fun _ x => x.elim)) f228
                  obtain ⟨t239, m240, H⟩ := bind_some H
                  have f241 := f231.up (p235.up p226.bd (fun _ x => x.elim))
                  refine lwp_op (by kernel_rfl) (owp_callF (by kernel_rfl) (api_Where.calls (I := I234) p235.bd f241 f238 m240) ?_)
                  rintro v242 h243 ⟨I244, rfl, p245⟩
                  have pt246 := pt236.no p245
                  refine lwp_run 5 (by kernel_rfl) ?_
                  refine lwp_nil ?_
                  refine cwp_ret ?_
                  obtain rfl := Option.some.inj H
                  show Exists _
                  exact ⟨.bool (decide (t239 ≤ (x1.length : Int))), by kernel_rfl, I244, rfl, pt246⟩
                · rw [if_neg c237] at H
                  refine lwp_op (by kernel_rfl) (owp_pure ((.bool false)) (pr_bool (by kernel_rfl) (decide_eq_false c237)) ?_)
                  refine lwp_run 9 (by kernel_rfl) ?_
                  refine lwp_nil ?_
                  refine cwp_ret ?_
                  obtain rfl := Option.some.inj H
                  show Exists _
                  exact ⟨.bool false, by kernel_rfl, I234, rfl, pt236⟩

end Go.Proofs.YtlomgckbmdjmhaaDoor.Sx
