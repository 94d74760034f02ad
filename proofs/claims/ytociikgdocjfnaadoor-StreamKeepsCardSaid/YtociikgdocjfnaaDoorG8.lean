/- Printed walks, part 8: each function's model, and that the code comes to it. -/
import Derived.Test.YtociikgdocjfnaaDoorProg
import Derived.Test.YtociikgdocjfnaaDoorSx9
import Derived.Test.YtociikgdocjfnaaDoorG7
namespace Go.Proofs.YtociikgdocjfnaaDoor.Sx
open Go

/-! shutter/shutterref05.GetWcc -/
def shutterref05_GetWcc.l1.m (K : Nat) (x0 : Int) : Nat → Int → Option ((api_Wcc × Bool) ⊕ (Unit))
  | 0, _ => none
  | k + 1, x11 => (if x11 < 8 then ((shutterref05_PutWcc.m (⟨((Int.tmod x11 2) == 1), ((Int.tmod (w64 (Int.tdiv x11 2)) 2) == 1), ((w64 (Int.tdiv x11 4)) == 1)⟩ : api_Wcc)).bind fun t34 => (if t34 = x0 then (some (Sum.inl ((⟨((Int.tmod x11 2) == 1), ((Int.tmod (w64 (Int.tdiv x11 2)) 2) == 1), ((w64 (Int.tdiv x11 4)) == 1)⟩ : api_Wcc), true))) else (shutterref05_GetWcc.l1.m K x0 k (w64 (x11 + 1))))) else (some (Sum.inr ())))
def shutterref05_GetWcc.m (K : Nat) (x0 : Int) : Option (api_Wcc × Bool) :=
  ((shutterref05_GetWcc.l1.m K x0 K 0).bind fun s14 => match s14 with | .inl q => (some q) | .inr _ => (some ((⟨false, false, false⟩ : api_Wcc), false)))

set_option maxRecDepth 100000 in
theorem shutterref05_GetWcc.calls {I : Gh} {h : Heap} {K : Nat} {x0 : Int} (hB : Bd I h)  {r : (api_Wcc × Bool)}
    (H : shutterref05_GetWcc.m K x0 = some r) :
    Ret Tryd.prog 71 #[.int .u8 x0] h (fun v h' => ∃ (I' : Gh), .tuple #[.agg #[.bool r.1.Alarm, .bool r.1.Unlock, .bool r.1.Reset], .bool r.2] = v ∧ Pst No I h I' h') := by
  unfold shutterref05_GetWcc.m at H
  refine ret_of2 (args := [.int .u8 x0]) (rs := [.cell 2 51, .tmp 3]) (N := 27) Tryd.func71 rfl rfl rfl (Nat.le_of_ble_eq_true rfl) ?_
  have pt0 : Pst No I h I h := Pst.refl hB
  refine cwp_seq ?_
  refine cwp_region ?_
  refine lwp_op (by kernel_rfl) (owp_alloc [.bool false, .bool false, .bool false] (.agg #[.bool false, .bool false, .bool false]) hB (by kernel_rfl) (by kernel_rfl) ?_)
  intro b1 h2 hc3 p4 o5
  have pt6 := pt0.no p4
  have fr7 : No b1 ∨ h.size ≤ b1 := .inr (Nat.le_trans pt0.size hc3)
  refine lwp_run 1 (by kernel_rfl) ?_
  refine lwp_nil ?_
  refine cwp_seq ?_
  refine cwp_seq ?_
  refine cwp_region ?_
  refine lwp_run 1 (by kernel_rfl) ?_
  refine lwp_nil ?_
  refine cwp_block ?_
  obtain ⟨s14, m19, HR20⟩ := bind_some H
  refine cwp_loopE 0 (fun ρ' h15 => ∃ (I16 : Gh), Sum.inr () = s14 ∧ Fits [(2, .pointer (some ⟨b1, 0, none⟩))] ρ' ∧ Pst No I h I16 h15 ∧ OwnB I16 h15 b1 [.bool false, .bool false, .bool false] 51) ?_ ?_
  · refine cwp_loop (fun k' ρ' h8 => ∃ (x11 : Int) (I9 : Gh), shutterref05_GetWcc.l1.m K x0 k' x11 = some s14 ∧ Fits [(0, .int .u8 x0), (2, .pointer (some ⟨b1, 0, none⟩)), (4, .int .i64 x11)] ρ' ∧ Pst No I h I9 h8 ∧ OwnB I9 h8 b1 [.bool false, .bool false, .bool false] 51) K ⟨0, I, m19, ⟨by kernel_rfl, by kernel_rfl, by kernel_rfl, trivial⟩, pt6, o5⟩ ?_
    clear m19
    rintro k' ρ' h8 ⟨x11, I9, H, hf, pt10, o12⟩
    cases k' with
    | zero => cases H
    | succ k =>
      rw [shutterref05_GetWcc.l1.m] at H
      refine cwp_fits _ hf ?_
      refine cwp_seq ?_
      refine cwp_seq ?_
      refine cwp_region ?_
      refine lwp_run 1 (by kernel_rfl) ?_
      by_cases c21 : x11 < 8
      · rw [if_pos c21] at H
        refine lwp_op (by kernel_rfl) (owp_pure ((.bool true)) (pr_bool (by kernel_rfl) (decide_eq_true c21)) ?_)
        refine lwp_nil ?_
        refine cwp_true (by kernel_rfl) ?_
        refine cwp_skip ?_
        refine cwp_seq ?_
        refine cwp_block ?_
        refine cwp_seq ?_
        refine cwp_region ?_
        refine lwp_run 11 (by kernel_rfl) ?_
        refine lwp_op (by kernel_rfl) (owp_alloc [.bool false, .bool false, .bool false] (.agg #[.bool false, .bool false, .bool false]) pt10.bd (by kernel_rfl) (by kernel_rfl) ?_)
        intro b22 h23 hc24 p25 o26
        have pt27 := pt10.no p25
        have fr28 : No b22 ∨ h.size ≤ b22 := .inr (Nat.le_trans pt10.size hc24)
        have d29 := ne_new o12.lt hc24
        refine lwp_op (by kernel_rfl) (owp_storeN 0 [.bool ((Int.tmod x11 2) == 1), .bool ((Int.tmod (w64 (Int.tdiv x11 2)) 2) == 1), .bool ((w64 (Int.tdiv x11 4)) == 1)] p25.bd o26 (by kernel_rfl) (by kernel_rfl) (by simp [Value.oneCell']) (by kernel_rfl) (Nat.le_of_ble_eq_true rfl) ?_)
        intro h30 p31 o32
        have pt33 := pt27.own p31 (one_nw fr28)
        refine lwp_nil ?_
        refine cwp_seq ?_
        refine cwp_region ?_
        refine lwp_op (by kernel_rfl) (owp_loadN (by kernel_rfl) (by kernel_rfl) (by kernel_rfl) (o32.seg_ 0 3 (Nat.le_of_ble_eq_true rfl)) ?_)
        obtain ⟨t34, m35, H⟩ := bind_some H
        refine lwp_op (by kernel_rfl) (owp_callF (by kernel_rfl) (shutterref05_PutWcc.calls (I := I9) p31.bd m35) ?_)
        rintro v36 h37 ⟨I38, rfl, p39⟩
        have pt40 := pt33.no p39
        refine lwp_run 1 (by kernel_rfl) ?_
        by_cases c41 : t34 = x0
        · rw [if_pos c41] at H
          refine lwp_op (by kernel_rfl) (owp_pure ((.bool true)) (pr_bool (by kernel_rfl) (eqT c41)) ?_)
          refine lwp_nil ?_
          refine cwp_true (by kernel_rfl) ?_
          refine cwp_seq ?_
          refine cwp_region ?_
          have f42 := o32.post p39 (fun x => x.elim)
          refine lwp_op (by kernel_rfl) (owp_loadN (by kernel_rfl) (by kernel_rfl) (by kernel_rfl) (f42.seg_ 0 3 (Nat.le_of_ble_eq_true rfl)) ?_)
          have f43 := o12.post p25 (fun x => x.elim)
          have f44 := f43.post p31 (fun e => d29 e.symm)
          have f45 := f44.post p39 (fun x => x.elim)
          refine lwp_op (by kernel_rfl) (owp_storeN 0 [.bool ((Int.tmod x11 2) == 1), .bool ((Int.tmod (w64 (Int.tdiv x11 2)) 2) == 1), .bool ((w64 (Int.tdiv x11 4)) == 1)] p39.bd f45 (by kernel_rfl) (by kernel_rfl) (by simp [Value.oneCell']) (by kernel_rfl) (Nat.le_of_ble_eq_true rfl) ?_)
          intro h46 p47 o48
          have pt49 := pt40.own p47 (one_nw fr7)
          refine lwp_run 1 (by kernel_rfl) ?_
          refine lwp_nil ?_
          refine cwp_ret ?_
          obtain rfl := Option.some.inj H
          obtain rfl := Option.some.inj HR20
          show Exists _
          exact ⟨[.agg #[.bool ((Int.tmod x11 2) == 1), .bool ((Int.tmod (w64 (Int.tdiv x11 2)) 2) == 1), .bool ((w64 (Int.tdiv x11 4)) == 1)], .bool true], (.cons (.agg (by kernel_rfl) (by kernel_rfl) (by kernel_rfl) (o48.seg_ 0 3 (Nat.le_of_ble_eq_true rfl))) (.cons (.tmp (by kernel_rfl)) .nil)), I38, rfl, pt49⟩
        · rw [if_neg c41] at H
          refine lwp_op (by kernel_rfl) (owp_pure ((.bool false)) (pr_bool (by kernel_rfl) (eqF c41)) ?_)
          refine lwp_nil ?_
          refine cwp_false (by kernel_rfl) ?_
          refine cwp_skip ?_
          refine cwp_region ?_
          refine lwp_run 3 (by kernel_rfl) ?_
          refine lwp_nil ?_
          have f100001 := o12.post p25 (fun x => x.elim)
          have f100002 := f100001.post p31 (fun e => d29 e.symm)
          have f100003 := f100002.post p39 (fun x => x.elim)
          show Exists _
          exact ⟨k, Nat.lt_succ_self _, (w64 (x11 + 1)), I38, H, ⟨by kernel_rfl, by kernel_rfl, by kernel_rfl, trivial⟩, pt40, f100003⟩
      · rw [if_neg c21] at H
        refine lwp_op (by kernel_rfl) (owp_pure ((.bool false)) (pr_bool (by kernel_rfl) (decide_eq_false c21)) ?_)
        refine lwp_nil ?_
        refine cwp_false (by kernel_rfl) ?_
        refine cwp_exit ?_
        obtain rfl := Option.some.inj H
        show Exists _
        exact ⟨I9, rfl, ⟨by kernel_rfl, trivial⟩, pt10, o12⟩
  · rintro ρ' h15 ⟨I16, rfl, hf, pt17, o18⟩
    have H := HR20
    try dsimp only at H
    refine cwp_fits _ hf ?_
    refine cwp_seq ?_
    refine cwp_region ?_
    refine lwp_run 1 (by kernel_rfl) ?_
    refine lwp_op (by kernel_rfl) (owp_storeN 0 [.bool false, .bool false, .bool false] pt17.bd o18 (by kernel_rfl) (by kernel_rfl) (by simp [Value.oneCell']) (by kernel_rfl) (Nat.le_of_ble_eq_true rfl) ?_)
    intro h50 p51 o52
    have pt53 := pt17.own p51 (one_nw fr7)
    refine lwp_run 1 (by kernel_rfl) ?_
    refine lwp_nil ?_
    refine cwp_ret ?_
    obtain rfl := Option.some.inj H
    show Exists _
    exact ⟨[.agg #[.bool false, .bool false, .bool false], .bool false], (.cons (.agg (by kernel_rfl) (by kernel_rfl) (by kernel_rfl) (o52.seg_ 0 3 (Nat.le_of_ble_eq_true rfl))) (.cons (.tmp (by kernel_rfl)) .nil)), I16, rfl, pt53⟩

/-! shutter/shutterref08.Read -/
def shutterref08_Read.l1.m (K : Nat) (x0 : (List Int)) (x1 : Int) : Nat → Int → Int → Bool → Bool → Bool → (List api_Order) → Option ((api_Out × Int × Int) ⊕ (Int × Bool × Bool × Bool × (List api_Order)))
  | 0, _, _, _, _, _, _ => none
  | k + 1, x142, x145, x146, x147, x148, x149 => (if x142 < (x0.length : Int) then ((shutterref07_Get.m K x0 x142 x1).bind fun t183 => (if t183.2.2.1 = 0 then ((app x149 [t183.1]).bind fun l259 => (shutterref08_Read.l1.m K x0 x1 k t183.2.1 x145 x146 x147 x148 l259)) else (some (Sum.inl ((⟨0, (⟨false, false, false⟩ : api_Wcc), []⟩ : api_Out), t183.2.2.1, t183.2.2.2))))) else (some (Sum.inr (x145, x146, x147, x148, x149))))
def shutterref08_Read.m (K : Nat) (x0 : (List Int)) (x1 : Int) : Option (api_Out × Int × Int) :=
  (if (x0.length : Int) > 8192 then (some ((⟨0, (⟨false, false, false⟩ : api_Wcc), []⟩ : api_Out), 6, 8192)) else (if (x0.length : Int) = 0 then (some ((⟨0, (⟨false, false, false⟩ : api_Wcc), []⟩ : api_Out), 2, 0)) else (if 0 < (x0.length : Int) then ((shutterref08_Known.m (w64 ((at_ x0 0)))).bind fun t40 => bif t40 then (letJ (α := Bool → Option (api_Out × Int × Int)) (fun (x56 : Bool) => (bif x56 then (if (x0.length : Int) > 1 then (some ((⟨0, (⟨false, false, false⟩ : api_Wcc), []⟩ : api_Out), 1, 1)) else (some ((⟨(w64 ((at_ x0 0))), (⟨false, false, false⟩ : api_Wcc), []⟩ : api_Out), 0, (-1)))) else (if (x0.length : Int) = 1 then (some ((⟨0, (⟨false, false, false⟩ : api_Wcc), []⟩ : api_Out), 2, 1)) else (letJ (α := Bool → Bool → Bool → Bool → Option (api_Out × Int × Int)) (fun (x122 : Bool) (x123 : Bool) (x124 : Bool) (x127 : Bool) => (bif x127 then ((shutterref08_Read.l1.m K x0 x1 K 2 (w64 ((at_ x0 0))) x122 x123 x124 []).bind fun s160 => match s160 with | .inl q => (some q) | .inr (x166, x167, x168, x169, x170) => (some ((⟨x166, (⟨x167, x168, x169⟩ : api_Wcc), x170⟩ : api_Out), 0, (-1)))) else (some ((⟨0, (⟨false, false, false⟩ : api_Wcc), []⟩ : api_Out), 3, 1)))) fun (j132 : Bool → Bool → Bool → Bool → Option (api_Out × Int × Int)) => (if 1 < (x0.length : Int) then ((shutterref05_GetWcc.m K (at_ x0 1)).bind fun t79 => (bif t79.2 then (j132 t79.1.Alarm t79.1.Unlock t79.1.Reset true) else (j132 t79.1.Alarm t79.1.Unlock t79.1.Reset false))) else none))))) fun (j59 : Bool → Option (api_Out × Int × Int)) => ((shutterref08_Writes.m (w64 ((at_ x0 0)))).bind fun t46 => bif t46 then (j59 false) else (j59 true))) else (some ((⟨0, (⟨false, false, false⟩ : api_Wcc), []⟩ : api_Out), 5, 0))) else none)))

set_option maxRecDepth 100000 in
theorem shutterref08_Read.calls {I B : Gh} {h : Heap} {K : Nat} {x0 : List Int} {a1 : Option Addr} {c2 : Nat} {x1 : Int} (hB : Bd I h) (hBB : Bd B h) (r4 : Rd (tInt .u8) (Or2 I B) h a1 c2 x0) {r : (api_Out × Int × Int)}
    (H : shutterref08_Read.m K x0 x1 = some r) :
    Ret Tryd.prog 37 #[.slice a1 x0.length c2, .int .i64 x1] h (fun v h' => ∃ (I' : Gh) (a319 : Option Addr) (c320 : Nat), .tuple #[.agg #[.int .i64 r.1.Cmd, .bool r.1.Wcc.Alarm, .bool r.1.Wcc.Unlock, .bool r.1.Wcc.Reset, .slice a319 r.1.Orders.length c320], .int .i64 r.2.1, .int .i64 r.2.2] = v ∧ Pst No I h I' h' ∧ Own t_api_Order I' h' a319 c320 r.1.Orders ∧ (∀ b, InA a319 b → No b ∨ h.size ≤ b)) := by
  unfold shutterref08_Read.m at H
  refine ret_of2 (args := [.slice a1 x0.length c2, .int .i64 x1]) (rs := [.cell 4 54, .tmp 5, .tmp 6]) (N := 84) Tryd.func37 rfl rfl rfl (Nat.le_of_ble_eq_true rfl) ?_
  have pt0 : Pst No I h I h := Pst.refl hB
  refine cwp_seq ?_
  refine cwp_region ?_
  refine lwp_op (by kernel_rfl) (owp_alloc [.int .i64 0, .bool false, .bool false, .bool false, .slice none 0 0] (.agg #[.int .i64 0, .bool false, .bool false, .bool false, .slice none 0 0]) hB (by kernel_rfl) (by kernel_rfl) ?_)
  intro b5 h6 hc7 p8 o9
  have pt10 := pt0.no p8
  have fr11 : No b5 ∨ h.size ≤ b5 := .inr (Nat.le_trans pt0.size hc7)
  refine lwp_run 2 (by kernel_rfl) ?_
  refine lwp_nil ?_
  refine cwp_seq ?_
  refine cwp_seq ?_
  refine cwp_region ?_
  refine lwp_run 2 (by kernel_rfl) ?_
  by_cases c12 : (x0.length : Int) > 8192
  · rw [if_pos c12] at H
    refine lwp_op (by kernel_rfl) (owp_pure ((.bool true)) (pr_bool (by kernel_rfl) (decide_eq_true c12)) ?_)
    refine lwp_nil ?_
    refine cwp_true (by kernel_rfl) ?_
    refine cwp_seq ?_
    refine cwp_region ?_
    refine lwp_run 1 (by kernel_rfl) ?_
    refine lwp_op (by kernel_rfl) (owp_storeN 0 [.int .i64 0, .bool false, .bool false, .bool false, .slice none 0 0] p8.bd o9 (by kernel_rfl) (by kernel_rfl) (by simp [Value.oneCell']) (by kernel_rfl) (Nat.le_of_ble_eq_true rfl) ?_)
    intro h13 p14 o15
    have pt16 := pt10.own p14 (one_nw fr11)
    refine lwp_run 2 (by kernel_rfl) ?_
    refine lwp_nil ?_
    refine cwp_ret ?_
    obtain rfl := Option.some.inj H
    show Exists _
    exact ⟨[.agg #[.int .i64 0, .bool false, .bool false, .bool false, .slice none 0 0], .int .i64 6, .int .i64 8192], (.cons (.agg (by kernel_rfl) (by kernel_rfl) (by kernel_rfl) (o15.seg_ 0 5 (Nat.le_of_ble_eq_true rfl))) (.cons (.tmp (by kernel_rfl)) (.cons (.tmp (by kernel_rfl)) .nil))), I, none, 0, rfl, pt16, (own_nil t_api_Order I I h13), none_nw⟩
  · rw [if_neg c12] at H
    refine lwp_op (by kernel_rfl) (owp_pure ((.bool false)) (pr_bool (by kernel_rfl) (decide_eq_false c12)) ?_)
    refine lwp_nil ?_
    refine cwp_false (by kernel_rfl) ?_
    refine cwp_skip ?_
    refine cwp_seq ?_
    refine cwp_seq ?_
    refine cwp_region ?_
    refine lwp_run 2 (by kernel_rfl) ?_
    by_cases c17 : (x0.length : Int) = 0
    · rw [if_pos c17] at H
      refine lwp_op (by kernel_rfl) (owp_pure ((.bool true)) (pr_bool (by kernel_rfl) (eqT c17)) ?_)
      refine lwp_nil ?_
      refine cwp_true (by kernel_rfl) ?_
      refine cwp_seq ?_
      refine cwp_region ?_
      refine lwp_run 1 (by kernel_rfl) ?_
      refine lwp_op (by kernel_rfl) (owp_storeN 0 [.int .i64 0, .bool false, .bool false, .bool false, .slice none 0 0] p8.bd o9 (by kernel_rfl) (by kernel_rfl) (by simp [Value.oneCell']) (by kernel_rfl) (Nat.le_of_ble_eq_true rfl) ?_)
      intro h18 p19 o20
      have pt21 := pt10.own p19 (one_nw fr11)
      refine lwp_run 2 (by kernel_rfl) ?_
      refine lwp_nil ?_
      refine cwp_ret ?_
      obtain rfl := Option.some.inj H
      show Exists _
      exact ⟨[.agg #[.int .i64 0, .bool false, .bool false, .bool false, .slice none 0 0], .int .i64 2, .int .i64 0], (.cons (.agg (by kernel_rfl) (by kernel_rfl) (by kernel_rfl) (o20.seg_ 0 5 (Nat.le_of_ble_eq_true rfl))) (.cons (.tmp (by kernel_rfl)) (.cons (.tmp (by kernel_rfl)) .nil))), I, none, 0, rfl, pt21, (own_nil t_api_Order I I h18), none_nw⟩
    · rw [if_neg c17] at H
      refine lwp_op (by kernel_rfl) (owp_pure ((.bool false)) (pr_bool (by kernel_rfl) (eqF c17)) ?_)
      refine lwp_nil ?_
      refine cwp_false (by kernel_rfl) ?_
      refine cwp_skip ?_
      refine cwp_seq ?_
      refine cwp_region ?_
      obtain ⟨c22, H⟩ := guard_pos H
      refine lwp_run 1 (by kernel_rfl) ?_
      have f23 := r4.up (upOr (p8.up hB (fun _ x => x.elim)) (keepB p8 (hBB.mono pt0.size) (fun _ x => x.elim)))
      have hs24 := (f23.toSl).isSome (by decide) c22
      refine lwp_op (by kernel_rfl) (owp_pure (elemPtr a1 ((0 : Int).toNat * 1)) (pr_indexElem (e := 5) (f23.toSl) (k := .i64) (by kernel_rfl) (by kernel_rfl) (by kernel_rfl) (by kernel_rfl) (by decide) c22) ?_)
      obtain ⟨cs25, hs26, rp27⟩ := (f23.toSl).seg (by decide) c22
      obtain rfl := rep_int rp27
      refine lwp_op (by kernel_rfl) (owp_load (by kernel_rfl) (by kernel_rfl) (seg_cell (f := 0) hs26 rfl) ?_)
      refine lwp_run 2 (by kernel_rfl) ?_
      refine lwp_op (by kernel_rfl) (owp_alloc [.int .i64 0, .bool false, .bool false, .bool false, .slice none 0 0] (.agg #[.int .i64 0, .bool false, .bool false, .bool false, .slice none 0 0]) p8.bd (by kernel_rfl) (by kernel_rfl) ?_)
      intro b28 h29 hc30 p31 o32
      have pt33 := pt10.no p31
      have fr34 : No b28 ∨ h.size ≤ b28 := .inr (Nat.le_trans pt10.size hc30)
      have d35 := ne_new o9.lt hc30
      refine lwp_op (by kernel_rfl) (owp_storeN 0 [.int .i64 (w64 ((at_ x0 0))), .bool false, .bool false, .bool false, .slice none 0 0] p31.bd o32 (by kernel_rfl) (by kernel_rfl) (by simp [Value.oneCell']) (by kernel_rfl) (Nat.le_of_ble_eq_true rfl) ?_)
      intro h36 p37 o38
      have pt39 := pt33.own p37 (one_nw fr34)
      refine lwp_nil ?_
      refine cwp_seq ?_
      refine cwp_seq ?_
      refine cwp_region ?_
      refine lwp_run 1 (by kernel_rfl) ?_
      refine lwp_op (by kernel_rfl) (owp_load (by kernel_rfl) (by kernel_rfl) (o38.cell (off := 0) rfl) ?_)
      obtain ⟨t40, m41, H⟩ := bind_some H
      refine lwp_op (by kernel_rfl) (owp_callF (by kernel_rfl) (shutterref08_Known.calls (I := I) p37.bd m41) ?_)
      rintro v42 h43 ⟨_, rfl, rfl⟩
      cases t40
      · rw [cond_false] at H
        refine lwp_run 1 (by kernel_rfl) ?_
        refine lwp_nil ?_
        refine cwp_true (by kernel_rfl) ?_
        refine cwp_seq ?_
        refine cwp_region ?_
        refine lwp_run 1 (by kernel_rfl) ?_
        have f313 := o9.post p31 (fun x => x.elim)
        have f314 := f313.post p37 (fun e => d35 e.symm)
        refine lwp_op (by kernel_rfl) (owp_storeN 0 [.int .i64 0, .bool false, .bool false, .bool false, .slice none 0 0] p37.bd f314 (by kernel_rfl) (by kernel_rfl) (by simp [Value.oneCell']) (by kernel_rfl) (Nat.le_of_ble_eq_true rfl) ?_)
        intro h315 p316 o317
        have pt318 := pt39.own p316 (one_nw fr11)
        refine lwp_run 2 (by kernel_rfl) ?_
        refine lwp_nil ?_
        refine cwp_ret ?_
        obtain rfl := Option.some.inj H
        show Exists _
        exact ⟨[.agg #[.int .i64 0, .bool false, .bool false, .bool false, .slice none 0 0], .int .i64 5, .int .i64 0], (.cons (.agg (by kernel_rfl) (by kernel_rfl) (by kernel_rfl) (o317.seg_ 0 5 (Nat.le_of_ble_eq_true rfl))) (.cons (.tmp (by kernel_rfl)) (.cons (.tmp (by kernel_rfl)) .nil))), I, none, 0, rfl, pt318, (own_nil t_api_Order I I h315), none_nw⟩
      · rw [cond_true] at H
        refine lwp_run 1 (by kernel_rfl) ?_
        refine lwp_nil ?_
        refine cwp_false (by kernel_rfl) ?_
        refine cwp_skip ?_
        refine cwp_seq ?_
        obtain ⟨j59, e312, H⟩ := letJ_some H
        refine cwp_join (fun ρ' h52 => ∃ (x56 : Bool) (I53 : Gh), j59 x56 = some r ∧ Fits [(0, .slice a1 x0.length c2), (1, .int .i64 x1), (4, .pointer (some ⟨b5, 0, none⟩)), (7, .pointer (some ⟨b28, 0, none⟩)), (36, .bool x56)] ρ' ∧ Pst No I h I53 h52 ∧ Rd (tInt .u8) (Or2 I53 B) h52 a1 c2 x0 ∧ OwnB I53 h52 b5 [.int .i64 0, .bool false, .bool false, .bool false, .slice none 0 0] 54 ∧ OwnB I53 h52 b28 [.int .i64 (w64 ((at_ x0 0))), .bool false, .bool false, .bool false, .slice none 0 0] 54) ?_ ?_
        · refine cwp_region ?_
          refine lwp_run 1 (by kernel_rfl) ?_
          refine lwp_op (by kernel_rfl) (owp_load (by kernel_rfl) (by kernel_rfl) (o38.cell (off := 0) rfl) ?_)
          obtain ⟨t46, m47, H⟩ := bind_some H
          refine lwp_op (by kernel_rfl) (owp_callF (by kernel_rfl) (shutterref08_Writes.calls (I := I) p37.bd m47) ?_)
          rintro v48 h49 ⟨_, rfl, rfl⟩
          cases t46
          · rw [cond_false] at H
            refine lwp_run 1 (by kernel_rfl) ?_
            refine lwp_nil ?_
            have f100061 := f23.up (upOr (p31.up p8.bd (fun _ x => x.elim)) (keepB p31 (hBB.mono pt10.size) (fun _ x => x.elim)))
            have f100062 := f100061.up (upOr (p37.up p31.bd (one_not o32.no)) (keepB p37 (hBB.mono pt33.size) (nwB (one_nw fr34) (fun _ x => x.elim) hBB)))
            have f100063 := o9.post p31 (fun x => x.elim)
            have f100064 := f100063.post p37 (fun e => d35 e.symm)
            exact ⟨true, I, H, ⟨by kernel_rfl, by kernel_rfl, by kernel_rfl, by kernel_rfl, by kernel_rfl, trivial⟩, pt39, f100062, f100064, o38⟩
          · rw [cond_true] at H
            refine lwp_run 1 (by kernel_rfl) ?_
            refine lwp_nil ?_
            have f100057 := f23.up (upOr (p31.up p8.bd (fun _ x => x.elim)) (keepB p31 (hBB.mono pt10.size) (fun _ x => x.elim)))
            have f100058 := f100057.up (upOr (p37.up p31.bd (one_not o32.no)) (keepB p37 (hBB.mono pt33.size) (nwB (one_nw fr34) (fun _ x => x.elim) hBB)))
            have f100059 := o9.post p31 (fun x => x.elim)
            have f100060 := f100059.post p37 (fun e => d35 e.symm)
            exact ⟨false, I, H, ⟨by kernel_rfl, by kernel_rfl, by kernel_rfl, by kernel_rfl, by kernel_rfl, trivial⟩, pt39, f100058, f100060, o38⟩
        · clear H
          rintro ρ' h52 ⟨x56, I53, H, hf, pt54, r55, o57, o58⟩
          refine cwp_fits _ hf ?_
          subst e312
          try dsimp only at H
          cases x56
          · rw [cond_false] at H
            refine cwp_false (by kernel_rfl) ?_
            refine cwp_skip ?_
            refine cwp_seq ?_
            refine cwp_seq ?_
            refine cwp_region ?_
            refine lwp_run 2 (by kernel_rfl) ?_
            by_cases c69 : (x0.length : Int) = 1
            · rw [if_pos c69] at H
              refine lwp_op (by kernel_rfl) (owp_pure ((.bool true)) (pr_bool (by kernel_rfl) (eqT c69)) ?_)
              refine lwp_nil ?_
              refine cwp_true (by kernel_rfl) ?_
              refine cwp_seq ?_
              refine cwp_region ?_
              refine lwp_run 1 (by kernel_rfl) ?_
              refine lwp_op (by kernel_rfl) (owp_storeN 0 [.int .i64 0, .bool false, .bool false, .bool false, .slice none 0 0] pt54.bd o57 (by kernel_rfl) (by kernel_rfl) (by simp [Value.oneCell']) (by kernel_rfl) (Nat.le_of_ble_eq_true rfl) ?_)
              intro h70 p71 o72
              have pt73 := pt54.own p71 (one_nw fr11)
              refine lwp_run 2 (by kernel_rfl) ?_
              refine lwp_nil ?_
              refine cwp_ret ?_
              obtain rfl := Option.some.inj H
              show Exists _
              exact ⟨[.agg #[.int .i64 0, .bool false, .bool false, .bool false, .slice none 0 0], .int .i64 2, .int .i64 1], (.cons (.agg (by kernel_rfl) (by kernel_rfl) (by kernel_rfl) (o72.seg_ 0 5 (Nat.le_of_ble_eq_true rfl))) (.cons (.tmp (by kernel_rfl)) (.cons (.tmp (by kernel_rfl)) .nil))), I53, none, 0, rfl, pt73, (own_nil t_api_Order I53 I53 h70), none_nw⟩
            · rw [if_neg c69] at H
              refine lwp_op (by kernel_rfl) (owp_pure ((.bool false)) (pr_bool (by kernel_rfl) (eqF c69)) ?_)
              refine lwp_nil ?_
              refine cwp_false (by kernel_rfl) ?_
              refine cwp_skip ?_
              obtain ⟨j132, e311, H⟩ := letJ_some H
              refine cwp_join (fun ρ' h117 => ∃ (x122 : Bool) (x123 : Bool) (x124 : Bool) (x127 : Bool) (b121 : Nat) (I118 : Gh), j132 x122 x123 x124 x127 = some r ∧ Fits [(0, .slice a1 x0.length c2), (1, .int .i64 x1), (4, .pointer (some ⟨b5, 0, none⟩)), (7, .pointer (some ⟨b28, 0, none⟩)), (8, .pointer (some ⟨b121, 0, none⟩)), (9, .bool x127)] ρ' ∧ Pst No I h I118 h117 ∧ Rd (tInt .u8) (Or2 I118 B) h117 a1 c2 x0 ∧ OwnB I118 h117 b121 [.bool x122, .bool x123, .bool x124] 51 ∧ (No b121 ∨ h.size ≤ b121) ∧ OwnB I118 h117 b5 [.int .i64 0, .bool false, .bool false, .bool false, .slice none 0 0] 54 ∧ OwnB I118 h117 b28 [.int .i64 (w64 ((at_ x0 0))), .bool false, .bool false, .bool false, .slice none 0 0] 54 ∧ ¬ b5 = b121 ∧ ¬ b28 = b121) ?_ ?_
              · refine cwp_region ?_
                obtain ⟨c74, H⟩ := guard_pos H
                refine lwp_run 1 (by kernel_rfl) ?_
                have hs75 := (r55.toSl).isSome (by decide) c74
                refine lwp_op (by kernel_rfl) (owp_pure (elemPtr a1 ((1 : Int).toNat * 1)) (pr_indexElem (e := 5) (r55.toSl) (k := .i64) (by kernel_rfl) (by kernel_rfl) (by kernel_rfl) (by kernel_rfl) (by decide) c74) ?_)
                obtain ⟨cs76, hs77, rp78⟩ := (r55.toSl).seg (by decide) c74
                obtain rfl := rep_int rp78
                refine lwp_op (by kernel_rfl) (owp_load (by kernel_rfl) (by kernel_rfl) (seg_cell (f := 0) hs77 rfl) ?_)
                obtain ⟨t79, m80, H⟩ := bind_some H
                refine lwp_op (by kernel_rfl) (owp_callF (by kernel_rfl) (shutterref05_GetWcc.calls (I := I53) pt54.bd m80) ?_)
                rintro v81 h82 ⟨I83, rfl, p84⟩
                have pt85 := pt54.no p84
                refine lwp_run 2 (by kernel_rfl) ?_
                rcases bool_or t79.2 with c86 | c86
                · replace H := bif_f c86 H
                  refine lwp_op (by kernel_rfl) (owp_pure ((.bool false)) (pr_bool (by kernel_rfl) c86) ?_)
                  refine lwp_op (by kernel_rfl) (owp_alloc [.bool false, .bool false, .bool false] (.agg #[.bool false, .bool false, .bool false]) p84.bd (by kernel_rfl) (by kernel_rfl) ?_)
                  intro b102 h103 hc104 p105 o106
                  have pt107 := pt85.no p105
                  have fr108 : No b102 ∨ h.size ≤ b102 := .inr (Nat.le_trans pt85.size hc104)
                  have f109 := o57.post p84 (fun x => x.elim)
                  have d110 := ne_new f109.lt hc104
                  have f111 := o58.post p84 (fun x => x.elim)
                  have d112 := ne_new f111.lt hc104
                  refine lwp_op (by kernel_rfl) (owp_storeN 0 [.bool t79.1.Alarm, .bool t79.1.Unlock, .bool t79.1.Reset] p105.bd o106 (by kernel_rfl) (by kernel_rfl) (by simp [Value.oneCell']) (by kernel_rfl) (Nat.le_of_ble_eq_true rfl) ?_)
                  intro h113 p114 o115
                  have pt116 := pt107.own p114 (one_nw fr108)
                  refine lwp_run 1 (by kernel_rfl) ?_
                  refine lwp_nil ?_
                  have f100048 := r55.up (upOr (p84.up pt54.bd (fun _ x => x.elim)) (keepB p84 (hBB.mono pt54.size) (fun _ x => x.elim)))
                  have f100049 := f100048.up (upOr (p105.up p84.bd (fun _ x => x.elim)) (keepB p105 (hBB.mono pt85.size) (fun _ x => x.elim)))
                  have f100050 := f100049.up (upOr (p114.up p105.bd (one_not o106.no)) (keepB p114 (hBB.mono pt107.size) (nwB (one_nw fr108) (fun _ x => x.elim) hBB)))
                  have f100051 := o57.post p84 (fun x => x.elim)
                  have f100052 := f100051.post p105 (fun x => x.elim)
                  have f100053 := f100052.post p114 (fun e => d110 e.symm)
                  have f100054 := o58.post p84 (fun x => x.elim)
                  have f100055 := f100054.post p105 (fun x => x.elim)
                  have f100056 := f100055.post p114 (fun e => d112 e.symm)
                  exact ⟨t79.1.Alarm, t79.1.Unlock, t79.1.Reset, false, b102, I83, H, ⟨by kernel_rfl, by kernel_rfl, by kernel_rfl, by kernel_rfl, by kernel_rfl, by kernel_rfl, trivial⟩, pt116, f100050, o115, fr108, f100053, f100056, (fun e => d110 e.symm), (fun e => d112 e.symm)⟩
                · replace H := bif_t c86 H
                  refine lwp_op (by kernel_rfl) (owp_pure ((.bool true)) (pr_bool (by kernel_rfl) c86) ?_)
                  refine lwp_op (by kernel_rfl) (owp_alloc [.bool false, .bool false, .bool false] (.agg #[.bool false, .bool false, .bool false]) p84.bd (by kernel_rfl) (by kernel_rfl) ?_)
                  intro b87 h88 hc89 p90 o91
                  have pt92 := pt85.no p90
                  have fr93 : No b87 ∨ h.size ≤ b87 := .inr (Nat.le_trans pt85.size hc89)
                  have f94 := o57.post p84 (fun x => x.elim)
                  have d95 := ne_new f94.lt hc89
                  have f96 := o58.post p84 (fun x => x.elim)
                  have d97 := ne_new f96.lt hc89
                  refine lwp_op (by kernel_rfl) (owp_storeN 0 [.bool t79.1.Alarm, .bool t79.1.Unlock, .bool t79.1.Reset] p90.bd o91 (by kernel_rfl) (by kernel_rfl) (by simp [Value.oneCell']) (by kernel_rfl) (Nat.le_of_ble_eq_true rfl) ?_)
                  intro h98 p99 o100
                  have pt101 := pt92.own p99 (one_nw fr93)
                  refine lwp_run 1 (by kernel_rfl) ?_
                  refine lwp_nil ?_
                  have f100039 := r55.up (upOr (p84.up pt54.bd (fun _ x => x.elim)) (keepB p84 (hBB.mono pt54.size) (fun _ x => x.elim)))
                  have f100040 := f100039.up (upOr (p90.up p84.bd (fun _ x => x.elim)) (keepB p90 (hBB.mono pt85.size) (fun _ x => x.elim)))
                  have f100041 := f100040.up (upOr (p99.up p90.bd (one_not o91.no)) (keepB p99 (hBB.mono pt92.size) (nwB (one_nw fr93) (fun _ x => x.elim) hBB)))
                  have f100042 := o57.post p84 (fun x => x.elim)
                  have f100043 := f100042.post p90 (fun x => x.elim)
                  have f100044 := f100043.post p99 (fun e => d95 e.symm)
                  have f100045 := o58.post p84 (fun x => x.elim)
                  have f100046 := f100045.post p90 (fun x => x.elim)
                  have f100047 := f100046.post p99 (fun e => d97 e.symm)
                  exact ⟨t79.1.Alarm, t79.1.Unlock, t79.1.Reset, true, b87, I83, H, ⟨by kernel_rfl, by kernel_rfl, by kernel_rfl, by kernel_rfl, by kernel_rfl, by kernel_rfl, trivial⟩, pt101, f100041, o100, fr93, f100044, f100047, (fun e => d95 e.symm), (fun e => d97 e.symm)⟩
              · clear H
                rintro ρ' h117 ⟨x122, x123, x124, x127, b121, I118, H, hf, pt119, r120, o125, fr126, o128, o129, d130, d131⟩
                refine cwp_fits _ hf ?_
                subst e311
                try dsimp only at H
                refine cwp_seq ?_
                refine cwp_seq ?_
                refine cwp_region ?_
                rcases bool_or x127 with c133 | c133
                · replace H := bif_f c133 H
                  refine lwp_op (by kernel_rfl) (owp_pure ((.bool false)) (pr_bool (by kernel_rfl) c133) ?_)
                  refine lwp_run 1 (by kernel_rfl) ?_
                  refine lwp_nil ?_
                  refine cwp_true (by kernel_rfl) ?_
                  refine cwp_seq ?_
                  refine cwp_region ?_
                  refine lwp_run 1 (by kernel_rfl) ?_
                  refine lwp_op (by kernel_rfl) (owp_storeN 0 [.int .i64 0, .bool false, .bool false, .bool false, .slice none 0 0] pt119.bd o128 (by kernel_rfl) (by kernel_rfl) (by simp [Value.oneCell']) (by kernel_rfl) (Nat.le_of_ble_eq_true rfl) ?_)
                  intro h307 p308 o309
                  have pt310 := pt119.own p308 (one_nw fr11)
                  refine lwp_run 2 (by kernel_rfl) ?_
                  refine lwp_nil ?_
                  refine cwp_ret ?_
                  obtain rfl := Option.some.inj H
                  show Exists _
                  exact ⟨[.agg #[.int .i64 0, .bool false, .bool false, .bool false, .slice none 0 0], .int .i64 3, .int .i64 1], (.cons (.agg (by kernel_rfl) (by kernel_rfl) (by kernel_rfl) (o309.seg_ 0 5 (Nat.le_of_ble_eq_true rfl))) (.cons (.tmp (by kernel_rfl)) (.cons (.tmp (by kernel_rfl)) .nil))), I118, none, 0, rfl, pt310, (own_nil t_api_Order I118 I118 h307), none_nw⟩
                · replace H := bif_t c133 H
                  refine lwp_op (by kernel_rfl) (owp_pure ((.bool true)) (pr_bool (by kernel_rfl) c133) ?_)
                  refine lwp_run 1 (by kernel_rfl) ?_
                  refine lwp_nil ?_
                  refine cwp_false (by kernel_rfl) ?_
                  refine cwp_skip ?_
                  refine cwp_seq ?_
                  refine cwp_region ?_
                  refine lwp_op (by kernel_rfl) (owp_loadN (by kernel_rfl) (by kernel_rfl) (by kernel_rfl) (o125.seg_ 0 3 (Nat.le_of_ble_eq_true rfl)) ?_)
                  refine lwp_run 1 (by kernel_rfl) ?_
                  refine lwp_op (by kernel_rfl) (owp_storeN 1 [.bool x122, .bool x123, .bool x124] pt119.bd o129 (by kernel_rfl) (by kernel_rfl) (by simp [Value.oneCell']) (by kernel_rfl) (Nat.le_of_ble_eq_true rfl) ?_)
                  intro h134 p135 o136
                  have pt137 := pt119.own p135 (one_nw fr34)
                  refine lwp_nil ?_
                  refine cwp_seq ?_
                  refine cwp_region ?_
                  refine lwp_run 1 (by kernel_rfl) ?_
                  refine lwp_nil ?_
                  refine cwp_seq ?_
                  refine cwp_block ?_
                  have f299 := r120.up (upOr (p135.up pt119.bd (one_not o129.no)) (keepB p135 (hBB.mono pt119.size) (nwB (one_nw fr34) (fun _ x => x.elim) hBB)))
                  have f300 := o125.post p135 (fun e => d131 e.symm)
                  have f301 := o128.post p135 (fun e => d35 e.symm)
                  obtain ⟨s160, m180, HR181⟩ := bind_some H
                  refine cwp_loopE 0 (fun ρ' h161 => ∃ (x166 : Int) (x167 : Bool) (x168 : Bool) (x169 : Bool) (x170 : List api_Order) (a171 : Option Addr) (c172 : Nat) (I162 : Gh), Sum.inr (x166, x167, x168, x169, x170) = s160 ∧ Fits [(4, .pointer (some ⟨b5, 0, none⟩)), (7, .pointer (some ⟨b28, 0, none⟩))] ρ' ∧ Pst No I h I162 h161 ∧ OwnB I162 h161 b121 [.bool x122, .bool x123, .bool x124] 51 ∧ OwnB I162 h161 b5 [.int .i64 0, .bool false, .bool false, .bool false, .slice none 0 0] 54 ∧ OwnX t_api_Order I162 I162 h161 a171 c172 x170 ∧ (∀ b, InA a171 b → No b ∨ h.size ≤ b) ∧ OwnB I162 h161 b28 [.int .i64 x166, .bool x167, .bool x168, .bool x169, .slice a171 x170.length c172] 54 ∧ ¬ InA a171 b121 ∧ ¬ InA a171 b5 ∧ ¬ InA a171 b28) ?_ ?_
                  · refine cwp_loop (fun k' ρ' h138 => ∃ (x142 : Int) (x145 : Int) (x146 : Bool) (x147 : Bool) (x148 : Bool) (x149 : List api_Order) (a150 : Option Addr) (c151 : Nat) (I139 : Gh), shutterref08_Read.l1.m K x0 x1 k' x142 x145 x146 x147 x148 x149 = some s160 ∧ Fits [(0, .slice a1 x0.length c2), (1, .int .i64 x1), (4, .pointer (some ⟨b5, 0, none⟩)), (7, .pointer (some ⟨b28, 0, none⟩)), (10, .int .i64 x142)] ρ' ∧ Pst No I h I139 h138 ∧ Rd (tInt .u8) (Or2 I139 B) h138 a1 c2 x0 ∧ OwnB I139 h138 b121 [.bool x122, .bool x123, .bool x124] 51 ∧ OwnB I139 h138 b5 [.int .i64 0, .bool false, .bool false, .bool false, .slice none 0 0] 54 ∧ OwnX t_api_Order I139 I139 h138 a150 c151 x149 ∧ (∀ b, InA a150 b → No b ∨ h.size ≤ b) ∧ OwnB I139 h138 b28 [.int .i64 x145, .bool x146, .bool x147, .bool x148, .slice a150 x149.length c151] 54 ∧ ¬ InA a150 b121 ∧ ¬ InA a150 b5 ∧ ¬ InA a150 b28) K ⟨2, (w64 ((at_ x0 0))), x122, x123, x124, [], none, 0, I118, m180, ⟨by kernel_rfl, by kernel_rfl, by kernel_rfl, by kernel_rfl, by kernel_rfl, trivial⟩, pt137, f299, f300, f301, (own_nil t_api_Order I118 I118 h134), none_nw, o136, inA_none, inA_none, inA_none⟩ ?_
                    clear m180
                    rintro k' ρ' h138 ⟨x142, x145, x146, x147, x148, x149, a150, c151, I139, H, hf, pt140, r141, o143, o144, r152, fr154, o155, d156, d157, d158⟩
                    cases k' with
                    | zero => cases H
                    | succ k =>
                      rw [shutterref08_Read.l1.m] at H
                      refine cwp_fits _ hf ?_
                      refine cwp_seq ?_
                      refine cwp_seq ?_
                      refine cwp_region ?_
                      refine lwp_run 3 (by kernel_rfl) ?_
                      by_cases c182 : x142 < (x0.length : Int)
                      · rw [if_pos c182] at H
                        refine lwp_op (by kernel_rfl) (owp_pure ((.bool true)) (pr_bool (by kernel_rfl) (decide_eq_true c182)) ?_)
                        refine lwp_nil ?_
                        refine cwp_true (by kernel_rfl) ?_
                        refine cwp_skip ?_
                        refine cwp_block ?_
                        refine cwp_seq ?_
                        refine cwp_region ?_
                        refine lwp_run 3 (by kernel_rfl) ?_
                        obtain ⟨t183, m184, H⟩ := bind_some H
                        refine lwp_op (by kernel_rfl) (owp_callF (by kernel_rfl) (shutterref07_Get.calls (I := (Or2 I139 B)) (bdOr pt140.bd (hBB.mono pt140.size)) r141 m184) ?_)
                        rintro v185 h186 ⟨I187, a189, c190, rfl, p188, r192, fr193⟩
                        have p194 := Pst.forget p188 pt140.bd
                        have w195 := OwnX.forget r192 flat_int (fun b x => p188.sub b (Or.inl x))
                        have pt196 := pt140.no p194
                        have fr197 := nw_step (M := No) (n := h.size) (fun _ x => x.elim) fr193 pt140.size
                        have d198 := step_blk fr193 o143.lt (fun x => x.elim)
                        have d199 := step_blk fr193 o144.lt (fun x => x.elim)
                        have d200 := step_blk fr193 o155.lt (fun x => x.elim)
                        have d201 := step_sl fr193 r152.lt (fun _ _ x => x.elim)
                        refine lwp_run 5 (by kernel_rfl) ?_
                        refine lwp_op (by kernel_rfl) (owp_alloc [.int .i64 0, .slice none 0 0, .bool false, .bool false, .int .i64 0, .bool false, .int .i64 0, .int .u8 0] (.agg #[.int .i64 0, .slice none 0 0, .bool false, .bool false, .int .i64 0, .bool false, .int .i64 0, .int .u8 0]) p194.bd (by kernel_rfl) (by kernel_rfl) ?_)
                        intro b202 h203 hc204 p205 o206
                        have pt207 := pt196.no p205
                        have fr208 : No b202 ∨ h.size ≤ b202 := .inr (Nat.le_trans pt196.size hc204)
                        have f209 := o143.post p194 (fun x => x.elim)
                        have d210 := ne_new f209.lt hc204
                        have f211 := o144.post p194 (fun x => x.elim)
                        have d212 := ne_new f211.lt hc204
                        have f213 := o155.post p194 (fun x => x.elim)
                        have d214 := ne_new f213.lt hc204
                        have f215 := r152.post pt140.bd p194 (fun _ x => x.elim) (fun _ _ x => x.elim)
                        have d216 := notIn_new f215.lt hc204
                        have d217 := notIn_new w195.lt hc204
                        refine lwp_op (by kernel_rfl) (owp_storeN 0 [.int .i64 t183.1.Kind, .slice a189 t183.1.Text.length c190, .bool t183.1.Attr.Protected, .bool t183.1.Attr.Numeric, .int .i64 t183.1.Attr.Show, .bool t183.1.Attr.Modified, .int .i64 t183.1.Addr, .int .u8 t183.1.Char] p205.bd o206 (by kernel_rfl) (by kernel_rfl) (by simp [Value.oneCell']) (by kernel_rfl) (Nat.le_of_ble_eq_true rfl) ?_)
                        intro h218 p219 o220
                        have pt221 := pt207.own p219 (one_nw fr208)
                        refine lwp_run 3 (by kernel_rfl) ?_
                        refine lwp_nil ?_
                        refine cwp_seq ?_
                        refine cwp_seq ?_
                        refine cwp_region ?_
                        refine lwp_run 1 (by kernel_rfl) ?_
                        by_cases c222 : t183.2.2.1 = 0
                        · rw [if_pos c222] at H
                          refine lwp_op (by kernel_rfl) (owp_pure ((.bool false)) (pr_bool (by kernel_rfl) (neF c222)) ?_)
                          refine lwp_nil ?_
                          refine cwp_false (by kernel_rfl) ?_
                          refine cwp_skip ?_
                          refine cwp_seq ?_
                          refine cwp_region ?_
                          refine lwp_run 1 (by kernel_rfl) ?_
                          have f223 := o155.post p194 (fun x => x.elim)
                          have f224 := f223.post p205 (fun x => x.elim)
                          have f225 := f224.post p219 (fun e => d214 e.symm)
                          refine lwp_op (by kernel_rfl) (owp_load (by kernel_rfl) (by kernel_rfl) (f225.cell (off := 4) rfl) ?_)
                          refine lwp_op (by kernel_rfl) (owp_loadN (by kernel_rfl) (by kernel_rfl) (by kernel_rfl) (o220.seg_ 0 8 (Nat.le_of_ble_eq_true rfl)) ?_)
                          refine lwp_op (by kernel_rfl) (owp_buildSlice (e := 26) [.int .i64 t183.1.Kind, .slice a189 t183.1.Text.length c190, .bool t183.1.Attr.Protected, .bool t183.1.Attr.Numeric, .int .i64 t183.1.Attr.Show, .bool t183.1.Attr.Modified, .int .i64 t183.1.Addr, .int .u8 t183.1.Char] 8 (.agg #[.int .i64 0, .slice none 0 0, .bool false, .bool false, .int .i64 0, .bool false, .int .i64 0, .int .u8 0]) p219.bd (by kernel_rfl) (by kernel_rfl) (by kernel_rfl) (by kernel_rfl) (by kernel_rfl) ?_)
                          intro b226 h227 hc228 p229 o230
                          have pt231 := pt221.no p229
                          have f234 := w195.post p194.bd p205 (fun _ x => x.elim) (fun _ _ x => x.elim)
                          have f235 := f234.post p205.bd p219 (one_not o206.no) (dis_one d217)
                          have f236 := f235.post p219.bd p229 (fun _ x => x.elim) (fun _ _ x => x.elim)
                          have w232 := o230.own (l := ([t183.1] : List api_Order)) (Reps.cons (T := t_api_Order) (c := [.int .i64 t183.1.Kind, .slice a189 t183.1.Text.length c190, .bool t183.1.Attr.Protected, .bool t183.1.Attr.Numeric, .int .i64 t183.1.Attr.Show, .bool t183.1.Attr.Modified, .int .i64 t183.1.Addr, .int .u8 t183.1.Char]) (x := t183.1) (⟨_, _, rfl, f236.rd⟩) (.nil : Reps t_api_Order (Fz I139 a189) h227 [] []))
                          have fw232 := some_nw (M := No) (Nat.le_trans pt221.size hc228)
                          have f237 := o143.post p194 (fun x => x.elim)
                          have f238 := f237.post p205 (fun x => x.elim)
                          have f239 := f238.post p219 (fun e => d210 e.symm)
                          have d240 := some_ne (ne_new f239.lt hc228)
                          have f241 := o144.post p194 (fun x => x.elim)
                          have f242 := f241.post p205 (fun x => x.elim)
                          have f243 := f242.post p219 (fun e => d212 e.symm)
                          have d244 := some_ne (ne_new f243.lt hc228)
                          have d245 := some_ne (ne_new f225.lt hc228)
                          have d246 := some_ne (ne_new o220.lt hc228)
                          have f247 := r152.post pt140.bd p194 (fun _ x => x.elim) (fun _ _ x => x.elim)
                          have f248 := f247.post p194.bd p205 (fun _ x => x.elim) (fun _ _ x => x.elim)
                          have f249 := f248.post p205.bd p219 (one_not o206.no) (dis_one d216)
                          have d250 := some_notIn (notIn_new f249.lt hc228)
                          have f251 := w195.post p194.bd p205 (fun _ x => x.elim) (fun _ _ x => x.elim)
                          have f252 := f251.post p205.bd p219 (one_not o206.no) (dis_one d217)
                          have d253 := some_notIn (notIn_new f252.lt hc228)
                          have f254 := r152.post pt140.bd p194 (fun _ x => x.elim) (fun _ _ x => x.elim)
                          have f255 := f254.post p194.bd p205 (fun _ x => x.elim) (fun _ _ x => x.elim)
                          have f256 := f255.post p205.bd p219 (one_not o206.no) (dis_one d216)
                          have f257 := f256.post p219.bd p229 (fun _ x => x.elim) (fun _ _ x => x.elim)
                          have w258 := OwnX.fzX0 (G' := (Fz I139 a189)) f257 (up_sub (fun _ x => (Or.inl x)))
                          obtain ⟨l259, m260, H⟩ := bind_some H
                          refine lwp_op (by kernel_rfl) (owp_app (e := 26) (bytes := 72) t_api_Order (by kernel_rfl) (elemOk_of (by kernel_rfl)) rfl rfl p229.bd (bd_fz f236 p229.bd) w258 (notFz f257.notI d201) (w232.toSl) m260 (by kernel_rfl) (by kernel_rfl) ?_)
                          intro a261 c262 h263 p264 o265 fr266
                          have pt267 := pt231.own p264 fr154
                          have fr269 := nw_step (M := No) (n := h.size) fr154 fr266 pt231.size
                          have f270 := o143.post p194 (fun x => x.elim)
                          have f271 := f270.post p205 (fun x => x.elim)
                          have f272 := f271.post p219 (fun e => d210 e.symm)
                          have f273 := f272.post p229 (fun x => x.elim)
                          have d274 := step_blk fr266 f273.lt d156
                          have f275 := o144.post p194 (fun x => x.elim)
                          have f276 := f275.post p205 (fun x => x.elim)
                          have f277 := f276.post p219 (fun e => d212 e.symm)
                          have f278 := f277.post p229 (fun x => x.elim)
                          have d279 := step_blk fr266 f278.lt d157
                          have f280 := f225.post p229 (fun x => x.elim)
                          have d281 := step_blk fr266 f280.lt d158
                          have f282 := o220.post p229 (fun x => x.elim)
                          have d283 := step_blk fr266 f282.lt d216
                          have d284 := step_sl fr266 f236.lt d201
                          have d285 := step_sl fr266 w232.lt d250
                          refine lwp_run 1 (by kernel_rfl) ?_
                          have f286 := f225.post p229 (fun x => x.elim)
                          have f287 := f286.post p264 d158
                          refine lwp_op (by kernel_rfl) (owp_store1 4 (.slice a261 l259.length c262) p264.bd f287 (by kernel_rfl) (by kernel_rfl) rfl (by kernel_rfl) (Nat.le_of_ble_eq_true rfl) ?_)
                          intro h288 p289 o290
                          have pt291 := pt267.own p289 (one_nw fr34)
                          refine lwp_nil ?_
                          refine cwp_region ?_
                          refine lwp_run 2 (by kernel_rfl) ?_
                          refine lwp_nil ?_
                          have f100009 := f236.post p229.bd p264 f257.notI d201
                          have f100010 := f100009.post p264.bd p289 (one_not f287.no) (dis_one d200)
                          have pt100011 := post_fz f100010 p289.bd pt291 fr197
                          have r100013 := f100010.rd
                          have bd100014 := bd_fz f100010 p289.bd
                          have f100015 := r141.up (upOr (p194.up pt140.bd (fun _ x => x.elim)) (keepB p194 (hBB.mono pt140.size) (fun _ x => x.elim)))
                          have f100016 := f100015.up (upOr (p205.up p194.bd (fun _ x => x.elim)) (keepB p205 (hBB.mono pt196.size) (fun _ x => x.elim)))
                          have f100017 := f100016.up (upOr (p219.up p205.bd (one_not o206.no)) (keepB p219 (hBB.mono pt207.size) (nwB (one_nw fr208) (fun _ x => x.elim) hBB)))
                          have f100018 := f100017.up (upOr (p229.up p219.bd (fun _ x => x.elim)) (keepB p229 (hBB.mono pt221.size) (fun _ x => x.elim)))
                          have f100019 := f100018.up (upOr (p264.up p229.bd f257.notI) (keepB p264 (hBB.mono pt231.size) (nwB fr154 (fun _ x => x.elim) hBB)))
                          have f100020 := f100019.up (upOr (p289.up p264.bd (one_not f287.no)) (keepB p289 (hBB.mono pt267.size) (nwB (one_nw fr34) (fun _ x => x.elim) hBB)))
                          have f100021 := f100020.up (upOr (up_fz (a := a189)) keep_rfl)
                          have f100022 := o143.post p194 (fun x => x.elim)
                          have f100023 := f100022.post p205 (fun x => x.elim)
                          have f100024 := f100023.post p219 (fun e => d210 e.symm)
                          have f100025 := f100024.post p229 (fun x => x.elim)
                          have f100026 := f100025.post p264 d156
                          have f100027 := f100026.post p289 (fun e => d131 e.symm)
                          have f100028 := f100027.fz d198
                          have f100029 := o144.post p194 (fun x => x.elim)
                          have f100030 := f100029.post p205 (fun x => x.elim)
                          have f100031 := f100030.post p219 (fun e => d212 e.symm)
                          have f100032 := f100031.post p229 (fun x => x.elim)
                          have f100033 := f100032.post p264 d157
                          have f100034 := f100033.post p289 (fun e => d35 e.symm)
                          have f100035 := f100034.fz d199
                          have f100036 := o265.postX (upA (p289.up p264.bd (one_not f287.no)) (keepA f100009 p289 (dis_one d200))) p289 (dis_one d281)
                          have f100037 := OwnX.fzX f100036 (up_sub (fun _ x => x)) d284
                          have f100038 := o290.fz d200
                          show Exists _
                          exact ⟨k, Nat.lt_succ_self _, t183.2.1, x145, x146, x147, x148, l259, a261, c262, (Fz I139 a189), H, ⟨by kernel_rfl, by kernel_rfl, by kernel_rfl, by kernel_rfl, by kernel_rfl, trivial⟩, pt100011, f100021, f100028, f100035, f100037, fr269, f100038, d274, d279, d281⟩
                        · rw [if_neg c222] at H
                          refine lwp_op (by kernel_rfl) (owp_pure ((.bool true)) (pr_bool (by kernel_rfl) (neT c222)) ?_)
                          refine lwp_nil ?_
                          refine cwp_true (by kernel_rfl) ?_
                          refine cwp_seq ?_
                          refine cwp_region ?_
                          refine lwp_run 3 (by kernel_rfl) ?_
                          have f292 := o144.post p194 (fun x => x.elim)
                          have f293 := f292.post p205 (fun x => x.elim)
                          have f294 := f293.post p219 (fun e => d212 e.symm)
                          refine lwp_op (by kernel_rfl) (owp_storeN 0 [.int .i64 0, .bool false, .bool false, .bool false, .slice none 0 0] p219.bd f294 (by kernel_rfl) (by kernel_rfl) (by simp [Value.oneCell']) (by kernel_rfl) (Nat.le_of_ble_eq_true rfl) ?_)
                          intro h295 p296 o297
                          have pt298 := pt221.own p296 (one_nw fr11)
                          refine lwp_run 2 (by kernel_rfl) ?_
                          refine lwp_nil ?_
                          refine cwp_ret ?_
                          obtain rfl := Option.some.inj H
                          obtain rfl := Option.some.inj HR181
                          show Exists _
                          exact ⟨[.agg #[.int .i64 0, .bool false, .bool false, .bool false, .slice none 0 0], .int .i64 t183.2.2.1, .int .i64 t183.2.2.2], (.cons (.agg (by kernel_rfl) (by kernel_rfl) (by kernel_rfl) (o297.seg_ 0 5 (Nat.le_of_ble_eq_true rfl))) (.cons (.tmp (by kernel_rfl)) (.cons (.tmp (by kernel_rfl)) .nil))), I139, none, 0, rfl, pt298, (own_nil t_api_Order I139 I139 h295), none_nw⟩
                      · rw [if_neg c182] at H
                        refine lwp_op (by kernel_rfl) (owp_pure ((.bool false)) (pr_bool (by kernel_rfl) (decide_eq_false c182)) ?_)
                        refine lwp_nil ?_
                        refine cwp_false (by kernel_rfl) ?_
                        refine cwp_exit ?_
                        obtain rfl := Option.some.inj H
                        show Exists _
                        exact ⟨x145, x146, x147, x148, x149, a150, c151, I139, rfl, ⟨by kernel_rfl, by kernel_rfl, trivial⟩, pt140, o143, o144, r152, fr154, o155, d156, d157, d158⟩
                  · rintro ρ' h161 ⟨x166, x167, x168, x169, x170, a171, c172, I162, rfl, hf, pt163, o164, o165, r173, fr175, o176, d177, d178, d179⟩
                    have H := HR181
                    try dsimp only at H
                    refine cwp_fits _ hf ?_
                    refine cwp_seq ?_
                    refine cwp_region ?_
                    refine lwp_op (by kernel_rfl) (owp_loadN (by kernel_rfl) (by kernel_rfl) (by kernel_rfl) (o176.seg_ 0 5 (Nat.le_of_ble_eq_true rfl)) ?_)
                    refine lwp_op (by kernel_rfl) (owp_storeN 0 [.int .i64 x166, .bool x167, .bool x168, .bool x169, .slice a171 x170.length c172] pt163.bd o165 (by kernel_rfl) (by kernel_rfl) (by simp [Value.oneCell']) (by kernel_rfl) (Nat.le_of_ble_eq_true rfl) ?_)
                    intro h302 p303 o304
                    have pt305 := pt163.own p303 (one_nw fr11)
                    refine lwp_run 2 (by kernel_rfl) ?_
                    refine lwp_nil ?_
                    refine cwp_ret ?_
                    obtain rfl := Option.some.inj H
                    have f306 := r173.post pt163.bd p303 (one_not o165.no) (dis_one d178)
                    show Exists _
                    exact ⟨[.agg #[.int .i64 x166, .bool x167, .bool x168, .bool x169, .slice a171 x170.length c172], .int .i64 0, .int .i64 (-1)], (.cons (.agg (by kernel_rfl) (by kernel_rfl) (by kernel_rfl) (o304.seg_ 0 5 (Nat.le_of_ble_eq_true rfl))) (.cons (.tmp (by kernel_rfl)) (.cons (.tmp (by kernel_rfl)) .nil))), I162, a171, c172, rfl, pt305, f306, fr175⟩
          · rw [cond_true] at H
            refine cwp_true (by kernel_rfl) ?_
            refine cwp_seq ?_
            refine cwp_seq ?_
            refine cwp_region ?_
            refine lwp_run 2 (by kernel_rfl) ?_
            by_cases c60 : (x0.length : Int) > 1
            · rw [if_pos c60] at H
              refine lwp_op (by kernel_rfl) (owp_pure ((.bool true)) (pr_bool (by kernel_rfl) (decide_eq_true c60)) ?_)
              refine lwp_nil ?_
              refine cwp_true (by kernel_rfl) ?_
              refine cwp_seq ?_
              refine cwp_region ?_
              refine lwp_run 1 (by kernel_rfl) ?_
              refine lwp_op (by kernel_rfl) (owp_storeN 0 [.int .i64 0, .bool false, .bool false, .bool false, .slice none 0 0] pt54.bd o57 (by kernel_rfl) (by kernel_rfl) (by simp [Value.oneCell']) (by kernel_rfl) (Nat.le_of_ble_eq_true rfl) ?_)
              intro h61 p62 o63
              have pt64 := pt54.own p62 (one_nw fr11)
              refine lwp_run 2 (by kernel_rfl) ?_
              refine lwp_nil ?_
              refine cwp_ret ?_
              obtain rfl := Option.some.inj H
              show Exists _
              exact ⟨[.agg #[.int .i64 0, .bool false, .bool false, .bool false, .slice none 0 0], .int .i64 1, .int .i64 1], (.cons (.agg (by kernel_rfl) (by kernel_rfl) (by kernel_rfl) (o63.seg_ 0 5 (Nat.le_of_ble_eq_true rfl))) (.cons (.tmp (by kernel_rfl)) (.cons (.tmp (by kernel_rfl)) .nil))), I53, none, 0, rfl, pt64, (own_nil t_api_Order I53 I53 h61), none_nw⟩
            · rw [if_neg c60] at H
              refine lwp_op (by kernel_rfl) (owp_pure ((.bool false)) (pr_bool (by kernel_rfl) (decide_eq_false c60)) ?_)
              refine lwp_nil ?_
              refine cwp_false (by kernel_rfl) ?_
              refine cwp_skip ?_
              refine cwp_seq ?_
              refine cwp_region ?_
              refine lwp_op (by kernel_rfl) (owp_loadN (by kernel_rfl) (by kernel_rfl) (by kernel_rfl) (o58.seg_ 0 5 (Nat.le_of_ble_eq_true rfl)) ?_)
              refine lwp_op (by kernel_rfl) (owp_storeN 0 [.int .i64 (w64 ((at_ x0 0))), .bool false, .bool false, .bool false, .slice none 0 0] pt54.bd o57 (by kernel_rfl) (by kernel_rfl) (by simp [Value.oneCell']) (by kernel_rfl) (Nat.le_of_ble_eq_true rfl) ?_)
              intro h65 p66 o67
              have pt68 := pt54.own p66 (one_nw fr11)
              refine lwp_run 2 (by kernel_rfl) ?_
              refine lwp_nil ?_
              refine cwp_ret ?_
              obtain rfl := Option.some.inj H
              show Exists _
              exact ⟨[.agg #[.int .i64 (w64 ((at_ x0 0))), .bool false, .bool false, .bool false, .slice none 0 0], .int .i64 0, .int .i64 (-1)], (.cons (.agg (by kernel_rfl) (by kernel_rfl) (by kernel_rfl) (o67.seg_ 0 5 (Nat.le_of_ble_eq_true rfl))) (.cons (.tmp (by kernel_rfl)) (.cons (.tmp (by kernel_rfl)) .nil))), I53, none, 0, rfl, pt68, (own_nil t_api_Order I53 I53 h65), none_nw⟩

/-! shutter/shutterlaw08.StreamReads -/
def shutterlaw08_StreamReads.m (K : Nat) (x0 : (List Int)) (x1 : Int) : Option Bool :=
  ((shutterlaw08_awake.m K).bind fun t5 => bif t5 then (if (x0.length : Int) > 9000 then ((shutterlaw08_awake.m K).bind fun t13 => (some t13)) else ((shutterlaw08_size.m x1).bind fun t21 => ((stream_Read.m K x0 t21).bind fun t28 => ((shutterlaw08_size.m x1).bind fun t56 => ((shutterref08_Read.m K x0 t56).bind fun t65 => ((shutterref08_Same.m K t28.1 t65.1).bind fun t106 => bif t106 then ((api_Code.m t28.2).bind fun t120 => (if t120 = t65.2.1 then ((api_Where.m t28.2).bind fun t137 => (some (t137 == t65.2.2))) else (some false))) else (some false))))))) else ((shutterlaw08_awake.m K).bind fun t145 => (some t145)))

set_option maxRecDepth 100000 in
theorem shutterlaw08_StreamReads.calls {I : Gh} {h : Heap} {K : Nat} {x0 : List Int} {a1 : Option Addr} {c2 : Nat} {x1 : Int} (hB : Bd I h) (hG : Glob I h) (r4 : Rd (tInt .u8) I h a1 c2 x0) {r : Bool}
    (H : shutterlaw08_StreamReads.m K x0 x1 = some r) :
    Ret Tryd.prog 9 #[.slice a1 x0.length c2, .int .u16 x1] h (fun v h' => ∃ (I' : Gh), .bool r = v ∧ Pst No I h I' h') := by
  unfold shutterlaw08_StreamReads.m at H
  refine ret_of (args := [.slice a1 x0.length c2, .int .u16 x1]) (rs := [.tmp 4]) (N := 48) Tryd.func9 rfl rfl rfl (Nat.le_of_ble_eq_true rfl) ?_
  have pt0 : Pst No I h I h := Pst.refl hB
  refine cwp_seq ?_
  refine cwp_region ?_
  refine lwp_run 1 (by kernel_rfl) ?_
  refine lwp_nil ?_
  refine cwp_seq ?_
  refine cwp_seq ?_
  refine cwp_region ?_
  obtain ⟨t5, m6, H⟩ := bind_some H
  refine lwp_op (by kernel_rfl) (owp_callF (by kernel_rfl) (shutterlaw08_awake.calls (I := I) hB hG m6) ?_)
  rintro v7 h8 ⟨I9, rfl, p10⟩
  have pt11 := pt0.no p10
  cases t5
  · rw [cond_false] at H
    refine lwp_run 6 (by kernel_rfl) ?_
    refine lwp_nil ?_
    refine cwp_true (by kernel_rfl) ?_
    refine cwp_seq ?_
    refine cwp_region ?_
    obtain ⟨t145, m146, H⟩ := bind_some H
    have f147 := hG.up (p10.up hB (fun _ x => x.elim))
    refine lwp_op (by kernel_rfl) (owp_callF (by kernel_rfl) (shutterlaw08_awake.calls (I := I9) p10.bd f147 m146) ?_)
    rintro v148 h149 ⟨I150, rfl, p151⟩
    have pt152 := pt11.no p151
    refine lwp_run 1 (by kernel_rfl) ?_
    refine lwp_nil ?_
    refine cwp_ret ?_
    obtain rfl := Option.some.inj H
    show Exists _
    exact ⟨.bool t145, by kernel_rfl, I150, rfl, pt152⟩
  · rw [cond_true] at H
    refine lwp_run 4 (by kernel_rfl) ?_
    by_cases c12 : (x0.length : Int) > 9000
    · rw [if_pos c12] at H
      refine lwp_op (by kernel_rfl) (owp_pure ((.bool true)) (pr_bool (by kernel_rfl) (decide_eq_true c12)) ?_)
      refine lwp_run 1 (by kernel_rfl) ?_
      refine lwp_nil ?_
      refine cwp_true (by kernel_rfl) ?_
      refine cwp_seq ?_
      refine cwp_region ?_
      obtain ⟨t13, m14, H⟩ := bind_some H
      have f15 := hG.up (p10.up hB (fun _ x => x.elim))
      refine lwp_op (by kernel_rfl) (owp_callF (by kernel_rfl) (shutterlaw08_awake.calls (I := I9) p10.bd f15 m14) ?_)
      rintro v16 h17 ⟨I18, rfl, p19⟩
      have pt20 := pt11.no p19
      refine lwp_run 1 (by kernel_rfl) ?_
      refine lwp_nil ?_
      refine cwp_ret ?_
      obtain rfl := Option.some.inj H
      show Exists _
      exact ⟨.bool t13, by kernel_rfl, I18, rfl, pt20⟩
    · rw [if_neg c12] at H
      refine lwp_op (by kernel_rfl) (owp_pure ((.bool false)) (pr_bool (by kernel_rfl) (decide_eq_false c12)) ?_)
      refine lwp_run 1 (by kernel_rfl) ?_
      refine lwp_nil ?_
      refine cwp_false (by kernel_rfl) ?_
      refine cwp_skip ?_
      refine cwp_seq ?_
      refine cwp_region ?_
      refine lwp_run 2 (by kernel_rfl) ?_
      obtain ⟨t21, m22, H⟩ := bind_some H
      refine lwp_op (by kernel_rfl) (owp_callF (by kernel_rfl) (shutterlaw08_size.calls (I := I9) p10.bd m22) ?_)
      rintro v23 h24 ⟨_, rfl, rfl⟩
      have f27 := r4.up (p10.up hB (fun _ x => x.elim))
      obtain ⟨t28, m29, H⟩ := bind_some H
      refine lwp_op (by kernel_rfl) (owp_callF (by kernel_rfl) (stream_Read.calls (I := I9) (B := I9) p10.bd p10.bd (Rd.mono (I' := Or2 I9 I9) f27 (fun _ x => Or.inr x)) m29) ?_)
      rintro v30 h31 ⟨I32, a34, c35, v39, rfl, p33, r37, fr38, q41⟩
      have pt42 := pt11.no p33
      have fr43 := nw_step (M := No) (n := h.size) (fun _ x => x.elim) fr38 pt11.size
      refine lwp_run 3 (by kernel_rfl) ?_
      refine lwp_op (by kernel_rfl) (owp_alloc [.int .i64 0, .bool false, .bool false, .bool false, .slice none 0 0] (.agg #[.int .i64 0, .bool false, .bool false, .bool false, .slice none 0 0]) p33.bd (by kernel_rfl) (by kernel_rfl) ?_)
      intro b44 h45 hc46 p47 o48
      have pt49 := pt42.no p47
      have fr50 : No b44 ∨ h.size ≤ b44 := .inr (Nat.le_trans pt42.size hc46)
      have d51 := notIn_new r37.lt hc46
      refine lwp_op (by kernel_rfl) (owp_storeN 0 [.int .i64 t28.1.Cmd, .bool t28.1.Wcc.Alarm, .bool t28.1.Wcc.Unlock, .bool t28.1.Wcc.Reset, .slice a34 t28.1.Orders.length c35] p47.bd o48 (by kernel_rfl) (by kernel_rfl) (by simp [Value.oneCell']) (by kernel_rfl) (Nat.le_of_ble_eq_true rfl) ?_)
      intro h52 p53 o54
      have pt55 := pt49.own p53 (one_nw fr50)
      refine lwp_run 1 (by kernel_rfl) ?_
      refine lwp_nil ?_
      refine cwp_seq ?_
      refine cwp_region ?_
      refine lwp_run 2 (by kernel_rfl) ?_
      obtain ⟨t56, m57, H⟩ := bind_some H
      refine lwp_op (by kernel_rfl) (owp_callF (by kernel_rfl) (shutterlaw08_size.calls (I := I32) p53.bd m57) ?_)
      rintro v58 h59 ⟨_, rfl, rfl⟩
      have f62 := f27.up (p33.up p10.bd (fun _ x => x.elim))
      have f63 := f62.up (p47.up p33.bd (fun _ x => x.elim))
      have f64 := f63.up (p53.up p47.bd (one_not o48.no))
      obtain ⟨t65, m66, H⟩ := bind_some H
      refine lwp_op (by kernel_rfl) (owp_callF (by kernel_rfl) (shutterref08_Read.calls (I := I32) (B := I32) p53.bd p53.bd (Rd.mono (I' := Or2 I32 I32) f64 (fun _ x => Or.inr x)) m66) ?_)
      rintro v67 h68 ⟨I69, a71, c72, rfl, p70, r74, fr75⟩
      have pt76 := pt55.no p70
      have fr77 := nw_step (M := No) (n := h.size) (fun _ x => x.elim) fr75 pt55.size
      have d78 := step_blk fr75 o54.lt (fun x => x.elim)
      have f79 := r37.post p33.bd p47 (fun _ x => x.elim) (fun _ _ x => x.elim)
      have f80 := f79.post p47.bd p53 (one_not o48.no) (dis_one d51)
      have d81 := step_sl fr75 f80.lt (fun _ _ x => x.elim)
      refine lwp_run 4 (by kernel_rfl) ?_
      refine lwp_op (by kernel_rfl) (owp_alloc [.int .i64 0, .bool false, .bool false, .bool false, .slice none 0 0] (.agg #[.int .i64 0, .bool false, .bool false, .bool false, .slice none 0 0]) p70.bd (by kernel_rfl) (by kernel_rfl) ?_)
      intro b82 h83 hc84 p85 o86
      have pt87 := pt76.no p85
      have fr88 : No b82 ∨ h.size ≤ b82 := .inr (Nat.le_trans pt76.size hc84)
      have f89 := o54.post p70 (fun x => x.elim)
      have d90 := ne_new f89.lt hc84
      have f91 := f80.post p53.bd p70 (fun _ x => x.elim) (fun _ _ x => x.elim)
      have d92 := notIn_new f91.lt hc84
      have d93 := notIn_new r74.lt hc84
      refine lwp_op (by kernel_rfl) (owp_storeN 0 [.int .i64 t65.1.Cmd, .bool t65.1.Wcc.Alarm, .bool t65.1.Wcc.Unlock, .bool t65.1.Wcc.Reset, .slice a71 t65.1.Orders.length c72] p85.bd o86 (by kernel_rfl) (by kernel_rfl) (by simp [Value.oneCell']) (by kernel_rfl) (Nat.le_of_ble_eq_true rfl) ?_)
      intro h94 p95 o96
      have pt97 := pt87.own p95 (one_nw fr88)
      refine lwp_run 2 (by kernel_rfl) ?_
      refine lwp_nil ?_
      refine cwp_seq ?_
      refine cwp_region ?_
      have f98 := o54.post p70 (fun x => x.elim)
      have f99 := f98.post p85 (fun x => x.elim)
      have f100 := f99.post p95 (fun e => d90 e.symm)
      refine lwp_op (by kernel_rfl) (owp_loadN (by kernel_rfl) (by kernel_rfl) (by kernel_rfl) (f100.seg_ 0 5 (Nat.le_of_ble_eq_true rfl)) ?_)
      refine lwp_op (by kernel_rfl) (owp_loadN (by kernel_rfl) (by kernel_rfl) (by kernel_rfl) (o96.seg_ 0 5 (Nat.le_of_ble_eq_true rfl)) ?_)
      have f101 := f80.post p53.bd p70 (fun _ x => x.elim) (fun _ _ x => x.elim)
      have f102 := f101.post p70.bd p85 (fun _ x => x.elim) (fun _ _ x => x.elim)
      have f103 := f102.post p85.bd p95 (one_not o86.no) (dis_one d92)
      have f104 := r74.post p70.bd p85 (fun _ x => x.elim) (fun _ _ x => x.elim)
      have f105 := f104.post p85.bd p95 (one_not o86.no) (dis_one d93)
      obtain ⟨t106, m107, H⟩ := bind_some H
      refine lwp_op (by kernel_rfl) (owp_callF (by kernel_rfl) (shutterref08_Same.calls (I := (Fz (Fz I69 a34) a71)) (bd_fz f105 (bd_fz f103 p95.bd)) (Rd.mono (I' := (Fz (Fz I69 a34) a71)) f103.rd (fun _ x => (Or.inl x))) (Rd.mono (I' := (Fz (Fz I69 a34) a71)) f105.rd (fun _ x => (Or.elim x (fun x => (Or.inl (Or.inl x))) (fun x => (Or.inr x))))) m107) ?_)
      rintro v108 h109 ⟨I110, rfl, p111⟩
      have p112 := Pst.forget p111 p95.bd
      have pt113 := pt97.no p112
      cases t106
      · rw [cond_false] at H
        refine lwp_run 13 (by kernel_rfl) ?_
        refine lwp_nil ?_
        refine cwp_ret ?_
        obtain rfl := Option.some.inj H
        show Exists _
        exact ⟨.bool false, by kernel_rfl, I69, rfl, pt113⟩
      · rw [cond_true] at H
        refine lwp_run 2 (by kernel_rfl) ?_
        have f114 := ErrV.up (p47.up p33.bd (fun _ x => x.elim)) q41
        have f115 := ErrV.up (p53.up p47.bd (one_not o48.no)) f114
        have f116 := ErrV.up (p70.up p53.bd (fun _ x => x.elim)) f115
        have f117 := ErrV.up (p85.up p70.bd (fun _ x => x.elim)) f116
        have f118 := ErrV.up (p95.up p85.bd (one_not o86.no)) f117
        have f119 := ErrV.up (p112.up p95.bd (fun _ x => x.elim)) f118
        obtain ⟨t120, m121, H⟩ := bind_some H
        have f122 := hG.up (p10.up hB (fun _ x => x.elim))
        have f123 := f122.up (p33.up p10.bd (fun _ x => x.elim))
        have f124 := f123.up (p47.up p33.bd (fun _ x => x.elim))
        have f125 := f124.up (p53.up p47.bd (one_not o48.no))
        have f126 := f125.up (p70.up p53.bd (fun _ x => x.elim))
        have f127 := f126.up (p85.up p70.bd (fun _ x => x.elim))
        have f128 := f127.up (p95.up p85.bd (one_not o86.no))
        have f129 := f128.up (p112.up p95.bd (fun _ x => x.elim))
        refine lwp_op (by kernel_rfl) (owp_callF (by kernel_rfl) (api_Code.calls (I := I69) p112.bd f129 f119 m121) ?_)
        rintro v130 h131 ⟨I132, rfl, p133⟩
        have pt134 := pt113.no p133
        refine lwp_run 1 (by kernel_rfl) ?_
        by_cases c135 : t120 = t65.2.1
        · rw [if_pos c135] at H
          refine lwp_op (by kernel_rfl) (owp_pure ((.bool true)) (pr_bool (by kernel_rfl) (eqT c135)) ?_)
          refine lwp_run 3 (by kernel_rfl) ?_
          have f136 := ErrV.up (p133.up p112.bd (fun _ x => x.elim)) f119
          obtain ⟨t137, m138, H⟩ := bind_some H
          have f139 := f129.up (p133.up p112.bd (fun _ x => x.elim))
          refine lwp_op (by kernel_rfl) (owp_callF (by kernel_rfl) (api_Where.calls (I := I132) p133.bd f139 f136 m138) ?_)
          rintro v140 h141 ⟨I142, rfl, p143⟩
          have pt144 := pt134.no p143
          refine lwp_run 4 (by kernel_rfl) ?_
          refine lwp_nil ?_
          refine cwp_ret ?_
          obtain rfl := Option.some.inj H
          show Exists _
          exact ⟨.bool (t137 == t65.2.2), by kernel_rfl, I142, rfl, pt144⟩
        · rw [if_neg c135] at H
          refine lwp_op (by kernel_rfl) (owp_pure ((.bool false)) (pr_bool (by kernel_rfl) (eqF c135)) ?_)
          refine lwp_run 8 (by kernel_rfl) ?_
          refine lwp_nil ?_
          refine cwp_ret ?_
          obtain rfl := Option.some.inj H
          show Exists _
          exact ⟨.bool false, by kernel_rfl, I132, rfl, pt134⟩

/-! shutter/shutterlaw08.StreamAgain -/
def shutterlaw08_StreamAgain.m (K : Nat) (x0 : (List Int)) (x1 : Int) (x2 : Int) : Option Bool :=
  ((shutterlaw08_awake.m K).bind fun t5 => bif t5 then (if (x0.length : Int) > 2000 then ((shutterlaw08_awake.m K).bind fun t13 => (some t13)) else ((shutterlaw08_size.m x1).bind fun t21 => ((stream_Read.m K x0 t21).bind fun t28 => (letJ (α := Bool → Option Bool) (fun (x67 : Bool) => (bif x67 then ((api_Code.m t28.2).bind fun t72 => (if t72 = 0 then (some false) else ((api_Where.m t28.2).bind fun t81 => (if t81 ≥ 0 then ((api_Where.m t28.2).bind fun t91 => (some (decide (t91 ≤ (x0.length : Int))))) else (some false))))) else ((shutterlaw08_size.m x1).bind fun t99 => ((stream_Write.m K t28.1 t99).bind fun t105 => ((shutterlaw08_size.m x1).bind fun t124 => ((stream_Read.m K t105.1 t124).bind fun t130 => (letJ (α := Int → Bool → Bool → Bool → (List api_Order) → GoErr → Option Bool) (fun (x406 : Int) (x407 : Bool) (x408 : Bool) (x409 : Bool) (x410 : List api_Order) (x418 : GoErr) => (if t105.2 = GoErr.nil then (if t130.2 = GoErr.nil then ((stream_Same.m K t28.1 t130.1).bind fun t443 => bif t443 then (if x418 = GoErr.nil then (some (decide ((x410.length : Int) ≤ (t28.1.Orders.length : Int)))) else (some true)) else (some false)) else (some false)) else (some false))) fun (j436 : Int → Bool → Bool → Bool → (List api_Order) → GoErr → Option Bool) => (if (w64 ((x0.length : Int) + 1)) ≠ 0 then (if 0 ≤ (Int.tmod (w64 (x2)) (w64 ((x0.length : Int) + 1))) then (if (Int.tmod (w64 (x2)) (w64 ((x0.length : Int) + 1))) ≤ (x0.length : Int) then ((shutterlaw08_size.m x1).bind fun t182 => ((stream_Read.m K (sub x0 0 (Int.tmod (w64 (x2)) (w64 ((x0.length : Int) + 1)))) t182).bind fun t188 => (j436 t188.1.Cmd t188.1.Wcc.Alarm t188.1.Wcc.Unlock t188.1.Wcc.Reset t188.1.Orders t188.2))) else none) else none) else none)))))))) fun (j71 : Bool → Option Bool) => (if t28.2 = GoErr.nil then (j71 false) else (j71 true)))))) else ((shutterlaw08_awake.m K).bind fun t459 => (some t459)))

set_option maxRecDepth 100000 in
theorem shutterlaw08_StreamAgain.calls {I : Gh} {h : Heap} {K : Nat} {x0 : List Int} {a1 : Option Addr} {c2 : Nat} {x1 : Int} {x2 : Int} (hB : Bd I h) (hG : Glob I h) (r4 : Rd (tInt .u8) I h a1 c2 x0) {r : Bool}
    (H : shutterlaw08_StreamAgain.m K x0 x1 x2 = some r) :
    Ret Tryd.prog 10 #[.slice a1 x0.length c2, .int .u16 x1, .int .u8 x2] h (fun v h' => ∃ (I' : Gh), .bool r = v ∧ Pst No I h I' h') := by
  unfold shutterlaw08_StreamAgain.m at H
  refine ret_of (args := [.slice a1 x0.length c2, .int .u16 x1, .int .u8 x2]) (rs := [.tmp 6]) (N := 98) Tryd.func10 rfl rfl rfl (Nat.le_of_ble_eq_true rfl) ?_
  have pt0 : Pst No I h I h := Pst.refl hB
  refine cwp_seq ?_
  refine cwp_region ?_
  refine lwp_run 1 (by kernel_rfl) ?_
  refine lwp_nil ?_
  refine cwp_seq ?_
  refine cwp_seq ?_
  refine cwp_region ?_
  obtain ⟨t5, m6, H⟩ := bind_some H
  refine lwp_op (by kernel_rfl) (owp_callF (by kernel_rfl) (shutterlaw08_awake.calls (I := I) hB hG m6) ?_)
  rintro v7 h8 ⟨I9, rfl, p10⟩
  have pt11 := pt0.no p10
  cases t5
  · rw [cond_false] at H
    refine lwp_run 6 (by kernel_rfl) ?_
    refine lwp_nil ?_
    refine cwp_true (by kernel_rfl) ?_
    refine cwp_seq ?_
    refine cwp_region ?_
    obtain ⟨t459, m460, H⟩ := bind_some H
    have f461 := hG.up (p10.up hB (fun _ x => x.elim))
    refine lwp_op (by kernel_rfl) (owp_callF (by kernel_rfl) (shutterlaw08_awake.calls (I := I9) p10.bd f461 m460) ?_)
    rintro v462 h463 ⟨I464, rfl, p465⟩
    have pt466 := pt11.no p465
    refine lwp_run 1 (by kernel_rfl) ?_
    refine lwp_nil ?_
    refine cwp_ret ?_
    obtain rfl := Option.some.inj H
    show Exists _
    exact ⟨.bool t459, by kernel_rfl, I464, rfl, pt466⟩
  · rw [cond_true] at H
    refine lwp_run 4 (by kernel_rfl) ?_
    by_cases c12 : (x0.length : Int) > 2000
    · rw [if_pos c12] at H
      refine lwp_op (by kernel_rfl) (owp_pure ((.bool true)) (pr_bool (by kernel_rfl) (decide_eq_true c12)) ?_)
      refine lwp_run 1 (by kernel_rfl) ?_
      refine lwp_nil ?_
      refine cwp_true (by kernel_rfl) ?_
      refine cwp_seq ?_
      refine cwp_region ?_
      obtain ⟨t13, m14, H⟩ := bind_some H
      have f15 := hG.up (p10.up hB (fun _ x => x.elim))
      refine lwp_op (by kernel_rfl) (owp_callF (by kernel_rfl) (shutterlaw08_awake.calls (I := I9) p10.bd f15 m14) ?_)
      rintro v16 h17 ⟨I18, rfl, p19⟩
      have pt20 := pt11.no p19
      refine lwp_run 1 (by kernel_rfl) ?_
      refine lwp_nil ?_
      refine cwp_ret ?_
      obtain rfl := Option.some.inj H
      show Exists _
      exact ⟨.bool t13, by kernel_rfl, I18, rfl, pt20⟩
    · rw [if_neg c12] at H
      refine lwp_op (by kernel_rfl) (owp_pure ((.bool false)) (pr_bool (by kernel_rfl) (decide_eq_false c12)) ?_)
      refine lwp_run 1 (by kernel_rfl) ?_
      refine lwp_nil ?_
      refine cwp_false (by kernel_rfl) ?_
      refine cwp_skip ?_
      refine cwp_seq ?_
      refine cwp_region ?_
      refine lwp_run 2 (by kernel_rfl) ?_
      obtain ⟨t21, m22, H⟩ := bind_some H
      refine lwp_op (by kernel_rfl) (owp_callF (by kernel_rfl) (shutterlaw08_size.calls (I := I9) p10.bd m22) ?_)
      rintro v23 h24 ⟨_, rfl, rfl⟩
      have f27 := r4.up (p10.up hB (fun _ x => x.elim))
      obtain ⟨t28, m29, H⟩ := bind_some H
      refine lwp_op (by kernel_rfl) (owp_callF (by kernel_rfl) (stream_Read.calls (I := I9) (B := I9) p10.bd p10.bd (Rd.mono (I' := Or2 I9 I9) f27 (fun _ x => Or.inr x)) m29) ?_)
      rintro v30 h31 ⟨I32, a34, c35, v39, rfl, p33, r37, fr38, q41⟩
      have pt42 := pt11.no p33
      have fr43 := nw_step (M := No) (n := h.size) (fun _ x => x.elim) fr38 pt11.size
      refine lwp_run 3 (by kernel_rfl) ?_
      refine lwp_op (by kernel_rfl) (owp_alloc [.int .i64 0, .bool false, .bool false, .bool false, .slice none 0 0] (.agg #[.int .i64 0, .bool false, .bool false, .bool false, .slice none 0 0]) p33.bd (by kernel_rfl) (by kernel_rfl) ?_)
      intro b44 h45 hc46 p47 o48
      have pt49 := pt42.no p47
      have fr50 : No b44 ∨ h.size ≤ b44 := .inr (Nat.le_trans pt42.size hc46)
      have d51 := notIn_new r37.lt hc46
      refine lwp_op (by kernel_rfl) (owp_storeN 0 [.int .i64 t28.1.Cmd, .bool t28.1.Wcc.Alarm, .bool t28.1.Wcc.Unlock, .bool t28.1.Wcc.Reset, .slice a34 t28.1.Orders.length c35] p47.bd o48 (by kernel_rfl) (by kernel_rfl) (by simp [Value.oneCell']) (by kernel_rfl) (Nat.le_of_ble_eq_true rfl) ?_)
      intro h52 p53 o54
      have pt55 := pt49.own p53 (one_nw fr50)
      refine lwp_run 1 (by kernel_rfl) ?_
      refine lwp_nil ?_
      refine cwp_seq ?_
      obtain ⟨j71, e458, H⟩ := letJ_some H
      refine cwp_join (fun ρ' h61 => ∃ (x67 : Bool) (v66 : Value) (I62 : Gh), j71 x67 = some r ∧ Fits [(0, .slice a1 x0.length c2), (1, .int .u16 x1), (2, .int .u8 x2), (7, .pointer (some ⟨b44, 0, none⟩)), (8, v66), (31, .bool x67)] ρ' ∧ Pst No I h I62 h61 ∧ Rd (tInt .u8) I62 h61 a1 c2 x0 ∧ ErrV I62 h61 t28.2 v66 ∧ OwnX t_api_Order I62 I62 h61 a34 c35 t28.1.Orders ∧ OwnB I62 h61 b44 [.int .i64 t28.1.Cmd, .bool t28.1.Wcc.Alarm, .bool t28.1.Wcc.Unlock, .bool t28.1.Wcc.Reset, .slice a34 t28.1.Orders.length c35] 54 ∧ Glob I62 h61) ?_ ?_
      · refine cwp_region ?_
        refine lwp_run 1 (by kernel_rfl) ?_
        have f56 := ErrV.up (p47.up p33.bd (fun _ x => x.elim)) q41
        have f57 := ErrV.up (p53.up p47.bd (one_not o48.no)) f56
        rcases f57.cases with ⟨c58, rfl⟩ | ⟨c58, t59, u60, rfl⟩
        · rw [if_pos c58] at H
          refine lwp_run 1 (by kernel_rfl) ?_
          refine lwp_nil ?_
          have f100125 := f27.up (p33.up p10.bd (fun _ x => x.elim))
          have f100126 := f100125.up (p47.up p33.bd (fun _ x => x.elim))
          have f100127 := f100126.up (p53.up p47.bd (one_not o48.no))
          have f100128 := r37.post p33.bd p47 (fun _ x => x.elim) (fun _ _ x => x.elim)
          have f100129 := f100128.post p47.bd p53 (one_not o48.no) (dis_one d51)
          have f100130 := hG.up (p10.up hB (fun _ x => x.elim))
          have f100131 := f100130.up (p33.up p10.bd (fun _ x => x.elim))
          have f100132 := f100131.up (p47.up p33.bd (fun _ x => x.elim))
          have f100133 := f100132.up (p53.up p47.bd (one_not o48.no))
          exact ⟨false, .nilIface, I32, H, ⟨by kernel_rfl, by kernel_rfl, by kernel_rfl, by kernel_rfl, by kernel_rfl, by kernel_rfl, trivial⟩, pt55, f100127, f57, f100129, o54, f100133⟩
        · rw [if_neg c58] at H
          refine lwp_run 1 (by kernel_rfl) ?_
          refine lwp_nil ?_
          have f100134 := f27.up (p33.up p10.bd (fun _ x => x.elim))
          have f100135 := f100134.up (p47.up p33.bd (fun _ x => x.elim))
          have f100136 := f100135.up (p53.up p47.bd (one_not o48.no))
          have f100137 := r37.post p33.bd p47 (fun _ x => x.elim) (fun _ _ x => x.elim)
          have f100138 := f100137.post p47.bd p53 (one_not o48.no) (dis_one d51)
          have f100139 := hG.up (p10.up hB (fun _ x => x.elim))
          have f100140 := f100139.up (p33.up p10.bd (fun _ x => x.elim))
          have f100141 := f100140.up (p47.up p33.bd (fun _ x => x.elim))
          have f100142 := f100141.up (p53.up p47.bd (one_not o48.no))
          exact ⟨true, (.iface t59 u60), I32, H, ⟨by kernel_rfl, by kernel_rfl, by kernel_rfl, by kernel_rfl, by kernel_rfl, by kernel_rfl, trivial⟩, pt55, f100136, f57, f100138, o54, f100142⟩
      · clear H
        rintro ρ' h61 ⟨x67, v66, I62, H, hf, pt63, r64, q65, r68, o69, g70⟩
        refine cwp_fits _ hf ?_
        subst e458
        try dsimp only at H
        cases x67
        · rw [cond_false] at H
          refine cwp_false (by kernel_rfl) ?_
          refine cwp_skip ?_
          refine cwp_seq ?_
          refine cwp_regionD (Keep No h61) 9 (by kernel_rfl) ?_
          refine awp_loadN 0 rfl (by kernel_rfl) (by kernel_rfl) (by kernel_rfl) (by kernel_rfl) (by kernel_rfl) Keep.refl (o69.seg_ 0 5 (Nat.le_of_ble_eq_true rfl)) (fun _ _ x => x.elim) ?_
          refine awp_run (fuel := 7) [1] Keep.refl (by kernel_rfl) ?_
          obtain ⟨t99, m100, H⟩ := bind_some H
          refine awp_op 2 (by kernel_rfl) rfl (by kernel_rfl) (owp_callF (by kernel_rfl) (shutterlaw08_size.calls (I := I62) pt63.bd m100) ?_)
          rintro v101 h102 ⟨_, rfl, rfl⟩
          refine ⟨Keep.refl, ?_⟩
          obtain ⟨t105, m106, H⟩ := bind_some H
          refine awp_op 3 (by kernel_rfl) rfl (by kernel_rfl) (owp_callF (by kernel_rfl) (stream_Write.calls (I := I62) (B := (Fz I62 a34)) pt63.bd (bd_fz r68 pt63.bd) (Rd.mono (I' := Or2 I62 (Fz I62 a34)) r68.rd (fun _ x => Or.inr x)) m106) ?_)
          rintro v107 h108 ⟨I109, a111, c112, v116, rfl, p110, r114, fr115, q118⟩
          have pt119 := pt63.no p110
          have fr120 := nw_step (M := No) (n := h.size) (fun _ x => x.elim) fr115 pt63.size
          have d121 := step_blk fr115 o69.lt (fun x => x.elim)
          have d122 := step_sl fr115 r68.lt (fun _ _ x => x.elim)
          have hK123 := Keep.post (M := No) Keep.refl (Nat.le_refl _) p110 (fun _ x => x.elim)
          refine ⟨hK123, ?_⟩
          refine awp_run (fuel := 0) [4, 5, 6, 7, 8] hK123 (by kernel_rfl) ?_
          refine awp_nil (by kernel_rfl) ?_ 0
          refine cwp_seq ?_
          refine cwp_region ?_
          refine lwp_run 2 (by kernel_rfl) ?_
          obtain ⟨t124, m125, H⟩ := bind_some H
          refine lwp_op (by kernel_rfl) (owp_callF (by kernel_rfl) (shutterlaw08_size.calls (I := I109) p110.bd m125) ?_)
          rintro v126 h127 ⟨_, rfl, rfl⟩
          obtain ⟨t130, m131, H⟩ := bind_some H
          refine lwp_op (by kernel_rfl) (owp_callF (by kernel_rfl) (stream_Read.calls (I := I109) (B := (Fz I109 a111)) p110.bd (bd_fz r114 p110.bd) (Rd.mono (I' := Or2 I109 (Fz I109 a111)) r114.rd (fun _ x => Or.inr x)) m131) ?_)
          rintro v132 h133 ⟨I134, a136, c137, v141, rfl, p135, r139, fr140, q143⟩
          have pt144 := pt119.no p135
          have fr145 := nw_step (M := No) (n := h.size) (fun _ x => x.elim) fr140 pt119.size
          have f146 := o69.post p110 (fun x => x.elim)
          have d147 := step_blk fr140 f146.lt (fun x => x.elim)
          have f148 := r68.post pt63.bd p110 (fun _ x => x.elim) (fun _ _ x => x.elim)
          have d149 := step_sl fr140 f148.lt (fun _ _ x => x.elim)
          have d150 := step_sl fr140 r114.lt (fun _ _ x => x.elim)
          refine lwp_run 3 (by kernel_rfl) ?_
          refine lwp_op (by kernel_rfl) (owp_alloc [.int .i64 0, .bool false, .bool false, .bool false, .slice none 0 0] (.agg #[.int .i64 0, .bool false, .bool false, .bool false, .slice none 0 0]) p135.bd (by kernel_rfl) (by kernel_rfl) ?_)
          intro b151 h152 hc153 p154 o155
          have pt156 := pt144.no p154
          have fr157 : No b151 ∨ h.size ≤ b151 := .inr (Nat.le_trans pt144.size hc153)
          have f158 := o69.post p110 (fun x => x.elim)
          have f159 := f158.post p135 (fun x => x.elim)
          have d160 := ne_new f159.lt hc153
          have f161 := f148.post p110.bd p135 (fun _ x => x.elim) (fun _ _ x => x.elim)
          have d162 := notIn_new f161.lt hc153
          have f163 := r114.post p110.bd p135 (fun _ x => x.elim) (fun _ _ x => x.elim)
          have d164 := notIn_new f163.lt hc153
          have d165 := notIn_new r139.lt hc153
          refine lwp_op (by kernel_rfl) (owp_storeN 0 [.int .i64 t130.1.Cmd, .bool t130.1.Wcc.Alarm, .bool t130.1.Wcc.Unlock, .bool t130.1.Wcc.Reset, .slice a136 t130.1.Orders.length c137] p154.bd o155 (by kernel_rfl) (by kernel_rfl) (by simp [Value.oneCell']) (by kernel_rfl) (Nat.le_of_ble_eq_true rfl) ?_)
          intro h166 p167 o168
          have pt169 := pt156.own p167 (one_nw fr157)
          refine lwp_run 1 (by kernel_rfl) ?_
          refine lwp_nil ?_
          obtain ⟨j436, e457, H⟩ := letJ_some H
          refine cwp_join (fun ρ' h400 => ∃ (x406 : Int) (x407 : Bool) (x408 : Bool) (x409 : Bool) (x410 : List api_Order) (x418 : GoErr) (b405 : Nat) (a411 : Option Addr) (c412 : Nat) (v419 : Value) (I401 : Gh), j436 x406 x407 x408 x409 x410 x418 = some r ∧ Fits [(7, .pointer (some ⟨b44, 0, none⟩)), (10, v116), (11, .pointer (some ⟨b151, 0, none⟩)), (12, v141), (13, .pointer (some ⟨b405, 0, none⟩)), (14, v419)] ρ' ∧ Pst No I h I401 h400 ∧ ErrV I401 h400 t105.2 v116 ∧ ErrV I401 h400 t130.2 v141 ∧ OwnX t_api_Order I401 I401 h400 a411 c412 x410 ∧ (∀ b, InA a411 b → No b ∨ h.size ≤ b) ∧ OwnB I401 h400 b405 [.int .i64 x406, .bool x407, .bool x408, .bool x409, .slice a411 x410.length c412] 54 ∧ (No b405 ∨ h.size ≤ b405) ∧ ErrV I401 h400 x418 v419 ∧ OwnX t_api_Order I401 I401 h400 a34 c35 t28.1.Orders ∧ OwnB I401 h400 b44 [.int .i64 t28.1.Cmd, .bool t28.1.Wcc.Alarm, .bool t28.1.Wcc.Unlock, .bool t28.1.Wcc.Reset, .slice a34 t28.1.Orders.length c35] 54 ∧ OwnX t_api_Order I401 I401 h400 a136 c137 t130.1.Orders ∧ OwnB I401 h400 b151 [.int .i64 t130.1.Cmd, .bool t130.1.Wcc.Alarm, .bool t130.1.Wcc.Unlock, .bool t130.1.Wcc.Reset, .slice a136 t130.1.Orders.length c137] 54 ∧ (∀ b, InA a411 b → ¬ InA a34 b) ∧ (∀ b, InA a411 b → ¬ InA a136 b) ∧ ¬ InA a411 b405 ∧ ¬ InA a411 b44 ∧ ¬ InA a411 b151 ∧ ¬ InA a34 b405 ∧ ¬ InA a136 b405 ∧ ¬ b44 = b405 ∧ ¬ b151 = b405 ∧ Glob I401 h400) ?_ ?_
          · refine cwp_regionD (Keep No h166) 17 (by kernel_rfl) ?_
            obtain ⟨c170, H⟩ := guard_pos H
            refine awp_run (fuel := 11) [0, 1, 2, 3, 4, 5] Keep.refl (by kernel_rfl) ?_
            refine awp_pure 6 ((.int .i64 (Int.tmod (w64 (x2)) (w64 ((x0.length : Int) + 1))))) rfl (by kernel_rfl) (by kernel_rfl) (pr_rem (k := .i64) (a := (w64 (x2))) (b := (w64 ((x0.length : Int) + 1))) (by kernel_rfl) (by kernel_rfl) c170) Keep.refl ?_
            obtain ⟨c171, H⟩ := guard_pos H
            obtain ⟨c172, H⟩ := guard_pos H
            have f174 := r64.up (p110.up pt63.bd (fun _ x => x.elim))
            have f175 := f174.up (p135.up p110.bd (fun _ x => x.elim))
            have f176 := f175.up (p154.up p135.bd (fun _ x => x.elim))
            have f177 := f176.up (p167.up p154.bd (one_not o155.no))
            obtain ⟨a179, c180, r178, e181⟩ := f177.part (lo := 0) (hi := (Int.tmod (w64 (x2)) (w64 ((x0.length : Int) + 1)))) (Int.le_refl 0) c171 c172
            refine awp_pure 7 ((.slice a179 ((sub x0 0 (Int.tmod (w64 (x2)) (w64 ((x0.length : Int) + 1)))).length) c180)) rfl (by kernel_rfl) (by kernel_rfl) (pr_slice_h (e := 5) (f177.toSl) e181 (by kernel_rfl) (k2 := .i64) (by kernel_rfl) (by kernel_rfl) (by kernel_rfl) (Int.le_refl 0) c171 c172) Keep.refl ?_
            refine awp_run (fuel := 8) [8] Keep.refl (by kernel_rfl) ?_
            refine awp_two 9 14 (by kernel_rfl) ?_ ?_
            · obtain ⟨t182, m183, H⟩ := bind_some H
              refine awpAt_op rfl (by kernel_rfl) (owp_callF (by kernel_rfl) (shutterlaw08_size.calls (I := I134) p167.bd m183) ?_)
              rintro v184 h185 ⟨_, rfl, rfl⟩
              refine ⟨Keep.refl, ?_⟩
              refine awp_two 10 14 (by kernel_rfl) ?_ ?_
              · obtain ⟨t188, m189, H⟩ := bind_some H
                refine awpAt_op rfl (by kernel_rfl) (owp_callF (by kernel_rfl) (stream_Read.calls (I := I134) (B := I134) p167.bd p167.bd (Rd.mono (I' := Or2 I134 I134) r178 (fun _ x => Or.inr x)) m189) ?_)
                rintro v190 h191 ⟨I192, a194, c195, v199, rfl, p193, r197, fr198, q201⟩
                have pt202 := pt169.no p193
                have fr203 := nw_step (M := No) (n := h.size) (fun _ x => x.elim) fr198 pt169.size
                have f204 := o69.post p110 (fun x => x.elim)
                have f205 := f204.post p135 (fun x => x.elim)
                have f206 := f205.post p154 (fun x => x.elim)
                have f207 := f206.post p167 (fun e => d160 e.symm)
                have d208 := step_blk fr198 f207.lt (fun x => x.elim)
                have d209 := step_blk fr198 o168.lt (fun x => x.elim)
                have f210 := f148.post p110.bd p135 (fun _ x => x.elim) (fun _ _ x => x.elim)
                have f211 := f210.post p135.bd p154 (fun _ x => x.elim) (fun _ _ x => x.elim)
                have f212 := f211.post p154.bd p167 (one_not o155.no) (dis_one d162)
                have d213 := step_sl fr198 f212.lt (fun _ _ x => x.elim)
                have f214 := r114.post p110.bd p135 (fun _ x => x.elim) (fun _ _ x => x.elim)
                have f215 := f214.post p135.bd p154 (fun _ x => x.elim) (fun _ _ x => x.elim)
                have f216 := f215.post p154.bd p167 (one_not o155.no) (dis_one d164)
                have d217 := step_sl fr198 f216.lt (fun _ _ x => x.elim)
                have f218 := r139.post p135.bd p154 (fun _ x => x.elim) (fun _ _ x => x.elim)
                have f219 := f218.post p154.bd p167 (one_not o155.no) (dis_one d165)
                have d220 := step_sl fr198 f219.lt (fun _ _ x => x.elim)
                have hK221 := Keep.post (M := No) Keep.refl (Nat.le_refl _) p193 (fun _ x => x.elim)
                refine ⟨hK221, ?_⟩
                refine awp_run (fuel := 3) [11, 12, 13] hK221 (by kernel_rfl) ?_
                refine awp_op 14 (by kernel_rfl) rfl (by kernel_rfl) (owp_alloc [.int .i64 0, .bool false, .bool false, .bool false, .slice none 0 0] (.agg #[.int .i64 0, .bool false, .bool false, .bool false, .slice none 0 0]) p193.bd (by kernel_rfl) (by kernel_rfl) ?_)
                intro b222 h223 hc224 p225 o226
                have pt227 := pt202.no p225
                have fr228 : No b222 ∨ h.size ≤ b222 := .inr (Nat.le_trans pt202.size hc224)
                have f229 := o69.post p110 (fun x => x.elim)
                have f230 := f229.post p135 (fun x => x.elim)
                have f231 := f230.post p154 (fun x => x.elim)
                have f232 := f231.post p167 (fun e => d160 e.symm)
                have f233 := f232.post p193 (fun x => x.elim)
                have d234 := ne_new f233.lt hc224
                have f235 := o168.post p193 (fun x => x.elim)
                have d236 := ne_new f235.lt hc224
                have f237 := f212.post p167.bd p193 (fun _ x => x.elim) (fun _ _ x => x.elim)
                have d238 := notIn_new f237.lt hc224
                have f239 := f216.post p167.bd p193 (fun _ x => x.elim) (fun _ _ x => x.elim)
                have d240 := notIn_new f239.lt hc224
                have f241 := f219.post p167.bd p193 (fun _ x => x.elim) (fun _ _ x => x.elim)
                have d242 := notIn_new f241.lt hc224
                have d243 := notIn_new r197.lt hc224
                have hK244 := Keep.post (M := No) hK221 (Nat.le_trans (Nat.le_refl _) p193.size) p225 (fun _ x => x.elim)
                refine ⟨hK244, ?_⟩
                refine awp_op 15 (by kernel_rfl) rfl (by kernel_rfl) (owp_storeN 0 [.int .i64 t188.1.Cmd, .bool t188.1.Wcc.Alarm, .bool t188.1.Wcc.Unlock, .bool t188.1.Wcc.Reset, .slice a194 t188.1.Orders.length c195] p225.bd o226 (by kernel_rfl) (by kernel_rfl) (by simp [Value.oneCell']) (by kernel_rfl) (Nat.le_of_ble_eq_true rfl) ?_)
                intro h245 p246 o247
                have pt248 := pt227.own p246 (one_nw fr228)
                have hK249 := Keep.post (M := No) hK244 (Nat.le_trans (Nat.le_trans (Nat.le_refl _) p193.size) p225.size) p246 (one_nw (.inr (Nat.le_trans (Nat.le_trans (Nat.le_refl _) p193.size) hc224)))
                refine ⟨hK249, ?_⟩
                refine awp_run (fuel := 0) [16] hK249 (by kernel_rfl) ?_
                refine awp_nil (by kernel_rfl) ?_ 0
                have f100019 := ErrV.up (p135.up p110.bd (fun _ x => x.elim)) q118
                have f100020 := ErrV.up (p154.up p135.bd (fun _ x => x.elim)) f100019
                have f100021 := ErrV.up (p167.up p154.bd (one_not o155.no)) f100020
                have f100022 := ErrV.up (p193.up p167.bd (fun _ x => x.elim)) f100021
                have f100023 := ErrV.up (p225.up p193.bd (fun _ x => x.elim)) f100022
                have f100024 := ErrV.up (p246.up p225.bd (one_not o226.no)) f100023
                have f100025 := ErrV.up (p154.up p135.bd (fun _ x => x.elim)) q143
                have f100026 := ErrV.up (p167.up p154.bd (one_not o155.no)) f100025
                have f100027 := ErrV.up (p193.up p167.bd (fun _ x => x.elim)) f100026
                have f100028 := ErrV.up (p225.up p193.bd (fun _ x => x.elim)) f100027
                have f100029 := ErrV.up (p246.up p225.bd (one_not o226.no)) f100028
                have f100030 := r197.post p193.bd p225 (fun _ x => x.elim) (fun _ _ x => x.elim)
                have f100031 := f100030.post p225.bd p246 (one_not o226.no) (dis_one d243)
                have f100032 := ErrV.up (p225.up p193.bd (fun _ x => x.elim)) q201
                have f100033 := ErrV.up (p246.up p225.bd (one_not o226.no)) f100032
                have f100034 := f212.post p167.bd p193 (fun _ x => x.elim) (fun _ _ x => x.elim)
                have f100035 := f100034.post p193.bd p225 (fun _ x => x.elim) (fun _ _ x => x.elim)
                have f100036 := f100035.post p225.bd p246 (one_not o226.no) (dis_one d238)
                have f100037 := o69.post p110 (fun x => x.elim)
                have f100038 := f100037.post p135 (fun x => x.elim)
                have f100039 := f100038.post p154 (fun x => x.elim)
                have f100040 := f100039.post p167 (fun e => d160 e.symm)
                have f100041 := f100040.post p193 (fun x => x.elim)
                have f100042 := f100041.post p225 (fun x => x.elim)
                have f100043 := f100042.post p246 (fun e => d234 e.symm)
                have f100044 := f219.post p167.bd p193 (fun _ x => x.elim) (fun _ _ x => x.elim)
                have f100045 := f100044.post p193.bd p225 (fun _ x => x.elim) (fun _ _ x => x.elim)
                have f100046 := f100045.post p225.bd p246 (one_not o226.no) (dis_one d242)
                have f100047 := o168.post p193 (fun x => x.elim)
                have f100048 := f100047.post p225 (fun x => x.elim)
                have f100049 := f100048.post p246 (fun e => d236 e.symm)
                have f100050 := g70.up (p110.up pt63.bd (fun _ x => x.elim))
                have f100051 := f100050.up (p135.up p110.bd (fun _ x => x.elim))
                have f100052 := f100051.up (p154.up p135.bd (fun _ x => x.elim))
                have f100053 := f100052.up (p167.up p154.bd (one_not o155.no))
                have f100054 := f100053.up (p193.up p167.bd (fun _ x => x.elim))
                have f100055 := f100054.up (p225.up p193.bd (fun _ x => x.elim))
                have f100056 := f100055.up (p246.up p225.bd (one_not o226.no))
                exact ⟨t188.1.Cmd, t188.1.Wcc.Alarm, t188.1.Wcc.Unlock, t188.1.Wcc.Reset, t188.1.Orders, t188.2, b222, a194, c195, v199, I192, H, ⟨by kernel_rfl, by kernel_rfl, by kernel_rfl, by kernel_rfl, by kernel_rfl, by kernel_rfl, trivial⟩, pt248, f100024, f100029, f100031, fr203, o247, fr228, f100033, f100036, f100043, f100046, f100049, d213, d220, d243, d208, d209, d238, d242, (fun e => d234 e.symm), (fun e => d236 e.symm), f100056⟩
              · refine awpAt_op rfl (by kernel_rfl) (owp_alloc [.int .i64 0, .bool false, .bool false, .bool false, .slice none 0 0] (.agg #[.int .i64 0, .bool false, .bool false, .bool false, .slice none 0 0]) p167.bd (by kernel_rfl) (by kernel_rfl) ?_)
                intro b250 h251 hc252 p253 o254
                have pt255 := pt169.no p253
                have fr256 : No b250 ∨ h.size ≤ b250 := .inr (Nat.le_trans pt169.size hc252)
                have f257 := o69.post p110 (fun x => x.elim)
                have f258 := f257.post p135 (fun x => x.elim)
                have f259 := f258.post p154 (fun x => x.elim)
                have f260 := f259.post p167 (fun e => d160 e.symm)
                have d261 := ne_new f260.lt hc252
                have d262 := ne_new o168.lt hc252
                have f263 := f148.post p110.bd p135 (fun _ x => x.elim) (fun _ _ x => x.elim)
                have f264 := f263.post p135.bd p154 (fun _ x => x.elim) (fun _ _ x => x.elim)
                have f265 := f264.post p154.bd p167 (one_not o155.no) (dis_one d162)
                have d266 := notIn_new f265.lt hc252
                have f267 := r114.post p110.bd p135 (fun _ x => x.elim) (fun _ _ x => x.elim)
                have f268 := f267.post p135.bd p154 (fun _ x => x.elim) (fun _ _ x => x.elim)
                have f269 := f268.post p154.bd p167 (one_not o155.no) (dis_one d164)
                have d270 := notIn_new f269.lt hc252
                have f271 := r139.post p135.bd p154 (fun _ x => x.elim) (fun _ _ x => x.elim)
                have f272 := f271.post p154.bd p167 (one_not o155.no) (dis_one d165)
                have d273 := notIn_new f272.lt hc252
                have hK274 := Keep.post (M := No) Keep.refl (Nat.le_refl _) p253 (fun _ x => x.elim)
                refine ⟨hK274, ?_⟩
                have f275 := r178.up (p253.up p167.bd (fun _ x => x.elim))
                obtain ⟨t276, m277, H⟩ := bind_some H
                refine awp_op 10 (by kernel_rfl) rfl (by kernel_rfl) (owp_callF (by kernel_rfl) (stream_Read.calls (I := I134) (B := I134) p253.bd p253.bd (Rd.mono (I' := Or2 I134 I134) f275 (fun _ x => Or.inr x)) m277) ?_)
                rintro v278 h279 ⟨I280, a282, c283, v287, rfl, p281, r285, fr286, q289⟩
                have pt290 := pt255.no p281
                have fr291 := nw_step (M := No) (n := h.size) (fun _ x => x.elim) fr286 pt255.size
                have f292 := o69.post p110 (fun x => x.elim)
                have f293 := f292.post p135 (fun x => x.elim)
                have f294 := f293.post p154 (fun x => x.elim)
                have f295 := f294.post p167 (fun e => d160 e.symm)
                have f296 := f295.post p253 (fun x => x.elim)
                have d297 := step_blk fr286 f296.lt (fun x => x.elim)
                have f298 := o168.post p253 (fun x => x.elim)
                have d299 := step_blk fr286 f298.lt (fun x => x.elim)
                have d300 := step_blk fr286 o254.lt (fun x => x.elim)
                have f301 := f148.post p110.bd p135 (fun _ x => x.elim) (fun _ _ x => x.elim)
                have f302 := f301.post p135.bd p154 (fun _ x => x.elim) (fun _ _ x => x.elim)
                have f303 := f302.post p154.bd p167 (one_not o155.no) (dis_one d162)
                have f304 := f303.post p167.bd p253 (fun _ x => x.elim) (fun _ _ x => x.elim)
                have d305 := step_sl fr286 f304.lt (fun _ _ x => x.elim)
                have f306 := r114.post p110.bd p135 (fun _ x => x.elim) (fun _ _ x => x.elim)
                have f307 := f306.post p135.bd p154 (fun _ x => x.elim) (fun _ _ x => x.elim)
                have f308 := f307.post p154.bd p167 (one_not o155.no) (dis_one d164)
                have f309 := f308.post p167.bd p253 (fun _ x => x.elim) (fun _ _ x => x.elim)
                have d310 := step_sl fr286 f309.lt (fun _ _ x => x.elim)
                have f311 := r139.post p135.bd p154 (fun _ x => x.elim) (fun _ _ x => x.elim)
                have f312 := f311.post p154.bd p167 (one_not o155.no) (dis_one d165)
                have f313 := f312.post p167.bd p253 (fun _ x => x.elim) (fun _ _ x => x.elim)
                have d314 := step_sl fr286 f313.lt (fun _ _ x => x.elim)
                have hK315 := Keep.post (M := No) hK274 (Nat.le_trans (Nat.le_refl _) p253.size) p281 (fun _ x => x.elim)
                refine ⟨hK315, ?_⟩
                refine awp_run (fuel := 2) [11, 12, 13] hK315 (by kernel_rfl) ?_
                have f316 := o254.post p281 (fun x => x.elim)
                refine awp_op 15 (by kernel_rfl) rfl (by kernel_rfl) (owp_storeN 0 [.int .i64 t276.1.Cmd, .bool t276.1.Wcc.Alarm, .bool t276.1.Wcc.Unlock, .bool t276.1.Wcc.Reset, .slice a282 t276.1.Orders.length c283] p281.bd f316 (by kernel_rfl) (by kernel_rfl) (by simp [Value.oneCell']) (by kernel_rfl) (Nat.le_of_ble_eq_true rfl) ?_)
                intro h317 p318 o319
                have pt320 := pt290.own p318 (one_nw fr256)
                have hK321 := Keep.post (M := No) hK315 (Nat.le_trans (Nat.le_trans (Nat.le_refl _) p253.size) p281.size) p318 (one_nw (.inr (Nat.le_trans (Nat.le_refl _) hc252)))
                refine ⟨hK321, ?_⟩
                refine awp_run (fuel := 0) [16] hK321 (by kernel_rfl) ?_
                refine awp_nil (by kernel_rfl) ?_ 0
                have f100057 := ErrV.up (p135.up p110.bd (fun _ x => x.elim)) q118
                have f100058 := ErrV.up (p154.up p135.bd (fun _ x => x.elim)) f100057
                have f100059 := ErrV.up (p167.up p154.bd (one_not o155.no)) f100058
                have f100060 := ErrV.up (p253.up p167.bd (fun _ x => x.elim)) f100059
                have f100061 := ErrV.up (p281.up p253.bd (fun _ x => x.elim)) f100060
                have f100062 := ErrV.up (p318.up p281.bd (one_not f316.no)) f100061
                have f100063 := ErrV.up (p154.up p135.bd (fun _ x => x.elim)) q143
                have f100064 := ErrV.up (p167.up p154.bd (one_not o155.no)) f100063
                have f100065 := ErrV.up (p253.up p167.bd (fun _ x => x.elim)) f100064
                have f100066 := ErrV.up (p281.up p253.bd (fun _ x => x.elim)) f100065
                have f100067 := ErrV.up (p318.up p281.bd (one_not f316.no)) f100066
                have f100068 := r285.post p281.bd p318 (one_not f316.no) (dis_one d300)
                have f100069 := ErrV.up (p318.up p281.bd (one_not f316.no)) q289
                have f100070 := f304.post p253.bd p281 (fun _ x => x.elim) (fun _ _ x => x.elim)
                have f100071 := f100070.post p281.bd p318 (one_not f316.no) (dis_one d266)
                have f100072 := o69.post p110 (fun x => x.elim)
                have f100073 := f100072.post p135 (fun x => x.elim)
                have f100074 := f100073.post p154 (fun x => x.elim)
                have f100075 := f100074.post p167 (fun e => d160 e.symm)
                have f100076 := f100075.post p253 (fun x => x.elim)
                have f100077 := f100076.post p281 (fun x => x.elim)
                have f100078 := f100077.post p318 (fun e => d261 e.symm)
                have f100079 := f313.post p253.bd p281 (fun _ x => x.elim) (fun _ _ x => x.elim)
                have f100080 := f100079.post p281.bd p318 (one_not f316.no) (dis_one d273)
                have f100081 := o168.post p253 (fun x => x.elim)
                have f100082 := f100081.post p281 (fun x => x.elim)
                have f100083 := f100082.post p318 (fun e => d262 e.symm)
                have f100084 := g70.up (p110.up pt63.bd (fun _ x => x.elim))
                have f100085 := f100084.up (p135.up p110.bd (fun _ x => x.elim))
                have f100086 := f100085.up (p154.up p135.bd (fun _ x => x.elim))
                have f100087 := f100086.up (p167.up p154.bd (one_not o155.no))
                have f100088 := f100087.up (p253.up p167.bd (fun _ x => x.elim))
                have f100089 := f100088.up (p281.up p253.bd (fun _ x => x.elim))
                have f100090 := f100089.up (p318.up p281.bd (one_not f316.no))
                exact ⟨t276.1.Cmd, t276.1.Wcc.Alarm, t276.1.Wcc.Unlock, t276.1.Wcc.Reset, t276.1.Orders, t276.2, b250, a282, c283, v287, I280, H, ⟨by kernel_rfl, by kernel_rfl, by kernel_rfl, by kernel_rfl, by kernel_rfl, by kernel_rfl, trivial⟩, pt320, f100062, f100067, f100068, fr291, o319, fr256, f100069, f100071, f100078, f100080, f100083, d305, d314, d300, d297, d299, d266, d273, (fun e => d261 e.symm), (fun e => d262 e.symm), f100090⟩
            · refine awpAt_op rfl (by kernel_rfl) (owp_alloc [.int .i64 0, .bool false, .bool false, .bool false, .slice none 0 0] (.agg #[.int .i64 0, .bool false, .bool false, .bool false, .slice none 0 0]) p167.bd (by kernel_rfl) (by kernel_rfl) ?_)
              intro b322 h323 hc324 p325 o326
              have pt327 := pt169.no p325
              have fr328 : No b322 ∨ h.size ≤ b322 := .inr (Nat.le_trans pt169.size hc324)
              have f329 := o69.post p110 (fun x => x.elim)
              have f330 := f329.post p135 (fun x => x.elim)
              have f331 := f330.post p154 (fun x => x.elim)
              have f332 := f331.post p167 (fun e => d160 e.symm)
              have d333 := ne_new f332.lt hc324
              have d334 := ne_new o168.lt hc324
              have f335 := f148.post p110.bd p135 (fun _ x => x.elim) (fun _ _ x => x.elim)
              have f336 := f335.post p135.bd p154 (fun _ x => x.elim) (fun _ _ x => x.elim)
              have f337 := f336.post p154.bd p167 (one_not o155.no) (dis_one d162)
              have d338 := notIn_new f337.lt hc324
              have f339 := r114.post p110.bd p135 (fun _ x => x.elim) (fun _ _ x => x.elim)
              have f340 := f339.post p135.bd p154 (fun _ x => x.elim) (fun _ _ x => x.elim)
              have f341 := f340.post p154.bd p167 (one_not o155.no) (dis_one d164)
              have d342 := notIn_new f341.lt hc324
              have f343 := r139.post p135.bd p154 (fun _ x => x.elim) (fun _ _ x => x.elim)
              have f344 := f343.post p154.bd p167 (one_not o155.no) (dis_one d165)
              have d345 := notIn_new f344.lt hc324
              have hK346 := Keep.post (M := No) Keep.refl (Nat.le_refl _) p325 (fun _ x => x.elim)
              refine ⟨hK346, ?_⟩
              obtain ⟨t347, m348, H⟩ := bind_some H
              refine awp_op 9 (by kernel_rfl) rfl (by kernel_rfl) (owp_callF (by kernel_rfl) (shutterlaw08_size.calls (I := I134) p325.bd m348) ?_)
              rintro v349 h350 ⟨_, rfl, rfl⟩
              refine ⟨hK346, ?_⟩
              have f353 := r178.up (p325.up p167.bd (fun _ x => x.elim))
              obtain ⟨t354, m355, H⟩ := bind_some H
              refine awp_op 10 (by kernel_rfl) rfl (by kernel_rfl) (owp_callF (by kernel_rfl) (stream_Read.calls (I := I134) (B := I134) p325.bd p325.bd (Rd.mono (I' := Or2 I134 I134) f353 (fun _ x => Or.inr x)) m355) ?_)
              rintro v356 h357 ⟨I358, a360, c361, v365, rfl, p359, r363, fr364, q367⟩
              have pt368 := pt327.no p359
              have fr369 := nw_step (M := No) (n := h.size) (fun _ x => x.elim) fr364 pt327.size
              have f370 := o69.post p110 (fun x => x.elim)
              have f371 := f370.post p135 (fun x => x.elim)
              have f372 := f371.post p154 (fun x => x.elim)
              have f373 := f372.post p167 (fun e => d160 e.symm)
              have f374 := f373.post p325 (fun x => x.elim)
              have d375 := step_blk fr364 f374.lt (fun x => x.elim)
              have f376 := o168.post p325 (fun x => x.elim)
              have d377 := step_blk fr364 f376.lt (fun x => x.elim)
              have d378 := step_blk fr364 o326.lt (fun x => x.elim)
              have f379 := f148.post p110.bd p135 (fun _ x => x.elim) (fun _ _ x => x.elim)
              have f380 := f379.post p135.bd p154 (fun _ x => x.elim) (fun _ _ x => x.elim)
              have f381 := f380.post p154.bd p167 (one_not o155.no) (dis_one d162)
              have f382 := f381.post p167.bd p325 (fun _ x => x.elim) (fun _ _ x => x.elim)
              have d383 := step_sl fr364 f382.lt (fun _ _ x => x.elim)
              have f384 := r114.post p110.bd p135 (fun _ x => x.elim) (fun _ _ x => x.elim)
              have f385 := f384.post p135.bd p154 (fun _ x => x.elim) (fun _ _ x => x.elim)
              have f386 := f385.post p154.bd p167 (one_not o155.no) (dis_one d164)
              have f387 := f386.post p167.bd p325 (fun _ x => x.elim) (fun _ _ x => x.elim)
              have d388 := step_sl fr364 f387.lt (fun _ _ x => x.elim)
              have f389 := r139.post p135.bd p154 (fun _ x => x.elim) (fun _ _ x => x.elim)
              have f390 := f389.post p154.bd p167 (one_not o155.no) (dis_one d165)
              have f391 := f390.post p167.bd p325 (fun _ x => x.elim) (fun _ _ x => x.elim)
              have d392 := step_sl fr364 f391.lt (fun _ _ x => x.elim)
              have hK393 := Keep.post (M := No) hK346 (Nat.le_trans (Nat.le_refl _) p325.size) p359 (fun _ x => x.elim)
              refine ⟨hK393, ?_⟩
              refine awp_run (fuel := 2) [11, 12, 13] hK393 (by kernel_rfl) ?_
              have f394 := o326.post p359 (fun x => x.elim)
              refine awp_op 15 (by kernel_rfl) rfl (by kernel_rfl) (owp_storeN 0 [.int .i64 t354.1.Cmd, .bool t354.1.Wcc.Alarm, .bool t354.1.Wcc.Unlock, .bool t354.1.Wcc.Reset, .slice a360 t354.1.Orders.length c361] p359.bd f394 (by kernel_rfl) (by kernel_rfl) (by simp [Value.oneCell']) (by kernel_rfl) (Nat.le_of_ble_eq_true rfl) ?_)
              intro h395 p396 o397
              have pt398 := pt368.own p396 (one_nw fr328)
              have hK399 := Keep.post (M := No) hK393 (Nat.le_trans (Nat.le_trans (Nat.le_refl _) p325.size) p359.size) p396 (one_nw (.inr (Nat.le_trans (Nat.le_refl _) hc324)))
              refine ⟨hK399, ?_⟩
              refine awp_run (fuel := 0) [16] hK399 (by kernel_rfl) ?_
              refine awp_nil (by kernel_rfl) ?_ 0
              have f100091 := ErrV.up (p135.up p110.bd (fun _ x => x.elim)) q118
              have f100092 := ErrV.up (p154.up p135.bd (fun _ x => x.elim)) f100091
              have f100093 := ErrV.up (p167.up p154.bd (one_not o155.no)) f100092
              have f100094 := ErrV.up (p325.up p167.bd (fun _ x => x.elim)) f100093
              have f100095 := ErrV.up (p359.up p325.bd (fun _ x => x.elim)) f100094
              have f100096 := ErrV.up (p396.up p359.bd (one_not f394.no)) f100095
              have f100097 := ErrV.up (p154.up p135.bd (fun _ x => x.elim)) q143
              have f100098 := ErrV.up (p167.up p154.bd (one_not o155.no)) f100097
              have f100099 := ErrV.up (p325.up p167.bd (fun _ x => x.elim)) f100098
              have f100100 := ErrV.up (p359.up p325.bd (fun _ x => x.elim)) f100099
              have f100101 := ErrV.up (p396.up p359.bd (one_not f394.no)) f100100
              have f100102 := r363.post p359.bd p396 (one_not f394.no) (dis_one d378)
              have f100103 := ErrV.up (p396.up p359.bd (one_not f394.no)) q367
              have f100104 := f382.post p325.bd p359 (fun _ x => x.elim) (fun _ _ x => x.elim)
              have f100105 := f100104.post p359.bd p396 (one_not f394.no) (dis_one d338)
              have f100106 := o69.post p110 (fun x => x.elim)
              have f100107 := f100106.post p135 (fun x => x.elim)
              have f100108 := f100107.post p154 (fun x => x.elim)
              have f100109 := f100108.post p167 (fun e => d160 e.symm)
              have f100110 := f100109.post p325 (fun x => x.elim)
              have f100111 := f100110.post p359 (fun x => x.elim)
              have f100112 := f100111.post p396 (fun e => d333 e.symm)
              have f100113 := f391.post p325.bd p359 (fun _ x => x.elim) (fun _ _ x => x.elim)
              have f100114 := f100113.post p359.bd p396 (one_not f394.no) (dis_one d345)
              have f100115 := o168.post p325 (fun x => x.elim)
              have f100116 := f100115.post p359 (fun x => x.elim)
              have f100117 := f100116.post p396 (fun e => d334 e.symm)
              have f100118 := g70.up (p110.up pt63.bd (fun _ x => x.elim))
              have f100119 := f100118.up (p135.up p110.bd (fun _ x => x.elim))
              have f100120 := f100119.up (p154.up p135.bd (fun _ x => x.elim))
              have f100121 := f100120.up (p167.up p154.bd (one_not o155.no))
              have f100122 := f100121.up (p325.up p167.bd (fun _ x => x.elim))
              have f100123 := f100122.up (p359.up p325.bd (fun _ x => x.elim))
              have f100124 := f100123.up (p396.up p359.bd (one_not f394.no))
              exact ⟨t354.1.Cmd, t354.1.Wcc.Alarm, t354.1.Wcc.Unlock, t354.1.Wcc.Reset, t354.1.Orders, t354.2, b322, a360, c361, v365, I358, H, ⟨by kernel_rfl, by kernel_rfl, by kernel_rfl, by kernel_rfl, by kernel_rfl, by kernel_rfl, trivial⟩, pt398, f100096, f100101, f100102, fr369, o397, fr328, f100103, f100105, f100112, f100114, f100117, d383, d392, d378, d375, d377, d338, d345, (fun e => d333 e.symm), (fun e => d334 e.symm), f100124⟩
          · clear H
            rintro ρ' h400 ⟨x406, x407, x408, x409, x410, x418, b405, a411, c412, v419, I401, H, hf, pt402, q403, q404, r413, fr415, o416, fr417, q420, r422, o423, r424, o425, d426, d427, d428, d429, d430, d431, d432, d433, d434, g435⟩
            refine cwp_fits _ hf ?_
            subst e457
            try dsimp only at H
            refine cwp_seq ?_
            refine cwp_seq ?_
            refine cwp_region ?_
            refine lwp_run 1 (by kernel_rfl) ?_
            rcases q403.cases with ⟨c437, rfl⟩ | ⟨c437, t438, u439, rfl⟩
            · rw [if_pos c437] at H
              refine lwp_run 3 (by kernel_rfl) ?_
              rcases q404.cases with ⟨c440, rfl⟩ | ⟨c440, t441, u442, rfl⟩
              · rw [if_pos c440] at H
                refine lwp_run 3 (by kernel_rfl) ?_
                refine lwp_op (by kernel_rfl) (owp_loadN (by kernel_rfl) (by kernel_rfl) (by kernel_rfl) (o423.seg_ 0 5 (Nat.le_of_ble_eq_true rfl)) ?_)
                refine lwp_op (by kernel_rfl) (owp_loadN (by kernel_rfl) (by kernel_rfl) (by kernel_rfl) (o425.seg_ 0 5 (Nat.le_of_ble_eq_true rfl)) ?_)
                obtain ⟨t443, m444, H⟩ := bind_some H
                refine lwp_op (by kernel_rfl) (owp_callF (by kernel_rfl) (stream_Same.calls (I := (Fz (Fz I401 a34) a136)) (bd_fz r424 (bd_fz r422 pt402.bd)) (Rd.mono (I' := (Fz (Fz I401 a34) a136)) r422.rd (fun _ x => (Or.inl x))) (Rd.mono (I' := (Fz (Fz I401 a34) a136)) r424.rd (fun _ x => (Or.elim x (fun x => (Or.inl (Or.inl x))) (fun x => (Or.inr x))))) m444) ?_)
                rintro v445 h446 ⟨I447, rfl, p448⟩
                have p449 := Pst.forget p448 pt402.bd
                have pt450 := pt402.no p449
                cases t443
                · rw [cond_false] at H
                  refine lwp_run 2 (by kernel_rfl) ?_
                  refine lwp_nil ?_
                  refine cwp_true (by kernel_rfl) ?_
                  refine cwp_seq ?_
                  refine cwp_region ?_
                  refine lwp_run 1 (by kernel_rfl) ?_
                  refine lwp_nil ?_
                  refine cwp_ret ?_
                  obtain rfl := Option.some.inj H
                  show Exists _
                  exact ⟨.bool false, by kernel_rfl, I401, rfl, pt450⟩
                · rw [cond_true] at H
                  refine lwp_run 2 (by kernel_rfl) ?_
                  refine lwp_nil ?_
                  refine cwp_false (by kernel_rfl) ?_
                  refine cwp_skip ?_
                  refine cwp_seq ?_
                  refine cwp_region ?_
                  refine lwp_run 1 (by kernel_rfl) ?_
                  have f451 := ErrV.up (p449.up pt402.bd (fun _ x => x.elim)) q420
                  rcases f451.cases with ⟨c452, rfl⟩ | ⟨c452, t453, u454, rfl⟩
                  · rw [if_pos c452] at H
                    refine lwp_run 3 (by kernel_rfl) ?_
                    have f455 := o416.post p449 (fun x => x.elim)
                    refine lwp_op (by kernel_rfl) (owp_load (by kernel_rfl) (by kernel_rfl) (f455.cell (off := 4) rfl) ?_)
                    refine lwp_run 2 (by kernel_rfl) ?_
                    have f456 := o423.post p449 (fun x => x.elim)
                    refine lwp_op (by kernel_rfl) (owp_load (by kernel_rfl) (by kernel_rfl) (f456.cell (off := 4) rfl) ?_)
                    refine lwp_run 4 (by kernel_rfl) ?_
                    refine lwp_nil ?_
                    refine cwp_ret ?_
                    obtain rfl := Option.some.inj H
                    show Exists _
                    exact ⟨.bool (decide ((x410.length : Int) ≤ (t28.1.Orders.length : Int))), by kernel_rfl, I401, rfl, pt450⟩
                  · rw [if_neg c452] at H
                    refine lwp_run 11 (by kernel_rfl) ?_
                    refine lwp_nil ?_
                    refine cwp_ret ?_
                    obtain rfl := Option.some.inj H
                    show Exists _
                    exact ⟨.bool true, by kernel_rfl, I401, rfl, pt450⟩
              · rw [if_neg c440] at H
                refine lwp_run 8 (by kernel_rfl) ?_
                refine lwp_nil ?_
                refine cwp_true (by kernel_rfl) ?_
                refine cwp_seq ?_
                refine cwp_region ?_
                refine lwp_run 1 (by kernel_rfl) ?_
                refine lwp_nil ?_
                refine cwp_ret ?_
                obtain rfl := Option.some.inj H
                show Exists _
                exact ⟨.bool false, by kernel_rfl, I401, rfl, pt402⟩
            · rw [if_neg c437] at H
              refine lwp_run 11 (by kernel_rfl) ?_
              refine lwp_nil ?_
              refine cwp_true (by kernel_rfl) ?_
              refine cwp_seq ?_
              refine cwp_region ?_
              refine lwp_run 1 (by kernel_rfl) ?_
              refine lwp_nil ?_
              refine cwp_ret ?_
              obtain rfl := Option.some.inj H
              show Exists _
              exact ⟨.bool false, by kernel_rfl, I401, rfl, pt402⟩
        · rw [cond_true] at H
          refine cwp_true (by kernel_rfl) ?_
          refine cwp_seq ?_
          refine cwp_region ?_
          refine lwp_run 1 (by kernel_rfl) ?_
          obtain ⟨t72, m73, H⟩ := bind_some H
          refine lwp_op (by kernel_rfl) (owp_callF (by kernel_rfl) (api_Code.calls (I := I62) pt63.bd g70 q65 m73) ?_)
          rintro v74 h75 ⟨I76, rfl, p77⟩
          have pt78 := pt63.no p77
          by_cases c79 : t72 = 0
          · rw [if_pos c79] at H
            refine lwp_op (by kernel_rfl) (owp_pure ((.bool false)) (pr_bool (by kernel_rfl) (neF c79)) ?_)
            refine lwp_run 13 (by kernel_rfl) ?_
            refine lwp_nil ?_
            refine cwp_ret ?_
            obtain rfl := Option.some.inj H
            show Exists _
            exact ⟨.bool false, by kernel_rfl, I76, rfl, pt78⟩
          · rw [if_neg c79] at H
            refine lwp_op (by kernel_rfl) (owp_pure ((.bool true)) (pr_bool (by kernel_rfl) (neT c79)) ?_)
            refine lwp_run 2 (by kernel_rfl) ?_
            have f80 := ErrV.up (p77.up pt63.bd (fun _ x => x.elim)) q65
            obtain ⟨t81, m82, H⟩ := bind_some H
            have f83 := g70.up (p77.up pt63.bd (fun _ x => x.elim))
            refine lwp_op (by kernel_rfl) (owp_callF (by kernel_rfl) (api_Where.calls (I := I76) p77.bd f83 f80 m82) ?_)
            rintro v84 h85 ⟨I86, rfl, p87⟩
            have pt88 := pt78.no p87
            by_cases c89 : t81 ≥ 0
            · rw [if_pos c89] at H
              refine lwp_op (by kernel_rfl) (owp_pure ((.bool true)) (pr_bool (by kernel_rfl) (decide_eq_true c89)) ?_)
              refine lwp_run 3 (by kernel_rfl) ?_
              have f90 := ErrV.up (p87.up p77.bd (fun _ x => x.elim)) f80
              obtain ⟨t91, m92, H⟩ := bind_some H
              have f93 := f83.up (p87.up p77.bd (fun _ x => x.elim))
              refine lwp_op (by kernel_rfl) (owp_callF (by kernel_rfl) (api_Where.calls (I := I86) p87.bd f93 f90 m92) ?_)
              rintro v94 h95 ⟨I96, rfl, p97⟩
              have pt98 := pt88.no p97
              refine lwp_run 5 (by kernel_rfl) ?_
              refine lwp_nil ?_
              refine cwp_ret ?_
              obtain rfl := Option.some.inj H
              show Exists _
              exact ⟨.bool (decide (t91 ≤ (x0.length : Int))), by kernel_rfl, I96, rfl, pt98⟩
            · rw [if_neg c89] at H
              refine lwp_op (by kernel_rfl) (owp_pure ((.bool false)) (pr_bool (by kernel_rfl) (decide_eq_false c89)) ?_)
              refine lwp_run 9 (by kernel_rfl) ?_
              refine lwp_nil ?_
              refine cwp_ret ?_
              obtain rfl := Option.some.inj H
              show Exists _
              exact ⟨.bool false, by kernel_rfl, I86, rfl, pt88⟩

end Go.Proofs.YtociikgdocjfnaaDoor.Sx
