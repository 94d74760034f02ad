/- Printed walks, part 3: each function's model, and that the code comes to it. -/
import Derived.Test.YtenlbpcfilmgpaaDoorProg
import Derived.Test.YtenlbpcfilmgpaaDoorSx9
import Derived.Test.YtenlbpcfilmgpaaDoorG2
namespace Go.Proofs.YtenlbpcfilmgpaaDoor.Sx
open Go

/-! shutter/shutterlaw06.BytesActs -/
def shutterlaw06_BytesActs.l2.m (K : Nat) (x0 : (List Int)) (x62 : Int) (x63 : Int) : Nat → Int → Option (Int)
  | 0, _ => none
  | k + 1, x385 => (if x63 = 0 then (if (w64 (x62 + x385)) < (x0.length : Int) then (if 0 ≤ (w64 (x62 + x385)) then ((shutterref05_Char.m (at_ x0 (w64 (x62 + x385)))).bind fun t412 => bif t412 then (shutterlaw06_BytesActs.l2.m K x0 x62 x63 k (w64 (x385 + 1))) else (some (x385))) else none) else (some (x385))) else (some (x385)))
def shutterlaw06_BytesActs.l1.m (K : Nat) (x0 : (List Int)) (x1 : Int) (x2 : (List shutterlaw06_Act)) : Nat → Int → Int → Int → Int → (List Int) → Int → GoErr → Option (Bool ⊕ ((List Int) × Int × GoErr))
  | 0, _, _, _, _, _, _, _ => none
  | k + 1, x62, x63, x64, x65, x66, x71, x72 => (if x65 < (x2.length : Int) then (letJ (fun (x532 : Int) (x533 : Int) (x534 : Int) (x535 : List Int) (x540 : Int) (x541 : GoErr) => ((bytes_Cursor_At.m (⟨x535, x540, x541⟩ : bytes_Cursor)).bind fun t548 => (if t548.1 = x532 then ((bytes_Cursor_Left.m t548.2).bind fun t565 => (if t565.1 = (w64 ((x0.length : Int) - x532)) then ((bytes_Cursor_Err.m t565.2).bind fun t582 => ((api_Code.m t582.1).bind fun t601 => (if t601 = x533 then ((bytes_Cursor_Err.m t582.2).bind fun t616 => ((api_Where.m t616.1).bind fun t635 => (if t635 = x534 then (shutterlaw06_BytesActs.l1.m K x0 x1 x2 k x532 x533 x534 (w64 (x65 + 1)) t616.2.b' t616.2.at' t616.2.err') else (some (Sum.inl false))))) else (some (Sum.inl false))))) else (some (Sum.inl false)))) else (some (Sum.inl false))))) fun (j547 : Int → Int → Int → (List Int) → Int → GoErr → Option (Bool ⊕ ((List Int) × Int × GoErr))) => (if 0 ≤ x65 then (letJ (fun (x110 : Bool) => (bif x110 then (letJ (fun (x127 : Int) => (letJ (fun (x192 : List Int) (x198 : List Int) (x203 : Int) (x204 : GoErr) => (letJ (fun (x220 : Int) (x221 : Int) => (letJ (fun (x235 : Bool) => (bif x235 then (if (at_ x2 x65).Do = 1 then (if (x192.length : Int) = 0 then (if (at_ x2 x65).Do = 0 then (if 0 < (x192.length : Int) then (if (at_ x192 0) = 0 then (j547 x62 x220 x221 x198 x203 x204) else (some (Sum.inl false))) else none) else (j547 x62 x220 x221 x198 x203 x204)) else (some (Sum.inl false))) else (if (at_ x2 x65).Do = 0 then (if 0 < (x192.length : Int) then (if (at_ x192 0) = 0 then (j547 x62 x220 x221 x198 x203 x204) else (some (Sum.inl false))) else none) else (j547 x62 x220 x221 x198 x203 x204))) else (if 0 ≤ x62 then (if x62 ≤ (w64 (x62 + x127)) then (if (w64 (x62 + x127)) ≤ (x0.length : Int) then ((shutterref01_Same.m K x192 (sub x0 x62 (w64 (x62 + x127)))).bind fun t276 => bif t276 then (j547 (w64 (x62 + x127)) x220 x221 x198 x203 x204) else (some (Sum.inl false))) else none) else none) else none))) fun (j240 : Bool → Option (Bool ⊕ ((List Int) × Int × GoErr))) => (if x220 = 0 then (j240 false) else (j240 true)))) fun (j227 : Int → Int → Option (Bool ⊕ ((List Int) × Int × GoErr))) => (if x63 = 0 then (if x127 < 0 then (j227 2 x62) else (if x127 > (w64 ((x0.length : Int) - x62)) then (j227 2 x62) else (j227 x63 x64))) else (j227 x63 x64)))) fun (j211 : (List Int) → (List Int) → Int → GoErr → Option (Bool ⊕ ((List Int) × Int × GoErr))) => (if (at_ x2 x65).Do = 1 then ((bytes_Cursor_Take.m (⟨x66, x71, x72⟩ : bytes_Cursor) x127).bind fun t138 => (j211 t138.1 t138.2.b' t138.2.at' t138.2.err')) else ((bytes_Cursor_Byte.m (⟨x66, x71, x72⟩ : bytes_Cursor)).bind fun t161 => (j211 [t161.1] t161.2.b' t161.2.at' t161.2.err'))))) fun (j132 : Int → Option (Bool ⊕ ((List Int) × Int × GoErr))) => (if (at_ x2 x65).Do = 1 then (j132 ((at_ x2 x65).N)) else (j132 1))) else (letJ (fun (x292 : Bool) => (bif x292 then ((bytes_Cursor_Addr.m K (⟨x66, x71, x72⟩ : bytes_Cursor) x1).bind fun t298 => (letJ (fun (x320 : Bool) => (bif x320 then (if 0 ≤ x62 then (if x62 ≤ (x0.length : Int) then ((shutterref04_Get.m K (sub x0 x62 (x0.length : Int)) x1).bind fun t333 => (if t333.2.1 = 0 then (if t298.1 = t333.1 then (j547 (w64 (x62 + 2)) x63 x64 t298.2.b' t298.2.at' t298.2.err') else (some (Sum.inl false))) else (if t298.1 = 0 then (j547 x62 t333.2.1 x62 t298.2.b' t298.2.at' t298.2.err') else (some (Sum.inl false))))) else none) else none) else (if t298.1 = 0 then (j547 x62 x63 x64 t298.2.b' t298.2.at' t298.2.err') else (some (Sum.inl false))))) fun (j325 : Bool → Option (Bool ⊕ ((List Int) × Int × GoErr))) => (if x63 = 0 then (j325 true) else (j325 false)))) else (letJ (fun (x350 : Bool) => (bif x350 then ((bytes_Cursor_Chars.m K (⟨x66, x71, x72⟩ : bytes_Cursor)).bind fun t356 => (letJ (fun (x409 : Int) => (if 0 ≤ x62 then (if x62 ≤ (w64 (x62 + x409)) then (if (w64 (x62 + x409)) ≤ (x0.length : Int) then ((shutterref01_Same.m K t356.1 (sub x0 x62 (w64 (x62 + x409)))).bind fun t428 => bif t428 then (j547 (w64 (x62 + x409)) x63 x64 t356.2.b' t356.2.at' t356.2.err') else (some (Sum.inl false))) else none) else none) else none)) fun (j414 : Int → Option (Bool ⊕ ((List Int) × Int × GoErr))) => ((shutterlaw06_BytesActs.l2.m K x0 x62 x63 K 0).bind fun x398 => (j414 x398)))) else (letJ (fun (x441 : Bool) => (bif x441 then ((bytes_Cursor_Fail.m (⟨x66, x71, x72⟩ : bytes_Cursor) (GoErr.no 5)).bind fun t447 => (if x63 = 0 then (j547 x62 5 x62 t447.b' t447.at' t447.err') else (j547 x62 x63 x64 t447.b' t447.at' t447.err'))) else (letJ (fun (x486 : Int) (x487 : Bool) (x488 : List Int) (x493 : Int) (x494 : GoErr) => (if x63 = 0 then (bif (x487 != (decide (x62 < (x0.length : Int)))) then (some (Sum.inl false)) else (bif x487 then (if 0 ≤ x62 then (if x62 < (x0.length : Int) then (if x486 = (at_ x0 x62) then (j547 x62 x63 x64 x488 x493 x494) else (some (Sum.inl false))) else none) else none) else (if x486 = 0 then (j547 x62 x63 x64 x488 x493 x494) else (some (Sum.inl false))))) else (bif (x487 != false) then (some (Sum.inl false)) else (bif x487 then (if 0 ≤ x62 then (if x62 < (x0.length : Int) then (if x486 = (at_ x0 x62) then (j547 x62 x63 x64 x488 x493 x494) else (some (Sum.inl false))) else none) else none) else (if x486 = 0 then (j547 x62 x63 x64 x488 x493 x494) else (some (Sum.inl false))))))) fun (j500 : Int → Bool → (List Int) → Int → GoErr → Option (Bool ⊕ ((List Int) × Int × GoErr))) => ((bytes_Cursor_Peek.m (⟨x66, x71, x72⟩ : bytes_Cursor)).bind fun t464 => (bif t464.2.1 then (j500 t464.1 true t464.2.2.b' t464.2.2.at' t464.2.2.err') else (j500 t464.1 false t464.2.2.b' t464.2.2.at' t464.2.2.err')))))) fun (j446 : Bool → Option (Bool ⊕ ((List Int) × Int × GoErr))) => (if (at_ x2 x65).Do = 4 then (j446 true) else (j446 false))))) fun (j355 : Bool → Option (Bool ⊕ ((List Int) × Int × GoErr))) => (if (at_ x2 x65).Do = 3 then (j355 true) else (j355 false))))) fun (j297 : Bool → Option (Bool ⊕ ((List Int) × Int × GoErr))) => (if (at_ x2 x65).Do = 2 then (j297 true) else (j297 false))))) fun (j115 : Bool → Option (Bool ⊕ ((List Int) × Int × GoErr))) => (if (at_ x2 x65).Do = 0 then (j115 true) else (if (at_ x2 x65).Do = 1 then (j115 true) else (j115 false)))) else none)) else (some (Sum.inr (x66, x71, x72))))
def shutterlaw06_BytesActs.m (K : Nat) (x0 : (List Int)) (x1 : Int) (x2 : (List shutterlaw06_Act)) : Option Bool :=
  ((shutterlaw06_awake.m K).bind fun t9 => bif t9 then (if (x0.length : Int) > 300 then ((shutterlaw06_awake.m K).bind fun t18 => (some t18)) else (if (x2.length : Int) > 60 then ((shutterlaw06_awake.m K).bind fun t28 => (some t28)) else ((bytes_New.m x0).bind fun t38 => ((shutterlaw06_BytesActs.l1.m K x0 x1 x2 K 0 0 (-1) 0 t38.b' t38.at' t38.err').bind fun s79 => match s79 with | .inl q => (some q) | .inr (x83, x88, x89) => (some true))))) else ((shutterlaw06_awake.m K).bind fun t652 => (some t652)))

set_option maxRecDepth 100000 in
theorem shutterlaw06_BytesActs.calls {I : Gh} {h : Heap} {K : Nat} {x0 : List Int} {a1 : Option Addr} {c2 : Nat} {x1 : Int} {x2 : List shutterlaw06_Act} {a5 : Option Addr} {c6 : Nat} (hB : Bd I h) (hG : Glob I h) (r4 : Rd (tInt .u8) I h a1 c2 x0) (r8 : Rd t_shutterlaw06_Act I h a5 c6 x2) {r : Bool}
    (H : shutterlaw06_BytesActs.m K x0 x1 x2 = some r) :
    Ret Tryd.prog 9 #[.slice a1 x0.length c2, .int .i64 x1, .slice a5 x2.length c6] h (fun v h' => ∃ (I' : Gh), .bool r = v ∧ Pst No I h I' h') := by
  unfold shutterlaw06_BytesActs.m at H
  refine ret_of (args := [.slice a1 x0.length c2, .int .i64 x1, .slice a5 x2.length c6]) (rs := [.tmp 6]) (N := 263) Tryd.func9 rfl rfl rfl (Nat.le_of_ble_eq_true rfl) ?_
  have pt0 : Pst No I h I h := Pst.refl hB
  refine cwp_seq ?_
  refine cwp_region ?_
  refine lwp_run 1 (by kernel_rfl) ?_
  refine lwp_nil ?_
  refine cwp_seq ?_
  refine cwp_seq ?_
  refine cwp_region ?_
  obtain ⟨t9, m10, H⟩ := bind_some H
  refine lwp_op (by kernel_rfl) (owp_callF (by kernel_rfl) (shutterlaw06_awake.calls hB hG m10) ?_)
  rintro v11 h12 ⟨I13, rfl, p14⟩
  have pt16 := pt0.no p14
  cases t9
  · rw [cond_false] at H
    refine lwp_run 11 (by kernel_rfl) ?_
    refine lwp_nil ?_
    refine cwp_true (by kernel_rfl) ?_
    refine cwp_seq ?_
    refine cwp_region ?_
    obtain ⟨t652, m653, H⟩ := bind_some H
    have f654 := hG.up (p14.up hB (fun _ x => x.elim))
    refine lwp_op (by kernel_rfl) (owp_callF (by kernel_rfl) (shutterlaw06_awake.calls p14.bd f654 m653) ?_)
    rintro v655 h656 ⟨I657, rfl, p658⟩
    have pt660 := pt16.no p658
    refine lwp_run 1 (by kernel_rfl) ?_
    refine lwp_nil ?_
    refine cwp_ret ?_
    obtain rfl := Option.some.inj H
    show Exists _
    exact ⟨.bool t652, by kernel_rfl, I657, rfl, pt660⟩
  · rw [cond_true] at H
    refine lwp_run 4 (by kernel_rfl) ?_
    by_cases c17 : (x0.length : Int) > 300
    · rw [if_pos c17] at H
      refine lwp_op (by kernel_rfl) (owp_pure ((.bool true)) (pr_bool (by kernel_rfl) (decide_eq_true c17)) ?_)
      refine lwp_run 6 (by kernel_rfl) ?_
      refine lwp_nil ?_
      refine cwp_true (by kernel_rfl) ?_
      refine cwp_seq ?_
      refine cwp_region ?_
      obtain ⟨t18, m19, H⟩ := bind_some H
      have f20 := hG.up (p14.up hB (fun _ x => x.elim))
      refine lwp_op (by kernel_rfl) (owp_callF (by kernel_rfl) (shutterlaw06_awake.calls p14.bd f20 m19) ?_)
      rintro v21 h22 ⟨I23, rfl, p24⟩
      have pt26 := pt16.no p24
      refine lwp_run 1 (by kernel_rfl) ?_
      refine lwp_nil ?_
      refine cwp_ret ?_
      obtain rfl := Option.some.inj H
      show Exists _
      exact ⟨.bool t18, by kernel_rfl, I23, rfl, pt26⟩
    · rw [if_neg c17] at H
      refine lwp_op (by kernel_rfl) (owp_pure ((.bool false)) (pr_bool (by kernel_rfl) (decide_eq_false c17)) ?_)
      refine lwp_run 4 (by kernel_rfl) ?_
      by_cases c27 : (x2.length : Int) > 60
      · rw [if_pos c27] at H
        refine lwp_op (by kernel_rfl) (owp_pure ((.bool true)) (pr_bool (by kernel_rfl) (decide_eq_true c27)) ?_)
        refine lwp_run 1 (by kernel_rfl) ?_
        refine lwp_nil ?_
        refine cwp_true (by kernel_rfl) ?_
        refine cwp_seq ?_
        refine cwp_region ?_
        obtain ⟨t28, m29, H⟩ := bind_some H
        have f30 := hG.up (p14.up hB (fun _ x => x.elim))
        refine lwp_op (by kernel_rfl) (owp_callF (by kernel_rfl) (shutterlaw06_awake.calls p14.bd f30 m29) ?_)
        rintro v31 h32 ⟨I33, rfl, p34⟩
        have pt36 := pt16.no p34
        refine lwp_run 1 (by kernel_rfl) ?_
        refine lwp_nil ?_
        refine cwp_ret ?_
        obtain rfl := Option.some.inj H
        show Exists _
        exact ⟨.bool t28, by kernel_rfl, I33, rfl, pt36⟩
      · rw [if_neg c27] at H
        refine lwp_op (by kernel_rfl) (owp_pure ((.bool false)) (pr_bool (by kernel_rfl) (decide_eq_false c27)) ?_)
        refine lwp_run 1 (by kernel_rfl) ?_
        refine lwp_nil ?_
        refine cwp_false (by kernel_rfl) ?_
        refine cwp_skip ?_
        refine cwp_seq ?_
        refine cwp_region ?_
        refine lwp_run 1 (by kernel_rfl) ?_
        have f37 := r4.up (p14.up hB (fun _ x => x.elim))
        obtain ⟨t38, m39, H⟩ := bind_some H
        refine lwp_op (by kernel_rfl) (owp_callF (by kernel_rfl) (bytes_New.calls p14.bd f37 m39) ?_)
        rintro v40 h41 ⟨I42, b45, a46, c47, v50, rfl, p43, r49, q52, o53, fr54⟩
        have pt55 := pt16.no p43
        have fr56 := Nat.le_trans pt16.size fr54
        refine lwp_run 1 (by kernel_rfl) ?_
        refine lwp_nil ?_
        refine cwp_seq ?_
        refine cwp_seq ?_
        refine cwp_region ?_
        refine lwp_run 2 (by kernel_rfl) ?_
        refine lwp_nil ?_
        refine cwp_false (by kernel_rfl) ?_
        refine cwp_skip ?_
        refine cwp_seq ?_
        refine cwp_region ?_
        refine lwp_run 1 (by kernel_rfl) ?_
        refine lwp_nil ?_
        refine cwp_seq ?_
        refine cwp_region ?_
        refine lwp_run 1 (by kernel_rfl) ?_
        refine lwp_nil ?_
        refine cwp_seq ?_
        refine cwp_region ?_
        refine lwp_run 1 (by kernel_rfl) ?_
        refine lwp_nil ?_
        refine cwp_seq ?_
        refine cwp_seq ?_
        refine cwp_region ?_
        refine lwp_run 1 (by kernel_rfl) ?_
        refine lwp_nil ?_
        refine cwp_block ?_
        have f647 := f37.up (p43.up p14.bd (fun _ x => x.elim))
        have f648 := r8.up (p14.up hB (fun _ x => x.elim))
        have f649 := f648.up (p43.up p14.bd (fun _ x => x.elim))
        have f650 := hG.up (p14.up hB (fun _ x => x.elim))
        have f651 := f650.up (p43.up p14.bd (fun _ x => x.elim))
        obtain ⟨s79, m95, HR96⟩ := bind_some H
        refine cwp_loopE 0 (fun ρ' h80 => ∃ (x83 : List Int) (x88 : Int) (x89 : GoErr) (a84 : Option Addr) (c85 : Nat) (v90 : Value) (I81 : Gh), Sum.inr (x83, x88, x89) = s79 ∧ Fits [] ρ' ∧ Pst No I h I81 h80 ∧ Rd (tInt .u8) I81 h80 a84 c85 x83 ∧ ErrV I81 h80 x89 v90 ∧ OwnB I81 h80 b45 [.slice a84 x83.length c85, .int .i64 x88, v90] 62 ∧ Glob I81 h80) ?_ ?_
        · refine cwp_loop (fun k' ρ' h57 => ∃ (x62 : Int) (x63 : Int) (x64 : Int) (x65 : Int) (x66 : List Int) (x71 : Int) (x72 : GoErr) (a67 : Option Addr) (c68 : Nat) (v73 : Value) (I58 : Gh), shutterlaw06_BytesActs.l1.m K x0 x1 x2 k' x62 x63 x64 x65 x66 x71 x72 = some s79 ∧ Fits [(0, .slice a1 x0.length c2), (1, .int .i64 x1), (2, .slice a5 x2.length c6), (7, .pointer (some ⟨b45, 0, none⟩)), (8, .int .i64 x62), (9, .int .i64 x63), (10, .int .i64 x64), (11, .int .i64 x65)] ρ' ∧ Pst No I h I58 h57 ∧ Rd (tInt .u8) I58 h57 a1 c2 x0 ∧ Rd t_shutterlaw06_Act I58 h57 a5 c6 x2 ∧ Rd (tInt .u8) I58 h57 a67 c68 x66 ∧ ErrV I58 h57 x72 v73 ∧ OwnB I58 h57 b45 [.slice a67 x66.length c68, .int .i64 x71, v73] 62 ∧ Glob I58 h57) K ⟨0, 0, (-1), 0, t38.b', t38.at', t38.err', a46, c47, v50, I42, m95, ⟨by kernel_rfl, by kernel_rfl, by kernel_rfl, by kernel_rfl, by kernel_rfl, by kernel_rfl, by kernel_rfl, by kernel_rfl, trivial⟩, pt55, f647, f649, r49, q52, o53, f651⟩ ?_
          clear m95
          rintro k' ρ' h57 ⟨x62, x63, x64, x65, x66, x71, x72, a67, c68, v73, I58, H, hf, pt59, r60, r61, r69, q74, o76, g77⟩
          cases k' with
          | zero => cases H
          | succ k =>
            rw [shutterlaw06_BytesActs.l1.m] at H
            refine cwp_fits _ hf ?_
            refine cwp_seq ?_
            refine cwp_seq ?_
            refine cwp_region ?_
            refine lwp_run 3 (by kernel_rfl) ?_
            by_cases c97 : x65 < (x2.length : Int)
            · rw [if_pos c97] at H
              refine lwp_op (by kernel_rfl) (owp_pure ((.bool true)) (pr_bool (by kernel_rfl) (decide_eq_true c97)) ?_)
              refine lwp_nil ?_
              refine cwp_true (by kernel_rfl) ?_
              refine cwp_skip ?_
              refine cwp_seq ?_
              refine cwp_block ?_
              obtain ⟨j547, e646, H⟩ := letJ_some H
              refine cwp_join (fun ρ' h527 => ∃ (x532 : Int) (x533 : Int) (x534 : Int) (x535 : List Int) (x540 : Int) (x541 : GoErr) (a536 : Option Addr) (c537 : Nat) (v542 : Value) (I528 : Gh), j547 x532 x533 x534 x535 x540 x541 = some s79 ∧ Fits [(0, .slice a1 x0.length c2), (1, .int .i64 x1), (2, .slice a5 x2.length c6), (7, .pointer (some ⟨b45, 0, none⟩)), (8, .int .i64 x532), (9, .int .i64 x533), (10, .int .i64 x534), (11, .int .i64 x65)] ρ' ∧ Pst No I h I528 h527 ∧ Rd (tInt .u8) I528 h527 a1 c2 x0 ∧ Rd t_shutterlaw06_Act I528 h527 a5 c6 x2 ∧ Rd (tInt .u8) I528 h527 a536 c537 x535 ∧ ErrV I528 h527 x541 v542 ∧ OwnB I528 h527 b45 [.slice a536 x535.length c537, .int .i64 x540, v542] 62 ∧ Glob I528 h527) ?_ ?_
              · refine cwp_seq ?_
                refine cwp_region ?_
                obtain ⟨c98, H⟩ := guard_pos H
                refine lwp_run 2 (by kernel_rfl) ?_
                have hs99 := r61.isSome c98 c97
                refine lwp_op (by kernel_rfl) (owp_pure (elemPtr a5 (x65.toNat * 2)) (pr_indexElem (e := 51) r61.toSl (k := .i64) (by kernel_rfl) (by kernel_rfl) (by kernel_rfl) (by kernel_rfl) c98 c97) ?_)
                refine lwp_op (by kernel_rfl) (owp_pure ((elemPtr a5 (x65.toNat * 2 + 0))) (pr_fieldAddr (a := a5) (n := (x65.toNat * 2)) (off := 0) (by kernel_rfl) hs99 (fun _ _ => by kernel_rfl)) ?_)
                obtain ⟨cs100, hs101, rp102⟩ := r61.toSl.seg c98 c97
                obtain rfl := t_shutterlaw06_Act.open_ rp102
                refine lwp_op (by kernel_rfl) (owp_load (by kernel_rfl) (by kernel_rfl) (seg_cell (f := 0) hs101 rfl) ?_)
                refine lwp_nil ?_
                refine cwp_block ?_
                obtain ⟨j115, e526, H⟩ := letJ_some H
                refine cwp_join (fun ρ' h105 => ∃ (x110 : Bool) (I106 : Gh), j115 x110 = some s79 ∧ Fits [(0, .slice a1 x0.length c2), (1, .int .i64 x1), (2, .slice a5 x2.length c6), (7, .pointer (some ⟨b45, 0, none⟩)), (8, .int .i64 x62), (9, .int .i64 x63), (10, .int .i64 x64), (11, .int .i64 x65), (50, .int .i64 ((at_ x2 x65).Do)), (85, .bool x110)] ρ' ∧ Pst No I h I106 h105 ∧ Rd (tInt .u8) I106 h105 a1 c2 x0 ∧ Rd t_shutterlaw06_Act I106 h105 a5 c6 x2 ∧ Rd (tInt .u8) I106 h105 a67 c68 x66 ∧ ErrV I106 h105 x72 v73 ∧ OwnB I106 h105 b45 [.slice a67 x66.length c68, .int .i64 x71, v73] 62 ∧ Glob I106 h105) ?_ ?_
                · refine cwp_seq ?_
                  refine cwp_region ?_
                  by_cases c103 : (at_ x2 x65).Do = 0
                  · rw [if_pos c103] at H
                    refine lwp_op (by kernel_rfl) (owp_pure ((.bool true)) (pr_bool (by kernel_rfl) (eqT c103)) ?_)
                    refine lwp_run 1 (by kernel_rfl) ?_
                    refine lwp_nil ?_
                    refine cwp_true (by kernel_rfl) ?_
                    refine cwp_skip ?_
                    exact ⟨true, I58, H, ⟨by kernel_rfl, by kernel_rfl, by kernel_rfl, by kernel_rfl, by kernel_rfl, by kernel_rfl, by kernel_rfl, by kernel_rfl, by kernel_rfl, by kernel_rfl, trivial⟩, pt59, r60, r61, r69, q74, o76, g77⟩
                  · rw [if_neg c103] at H
                    refine lwp_op (by kernel_rfl) (owp_pure ((.bool false)) (pr_bool (by kernel_rfl) (eqF c103)) ?_)
                    refine lwp_run 1 (by kernel_rfl) ?_
                    refine lwp_nil ?_
                    refine cwp_false (by kernel_rfl) ?_
                    refine cwp_region ?_
                    by_cases c104 : (at_ x2 x65).Do = 1
                    · rw [if_pos c104] at H
                      refine lwp_op (by kernel_rfl) (owp_pure ((.bool true)) (pr_bool (by kernel_rfl) (eqT c104)) ?_)
                      refine lwp_run 1 (by kernel_rfl) ?_
                      refine lwp_nil ?_
                      exact ⟨true, I58, H, ⟨by kernel_rfl, by kernel_rfl, by kernel_rfl, by kernel_rfl, by kernel_rfl, by kernel_rfl, by kernel_rfl, by kernel_rfl, by kernel_rfl, by kernel_rfl, trivial⟩, pt59, r60, r61, r69, q74, o76, g77⟩
                    · rw [if_neg c104] at H
                      refine lwp_op (by kernel_rfl) (owp_pure ((.bool false)) (pr_bool (by kernel_rfl) (eqF c104)) ?_)
                      refine lwp_run 1 (by kernel_rfl) ?_
                      refine lwp_nil ?_
                      exact ⟨false, I58, H, ⟨by kernel_rfl, by kernel_rfl, by kernel_rfl, by kernel_rfl, by kernel_rfl, by kernel_rfl, by kernel_rfl, by kernel_rfl, by kernel_rfl, by kernel_rfl, trivial⟩, pt59, r60, r61, r69, q74, o76, g77⟩
                · clear H
                  rintro ρ' h105 ⟨x110, I106, H, hf, pt107, r108, r109, r111, q112, o113, g114⟩
                  refine cwp_fits _ hf ?_
                  subst e526
                  try dsimp only at H
                  cases x110
                  · rw [cond_false] at H
                    refine cwp_false (by kernel_rfl) ?_
                    obtain ⟨j297, e525, H⟩ := letJ_some H
                    refine cwp_join (fun ρ' h287 => ∃ (x292 : Bool) (I288 : Gh), j297 x292 = some s79 ∧ Fits [(0, .slice a1 x0.length c2), (1, .int .i64 x1), (2, .slice a5 x2.length c6), (7, .pointer (some ⟨b45, 0, none⟩)), (8, .int .i64 x62), (9, .int .i64 x63), (10, .int .i64 x64), (11, .int .i64 x65), (50, .int .i64 ((at_ x2 x65).Do)), (165, .bool x292)] ρ' ∧ Pst No I h I288 h287 ∧ Rd (tInt .u8) I288 h287 a1 c2 x0 ∧ Rd t_shutterlaw06_Act I288 h287 a5 c6 x2 ∧ Rd (tInt .u8) I288 h287 a67 c68 x66 ∧ ErrV I288 h287 x72 v73 ∧ OwnB I288 h287 b45 [.slice a67 x66.length c68, .int .i64 x71, v73] 62 ∧ Glob I288 h287) ?_ ?_
                    · refine cwp_region ?_
                      by_cases c286 : (at_ x2 x65).Do = 2
                      · rw [if_pos c286] at H
                        refine lwp_op (by kernel_rfl) (owp_pure ((.bool true)) (pr_bool (by kernel_rfl) (eqT c286)) ?_)
                        refine lwp_run 1 (by kernel_rfl) ?_
                        refine lwp_nil ?_
                        exact ⟨true, I106, H, ⟨by kernel_rfl, by kernel_rfl, by kernel_rfl, by kernel_rfl, by kernel_rfl, by kernel_rfl, by kernel_rfl, by kernel_rfl, by kernel_rfl, by kernel_rfl, trivial⟩, pt107, r108, r109, r111, q112, o113, g114⟩
                      · rw [if_neg c286] at H
                        refine lwp_op (by kernel_rfl) (owp_pure ((.bool false)) (pr_bool (by kernel_rfl) (eqF c286)) ?_)
                        refine lwp_run 1 (by kernel_rfl) ?_
                        refine lwp_nil ?_
                        exact ⟨false, I106, H, ⟨by kernel_rfl, by kernel_rfl, by kernel_rfl, by kernel_rfl, by kernel_rfl, by kernel_rfl, by kernel_rfl, by kernel_rfl, by kernel_rfl, by kernel_rfl, trivial⟩, pt107, r108, r109, r111, q112, o113, g114⟩
                    · clear H
                      rintro ρ' h287 ⟨x292, I288, H, hf, pt289, r290, r291, r293, q294, o295, g296⟩
                      refine cwp_fits _ hf ?_
                      subst e525
                      try dsimp only at H
                      cases x292
                      · rw [cond_false] at H
                        refine cwp_false (by kernel_rfl) ?_
                        obtain ⟨j355, e524, H⟩ := letJ_some H
                        refine cwp_join (fun ρ' h345 => ∃ (x350 : Bool) (I346 : Gh), j355 x350 = some s79 ∧ Fits [(0, .slice a1 x0.length c2), (1, .int .i64 x1), (2, .slice a5 x2.length c6), (7, .pointer (some ⟨b45, 0, none⟩)), (8, .int .i64 x62), (9, .int .i64 x63), (10, .int .i64 x64), (11, .int .i64 x65), (50, .int .i64 ((at_ x2 x65).Do)), (191, .bool x350)] ρ' ∧ Pst No I h I346 h345 ∧ Rd (tInt .u8) I346 h345 a1 c2 x0 ∧ Rd t_shutterlaw06_Act I346 h345 a5 c6 x2 ∧ Rd (tInt .u8) I346 h345 a67 c68 x66 ∧ ErrV I346 h345 x72 v73 ∧ OwnB I346 h345 b45 [.slice a67 x66.length c68, .int .i64 x71, v73] 62 ∧ Glob I346 h345) ?_ ?_
                        · refine cwp_region ?_
                          by_cases c344 : (at_ x2 x65).Do = 3
                          · rw [if_pos c344] at H
                            refine lwp_op (by kernel_rfl) (owp_pure ((.bool true)) (pr_bool (by kernel_rfl) (eqT c344)) ?_)
                            refine lwp_run 1 (by kernel_rfl) ?_
                            refine lwp_nil ?_
                            exact ⟨true, I288, H, ⟨by kernel_rfl, by kernel_rfl, by kernel_rfl, by kernel_rfl, by kernel_rfl, by kernel_rfl, by kernel_rfl, by kernel_rfl, by kernel_rfl, by kernel_rfl, trivial⟩, pt289, r290, r291, r293, q294, o295, g296⟩
                          · rw [if_neg c344] at H
                            refine lwp_op (by kernel_rfl) (owp_pure ((.bool false)) (pr_bool (by kernel_rfl) (eqF c344)) ?_)
                            refine lwp_run 1 (by kernel_rfl) ?_
                            refine lwp_nil ?_
                            exact ⟨false, I288, H, ⟨by kernel_rfl, by kernel_rfl, by kernel_rfl, by kernel_rfl, by kernel_rfl, by kernel_rfl, by kernel_rfl, by kernel_rfl, by kernel_rfl, by kernel_rfl, trivial⟩, pt289, r290, r291, r293, q294, o295, g296⟩
                        · clear H
                          rintro ρ' h345 ⟨x350, I346, H, hf, pt347, r348, r349, r351, q352, o353, g354⟩
                          refine cwp_fits _ hf ?_
                          subst e524
                          try dsimp only at H
                          cases x350
                          · rw [cond_false] at H
                            refine cwp_false (by kernel_rfl) ?_
                            obtain ⟨j446, e523, H⟩ := letJ_some H
                            refine cwp_join (fun ρ' h436 => ∃ (x441 : Bool) (I437 : Gh), j446 x441 = some s79 ∧ Fits [(0, .slice a1 x0.length c2), (1, .int .i64 x1), (2, .slice a5 x2.length c6), (7, .pointer (some ⟨b45, 0, none⟩)), (8, .int .i64 x62), (9, .int .i64 x63), (10, .int .i64 x64), (11, .int .i64 x65), (228, .bool x441)] ρ' ∧ Pst No I h I437 h436 ∧ Rd (tInt .u8) I437 h436 a1 c2 x0 ∧ Rd t_shutterlaw06_Act I437 h436 a5 c6 x2 ∧ Rd (tInt .u8) I437 h436 a67 c68 x66 ∧ ErrV I437 h436 x72 v73 ∧ OwnB I437 h436 b45 [.slice a67 x66.length c68, .int .i64 x71, v73] 62 ∧ Glob I437 h436) ?_ ?_
                            · refine cwp_region ?_
                              by_cases c435 : (at_ x2 x65).Do = 4
                              · rw [if_pos c435] at H
                                refine lwp_op (by kernel_rfl) (owp_pure ((.bool true)) (pr_bool (by kernel_rfl) (eqT c435)) ?_)
                                refine lwp_run 1 (by kernel_rfl) ?_
                                refine lwp_nil ?_
                                exact ⟨true, I346, H, ⟨by kernel_rfl, by kernel_rfl, by kernel_rfl, by kernel_rfl, by kernel_rfl, by kernel_rfl, by kernel_rfl, by kernel_rfl, by kernel_rfl, trivial⟩, pt347, r348, r349, r351, q352, o353, g354⟩
                              · rw [if_neg c435] at H
                                refine lwp_op (by kernel_rfl) (owp_pure ((.bool false)) (pr_bool (by kernel_rfl) (eqF c435)) ?_)
                                refine lwp_run 1 (by kernel_rfl) ?_
                                refine lwp_nil ?_
                                exact ⟨false, I346, H, ⟨by kernel_rfl, by kernel_rfl, by kernel_rfl, by kernel_rfl, by kernel_rfl, by kernel_rfl, by kernel_rfl, by kernel_rfl, by kernel_rfl, trivial⟩, pt347, r348, r349, r351, q352, o353, g354⟩
                            · clear H
                              rintro ρ' h436 ⟨x441, I437, H, hf, pt438, r439, r440, r442, q443, o444, g445⟩
                              refine cwp_fits _ hf ?_
                              subst e523
                              try dsimp only at H
                              cases x441
                              · rw [cond_false] at H
                                refine cwp_false (by kernel_rfl) ?_
                                obtain ⟨j500, e522, H⟩ := letJ_some H
                                refine cwp_join (fun ρ' h481 => ∃ (x486 : Int) (x487 : Bool) (x488 : List Int) (x493 : Int) (x494 : GoErr) (a489 : Option Addr) (c490 : Nat) (v495 : Value) (I482 : Gh), j500 x486 x487 x488 x493 x494 = some s79 ∧ Fits [(0, .slice a1 x0.length c2), (1, .int .i64 x1), (2, .slice a5 x2.length c6), (7, .pointer (some ⟨b45, 0, none⟩)), (8, .int .i64 x62), (9, .int .i64 x63), (10, .int .i64 x64), (11, .int .i64 x65), (21, .int .u8 x486), (22, .bool x487)] ρ' ∧ Pst No I h I482 h481 ∧ Rd (tInt .u8) I482 h481 a1 c2 x0 ∧ Rd t_shutterlaw06_Act I482 h481 a5 c6 x2 ∧ Rd (tInt .u8) I482 h481 a489 c490 x488 ∧ ErrV I482 h481 x494 v495 ∧ OwnB I482 h481 b45 [.slice a489 x488.length c490, .int .i64 x493, v495] 62 ∧ Glob I482 h481) ?_ ?_
                                · refine cwp_region ?_
                                  refine lwp_run 1 (by kernel_rfl) ?_
                                  obtain ⟨t464, m465, H⟩ := bind_some H
                                  refine lwp_op (by kernel_rfl) (owp_callF (by kernel_rfl) (bytes_Cursor_Peek.calls pt438.bd o444 r442 q443 m465) ?_)
                                  rintro v466 h467 ⟨I468, a471, c472, v475, rfl, p469, r474, q477, o478⟩
                                  have pt479 := pt438.own p469 (one_fresh fr56)
                                  refine lwp_run 2 (by kernel_rfl) ?_
                                  rcases bool_or t464.2.1 with c480 | c480
                                  · replace H := bif_f c480 H
                                    refine lwp_op (by kernel_rfl) (owp_pure ((.bool false)) (pr_bool (by kernel_rfl) c480) ?_)
                                    refine lwp_run 2 (by kernel_rfl) ?_
                                    refine lwp_nil ?_
                                    have f100212 := r439.up (p469.up pt438.bd (one_not o444.no))
                                    have f100213 := r440.up (p469.up pt438.bd (one_not o444.no))
                                    have f100214 := g445.up (p469.up pt438.bd (one_not o444.no))
                                    exact ⟨t464.1, false, t464.2.2.b', t464.2.2.at', t464.2.2.err', a471, c472, v475, I468, H, ⟨by kernel_rfl, by kernel_rfl, by kernel_rfl, by kernel_rfl, by kernel_rfl, by kernel_rfl, by kernel_rfl, by kernel_rfl, by kernel_rfl, by kernel_rfl, trivial⟩, pt479, f100212, f100213, r474, q477, o478, f100214⟩
                                  · replace H := bif_t c480 H
                                    refine lwp_op (by kernel_rfl) (owp_pure ((.bool true)) (pr_bool (by kernel_rfl) c480) ?_)
                                    refine lwp_run 2 (by kernel_rfl) ?_
                                    refine lwp_nil ?_
                                    have f100209 := r439.up (p469.up pt438.bd (one_not o444.no))
                                    have f100210 := r440.up (p469.up pt438.bd (one_not o444.no))
                                    have f100211 := g445.up (p469.up pt438.bd (one_not o444.no))
                                    exact ⟨t464.1, true, t464.2.2.b', t464.2.2.at', t464.2.2.err', a471, c472, v475, I468, H, ⟨by kernel_rfl, by kernel_rfl, by kernel_rfl, by kernel_rfl, by kernel_rfl, by kernel_rfl, by kernel_rfl, by kernel_rfl, by kernel_rfl, by kernel_rfl, trivial⟩, pt479, f100209, f100210, r474, q477, o478, f100211⟩
                                · clear H
                                  rintro ρ' h481 ⟨x486, x487, x488, x493, x494, a489, c490, v495, I482, H, hf, pt483, r484, r485, r491, q496, o498, g499⟩
                                  refine cwp_fits _ hf ?_
                                  subst e522
                                  try dsimp only at H
                                  refine cwp_seq ?_
                                  refine cwp_region ?_
                                  refine lwp_run 2 (by kernel_rfl) ?_
                                  by_cases c501 : x63 = 0
                                  · rw [if_pos c501] at H
                                    refine lwp_op (by kernel_rfl) (owp_pure ((.bool true)) (pr_bool (by kernel_rfl) (eqT c501)) ?_)
                                    refine lwp_run 6 (by kernel_rfl) ?_
                                    rcases bool_or (x487 != (decide (x62 < (x0.length : Int)))) with c502 | c502
                                    · replace H := bif_f c502 H
                                      refine lwp_op (by kernel_rfl) (owp_pure ((.bool false)) (pr_bool (by kernel_rfl) c502) ?_)
                                      refine lwp_run 1 (by kernel_rfl) ?_
                                      rcases bool_or x487 with c503 | c503
                                      · replace H := bif_f c503 H
                                        refine lwp_op (by kernel_rfl) (owp_pure ((.bool false)) (pr_bool (by kernel_rfl) c503) ?_)
                                        refine lwp_run 10 (by kernel_rfl) ?_
                                        refine lwp_op (by kernel_rfl) (owp_pure ((.bool false)) (pr_bool (by kernel_rfl) c503) ?_)
                                        refine lwp_run 3 (by kernel_rfl) ?_
                                        by_cases c511 : x486 = 0
                                        · rw [if_pos c511] at H
                                          refine lwp_op (by kernel_rfl) (owp_pure ((.bool false)) (pr_bool (by kernel_rfl) (neF c511)) ?_)
                                          refine lwp_run 2 (by kernel_rfl) ?_
                                          refine lwp_nil ?_
                                          refine cwp_false (by kernel_rfl) ?_
                                          refine cwp_skip ?_
                                          exact ⟨x62, x63, x64, x488, x493, x494, a489, c490, v495, I482, H, ⟨by kernel_rfl, by kernel_rfl, by kernel_rfl, by kernel_rfl, by kernel_rfl, by kernel_rfl, by kernel_rfl, by kernel_rfl, trivial⟩, pt483, r484, r485, r491, q496, o498, g499⟩
                                        · rw [if_neg c511] at H
                                          refine lwp_op (by kernel_rfl) (owp_pure ((.bool true)) (pr_bool (by kernel_rfl) (neT c511)) ?_)
                                          refine lwp_run 2 (by kernel_rfl) ?_
                                          refine lwp_nil ?_
                                          refine cwp_true (by kernel_rfl) ?_
                                          refine cwp_seq ?_
                                          refine cwp_region ?_
                                          refine lwp_run 1 (by kernel_rfl) ?_
                                          refine lwp_nil ?_
                                          refine cwp_ret ?_
                                          obtain rfl := Option.some.inj H
                                          obtain rfl := Option.some.inj HR96
                                          show Exists _
                                          exact ⟨.bool false, by kernel_rfl, I482, rfl, pt483⟩
                                      · replace H := bif_t c503 H
                                        refine lwp_op (by kernel_rfl) (owp_pure ((.bool true)) (pr_bool (by kernel_rfl) c503) ?_)
                                        obtain ⟨c504, H⟩ := guard_pos H
                                        obtain ⟨c505, H⟩ := guard_pos H
                                        refine lwp_run 4 (by kernel_rfl) ?_
                                        have hs506 := r484.isSome c504 c505
                                        refine lwp_op (by kernel_rfl) (owp_pure (elemPtr a1 (x62.toNat * 1)) (pr_indexElem (e := 5) r484.toSl (k := .i64) (by kernel_rfl) (by kernel_rfl) (by kernel_rfl) (by kernel_rfl) c504 c505) ?_)
                                        obtain ⟨cs507, hs508, rp509⟩ := r484.toSl.seg c504 c505
                                        obtain rfl := rep_int rp509
                                        refine lwp_op (by kernel_rfl) (owp_load (by kernel_rfl) (by kernel_rfl) (seg_cell (f := 0) hs508 rfl) ?_)
                                        by_cases c510 : x486 = (at_ x0 x62)
                                        · rw [if_pos c510] at H
                                          refine lwp_op (by kernel_rfl) (owp_pure ((.bool false)) (pr_bool (by kernel_rfl) (neF c510)) ?_)
                                          refine lwp_run 3 (by kernel_rfl) ?_
                                          refine lwp_op (by kernel_rfl) (owp_pure ((.bool true)) (pr_bool (by kernel_rfl) c503) ?_)
                                          refine lwp_run 6 (by kernel_rfl) ?_
                                          refine lwp_nil ?_
                                          refine cwp_false (by kernel_rfl) ?_
                                          refine cwp_skip ?_
                                          exact ⟨x62, x63, x64, x488, x493, x494, a489, c490, v495, I482, H, ⟨by kernel_rfl, by kernel_rfl, by kernel_rfl, by kernel_rfl, by kernel_rfl, by kernel_rfl, by kernel_rfl, by kernel_rfl, trivial⟩, pt483, r484, r485, r491, q496, o498, g499⟩
                                        · rw [if_neg c510] at H
                                          refine lwp_op (by kernel_rfl) (owp_pure ((.bool true)) (pr_bool (by kernel_rfl) (neT c510)) ?_)
                                          refine lwp_run 10 (by kernel_rfl) ?_
                                          refine lwp_nil ?_
                                          refine cwp_true (by kernel_rfl) ?_
                                          refine cwp_seq ?_
                                          refine cwp_region ?_
                                          refine lwp_run 1 (by kernel_rfl) ?_
                                          refine lwp_nil ?_
                                          refine cwp_ret ?_
                                          obtain rfl := Option.some.inj H
                                          obtain rfl := Option.some.inj HR96
                                          show Exists _
                                          exact ⟨.bool false, by kernel_rfl, I482, rfl, pt483⟩
                                    · replace H := bif_t c502 H
                                      refine lwp_op (by kernel_rfl) (owp_pure ((.bool true)) (pr_bool (by kernel_rfl) c502) ?_)
                                      refine lwp_run 19 (by kernel_rfl) ?_
                                      refine lwp_nil ?_
                                      refine cwp_true (by kernel_rfl) ?_
                                      refine cwp_seq ?_
                                      refine cwp_region ?_
                                      refine lwp_run 1 (by kernel_rfl) ?_
                                      refine lwp_nil ?_
                                      refine cwp_ret ?_
                                      obtain rfl := Option.some.inj H
                                      obtain rfl := Option.some.inj HR96
                                      show Exists _
                                      exact ⟨.bool false, by kernel_rfl, I482, rfl, pt483⟩
                                  · rw [if_neg c501] at H
                                    refine lwp_op (by kernel_rfl) (owp_pure ((.bool false)) (pr_bool (by kernel_rfl) (eqF c501)) ?_)
                                    refine lwp_run 6 (by kernel_rfl) ?_
                                    rcases bool_or (x487 != false) with c512 | c512
                                    · replace H := bif_f c512 H
                                      refine lwp_op (by kernel_rfl) (owp_pure ((.bool false)) (pr_bool (by kernel_rfl) c512) ?_)
                                      refine lwp_run 1 (by kernel_rfl) ?_
                                      rcases bool_or x487 with c513 | c513
                                      · replace H := bif_f c513 H
                                        refine lwp_op (by kernel_rfl) (owp_pure ((.bool false)) (pr_bool (by kernel_rfl) c513) ?_)
                                        refine lwp_run 10 (by kernel_rfl) ?_
                                        refine lwp_op (by kernel_rfl) (owp_pure ((.bool false)) (pr_bool (by kernel_rfl) c513) ?_)
                                        refine lwp_run 3 (by kernel_rfl) ?_
                                        by_cases c521 : x486 = 0
                                        · rw [if_pos c521] at H
                                          refine lwp_op (by kernel_rfl) (owp_pure ((.bool false)) (pr_bool (by kernel_rfl) (neF c521)) ?_)
                                          refine lwp_run 2 (by kernel_rfl) ?_
                                          refine lwp_nil ?_
                                          refine cwp_false (by kernel_rfl) ?_
                                          refine cwp_skip ?_
                                          exact ⟨x62, x63, x64, x488, x493, x494, a489, c490, v495, I482, H, ⟨by kernel_rfl, by kernel_rfl, by kernel_rfl, by kernel_rfl, by kernel_rfl, by kernel_rfl, by kernel_rfl, by kernel_rfl, trivial⟩, pt483, r484, r485, r491, q496, o498, g499⟩
                                        · rw [if_neg c521] at H
                                          refine lwp_op (by kernel_rfl) (owp_pure ((.bool true)) (pr_bool (by kernel_rfl) (neT c521)) ?_)
                                          refine lwp_run 2 (by kernel_rfl) ?_
                                          refine lwp_nil ?_
                                          refine cwp_true (by kernel_rfl) ?_
                                          refine cwp_seq ?_
                                          refine cwp_region ?_
                                          refine lwp_run 1 (by kernel_rfl) ?_
                                          refine lwp_nil ?_
                                          refine cwp_ret ?_
                                          obtain rfl := Option.some.inj H
                                          obtain rfl := Option.some.inj HR96
                                          show Exists _
                                          exact ⟨.bool false, by kernel_rfl, I482, rfl, pt483⟩
                                      · replace H := bif_t c513 H
                                        refine lwp_op (by kernel_rfl) (owp_pure ((.bool true)) (pr_bool (by kernel_rfl) c513) ?_)
                                        obtain ⟨c514, H⟩ := guard_pos H
                                        obtain ⟨c515, H⟩ := guard_pos H
                                        refine lwp_run 4 (by kernel_rfl) ?_
                                        have hs516 := r484.isSome c514 c515
                                        refine lwp_op (by kernel_rfl) (owp_pure (elemPtr a1 (x62.toNat * 1)) (pr_indexElem (e := 5) r484.toSl (k := .i64) (by kernel_rfl) (by kernel_rfl) (by kernel_rfl) (by kernel_rfl) c514 c515) ?_)
                                        obtain ⟨cs517, hs518, rp519⟩ := r484.toSl.seg c514 c515
                                        obtain rfl := rep_int rp519
                                        refine lwp_op (by kernel_rfl) (owp_load (by kernel_rfl) (by kernel_rfl) (seg_cell (f := 0) hs518 rfl) ?_)
                                        by_cases c520 : x486 = (at_ x0 x62)
                                        · rw [if_pos c520] at H
                                          refine lwp_op (by kernel_rfl) (owp_pure ((.bool false)) (pr_bool (by kernel_rfl) (neF c520)) ?_)
                                          refine lwp_run 3 (by kernel_rfl) ?_
                                          refine lwp_op (by kernel_rfl) (owp_pure ((.bool true)) (pr_bool (by kernel_rfl) c513) ?_)
                                          refine lwp_run 6 (by kernel_rfl) ?_
                                          refine lwp_nil ?_
                                          refine cwp_false (by kernel_rfl) ?_
                                          refine cwp_skip ?_
                                          exact ⟨x62, x63, x64, x488, x493, x494, a489, c490, v495, I482, H, ⟨by kernel_rfl, by kernel_rfl, by kernel_rfl, by kernel_rfl, by kernel_rfl, by kernel_rfl, by kernel_rfl, by kernel_rfl, trivial⟩, pt483, r484, r485, r491, q496, o498, g499⟩
                                        · rw [if_neg c520] at H
                                          refine lwp_op (by kernel_rfl) (owp_pure ((.bool true)) (pr_bool (by kernel_rfl) (neT c520)) ?_)
                                          refine lwp_run 10 (by kernel_rfl) ?_
                                          refine lwp_nil ?_
                                          refine cwp_true (by kernel_rfl) ?_
                                          refine cwp_seq ?_
                                          refine cwp_region ?_
                                          refine lwp_run 1 (by kernel_rfl) ?_
                                          refine lwp_nil ?_
                                          refine cwp_ret ?_
                                          obtain rfl := Option.some.inj H
                                          obtain rfl := Option.some.inj HR96
                                          show Exists _
                                          exact ⟨.bool false, by kernel_rfl, I482, rfl, pt483⟩
                                    · replace H := bif_t c512 H
                                      refine lwp_op (by kernel_rfl) (owp_pure ((.bool true)) (pr_bool (by kernel_rfl) c512) ?_)
                                      refine lwp_run 19 (by kernel_rfl) ?_
                                      refine lwp_nil ?_
                                      refine cwp_true (by kernel_rfl) ?_
                                      refine cwp_seq ?_
                                      refine cwp_region ?_
                                      refine lwp_run 1 (by kernel_rfl) ?_
                                      refine lwp_nil ?_
                                      refine cwp_ret ?_
                                      obtain rfl := Option.some.inj H
                                      obtain rfl := Option.some.inj HR96
                                      show Exists _
                                      exact ⟨.bool false, by kernel_rfl, I482, rfl, pt483⟩
                              · rw [cond_true] at H
                                refine cwp_true (by kernel_rfl) ?_
                                refine cwp_seq ?_
                                refine cwp_region ?_
                                refine lwp_run 2 (by kernel_rfl) ?_
                                obtain ⟨t447, m448, H⟩ := bind_some H
                                refine lwp_op (by kernel_rfl) (owp_callF (by kernel_rfl) (bytes_Cursor_Fail.calls pt438.bd o444 r442 q443 (show ErrV I437 h436 (GoErr.no 5) (.iface 55 (.int .i64 5)) from rfl) m448) ?_)
                                rintro v449 h450 ⟨I451, a454, c455, v458, rfl, p452, r457, q460, o461⟩
                                have pt462 := pt438.own p452 (one_fresh fr56)
                                refine lwp_nil ?_
                                refine cwp_seq ?_
                                refine cwp_region ?_
                                refine lwp_run 1 (by kernel_rfl) ?_
                                by_cases c463 : x63 = 0
                                · rw [if_pos c463] at H
                                  refine lwp_op (by kernel_rfl) (owp_pure ((.bool true)) (pr_bool (by kernel_rfl) (eqT c463)) ?_)
                                  refine lwp_nil ?_
                                  refine cwp_true (by kernel_rfl) ?_
                                  refine cwp_seq ?_
                                  refine cwp_region ?_
                                  refine lwp_run 1 (by kernel_rfl) ?_
                                  refine lwp_nil ?_
                                  refine cwp_region ?_
                                  refine lwp_run 2 (by kernel_rfl) ?_
                                  refine lwp_nil ?_
                                  have f100203 := r439.up (p452.up pt438.bd (one_not o444.no))
                                  have f100204 := r440.up (p452.up pt438.bd (one_not o444.no))
                                  have f100205 := g445.up (p452.up pt438.bd (one_not o444.no))
                                  exact ⟨x62, 5, x62, t447.b', t447.at', t447.err', a454, c455, v458, I451, H, ⟨by kernel_rfl, by kernel_rfl, by kernel_rfl, by kernel_rfl, by kernel_rfl, by kernel_rfl, by kernel_rfl, by kernel_rfl, trivial⟩, pt462, f100203, f100204, r457, q460, o461, f100205⟩
                                · rw [if_neg c463] at H
                                  refine lwp_op (by kernel_rfl) (owp_pure ((.bool false)) (pr_bool (by kernel_rfl) (eqF c463)) ?_)
                                  refine lwp_nil ?_
                                  refine cwp_false (by kernel_rfl) ?_
                                  refine cwp_skip ?_
                                  have f100206 := r439.up (p452.up pt438.bd (one_not o444.no))
                                  have f100207 := r440.up (p452.up pt438.bd (one_not o444.no))
                                  have f100208 := g445.up (p452.up pt438.bd (one_not o444.no))
                                  exact ⟨x62, x63, x64, t447.b', t447.at', t447.err', a454, c455, v458, I451, H, ⟨by kernel_rfl, by kernel_rfl, by kernel_rfl, by kernel_rfl, by kernel_rfl, by kernel_rfl, by kernel_rfl, by kernel_rfl, trivial⟩, pt462, f100206, f100207, r457, q460, o461, f100208⟩
                          · rw [cond_true] at H
                            refine cwp_true (by kernel_rfl) ?_
                            refine cwp_seq ?_
                            refine cwp_region ?_
                            refine lwp_run 1 (by kernel_rfl) ?_
                            obtain ⟨t356, m357, H⟩ := bind_some H
                            refine lwp_op (by kernel_rfl) (owp_callF (by kernel_rfl) (bytes_Cursor_Chars.calls pt347.bd o353 r351 q352 m357) ?_)
                            rintro v358 h359 ⟨I360, a363, c364, a368, c369, v372, rfl, p361, r366, fr367, r371, q374, o375⟩
                            have pt376 := pt347.own p361 (one_fresh fr56)
                            have fr377 := fresh_up fr367 pt347.size
                            have d378 := fresh_blk fr367 o353.lt
                            refine lwp_run 1 (by kernel_rfl) ?_
                            refine lwp_nil ?_
                            refine cwp_seq ?_
                            refine cwp_region ?_
                            refine lwp_run 1 (by kernel_rfl) ?_
                            refine lwp_nil ?_
                            obtain ⟨j414, e434, H⟩ := letJ_some H
                            refine cwp_join (fun ρ' h403 => ∃ (x409 : Int) (I404 : Gh), j414 x409 = some s79 ∧ Fits [(0, .slice a1 x0.length c2), (1, .int .i64 x1), (2, .slice a5 x2.length c6), (7, .pointer (some ⟨b45, 0, none⟩)), (8, .int .i64 x62), (9, .int .i64 x63), (10, .int .i64 x64), (11, .int .i64 x65), (19, .slice a363 t356.1.length c364), (20, .int .i64 x409)] ρ' ∧ Pst No I h I404 h403 ∧ Rd (tInt .u8) I404 h403 a1 c2 x0 ∧ Rd t_shutterlaw06_Act I404 h403 a5 c6 x2 ∧ Own (tInt .u8) I404 h403 a363 c364 t356.1 ∧ Rd (tInt .u8) I404 h403 a368 c369 t356.2.b' ∧ ErrV I404 h403 t356.2.err' v372 ∧ OwnB I404 h403 b45 [.slice a368 t356.2.b'.length c369, .int .i64 t356.2.at', v372] 62 ∧ Glob I404 h403) ?_ ?_
                            · refine cwp_block ?_
                              have f418 := r348.up (p361.up pt347.bd (one_not o353.no))
                              have f419 := r349.up (p361.up pt347.bd (one_not o353.no))
                              have f420 := g354.up (p361.up pt347.bd (one_not o353.no))
                              obtain ⟨s391, m403, HR404⟩ := bind_some H
                              refine cwp_loopE 3 (fun ρ' h392 => ∃ (x398 : Int) (I393 : Gh), x398 = s391 ∧ Fits [(0, .slice a1 x0.length c2), (1, .int .i64 x1), (2, .slice a5 x2.length c6), (7, .pointer (some ⟨b45, 0, none⟩)), (8, .int .i64 x62), (9, .int .i64 x63), (10, .int .i64 x64), (11, .int .i64 x65), (19, .slice a363 t356.1.length c364), (20, .int .i64 x398)] ρ' ∧ Pst No I h I393 h392 ∧ Rd (tInt .u8) I393 h392 a1 c2 x0 ∧ Rd t_shutterlaw06_Act I393 h392 a5 c6 x2 ∧ Own (tInt .u8) I393 h392 a363 c364 t356.1 ∧ Rd (tInt .u8) I393 h392 a368 c369 t356.2.b' ∧ ErrV I393 h392 t356.2.err' v372 ∧ OwnB I393 h392 b45 [.slice a368 t356.2.b'.length c369, .int .i64 t356.2.at', v372] 62 ∧ Glob I393 h392) ?_ ?_
                              · refine cwp_loop (fun k' ρ' h379 => ∃ (x385 : Int) (I380 : Gh), shutterlaw06_BytesActs.l2.m K x0 x62 x63 k' x385 = some s391 ∧ Fits [(0, .slice a1 x0.length c2), (1, .int .i64 x1), (2, .slice a5 x2.length c6), (7, .pointer (some ⟨b45, 0, none⟩)), (8, .int .i64 x62), (9, .int .i64 x63), (10, .int .i64 x64), (11, .int .i64 x65), (19, .slice a363 t356.1.length c364), (20, .int .i64 x385)] ρ' ∧ Pst No I h I380 h379 ∧ Rd (tInt .u8) I380 h379 a1 c2 x0 ∧ Rd t_shutterlaw06_Act I380 h379 a5 c6 x2 ∧ Own (tInt .u8) I380 h379 a363 c364 t356.1 ∧ Rd (tInt .u8) I380 h379 a368 c369 t356.2.b' ∧ ErrV I380 h379 t356.2.err' v372 ∧ OwnB I380 h379 b45 [.slice a368 t356.2.b'.length c369, .int .i64 t356.2.at', v372] 62 ∧ Glob I380 h379) K ⟨0, I360, m403, ⟨by kernel_rfl, by kernel_rfl, by kernel_rfl, by kernel_rfl, by kernel_rfl, by kernel_rfl, by kernel_rfl, by kernel_rfl, by kernel_rfl, by kernel_rfl, trivial⟩, pt376, f418, f419, r366, r371, q374, o375, f420⟩ ?_
                                clear m403
                                rintro k' ρ' h379 ⟨x385, I380, H, hf, pt381, r382, r383, r384, r386, q387, o388, g389⟩
                                cases k' with
                                | zero => cases H
                                | succ k =>
                                  rw [shutterlaw06_BytesActs.l2.m] at H
                                  refine cwp_fits _ hf ?_
                                  refine cwp_seq ?_
                                  refine cwp_seq ?_
                                  refine cwp_region ?_
                                  refine lwp_run 1 (by kernel_rfl) ?_
                                  by_cases c405 : x63 = 0
                                  · rw [if_pos c405] at H
                                    refine lwp_op (by kernel_rfl) (owp_pure ((.bool true)) (pr_bool (by kernel_rfl) (eqT c405)) ?_)
                                    refine lwp_run 6 (by kernel_rfl) ?_
                                    by_cases c406 : (w64 (x62 + x385)) < (x0.length : Int)
                                    · rw [if_pos c406] at H
                                      refine lwp_op (by kernel_rfl) (owp_pure ((.bool true)) (pr_bool (by kernel_rfl) (decide_eq_true c406)) ?_)
                                      obtain ⟨c407, H⟩ := guard_pos H
                                      refine lwp_run 6 (by kernel_rfl) ?_
                                      have hs408 := r382.isSome c407 c406
                                      refine lwp_op (by kernel_rfl) (owp_pure (elemPtr a1 ((w64 (x62 + x385)).toNat * 1)) (pr_indexElem (e := 5) r382.toSl (k := .i64) (by kernel_rfl) (by kernel_rfl) (by kernel_rfl) (by kernel_rfl) c407 c406) ?_)
                                      obtain ⟨cs409, hs410, rp411⟩ := r382.toSl.seg c407 c406
                                      obtain rfl := rep_int rp411
                                      refine lwp_op (by kernel_rfl) (owp_load (by kernel_rfl) (by kernel_rfl) (seg_cell (f := 0) hs410 rfl) ?_)
                                      obtain ⟨t412, m413, H⟩ := bind_some H
                                      refine lwp_op (by kernel_rfl) (owp_callF (by kernel_rfl) (shutterref05_Char.calls pt381.bd m413) ?_)
                                      rintro v414 h415 ⟨_, rfl, rfl⟩
                                      cases t412
                                      · rw [cond_false] at H
                                        refine lwp_run 1 (by kernel_rfl) ?_
                                        refine lwp_nil ?_
                                        refine cwp_false (by kernel_rfl) ?_
                                        refine cwp_exit ?_
                                        obtain rfl := Option.some.inj H
                                        show Exists _
                                        exact ⟨x385, I380, rfl, ⟨by kernel_rfl, by kernel_rfl, by kernel_rfl, by kernel_rfl, by kernel_rfl, by kernel_rfl, by kernel_rfl, by kernel_rfl, by kernel_rfl, by kernel_rfl, trivial⟩, pt381, r382, r383, r384, r386, q387, o388, g389⟩
                                      · rw [cond_true] at H
                                        refine lwp_run 1 (by kernel_rfl) ?_
                                        refine lwp_nil ?_
                                        refine cwp_true (by kernel_rfl) ?_
                                        refine cwp_skip ?_
                                        refine cwp_block ?_
                                        refine cwp_region ?_
                                        refine lwp_run 3 (by kernel_rfl) ?_
                                        refine lwp_nil ?_
                                        show Exists _
                                        exact ⟨k, Nat.lt_succ_self _, (w64 (x385 + 1)), I380, H, ⟨by kernel_rfl, by kernel_rfl, by kernel_rfl, by kernel_rfl, by kernel_rfl, by kernel_rfl, by kernel_rfl, by kernel_rfl, by kernel_rfl, by kernel_rfl, trivial⟩, pt381, r382, r383, r384, r386, q387, o388, g389⟩
                                    · rw [if_neg c406] at H
                                      refine lwp_op (by kernel_rfl) (owp_pure ((.bool false)) (pr_bool (by kernel_rfl) (decide_eq_false c406)) ?_)
                                      refine lwp_run 10 (by kernel_rfl) ?_
                                      refine lwp_nil ?_
                                      refine cwp_false (by kernel_rfl) ?_
                                      refine cwp_exit ?_
                                      obtain rfl := Option.some.inj H
                                      show Exists _
                                      exact ⟨x385, I380, rfl, ⟨by kernel_rfl, by kernel_rfl, by kernel_rfl, by kernel_rfl, by kernel_rfl, by kernel_rfl, by kernel_rfl, by kernel_rfl, by kernel_rfl, by kernel_rfl, trivial⟩, pt381, r382, r383, r384, r386, q387, o388, g389⟩
                                  · rw [if_neg c405] at H
                                    refine lwp_op (by kernel_rfl) (owp_pure ((.bool false)) (pr_bool (by kernel_rfl) (eqF c405)) ?_)
                                    refine lwp_run 17 (by kernel_rfl) ?_
                                    refine lwp_nil ?_
                                    refine cwp_false (by kernel_rfl) ?_
                                    refine cwp_exit ?_
                                    obtain rfl := Option.some.inj H
                                    show Exists _
                                    exact ⟨x385, I380, rfl, ⟨by kernel_rfl, by kernel_rfl, by kernel_rfl, by kernel_rfl, by kernel_rfl, by kernel_rfl, by kernel_rfl, by kernel_rfl, by kernel_rfl, by kernel_rfl, trivial⟩, pt381, r382, r383, r384, r386, q387, o388, g389⟩
                              · rintro ρ' h392 ⟨x398, I393, rfl, hf, pt394, r395, r396, r397, r399, q400, o401, g402⟩
                                have H := HR404
                                try dsimp only at H
                                exact ⟨x398, I393, H, ⟨fits_get hf (by kernel_rfl), fits_get hf (by kernel_rfl), fits_get hf (by kernel_rfl), fits_get hf (by kernel_rfl), fits_get hf (by kernel_rfl), fits_get hf (by kernel_rfl), fits_get hf (by kernel_rfl), fits_get hf (by kernel_rfl), fits_get hf (by kernel_rfl), fits_get hf (by kernel_rfl), trivial⟩, pt394, r395, r396, r397, r399, q400, o401, g402⟩
                            · clear H
                              rintro ρ' h403 ⟨x409, I404, H, hf, pt405, r406, r407, r408, r410, q411, o412, g413⟩
                              refine cwp_fits _ hf ?_
                              subst e434
                              try dsimp only at H
                              refine cwp_seq ?_
                              refine cwp_seq ?_
                              refine cwp_region ?_
                              obtain ⟨c415, H⟩ := guard_pos H
                              obtain ⟨c416, H⟩ := guard_pos H
                              obtain ⟨c417, H⟩ := guard_pos H
                              refine lwp_run 6 (by kernel_rfl) ?_
                              obtain ⟨a420, c421, r419, e422⟩ := r406.part (lo := x62) (hi := (w64 (x62 + x409))) c415 c416 c417
                              refine lwp_op (by kernel_rfl) (owp_pure ((.slice a420 (sub x0 x62 (w64 (x62 + x409))).length c421)) (pr_slice_lh (e := 5) r406.toSl e422 (by kernel_rfl) (k1 := .i64) (by kernel_rfl) (k2 := .i64) (by kernel_rfl) (by kernel_rfl) (by kernel_rfl) c415 c416 c417) ?_)
                              have pt423 := post_fz r408 pt405.bd pt405 fr377
                              have r425 := r408.rd
                              have bd426 := bd_fz r408 pt405.bd
                              have f427 := r419.up (up_fz (a := a363))
                              obtain ⟨t428, m429, H⟩ := bind_some H
                              refine lwp_op (by kernel_rfl) (owp_callF (by kernel_rfl) (shutterref01_Same.calls bd426 r425 f427 m429) ?_)
                              rintro v430 h431 ⟨_, rfl, rfl⟩
                              cases t428
                              · rw [cond_false] at H
                                refine lwp_run 1 (by kernel_rfl) ?_
                                refine lwp_nil ?_
                                refine cwp_true (by kernel_rfl) ?_
                                refine cwp_seq ?_
                                refine cwp_region ?_
                                refine lwp_run 1 (by kernel_rfl) ?_
                                refine lwp_nil ?_
                                refine cwp_ret ?_
                                obtain rfl := Option.some.inj H
                                obtain rfl := Option.some.inj HR96
                                show Exists _
                                exact ⟨.bool false, by kernel_rfl, (Fz I404 a363), rfl, pt423⟩
                              · rw [cond_true] at H
                                refine lwp_run 1 (by kernel_rfl) ?_
                                refine lwp_nil ?_
                                refine cwp_false (by kernel_rfl) ?_
                                refine cwp_skip ?_
                                refine cwp_region ?_
                                refine lwp_run 4 (by kernel_rfl) ?_
                                refine lwp_nil ?_
                                have f100197 := r406.up (up_fz (a := a363))
                                have f100198 := r407.up (up_fz (a := a363))
                                have f100199 := r410.up (up_fz (a := a363))
                                have f100200 := ErrV.up (up_fz (a := a363)) q411
                                have f100201 := o412.fz d378
                                have f100202 := g413.up (up_fz (a := a363))
                                exact ⟨(w64 (x62 + x409)), x63, x64, t356.2.b', t356.2.at', t356.2.err', a368, c369, v372, (Fz I404 a363), H, ⟨by kernel_rfl, by kernel_rfl, by kernel_rfl, by kernel_rfl, by kernel_rfl, by kernel_rfl, by kernel_rfl, by kernel_rfl, trivial⟩, pt423, f100197, f100198, f100199, f100200, f100201, f100202⟩
                      · rw [cond_true] at H
                        refine cwp_true (by kernel_rfl) ?_
                        refine cwp_seq ?_
                        refine cwp_region ?_
                        refine lwp_run 2 (by kernel_rfl) ?_
                        obtain ⟨t298, m299, H⟩ := bind_some H
                        refine lwp_op (by kernel_rfl) (owp_callF (by kernel_rfl) (bytes_Cursor_Addr.calls pt289.bd o295 r293 q294 m299) ?_)
                        rintro v300 h301 ⟨I302, a305, c306, v309, rfl, p303, r308, q311, o312⟩
                        have pt313 := pt289.own p303 (one_fresh fr56)
                        refine lwp_run 1 (by kernel_rfl) ?_
                        refine lwp_nil ?_
                        refine cwp_seq ?_
                        refine cwp_region ?_
                        refine lwp_run 1 (by kernel_rfl) ?_
                        refine lwp_nil ?_
                        refine cwp_seq ?_
                        obtain ⟨j325, e343, H⟩ := letJ_some H
                        refine cwp_join (fun ρ' h315 => ∃ (x320 : Bool) (I316 : Gh), j325 x320 = some s79 ∧ Fits [(0, .slice a1 x0.length c2), (1, .int .i64 x1), (2, .slice a5 x2.length c6), (7, .pointer (some ⟨b45, 0, none⟩)), (8, .int .i64 x62), (9, .int .i64 x63), (10, .int .i64 x64), (11, .int .i64 x65), (14, .int .i64 t298.1), (15, .int .i64 0), (171, .bool x320)] ρ' ∧ Pst No I h I316 h315 ∧ Rd (tInt .u8) I316 h315 a1 c2 x0 ∧ Rd t_shutterlaw06_Act I316 h315 a5 c6 x2 ∧ Rd (tInt .u8) I316 h315 a305 c306 t298.2.b' ∧ ErrV I316 h315 t298.2.err' v309 ∧ OwnB I316 h315 b45 [.slice a305 t298.2.b'.length c306, .int .i64 t298.2.at', v309] 62 ∧ Glob I316 h315) ?_ ?_
                        · refine cwp_region ?_
                          refine lwp_run 1 (by kernel_rfl) ?_
                          by_cases c314 : x63 = 0
                          · rw [if_pos c314] at H
                            refine lwp_op (by kernel_rfl) (owp_pure ((.bool true)) (pr_bool (by kernel_rfl) (eqT c314)) ?_)
                            refine lwp_nil ?_
                            have f100191 := r290.up (p303.up pt289.bd (one_not o295.no))
                            have f100192 := r291.up (p303.up pt289.bd (one_not o295.no))
                            have f100193 := g296.up (p303.up pt289.bd (one_not o295.no))
                            exact ⟨true, I302, H, ⟨by kernel_rfl, by kernel_rfl, by kernel_rfl, by kernel_rfl, by kernel_rfl, by kernel_rfl, by kernel_rfl, by kernel_rfl, by kernel_rfl, by kernel_rfl, by kernel_rfl, trivial⟩, pt313, f100191, f100192, r308, q311, o312, f100193⟩
                          · rw [if_neg c314] at H
                            refine lwp_op (by kernel_rfl) (owp_pure ((.bool false)) (pr_bool (by kernel_rfl) (eqF c314)) ?_)
                            refine lwp_nil ?_
                            have f100194 := r290.up (p303.up pt289.bd (one_not o295.no))
                            have f100195 := r291.up (p303.up pt289.bd (one_not o295.no))
                            have f100196 := g296.up (p303.up pt289.bd (one_not o295.no))
                            exact ⟨false, I302, H, ⟨by kernel_rfl, by kernel_rfl, by kernel_rfl, by kernel_rfl, by kernel_rfl, by kernel_rfl, by kernel_rfl, by kernel_rfl, by kernel_rfl, by kernel_rfl, by kernel_rfl, trivial⟩, pt313, f100194, f100195, r308, q311, o312, f100196⟩
                        · clear H
                          rintro ρ' h315 ⟨x320, I316, H, hf, pt317, r318, r319, r321, q322, o323, g324⟩
                          refine cwp_fits _ hf ?_
                          subst e343
                          try dsimp only at H
                          cases x320
                          · rw [cond_false] at H
                            refine cwp_false (by kernel_rfl) ?_
                            refine cwp_skip ?_
                            refine cwp_seq ?_
                            refine cwp_region ?_
                            refine lwp_run 2 (by kernel_rfl) ?_
                            by_cases c342 : t298.1 = 0
                            · rw [if_pos c342] at H
                              refine lwp_op (by kernel_rfl) (owp_pure ((.bool false)) (pr_bool (by kernel_rfl) (neF c342)) ?_)
                              refine lwp_nil ?_
                              refine cwp_false (by kernel_rfl) ?_
                              refine cwp_skip ?_
                              exact ⟨x62, x63, x64, t298.2.b', t298.2.at', t298.2.err', a305, c306, v309, I316, H, ⟨by kernel_rfl, by kernel_rfl, by kernel_rfl, by kernel_rfl, by kernel_rfl, by kernel_rfl, by kernel_rfl, by kernel_rfl, trivial⟩, pt317, r318, r319, r321, q322, o323, g324⟩
                            · rw [if_neg c342] at H
                              refine lwp_op (by kernel_rfl) (owp_pure ((.bool true)) (pr_bool (by kernel_rfl) (neT c342)) ?_)
                              refine lwp_nil ?_
                              refine cwp_true (by kernel_rfl) ?_
                              refine cwp_seq ?_
                              refine cwp_region ?_
                              refine lwp_run 1 (by kernel_rfl) ?_
                              refine lwp_nil ?_
                              refine cwp_ret ?_
                              obtain rfl := Option.some.inj H
                              obtain rfl := Option.some.inj HR96
                              show Exists _
                              exact ⟨.bool false, by kernel_rfl, I316, rfl, pt317⟩
                          · rw [cond_true] at H
                            refine cwp_true (by kernel_rfl) ?_
                            refine cwp_seq ?_
                            refine cwp_region ?_
                            obtain ⟨c326, H⟩ := guard_pos H
                            obtain ⟨c327, H⟩ := guard_pos H
                            refine lwp_run 2 (by kernel_rfl) ?_
                            obtain ⟨a330, c331, r329, e332⟩ := r318.part (lo := x62) (hi := (x0.length : Int)) c326 c327 (Int.le_refl _)
                            refine lwp_op (by kernel_rfl) (owp_pure ((.slice a330 (sub x0 x62 (x0.length : Int)).length c331)) (pr_slice_l (e := 5) r318.toSl e332 (by kernel_rfl) (k1 := .i64) (by kernel_rfl) (by kernel_rfl) (by kernel_rfl) c326 c327 (Int.le_refl _)) ?_)
                            refine lwp_run 1 (by kernel_rfl) ?_
                            obtain ⟨t333, m334, H⟩ := bind_some H
                            refine lwp_op (by kernel_rfl) (owp_callF (by kernel_rfl) (shutterref04_Get.calls pt317.bd r329 m334) ?_)
                            rintro v335 h336 ⟨_, rfl, rfl⟩
                            refine lwp_run 7 (by kernel_rfl) ?_
                            refine lwp_nil ?_
                            refine cwp_seq ?_
                            refine cwp_region ?_
                            refine lwp_run 1 (by kernel_rfl) ?_
                            by_cases c339 : t333.2.1 = 0
                            · rw [if_pos c339] at H
                              refine lwp_op (by kernel_rfl) (owp_pure ((.bool false)) (pr_bool (by kernel_rfl) (neF c339)) ?_)
                              refine lwp_nil ?_
                              refine cwp_false (by kernel_rfl) ?_
                              refine cwp_seq ?_
                              refine cwp_region ?_
                              refine lwp_run 2 (by kernel_rfl) ?_
                              refine lwp_nil ?_
                              refine cwp_region ?_
                              refine lwp_run 3 (by kernel_rfl) ?_
                              refine lwp_nil ?_
                              refine cwp_seq ?_
                              refine cwp_region ?_
                              refine lwp_run 2 (by kernel_rfl) ?_
                              by_cases c340 : t298.1 = t333.1
                              · rw [if_pos c340] at H
                                refine lwp_op (by kernel_rfl) (owp_pure ((.bool false)) (pr_bool (by kernel_rfl) (neF c340)) ?_)
                                refine lwp_nil ?_
                                refine cwp_false (by kernel_rfl) ?_
                                refine cwp_skip ?_
                                exact ⟨(w64 (x62 + 2)), x63, x64, t298.2.b', t298.2.at', t298.2.err', a305, c306, v309, I316, H, ⟨by kernel_rfl, by kernel_rfl, by kernel_rfl, by kernel_rfl, by kernel_rfl, by kernel_rfl, by kernel_rfl, by kernel_rfl, trivial⟩, pt317, r318, r319, r321, q322, o323, g324⟩
                              · rw [if_neg c340] at H
                                refine lwp_op (by kernel_rfl) (owp_pure ((.bool true)) (pr_bool (by kernel_rfl) (neT c340)) ?_)
                                refine lwp_nil ?_
                                refine cwp_true (by kernel_rfl) ?_
                                refine cwp_seq ?_
                                refine cwp_region ?_
                                refine lwp_run 1 (by kernel_rfl) ?_
                                refine lwp_nil ?_
                                refine cwp_ret ?_
                                obtain rfl := Option.some.inj H
                                obtain rfl := Option.some.inj HR96
                                show Exists _
                                exact ⟨.bool false, by kernel_rfl, I316, rfl, pt317⟩
                            · rw [if_neg c339] at H
                              refine lwp_op (by kernel_rfl) (owp_pure ((.bool true)) (pr_bool (by kernel_rfl) (neT c339)) ?_)
                              refine lwp_nil ?_
                              refine cwp_true (by kernel_rfl) ?_
                              refine cwp_seq ?_
                              refine cwp_region ?_
                              refine lwp_run 2 (by kernel_rfl) ?_
                              refine lwp_nil ?_
                              refine cwp_region ?_
                              refine lwp_run 2 (by kernel_rfl) ?_
                              refine lwp_nil ?_
                              refine cwp_seq ?_
                              refine cwp_region ?_
                              refine lwp_run 2 (by kernel_rfl) ?_
                              by_cases c341 : t298.1 = 0
                              · rw [if_pos c341] at H
                                refine lwp_op (by kernel_rfl) (owp_pure ((.bool false)) (pr_bool (by kernel_rfl) (neF c341)) ?_)
                                refine lwp_nil ?_
                                refine cwp_false (by kernel_rfl) ?_
                                refine cwp_skip ?_
                                exact ⟨x62, t333.2.1, x62, t298.2.b', t298.2.at', t298.2.err', a305, c306, v309, I316, H, ⟨by kernel_rfl, by kernel_rfl, by kernel_rfl, by kernel_rfl, by kernel_rfl, by kernel_rfl, by kernel_rfl, by kernel_rfl, trivial⟩, pt317, r318, r319, r321, q322, o323, g324⟩
                              · rw [if_neg c341] at H
                                refine lwp_op (by kernel_rfl) (owp_pure ((.bool true)) (pr_bool (by kernel_rfl) (neT c341)) ?_)
                                refine lwp_nil ?_
                                refine cwp_true (by kernel_rfl) ?_
                                refine cwp_seq ?_
                                refine cwp_region ?_
                                refine lwp_run 1 (by kernel_rfl) ?_
                                refine lwp_nil ?_
                                refine cwp_ret ?_
                                obtain rfl := Option.some.inj H
                                obtain rfl := Option.some.inj HR96
                                show Exists _
                                exact ⟨.bool false, by kernel_rfl, I316, rfl, pt317⟩
                  · rw [cond_true] at H
                    refine cwp_true (by kernel_rfl) ?_
                    refine cwp_seq ?_
                    refine cwp_region ?_
                    refine lwp_run 1 (by kernel_rfl) ?_
                    refine lwp_nil ?_
                    obtain ⟨j132, e285, H⟩ := letJ_some H
                    refine cwp_join (fun ρ' h122 => ∃ (x127 : Int) (I123 : Gh), j132 x127 = some s79 ∧ Fits [(0, .slice a1 x0.length c2), (1, .int .i64 x1), (2, .slice a5 x2.length c6), (7, .pointer (some ⟨b45, 0, none⟩)), (8, .int .i64 x62), (9, .int .i64 x63), (10, .int .i64 x64), (11, .int .i64 x65), (12, .int .i64 x127)] ρ' ∧ Pst No I h I123 h122 ∧ Rd (tInt .u8) I123 h122 a1 c2 x0 ∧ Rd t_shutterlaw06_Act I123 h122 a5 c6 x2 ∧ Rd (tInt .u8) I123 h122 a67 c68 x66 ∧ ErrV I123 h122 x72 v73 ∧ OwnB I123 h122 b45 [.slice a67 x66.length c68, .int .i64 x71, v73] 62 ∧ Glob I123 h122) ?_ ?_
                    · refine cwp_seq ?_
                      refine cwp_region ?_
                      refine lwp_run 2 (by kernel_rfl) ?_
                      have hs116 := r109.isSome c98 c97
                      refine lwp_op (by kernel_rfl) (owp_pure (elemPtr a5 (x65.toNat * 2)) (pr_indexElem (e := 51) r109.toSl (k := .i64) (by kernel_rfl) (by kernel_rfl) (by kernel_rfl) (by kernel_rfl) c98 c97) ?_)
                      refine lwp_op (by kernel_rfl) (owp_pure ((elemPtr a5 (x65.toNat * 2 + 0))) (pr_fieldAddr (a := a5) (n := (x65.toNat * 2)) (off := 0) (by kernel_rfl) hs116 (fun _ _ => by kernel_rfl)) ?_)
                      obtain ⟨cs117, hs118, rp119⟩ := r109.toSl.seg c98 c97
                      obtain rfl := t_shutterlaw06_Act.open_ rp119
                      refine lwp_op (by kernel_rfl) (owp_load (by kernel_rfl) (by kernel_rfl) (seg_cell (f := 0) hs118 rfl) ?_)
                      by_cases c120 : (at_ x2 x65).Do = 1
                      · rw [if_pos c120] at H
                        refine lwp_op (by kernel_rfl) (owp_pure ((.bool true)) (pr_bool (by kernel_rfl) (eqT c120)) ?_)
                        refine lwp_nil ?_
                        refine cwp_true (by kernel_rfl) ?_
                        refine cwp_region ?_
                        refine lwp_run 2 (by kernel_rfl) ?_
                        have hs121 := r109.isSome c98 c97
                        refine lwp_op (by kernel_rfl) (owp_pure (elemPtr a5 (x65.toNat * 2)) (pr_indexElem (e := 51) r109.toSl (k := .i64) (by kernel_rfl) (by kernel_rfl) (by kernel_rfl) (by kernel_rfl) c98 c97) ?_)
                        refine lwp_op (by kernel_rfl) (owp_pure ((elemPtr a5 (x65.toNat * 2 + 1))) (pr_fieldAddr (a := a5) (n := (x65.toNat * 2)) (off := 1) (by kernel_rfl) hs121 (fun _ _ => by kernel_rfl)) ?_)
                        refine lwp_op (by kernel_rfl) (owp_load (by kernel_rfl) (by kernel_rfl) (seg_cell (f := 1) hs118 rfl) ?_)
                        refine lwp_run 1 (by kernel_rfl) ?_
                        refine lwp_nil ?_
                        exact ⟨(at_ x2 x65).N, I106, H, ⟨by kernel_rfl, by kernel_rfl, by kernel_rfl, by kernel_rfl, by kernel_rfl, by kernel_rfl, by kernel_rfl, by kernel_rfl, by kernel_rfl, trivial⟩, pt107, r108, r109, r111, q112, o113, g114⟩
                      · rw [if_neg c120] at H
                        refine lwp_op (by kernel_rfl) (owp_pure ((.bool false)) (pr_bool (by kernel_rfl) (eqF c120)) ?_)
                        refine lwp_nil ?_
                        refine cwp_false (by kernel_rfl) ?_
                        refine cwp_skip ?_
                        exact ⟨1, I106, H, ⟨by kernel_rfl, by kernel_rfl, by kernel_rfl, by kernel_rfl, by kernel_rfl, by kernel_rfl, by kernel_rfl, by kernel_rfl, by kernel_rfl, trivial⟩, pt107, r108, r109, r111, q112, o113, g114⟩
                    · clear H
                      rintro ρ' h122 ⟨x127, I123, H, hf, pt124, r125, r126, r128, q129, o130, g131⟩
                      refine cwp_fits _ hf ?_
                      subst e285
                      try dsimp only at H
                      refine cwp_seq ?_
                      refine cwp_region ?_
                      refine lwp_run 1 (by kernel_rfl) ?_
                      refine lwp_nil ?_
                      obtain ⟨j211, e284, H⟩ := letJ_some H
                      refine cwp_join (fun ρ' h187 => ∃ (x192 : List Int) (x198 : List Int) (x203 : Int) (x204 : GoErr) (a193 : Option Addr) (c194 : Nat) (a199 : Option Addr) (c200 : Nat) (v205 : Value) (I188 : Gh), j211 x192 x198 x203 x204 = some s79 ∧ Fits [(0, .slice a1 x0.length c2), (1, .int .i64 x1), (2, .slice a5 x2.length c6), (7, .pointer (some ⟨b45, 0, none⟩)), (8, .int .i64 x62), (9, .int .i64 x63), (10, .int .i64 x64), (11, .int .i64 x65), (12, .int .i64 x127), (13, .slice a193 x192.length c194)] ρ' ∧ Pst No I h I188 h187 ∧ Rd (tInt .u8) I188 h187 a1 c2 x0 ∧ Rd t_shutterlaw06_Act I188 h187 a5 c6 x2 ∧ Own (tInt .u8) I188 h187 a193 c194 x192 ∧ (∀ b, InA a193 b → h.size ≤ b) ∧ Rd (tInt .u8) I188 h187 a199 c200 x198 ∧ ErrV I188 h187 x204 v205 ∧ OwnB I188 h187 b45 [.slice a199 x198.length c200, .int .i64 x203, v205] 62 ∧ ¬ InA a193 b45 ∧ Glob I188 h187) ?_ ?_
                      · refine cwp_seq ?_
                        refine cwp_region ?_
                        refine lwp_run 2 (by kernel_rfl) ?_
                        have hs133 := r126.isSome c98 c97
                        refine lwp_op (by kernel_rfl) (owp_pure (elemPtr a5 (x65.toNat * 2)) (pr_indexElem (e := 51) r126.toSl (k := .i64) (by kernel_rfl) (by kernel_rfl) (by kernel_rfl) (by kernel_rfl) c98 c97) ?_)
                        refine lwp_op (by kernel_rfl) (owp_pure ((elemPtr a5 (x65.toNat * 2 + 0))) (pr_fieldAddr (a := a5) (n := (x65.toNat * 2)) (off := 0) (by kernel_rfl) hs133 (fun _ _ => by kernel_rfl)) ?_)
                        obtain ⟨cs134, hs135, rp136⟩ := r126.toSl.seg c98 c97
                        obtain rfl := t_shutterlaw06_Act.open_ rp136
                        refine lwp_op (by kernel_rfl) (owp_load (by kernel_rfl) (by kernel_rfl) (seg_cell (f := 0) hs135 rfl) ?_)
                        by_cases c137 : (at_ x2 x65).Do = 1
                        · rw [if_pos c137] at H
                          refine lwp_op (by kernel_rfl) (owp_pure ((.bool true)) (pr_bool (by kernel_rfl) (eqT c137)) ?_)
                          refine lwp_nil ?_
                          refine cwp_true (by kernel_rfl) ?_
                          refine cwp_region ?_
                          refine lwp_run 2 (by kernel_rfl) ?_
                          obtain ⟨t138, m139, H⟩ := bind_some H
                          refine lwp_op (by kernel_rfl) (owp_callF (by kernel_rfl) (bytes_Cursor_Take.calls pt124.bd o130 r128 q129 m139) ?_)
                          rintro v140 h141 ⟨I142, a145, c146, a150, c151, v154, rfl, p143, r148, fr149, r153, q156, o157⟩
                          have pt158 := pt124.own p143 (one_fresh fr56)
                          have fr159 := fresh_up fr149 pt124.size
                          have d160 := fresh_blk fr149 o130.lt
                          refine lwp_run 1 (by kernel_rfl) ?_
                          refine lwp_nil ?_
                          have f100179 := r125.up (p143.up pt124.bd (one_not o130.no))
                          have f100180 := r126.up (p143.up pt124.bd (one_not o130.no))
                          have f100181 := g131.up (p143.up pt124.bd (one_not o130.no))
                          exact ⟨t138.1, t138.2.b', t138.2.at', t138.2.err', a145, c146, a150, c151, v154, I142, H, ⟨by kernel_rfl, by kernel_rfl, by kernel_rfl, by kernel_rfl, by kernel_rfl, by kernel_rfl, by kernel_rfl, by kernel_rfl, by kernel_rfl, by kernel_rfl, trivial⟩, pt158, f100179, f100180, r148, fr159, r153, q156, o157, d160, f100181⟩
                        · rw [if_neg c137] at H
                          refine lwp_op (by kernel_rfl) (owp_pure ((.bool false)) (pr_bool (by kernel_rfl) (eqF c137)) ?_)
                          refine lwp_nil ?_
                          refine cwp_false (by kernel_rfl) ?_
                          refine cwp_region ?_
                          refine lwp_run 1 (by kernel_rfl) ?_
                          obtain ⟨t161, m162, H⟩ := bind_some H
                          refine lwp_op (by kernel_rfl) (owp_callF (by kernel_rfl) (bytes_Cursor_Byte.calls pt124.bd o130 r128 q129 m162) ?_)
                          rintro v163 h164 ⟨I165, a168, c169, v172, rfl, p166, r171, q174, o175⟩
                          have pt176 := pt124.own p166 (one_fresh fr56)
                          refine lwp_op (by kernel_rfl) (owp_buildSlice (e := 5) [.int .u8 t161.1] 1 (.int .u8 0) p166.bd (by kernel_rfl) (by kernel_rfl) (by kernel_rfl) (by kernel_rfl) (by kernel_rfl) ?_)
                          intro b177 h178 hc179 p180 o181
                          have pt182 := pt176.no p180
                          have fr183 := Nat.le_trans pt176.size hc179
                          have w184 := o181.own (l := ([t161.1] : List Int)) (Reps.int (k := .u8) (l := [t161.1]))
                          have fw184 := some_fresh fr183
                          have d186 := some_ne (ne_new o175.lt hc179)
                          refine lwp_run 1 (by kernel_rfl) ?_
                          refine lwp_nil ?_
                          have f100182 := r125.up (p166.up pt124.bd (one_not o130.no))
                          have f100183 := f100182.up (p180.up p166.bd (fun _ x => x.elim))
                          have f100184 := r126.up (p166.up pt124.bd (one_not o130.no))
                          have f100185 := f100184.up (p180.up p166.bd (fun _ x => x.elim))
                          have f100186 := r171.up (p180.up p166.bd (fun _ x => x.elim))
                          have f100187 := ErrV.up (p180.up p166.bd (fun _ x => x.elim)) q174
                          have f100188 := o175.post p180 (fun x => x.elim)
                          have f100189 := g131.up (p166.up pt124.bd (one_not o130.no))
                          have f100190 := f100189.up (p180.up p166.bd (fun _ x => x.elim))
                          exact ⟨[t161.1], t161.2.b', t161.2.at', t161.2.err', (some ⟨b177, 0, none⟩), 1, a168, c169, v172, I165, H, ⟨by kernel_rfl, by kernel_rfl, by kernel_rfl, by kernel_rfl, by kernel_rfl, by kernel_rfl, by kernel_rfl, by kernel_rfl, by kernel_rfl, by kernel_rfl, trivial⟩, pt182, f100183, f100185, w184, fw184, f100186, f100187, f100188, d186, f100190⟩
                      · clear H
                        rintro ρ' h187 ⟨x192, x198, x203, x204, a193, c194, a199, c200, v205, I188, H, hf, pt189, r190, r191, r195, fr197, r201, q206, o208, d209, g210⟩
                        refine cwp_fits _ hf ?_
                        subst e284
                        try dsimp only at H
                        obtain ⟨j227, e283, H⟩ := letJ_some H
                        refine cwp_join (fun ρ' h215 => ∃ (x220 : Int) (x221 : Int) (I216 : Gh), j227 x220 x221 = some s79 ∧ Fits [(0, .slice a1 x0.length c2), (1, .int .i64 x1), (2, .slice a5 x2.length c6), (7, .pointer (some ⟨b45, 0, none⟩)), (8, .int .i64 x62), (9, .int .i64 x220), (10, .int .i64 x221), (11, .int .i64 x65), (12, .int .i64 x127), (13, .slice a193 x192.length c194)] ρ' ∧ Pst No I h I216 h215 ∧ Rd (tInt .u8) I216 h215 a1 c2 x0 ∧ Rd t_shutterlaw06_Act I216 h215 a5 c6 x2 ∧ Own (tInt .u8) I216 h215 a193 c194 x192 ∧ Rd (tInt .u8) I216 h215 a199 c200 x198 ∧ ErrV I216 h215 x204 v205 ∧ OwnB I216 h215 b45 [.slice a199 x198.length c200, .int .i64 x203, v205] 62 ∧ Glob I216 h215) ?_ ?_
                        · refine cwp_seq ?_
                          refine cwp_region ?_
                          refine lwp_run 1 (by kernel_rfl) ?_
                          by_cases c212 : x63 = 0
                          · rw [if_pos c212] at H
                            refine lwp_op (by kernel_rfl) (owp_pure ((.bool true)) (pr_bool (by kernel_rfl) (eqT c212)) ?_)
                            refine lwp_run 2 (by kernel_rfl) ?_
                            by_cases c213 : x127 < 0
                            · rw [if_pos c213] at H
                              refine lwp_op (by kernel_rfl) (owp_pure ((.bool true)) (pr_bool (by kernel_rfl) (decide_eq_true c213)) ?_)
                              refine lwp_run 9 (by kernel_rfl) ?_
                              refine lwp_nil ?_
                              refine cwp_true (by kernel_rfl) ?_
                              refine cwp_seq ?_
                              refine cwp_region ?_
                              refine lwp_run 1 (by kernel_rfl) ?_
                              refine lwp_nil ?_
                              refine cwp_region ?_
                              refine lwp_run 2 (by kernel_rfl) ?_
                              refine lwp_nil ?_
                              exact ⟨2, x62, I188, H, ⟨by kernel_rfl, by kernel_rfl, by kernel_rfl, by kernel_rfl, by kernel_rfl, by kernel_rfl, by kernel_rfl, by kernel_rfl, by kernel_rfl, by kernel_rfl, trivial⟩, pt189, r190, r191, r195, r201, q206, o208, g210⟩
                            · rw [if_neg c213] at H
                              refine lwp_op (by kernel_rfl) (owp_pure ((.bool false)) (pr_bool (by kernel_rfl) (decide_eq_false c213)) ?_)
                              refine lwp_run 6 (by kernel_rfl) ?_
                              by_cases c214 : x127 > (w64 ((x0.length : Int) - x62))
                              · rw [if_pos c214] at H
                                refine lwp_op (by kernel_rfl) (owp_pure ((.bool true)) (pr_bool (by kernel_rfl) (decide_eq_true c214)) ?_)
                                refine lwp_run 2 (by kernel_rfl) ?_
                                refine lwp_nil ?_
                                refine cwp_true (by kernel_rfl) ?_
                                refine cwp_seq ?_
                                refine cwp_region ?_
                                refine lwp_run 1 (by kernel_rfl) ?_
                                refine lwp_nil ?_
                                refine cwp_region ?_
                                refine lwp_run 2 (by kernel_rfl) ?_
                                refine lwp_nil ?_
                                exact ⟨2, x62, I188, H, ⟨by kernel_rfl, by kernel_rfl, by kernel_rfl, by kernel_rfl, by kernel_rfl, by kernel_rfl, by kernel_rfl, by kernel_rfl, by kernel_rfl, by kernel_rfl, trivial⟩, pt189, r190, r191, r195, r201, q206, o208, g210⟩
                              · rw [if_neg c214] at H
                                refine lwp_op (by kernel_rfl) (owp_pure ((.bool false)) (pr_bool (by kernel_rfl) (decide_eq_false c214)) ?_)
                                refine lwp_run 2 (by kernel_rfl) ?_
                                refine lwp_nil ?_
                                refine cwp_false (by kernel_rfl) ?_
                                refine cwp_skip ?_
                                exact ⟨x63, x64, I188, H, ⟨by kernel_rfl, by kernel_rfl, by kernel_rfl, by kernel_rfl, by kernel_rfl, by kernel_rfl, by kernel_rfl, by kernel_rfl, by kernel_rfl, by kernel_rfl, trivial⟩, pt189, r190, r191, r195, r201, q206, o208, g210⟩
                          · rw [if_neg c212] at H
                            refine lwp_op (by kernel_rfl) (owp_pure ((.bool false)) (pr_bool (by kernel_rfl) (eqF c212)) ?_)
                            refine lwp_run 12 (by kernel_rfl) ?_
                            refine lwp_nil ?_
                            refine cwp_false (by kernel_rfl) ?_
                            refine cwp_skip ?_
                            exact ⟨x63, x64, I188, H, ⟨by kernel_rfl, by kernel_rfl, by kernel_rfl, by kernel_rfl, by kernel_rfl, by kernel_rfl, by kernel_rfl, by kernel_rfl, by kernel_rfl, by kernel_rfl, trivial⟩, pt189, r190, r191, r195, r201, q206, o208, g210⟩
                        · clear H
                          rintro ρ' h215 ⟨x220, x221, I216, H, hf, pt217, r218, r219, r222, r223, q224, o225, g226⟩
                          refine cwp_fits _ hf ?_
                          subst e283
                          try dsimp only at H
                          obtain ⟨j240, e282, H⟩ := letJ_some H
                          refine cwp_join (fun ρ' h229 => ∃ (x235 : Bool) (I230 : Gh), j240 x235 = some s79 ∧ Fits [(0, .slice a1 x0.length c2), (1, .int .i64 x1), (2, .slice a5 x2.length c6), (7, .pointer (some ⟨b45, 0, none⟩)), (8, .int .i64 x62), (9, .int .i64 x220), (10, .int .i64 x221), (11, .int .i64 x65), (12, .int .i64 x127), (13, .slice a193 x192.length c194), (127, .bool x235)] ρ' ∧ Pst No I h I230 h229 ∧ Rd (tInt .u8) I230 h229 a1 c2 x0 ∧ Rd t_shutterlaw06_Act I230 h229 a5 c6 x2 ∧ Own (tInt .u8) I230 h229 a193 c194 x192 ∧ Rd (tInt .u8) I230 h229 a199 c200 x198 ∧ ErrV I230 h229 x204 v205 ∧ OwnB I230 h229 b45 [.slice a199 x198.length c200, .int .i64 x203, v205] 62 ∧ Glob I230 h229) ?_ ?_
                          · refine cwp_region ?_
                            refine lwp_run 1 (by kernel_rfl) ?_
                            by_cases c228 : x220 = 0
                            · rw [if_pos c228] at H
                              refine lwp_op (by kernel_rfl) (owp_pure ((.bool false)) (pr_bool (by kernel_rfl) (neF c228)) ?_)
                              refine lwp_nil ?_
                              exact ⟨false, I216, H, ⟨by kernel_rfl, by kernel_rfl, by kernel_rfl, by kernel_rfl, by kernel_rfl, by kernel_rfl, by kernel_rfl, by kernel_rfl, by kernel_rfl, by kernel_rfl, by kernel_rfl, trivial⟩, pt217, r218, r219, r222, r223, q224, o225, g226⟩
                            · rw [if_neg c228] at H
                              refine lwp_op (by kernel_rfl) (owp_pure ((.bool true)) (pr_bool (by kernel_rfl) (neT c228)) ?_)
                              refine lwp_nil ?_
                              exact ⟨true, I216, H, ⟨by kernel_rfl, by kernel_rfl, by kernel_rfl, by kernel_rfl, by kernel_rfl, by kernel_rfl, by kernel_rfl, by kernel_rfl, by kernel_rfl, by kernel_rfl, by kernel_rfl, trivial⟩, pt217, r218, r219, r222, r223, q224, o225, g226⟩
                          · clear H
                            rintro ρ' h229 ⟨x235, I230, H, hf, pt231, r232, r233, r234, r236, q237, o238, g239⟩
                            refine cwp_fits _ hf ?_
                            subst e282
                            try dsimp only at H
                            cases x235
                            · rw [cond_false] at H
                              refine cwp_false (by kernel_rfl) ?_
                              refine cwp_seq ?_
                              refine cwp_seq ?_
                              refine cwp_region ?_
                              obtain ⟨c263, H⟩ := guard_pos H
                              obtain ⟨c264, H⟩ := guard_pos H
                              obtain ⟨c265, H⟩ := guard_pos H
                              refine lwp_run 6 (by kernel_rfl) ?_
                              obtain ⟨a268, c269, r267, e270⟩ := r232.part (lo := x62) (hi := (w64 (x62 + x127))) c263 c264 c265
                              refine lwp_op (by kernel_rfl) (owp_pure ((.slice a268 (sub x0 x62 (w64 (x62 + x127))).length c269)) (pr_slice_lh (e := 5) r232.toSl e270 (by kernel_rfl) (k1 := .i64) (by kernel_rfl) (k2 := .i64) (by kernel_rfl) (by kernel_rfl) (by kernel_rfl) c263 c264 c265) ?_)
                              have pt271 := post_fz r234 pt231.bd pt231 fr197
                              have r273 := r234.rd
                              have bd274 := bd_fz r234 pt231.bd
                              have f275 := r267.up (up_fz (a := a193))
                              obtain ⟨t276, m277, H⟩ := bind_some H
                              refine lwp_op (by kernel_rfl) (owp_callF (by kernel_rfl) (shutterref01_Same.calls bd274 r273 f275 m277) ?_)
                              rintro v278 h279 ⟨_, rfl, rfl⟩
                              cases t276
                              · rw [cond_false] at H
                                refine lwp_run 1 (by kernel_rfl) ?_
                                refine lwp_nil ?_
                                refine cwp_true (by kernel_rfl) ?_
                                refine cwp_seq ?_
                                refine cwp_region ?_
                                refine lwp_run 1 (by kernel_rfl) ?_
                                refine lwp_nil ?_
                                refine cwp_ret ?_
                                obtain rfl := Option.some.inj H
                                obtain rfl := Option.some.inj HR96
                                show Exists _
                                exact ⟨.bool false, by kernel_rfl, (Fz I230 a193), rfl, pt271⟩
                              · rw [cond_true] at H
                                refine lwp_run 1 (by kernel_rfl) ?_
                                refine lwp_nil ?_
                                refine cwp_false (by kernel_rfl) ?_
                                refine cwp_skip ?_
                                refine cwp_region ?_
                                refine lwp_run 4 (by kernel_rfl) ?_
                                refine lwp_nil ?_
                                have f100173 := r232.up (up_fz (a := a193))
                                have f100174 := r233.up (up_fz (a := a193))
                                have f100175 := r236.up (up_fz (a := a193))
                                have f100176 := ErrV.up (up_fz (a := a193)) q237
                                have f100177 := o238.fz d209
                                have f100178 := g239.up (up_fz (a := a193))
                                exact ⟨(w64 (x62 + x127)), x220, x221, x198, x203, x204, a199, c200, v205, (Fz I230 a193), H, ⟨by kernel_rfl, by kernel_rfl, by kernel_rfl, by kernel_rfl, by kernel_rfl, by kernel_rfl, by kernel_rfl, by kernel_rfl, trivial⟩, pt271, f100173, f100174, f100175, f100176, f100177, f100178⟩
                            · rw [cond_true] at H
                              refine cwp_true (by kernel_rfl) ?_
                              refine cwp_seq ?_
                              refine cwp_region ?_
                              refine lwp_run 2 (by kernel_rfl) ?_
                              have hs241 := r233.isSome c98 c97
                              refine lwp_op (by kernel_rfl) (owp_pure (elemPtr a5 (x65.toNat * 2)) (pr_indexElem (e := 51) r233.toSl (k := .i64) (by kernel_rfl) (by kernel_rfl) (by kernel_rfl) (by kernel_rfl) c98 c97) ?_)
                              refine lwp_op (by kernel_rfl) (owp_pure ((elemPtr a5 (x65.toNat * 2 + 0))) (pr_fieldAddr (a := a5) (n := (x65.toNat * 2)) (off := 0) (by kernel_rfl) hs241 (fun _ _ => by kernel_rfl)) ?_)
                              obtain ⟨cs242, hs243, rp244⟩ := r233.toSl.seg c98 c97
                              obtain rfl := t_shutterlaw06_Act.open_ rp244
                              refine lwp_op (by kernel_rfl) (owp_load (by kernel_rfl) (by kernel_rfl) (seg_cell (f := 0) hs243 rfl) ?_)
                              by_cases c245 : (at_ x2 x65).Do = 1
                              · rw [if_pos c245] at H
                                refine lwp_op (by kernel_rfl) (owp_pure ((.bool true)) (pr_bool (by kernel_rfl) (eqT c245)) ?_)
                                refine lwp_run 3 (by kernel_rfl) ?_
                                by_cases c246 : (x192.length : Int) = 0
                                · rw [if_pos c246] at H
                                  refine lwp_op (by kernel_rfl) (owp_pure ((.bool false)) (pr_bool (by kernel_rfl) (neF c246)) ?_)
                                  refine lwp_run 4 (by kernel_rfl) ?_
                                  have hs247 := r233.isSome c98 c97
                                  refine lwp_op (by kernel_rfl) (owp_pure (elemPtr a5 (x65.toNat * 2)) (pr_indexElem (e := 51) r233.toSl (k := .i64) (by kernel_rfl) (by kernel_rfl) (by kernel_rfl) (by kernel_rfl) c98 c97) ?_)
                                  refine lwp_op (by kernel_rfl) (owp_pure ((elemPtr a5 (x65.toNat * 2 + 0))) (pr_fieldAddr (a := a5) (n := (x65.toNat * 2)) (off := 0) (by kernel_rfl) hs247 (fun _ _ => by kernel_rfl)) ?_)
                                  refine lwp_op (by kernel_rfl) (owp_load (by kernel_rfl) (by kernel_rfl) (seg_cell (f := 0) hs243 rfl) ?_)
                                  by_cases c248 : (at_ x2 x65).Do = 0
                                  · rw [if_pos c248] at H
                                    refine lwp_op (by kernel_rfl) (owp_pure ((.bool true)) (pr_bool (by kernel_rfl) (eqT c248)) ?_)
                                    obtain ⟨c249, H⟩ := guard_pos H
                                    refine lwp_run 2 (by kernel_rfl) ?_
                                    have hs250 := r234.isSome (by decide) c249
                                    refine lwp_op (by kernel_rfl) (owp_pure (elemPtr a193 ((0 : Int).toNat * 1)) (pr_indexElem (e := 5) r234.toSl (k := .i64) (by kernel_rfl) (by kernel_rfl) (by kernel_rfl) (by kernel_rfl) (by decide) c249) ?_)
                                    obtain ⟨cs251, hs252, rp253⟩ := r234.toSl.seg (by decide) c249
                                    obtain rfl := rep_int rp253
                                    refine lwp_op (by kernel_rfl) (owp_load (by kernel_rfl) (by kernel_rfl) (seg_cell (f := 0) hs252 rfl) ?_)
                                    by_cases c254 : (at_ x192 0) = 0
                                    · rw [if_pos c254] at H
                                      refine lwp_op (by kernel_rfl) (owp_pure ((.bool false)) (pr_bool (by kernel_rfl) (neF c254)) ?_)
                                      refine lwp_run 2 (by kernel_rfl) ?_
                                      refine lwp_nil ?_
                                      refine cwp_false (by kernel_rfl) ?_
                                      refine cwp_skip ?_
                                      exact ⟨x62, x220, x221, x198, x203, x204, a199, c200, v205, I230, H, ⟨by kernel_rfl, by kernel_rfl, by kernel_rfl, by kernel_rfl, by kernel_rfl, by kernel_rfl, by kernel_rfl, by kernel_rfl, trivial⟩, pt231, r232, r233, r236, q237, o238, g239⟩
                                    · rw [if_neg c254] at H
                                      refine lwp_op (by kernel_rfl) (owp_pure ((.bool true)) (pr_bool (by kernel_rfl) (neT c254)) ?_)
                                      refine lwp_run 2 (by kernel_rfl) ?_
                                      refine lwp_nil ?_
                                      refine cwp_true (by kernel_rfl) ?_
                                      refine cwp_seq ?_
                                      refine cwp_region ?_
                                      refine lwp_run 1 (by kernel_rfl) ?_
                                      refine lwp_nil ?_
                                      refine cwp_ret ?_
                                      obtain rfl := Option.some.inj H
                                      obtain rfl := Option.some.inj HR96
                                      show Exists _
                                      exact ⟨.bool false, by kernel_rfl, I230, rfl, pt231⟩
                                  · rw [if_neg c248] at H
                                    refine lwp_op (by kernel_rfl) (owp_pure ((.bool false)) (pr_bool (by kernel_rfl) (eqF c248)) ?_)
                                    refine lwp_run 7 (by kernel_rfl) ?_
                                    refine lwp_nil ?_
                                    refine cwp_false (by kernel_rfl) ?_
                                    refine cwp_skip ?_
                                    exact ⟨x62, x220, x221, x198, x203, x204, a199, c200, v205, I230, H, ⟨by kernel_rfl, by kernel_rfl, by kernel_rfl, by kernel_rfl, by kernel_rfl, by kernel_rfl, by kernel_rfl, by kernel_rfl, trivial⟩, pt231, r232, r233, r236, q237, o238, g239⟩
                                · rw [if_neg c246] at H
                                  refine lwp_op (by kernel_rfl) (owp_pure ((.bool true)) (pr_bool (by kernel_rfl) (neT c246)) ?_)
                                  refine lwp_run 15 (by kernel_rfl) ?_
                                  refine lwp_nil ?_
                                  refine cwp_true (by kernel_rfl) ?_
                                  refine cwp_seq ?_
                                  refine cwp_region ?_
                                  refine lwp_run 1 (by kernel_rfl) ?_
                                  refine lwp_nil ?_
                                  refine cwp_ret ?_
                                  obtain rfl := Option.some.inj H
                                  obtain rfl := Option.some.inj HR96
                                  show Exists _
                                  exact ⟨.bool false, by kernel_rfl, I230, rfl, pt231⟩
                              · rw [if_neg c245] at H
                                refine lwp_op (by kernel_rfl) (owp_pure ((.bool false)) (pr_bool (by kernel_rfl) (eqF c245)) ?_)
                                refine lwp_run 8 (by kernel_rfl) ?_
                                have hs255 := r233.isSome c98 c97
                                refine lwp_op (by kernel_rfl) (owp_pure (elemPtr a5 (x65.toNat * 2)) (pr_indexElem (e := 51) r233.toSl (k := .i64) (by kernel_rfl) (by kernel_rfl) (by kernel_rfl) (by kernel_rfl) c98 c97) ?_)
                                refine lwp_op (by kernel_rfl) (owp_pure ((elemPtr a5 (x65.toNat * 2 + 0))) (pr_fieldAddr (a := a5) (n := (x65.toNat * 2)) (off := 0) (by kernel_rfl) hs255 (fun _ _ => by kernel_rfl)) ?_)
                                refine lwp_op (by kernel_rfl) (owp_load (by kernel_rfl) (by kernel_rfl) (seg_cell (f := 0) hs243 rfl) ?_)
                                by_cases c256 : (at_ x2 x65).Do = 0
                                · rw [if_pos c256] at H
                                  refine lwp_op (by kernel_rfl) (owp_pure ((.bool true)) (pr_bool (by kernel_rfl) (eqT c256)) ?_)
                                  obtain ⟨c257, H⟩ := guard_pos H
                                  refine lwp_run 2 (by kernel_rfl) ?_
                                  have hs258 := r234.isSome (by decide) c257
                                  refine lwp_op (by kernel_rfl) (owp_pure (elemPtr a193 ((0 : Int).toNat * 1)) (pr_indexElem (e := 5) r234.toSl (k := .i64) (by kernel_rfl) (by kernel_rfl) (by kernel_rfl) (by kernel_rfl) (by decide) c257) ?_)
                                  obtain ⟨cs259, hs260, rp261⟩ := r234.toSl.seg (by decide) c257
                                  obtain rfl := rep_int rp261
                                  refine lwp_op (by kernel_rfl) (owp_load (by kernel_rfl) (by kernel_rfl) (seg_cell (f := 0) hs260 rfl) ?_)
                                  by_cases c262 : (at_ x192 0) = 0
                                  · rw [if_pos c262] at H
                                    refine lwp_op (by kernel_rfl) (owp_pure ((.bool false)) (pr_bool (by kernel_rfl) (neF c262)) ?_)
                                    refine lwp_run 2 (by kernel_rfl) ?_
                                    refine lwp_nil ?_
                                    refine cwp_false (by kernel_rfl) ?_
                                    refine cwp_skip ?_
                                    exact ⟨x62, x220, x221, x198, x203, x204, a199, c200, v205, I230, H, ⟨by kernel_rfl, by kernel_rfl, by kernel_rfl, by kernel_rfl, by kernel_rfl, by kernel_rfl, by kernel_rfl, by kernel_rfl, trivial⟩, pt231, r232, r233, r236, q237, o238, g239⟩
                                  · rw [if_neg c262] at H
                                    refine lwp_op (by kernel_rfl) (owp_pure ((.bool true)) (pr_bool (by kernel_rfl) (neT c262)) ?_)
                                    refine lwp_run 2 (by kernel_rfl) ?_
                                    refine lwp_nil ?_
                                    refine cwp_true (by kernel_rfl) ?_
                                    refine cwp_seq ?_
                                    refine cwp_region ?_
                                    refine lwp_run 1 (by kernel_rfl) ?_
                                    refine lwp_nil ?_
                                    refine cwp_ret ?_
                                    obtain rfl := Option.some.inj H
                                    obtain rfl := Option.some.inj HR96
                                    show Exists _
                                    exact ⟨.bool false, by kernel_rfl, I230, rfl, pt231⟩
                                · rw [if_neg c256] at H
                                  refine lwp_op (by kernel_rfl) (owp_pure ((.bool false)) (pr_bool (by kernel_rfl) (eqF c256)) ?_)
                                  refine lwp_run 7 (by kernel_rfl) ?_
                                  refine lwp_nil ?_
                                  refine cwp_false (by kernel_rfl) ?_
                                  refine cwp_skip ?_
                                  exact ⟨x62, x220, x221, x198, x203, x204, a199, c200, v205, I230, H, ⟨by kernel_rfl, by kernel_rfl, by kernel_rfl, by kernel_rfl, by kernel_rfl, by kernel_rfl, by kernel_rfl, by kernel_rfl, trivial⟩, pt231, r232, r233, r236, q237, o238, g239⟩
              · clear H
                rintro ρ' h527 ⟨x532, x533, x534, x535, x540, x541, a536, c537, v542, I528, H, hf, pt529, r530, r531, r538, q543, o545, g546⟩
                refine cwp_fits _ hf ?_
                subst e646
                try dsimp only at H
                refine cwp_seq ?_
                refine cwp_region ?_
                refine lwp_run 1 (by kernel_rfl) ?_
                obtain ⟨t548, m549, H⟩ := bind_some H
                refine lwp_op (by kernel_rfl) (owp_callF (by kernel_rfl) (bytes_Cursor_At.calls pt529.bd o545 r538 q543 m549) ?_)
                rintro v550 h551 ⟨I552, a555, c556, v559, rfl, p553, r558, q561, o562⟩
                have pt563 := pt529.own p553 (one_fresh fr56)
                refine lwp_run 1 (by kernel_rfl) ?_
                by_cases c564 : t548.1 = x532
                · rw [if_pos c564] at H
                  refine lwp_op (by kernel_rfl) (owp_pure ((.bool false)) (pr_bool (by kernel_rfl) (neF c564)) ?_)
                  refine lwp_run 2 (by kernel_rfl) ?_
                  obtain ⟨t565, m566, H⟩ := bind_some H
                  refine lwp_op (by kernel_rfl) (owp_callF (by kernel_rfl) (bytes_Cursor_Left.calls p553.bd o562 r558 q561 m566) ?_)
                  rintro v567 h568 ⟨I569, a572, c573, v576, rfl, p570, r575, q578, o579⟩
                  have pt580 := pt563.own p570 (one_fresh fr56)
                  refine lwp_run 4 (by kernel_rfl) ?_
                  by_cases c581 : t565.1 = (w64 ((x0.length : Int) - x532))
                  · rw [if_pos c581] at H
                    refine lwp_op (by kernel_rfl) (owp_pure ((.bool false)) (pr_bool (by kernel_rfl) (neF c581)) ?_)
                    refine lwp_run 3 (by kernel_rfl) ?_
                    obtain ⟨t582, m583, H⟩ := bind_some H
                    refine lwp_op (by kernel_rfl) (owp_callF (by kernel_rfl) (bytes_Cursor_Err.calls p570.bd o579 r575 q578 m583) ?_)
                    rintro v584 h585 ⟨I586, v589, a592, c593, v596, rfl, p587, q591, r595, q598, o599⟩
                    have pt600 := pt580.own p587 (one_fresh fr56)
                    obtain ⟨t601, m602, H⟩ := bind_some H
                    have f603 := g546.up (p553.up pt529.bd (one_not o545.no))
                    have f604 := f603.up (p570.up p553.bd (one_not o562.no))
                    have f605 := f604.up (p587.up p570.bd (one_not o579.no))
                    refine lwp_op (by kernel_rfl) (owp_callF (by kernel_rfl) (api_Code.calls p587.bd f605 q591 m602) ?_)
                    rintro v606 h607 ⟨I608, rfl, p609⟩
                    have pt611 := pt600.no p609
                    refine lwp_run 1 (by kernel_rfl) ?_
                    by_cases c612 : t601 = x533
                    · rw [if_pos c612] at H
                      refine lwp_op (by kernel_rfl) (owp_pure ((.bool false)) (pr_bool (by kernel_rfl) (neF c612)) ?_)
                      refine lwp_run 3 (by kernel_rfl) ?_
                      have f613 := o599.post p609 (fun x => x.elim)
                      have f614 := r595.up (p609.up p587.bd (fun _ x => x.elim))
                      have f615 := ErrV.up (p609.up p587.bd (fun _ x => x.elim)) q598
                      obtain ⟨t616, m617, H⟩ := bind_some H
                      refine lwp_op (by kernel_rfl) (owp_callF (by kernel_rfl) (bytes_Cursor_Err.calls p609.bd f613 f614 f615 m617) ?_)
                      rintro v618 h619 ⟨I620, v623, a626, c627, v630, rfl, p621, q625, r629, q632, o633⟩
                      have pt634 := pt611.own p621 (one_fresh fr56)
                      obtain ⟨t635, m636, H⟩ := bind_some H
                      have f637 := f605.up (p609.up p587.bd (fun _ x => x.elim))
                      have f638 := f637.up (p621.up p609.bd (one_not f613.no))
                      refine lwp_op (by kernel_rfl) (owp_callF (by kernel_rfl) (api_Where.calls p621.bd f638 q625 m636) ?_)
                      rintro v639 h640 ⟨I641, rfl, p642⟩
                      have pt644 := pt634.no p642
                      refine lwp_run 1 (by kernel_rfl) ?_
                      by_cases c645 : t635 = x534
                      · rw [if_pos c645] at H
                        refine lwp_op (by kernel_rfl) (owp_pure ((.bool false)) (pr_bool (by kernel_rfl) (neF c645)) ?_)
                        refine lwp_run 1 (by kernel_rfl) ?_
                        refine lwp_nil ?_
                        refine cwp_false (by kernel_rfl) ?_
                        refine cwp_skip ?_
                        refine cwp_region ?_
                        refine lwp_run 3 (by kernel_rfl) ?_
                        refine lwp_nil ?_
                        have f100157 := r530.up (p553.up pt529.bd (one_not o545.no))
                        have f100158 := f100157.up (p570.up p553.bd (one_not o562.no))
                        have f100159 := f100158.up (p587.up p570.bd (one_not o579.no))
                        have f100160 := f100159.up (p609.up p587.bd (fun _ x => x.elim))
                        have f100161 := f100160.up (p621.up p609.bd (one_not f613.no))
                        have f100162 := f100161.up (p642.up p621.bd (fun _ x => x.elim))
                        have f100163 := r531.up (p553.up pt529.bd (one_not o545.no))
                        have f100164 := f100163.up (p570.up p553.bd (one_not o562.no))
                        have f100165 := f100164.up (p587.up p570.bd (one_not o579.no))
                        have f100166 := f100165.up (p609.up p587.bd (fun _ x => x.elim))
                        have f100167 := f100166.up (p621.up p609.bd (one_not f613.no))
                        have f100168 := f100167.up (p642.up p621.bd (fun _ x => x.elim))
                        have f100169 := r629.up (p642.up p621.bd (fun _ x => x.elim))
                        have f100170 := ErrV.up (p642.up p621.bd (fun _ x => x.elim)) q632
                        have f100171 := o633.post p642 (fun x => x.elim)
                        have f100172 := f638.up (p642.up p621.bd (fun _ x => x.elim))
                        show Exists _
                        exact ⟨k, Nat.lt_succ_self _, x532, x533, x534, (w64 (x65 + 1)), t616.2.b', t616.2.at', t616.2.err', a626, c627, v630, I641, H, ⟨by kernel_rfl, by kernel_rfl, by kernel_rfl, by kernel_rfl, by kernel_rfl, by kernel_rfl, by kernel_rfl, by kernel_rfl, trivial⟩, pt644, f100162, f100168, f100169, f100170, f100171, f100172⟩
                      · rw [if_neg c645] at H
                        refine lwp_op (by kernel_rfl) (owp_pure ((.bool true)) (pr_bool (by kernel_rfl) (neT c645)) ?_)
                        refine lwp_run 1 (by kernel_rfl) ?_
                        refine lwp_nil ?_
                        refine cwp_true (by kernel_rfl) ?_
                        refine cwp_seq ?_
                        refine cwp_region ?_
                        refine lwp_run 1 (by kernel_rfl) ?_
                        refine lwp_nil ?_
                        refine cwp_ret ?_
                        obtain rfl := Option.some.inj H
                        obtain rfl := Option.some.inj HR96
                        show Exists _
                        exact ⟨.bool false, by kernel_rfl, I641, rfl, pt644⟩
                    · rw [if_neg c612] at H
                      refine lwp_op (by kernel_rfl) (owp_pure ((.bool true)) (pr_bool (by kernel_rfl) (neT c612)) ?_)
                      refine lwp_run 8 (by kernel_rfl) ?_
                      refine lwp_nil ?_
                      refine cwp_true (by kernel_rfl) ?_
                      refine cwp_seq ?_
                      refine cwp_region ?_
                      refine lwp_run 1 (by kernel_rfl) ?_
                      refine lwp_nil ?_
                      refine cwp_ret ?_
                      obtain rfl := Option.some.inj H
                      obtain rfl := Option.some.inj HR96
                      show Exists _
                      exact ⟨.bool false, by kernel_rfl, I608, rfl, pt611⟩
                  · rw [if_neg c581] at H
                    refine lwp_op (by kernel_rfl) (owp_pure ((.bool true)) (pr_bool (by kernel_rfl) (neT c581)) ?_)
                    refine lwp_run 15 (by kernel_rfl) ?_
                    refine lwp_nil ?_
                    refine cwp_true (by kernel_rfl) ?_
                    refine cwp_seq ?_
                    refine cwp_region ?_
                    refine lwp_run 1 (by kernel_rfl) ?_
                    refine lwp_nil ?_
                    refine cwp_ret ?_
                    obtain rfl := Option.some.inj H
                    obtain rfl := Option.some.inj HR96
                    show Exists _
                    exact ⟨.bool false, by kernel_rfl, I569, rfl, pt580⟩
                · rw [if_neg c564] at H
                  refine lwp_op (by kernel_rfl) (owp_pure ((.bool true)) (pr_bool (by kernel_rfl) (neT c564)) ?_)
                  refine lwp_run 23 (by kernel_rfl) ?_
                  refine lwp_nil ?_
                  refine cwp_true (by kernel_rfl) ?_
                  refine cwp_seq ?_
                  refine cwp_region ?_
                  refine lwp_run 1 (by kernel_rfl) ?_
                  refine lwp_nil ?_
                  refine cwp_ret ?_
                  obtain rfl := Option.some.inj H
                  obtain rfl := Option.some.inj HR96
                  show Exists _
                  exact ⟨.bool false, by kernel_rfl, I552, rfl, pt563⟩
            · rw [if_neg c97] at H
              refine lwp_op (by kernel_rfl) (owp_pure ((.bool false)) (pr_bool (by kernel_rfl) (decide_eq_false c97)) ?_)
              refine lwp_nil ?_
              refine cwp_false (by kernel_rfl) ?_
              refine cwp_exit ?_
              obtain rfl := Option.some.inj H
              show Exists _
              exact ⟨x66, x71, x72, a67, c68, v73, I58, rfl, trivial, pt59, r69, q74, o76, g77⟩
        · rintro ρ' h80 ⟨x83, x88, x89, a84, c85, v90, I81, rfl, hf, pt82, r86, q91, o93, g94⟩
          have H := HR96
          try dsimp only at H
          refine cwp_fits _ hf ?_
          refine cwp_seq ?_
          refine cwp_region ?_
          refine lwp_run 1 (by kernel_rfl) ?_
          refine lwp_nil ?_
          refine cwp_ret ?_
          obtain rfl := Option.some.inj H
          show Exists _
          exact ⟨.bool true, by kernel_rfl, I81, rfl, pt82⟩

end Go.Proofs.YtenlbpcfilmgpaaDoor.Sx
