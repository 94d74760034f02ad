/- Printed walks, part 2: each function's model, and that the code comes to it. -/
import Derived.Test.YtlomgckbmdjmhaaDoorProg
import Derived.Test.YtlomgckbmdjmhaaDoorSxF
import Derived.Test.YtlomgckbmdjmhaaDoorG1
namespace Go.Proofs.YtlomgckbmdjmhaaDoor.Sx
open Go

/-! (*shutter/bytes.Cursor).Peek -/
def bytes_Cursor_Peek.m (x0 : bytes_Cursor) : Option (Int × Bool × bytes_Cursor) :=
  (if x0.err' = GoErr.nil then ((bytes_Cursor_Left.m x0).bind fun t12 => (if t12.1 = 0 then (some (0, false, t12.2)) else (if 0 ≤ t12.2.at' then (if t12.2.at' < (t12.2.b'.length : Int) then (some ((at_ t12.2.b' t12.2.at'), true, t12.2)) else none) else none))) else (some (0, false, x0)))

set_option maxRecDepth 100000 in
theorem bytes_Cursor_Peek.calls {I : Gh} {h : Heap} {b0 : Nat} {x0 : bytes_Cursor} {a1 : Option Addr} {c2 : Nat} {v5 : Value} (hB : Bd I h) (o8 : OwnB I h b0 [.slice a1 x0.b'.length c2, .int .i64 x0.at', v5] 153) (r4 : Rd (tInt .u8) I h a1 c2 x0.b') (q7 : ErrV I h x0.err' v5) {r : (Int × Bool × bytes_Cursor)}
    (H : bytes_Cursor_Peek.m x0 = some r) :
    Ret Tryd.prog 89 #[.pointer (some ⟨b0, 0, none⟩)] h (fun v h' => ∃ (I' : Gh) (a34 : Option Addr) (c35 : Nat) (v38 : Value), .tuple #[.int .u8 r.1, .bool r.2.1] = v ∧ Pst (One b0) I h I' h' ∧ Rd (tInt .u8) I' h' a34 c35 r.2.2.b' ∧ ErrV I' h' r.2.2.err' v38 ∧ OwnB I' h' b0 [.slice a34 r.2.2.b'.length c35, .int .i64 r.2.2.at', v38] 153) := by
  unfold bytes_Cursor_Peek.m at H
  refine ret_of (args := [.pointer (some ⟨b0, 0, none⟩)]) (rs := [.tmp 2, .tmp 3]) (N := 24) Tryd.func89 rfl rfl rfl (Nat.le_of_ble_eq_true rfl) ?_
  have pt0 : Pst (One b0) I h I h := Pst.refl hB
  have nw_b0 : (One b0) b0 ∨ h.size ≤ b0 := .inl rfl
  refine cwp_seq ?_
  refine cwp_region ?_
  refine lwp_run 2 (by kernel_rfl) ?_
  refine lwp_nil ?_
  refine cwp_seq ?_
  refine cwp_seq ?_
  refine cwp_region ?_
  refine lwp_run 3 (by kernel_rfl) ?_
  refine lwp_op (by kernel_rfl) (owp_load (by kernel_rfl) (by kernel_rfl) (o8.cell (off := 2) rfl) ?_)
  rcases q7.cases with ⟨c9, rfl⟩ | ⟨c9, t10, u11, rfl⟩
  · rw [if_pos c9] at H
    refine lwp_run 3 (by kernel_rfl) ?_
    obtain ⟨t12, m13, H⟩ := bind_some H
    refine lwp_op (by kernel_rfl) (owp_callF (by kernel_rfl) (bytes_Cursor_Left.calls (I := I) hB o8 r4 q7 m13) ?_)
    rintro v14 h15 ⟨I16, a18, c19, v22, rfl, p17, r21, q24, o25⟩
    have pt26 := pt0.own p17 (one_nw nw_b0)
    by_cases c27 : t12.1 = 0
    · rw [if_pos c27] at H
      refine lwp_op (by kernel_rfl) (owp_pure ((.bool true)) (pr_bool (by kernel_rfl) (eqT c27)) ?_)
      refine lwp_run 1 (by kernel_rfl) ?_
      refine lwp_nil ?_
      refine cwp_true (by kernel_rfl) ?_
      refine cwp_seq ?_
      refine cwp_region ?_
      refine lwp_run 2 (by kernel_rfl) ?_
      refine lwp_nil ?_
      refine cwp_ret ?_
      obtain rfl := Option.some.inj H
      show Exists _
      exact ⟨.tuple #[.int .u8 0, .bool false], by kernel_rfl, I16, a18, c19, (v22), rfl, pt26, r21, q24, o25⟩
    · rw [if_neg c27] at H
      refine lwp_op (by kernel_rfl) (owp_pure ((.bool false)) (pr_bool (by kernel_rfl) (eqF c27)) ?_)
      refine lwp_run 1 (by kernel_rfl) ?_
      refine lwp_nil ?_
      refine cwp_false (by kernel_rfl) ?_
      refine cwp_skip ?_
      refine cwp_seq ?_
      refine cwp_regionD (Keep No h15) 12 (by kernel_rfl) ?_
      refine awp_run (fuel := 9) [0, 1, 2] Keep.refl (by kernel_rfl) ?_
      refine awp_load 3 rfl (by kernel_rfl) (by kernel_rfl) (by kernel_rfl) (by kernel_rfl) Keep.refl (o25.cell (off := 0) rfl) (fun _ _ x => x.elim) ?_
      refine awp_run (fuel := 5) [4, 5, 6] Keep.refl (by kernel_rfl) ?_
      refine awp_load 7 rfl (by kernel_rfl) (by kernel_rfl) (by kernel_rfl) (by kernel_rfl) Keep.refl (o25.cell (off := 1) rfl) (fun _ _ x => x.elim) ?_
      obtain ⟨c28, H⟩ := guard_pos H
      obtain ⟨c29, H⟩ := guard_pos H
      have hs30 := (r21.toSl).isSome c28 c29
      refine awp_pure 8 (elemPtr a18 (t12.2.at'.toNat * 1)) rfl (by kernel_rfl) (by kernel_rfl) (pr_indexElem (e := 5) (r21.toSl) (k := .i64) (by kernel_rfl) (by kernel_rfl) (by kernel_rfl) (by kernel_rfl) c28 c29) Keep.refl ?_
      obtain ⟨cs31, hs32, rp33⟩ := (r21.toSl).seg c28 c29
      obtain rfl := rep_int rp33
      refine awp_load 9 rfl (by kernel_rfl) (by kernel_rfl) (by kernel_rfl) (by kernel_rfl) Keep.refl (seg_cell (f := 0) hs32 rfl) (fun _ _ x => x.elim) ?_
      refine awp_run (fuel := 0) [10, 11] Keep.refl (by kernel_rfl) ?_
      refine awp_nil (by kernel_rfl) ?_ 0
      refine cwp_ret ?_
      obtain rfl := Option.some.inj H
      show Exists _
      exact ⟨.tuple #[.int .u8 (at_ t12.2.b' t12.2.at'), .bool true], by kernel_rfl, I16, a18, c19, (v22), rfl, pt26, r21, q24, o25⟩
  · rw [if_neg c9] at H
    refine lwp_run 6 (by kernel_rfl) ?_
    refine lwp_nil ?_
    refine cwp_true (by kernel_rfl) ?_
    refine cwp_seq ?_
    refine cwp_region ?_
    refine lwp_run 2 (by kernel_rfl) ?_
    refine lwp_nil ?_
    refine cwp_ret ?_
    obtain rfl := Option.some.inj H
    show Exists _
    exact ⟨.tuple #[.int .u8 0, .bool false], by kernel_rfl, I, a1, c2, ((.iface t10 u11)), rfl, pt0, r4, q7, o8⟩

/-! shutter/input.letters -/
def input_letters.l1.m (K : Nat) : Nat → (List Int) → Int → Bool → (List Int) → Int → GoErr → Option ((List Int) × (List Int) × Int × GoErr)
  | 0, _, _, _, _, _, _ => none
  | k + 1, x45, x51, x52, x53, x58, x59 => (bif x52 then ((input_letter.m x51).bind fun t91 => bif t91 then ((bytes_Cursor_Byte.m (⟨x53, x58, x59⟩ : bytes_Cursor)).bind fun t97 => ((app x45 [t97.1]).bind fun l125 => ((bytes_Cursor_Peek.m t97.2).bind fun t145 => (bif t145.2.1 then (input_letters.l1.m K k l125 t145.1 true t145.2.2.b' t145.2.2.at' t145.2.2.err') else (input_letters.l1.m K k l125 t145.1 false t145.2.2.b' t145.2.2.at' t145.2.2.err'))))) else (some ((x45, x53, x58, x59)))) else (some ((x45, x53, x58, x59))))
def input_letters.m (K : Nat) (x0 : bytes_Cursor) : Option ((List Int) × bytes_Cursor) :=
  (letJ (α := Int → Bool → (List Int) → Int → GoErr → Option ((List Int) × bytes_Cursor)) (fun (x28 : Int) (x29 : Bool) (x30 : List Int) (x35 : Int) (x36 : GoErr) => ((input_letters.l1.m K K [] x28 x29 x30 x35 x36).bind fun (x70, x76, x81, x82) => (some (x70, (⟨x76, x81, x82⟩ : bytes_Cursor))))) fun (j41 : Int → Bool → (List Int) → Int → GoErr → Option ((List Int) × bytes_Cursor)) => ((bytes_Cursor_Peek.m x0).bind fun t9 => (bif t9.2.1 then (j41 t9.1 true t9.2.2.b' t9.2.2.at' t9.2.2.err') else (j41 t9.1 false t9.2.2.b' t9.2.2.at' t9.2.2.err'))))

set_option maxRecDepth 100000 in
theorem input_letters.calls {I : Gh} {h : Heap} {K : Nat} {b0 : Nat} {x0 : bytes_Cursor} {a1 : Option Addr} {c2 : Nat} {v5 : Value} (hB : Bd I h) (o8 : OwnB I h b0 [.slice a1 x0.b'.length c2, .int .i64 x0.at', v5] 153) (r4 : Rd (tInt .u8) I h a1 c2 x0.b') (q7 : ErrV I h x0.err' v5) {r : ((List Int) × bytes_Cursor)}
    (H : input_letters.m K x0 = some r) :
    Ret Tryd.prog 91 #[.pointer (some ⟨b0, 0, none⟩)] h (fun v h' => ∃ (I' : Gh) (a162 : Option Addr) (c163 : Nat) (a167 : Option Addr) (c168 : Nat) (v171 : Value), .slice a162 r.1.length c163 = v ∧ Pst (One b0) I h I' h' ∧ Own (tInt .u8) I' h' a162 c163 r.1 ∧ (∀ b, InA a162 b → (One b0) b ∨ h.size ≤ b) ∧ Rd (tInt .u8) I' h' a167 c168 r.2.b' ∧ ErrV I' h' r.2.err' v171 ∧ OwnB I' h' b0 [.slice a167 r.2.b'.length c168, .int .i64 r.2.at', v171] 153 ∧ ¬ InA a162 b0) := by
  unfold input_letters.m at H
  refine ret_of (args := [.pointer (some ⟨b0, 0, none⟩)]) (rs := [.tmp 2]) (N := 27) Tryd.func91 rfl rfl rfl (Nat.le_of_ble_eq_true rfl) ?_
  have pt0 : Pst (One b0) I h I h := Pst.refl hB
  have nw_b0 : (One b0) b0 ∨ h.size ≤ b0 := .inl rfl
  refine cwp_seq ?_
  refine cwp_region ?_
  refine lwp_run 1 (by kernel_rfl) ?_
  refine lwp_nil ?_
  refine cwp_seq ?_
  refine cwp_region ?_
  refine lwp_run 1 (by kernel_rfl) ?_
  refine lwp_nil ?_
  refine cwp_seq ?_
  obtain ⟨j41, e161, H⟩ := letJ_some H
  refine cwp_join (fun ρ' h25 => ∃ (x28 : Int) (x29 : Bool) (x30 : List Int) (x35 : Int) (x36 : GoErr) (a31 : Option Addr) (c32 : Nat) (v37 : Value) (I26 : Gh), j41 x28 x29 x30 x35 x36 = some r ∧ Fits [(0, .pointer (some ⟨b0, 0, none⟩)), (3, .slice none 0 0), (4, .int .u8 x28), (5, .bool x29)] ρ' ∧ Pst (One b0) I h I26 h25 ∧ Rd (tInt .u8) I26 h25 a31 c32 x30 ∧ ErrV I26 h25 x36 v37 ∧ OwnB I26 h25 b0 [.slice a31 x30.length c32, .int .i64 x35, v37] 153) ?_ ?_
  · refine cwp_region ?_
    refine lwp_run 1 (by kernel_rfl) ?_
    obtain ⟨t9, m10, H⟩ := bind_some H
    refine lwp_op (by kernel_rfl) (owp_callF (by kernel_rfl) (bytes_Cursor_Peek.calls (I := I) hB o8 r4 q7 m10) ?_)
    rintro v11 h12 ⟨I13, a15, c16, v19, rfl, p14, r18, q21, o22⟩
    have pt23 := pt0.own p14 (one_nw nw_b0)
    refine lwp_run 2 (by kernel_rfl) ?_
    rcases bool_or t9.2.1 with c24 | c24
    · replace H := bif_f c24 H
      refine lwp_op (by kernel_rfl) (owp_pure ((.bool false)) (pr_bool (by kernel_rfl) c24) ?_)
      refine lwp_run 2 (by kernel_rfl) ?_
      refine lwp_nil ?_
      exact ⟨t9.1, false, t9.2.2.b', t9.2.2.at', t9.2.2.err', a15, c16, v19, I13, H, ⟨by kernel_rfl, by kernel_rfl, by kernel_rfl, by kernel_rfl, trivial⟩, pt23, r18, q21, o22⟩
    · replace H := bif_t c24 H
      refine lwp_op (by kernel_rfl) (owp_pure ((.bool true)) (pr_bool (by kernel_rfl) c24) ?_)
      refine lwp_run 2 (by kernel_rfl) ?_
      refine lwp_nil ?_
      exact ⟨t9.1, true, t9.2.2.b', t9.2.2.at', t9.2.2.err', a15, c16, v19, I13, H, ⟨by kernel_rfl, by kernel_rfl, by kernel_rfl, by kernel_rfl, trivial⟩, pt23, r18, q21, o22⟩
  · clear H
    rintro ρ' h25 ⟨x28, x29, x30, x35, x36, a31, c32, v37, I26, H, hf, pt27, r33, q38, o40⟩
    refine cwp_fits _ hf ?_
    subst e161
    try dsimp only at H
    refine cwp_block ?_
    obtain ⟨s66, m88, HR89⟩ := bind_some H
    refine cwp_loopE 0 (fun ρ' h67 => ∃ (x70 : List Int) (x76 : List Int) (x81 : Int) (x82 : GoErr) (a71 : Option Addr) (c72 : Nat) (a77 : Option Addr) (c78 : Nat) (v83 : Value) (I68 : Gh), (x70, x76, x81, x82) = s66 ∧ Fits [(3, .slice a71 x70.length c72)] ρ' ∧ Pst (One b0) I h I68 h67 ∧ OwnX (tInt .u8) I68 I68 h67 a71 c72 x70 ∧ (∀ b, InA a71 b → (One b0) b ∨ h.size ≤ b) ∧ Rd (tInt .u8) I68 h67 a77 c78 x76 ∧ ErrV I68 h67 x82 v83 ∧ OwnB I68 h67 b0 [.slice a77 x76.length c78, .int .i64 x81, v83] 153 ∧ ¬ InA a71 b0) ?_ ?_
    · refine cwp_loop (fun k' ρ' h42 => ∃ (x45 : List Int) (x51 : Int) (x52 : Bool) (x53 : List Int) (x58 : Int) (x59 : GoErr) (a46 : Option Addr) (c47 : Nat) (a54 : Option Addr) (c55 : Nat) (v60 : Value) (I43 : Gh), input_letters.l1.m K k' x45 x51 x52 x53 x58 x59 = some s66 ∧ Fits [(0, .pointer (some ⟨b0, 0, none⟩)), (3, .slice a46 x45.length c47), (4, .int .u8 x51), (5, .bool x52)] ρ' ∧ Pst (One b0) I h I43 h42 ∧ OwnX (tInt .u8) I43 I43 h42 a46 c47 x45 ∧ (∀ b, InA a46 b → (One b0) b ∨ h.size ≤ b) ∧ Rd (tInt .u8) I43 h42 a54 c55 x53 ∧ ErrV I43 h42 x59 v60 ∧ OwnB I43 h42 b0 [.slice a54 x53.length c55, .int .i64 x58, v60] 153 ∧ ¬ InA a46 b0) K ⟨[], x28, x29, x30, x35, x36, none, 0, a31, c32, v37, I26, m88, ⟨by kernel_rfl, by kernel_rfl, by kernel_rfl, by kernel_rfl, trivial⟩, pt27, (own_nil (tInt .u8) I26 I26 h25), none_nw, r33, q38, o40, inA_none⟩ ?_
      clear m88
      rintro k' ρ' h42 ⟨x45, x51, x52, x53, x58, x59, a46, c47, a54, c55, v60, I43, H, hf, pt44, r48, fr50, r56, q61, o63, d64⟩
      cases k' with
      | zero => cases H
      | succ k =>
        rw [input_letters.l1.m] at H
        refine cwp_fits _ hf ?_
        refine cwp_seq ?_
        refine cwp_seq ?_
        refine cwp_region ?_
        rcases bool_or x52 with c90 | c90
        · replace H := bif_f c90 H
          refine lwp_op (by kernel_rfl) (owp_pure ((.bool false)) (pr_bool (by kernel_rfl) c90) ?_)
          refine lwp_run 4 (by kernel_rfl) ?_
          refine lwp_nil ?_
          refine cwp_false (by kernel_rfl) ?_
          refine cwp_exit ?_
          obtain rfl := Option.some.inj H
          show Exists _
          exact ⟨x45, x53, x58, x59, a46, c47, a54, c55, v60, I43, rfl, ⟨by kernel_rfl, trivial⟩, pt44, r48, fr50, r56, q61, o63, d64⟩
        · replace H := bif_t c90 H
          refine lwp_op (by kernel_rfl) (owp_pure ((.bool true)) (pr_bool (by kernel_rfl) c90) ?_)
          refine lwp_run 2 (by kernel_rfl) ?_
          obtain ⟨t91, m92, H⟩ := bind_some H
          refine lwp_op (by kernel_rfl) (owp_callF (by kernel_rfl) (input_letter.calls (I := I43) pt44.bd m92) ?_)
          rintro v93 h94 ⟨_, rfl, rfl⟩
          cases t91
          · rw [cond_false] at H
            refine lwp_run 1 (by kernel_rfl) ?_
            refine lwp_nil ?_
            refine cwp_false (by kernel_rfl) ?_
            refine cwp_exit ?_
            obtain rfl := Option.some.inj H
            show Exists _
            exact ⟨x45, x53, x58, x59, a46, c47, a54, c55, v60, I43, rfl, ⟨by kernel_rfl, trivial⟩, pt44, r48, fr50, r56, q61, o63, d64⟩
          · rw [cond_true] at H
            refine lwp_run 1 (by kernel_rfl) ?_
            refine lwp_nil ?_
            refine cwp_true (by kernel_rfl) ?_
            refine cwp_skip ?_
            refine cwp_seq ?_
            refine cwp_block ?_
            refine cwp_region ?_
            refine lwp_run 2 (by kernel_rfl) ?_
            obtain ⟨t97, m98, H⟩ := bind_some H
            refine lwp_op (by kernel_rfl) (owp_callF (by kernel_rfl) (bytes_Cursor_Byte.calls (I := I43) pt44.bd o63 r56 q61 m98) ?_)
            rintro v99 h100 ⟨I101, a103, c104, v107, rfl, p102, r106, q109, o110⟩
            have pt111 := pt44.own p102 (one_nw nw_b0)
            refine lwp_op (by kernel_rfl) (owp_buildSlice (e := 5) [.int .u8 t97.1] 1 (.int .u8 0) p102.bd (by kernel_rfl) (by kernel_rfl) (by kernel_rfl) (by kernel_rfl) (by kernel_rfl) ?_)
            intro b112 h113 hc114 p115 o116
            have pt117 := pt111.no p115
            have w118 := o116.own (l := ([t97.1] : List Int)) (Reps.int (I := I101) (k := .u8) (l := [t97.1]))
            have fw118 := some_nw (M := (One b0)) (Nat.le_trans pt111.size hc114)
            have d120 := some_ne (ne_new o110.lt hc114)
            have f121 := r48.post pt44.bd p102 (one_not o63.no) (dis_one d64)
            have d122 := some_notIn (notIn_new f121.lt hc114)
            have f123 := r48.post pt44.bd p102 (one_not o63.no) (dis_one d64)
            have f124 := f123.post p102.bd p115 (fun _ x => x.elim) (fun _ _ x => x.elim)
            obtain ⟨l125, m126, H⟩ := bind_some H
            refine lwp_op (by kernel_rfl) (owp_app (e := 5) (bytes := 1) (tInt .u8) (by kernel_rfl) (elemOk_of (by kernel_rfl)) rfl rfl p115.bd p115.bd f124 f124.notI (w118.toSl) m126 (by kernel_rfl) (by kernel_rfl) ?_)
            intro a127 c128 h129 p130 o131 fr132
            have pt133 := pt117.own p130 fr50
            have fr135 := nw_step (M := (One b0)) (n := h.size) fr50 fr132 pt117.size
            have f136 := o110.post p115 (fun x => x.elim)
            have d137 := step_blk fr132 f136.lt d64
            have d138 := step_sl fr132 w118.lt d122
            refine lwp_run 1 (by kernel_rfl) ?_
            refine lwp_nil ?_
            refine cwp_region ?_
            refine lwp_run 1 (by kernel_rfl) ?_
            have f139 := o110.post p115 (fun x => x.elim)
            have f140 := f139.post p130 d64
            have f141 := r106.up (p115.up p102.bd (fun _ x => x.elim))
            have f142 := f141.up (p130.up p115.bd f124.notI)
            have f143 := ErrV.up (p115.up p102.bd (fun _ x => x.elim)) q109
            have f144 := ErrV.up (p130.up p115.bd f124.notI) f143
            obtain ⟨t145, m146, H⟩ := bind_some H
            refine lwp_op (by kernel_rfl) (owp_callF (by kernel_rfl) (bytes_Cursor_Peek.calls (I := I101) p130.bd f140 f142 f144 m146) ?_)
            rintro v147 h148 ⟨I149, a151, c152, v155, rfl, p150, r154, q157, o158⟩
            have pt159 := pt133.own p150 (one_nw nw_b0)
            refine lwp_run 2 (by kernel_rfl) ?_
            rcases bool_or t145.2.1 with c160 | c160
            · replace H := bif_f c160 H
              refine lwp_op (by kernel_rfl) (owp_pure ((.bool false)) (pr_bool (by kernel_rfl) c160) ?_)
              refine lwp_run 2 (by kernel_rfl) ?_
              refine lwp_nil ?_
              have f100002 := o131.post p130.bd p150 (one_not f140.no) (dis_one d137)
              show Exists _
              exact ⟨k, Nat.lt_succ_self _, l125, t145.1, false, t145.2.2.b', t145.2.2.at', t145.2.2.err', a127, c128, a151, c152, v155, I149, H, ⟨by kernel_rfl, by kernel_rfl, by kernel_rfl, by kernel_rfl, trivial⟩, pt159, f100002, fr135, r154, q157, o158, d137⟩
            · replace H := bif_t c160 H
              refine lwp_op (by kernel_rfl) (owp_pure ((.bool true)) (pr_bool (by kernel_rfl) c160) ?_)
              refine lwp_run 2 (by kernel_rfl) ?_
              refine lwp_nil ?_
              have f100001 := o131.post p130.bd p150 (one_not f140.no) (dis_one d137)
              show Exists _
              exact ⟨k, Nat.lt_succ_self _, l125, t145.1, true, t145.2.2.b', t145.2.2.at', t145.2.2.err', a127, c128, a151, c152, v155, I149, H, ⟨by kernel_rfl, by kernel_rfl, by kernel_rfl, by kernel_rfl, trivial⟩, pt159, f100001, fr135, r154, q157, o158, d137⟩
    · rintro ρ' h67 ⟨x70, x76, x81, x82, a71, c72, a77, c78, v83, I68, rfl, hf, pt69, r73, fr75, r79, q84, o86, d87⟩
      have H := HR89
      try dsimp only at H
      refine cwp_fits _ hf ?_
      refine cwp_seq ?_
      refine cwp_region ?_
      refine lwp_run 2 (by kernel_rfl) ?_
      refine lwp_nil ?_
      refine cwp_ret ?_
      obtain rfl := Option.some.inj H
      show Exists _
      exact ⟨.slice a71 x70.length c72, by kernel_rfl, I68, a71, c72, a77, c78, (v83), rfl, pt69, r73, fr75, r79, q84, o86, d87⟩

/-! shutter/input.fields -/
def input_fields.l1.m (K : Nat) (x1 : Int) : Nat → (List api_Entry) → (List Int) → Int → GoErr → Option ((List api_Entry) × (List Int) × Int × GoErr)
  | 0, _, _, _, _ => none
  | k + 1, x124, x130, x135, x136 => ((bytes_Cursor_Left.m (⟨x130, x135, x136⟩ : bytes_Cursor)).bind fun t167 => (if t167.1 > 0 then ((bytes_Cursor_Err.m t167.2).bind fun t183 => (if t183.1 = GoErr.nil then (letJ (α := Bool → Bool → (List Int) → Int → GoErr → Option ((List api_Entry) × (List Int) × Int × GoErr)) (fun (x269 : Bool) (x270 : Bool) (x271 : List Int) (x276 : Int) (x277 : GoErr) => ((bytes_Cursor_Byte.m (⟨x271, x276, x277⟩ : bytes_Cursor)).bind fun t283 => ((bytes_Cursor_Addr.m K t283.2 x1).bind fun t298 => ((input_letters.m K t298.2).bind fun t313 => ((app x124 [(⟨t298.1, t313.1⟩ : api_Entry)]).bind fun l354 => (input_fields.l1.m K x1 k l354 t313.2.b' t313.2.at' t313.2.err')))))) fun (j282 : Bool → Bool → (List Int) → Int → GoErr → Option ((List api_Entry) × (List Int) × Int × GoErr)) => ((bytes_Cursor_Peek.m t183.2).bind fun t204 => (if t204.1 = 17 then (if (x124.length : Int) > 0 then (if 0 < (x124.length : Int) then (if (at_ x124 0).Addr = (-1) then ((bytes_Cursor_Fail.m t204.2.2 (GoErr.no 3)).bind fun t234 => (some ((x124, t234.b', t234.at', t234.err')))) else (j282 true true t204.2.2.b' t204.2.2.at' t204.2.2.err')) else none) else (j282 false false t204.2.2.b' t204.2.2.at' t204.2.2.err')) else ((bytes_Cursor_Fail.m t204.2.2 (GoErr.no 3)).bind fun t249 => (some ((x124, t249.b', t249.at', t249.err'))))))) else (some ((x124, t183.2.b', t183.2.at', t183.2.err'))))) else (some ((x124, t167.2.b', t167.2.at', t167.2.err')))))
def input_fields.m (K : Nat) (x0 : bytes_Cursor) (x1 : Int) : Option ((List api_Entry) × bytes_Cursor) :=
  (letJ (α := (List api_Entry) → (List Int) → Int → GoErr → Option ((List api_Entry) × bytes_Cursor)) (fun (x102 : List api_Entry) (x108 : List Int) (x113 : Int) (x114 : GoErr) => ((input_fields.l1.m K x1 K x102 x108 x113 x114).bind fun (x147, x153, x158, x159) => (some (x147, (⟨x153, x158, x159⟩ : bytes_Cursor))))) fun (j120 : (List api_Entry) → (List Int) → Int → GoErr → Option ((List api_Entry) × bytes_Cursor)) => (letJ (α := Int → Bool → (List Int) → Int → GoErr → Option ((List api_Entry) × bytes_Cursor)) (fun (x28 : Int) (x29 : Bool) (x30 : List Int) (x35 : Int) (x36 : GoErr) => (bif x29 then ((input_letter.m x28).bind fun t43 => bif t43 then ((input_letters.m K (⟨x30, x35, x36⟩ : bytes_Cursor)).bind fun t49 => ((app ([] : List api_Entry) [(⟨(-1), t49.1⟩ : api_Entry)]).bind fun l82 => (j120 l82 t49.2.b' t49.2.at' t49.2.err'))) else (j120 [] x30 x35 x36)) else (j120 [] x30 x35 x36))) fun (j41 : Int → Bool → (List Int) → Int → GoErr → Option ((List api_Entry) × bytes_Cursor)) => ((bytes_Cursor_Peek.m x0).bind fun t9 => (bif t9.2.1 then (j41 t9.1 true t9.2.2.b' t9.2.2.at' t9.2.2.err') else (j41 t9.1 false t9.2.2.b' t9.2.2.at' t9.2.2.err')))))

set_option maxRecDepth 100000 in
theorem input_fields.calls {I : Gh} {h : Heap} {K : Nat} {b0 : Nat} {x0 : bytes_Cursor} {a1 : Option Addr} {c2 : Nat} {v5 : Value} {x1 : Int} (hB : Bd I h) (o8 : OwnB I h b0 [.slice a1 x0.b'.length c2, .int .i64 x0.at', v5] 153) (r4 : Rd (tInt .u8) I h a1 c2 x0.b') (q7 : ErrV I h x0.err' v5) {r : ((List api_Entry) × bytes_Cursor)}
    (H : input_fields.m K x0 x1 = some r) :
    Ret Tryd.prog 58 #[.pointer (some ⟨b0, 0, none⟩), .int .i64 x1] h (fun v h' => ∃ (I' : Gh) (a371 : Option Addr) (c372 : Nat) (a376 : Option Addr) (c377 : Nat) (v380 : Value), .slice a371 r.1.length c372 = v ∧ Pst (One b0) I h I' h' ∧ Own t_api_Entry I' h' a371 c372 r.1 ∧ (∀ b, InA a371 b → (One b0) b ∨ h.size ≤ b) ∧ Rd (tInt .u8) I' h' a376 c377 r.2.b' ∧ ErrV I' h' r.2.err' v380 ∧ OwnB I' h' b0 [.slice a376 r.2.b'.length c377, .int .i64 r.2.at', v380] 153 ∧ ¬ InA a371 b0) := by
  unfold input_fields.m at H
  refine ret_of (args := [.pointer (some ⟨b0, 0, none⟩), .int .i64 x1]) (rs := [.tmp 4]) (N := 70) Tryd.func58 rfl rfl rfl (Nat.le_of_ble_eq_true rfl) ?_
  have pt0 : Pst (One b0) I h I h := Pst.refl hB
  have nw_b0 : (One b0) b0 ∨ h.size ≤ b0 := .inl rfl
  refine cwp_seq ?_
  refine cwp_region ?_
  refine lwp_run 1 (by kernel_rfl) ?_
  refine lwp_nil ?_
  refine cwp_seq ?_
  refine cwp_region ?_
  refine lwp_run 1 (by kernel_rfl) ?_
  refine lwp_nil ?_
  obtain ⟨j120, e370, H⟩ := letJ_some H
  refine cwp_join (fun ρ' h99 => ∃ (x102 : List api_Entry) (x108 : List Int) (x113 : Int) (x114 : GoErr) (a103 : Option Addr) (c104 : Nat) (a109 : Option Addr) (c110 : Nat) (v115 : Value) (I100 : Gh), j120 x102 x108 x113 x114 = some r ∧ Fits [(0, .pointer (some ⟨b0, 0, none⟩)), (1, .int .i64 x1), (5, .slice a103 x102.length c104)] ρ' ∧ Pst (One b0) I h I100 h99 ∧ OwnX t_api_Entry I100 I100 h99 a103 c104 x102 ∧ (∀ b, InA a103 b → (One b0) b ∨ h.size ≤ b) ∧ Rd (tInt .u8) I100 h99 a109 c110 x108 ∧ ErrV I100 h99 x114 v115 ∧ OwnB I100 h99 b0 [.slice a109 x108.length c110, .int .i64 x113, v115] 153 ∧ ¬ InA a103 b0) ?_ ?_
  · obtain ⟨j41, e98, H⟩ := letJ_some H
    refine cwp_join (fun ρ' h25 => ∃ (x28 : Int) (x29 : Bool) (x30 : List Int) (x35 : Int) (x36 : GoErr) (a31 : Option Addr) (c32 : Nat) (v37 : Value) (I26 : Gh), j41 x28 x29 x30 x35 x36 = some r ∧ Fits [(0, .pointer (some ⟨b0, 0, none⟩)), (1, .int .i64 x1), (5, .slice none 0 0), (6, .int .u8 x28), (7, .bool x29)] ρ' ∧ Pst (One b0) I h I26 h25 ∧ Rd (tInt .u8) I26 h25 a31 c32 x30 ∧ ErrV I26 h25 x36 v37 ∧ OwnB I26 h25 b0 [.slice a31 x30.length c32, .int .i64 x35, v37] 153) ?_ ?_
    · refine cwp_region ?_
      refine lwp_run 1 (by kernel_rfl) ?_
      obtain ⟨t9, m10, H⟩ := bind_some H
      refine lwp_op (by kernel_rfl) (owp_callF (by kernel_rfl) (bytes_Cursor_Peek.calls (I := I) hB o8 r4 q7 m10) ?_)
      rintro v11 h12 ⟨I13, a15, c16, v19, rfl, p14, r18, q21, o22⟩
      have pt23 := pt0.own p14 (one_nw nw_b0)
      refine lwp_run 2 (by kernel_rfl) ?_
      rcases bool_or t9.2.1 with c24 | c24
      · replace H := bif_f c24 H
        refine lwp_op (by kernel_rfl) (owp_pure ((.bool false)) (pr_bool (by kernel_rfl) c24) ?_)
        refine lwp_run 2 (by kernel_rfl) ?_
        refine lwp_nil ?_
        exact ⟨t9.1, false, t9.2.2.b', t9.2.2.at', t9.2.2.err', a15, c16, v19, I13, H, ⟨by kernel_rfl, by kernel_rfl, by kernel_rfl, by kernel_rfl, by kernel_rfl, trivial⟩, pt23, r18, q21, o22⟩
      · replace H := bif_t c24 H
        refine lwp_op (by kernel_rfl) (owp_pure ((.bool true)) (pr_bool (by kernel_rfl) c24) ?_)
        refine lwp_run 2 (by kernel_rfl) ?_
        refine lwp_nil ?_
        exact ⟨t9.1, true, t9.2.2.b', t9.2.2.at', t9.2.2.err', a15, c16, v19, I13, H, ⟨by kernel_rfl, by kernel_rfl, by kernel_rfl, by kernel_rfl, by kernel_rfl, trivial⟩, pt23, r18, q21, o22⟩
    · clear H
      rintro ρ' h25 ⟨x28, x29, x30, x35, x36, a31, c32, v37, I26, H, hf, pt27, r33, q38, o40⟩
      refine cwp_fits _ hf ?_
      subst e98
      try dsimp only at H
      refine cwp_seq ?_
      refine cwp_region ?_
      rcases bool_or x29 with c42 | c42
      · replace H := bif_f c42 H
        refine lwp_op (by kernel_rfl) (owp_pure ((.bool false)) (pr_bool (by kernel_rfl) c42) ?_)
        refine lwp_run 4 (by kernel_rfl) ?_
        refine lwp_nil ?_
        refine cwp_false (by kernel_rfl) ?_
        refine cwp_skip ?_
        exact ⟨[], x30, x35, x36, none, 0, a31, c32, v37, I26, H, ⟨by kernel_rfl, by kernel_rfl, by kernel_rfl, trivial⟩, pt27, (own_nil t_api_Entry I26 I26 h25), none_nw, r33, q38, o40, inA_none⟩
      · replace H := bif_t c42 H
        refine lwp_op (by kernel_rfl) (owp_pure ((.bool true)) (pr_bool (by kernel_rfl) c42) ?_)
        refine lwp_run 2 (by kernel_rfl) ?_
        obtain ⟨t43, m44, H⟩ := bind_some H
        refine lwp_op (by kernel_rfl) (owp_callF (by kernel_rfl) (input_letter.calls (I := I26) pt27.bd m44) ?_)
        rintro v45 h46 ⟨_, rfl, rfl⟩
        cases t43
        · rw [cond_false] at H
          refine lwp_run 1 (by kernel_rfl) ?_
          refine lwp_nil ?_
          refine cwp_false (by kernel_rfl) ?_
          refine cwp_skip ?_
          exact ⟨[], x30, x35, x36, none, 0, a31, c32, v37, I26, H, ⟨by kernel_rfl, by kernel_rfl, by kernel_rfl, trivial⟩, pt27, (own_nil t_api_Entry I26 I26 h25), none_nw, r33, q38, o40, inA_none⟩
        · rw [cond_true] at H
          refine lwp_run 1 (by kernel_rfl) ?_
          refine lwp_nil ?_
          refine cwp_true (by kernel_rfl) ?_
          refine cwp_region ?_
          refine lwp_run 2 (by kernel_rfl) ?_
          obtain ⟨t49, m50, H⟩ := bind_some H
          refine lwp_op (by kernel_rfl) (owp_callF (by kernel_rfl) (input_letters.calls (I := I26) pt27.bd o40 r33 q38 m50) ?_)
          rintro v51 h52 ⟨I53, a55, c56, a60, c61, v64, rfl, p54, r58, fr59, r63, q66, o67, d68⟩
          have pt69 := pt27.own p54 (one_nw nw_b0)
          have fr70 := nw_step (M := (One b0)) (n := h.size) (one_nw nw_b0) fr59 pt27.size
          refine lwp_run 1 (by kernel_rfl) ?_
          refine lwp_op (by kernel_rfl) (owp_buildSlice (e := 62) [.int .i64 (-1), .slice a55 t49.1.length c56] 2 (.agg #[.int .i64 0, .slice none 0 0]) p54.bd (by kernel_rfl) (by kernel_rfl) (by kernel_rfl) (by kernel_rfl) (by kernel_rfl) ?_)
          intro b71 h72 hc73 p74 o75
          have pt76 := pt69.no p74
          have f79 := r58.post p54.bd p74 (fun _ x => x.elim) (fun _ _ x => x.elim)
          have w77 := o75.own (l := ([(⟨(-1), t49.1⟩ : api_Entry)] : List api_Entry)) (Reps.cons (T := t_api_Entry) (c := [.int .i64 (-1), .slice a55 t49.1.length c56]) (x := (⟨(-1), t49.1⟩ : api_Entry)) (⟨_, _, rfl, f79.rd⟩) (.nil : Reps t_api_Entry (Fz I53 a55) h72 [] []))
          have fw77 := some_nw (M := (One b0)) (Nat.le_trans pt69.size hc73)
          have d80 := some_ne (ne_new o67.lt hc73)
          have d81 := some_notIn (notIn_new r58.lt hc73)
          obtain ⟨l82, m83, H⟩ := bind_some H
          refine lwp_op (by kernel_rfl) (owp_app (e := 62) (bytes := 32) t_api_Entry (by kernel_rfl) (elemOk_of (by kernel_rfl)) rfl rfl p74.bd (bd_fz f79 p74.bd) (own_nil t_api_Entry (Fz I53 a55) I53 h72) (fun _ x => (inA_none x).elim) (w77.toSl) m83 (by kernel_rfl) (by kernel_rfl) ?_)
          intro a84 c85 h86 p87 o88 fr89
          have p90 := p87.weaken (M' := No) (fun _ x => (inA_none x).elim)
          have pt91 := pt76.no p90
          have fr93 := nw_step (M := (One b0)) (n := h.size) none_nw fr89 pt76.size
          have f94 := o67.post p74 (fun x => x.elim)
          have d95 := step_blk fr89 f94.lt inA_none
          have d96 := step_sl fr89 f79.lt (fun _ _ x => inA_none x)
          have d97 := step_sl fr89 w77.lt (fun _ _ x => inA_none x)
          refine lwp_run 1 (by kernel_rfl) ?_
          refine lwp_nil ?_
          have f100039 := f79.post p74.bd p90 (fun _ x => x.elim) (fun _ _ x => x.elim)
          have pt100040 := post_fz f100039 p90.bd pt91 fr70
          have r100042 := f100039.rd
          have bd100043 := bd_fz f100039 p90.bd
          have f100044 := OwnX.fzX o88 (up_sub (fun _ x => x)) d96
          have f100045 := r63.up (p74.up p54.bd (fun _ x => x.elim))
          have f100046 := f100045.up (p90.up p74.bd (fun _ x => x.elim))
          have f100047 := f100046.up (up_fz (a := a55))
          have f100048 := ErrV.up (p74.up p54.bd (fun _ x => x.elim)) q66
          have f100049 := ErrV.up (p90.up p74.bd (fun _ x => x.elim)) f100048
          have f100050 := ErrV.up (up_fz (a := a55)) f100049
          have f100051 := o67.post p74 (fun x => x.elim)
          have f100052 := f100051.post p90 (fun x => x.elim)
          have f100053 := f100052.fz d68
          exact ⟨l82, t49.2.b', t49.2.at', t49.2.err', a84, c85, a60, c61, v64, (Fz I53 a55), H, ⟨by kernel_rfl, by kernel_rfl, by kernel_rfl, trivial⟩, pt100040, f100044, fr93, f100047, f100050, f100053, d95⟩
  · clear H
    rintro ρ' h99 ⟨x102, x108, x113, x114, a103, c104, a109, c110, v115, I100, H, hf, pt101, r105, fr107, r111, q116, o118, d119⟩
    refine cwp_fits _ hf ?_
    subst e370
    try dsimp only at H
    refine cwp_seq ?_
    refine cwp_block ?_
    obtain ⟨s143, m165, HR166⟩ := bind_some H
    refine cwp_loopE 0 (fun ρ' h144 => ∃ (x147 : List api_Entry) (x153 : List Int) (x158 : Int) (x159 : GoErr) (a148 : Option Addr) (c149 : Nat) (a154 : Option Addr) (c155 : Nat) (v160 : Value) (I145 : Gh), (x147, x153, x158, x159) = s143 ∧ Fits [(5, .slice a148 x147.length c149)] ρ' ∧ Pst (One b0) I h I145 h144 ∧ OwnX t_api_Entry I145 I145 h144 a148 c149 x147 ∧ (∀ b, InA a148 b → (One b0) b ∨ h.size ≤ b) ∧ Rd (tInt .u8) I145 h144 a154 c155 x153 ∧ ErrV I145 h144 x159 v160 ∧ OwnB I145 h144 b0 [.slice a154 x153.length c155, .int .i64 x158, v160] 153 ∧ ¬ InA a148 b0) ?_ ?_
    · refine cwp_loop (fun k' ρ' h121 => ∃ (x124 : List api_Entry) (x130 : List Int) (x135 : Int) (x136 : GoErr) (a125 : Option Addr) (c126 : Nat) (a131 : Option Addr) (c132 : Nat) (v137 : Value) (I122 : Gh), input_fields.l1.m K x1 k' x124 x130 x135 x136 = some s143 ∧ Fits [(0, .pointer (some ⟨b0, 0, none⟩)), (1, .int .i64 x1), (5, .slice a125 x124.length c126)] ρ' ∧ Pst (One b0) I h I122 h121 ∧ OwnX t_api_Entry I122 I122 h121 a125 c126 x124 ∧ (∀ b, InA a125 b → (One b0) b ∨ h.size ≤ b) ∧ Rd (tInt .u8) I122 h121 a131 c132 x130 ∧ ErrV I122 h121 x136 v137 ∧ OwnB I122 h121 b0 [.slice a131 x130.length c132, .int .i64 x135, v137] 153 ∧ ¬ InA a125 b0) K ⟨x102, x108, x113, x114, a103, c104, a109, c110, v115, I100, m165, ⟨by kernel_rfl, by kernel_rfl, by kernel_rfl, trivial⟩, pt101, r105, fr107, r111, q116, o118, d119⟩ ?_
      clear m165
      rintro k' ρ' h121 ⟨x124, x130, x135, x136, a125, c126, a131, c132, v137, I122, H, hf, pt123, r127, fr129, r133, q138, o140, d141⟩
      cases k' with
      | zero => cases H
      | succ k =>
        rw [input_fields.l1.m] at H
        refine cwp_fits _ hf ?_
        refine cwp_seq ?_
        refine cwp_seq ?_
        refine cwp_region ?_
        refine lwp_run 1 (by kernel_rfl) ?_
        obtain ⟨t167, m168, H⟩ := bind_some H
        refine lwp_op (by kernel_rfl) (owp_callF (by kernel_rfl) (bytes_Cursor_Left.calls (I := I122) pt123.bd o140 r133 q138 m168) ?_)
        rintro v169 h170 ⟨I171, a173, c174, v177, rfl, p172, r176, q179, o180⟩
        have pt181 := pt123.own p172 (one_nw nw_b0)
        by_cases c182 : t167.1 > 0
        · rw [if_pos c182] at H
          refine lwp_op (by kernel_rfl) (owp_pure ((.bool true)) (pr_bool (by kernel_rfl) (decide_eq_true c182)) ?_)
          refine lwp_run 2 (by kernel_rfl) ?_
          obtain ⟨t183, m184, H⟩ := bind_some H
          refine lwp_op (by kernel_rfl) (owp_callF (by kernel_rfl) (bytes_Cursor_Err.calls (I := I171) p172.bd o180 r176 q179 m184) ?_)
          rintro v185 h186 ⟨I187, v189, a192, c193, v196, rfl, p188, q191, r195, q198, o199⟩
          have pt200 := pt181.own p188 (one_nw nw_b0)
          rcases q191.cases with ⟨c201, rfl⟩ | ⟨c201, t202, u203, rfl⟩
          · rw [if_pos c201] at H
            refine lwp_run 2 (by kernel_rfl) ?_
            refine lwp_nil ?_
            refine cwp_true (by kernel_rfl) ?_
            refine cwp_skip ?_
            refine cwp_block ?_
            obtain ⟨j282, e369, H⟩ := letJ_some H
            refine cwp_join (fun ρ' h264 => ∃ (x269 : Bool) (x270 : Bool) (x271 : List Int) (x276 : Int) (x277 : GoErr) (a272 : Option Addr) (c273 : Nat) (v278 : Value) (I265 : Gh), j282 x269 x270 x271 x276 x277 = some s143 ∧ Fits [(0, .pointer (some ⟨b0, 0, none⟩)), (1, .int .i64 x1), (5, .slice a125 x124.length c126), (31, .pointer (some ⟨b0, 0, none⟩)), (32, .nilIface), (33, .bool true), (43, .slice a125 x124.length c126), (44, .int .i64 (x124.length : Int)), (45, .bool x269), (46, .bool x270), (52, .bool false)] ρ' ∧ Pst (One b0) I h I265 h264 ∧ OwnX t_api_Entry I265 I265 h264 a125 c126 x124 ∧ ErrV I265 h264 t183.1 .nilIface ∧ Rd (tInt .u8) I265 h264 a272 c273 x271 ∧ ErrV I265 h264 x277 v278 ∧ OwnB I265 h264 b0 [.slice a272 x271.length c273, .int .i64 x276, v278] 153) ?_ ?_
            · refine cwp_seq ?_
              refine cwp_region ?_
              refine lwp_run 1 (by kernel_rfl) ?_
              obtain ⟨t204, m205, H⟩ := bind_some H
              refine lwp_op (by kernel_rfl) (owp_callF (by kernel_rfl) (bytes_Cursor_Peek.calls (I := I187) p188.bd o199 r195 q198 m205) ?_)
              rintro v206 h207 ⟨I208, a210, c211, v214, rfl, p209, r213, q216, o217⟩
              have pt218 := pt200.own p209 (one_nw nw_b0)
              refine lwp_run 5 (by kernel_rfl) ?_
              refine lwp_nil ?_
              refine cwp_seq ?_
              refine cwp_region ?_
              refine lwp_run 1 (by kernel_rfl) ?_
              by_cases c219 : t204.1 = 17
              · rw [if_pos c219] at H
                refine lwp_op (by kernel_rfl) (owp_pure ((.bool false)) (pr_bool (by kernel_rfl) (neF c219)) ?_)
                refine lwp_run 3 (by kernel_rfl) ?_
                by_cases c220 : (x124.length : Int) > 0
                · rw [if_pos c220] at H
                  refine lwp_op (by kernel_rfl) (owp_pure ((.bool true)) (pr_bool (by kernel_rfl) (decide_eq_true c220)) ?_)
                  obtain ⟨c221, H⟩ := guard_pos H
                  refine lwp_run 2 (by kernel_rfl) ?_
                  have f222 := r127.post pt123.bd p172 (one_not o140.no) (dis_one d141)
                  have f223 := f222.post p172.bd p188 (one_not o180.no) (dis_one d141)
                  have f224 := f223.post p188.bd p209 (one_not o199.no) (dis_one d141)
                  have hs225 := (f224.toSl).isSome (by decide) c221
                  refine lwp_op (by kernel_rfl) (owp_pure (elemPtr a125 ((0 : Int).toNat * 2)) (pr_indexElem (e := 62) (f224.toSl) (k := .i64) (by kernel_rfl) (by kernel_rfl) (by kernel_rfl) (by kernel_rfl) (by decide) c221) ?_)
                  refine lwp_op (by kernel_rfl) (owp_pure ((elemPtr a125 ((0 : Int).toNat * 2 + 0))) (pr_fieldAddr (a := a125) (n := ((0 : Int).toNat * 2)) (off := 0) (by kernel_rfl) hs225 (fun _ _ => by kernel_rfl)) ?_)
                  obtain ⟨cs226, hs227, rp228⟩ := (f224.toSl).seg (by decide) c221
                  obtain ⟨a229, c230, rfl, r232⟩ := t_api_Entry.open_ rp228
                  refine lwp_op (by kernel_rfl) (owp_load (by kernel_rfl) (by kernel_rfl) (seg_cell (f := 0) hs227 rfl) ?_)
                  by_cases c233 : (at_ x124 0).Addr = (-1)
                  · rw [if_pos c233] at H
                    refine lwp_op (by kernel_rfl) (owp_pure ((.bool true)) (pr_bool (by kernel_rfl) (eqT c233)) ?_)
                    refine lwp_run 2 (by kernel_rfl) ?_
                    refine lwp_nil ?_
                    refine cwp_true (by kernel_rfl) ?_
                    refine cwp_seq ?_
                    refine cwp_region ?_
                    refine lwp_run 2 (by kernel_rfl) ?_
                    obtain ⟨t234, m235, H⟩ := bind_some H
                    refine lwp_op (by kernel_rfl) (owp_callF (by kernel_rfl) (bytes_Cursor_Fail.calls (I := I208) p209.bd o217 r213 q216 (show ErrV I208 h207 (GoErr.no 3) (.iface 97 (.int .i64 3)) from rfl) m235) ?_)
                    rintro v236 h237 ⟨I238, a240, c241, v244, rfl, p239, r243, q246, o247⟩
                    have pt248 := pt218.own p239 (one_nw nw_b0)
                    refine lwp_nil ?_
                    refine cwp_exit ?_
                    obtain rfl := Option.some.inj H
                    have f100026 := f224.post p209.bd p239 (one_not o217.no) (dis_one d141)
                    show Exists _
                    exact ⟨x124, t234.b', t234.at', t234.err', a125, c126, a240, c241, v244, I238, rfl, ⟨by kernel_rfl, trivial⟩, pt248, f100026, fr129, r243, q246, o247, d141⟩
                  · rw [if_neg c233] at H
                    refine lwp_op (by kernel_rfl) (owp_pure ((.bool false)) (pr_bool (by kernel_rfl) (eqF c233)) ?_)
                    refine lwp_run 2 (by kernel_rfl) ?_
                    refine lwp_nil ?_
                    refine cwp_false (by kernel_rfl) ?_
                    refine cwp_skip ?_
                    have f100027 := ErrV.up (p209.up p188.bd (one_not o199.no)) q191
                    exact ⟨true, true, t204.2.2.b', t204.2.2.at', t204.2.2.err', a210, c211, v214, I208, H, ⟨by kernel_rfl, by kernel_rfl, by kernel_rfl, by kernel_rfl, by kernel_rfl, by kernel_rfl, by kernel_rfl, by kernel_rfl, by kernel_rfl, by kernel_rfl, by kernel_rfl, trivial⟩, pt218, f224, f100027, r213, q216, o217⟩
                · rw [if_neg c220] at H
                  refine lwp_op (by kernel_rfl) (owp_pure ((.bool false)) (pr_bool (by kernel_rfl) (decide_eq_false c220)) ?_)
                  refine lwp_run 8 (by kernel_rfl) ?_
                  refine lwp_nil ?_
                  refine cwp_false (by kernel_rfl) ?_
                  refine cwp_skip ?_
                  have f100028 := r127.post pt123.bd p172 (one_not o140.no) (dis_one d141)
                  have f100029 := f100028.post p172.bd p188 (one_not o180.no) (dis_one d141)
                  have f100030 := f100029.post p188.bd p209 (one_not o199.no) (dis_one d141)
                  have f100031 := ErrV.up (p209.up p188.bd (one_not o199.no)) q191
                  exact ⟨false, false, t204.2.2.b', t204.2.2.at', t204.2.2.err', a210, c211, v214, I208, H, ⟨by kernel_rfl, by kernel_rfl, by kernel_rfl, by kernel_rfl, by kernel_rfl, by kernel_rfl, by kernel_rfl, by kernel_rfl, by kernel_rfl, by kernel_rfl, by kernel_rfl, trivial⟩, pt218, f100030, f100031, r213, q216, o217⟩
              · rw [if_neg c219] at H
                refine lwp_op (by kernel_rfl) (owp_pure ((.bool true)) (pr_bool (by kernel_rfl) (neT c219)) ?_)
                refine lwp_run 12 (by kernel_rfl) ?_
                refine lwp_nil ?_
                refine cwp_true (by kernel_rfl) ?_
                refine cwp_seq ?_
                refine cwp_region ?_
                refine lwp_run 2 (by kernel_rfl) ?_
                obtain ⟨t249, m250, H⟩ := bind_some H
                refine lwp_op (by kernel_rfl) (owp_callF (by kernel_rfl) (bytes_Cursor_Fail.calls (I := I208) p209.bd o217 r213 q216 (show ErrV I208 h207 (GoErr.no 3) (.iface 97 (.int .i64 3)) from rfl) m250) ?_)
                rintro v251 h252 ⟨I253, a255, c256, v259, rfl, p254, r258, q261, o262⟩
                have pt263 := pt218.own p254 (one_nw nw_b0)
                refine lwp_nil ?_
                refine cwp_exit ?_
                obtain rfl := Option.some.inj H
                have f100032 := r127.post pt123.bd p172 (one_not o140.no) (dis_one d141)
                have f100033 := f100032.post p172.bd p188 (one_not o180.no) (dis_one d141)
                have f100034 := f100033.post p188.bd p209 (one_not o199.no) (dis_one d141)
                have f100035 := f100034.post p209.bd p254 (one_not o217.no) (dis_one d141)
                show Exists _
                exact ⟨x124, t249.b', t249.at', t249.err', a125, c126, a255, c256, v259, I253, rfl, ⟨by kernel_rfl, trivial⟩, pt263, f100035, fr129, r258, q261, o262, d141⟩
            · clear H
              rintro ρ' h264 ⟨x269, x270, x271, x276, x277, a272, c273, v278, I265, H, hf, pt266, r267, q268, r274, q279, o281⟩
              refine cwp_fits _ hf ?_
              subst e369
              try dsimp only at H
              refine cwp_seq ?_
              refine cwp_region ?_
              refine lwp_run 1 (by kernel_rfl) ?_
              obtain ⟨t283, m284, H⟩ := bind_some H
              refine lwp_op (by kernel_rfl) (owp_callF (by kernel_rfl) (bytes_Cursor_Byte.calls (I := I265) pt266.bd o281 r274 q279 m284) ?_)
              rintro v285 h286 ⟨I287, a289, c290, v293, rfl, p288, r292, q295, o296⟩
              have pt297 := pt266.own p288 (one_nw nw_b0)
              refine lwp_nil ?_
              refine cwp_seq ?_
              refine cwp_region ?_
              refine lwp_run 2 (by kernel_rfl) ?_
              obtain ⟨t298, m299, H⟩ := bind_some H
              refine lwp_op (by kernel_rfl) (owp_callF (by kernel_rfl) (bytes_Cursor_Addr.calls (I := I287) p288.bd o296 r292 q295 m299) ?_)
              rintro v300 h301 ⟨I302, a304, c305, v308, rfl, p303, r307, q310, o311⟩
              have pt312 := pt297.own p303 (one_nw nw_b0)
              refine lwp_run 1 (by kernel_rfl) ?_
              refine lwp_nil ?_
              refine cwp_region ?_
              refine lwp_run 3 (by kernel_rfl) ?_
              obtain ⟨t313, m314, H⟩ := bind_some H
              refine lwp_op (by kernel_rfl) (owp_callF (by kernel_rfl) (input_letters.calls (I := I302) p303.bd o311 r307 q310 m314) ?_)
              rintro v315 h316 ⟨I317, a319, c320, a324, c325, v328, rfl, p318, r322, fr323, r327, q330, o331, d332⟩
              have pt333 := pt312.own p318 (one_nw nw_b0)
              have fr334 := nw_step (M := (One b0)) (n := h.size) (one_nw nw_b0) fr323 pt312.size
              have f335 := r267.post pt266.bd p288 (one_not o281.no) (dis_one d141)
              have f336 := f335.post p288.bd p303 (one_not o296.no) (dis_one d141)
              have d337 := step_sl fr323 f336.lt (dis_one d141)
              refine lwp_run 1 (by kernel_rfl) ?_
              refine lwp_op (by kernel_rfl) (owp_buildSlice (e := 62) [.int .i64 t298.1, .slice a319 t313.1.length c320] 2 (.agg #[.int .i64 0, .slice none 0 0]) p318.bd (by kernel_rfl) (by kernel_rfl) (by kernel_rfl) (by kernel_rfl) (by kernel_rfl) ?_)
              intro b338 h339 hc340 p341 o342
              have pt343 := pt333.no p341
              have f346 := r322.post p318.bd p341 (fun _ x => x.elim) (fun _ _ x => x.elim)
              have w344 := o342.own (l := ([(⟨t298.1, t313.1⟩ : api_Entry)] : List api_Entry)) (Reps.cons (T := t_api_Entry) (c := [.int .i64 t298.1, .slice a319 t313.1.length c320]) (x := (⟨t298.1, t313.1⟩ : api_Entry)) (⟨_, _, rfl, f346.rd⟩) (.nil : Reps t_api_Entry (Fz I317 a319) h339 [] []))
              have fw344 := some_nw (M := (One b0)) (Nat.le_trans pt333.size hc340)
              have d347 := some_ne (ne_new o331.lt hc340)
              have f348 := f336.post p303.bd p318 (one_not o311.no) (dis_one d141)
              have d349 := some_notIn (notIn_new f348.lt hc340)
              have d350 := some_notIn (notIn_new r322.lt hc340)
              have f351 := f336.post p303.bd p318 (one_not o311.no) (dis_one d141)
              have f352 := f351.post p318.bd p341 (fun _ x => x.elim) (fun _ _ x => x.elim)
              have w353 := OwnX.fzX0 (G' := (Fz I317 a319)) f352 (up_sub (fun _ x => (Or.inl x)))
              obtain ⟨l354, m355, H⟩ := bind_some H
              refine lwp_op (by kernel_rfl) (owp_app (e := 62) (bytes := 32) t_api_Entry (by kernel_rfl) (elemOk_of (by kernel_rfl)) rfl rfl p341.bd (bd_fz f346 p341.bd) w353 (notFz f352.notI d337) (w344.toSl) m355 (by kernel_rfl) (by kernel_rfl) ?_)
              intro a356 c357 h358 p359 o360 fr361
              have pt362 := pt343.own p359 fr129
              have fr364 := nw_step (M := (One b0)) (n := h.size) fr129 fr361 pt343.size
              have f365 := o331.post p341 (fun x => x.elim)
              have d366 := step_blk fr361 f365.lt d141
              have d367 := step_sl fr361 f346.lt d337
              have d368 := step_sl fr361 w344.lt d349
              refine lwp_run 1 (by kernel_rfl) ?_
              refine lwp_nil ?_
              have f100011 := f346.post p341.bd p359 f352.notI d337
              have pt100012 := post_fz f100011 p359.bd pt362 fr334
              have r100014 := f100011.rd
              have bd100015 := bd_fz f100011 p359.bd
              have f100016 := OwnX.fzX o360 (up_sub (fun _ x => x)) d367
              have f100017 := r327.up (p341.up p318.bd (fun _ x => x.elim))
              have f100018 := f100017.up (p359.up p341.bd f352.notI)
              have f100019 := f100018.up (up_fz (a := a319))
              have f100020 := ErrV.up (p341.up p318.bd (fun _ x => x.elim)) q330
              have f100021 := ErrV.up (p359.up p341.bd f352.notI) f100020
              have f100022 := ErrV.up (up_fz (a := a319)) f100021
              have f100023 := o331.post p341 (fun x => x.elim)
              have f100024 := f100023.post p359 d141
              have f100025 := f100024.fz d332
              show Exists _
              exact ⟨k, Nat.lt_succ_self _, l354, t313.2.b', t313.2.at', t313.2.err', a356, c357, a324, c325, v328, (Fz I317 a319), H, ⟨by kernel_rfl, by kernel_rfl, by kernel_rfl, trivial⟩, pt100012, f100016, fr364, f100019, f100022, f100025, d366⟩
          · rw [if_neg c201] at H
            refine lwp_run 2 (by kernel_rfl) ?_
            refine lwp_nil ?_
            refine cwp_false (by kernel_rfl) ?_
            refine cwp_exit ?_
            obtain rfl := Option.some.inj H
            have f100036 := r127.post pt123.bd p172 (one_not o140.no) (dis_one d141)
            have f100037 := f100036.post p172.bd p188 (one_not o180.no) (dis_one d141)
            show Exists _
            exact ⟨x124, t183.2.b', t183.2.at', t183.2.err', a125, c126, a192, c193, v196, I187, rfl, ⟨by kernel_rfl, trivial⟩, pt200, f100037, fr129, r195, q198, o199, d141⟩
        · rw [if_neg c182] at H
          refine lwp_op (by kernel_rfl) (owp_pure ((.bool false)) (pr_bool (by kernel_rfl) (decide_eq_false c182)) ?_)
          refine lwp_run 5 (by kernel_rfl) ?_
          refine lwp_nil ?_
          refine cwp_false (by kernel_rfl) ?_
          refine cwp_exit ?_
          obtain rfl := Option.some.inj H
          have f100038 := r127.post pt123.bd p172 (one_not o140.no) (dis_one d141)
          show Exists _
          exact ⟨x124, t167.2.b', t167.2.at', t167.2.err', a125, c126, a173, c174, v177, I171, rfl, ⟨by kernel_rfl, trivial⟩, pt181, f100038, fr129, r176, q179, o180, d141⟩
    · rintro ρ' h144 ⟨x147, x153, x158, x159, a148, c149, a154, c155, v160, I145, rfl, hf, pt146, r150, fr152, r156, q161, o163, d164⟩
      have H := HR166
      try dsimp only at H
      refine cwp_fits _ hf ?_
      refine cwp_seq ?_
      refine cwp_region ?_
      refine lwp_run 2 (by kernel_rfl) ?_
      refine lwp_nil ?_
      refine cwp_ret ?_
      obtain rfl := Option.some.inj H
      show Exists _
      exact ⟨.slice a148 x147.length c149, by kernel_rfl, I145, a148, c149, a154, c155, (v160), rfl, pt146, r150, fr152, r156, q161, o163, d164⟩

/-! shutter/input.flat -/
def input_flat.m (x0 : GoErr) : Option GoErr := some (flatOf x0)
theorem input_flat.calls {I : Gh} {h : Heap} {x0 : GoErr} {v1 : Value} (hB : Bd I h) (hG : Glob I h) (q : ErrV I h x0 v1) {r : GoErr} (H : input_flat.m x0 = some r) :
    Ret Tryd.prog 59 #[v1] h (fun v h' => ∃ (I' : Gh) (v2 : Value), v2 = v ∧ Pst No I h I' h' ∧ ErrV I' h' r v2) := by
  obtain rfl := Option.some.inj H
  refine (flat_calls hB hG q (fun hJ q => (input_spot.calls hJ q rfl).mono ?_)).mono ?_
  · rintro v h' ⟨J, w, rfl, p, e⟩; exact ⟨J, e, p⟩
  · rintro v h' ⟨J, e, p⟩; exact ⟨J, v, rfl, p, e⟩

/-! shutter/input.Read -/
def input_Read.m (K : Nat) (x0 : (List Int)) (x1 : Int) : Option (api_In × GoErr) :=
  (if (x0.length : Int) > 8192 then ((input_spot.m 8192 (GoErr.no 6)).bind fun t13 => (some ((⟨0, 0, []⟩ : api_In), t13))) else ((bytes_New.m x0).bind fun t30 => ((bytes_Cursor_Byte.m t30).bind fun t49 => (letJ (α := Bool → (List Int) → Int → GoErr → Option (api_In × GoErr)) (fun (x109 : Bool) (x111 : List Int) (x116 : Int) (x117 : GoErr) => (bif x109 then ((bytes_Cursor_Err.m (⟨x111, x116, x117⟩ : bytes_Cursor)).bind fun t125 => (some ((⟨0, 0, []⟩ : api_In), t125.1))) else (letJ (α := Bool → Option (api_In × GoErr)) (fun (x158 : Bool) => (bif x158 then ((input_spot.m 0 (GoErr.no 3)).bind fun t166 => (some ((⟨0, 0, []⟩ : api_In), t166))) else (letJ (α := Bool → Option (api_In × GoErr)) (fun (x191 : Bool) => (bif x191 then ((bytes_Cursor_Left.m (⟨x111, x116, x117⟩ : bytes_Cursor)).bind fun t199 => (if t199.1 > 0 then ((input_spot.m 1 (GoErr.no 1)).bind fun t215 => (some ((⟨0, 0, []⟩ : api_In), t215))) else (some ((⟨t49.1, 0, []⟩ : api_In), GoErr.nil)))) else ((bytes_Cursor_Addr.m K (⟨x111, x116, x117⟩ : bytes_Cursor) x1).bind fun t238 => ((input_fields.m K t238.2 x1).bind fun t261 => ((bytes_Cursor_Err.m t261.2).bind fun t295 => (if t295.1 = GoErr.nil then (some ((⟨t49.1, t238.1, t261.1⟩ : api_In), GoErr.nil)) else ((bytes_Cursor_Err.m t295.2).bind fun t329 => ((input_flat.m t329.1).bind fun t347 => (some ((⟨0, 0, []⟩ : api_In), t347)))))))))) fun (j198 : Bool → Option (api_In × GoErr)) => ((attr_Bare.m t49.1).bind fun t182 => bif t182 then (j198 true) else (j198 false))))) fun (j165 : Bool → Option (api_In × GoErr)) => ((attr_Aid.m t49.1).bind fun t149 => bif t149 then (j165 false) else (j165 true))))) fun (j124 : Bool → (List Int) → Int → GoErr → Option (api_In × GoErr)) => ((bytes_Cursor_Err.m t49.2).bind fun t85 => (if t85.1 = GoErr.nil then (j124 false t85.2.b' t85.2.at' t85.2.err') else (j124 true t85.2.b' t85.2.at' t85.2.err')))))))

set_option maxRecDepth 100000 in
theorem input_Read.calls {I B : Gh} {h : Heap} {K : Nat} {x0 : List Int} {a1 : Option Addr} {c2 : Nat} {x1 : Int} (hB : Bd I h) (hBB : Bd B h) (hG : Glob I h) (r4 : Rd (tInt .u8) (Or2 I B) h a1 c2 x0) {r : (api_In × GoErr)}
    (H : input_Read.m K x0 x1 = some r) :
    Ret Tryd.prog 28 #[.slice a1 x0.length c2, .int .i64 x1] h (fun v h' => ∃ (I' : Gh) (a378 : Option Addr) (c379 : Nat) (v383 : Value), .tuple #[.agg #[.int .u8 r.1.Aid, .int .i64 r.1.Cursor, .slice a378 r.1.Fields.length c379], v383] = v ∧ Pst No I h I' h' ∧ Own t_api_Entry I' h' a378 c379 r.1.Fields ∧ (∀ b, InA a378 b → No b ∨ h.size ≤ b) ∧ ErrV I' h' r.2 v383) := by
  unfold input_Read.m at H
  refine ret_of2 (args := [.slice a1 x0.length c2, .int .i64 x1]) (rs := [.cell 4 51, .tmp 5]) (N := 61) Tryd.func28 rfl rfl rfl (Nat.le_of_ble_eq_true rfl) ?_
  have pt0 : Pst No I h I h := Pst.refl hB
  refine cwp_seq ?_
  refine cwp_region ?_
  refine lwp_op (by kernel_rfl) (owp_alloc [.int .u8 0, .int .i64 0, .slice none 0 0] (.agg #[.int .u8 0, .int .i64 0, .slice none 0 0]) hB (by kernel_rfl) (by kernel_rfl) ?_)
  intro b5 h6 hc7 p8 o9
  have pt10 := pt0.no p8
  have fr11 : No b5 ∨ h.size ≤ b5 := .inr (Nat.le_trans pt0.size hc7)
  refine lwp_run 1 (by kernel_rfl) ?_
  refine lwp_nil ?_
  refine cwp_seq ?_
  refine cwp_seq ?_
  refine cwp_region ?_
  refine lwp_run 2 (by kernel_rfl) ?_
  by_cases c12 : (x0.length : Int) > 8192
  · rw [if_pos c12] at H
    refine lwp_op (by kernel_rfl) (owp_pure ((.bool true)) (pr_bool (by kernel_rfl) (decide_eq_true c12)) ?_)
    refine lwp_nil ?_
    refine cwp_true (by kernel_rfl) ?_
    refine cwp_seq ?_
    refine cwp_region ?_
    refine lwp_run 2 (by kernel_rfl) ?_
    obtain ⟨t13, m14, H⟩ := bind_some H
    refine lwp_op (by kernel_rfl) (owp_callF (by kernel_rfl) (input_spot.calls (I := I) p8.bd (show ErrV I h6 (GoErr.no 6) (.iface 97 (.int .i64 6)) from rfl) m14) ?_)
    rintro v15 h16 ⟨I17, v19, rfl, p18, q21⟩
    have pt22 := pt10.no p18
    have f23 := o9.post p18 (fun x => x.elim)
    refine lwp_op (by kernel_rfl) (owp_storeN 0 [.int .u8 0, .int .i64 0, .slice none 0 0] p18.bd f23 (by kernel_rfl) (by kernel_rfl) (by simp [Value.oneCell']) (by kernel_rfl) (Nat.le_of_ble_eq_true rfl) ?_)
    intro h24 p25 o26
    have pt27 := pt22.own p25 (one_nw fr11)
    refine lwp_run 1 (by kernel_rfl) ?_
    refine lwp_nil ?_
    refine cwp_ret ?_
    obtain rfl := Option.some.inj H
    have f28 := ErrV.up (p25.up p18.bd (one_not f23.no)) q21
    show Exists _
    exact ⟨[.agg #[.int .u8 0, .int .i64 0, .slice none 0 0], v19], (.cons (.agg (by kernel_rfl) (by kernel_rfl) (by kernel_rfl) (o26.seg_ 0 3 (Nat.le_of_ble_eq_true rfl))) (.cons (.tmp (by kernel_rfl)) .nil)), I17, none, 0, (v19), rfl, pt27, (own_nil t_api_Entry I17 I17 h24), none_nw, f28⟩
  · rw [if_neg c12] at H
    refine lwp_op (by kernel_rfl) (owp_pure ((.bool false)) (pr_bool (by kernel_rfl) (decide_eq_false c12)) ?_)
    refine lwp_nil ?_
    refine cwp_false (by kernel_rfl) ?_
    refine cwp_skip ?_
    refine cwp_seq ?_
    refine cwp_region ?_
    refine lwp_run 1 (by kernel_rfl) ?_
    have f29 := r4.up (upOr (p8.up hB (fun _ x => x.elim)) (keepB p8 (hBB.mono pt0.size) (fun _ x => x.elim)))
    obtain ⟨t30, m31, H⟩ := bind_some H
    refine lwp_op (by kernel_rfl) (owp_callF (by kernel_rfl) (bytes_New.calls (I := I) (B := (Or2 I B)) p8.bd (bdOr p8.bd (hBB.mono pt10.size)) (Rd.mono (I' := Or2 I (Or2 I B)) f29 (fun _ x => Or.inr x)) m31) ?_)
    rintro v32 h33 ⟨I34, b36, a37, c38, v41, rfl, p35, r40, q43, o44, fr45⟩
    have pt46 := pt10.no p35
    have fr47 := nw1_step (M := No) (n := h.size) fr45 (fun _ x => x.elim) pt10.size
    have d48 := step1_blk fr45 o9.lt (fun x => x.elim)
    refine lwp_run 1 (by kernel_rfl) ?_
    refine lwp_nil ?_
    refine cwp_seq ?_
    refine cwp_region ?_
    refine lwp_run 1 (by kernel_rfl) ?_
    obtain ⟨t49, m50, H⟩ := bind_some H
    refine lwp_op (by kernel_rfl) (owp_callF (by kernel_rfl) (bytes_Cursor_Byte.calls (I := I34) p35.bd o44 r40 q43 m50) ?_)
    rintro v51 h52 ⟨I53, a55, c56, v59, rfl, p54, r58, q61, o62⟩
    have pt63 := pt46.own p54 (one_nw fr47)
    refine lwp_run 1 (by kernel_rfl) ?_
    refine lwp_op (by kernel_rfl) (owp_alloc [.int .u8 0, .int .i64 0, .slice none 0 0] (.agg #[.int .u8 0, .int .i64 0, .slice none 0 0]) p54.bd (by kernel_rfl) (by kernel_rfl) ?_)
    intro b64 h65 hc66 p67 o68
    have pt69 := pt63.no p67
    have fr70 : No b64 ∨ h.size ≤ b64 := .inr (Nat.le_trans pt63.size hc66)
    have f71 := o9.post p35 (fun x => x.elim)
    have f72 := f71.post p54 (fun e => d48 e.symm)
    have d73 := ne_new f72.lt hc66
    have d74 := ne_new o62.lt hc66
    refine lwp_op (by kernel_rfl) (owp_storeN 0 [.int .u8 t49.1, .int .i64 0, .slice none 0 0] p67.bd o68 (by kernel_rfl) (by kernel_rfl) (by simp [Value.oneCell']) (by kernel_rfl) (Nat.le_of_ble_eq_true rfl) ?_)
    intro h75 p76 o77
    have pt78 := pt69.own p76 (one_nw fr70)
    refine lwp_nil ?_
    refine cwp_seq ?_
    refine cwp_block ?_
    obtain ⟨j124, e377, H⟩ := letJ_some H
    refine cwp_join (fun ρ' h106 => ∃ (x109 : Bool) (x111 : List Int) (x116 : Int) (x117 : GoErr) (a112 : Option Addr) (c113 : Nat) (v118 : Value) (I107 : Gh), j124 x109 x111 x116 x117 = some r ∧ Fits [(1, .int .i64 x1), (4, .pointer (some ⟨b5, 0, none⟩)), (6, .pointer (some ⟨b36, 0, none⟩)), (7, .pointer (some ⟨b64, 0, none⟩)), (19, .bool x109)] ρ' ∧ Pst No I h I107 h106 ∧ OwnB I107 h106 b5 [.int .u8 0, .int .i64 0, .slice none 0 0] 51 ∧ Rd (tInt .u8) I107 h106 a112 c113 x111 ∧ ErrV I107 h106 x117 v118 ∧ OwnB I107 h106 b36 [.slice a112 x111.length c113, .int .i64 x116, v118] 153 ∧ OwnB I107 h106 b64 [.int .u8 t49.1, .int .i64 0, .slice none 0 0] 51 ∧ Glob I107 h106) ?_ ?_
    · refine cwp_region ?_
      refine lwp_run 1 (by kernel_rfl) ?_
      have f79 := o62.post p67 (fun x => x.elim)
      have f80 := f79.post p76 (fun e => d74 e.symm)
      have f81 := r58.up (p67.up p54.bd (fun _ x => x.elim))
      have f82 := f81.up (p76.up p67.bd (one_not o68.no))
      have f83 := ErrV.up (p67.up p54.bd (fun _ x => x.elim)) q61
      have f84 := ErrV.up (p76.up p67.bd (one_not o68.no)) f83
      obtain ⟨t85, m86, H⟩ := bind_some H
      refine lwp_op (by kernel_rfl) (owp_callF (by kernel_rfl) (bytes_Cursor_Err.calls (I := I53) p76.bd f80 f82 f84 m86) ?_)
      rintro v87 h88 ⟨I89, v91, a94, c95, v98, rfl, p90, q93, r97, q100, o101⟩
      have pt102 := pt78.own p90 (one_nw fr47)
      rcases q93.cases with ⟨c103, rfl⟩ | ⟨c103, t104, u105, rfl⟩
      · rw [if_pos c103] at H
        refine lwp_run 2 (by kernel_rfl) ?_
        refine lwp_nil ?_
        have f100025 := o9.post p35 (fun x => x.elim)
        have f100026 := f100025.post p54 (fun e => d48 e.symm)
        have f100027 := f100026.post p67 (fun x => x.elim)
        have f100028 := f100027.post p76 (fun e => d73 e.symm)
        have f100029 := f100028.post p90 (fun e => d48 e.symm)
        have f100030 := o77.post p90 d74
        have f100031 := hG.up (p8.up hB (fun _ x => x.elim))
        have f100032 := f100031.up (p35.up p8.bd (fun _ x => x.elim))
        have f100033 := f100032.up (p54.up p35.bd (one_not o44.no))
        have f100034 := f100033.up (p67.up p54.bd (fun _ x => x.elim))
        have f100035 := f100034.up (p76.up p67.bd (one_not o68.no))
        have f100036 := f100035.up (p90.up p76.bd (one_not f80.no))
        exact ⟨false, t85.2.b', t85.2.at', t85.2.err', a94, c95, v98, I89, H, ⟨by kernel_rfl, by kernel_rfl, by kernel_rfl, by kernel_rfl, by kernel_rfl, trivial⟩, pt102, f100029, r97, q100, o101, f100030, f100036⟩
      · rw [if_neg c103] at H
        refine lwp_run 2 (by kernel_rfl) ?_
        refine lwp_nil ?_
        have f100037 := o9.post p35 (fun x => x.elim)
        have f100038 := f100037.post p54 (fun e => d48 e.symm)
        have f100039 := f100038.post p67 (fun x => x.elim)
        have f100040 := f100039.post p76 (fun e => d73 e.symm)
        have f100041 := f100040.post p90 (fun e => d48 e.symm)
        have f100042 := o77.post p90 d74
        have f100043 := hG.up (p8.up hB (fun _ x => x.elim))
        have f100044 := f100043.up (p35.up p8.bd (fun _ x => x.elim))
        have f100045 := f100044.up (p54.up p35.bd (one_not o44.no))
        have f100046 := f100045.up (p67.up p54.bd (fun _ x => x.elim))
        have f100047 := f100046.up (p76.up p67.bd (one_not o68.no))
        have f100048 := f100047.up (p90.up p76.bd (one_not f80.no))
        exact ⟨true, t85.2.b', t85.2.at', t85.2.err', a94, c95, v98, I89, H, ⟨by kernel_rfl, by kernel_rfl, by kernel_rfl, by kernel_rfl, by kernel_rfl, trivial⟩, pt102, f100041, r97, q100, o101, f100042, f100048⟩
    · clear H
      rintro ρ' h106 ⟨x109, x111, x116, x117, a112, c113, v118, I107, H, hf, pt108, o110, r114, q119, o121, o122, g123⟩
      refine cwp_fits _ hf ?_
      subst e377
      try dsimp only at H
      cases x109
      · rw [cond_false] at H
        refine cwp_false (by kernel_rfl) ?_
        obtain ⟨j165, e376, H⟩ := letJ_some H
        refine cwp_join (fun ρ' h155 => ∃ (x158 : Bool) (I156 : Gh), j165 x158 = some r ∧ Fits [(1, .int .i64 x1), (4, .pointer (some ⟨b5, 0, none⟩)), (6, .pointer (some ⟨b36, 0, none⟩)), (7, .pointer (some ⟨b64, 0, none⟩)), (26, .bool x158)] ρ' ∧ Pst No I h I156 h155 ∧ OwnB I156 h155 b5 [.int .u8 0, .int .i64 0, .slice none 0 0] 51 ∧ Rd (tInt .u8) I156 h155 a112 c113 x111 ∧ ErrV I156 h155 x117 v118 ∧ OwnB I156 h155 b36 [.slice a112 x111.length c113, .int .i64 x116, v118] 153 ∧ OwnB I156 h155 b64 [.int .u8 t49.1, .int .i64 0, .slice none 0 0] 51 ∧ Glob I156 h155) ?_ ?_
        · refine cwp_region ?_
          refine lwp_run 1 (by kernel_rfl) ?_
          refine lwp_op (by kernel_rfl) (owp_load (by kernel_rfl) (by kernel_rfl) (o122.cell (off := 0) rfl) ?_)
          obtain ⟨t149, m150, H⟩ := bind_some H
          refine lwp_op (by kernel_rfl) (owp_callF (by kernel_rfl) (attr_Aid.calls (I := I107) pt108.bd m150) ?_)
          rintro v151 h152 ⟨_, rfl, rfl⟩
          cases t149
          · rw [cond_false] at H
            refine lwp_run 2 (by kernel_rfl) ?_
            refine lwp_nil ?_
            exact ⟨true, I107, H, ⟨by kernel_rfl, by kernel_rfl, by kernel_rfl, by kernel_rfl, by kernel_rfl, trivial⟩, pt108, o110, r114, q119, o121, o122, g123⟩
          · rw [cond_true] at H
            refine lwp_run 2 (by kernel_rfl) ?_
            refine lwp_nil ?_
            exact ⟨false, I107, H, ⟨by kernel_rfl, by kernel_rfl, by kernel_rfl, by kernel_rfl, by kernel_rfl, trivial⟩, pt108, o110, r114, q119, o121, o122, g123⟩
        · clear H
          rintro ρ' h155 ⟨x158, I156, H, hf, pt157, o159, r160, q161, o162, o163, g164⟩
          refine cwp_fits _ hf ?_
          subst e376
          try dsimp only at H
          cases x158
          · rw [cond_false] at H
            refine cwp_false (by kernel_rfl) ?_
            obtain ⟨j198, e375, H⟩ := letJ_some H
            refine cwp_join (fun ρ' h188 => ∃ (x191 : Bool) (I189 : Gh), j198 x191 = some r ∧ Fits [(1, .int .i64 x1), (4, .pointer (some ⟨b5, 0, none⟩)), (6, .pointer (some ⟨b36, 0, none⟩)), (7, .pointer (some ⟨b64, 0, none⟩)), (34, .bool x191)] ρ' ∧ Pst No I h I189 h188 ∧ OwnB I189 h188 b5 [.int .u8 0, .int .i64 0, .slice none 0 0] 51 ∧ Rd (tInt .u8) I189 h188 a112 c113 x111 ∧ ErrV I189 h188 x117 v118 ∧ OwnB I189 h188 b36 [.slice a112 x111.length c113, .int .i64 x116, v118] 153 ∧ OwnB I189 h188 b64 [.int .u8 t49.1, .int .i64 0, .slice none 0 0] 51 ∧ Glob I189 h188) ?_ ?_
            · refine cwp_region ?_
              refine lwp_run 1 (by kernel_rfl) ?_
              refine lwp_op (by kernel_rfl) (owp_load (by kernel_rfl) (by kernel_rfl) (o163.cell (off := 0) rfl) ?_)
              obtain ⟨t182, m183, H⟩ := bind_some H
              refine lwp_op (by kernel_rfl) (owp_callF (by kernel_rfl) (attr_Bare.calls (I := I156) pt157.bd m183) ?_)
              rintro v184 h185 ⟨_, rfl, rfl⟩
              cases t182
              · rw [cond_false] at H
                refine lwp_run 1 (by kernel_rfl) ?_
                refine lwp_nil ?_
                exact ⟨false, I156, H, ⟨by kernel_rfl, by kernel_rfl, by kernel_rfl, by kernel_rfl, by kernel_rfl, trivial⟩, pt157, o159, r160, q161, o162, o163, g164⟩
              · rw [cond_true] at H
                refine lwp_run 1 (by kernel_rfl) ?_
                refine lwp_nil ?_
                exact ⟨true, I156, H, ⟨by kernel_rfl, by kernel_rfl, by kernel_rfl, by kernel_rfl, by kernel_rfl, trivial⟩, pt157, o159, r160, q161, o162, o163, g164⟩
            · clear H
              rintro ρ' h188 ⟨x191, I189, H, hf, pt190, o192, r193, q194, o195, o196, g197⟩
              refine cwp_fits _ hf ?_
              subst e375
              try dsimp only at H
              cases x191
              · rw [cond_false] at H
                refine cwp_false (by kernel_rfl) ?_
                refine cwp_skip ?_
                refine cwp_seq ?_
                refine cwp_region ?_
                refine lwp_run 2 (by kernel_rfl) ?_
                obtain ⟨t238, m239, H⟩ := bind_some H
                refine lwp_op (by kernel_rfl) (owp_callF (by kernel_rfl) (bytes_Cursor_Addr.calls (I := I189) pt190.bd o195 r193 q194 m239) ?_)
                rintro v240 h241 ⟨I242, a244, c245, v248, rfl, p243, r247, q250, o251⟩
                have pt252 := pt190.own p243 (one_nw fr47)
                refine lwp_run 1 (by kernel_rfl) ?_
                have f253 := o196.post p243 d74
                refine lwp_op (by kernel_rfl) (owp_store1 1 (.int .i64 t238.1) p243.bd f253 (by kernel_rfl) (by kernel_rfl) rfl (by kernel_rfl) (Nat.le_of_ble_eq_true rfl) ?_)
                intro h254 p255 o256
                have pt257 := pt252.own p255 (one_nw fr70)
                refine lwp_nil ?_
                refine cwp_seq ?_
                refine cwp_region ?_
                refine lwp_run 2 (by kernel_rfl) ?_
                have f258 := o251.post p255 (fun e => d74 e.symm)
                have f259 := r247.up (p255.up p243.bd (one_not f253.no))
                have f260 := ErrV.up (p255.up p243.bd (one_not f253.no)) q250
                obtain ⟨t261, m262, H⟩ := bind_some H
                refine lwp_op (by kernel_rfl) (owp_callF (by kernel_rfl) (input_fields.calls (I := I242) p255.bd f258 f259 f260 m262) ?_)
                rintro v263 h264 ⟨I265, a267, c268, a272, c273, v276, rfl, p266, r270, fr271, r275, q278, o279, d280⟩
                have pt281 := pt257.own p266 (one_nw fr47)
                have fr282 := nw_step (M := No) (n := h.size) (one_nw fr47) fr271 pt257.size
                have f283 := o192.post p243 (fun e => d48 e.symm)
                have f284 := f283.post p255 (fun e => d73 e.symm)
                have d285 := step_blk fr271 f284.lt (fun e => d48 e.symm)
                have d286 := step_blk fr271 o256.lt d74
                refine lwp_run 1 (by kernel_rfl) ?_
                have f287 := o256.post p266 d74
                refine lwp_op (by kernel_rfl) (owp_store1 2 (.slice a267 t261.1.length c268) p266.bd f287 (by kernel_rfl) (by kernel_rfl) rfl (by kernel_rfl) (Nat.le_of_ble_eq_true rfl) ?_)
                intro h288 p289 o290
                have pt291 := pt281.own p289 (one_nw fr70)
                refine lwp_nil ?_
                refine cwp_seq ?_
                refine cwp_seq ?_
                refine cwp_region ?_
                refine lwp_run 1 (by kernel_rfl) ?_
                have f292 := o279.post p289 (fun e => d74 e.symm)
                have f293 := r275.up (p289.up p266.bd (one_not f287.no))
                have f294 := ErrV.up (p289.up p266.bd (one_not f287.no)) q278
                obtain ⟨t295, m296, H⟩ := bind_some H
                refine lwp_op (by kernel_rfl) (owp_callF (by kernel_rfl) (bytes_Cursor_Err.calls (I := I265) p289.bd f292 f293 f294 m296) ?_)
                rintro v297 h298 ⟨I299, v301, a304, c305, v308, rfl, p300, q303, r307, q310, o311⟩
                have pt312 := pt291.own p300 (one_nw fr47)
                rcases q303.cases with ⟨c313, rfl⟩ | ⟨c313, t314, u315, rfl⟩
                · rw [if_pos c313] at H
                  refine lwp_run 1 (by kernel_rfl) ?_
                  refine lwp_nil ?_
                  refine cwp_false (by kernel_rfl) ?_
                  refine cwp_skip ?_
                  refine cwp_seq ?_
                  refine cwp_region ?_
                  have f316 := o290.post p300 d74
                  refine lwp_op (by kernel_rfl) (owp_loadN (by kernel_rfl) (by kernel_rfl) (by kernel_rfl) (f316.seg_ 0 3 (Nat.le_of_ble_eq_true rfl)) ?_)
                  have f317 := o192.post p243 (fun e => d48 e.symm)
                  have f318 := f317.post p255 (fun e => d73 e.symm)
                  have f319 := f318.post p266 (fun e => d48 e.symm)
                  have f320 := f319.post p289 (fun e => d73 e.symm)
                  have f321 := f320.post p300 (fun e => d48 e.symm)
                  refine lwp_op (by kernel_rfl) (owp_storeN 0 [.int .u8 t49.1, .int .i64 t238.1, .slice a267 t261.1.length c268] p300.bd f321 (by kernel_rfl) (by kernel_rfl) (by simp [Value.oneCell']) (by kernel_rfl) (Nat.le_of_ble_eq_true rfl) ?_)
                  intro h322 p323 o324
                  have pt325 := pt312.own p323 (one_nw fr11)
                  refine lwp_run 1 (by kernel_rfl) ?_
                  refine lwp_nil ?_
                  refine cwp_ret ?_
                  obtain rfl := Option.some.inj H
                  have f326 := r270.post p266.bd p289 (one_not f287.no) (dis_one d286)
                  have f327 := f326.post p289.bd p300 (one_not f292.no) (dis_one d280)
                  have f328 := f327.post p300.bd p323 (one_not f321.no) (dis_one d285)
                  show Exists _
                  exact ⟨[.agg #[.int .u8 t49.1, .int .i64 t238.1, .slice a267 t261.1.length c268], .nilIface], (.cons (.agg (by kernel_rfl) (by kernel_rfl) (by kernel_rfl) (o324.seg_ 0 3 (Nat.le_of_ble_eq_true rfl))) (.cons (.tmp (by kernel_rfl)) .nil)), I299, a267, c268, (.nilIface), rfl, pt325, f328, fr282, (show ErrV I299 h322 GoErr.nil .nilIface from rfl)⟩
                · rw [if_neg c313] at H
                  refine lwp_run 1 (by kernel_rfl) ?_
                  refine lwp_nil ?_
                  refine cwp_true (by kernel_rfl) ?_
                  refine cwp_seq ?_
                  refine cwp_region ?_
                  refine lwp_run 2 (by kernel_rfl) ?_
                  obtain ⟨t329, m330, H⟩ := bind_some H
                  refine lwp_op (by kernel_rfl) (owp_callF (by kernel_rfl) (bytes_Cursor_Err.calls (I := I299) p300.bd o311 r307 q310 m330) ?_)
                  rintro v331 h332 ⟨I333, v335, a338, c339, v342, rfl, p334, q337, r341, q344, o345⟩
                  have pt346 := pt312.own p334 (one_nw fr47)
                  obtain ⟨t347, m348, H⟩ := bind_some H
                  have f349 := g197.up (p243.up pt190.bd (one_not o195.no))
                  have f350 := f349.up (p255.up p243.bd (one_not f253.no))
                  have f351 := f350.up (p266.up p255.bd (one_not f258.no))
                  have f352 := f351.up (p289.up p266.bd (one_not f287.no))
                  have f353 := f352.up (p300.up p289.bd (one_not f292.no))
                  have f354 := f353.up (p334.up p300.bd (one_not o311.no))
                  refine lwp_op (by kernel_rfl) (owp_callF (by kernel_rfl) (input_flat.calls (I := I333) p334.bd f354 q337 m348) ?_)
                  rintro v355 h356 ⟨I357, v359, rfl, p358, q361⟩
                  have pt362 := pt346.no p358
                  have f363 := o192.post p243 (fun e => d48 e.symm)
                  have f364 := f363.post p255 (fun e => d73 e.symm)
                  have f365 := f364.post p266 (fun e => d48 e.symm)
                  have f366 := f365.post p289 (fun e => d73 e.symm)
                  have f367 := f366.post p300 (fun e => d48 e.symm)
                  have f368 := f367.post p334 (fun e => d48 e.symm)
                  have f369 := f368.post p358 (fun x => x.elim)
                  refine lwp_op (by kernel_rfl) (owp_storeN 0 [.int .u8 0, .int .i64 0, .slice none 0 0] p358.bd f369 (by kernel_rfl) (by kernel_rfl) (by simp [Value.oneCell']) (by kernel_rfl) (Nat.le_of_ble_eq_true rfl) ?_)
                  intro h370 p371 o372
                  have pt373 := pt362.own p371 (one_nw fr11)
                  refine lwp_run 1 (by kernel_rfl) ?_
                  refine lwp_nil ?_
                  refine cwp_ret ?_
                  obtain rfl := Option.some.inj H
                  have f374 := ErrV.up (p371.up p358.bd (one_not f369.no)) q361
                  show Exists _
                  exact ⟨[.agg #[.int .u8 0, .int .i64 0, .slice none 0 0], v359], (.cons (.agg (by kernel_rfl) (by kernel_rfl) (by kernel_rfl) (o372.seg_ 0 3 (Nat.le_of_ble_eq_true rfl))) (.cons (.tmp (by kernel_rfl)) .nil)), I357, none, 0, (v359), rfl, pt373, (own_nil t_api_Entry I357 I357 h370), none_nw, f374⟩
              · rw [cond_true] at H
                refine cwp_true (by kernel_rfl) ?_
                refine cwp_seq ?_
                refine cwp_seq ?_
                refine cwp_region ?_
                refine lwp_run 1 (by kernel_rfl) ?_
                obtain ⟨t199, m200, H⟩ := bind_some H
                refine lwp_op (by kernel_rfl) (owp_callF (by kernel_rfl) (bytes_Cursor_Left.calls (I := I189) pt190.bd o195 r193 q194 m200) ?_)
                rintro v201 h202 ⟨I203, a205, c206, v209, rfl, p204, r208, q211, o212⟩
                have pt213 := pt190.own p204 (one_nw fr47)
                by_cases c214 : t199.1 > 0
                · rw [if_pos c214] at H
                  refine lwp_op (by kernel_rfl) (owp_pure ((.bool true)) (pr_bool (by kernel_rfl) (decide_eq_true c214)) ?_)
                  refine lwp_nil ?_
                  refine cwp_true (by kernel_rfl) ?_
                  refine cwp_seq ?_
                  refine cwp_region ?_
                  refine lwp_run 2 (by kernel_rfl) ?_
                  obtain ⟨t215, m216, H⟩ := bind_some H
                  refine lwp_op (by kernel_rfl) (owp_callF (by kernel_rfl) (input_spot.calls (I := I203) p204.bd (show ErrV I203 h202 (GoErr.no 1) (.iface 97 (.int .i64 1)) from rfl) m216) ?_)
                  rintro v217 h218 ⟨I219, v221, rfl, p220, q223⟩
                  have pt224 := pt213.no p220
                  have f225 := o192.post p204 (fun e => d48 e.symm)
                  have f226 := f225.post p220 (fun x => x.elim)
                  refine lwp_op (by kernel_rfl) (owp_storeN 0 [.int .u8 0, .int .i64 0, .slice none 0 0] p220.bd f226 (by kernel_rfl) (by kernel_rfl) (by simp [Value.oneCell']) (by kernel_rfl) (Nat.le_of_ble_eq_true rfl) ?_)
                  intro h227 p228 o229
                  have pt230 := pt224.own p228 (one_nw fr11)
                  refine lwp_run 1 (by kernel_rfl) ?_
                  refine lwp_nil ?_
                  refine cwp_ret ?_
                  obtain rfl := Option.some.inj H
                  have f231 := ErrV.up (p228.up p220.bd (one_not f226.no)) q223
                  show Exists _
                  exact ⟨[.agg #[.int .u8 0, .int .i64 0, .slice none 0 0], v221], (.cons (.agg (by kernel_rfl) (by kernel_rfl) (by kernel_rfl) (o229.seg_ 0 3 (Nat.le_of_ble_eq_true rfl))) (.cons (.tmp (by kernel_rfl)) .nil)), I219, none, 0, (v221), rfl, pt230, (own_nil t_api_Entry I219 I219 h227), none_nw, f231⟩
                · rw [if_neg c214] at H
                  refine lwp_op (by kernel_rfl) (owp_pure ((.bool false)) (pr_bool (by kernel_rfl) (decide_eq_false c214)) ?_)
                  refine lwp_nil ?_
                  refine cwp_false (by kernel_rfl) ?_
                  refine cwp_skip ?_
                  refine cwp_seq ?_
                  refine cwp_region ?_
                  have f232 := o196.post p204 d74
                  refine lwp_op (by kernel_rfl) (owp_loadN (by kernel_rfl) (by kernel_rfl) (by kernel_rfl) (f232.seg_ 0 3 (Nat.le_of_ble_eq_true rfl)) ?_)
                  have f233 := o192.post p204 (fun e => d48 e.symm)
                  refine lwp_op (by kernel_rfl) (owp_storeN 0 [.int .u8 t49.1, .int .i64 0, .slice none 0 0] p204.bd f233 (by kernel_rfl) (by kernel_rfl) (by simp [Value.oneCell']) (by kernel_rfl) (Nat.le_of_ble_eq_true rfl) ?_)
                  intro h234 p235 o236
                  have pt237 := pt213.own p235 (one_nw fr11)
                  refine lwp_run 1 (by kernel_rfl) ?_
                  refine lwp_nil ?_
                  refine cwp_ret ?_
                  obtain rfl := Option.some.inj H
                  show Exists _
                  exact ⟨[.agg #[.int .u8 t49.1, .int .i64 0, .slice none 0 0], .nilIface], (.cons (.agg (by kernel_rfl) (by kernel_rfl) (by kernel_rfl) (o236.seg_ 0 3 (Nat.le_of_ble_eq_true rfl))) (.cons (.tmp (by kernel_rfl)) .nil)), I203, none, 0, (.nilIface), rfl, pt237, (own_nil t_api_Entry I203 I203 h234), none_nw, (show ErrV I203 h234 GoErr.nil .nilIface from rfl)⟩
          · rw [cond_true] at H
            refine cwp_true (by kernel_rfl) ?_
            refine cwp_seq ?_
            refine cwp_region ?_
            refine lwp_run 2 (by kernel_rfl) ?_
            obtain ⟨t166, m167, H⟩ := bind_some H
            refine lwp_op (by kernel_rfl) (owp_callF (by kernel_rfl) (input_spot.calls (I := I156) pt157.bd (show ErrV I156 h155 (GoErr.no 3) (.iface 97 (.int .i64 3)) from rfl) m167) ?_)
            rintro v168 h169 ⟨I170, v172, rfl, p171, q174⟩
            have pt175 := pt157.no p171
            have f176 := o159.post p171 (fun x => x.elim)
            refine lwp_op (by kernel_rfl) (owp_storeN 0 [.int .u8 0, .int .i64 0, .slice none 0 0] p171.bd f176 (by kernel_rfl) (by kernel_rfl) (by simp [Value.oneCell']) (by kernel_rfl) (Nat.le_of_ble_eq_true rfl) ?_)
            intro h177 p178 o179
            have pt180 := pt175.own p178 (one_nw fr11)
            refine lwp_run 1 (by kernel_rfl) ?_
            refine lwp_nil ?_
            refine cwp_ret ?_
            obtain rfl := Option.some.inj H
            have f181 := ErrV.up (p178.up p171.bd (one_not f176.no)) q174
            show Exists _
            exact ⟨[.agg #[.int .u8 0, .int .i64 0, .slice none 0 0], v172], (.cons (.agg (by kernel_rfl) (by kernel_rfl) (by kernel_rfl) (o179.seg_ 0 3 (Nat.le_of_ble_eq_true rfl))) (.cons (.tmp (by kernel_rfl)) .nil)), I170, none, 0, (v172), rfl, pt180, (own_nil t_api_Entry I170 I170 h177), none_nw, f181⟩
      · rw [cond_true] at H
        refine cwp_true (by kernel_rfl) ?_
        refine cwp_seq ?_
        refine cwp_region ?_
        refine lwp_run 2 (by kernel_rfl) ?_
        obtain ⟨t125, m126, H⟩ := bind_some H
        refine lwp_op (by kernel_rfl) (owp_callF (by kernel_rfl) (bytes_Cursor_Err.calls (I := I107) pt108.bd o121 r114 q119 m126) ?_)
        rintro v127 h128 ⟨I129, v131, a134, c135, v138, rfl, p130, q133, r137, q140, o141⟩
        have pt142 := pt108.own p130 (one_nw fr47)
        have f143 := o110.post p130 (fun e => d48 e.symm)
        refine lwp_op (by kernel_rfl) (owp_storeN 0 [.int .u8 0, .int .i64 0, .slice none 0 0] p130.bd f143 (by kernel_rfl) (by kernel_rfl) (by simp [Value.oneCell']) (by kernel_rfl) (Nat.le_of_ble_eq_true rfl) ?_)
        intro h144 p145 o146
        have pt147 := pt142.own p145 (one_nw fr11)
        refine lwp_run 1 (by kernel_rfl) ?_
        refine lwp_nil ?_
        refine cwp_ret ?_
        obtain rfl := Option.some.inj H
        have f148 := ErrV.up (p145.up p130.bd (one_not f143.no)) q133
        show Exists _
        exact ⟨[.agg #[.int .u8 0, .int .i64 0, .slice none 0 0], v131], (.cons (.agg (by kernel_rfl) (by kernel_rfl) (by kernel_rfl) (o146.seg_ 0 3 (Nat.le_of_ble_eq_true rfl))) (.cons (.tmp (by kernel_rfl)) .nil)), I129, none, 0, (v131), rfl, pt147, (own_nil t_api_Entry I129 I129 h144), none_nw, f148⟩

/-! shutter/api.Code -/
def api_Code.m (x0 : GoErr) : Option Int := some (codeOf x0)
theorem api_Code.calls {I : Gh} {h : Heap} {x0 : GoErr} {v1 : Value} (hB : Bd I h) (hG : Glob I h) (q : ErrV I h x0 v1) {r : Int} (H : api_Code.m x0 = some r) :
    Ret Tryd.prog 21 #[v1] h (fun v h' => ∃ (I' : Gh), .int .i64 r = v ∧ Pst No I h I' h') := by
  obtain rfl := Option.some.inj H
  exact Code_calls hB hG q

/-! shutter/shutterlaw09.awake -/
def shutterlaw09_awake.m (K : Nat)  : Option Bool :=
  ((input_Read.m K [125, 64, 193] 80).bind fun t9 => ((input_Write.m K (⟨109, 0, []⟩ : api_In) 80).bind fun t41 => ((input_Read.m K [109, 64] 80).bind fun t80 => (if t9.2 = GoErr.nil then (if t9.1.Aid = 125 then (if t9.1.Cursor = 1 then (if (t9.1.Fields.length : Int) = 0 then (if t41.2 = GoErr.nil then (if (t41.1.length : Int) = 1 then ((api_Code.m t80.2).bind fun t165 => (if t165 = 1 then ((input_Same.m K t9.1 t9.1).bind fun t181 => (some t181)) else (some false))) else (some false)) else (some false)) else (some false)) else (some false)) else (some false)) else (some false)))))

set_option maxRecDepth 100000 in
theorem shutterlaw09_awake.calls {I : Gh} {h : Heap} {K : Nat}  (hB : Bd I h) (hG : Glob I h) {r : Bool}
    (H : shutterlaw09_awake.m K = some r) :
    Ret Tryd.prog 22 #[] h (fun v h' => ∃ (I' : Gh), .bool r = v ∧ Pst No I h I' h') := by
  unfold shutterlaw09_awake.m at H
  refine ret_of (args := []) (rs := [.tmp 0]) (N := 59) Tryd.func22 rfl rfl rfl (Nat.le_of_ble_eq_true rfl) ?_
  have pt0 : Pst No I h I h := Pst.refl hB
  refine cwp_seq ?_
  refine cwp_region ?_
  refine lwp_run 1 (by kernel_rfl) ?_
  refine lwp_nil ?_
  refine cwp_seq ?_
  refine cwp_region ?_
  refine lwp_op (by kernel_rfl) (owp_buildSlice (e := 5) [.int .u8 125, .int .u8 64, .int .u8 193] 1 (.int .u8 0) hB (by kernel_rfl) (by kernel_rfl) (by kernel_rfl) (by kernel_rfl) (by kernel_rfl) ?_)
  intro b1 h2 hc3 p4 o5
  have pt6 := pt0.no p4
  have w7 := o5.own (l := ([125, 64, 193] : List Int)) (Reps.int (I := I) (k := .u8) (l := [125, 64, 193]))
  have fw7 := some_nw (M := No) (Nat.le_trans pt0.size hc3)
  obtain ⟨t9, m10, H⟩ := bind_some H
  have f11 := hG.up (p4.up hB (fun _ x => x.elim))
  refine lwp_op (by kernel_rfl) (owp_callF (by kernel_rfl) (input_Read.calls (I := I) (B := (Fz I (some ⟨b1, 0, none⟩))) p4.bd (bd_fz w7 p4.bd) f11 (Rd.mono (I' := Or2 I (Fz I (some ⟨b1, 0, none⟩))) w7.rd (fun _ x => Or.inr x)) m10) ?_)
  rintro v12 h13 ⟨I14, a16, c17, v21, rfl, p15, r19, fr20, q23⟩
  have pt24 := pt6.no p15
  have fr25 := nw_step (M := No) (n := h.size) (fun _ x => x.elim) fr20 pt6.size
  have d26 := step_sl fr20 w7.lt (fun _ _ x => x.elim)
  refine lwp_run 3 (by kernel_rfl) ?_
  refine lwp_op (by kernel_rfl) (owp_alloc [.int .u8 0, .int .i64 0, .slice none 0 0] (.agg #[.int .u8 0, .int .i64 0, .slice none 0 0]) p15.bd (by kernel_rfl) (by kernel_rfl) ?_)
  intro b27 h28 hc29 p30 o31
  have pt32 := pt24.no p30
  have fr33 : No b27 ∨ h.size ≤ b27 := .inr (Nat.le_trans pt24.size hc29)
  have f34 := w7.post p4.bd p15 (fun _ x => x.elim) (fun _ _ x => x.elim)
  have d35 := notIn_new f34.lt hc29
  have d36 := notIn_new r19.lt hc29
  refine lwp_op (by kernel_rfl) (owp_storeN 0 [.int .u8 t9.1.Aid, .int .i64 t9.1.Cursor, .slice a16 t9.1.Fields.length c17] p30.bd o31 (by kernel_rfl) (by kernel_rfl) (by simp [Value.oneCell']) (by kernel_rfl) (Nat.le_of_ble_eq_true rfl) ?_)
  intro h37 p38 o39
  have pt40 := pt32.own p38 (one_nw fr33)
  refine lwp_run 1 (by kernel_rfl) ?_
  refine lwp_nil ?_
  refine cwp_seq ?_
  refine cwp_region ?_
  refine lwp_run 1 (by kernel_rfl) ?_
  obtain ⟨t41, m42, H⟩ := bind_some H
  refine lwp_op (by kernel_rfl) (owp_callF (by kernel_rfl) (input_Write.calls (I := I14) (B := I14) p38.bd p38.bd (Rd.mono (I' := Or2 I14 I14) (rd_nil t_api_Entry I14 h37) (fun _ x => Or.inr x)) m42) ?_)
  rintro v43 h44 ⟨I45, a47, c48, v52, rfl, p46, r50, fr51, q54⟩
  have pt55 := pt40.no p46
  have fr56 := nw_step (M := No) (n := h.size) (fun _ x => x.elim) fr51 pt40.size
  have d57 := step_blk fr51 o39.lt (fun x => x.elim)
  have f58 := w7.post p4.bd p15 (fun _ x => x.elim) (fun _ _ x => x.elim)
  have f59 := f58.post p15.bd p30 (fun _ x => x.elim) (fun _ _ x => x.elim)
  have f60 := f59.post p30.bd p38 (one_not o31.no) (dis_one d35)
  have d61 := step_sl fr51 f60.lt (fun _ _ x => x.elim)
  have f62 := r19.post p15.bd p30 (fun _ x => x.elim) (fun _ _ x => x.elim)
  have f63 := f62.post p30.bd p38 (one_not o31.no) (dis_one d36)
  have d64 := step_sl fr51 f63.lt (fun _ _ x => x.elim)
  refine lwp_run 5 (by kernel_rfl) ?_
  refine lwp_nil ?_
  refine cwp_seq ?_
  refine cwp_region ?_
  refine lwp_op (by kernel_rfl) (owp_buildSlice (e := 5) [.int .u8 109, .int .u8 64] 1 (.int .u8 0) p46.bd (by kernel_rfl) (by kernel_rfl) (by kernel_rfl) (by kernel_rfl) (by kernel_rfl) ?_)
  intro b65 h66 hc67 p68 o69
  have pt70 := pt55.no p68
  have w71 := o69.own (l := ([109, 64] : List Int)) (Reps.int (I := I45) (k := .u8) (l := [109, 64]))
  have fw71 := some_nw (M := No) (Nat.le_trans pt55.size hc67)
  have f73 := o39.post p46 (fun x => x.elim)
  have d74 := some_ne (ne_new f73.lt hc67)
  have f75 := f60.post p38.bd p46 (fun _ x => x.elim) (fun _ _ x => x.elim)
  have d76 := some_notIn (notIn_new f75.lt hc67)
  have f77 := f63.post p38.bd p46 (fun _ x => x.elim) (fun _ _ x => x.elim)
  have d78 := some_notIn (notIn_new f77.lt hc67)
  have d79 := some_notIn (notIn_new r50.lt hc67)
  obtain ⟨t80, m81, H⟩ := bind_some H
  have f82 := f11.up (p15.up p4.bd (fun _ x => x.elim))
  have f83 := f82.up (p30.up p15.bd (fun _ x => x.elim))
  have f84 := f83.up (p38.up p30.bd (one_not o31.no))
  have f85 := f84.up (p46.up p38.bd (fun _ x => x.elim))
  have f86 := f85.up (p68.up p46.bd (fun _ x => x.elim))
  refine lwp_op (by kernel_rfl) (owp_callF (by kernel_rfl) (input_Read.calls (I := I45) (B := (Fz I45 (some ⟨b65, 0, none⟩))) p68.bd (bd_fz w71 p68.bd) f86 (Rd.mono (I' := Or2 I45 (Fz I45 (some ⟨b65, 0, none⟩))) w71.rd (fun _ x => Or.inr x)) m81) ?_)
  rintro v87 h88 ⟨I89, a91, c92, v96, rfl, p90, r94, fr95, q98⟩
  have pt99 := pt70.no p90
  have fr100 := nw_step (M := No) (n := h.size) (fun _ x => x.elim) fr95 pt70.size
  have f101 := o39.post p46 (fun x => x.elim)
  have f102 := f101.post p68 (fun x => x.elim)
  have d103 := step_blk fr95 f102.lt (fun x => x.elim)
  have f104 := f60.post p38.bd p46 (fun _ x => x.elim) (fun _ _ x => x.elim)
  have f105 := f104.post p46.bd p68 (fun _ x => x.elim) (fun _ _ x => x.elim)
  have d106 := step_sl fr95 f105.lt (fun _ _ x => x.elim)
  have f107 := f63.post p38.bd p46 (fun _ x => x.elim) (fun _ _ x => x.elim)
  have f108 := f107.post p46.bd p68 (fun _ x => x.elim) (fun _ _ x => x.elim)
  have d109 := step_sl fr95 f108.lt (fun _ _ x => x.elim)
  have f110 := r50.post p46.bd p68 (fun _ x => x.elim) (fun _ _ x => x.elim)
  have d111 := step_sl fr95 f110.lt (fun _ _ x => x.elim)
  have d112 := step_sl fr95 w71.lt (fun _ _ x => x.elim)
  refine lwp_run 3 (by kernel_rfl) ?_
  refine lwp_op (by kernel_rfl) (owp_alloc [.int .u8 0, .int .i64 0, .slice none 0 0] (.agg #[.int .u8 0, .int .i64 0, .slice none 0 0]) p90.bd (by kernel_rfl) (by kernel_rfl) ?_)
  intro b113 h114 hc115 p116 o117
  have pt118 := pt99.no p116
  have fr119 : No b113 ∨ h.size ≤ b113 := .inr (Nat.le_trans pt99.size hc115)
  have f120 := o39.post p46 (fun x => x.elim)
  have f121 := f120.post p68 (fun x => x.elim)
  have f122 := f121.post p90 (fun x => x.elim)
  have d123 := ne_new f122.lt hc115
  have f124 := f105.post p68.bd p90 (fun _ x => x.elim) (fun _ _ x => x.elim)
  have d125 := notIn_new f124.lt hc115
  have f126 := f108.post p68.bd p90 (fun _ x => x.elim) (fun _ _ x => x.elim)
  have d127 := notIn_new f126.lt hc115
  have f128 := f110.post p68.bd p90 (fun _ x => x.elim) (fun _ _ x => x.elim)
  have d129 := notIn_new f128.lt hc115
  have f130 := w71.post p68.bd p90 (fun _ x => x.elim) (fun _ _ x => x.elim)
  have d131 := notIn_new f130.lt hc115
  have d132 := notIn_new r94.lt hc115
  refine lwp_op (by kernel_rfl) (owp_storeN 0 [.int .u8 t80.1.Aid, .int .i64 t80.1.Cursor, .slice a91 t80.1.Fields.length c92] p116.bd o117 (by kernel_rfl) (by kernel_rfl) (by simp [Value.oneCell']) (by kernel_rfl) (Nat.le_of_ble_eq_true rfl) ?_)
  intro h133 p134 o135
  have pt136 := pt118.own p134 (one_nw fr119)
  refine lwp_run 1 (by kernel_rfl) ?_
  refine lwp_nil ?_
  refine cwp_seq ?_
  refine cwp_region ?_
  refine lwp_run 1 (by kernel_rfl) ?_
  have f137 := ErrV.up (p30.up p15.bd (fun _ x => x.elim)) q23
  have f138 := ErrV.up (p38.up p30.bd (one_not o31.no)) f137
  have f139 := ErrV.up (p46.up p38.bd (fun _ x => x.elim)) f138
  have f140 := ErrV.up (p68.up p46.bd (fun _ x => x.elim)) f139
  have f141 := ErrV.up (p90.up p68.bd (fun _ x => x.elim)) f140
  have f142 := ErrV.up (p116.up p90.bd (fun _ x => x.elim)) f141
  have f143 := ErrV.up (p134.up p116.bd (one_not o117.no)) f142
  rcases f143.cases with ⟨c144, rfl⟩ | ⟨c144, t145, u146, rfl⟩
  · rw [if_pos c144] at H
    refine lwp_run 3 (by kernel_rfl) ?_
    have f147 := o39.post p46 (fun x => x.elim)
    have f148 := f147.post p68 (fun x => x.elim)
    have f149 := f148.post p90 (fun x => x.elim)
    have f150 := f149.post p116 (fun x => x.elim)
    have f151 := f150.post p134 (fun e => d123 e.symm)
    refine lwp_op (by kernel_rfl) (owp_load (by kernel_rfl) (by kernel_rfl) (f151.cell (off := 0) rfl) ?_)
    by_cases c152 : t9.1.Aid = 125
    · rw [if_pos c152] at H
      refine lwp_op (by kernel_rfl) (owp_pure ((.bool true)) (pr_bool (by kernel_rfl) (eqT c152)) ?_)
      refine lwp_run 3 (by kernel_rfl) ?_
      refine lwp_op (by kernel_rfl) (owp_load (by kernel_rfl) (by kernel_rfl) (f151.cell (off := 1) rfl) ?_)
      by_cases c153 : t9.1.Cursor = 1
      · rw [if_pos c153] at H
        refine lwp_op (by kernel_rfl) (owp_pure ((.bool true)) (pr_bool (by kernel_rfl) (eqT c153)) ?_)
        refine lwp_run 3 (by kernel_rfl) ?_
        refine lwp_op (by kernel_rfl) (owp_load (by kernel_rfl) (by kernel_rfl) (f151.cell (off := 2) rfl) ?_)
        refine lwp_run 1 (by kernel_rfl) ?_
        by_cases c154 : (t9.1.Fields.length : Int) = 0
        · rw [if_pos c154] at H
          refine lwp_op (by kernel_rfl) (owp_pure ((.bool true)) (pr_bool (by kernel_rfl) (eqT c154)) ?_)
          refine lwp_run 3 (by kernel_rfl) ?_
          have f155 := ErrV.up (p68.up p46.bd (fun _ x => x.elim)) q54
          have f156 := ErrV.up (p90.up p68.bd (fun _ x => x.elim)) f155
          have f157 := ErrV.up (p116.up p90.bd (fun _ x => x.elim)) f156
          have f158 := ErrV.up (p134.up p116.bd (one_not o117.no)) f157
          rcases f158.cases with ⟨c159, rfl⟩ | ⟨c159, t160, u161, rfl⟩
          · rw [if_pos c159] at H
            refine lwp_run 5 (by kernel_rfl) ?_
            by_cases c162 : (t41.1.length : Int) = 1
            · rw [if_pos c162] at H
              refine lwp_op (by kernel_rfl) (owp_pure ((.bool true)) (pr_bool (by kernel_rfl) (eqT c162)) ?_)
              refine lwp_run 3 (by kernel_rfl) ?_
              have f163 := ErrV.up (p116.up p90.bd (fun _ x => x.elim)) q98
              have f164 := ErrV.up (p134.up p116.bd (one_not o117.no)) f163
              obtain ⟨t165, m166, H⟩ := bind_some H
              have f167 := f86.up (p90.up p68.bd (fun _ x => x.elim))
              have f168 := f167.up (p116.up p90.bd (fun _ x => x.elim))
              have f169 := f168.up (p134.up p116.bd (one_not o117.no))
              refine lwp_op (by kernel_rfl) (owp_callF (by kernel_rfl) (api_Code.calls (I := I89) p134.bd f169 f164 m166) ?_)
              rintro v170 h171 ⟨I172, rfl, p173⟩
              have pt174 := pt136.no p173
              by_cases c175 : t165 = 1
              · rw [if_pos c175] at H
                refine lwp_op (by kernel_rfl) (owp_pure ((.bool true)) (pr_bool (by kernel_rfl) (eqT c175)) ?_)
                refine lwp_run 2 (by kernel_rfl) ?_
                have f176 := f151.post p173 (fun x => x.elim)
                refine lwp_op (by kernel_rfl) (owp_loadN (by kernel_rfl) (by kernel_rfl) (by kernel_rfl) (f176.seg_ 0 3 (Nat.le_of_ble_eq_true rfl)) ?_)
                refine lwp_op (by kernel_rfl) (owp_loadN (by kernel_rfl) (by kernel_rfl) (by kernel_rfl) (f176.seg_ 0 3 (Nat.le_of_ble_eq_true rfl)) ?_)
                have f177 := f108.post p68.bd p90 (fun _ x => x.elim) (fun _ _ x => x.elim)
                have f178 := f177.post p90.bd p116 (fun _ x => x.elim) (fun _ _ x => x.elim)
                have f179 := f178.post p116.bd p134 (one_not o117.no) (dis_one d127)
                have f180 := f179.post p134.bd p173 (fun _ x => x.elim) (fun _ _ x => x.elim)
                obtain ⟨t181, m182, H⟩ := bind_some H
                refine lwp_op (by kernel_rfl) (owp_callF (by kernel_rfl) (input_Same.calls (I := (Fz I172 a16)) (bd_fz f180 p173.bd) f180.rd f180.rd m182) ?_)
                rintro v183 h184 ⟨I185, rfl, p186⟩
                have p187 := Pst.forget p186 p173.bd
                have pt188 := pt174.no p187
                refine lwp_run 2 (by kernel_rfl) ?_
                refine lwp_nil ?_
                refine cwp_ret ?_
                obtain rfl := Option.some.inj H
                show Exists _
                exact ⟨.bool t181, by kernel_rfl, I172, rfl, pt188⟩
              · rw [if_neg c175] at H
                refine lwp_op (by kernel_rfl) (owp_pure ((.bool false)) (pr_bool (by kernel_rfl) (eqF c175)) ?_)
                refine lwp_run 7 (by kernel_rfl) ?_
                refine lwp_nil ?_
                refine cwp_ret ?_
                obtain rfl := Option.some.inj H
                show Exists _
                exact ⟨.bool false, by kernel_rfl, I172, rfl, pt174⟩
            · rw [if_neg c162] at H
              refine lwp_op (by kernel_rfl) (owp_pure ((.bool false)) (pr_bool (by kernel_rfl) (eqF c162)) ?_)
              refine lwp_run 12 (by kernel_rfl) ?_
              refine lwp_nil ?_
              refine cwp_ret ?_
              obtain rfl := Option.some.inj H
              show Exists _
              exact ⟨.bool false, by kernel_rfl, I89, rfl, pt136⟩
          · rw [if_neg c159] at H
            refine lwp_run 18 (by kernel_rfl) ?_
            refine lwp_nil ?_
            refine cwp_ret ?_
            obtain rfl := Option.some.inj H
            show Exists _
            exact ⟨.bool false, by kernel_rfl, I89, rfl, pt136⟩
        · rw [if_neg c154] at H
          refine lwp_op (by kernel_rfl) (owp_pure ((.bool false)) (pr_bool (by kernel_rfl) (eqF c154)) ?_)
          refine lwp_run 21 (by kernel_rfl) ?_
          refine lwp_nil ?_
          refine cwp_ret ?_
          obtain rfl := Option.some.inj H
          show Exists _
          exact ⟨.bool false, by kernel_rfl, I89, rfl, pt136⟩
      · rw [if_neg c153] at H
        refine lwp_op (by kernel_rfl) (owp_pure ((.bool false)) (pr_bool (by kernel_rfl) (eqF c153)) ?_)
        refine lwp_run 27 (by kernel_rfl) ?_
        refine lwp_nil ?_
        refine cwp_ret ?_
        obtain rfl := Option.some.inj H
        show Exists _
        exact ⟨.bool false, by kernel_rfl, I89, rfl, pt136⟩
    · rw [if_neg c152] at H
      refine lwp_op (by kernel_rfl) (owp_pure ((.bool false)) (pr_bool (by kernel_rfl) (eqF c152)) ?_)
      refine lwp_run 32 (by kernel_rfl) ?_
      refine lwp_nil ?_
      refine cwp_ret ?_
      obtain rfl := Option.some.inj H
      show Exists _
      exact ⟨.bool false, by kernel_rfl, I89, rfl, pt136⟩
  · rw [if_neg c144] at H
    refine lwp_run 37 (by kernel_rfl) ?_
    refine lwp_nil ?_
    refine cwp_ret ?_
    obtain rfl := Option.some.inj H
    show Exists _
    exact ⟨.bool false, by kernel_rfl, I89, rfl, pt136⟩

/-! shutter/shutterref09.Few -/
def shutterref09_Few.l1.m (K : Nat) (x0 : api_In) : Nat → Int → Option (Bool ⊕ (Unit))
  | 0, _ => none
  | k + 1, x15 => (if x15 < (x0.Fields.length : Int) then (if x15 < 100 then (if 0 ≤ x15 then (if (((at_ x0.Fields x15).Text).length : Int) > 9000 then (some (Sum.inl false)) else (shutterref09_Few.l1.m K x0 k (w64 (x15 + 1)))) else none) else (some (Sum.inr ()))) else (some (Sum.inr ())))
def shutterref09_Few.m (K : Nat) (x0 : api_In) : Option Bool :=
  ((shutterref09_Few.l1.m K x0 K 0).bind fun s19 => match s19 with | .inl q => (some q) | .inr _ => (some (decide ((x0.Fields.length : Int) ≤ 60))))

set_option maxRecDepth 100000 in
theorem shutterref09_Few.calls {I : Gh} {h : Heap} {K : Nat} {x0 : api_In} {a1 : Option Addr} {c2 : Nat} (hB : Bd I h) (r4 : Rd t_api_Entry I h a1 c2 x0.Fields) {r : Bool}
    (H : shutterref09_Few.m K x0 = some r) :
    Ret Tryd.prog 23 #[.agg #[.int .u8 x0.Aid, .int .i64 x0.Cursor, .slice a1 x0.Fields.length c2]] h (fun v h' => ∃ (I' : Gh), .bool r = v ∧ Pst No I h I' h') := by
  unfold shutterref09_Few.m at H
  refine ret_of (args := [.agg #[.int .u8 x0.Aid, .int .i64 x0.Cursor, .slice a1 x0.Fields.length c2]]) (rs := [.tmp 2]) (N := 27) Tryd.func23 rfl rfl rfl (Nat.le_of_ble_eq_true rfl) ?_
  have pt0 : Pst No I h I h := Pst.refl hB
  refine cwp_seq ?_
  refine cwp_region ?_
  refine lwp_op (by kernel_rfl) (owp_box [.int .u8 x0.Aid, .int .i64 x0.Cursor, .slice a1 x0.Fields.length c2] hB (by kernel_rfl) ?_)
  intro b5 h6 hc7 p8 o9
  have pt10 := pt0.no p8
  have fr11 : No b5 ∨ h.size ≤ b5 := .inr (Nat.le_trans pt0.size hc7)
  refine lwp_run 1 (by kernel_rfl) ?_
  refine lwp_nil ?_
  refine cwp_seq ?_
  refine cwp_seq ?_
  refine cwp_region ?_
  refine lwp_run 1 (by kernel_rfl) ?_
  refine lwp_nil ?_
  refine cwp_block ?_
  have f39 := r4.up (p8.up hB (fun _ x => x.elim))
  obtain ⟨s19, m25, HR26⟩ := bind_some H
  refine cwp_loopE 0 (fun ρ' h20 => ∃ (I21 : Gh), Sum.inr () = s19 ∧ Fits [(1, .pointer (some ⟨b5, 0, none⟩))] ρ' ∧ Pst No I h I21 h20 ∧ Rd t_api_Entry I21 h20 a1 c2 x0.Fields ∧ OwnB I21 h20 b5 [.int .u8 x0.Aid, .int .i64 x0.Cursor, .slice a1 x0.Fields.length c2] 51) ?_ ?_
  · refine cwp_loop (fun k' ρ' h12 => ∃ (x15 : Int) (I13 : Gh), shutterref09_Few.l1.m K x0 k' x15 = some s19 ∧ Fits [(1, .pointer (some ⟨b5, 0, none⟩)), (3, .int .i64 x15)] ρ' ∧ Pst No I h I13 h12 ∧ Rd t_api_Entry I13 h12 a1 c2 x0.Fields ∧ OwnB I13 h12 b5 [.int .u8 x0.Aid, .int .i64 x0.Cursor, .slice a1 x0.Fields.length c2] 51) K ⟨0, I, m25, ⟨by kernel_rfl, by kernel_rfl, trivial⟩, pt10, f39, o9⟩ ?_
    clear m25
    rintro k' ρ' h12 ⟨x15, I13, H, hf, pt14, r16, o17⟩
    cases k' with
    | zero => cases H
    | succ k =>
      rw [shutterref09_Few.l1.m] at H
      refine cwp_fits _ hf ?_
      refine cwp_seq ?_
      refine cwp_seq ?_
      refine cwp_region ?_
      refine lwp_run 2 (by kernel_rfl) ?_
      refine lwp_op (by kernel_rfl) (owp_load (by kernel_rfl) (by kernel_rfl) (o17.cell (off := 2) rfl) ?_)
      refine lwp_run 1 (by kernel_rfl) ?_
      by_cases c27 : x15 < (x0.Fields.length : Int)
      · rw [if_pos c27] at H
        refine lwp_op (by kernel_rfl) (owp_pure ((.bool true)) (pr_bool (by kernel_rfl) (decide_eq_true c27)) ?_)
        refine lwp_run 2 (by kernel_rfl) ?_
        by_cases c28 : x15 < 100
        · rw [if_pos c28] at H
          refine lwp_op (by kernel_rfl) (owp_pure ((.bool true)) (pr_bool (by kernel_rfl) (decide_eq_true c28)) ?_)
          refine lwp_run 1 (by kernel_rfl) ?_
          refine lwp_nil ?_
          refine cwp_true (by kernel_rfl) ?_
          refine cwp_skip ?_
          refine cwp_seq ?_
          refine cwp_block ?_
          refine cwp_seq ?_
          refine cwp_region ?_
          refine lwp_run 1 (by kernel_rfl) ?_
          refine lwp_op (by kernel_rfl) (owp_load (by kernel_rfl) (by kernel_rfl) (o17.cell (off := 2) rfl) ?_)
          obtain ⟨c29, H⟩ := guard_pos H
          refine lwp_run 1 (by kernel_rfl) ?_
          have hs30 := (r16.toSl).isSome c29 c27
          refine lwp_op (by kernel_rfl) (owp_pure (elemPtr a1 (x15.toNat * 2)) (pr_indexElem (e := 62) (r16.toSl) (k := .i64) (by kernel_rfl) (by kernel_rfl) (by kernel_rfl) (by kernel_rfl) c29 c27) ?_)
          refine lwp_op (by kernel_rfl) (owp_pure ((elemPtr a1 (x15.toNat * 2 + 1))) (pr_fieldAddr (a := a1) (n := (x15.toNat * 2)) (off := 1) (by kernel_rfl) hs30 (fun _ _ => by kernel_rfl)) ?_)
          obtain ⟨cs31, hs32, rp33⟩ := (r16.toSl).seg c29 c27
          obtain ⟨a34, c35, rfl, r37⟩ := t_api_Entry.open_ rp33
          refine lwp_op (by kernel_rfl) (owp_load (by kernel_rfl) (by kernel_rfl) (seg_cell (f := 1) hs32 rfl) ?_)
          refine lwp_run 1 (by kernel_rfl) ?_
          by_cases c38 : (((at_ x0.Fields x15).Text).length : Int) > 9000
          · rw [if_pos c38] at H
            refine lwp_op (by kernel_rfl) (owp_pure ((.bool true)) (pr_bool (by kernel_rfl) (decide_eq_true c38)) ?_)
            refine lwp_nil ?_
            refine cwp_true (by kernel_rfl) ?_
            refine cwp_seq ?_
            refine cwp_region ?_
            refine lwp_run 1 (by kernel_rfl) ?_
            refine lwp_nil ?_
            refine cwp_ret ?_
            obtain rfl := Option.some.inj H
            obtain rfl := Option.some.inj HR26
            show Exists _
            exact ⟨.bool false, by kernel_rfl, I13, rfl, pt14⟩
          · rw [if_neg c38] at H
            refine lwp_op (by kernel_rfl) (owp_pure ((.bool false)) (pr_bool (by kernel_rfl) (decide_eq_false c38)) ?_)
            refine lwp_nil ?_
            refine cwp_false (by kernel_rfl) ?_
            refine cwp_skip ?_
            refine cwp_region ?_
            refine lwp_run 3 (by kernel_rfl) ?_
            refine lwp_nil ?_
            show Exists _
            exact ⟨k, Nat.lt_succ_self _, (w64 (x15 + 1)), I13, H, ⟨by kernel_rfl, by kernel_rfl, trivial⟩, pt14, r16, o17⟩
        · rw [if_neg c28] at H
          refine lwp_op (by kernel_rfl) (owp_pure ((.bool false)) (pr_bool (by kernel_rfl) (decide_eq_false c28)) ?_)
          refine lwp_run 1 (by kernel_rfl) ?_
          refine lwp_nil ?_
          refine cwp_false (by kernel_rfl) ?_
          refine cwp_exit ?_
          obtain rfl := Option.some.inj H
          show Exists _
          exact ⟨I13, rfl, ⟨by kernel_rfl, trivial⟩, pt14, r16, o17⟩
      · rw [if_neg c27] at H
        refine lwp_op (by kernel_rfl) (owp_pure ((.bool false)) (pr_bool (by kernel_rfl) (decide_eq_false c27)) ?_)
        refine lwp_run 4 (by kernel_rfl) ?_
        refine lwp_nil ?_
        refine cwp_false (by kernel_rfl) ?_
        refine cwp_exit ?_
        obtain rfl := Option.some.inj H
        show Exists _
        exact ⟨I13, rfl, ⟨by kernel_rfl, trivial⟩, pt14, r16, o17⟩
  · rintro ρ' h20 ⟨I21, rfl, hf, pt22, r23, o24⟩
    have H := HR26
    try dsimp only at H
    refine cwp_fits _ hf ?_
    refine cwp_seq ?_
    refine cwp_region ?_
    refine lwp_run 1 (by kernel_rfl) ?_
    refine lwp_op (by kernel_rfl) (owp_load (by kernel_rfl) (by kernel_rfl) (o24.cell (off := 2) rfl) ?_)
    refine lwp_run 3 (by kernel_rfl) ?_
    refine lwp_nil ?_
    refine cwp_ret ?_
    obtain rfl := Option.some.inj H
    show Exists _
    exact ⟨.bool (decide ((x0.Fields.length : Int) ≤ 60)), by kernel_rfl, I21, rfl, pt22⟩

/-! shutter/shutterlaw09.size -/
def shutterlaw09_size.m (x0 : Int) : Option Int :=
  (some (w64 (1 + (Int.tmod (w64 (x0)) 16383))))

set_option maxRecDepth 100000 in
theorem shutterlaw09_size.calls {I : Gh} {h : Heap} {x0 : Int} (_hB : Bd I h)  {r : Int}
    (H : shutterlaw09_size.m x0 = some r) :
    Ret Tryd.prog 25 #[.int .u16 x0] h (fun v h' => ∃ _ : Unit, .int .i64 r = v ∧ h = h') := by
  unfold shutterlaw09_size.m at H
  refine ret_of (args := [.int .u16 x0]) (rs := [.tmp 2]) (N := 7) Tryd.func25 rfl rfl rfl (Nat.le_of_ble_eq_true rfl) ?_
  refine cwp_seq ?_
  refine cwp_region ?_
  refine lwp_run 1 (by kernel_rfl) ?_
  refine lwp_nil ?_
  refine cwp_seq ?_
  refine cwp_region ?_
  refine lwp_run 5 (by kernel_rfl) ?_
  refine lwp_nil ?_
  refine cwp_ret ?_
  obtain rfl := Option.some.inj H
  show Exists _
  exact ⟨.int .i64 (w64 (1 + (Int.tmod (w64 (x0)) 16383))), by kernel_rfl, (), rfl, rfl⟩

/-! shutter/shutterref09.Same -/
def shutterref09_Same.l1.m (K : Nat) (x0 : api_In) (x1 : api_In) : Nat → Int → Option (Bool ⊕ (Unit))
  | 0, _ => none
  | k + 1, x31 => (if x31 < (x0.Fields.length : Int) then (if 0 ≤ x31 then (if x31 < (x1.Fields.length : Int) then (if (at_ x0.Fields x31).Addr = (at_ x1.Fields x31).Addr then ((shutterref01_Same.m K ((at_ x0.Fields x31).Text) ((at_ x1.Fields x31).Text)).bind fun t69 => bif t69 then (shutterref09_Same.l1.m K x0 x1 k (w64 (x31 + 1))) else (some (Sum.inl false))) else (some (Sum.inl false))) else none) else none) else (some (Sum.inr ())))
def shutterref09_Same.m (K : Nat) (x0 : api_In) (x1 : api_In) : Option Bool :=
  (if x0.Aid = x1.Aid then (if x0.Cursor = x1.Cursor then (if (x0.Fields.length : Int) = (x1.Fields.length : Int) then ((shutterref09_Same.l1.m K x0 x1 K 0).bind fun s37 => match s37 with | .inl q => (some q) | .inr _ => (some true)) else (some false)) else (some false)) else (some false))

set_option maxRecDepth 100000 in
theorem shutterref09_Same.calls {I : Gh} {h : Heap} {K : Nat} {x0 : api_In} {a1 : Option Addr} {c2 : Nat} {x1 : api_In} {a5 : Option Addr} {c6 : Nat} (hB : Bd I h) (r4 : Rd t_api_Entry I h a1 c2 x0.Fields) (r8 : Rd t_api_Entry I h a5 c6 x1.Fields) {r : Bool}
    (H : shutterref09_Same.m K x0 x1 = some r) :
    Ret Tryd.prog 27 #[.agg #[.int .u8 x0.Aid, .int .i64 x0.Cursor, .slice a1 x0.Fields.length c2], .agg #[.int .u8 x1.Aid, .int .i64 x1.Cursor, .slice a5 x1.Fields.length c6]] h (fun v h' => ∃ (I' : Gh), .bool r = v ∧ Pst No I h I' h') := by
  unfold shutterref09_Same.m at H
  refine ret_of (args := [.agg #[.int .u8 x0.Aid, .int .i64 x0.Cursor, .slice a1 x0.Fields.length c2], .agg #[.int .u8 x1.Aid, .int .i64 x1.Cursor, .slice a5 x1.Fields.length c6]]) (rs := [.tmp 4]) (N := 63) Tryd.func27 rfl rfl rfl (Nat.le_of_ble_eq_true rfl) ?_
  have pt0 : Pst No I h I h := Pst.refl hB
  refine cwp_seq ?_
  refine cwp_region ?_
  refine lwp_op (by kernel_rfl) (owp_box [.int .u8 x0.Aid, .int .i64 x0.Cursor, .slice a1 x0.Fields.length c2] hB (by kernel_rfl) ?_)
  intro b9 h10 hc11 p12 o13
  have pt14 := pt0.no p12
  have fr15 : No b9 ∨ h.size ≤ b9 := .inr (Nat.le_trans pt0.size hc11)
  refine lwp_op (by kernel_rfl) (owp_box [.int .u8 x1.Aid, .int .i64 x1.Cursor, .slice a5 x1.Fields.length c6] p12.bd (by kernel_rfl) ?_)
  intro b16 h17 hc18 p19 o20
  have pt21 := pt14.no p19
  have fr22 : No b16 ∨ h.size ≤ b16 := .inr (Nat.le_trans pt14.size hc18)
  have d23 := ne_new o13.lt hc18
  refine lwp_run 1 (by kernel_rfl) ?_
  refine lwp_nil ?_
  refine cwp_seq ?_
  refine cwp_seq ?_
  refine cwp_region ?_
  refine lwp_run 1 (by kernel_rfl) ?_
  have f24 := o13.post p19 (fun x => x.elim)
  refine lwp_op (by kernel_rfl) (owp_load (by kernel_rfl) (by kernel_rfl) (f24.cell (off := 0) rfl) ?_)
  refine lwp_run 1 (by kernel_rfl) ?_
  refine lwp_op (by kernel_rfl) (owp_load (by kernel_rfl) (by kernel_rfl) (o20.cell (off := 0) rfl) ?_)
  by_cases c25 : x0.Aid = x1.Aid
  · rw [if_pos c25] at H
    refine lwp_op (by kernel_rfl) (owp_pure ((.bool false)) (pr_bool (by kernel_rfl) (neF c25)) ?_)
    refine lwp_run 2 (by kernel_rfl) ?_
    refine lwp_op (by kernel_rfl) (owp_load (by kernel_rfl) (by kernel_rfl) (f24.cell (off := 1) rfl) ?_)
    refine lwp_run 1 (by kernel_rfl) ?_
    refine lwp_op (by kernel_rfl) (owp_load (by kernel_rfl) (by kernel_rfl) (o20.cell (off := 1) rfl) ?_)
    by_cases c26 : x0.Cursor = x1.Cursor
    · rw [if_pos c26] at H
      refine lwp_op (by kernel_rfl) (owp_pure ((.bool false)) (pr_bool (by kernel_rfl) (neF c26)) ?_)
      refine lwp_run 3 (by kernel_rfl) ?_
      refine lwp_op (by kernel_rfl) (owp_load (by kernel_rfl) (by kernel_rfl) (f24.cell (off := 2) rfl) ?_)
      refine lwp_run 2 (by kernel_rfl) ?_
      refine lwp_op (by kernel_rfl) (owp_load (by kernel_rfl) (by kernel_rfl) (o20.cell (off := 2) rfl) ?_)
      refine lwp_run 1 (by kernel_rfl) ?_
      by_cases c27 : (x0.Fields.length : Int) = (x1.Fields.length : Int)
      · rw [if_pos c27] at H
        refine lwp_op (by kernel_rfl) (owp_pure ((.bool false)) (pr_bool (by kernel_rfl) (neF c27)) ?_)
        refine lwp_run 1 (by kernel_rfl) ?_
        refine lwp_nil ?_
        refine cwp_false (by kernel_rfl) ?_
        refine cwp_skip ?_
        refine cwp_seq ?_
        refine cwp_seq ?_
        refine cwp_region ?_
        refine lwp_run 1 (by kernel_rfl) ?_
        refine lwp_nil ?_
        refine cwp_block ?_
        have f75 := r4.up (p12.up hB (fun _ x => x.elim))
        have f76 := f75.up (p19.up p12.bd (fun _ x => x.elim))
        have f77 := r8.up (p12.up hB (fun _ x => x.elim))
        have f78 := f77.up (p19.up p12.bd (fun _ x => x.elim))
        obtain ⟨s37, m45, HR46⟩ := bind_some H
        refine cwp_loopE 0 (fun ρ' h38 => ∃ (I39 : Gh), Sum.inr () = s37 ∧ Fits [] ρ' ∧ Pst No I h I39 h38 ∧ Rd t_api_Entry I39 h38 a1 c2 x0.Fields ∧ OwnB I39 h38 b9 [.int .u8 x0.Aid, .int .i64 x0.Cursor, .slice a1 x0.Fields.length c2] 51 ∧ Rd t_api_Entry I39 h38 a5 c6 x1.Fields ∧ OwnB I39 h38 b16 [.int .u8 x1.Aid, .int .i64 x1.Cursor, .slice a5 x1.Fields.length c6] 51) ?_ ?_
        · refine cwp_loop (fun k' ρ' h28 => ∃ (x31 : Int) (I29 : Gh), shutterref09_Same.l1.m K x0 x1 k' x31 = some s37 ∧ Fits [(2, .pointer (some ⟨b9, 0, none⟩)), (3, .pointer (some ⟨b16, 0, none⟩)), (5, .int .i64 x31)] ρ' ∧ Pst No I h I29 h28 ∧ Rd t_api_Entry I29 h28 a1 c2 x0.Fields ∧ OwnB I29 h28 b9 [.int .u8 x0.Aid, .int .i64 x0.Cursor, .slice a1 x0.Fields.length c2] 51 ∧ Rd t_api_Entry I29 h28 a5 c6 x1.Fields ∧ OwnB I29 h28 b16 [.int .u8 x1.Aid, .int .i64 x1.Cursor, .slice a5 x1.Fields.length c6] 51) K ⟨0, I, m45, ⟨by kernel_rfl, by kernel_rfl, by kernel_rfl, trivial⟩, pt21, f76, f24, f78, o20⟩ ?_
          clear m45
          rintro k' ρ' h28 ⟨x31, I29, H, hf, pt30, r32, o33, r34, o35⟩
          cases k' with
          | zero => cases H
          | succ k =>
            rw [shutterref09_Same.l1.m] at H
            refine cwp_fits _ hf ?_
            refine cwp_seq ?_
            refine cwp_seq ?_
            refine cwp_region ?_
            refine lwp_run 2 (by kernel_rfl) ?_
            refine lwp_op (by kernel_rfl) (owp_load (by kernel_rfl) (by kernel_rfl) (o33.cell (off := 2) rfl) ?_)
            refine lwp_run 1 (by kernel_rfl) ?_
            by_cases c47 : x31 < (x0.Fields.length : Int)
            · rw [if_pos c47] at H
              refine lwp_op (by kernel_rfl) (owp_pure ((.bool true)) (pr_bool (by kernel_rfl) (decide_eq_true c47)) ?_)
              refine lwp_nil ?_
              refine cwp_true (by kernel_rfl) ?_
              refine cwp_skip ?_
              refine cwp_seq ?_
              refine cwp_block ?_
              refine cwp_seq ?_
              refine cwp_regionD (Keep No h28) 29 (by kernel_rfl) ?_
              refine awp_run (fuel := 28) [0] Keep.refl (by kernel_rfl) ?_
              refine awp_load 1 rfl (by kernel_rfl) (by kernel_rfl) (by kernel_rfl) (by kernel_rfl) Keep.refl (o33.cell (off := 2) rfl) (fun _ _ x => x.elim) ?_
              obtain ⟨c48, H⟩ := guard_pos H
              refine awp_run (fuel := 26) [2] Keep.refl (by kernel_rfl) ?_
              have hs49 := (r32.toSl).isSome c48 c47
              refine awp_pure 3 (elemPtr a1 (x31.toNat * 2)) rfl (by kernel_rfl) (by kernel_rfl) (pr_indexElem (e := 62) (r32.toSl) (k := .i64) (by kernel_rfl) (by kernel_rfl) (by kernel_rfl) (by kernel_rfl) c48 c47) Keep.refl ?_
              refine awp_pure 4 ((elemPtr a1 (x31.toNat * 2 + 0))) rfl (by kernel_rfl) (by kernel_rfl) (pr_fieldAddr (a := a1) (n := (x31.toNat * 2)) (off := 0) (by kernel_rfl) hs49 (fun _ _ => by kernel_rfl)) Keep.refl ?_
              obtain ⟨cs50, hs51, rp52⟩ := (r32.toSl).seg c48 c47
              obtain ⟨a53, c54, rfl, r56⟩ := t_api_Entry.open_ rp52
              refine awp_load 5 rfl (by kernel_rfl) (by kernel_rfl) (by kernel_rfl) (by kernel_rfl) Keep.refl (seg_cell (f := 0) hs51 rfl) (fun _ _ x => x.elim) ?_
              refine awp_run (fuel := 22) [6] Keep.refl (by kernel_rfl) ?_
              refine awp_load 7 rfl (by kernel_rfl) (by kernel_rfl) (by kernel_rfl) (by kernel_rfl) Keep.refl (o35.cell (off := 2) rfl) (fun _ _ x => x.elim) ?_
              obtain ⟨c57, H⟩ := guard_pos H
              refine awp_run (fuel := 20) [8] Keep.refl (by kernel_rfl) ?_
              have hs58 := (r34.toSl).isSome c48 c57
              refine awp_pure 9 (elemPtr a5 (x31.toNat * 2)) rfl (by kernel_rfl) (by kernel_rfl) (pr_indexElem (e := 62) (r34.toSl) (k := .i64) (by kernel_rfl) (by kernel_rfl) (by kernel_rfl) (by kernel_rfl) c48 c57) Keep.refl ?_
              refine awp_pure 10 ((elemPtr a5 (x31.toNat * 2 + 0))) rfl (by kernel_rfl) (by kernel_rfl) (pr_fieldAddr (a := a5) (n := (x31.toNat * 2)) (off := 0) (by kernel_rfl) hs58 (fun _ _ => by kernel_rfl)) Keep.refl ?_
              obtain ⟨cs59, hs60, rp61⟩ := (r34.toSl).seg c48 c57
              obtain ⟨a62, c63, rfl, r65⟩ := t_api_Entry.open_ rp61
              refine awp_load 11 rfl (by kernel_rfl) (by kernel_rfl) (by kernel_rfl) (by kernel_rfl) Keep.refl (seg_cell (f := 0) hs60 rfl) (fun _ _ x => x.elim) ?_
              by_cases c66 : (at_ x0.Fields x31).Addr = (at_ x1.Fields x31).Addr
              · rw [if_pos c66] at H
                refine awp_pure 12 ((.bool false)) rfl (by kernel_rfl) (by kernel_rfl) (pr_bool (by kernel_rfl) (neF c66)) Keep.refl ?_
                refine awp_run (fuel := 14) [13, 14] Keep.refl (by kernel_rfl) ?_
                refine awp_load 15 rfl (by kernel_rfl) (by kernel_rfl) (by kernel_rfl) (by kernel_rfl) Keep.refl (o33.cell (off := 2) rfl) (fun _ _ x => x.elim) ?_
                refine awp_run (fuel := 12) [16] Keep.refl (by kernel_rfl) ?_
                have hs67 := (r32.toSl).isSome c48 c47
                refine awp_pure 17 (elemPtr a1 (x31.toNat * 2)) rfl (by kernel_rfl) (by kernel_rfl) (pr_indexElem (e := 62) (r32.toSl) (k := .i64) (by kernel_rfl) (by kernel_rfl) (by kernel_rfl) (by kernel_rfl) c48 c47) Keep.refl ?_
                refine awp_pure 18 ((elemPtr a1 (x31.toNat * 2 + 1))) rfl (by kernel_rfl) (by kernel_rfl) (pr_fieldAddr (a := a1) (n := (x31.toNat * 2)) (off := 1) (by kernel_rfl) hs67 (fun _ _ => by kernel_rfl)) Keep.refl ?_
                refine awp_load 19 rfl (by kernel_rfl) (by kernel_rfl) (by kernel_rfl) (by kernel_rfl) Keep.refl (seg_cell (f := 1) hs51 rfl) (fun _ _ x => x.elim) ?_
                refine awp_run (fuel := 8) [20] Keep.refl (by kernel_rfl) ?_
                refine awp_load 21 rfl (by kernel_rfl) (by kernel_rfl) (by kernel_rfl) (by kernel_rfl) Keep.refl (o35.cell (off := 2) rfl) (fun _ _ x => x.elim) ?_
                refine awp_run (fuel := 6) [22] Keep.refl (by kernel_rfl) ?_
                have hs68 := (r34.toSl).isSome c48 c57
                refine awp_pure 23 (elemPtr a5 (x31.toNat * 2)) rfl (by kernel_rfl) (by kernel_rfl) (pr_indexElem (e := 62) (r34.toSl) (k := .i64) (by kernel_rfl) (by kernel_rfl) (by kernel_rfl) (by kernel_rfl) c48 c57) Keep.refl ?_
                refine awp_pure 24 ((elemPtr a5 (x31.toNat * 2 + 1))) rfl (by kernel_rfl) (by kernel_rfl) (pr_fieldAddr (a := a5) (n := (x31.toNat * 2)) (off := 1) (by kernel_rfl) hs68 (fun _ _ => by kernel_rfl)) Keep.refl ?_
                refine awp_load 25 rfl (by kernel_rfl) (by kernel_rfl) (by kernel_rfl) (by kernel_rfl) Keep.refl (seg_cell (f := 1) hs60 rfl) (fun _ _ x => x.elim) ?_
                obtain ⟨t69, m70, H⟩ := bind_some H
                refine awp_op 26 (by kernel_rfl) rfl (by kernel_rfl) (owp_callF (by kernel_rfl) (shutterref01_Same.calls (I := I29) pt30.bd r56 r65 m70) ?_)
                rintro v71 h72 ⟨_, rfl, rfl⟩
                refine ⟨Keep.refl, ?_⟩
                cases t69
                · rw [cond_false] at H
                  refine awp_run (fuel := 0) [27, 28] Keep.refl (by kernel_rfl) ?_
                  refine awp_nil (by kernel_rfl) ?_ 0
                  refine cwp_true (by kernel_rfl) ?_
                  refine cwp_seq ?_
                  refine cwp_region ?_
                  refine lwp_run 1 (by kernel_rfl) ?_
                  refine lwp_nil ?_
                  refine cwp_ret ?_
                  obtain rfl := Option.some.inj H
                  obtain rfl := Option.some.inj HR46
                  show Exists _
                  exact ⟨.bool false, by kernel_rfl, I29, rfl, pt30⟩
                · rw [cond_true] at H
                  refine awp_run (fuel := 0) [27, 28] Keep.refl (by kernel_rfl) ?_
                  refine awp_nil (by kernel_rfl) ?_ 0
                  refine cwp_false (by kernel_rfl) ?_
                  refine cwp_skip ?_
                  refine cwp_region ?_
                  refine lwp_run 3 (by kernel_rfl) ?_
                  refine lwp_nil ?_
                  show Exists _
                  exact ⟨k, Nat.lt_succ_self _, (w64 (x31 + 1)), I29, H, ⟨by kernel_rfl, by kernel_rfl, by kernel_rfl, trivial⟩, pt30, r32, o33, r34, o35⟩
              · rw [if_neg c66] at H
                refine awp_pure 12 ((.bool true)) rfl (by kernel_rfl) (by kernel_rfl) (pr_bool (by kernel_rfl) (neT c66)) Keep.refl ?_
                refine awp_run (fuel := 0) [13, 14, 15, 16, 17, 18, 19, 20, 21, 22, 23, 24, 25, 26, 27, 28] Keep.refl (by kernel_rfl) ?_
                refine awp_nil (by kernel_rfl) ?_ 0
                refine cwp_true (by kernel_rfl) ?_
                refine cwp_seq ?_
                refine cwp_region ?_
                refine lwp_run 1 (by kernel_rfl) ?_
                refine lwp_nil ?_
                refine cwp_ret ?_
                obtain rfl := Option.some.inj H
                obtain rfl := Option.some.inj HR46
                show Exists _
                exact ⟨.bool false, by kernel_rfl, I29, rfl, pt30⟩
            · rw [if_neg c47] at H
              refine lwp_op (by kernel_rfl) (owp_pure ((.bool false)) (pr_bool (by kernel_rfl) (decide_eq_false c47)) ?_)
              refine lwp_nil ?_
              refine cwp_false (by kernel_rfl) ?_
              refine cwp_exit ?_
              obtain rfl := Option.some.inj H
              show Exists _
              exact ⟨I29, rfl, trivial, pt30, r32, o33, r34, o35⟩
        · rintro ρ' h38 ⟨I39, rfl, hf, pt40, r41, o42, r43, o44⟩
          have H := HR46
          try dsimp only at H
          refine cwp_fits _ hf ?_
          refine cwp_seq ?_
          refine cwp_region ?_
          refine lwp_run 1 (by kernel_rfl) ?_
          refine lwp_nil ?_
          refine cwp_ret ?_
          obtain rfl := Option.some.inj H
          show Exists _
          exact ⟨.bool true, by kernel_rfl, I39, rfl, pt40⟩
      · rw [if_neg c27] at H
        refine lwp_op (by kernel_rfl) (owp_pure ((.bool true)) (pr_bool (by kernel_rfl) (neT c27)) ?_)
        refine lwp_run 1 (by kernel_rfl) ?_
        refine lwp_nil ?_
        refine cwp_true (by kernel_rfl) ?_
        refine cwp_seq ?_
        refine cwp_region ?_
        refine lwp_run 1 (by kernel_rfl) ?_
        refine lwp_nil ?_
        refine cwp_ret ?_
        obtain rfl := Option.some.inj H
        show Exists _
        exact ⟨.bool false, by kernel_rfl, I, rfl, pt21⟩
    · rw [if_neg c26] at H
      refine lwp_op (by kernel_rfl) (owp_pure ((.bool true)) (pr_bool (by kernel_rfl) (neT c26)) ?_)
      refine lwp_run 10 (by kernel_rfl) ?_
      refine lwp_nil ?_
      refine cwp_true (by kernel_rfl) ?_
      refine cwp_seq ?_
      refine cwp_region ?_
      refine lwp_run 1 (by kernel_rfl) ?_
      refine lwp_nil ?_
      refine cwp_ret ?_
      obtain rfl := Option.some.inj H
      show Exists _
      exact ⟨.bool false, by kernel_rfl, I, rfl, pt21⟩
  · rw [if_neg c25] at H
    refine lwp_op (by kernel_rfl) (owp_pure ((.bool true)) (pr_bool (by kernel_rfl) (neT c25)) ?_)
    refine lwp_run 16 (by kernel_rfl) ?_
    refine lwp_nil ?_
    refine cwp_true (by kernel_rfl) ?_
    refine cwp_seq ?_
    refine cwp_region ?_
    refine lwp_run 1 (by kernel_rfl) ?_
    refine lwp_nil ?_
    refine cwp_ret ?_
    obtain rfl := Option.some.inj H
    show Exists _
    exact ⟨.bool false, by kernel_rfl, I, rfl, pt21⟩

end Go.Proofs.YtlomgckbmdjmhaaDoor.Sx
