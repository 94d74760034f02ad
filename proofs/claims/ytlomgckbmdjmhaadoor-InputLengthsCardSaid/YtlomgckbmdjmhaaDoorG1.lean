/- Printed walks, part 1: each function's model, and that the code comes to it. -/
import Derived.Test.YtlomgckbmdjmhaaDoorProg
import Derived.Test.YtlomgckbmdjmhaaDoorSxF
import Derived.Test.YtlomgckbmdjmhaaDoorG0
namespace Go.Proofs.YtlomgckbmdjmhaaDoor.Sx
open Go

/-! shutter/input.Write -/
def input_Write.l1.m (K : Nat) (x0 : api_In) (x1 : Int) : Nat → (List Int) → Int → Option ((List Int))
  | 0, _, _ => none
  | k + 1, x73, x80 => (letJ (α := Bool → Option ((List Int))) (fun (x105 : Bool) => (bif x105 then (if 0 ≤ x80 then (if x80 < (x0.Fields.length : Int) then (letJ (α := Bool → Option ((List Int))) (fun (x137 : Bool) => (bif x137 then ((app x73 [17]).bind fun l155 => ((input_place.m K ((at_ x0.Fields x80).Addr) x1).bind fun t172 => ((app l155 t172).bind fun l184 => ((app l184 ((at_ x0.Fields x80).Text)).bind fun l214 => (input_Write.l1.m K x0 x1 k l214 (w64 (x80 + 1))))))) else ((app x73 ((at_ x0.Fields x80).Text)).bind fun l235 => (input_Write.l1.m K x0 x1 k l235 (w64 (x80 + 1)))))) fun (j141 : Bool → Option ((List Int))) => (if (at_ x0.Fields x80).Addr = (-1) then (j141 false) else (j141 true))) else none) else none) else (some (x73)))) fun (j107 : Bool → Option ((List Int))) => (if x80 < (x0.Fields.length : Int) then (j107 true) else (j107 false)))
def input_Write.m (K : Nat) (x0 : api_In) (x1 : Int) : Option ((List Int) × GoErr) :=
  ((input_Right.m K x0 x1).bind fun t13 => (if t13 = GoErr.nil then ((attr_Bare.m x0.Aid).bind fun t37 => bif t37 then (some ([x0.Aid], GoErr.nil)) else ((input_place.m K x0.Cursor x1).bind fun t43 => ((app [x0.Aid] t43).bind fun l55 => ((input_Write.l1.m K x0 x1 K l55 0).bind fun x88 => (if (x88.length : Int) > 8192 then (some ([], (GoErr.no 6))) else (some (x88, GoErr.nil))))))) else (some ([], t13))))

set_option maxRecDepth 100000 in
theorem input_Write.calls {I B : Gh} {h : Heap} {K : Nat} {x0 : api_In} {a1 : Option Addr} {c2 : Nat} {x1 : Int} (hB : Bd I h) (hBB : Bd B h) (r4 : Rd t_api_Entry (Or2 I B) h a1 c2 x0.Fields) {r : ((List Int) × GoErr)}
    (H : input_Write.m K x0 x1 = some r) :
    Ret Tryd.prog 24 #[.agg #[.int .u8 x0.Aid, .int .i64 x0.Cursor, .slice a1 x0.Fields.length c2], .int .i64 x1] h (fun v h' => ∃ (I' : Gh) (a255 : Option Addr) (c256 : Nat) (v260 : Value), .tuple #[.slice a255 r.1.length c256, v260] = v ∧ Pst No I h I' h' ∧ Own (tInt .u8) I' h' a255 c256 r.1 ∧ (∀ b, InA a255 b → No b ∨ h.size ≤ b) ∧ ErrV I' h' r.2 v260) := by
  unfold input_Write.m at H
  refine ret_of (args := [.agg #[.int .u8 x0.Aid, .int .i64 x0.Cursor, .slice a1 x0.Fields.length c2], .int .i64 x1]) (rs := [.tmp 4, .tmp 5]) (N := 57) Tryd.func24 rfl rfl rfl (Nat.le_of_ble_eq_true rfl) ?_
  have pt0 : Pst No I h I h := Pst.refl hB
  refine cwp_seq ?_
  refine cwp_region ?_
  refine lwp_op (by kernel_rfl) (owp_box [.int .u8 x0.Aid, .int .i64 x0.Cursor, .slice a1 x0.Fields.length c2] hB (by kernel_rfl) ?_)
  intro b5 h6 hc7 p8 o9
  have pt10 := pt0.no p8
  have fr11 : No b5 ∨ h.size ≤ b5 := .inr (Nat.le_trans pt0.size hc7)
  refine lwp_run 2 (by kernel_rfl) ?_
  refine lwp_nil ?_
  refine cwp_seq ?_
  refine cwp_seq ?_
  refine cwp_region ?_
  refine lwp_op (by kernel_rfl) (owp_loadN (by kernel_rfl) (by kernel_rfl) (by kernel_rfl) (o9.seg_ 0 3 (Nat.le_of_ble_eq_true rfl)) ?_)
  refine lwp_run 1 (by kernel_rfl) ?_
  have f12 := r4.up (upOr (p8.up hB (fun _ x => x.elim)) (keepB p8 (hBB.mono pt0.size) (fun _ x => x.elim)))
  obtain ⟨t13, m14, H⟩ := bind_some H
  refine lwp_op (by kernel_rfl) (owp_callF (by kernel_rfl) (input_Right.calls (I := I) (B := (Or2 I B)) p8.bd (bdOr p8.bd (hBB.mono pt10.size)) (Rd.mono (I' := Or2 I (Or2 I B)) f12 (fun _ x => Or.inr x)) m14) ?_)
  rintro v15 h16 ⟨I17, v19, rfl, p18, q21⟩
  have pt22 := pt10.no p18
  refine lwp_run 1 (by kernel_rfl) ?_
  refine lwp_nil ?_
  refine cwp_seq ?_
  refine cwp_region ?_
  refine lwp_run 1 (by kernel_rfl) ?_
  rcases q21.cases with ⟨c23, rfl⟩ | ⟨c23, t24, u25, rfl⟩
  · rw [if_pos c23] at H
    refine lwp_run 1 (by kernel_rfl) ?_
    refine lwp_nil ?_
    refine cwp_false (by kernel_rfl) ?_
    refine cwp_skip ?_
    refine cwp_seq ?_
    refine cwp_region ?_
    refine lwp_run 1 (by kernel_rfl) ?_
    have f26 := o9.post p18 (fun x => x.elim)
    refine lwp_op (by kernel_rfl) (owp_load (by kernel_rfl) (by kernel_rfl) (f26.cell (off := 0) rfl) ?_)
    refine lwp_op (by kernel_rfl) (owp_buildSlice (e := 5) [.int .u8 x0.Aid] 1 (.int .u8 0) p18.bd (by kernel_rfl) (by kernel_rfl) (by kernel_rfl) (by kernel_rfl) (by kernel_rfl) ?_)
    intro b27 h28 hc29 p30 o31
    have pt32 := pt22.no p30
    have w33 := o31.own (l := ([x0.Aid] : List Int)) (Reps.int (I := I17) (k := .u8) (l := [x0.Aid]))
    have fw33 := some_nw (M := No) (Nat.le_trans pt22.size hc29)
    have d35 := some_ne (ne_new f26.lt hc29)
    refine lwp_run 1 (by kernel_rfl) ?_
    refine lwp_nil ?_
    refine cwp_seq ?_
    refine cwp_seq ?_
    refine cwp_region ?_
    refine lwp_run 1 (by kernel_rfl) ?_
    have f36 := f26.post p30 (fun x => x.elim)
    refine lwp_op (by kernel_rfl) (owp_load (by kernel_rfl) (by kernel_rfl) (f36.cell (off := 0) rfl) ?_)
    obtain ⟨t37, m38, H⟩ := bind_some H
    refine lwp_op (by kernel_rfl) (owp_callF (by kernel_rfl) (attr_Bare.calls (I := I17) p30.bd m38) ?_)
    rintro v39 h40 ⟨_, rfl, rfl⟩
    cases t37
    · rw [cond_false] at H
      refine lwp_nil ?_
      refine cwp_false (by kernel_rfl) ?_
      refine cwp_skip ?_
      refine cwp_seq ?_
      refine cwp_region ?_
      refine lwp_run 2 (by kernel_rfl) ?_
      refine lwp_op (by kernel_rfl) (owp_load (by kernel_rfl) (by kernel_rfl) (f36.cell (off := 1) rfl) ?_)
      refine lwp_run 1 (by kernel_rfl) ?_
      obtain ⟨t43, m44, H⟩ := bind_some H
      refine lwp_op (by kernel_rfl) (owp_callF (by kernel_rfl) (input_place.calls (I := I17) p30.bd m44) ?_)
      rintro v45 h46 ⟨I47, a49, c50, rfl, p48, r52⟩
      have pt53 := pt32.no p48
      have f54 := w33.post p30.bd p48 (fun _ x => x.elim) (fun _ _ x => x.elim)
      obtain ⟨l55, m56, H⟩ := bind_some H
      refine lwp_op (by kernel_rfl) (owp_app (e := 5) (bytes := 1) (tInt .u8) (by kernel_rfl) (elemOk_of (by kernel_rfl)) rfl rfl p48.bd p48.bd f54 f54.notI (r52.toSl) m56 (by kernel_rfl) (by kernel_rfl) ?_)
      intro a57 c58 h59 p60 o61 fr62
      have pt63 := pt53.own p60 fw33
      have fr65 := nw_step (M := No) (n := h.size) fw33 fr62 pt53.size
      have f66 := f36.post p48 (fun x => x.elim)
      have d67 := step_blk fr62 f66.lt d35
      refine lwp_run 1 (by kernel_rfl) ?_
      refine lwp_nil ?_
      refine cwp_seq ?_
      refine cwp_seq ?_
      refine cwp_region ?_
      refine lwp_run 1 (by kernel_rfl) ?_
      have f68 := f36.post p48 (fun x => x.elim)
      have f69 := f68.post p60 d35
      refine lwp_op (by kernel_rfl) (owp_load (by kernel_rfl) (by kernel_rfl) (f69.cell (off := 2) rfl) ?_)
      refine lwp_run 2 (by kernel_rfl) ?_
      refine lwp_nil ?_
      refine cwp_block ?_
      have f250 := f12.up (upOr (p18.up p8.bd (fun _ x => x.elim)) (keepB p18 (hBB.mono pt10.size) (fun _ x => x.elim)))
      have f251 := f250.up (upOr (p30.up p18.bd (fun _ x => x.elim)) (keepB p30 (hBB.mono pt22.size) (fun _ x => x.elim)))
      have f252 := f251.up (upOr (p48.up p30.bd (fun _ x => x.elim)) (keepB p48 (hBB.mono pt32.size) (fun _ x => x.elim)))
      have f253 := f252.up (upOr (p60.up p48.bd f54.notI) (keepB p60 (hBB.mono pt53.size) (nwB fw33 (fun _ x => x.elim) hBB)))
      obtain ⟨s84, m97, HR98⟩ := bind_some H
      refine cwp_loopE 0 (fun ρ' h85 => ∃ (x88 : List Int) (a89 : Option Addr) (c90 : Nat) (I86 : Gh), x88 = s84 ∧ Fits [(7, .slice a89 x88.length c90)] ρ' ∧ Pst No I h I86 h85 ∧ OwnX (tInt .u8) I86 I86 h85 a89 c90 x88 ∧ (∀ b, InA a89 b → No b ∨ h.size ≤ b) ∧ Rd t_api_Entry (Or2 I86 B) h85 a1 c2 x0.Fields ∧ OwnB I86 h85 b5 [.int .u8 x0.Aid, .int .i64 x0.Cursor, .slice a1 x0.Fields.length c2] 51 ∧ ¬ InA a89 b5) ?_ ?_
      · refine cwp_loop (fun k' ρ' h70 => ∃ (x73 : List Int) (x80 : Int) (a74 : Option Addr) (c75 : Nat) (I71 : Gh), input_Write.l1.m K x0 x1 k' x73 x80 = some s84 ∧ Fits [(1, .int .i64 x1), (7, .slice a74 x73.length c75), (30, .slice a1 x0.Fields.length c2), (31, .int .i64 (x0.Fields.length : Int)), (32, .int .i64 x80)] ρ' ∧ Pst No I h I71 h70 ∧ OwnX (tInt .u8) I71 I71 h70 a74 c75 x73 ∧ (∀ b, InA a74 b → No b ∨ h.size ≤ b) ∧ Rd t_api_Entry (Or2 I71 B) h70 a1 c2 x0.Fields ∧ OwnB I71 h70 b5 [.int .u8 x0.Aid, .int .i64 x0.Cursor, .slice a1 x0.Fields.length c2] 51 ∧ ¬ InA a74 b5) K ⟨l55, 0, a57, c58, I47, m97, ⟨by kernel_rfl, by kernel_rfl, by kernel_rfl, by kernel_rfl, by kernel_rfl, trivial⟩, pt63, o61, fr65, f253, f69, d67⟩ ?_
        clear m97
        rintro k' ρ' h70 ⟨x73, x80, a74, c75, I71, H, hf, pt72, r76, fr78, r79, o81, d82⟩
        cases k' with
        | zero => cases H
        | succ k =>
          rw [input_Write.l1.m] at H
          refine cwp_fits _ hf ?_
          obtain ⟨j107, e249, H⟩ := letJ_some H
          refine cwp_join (fun ρ' h100 => ∃ (x105 : Bool) (I101 : Gh), j107 x105 = some s84 ∧ Fits [(1, .int .i64 x1), (7, .slice a74 x73.length c75), (30, .slice a1 x0.Fields.length c2), (31, .int .i64 (x0.Fields.length : Int)), (32, .int .i64 x80), (33, .bool x105)] ρ' ∧ Pst No I h I101 h100 ∧ OwnX (tInt .u8) I101 I101 h100 a74 c75 x73 ∧ Rd t_api_Entry (Or2 I101 B) h100 a1 c2 x0.Fields ∧ OwnB I101 h100 b5 [.int .u8 x0.Aid, .int .i64 x0.Cursor, .slice a1 x0.Fields.length c2] 51) ?_ ?_
          · refine cwp_region ?_
            by_cases c99 : x80 < (x0.Fields.length : Int)
            · rw [if_pos c99] at H
              refine lwp_op (by kernel_rfl) (owp_pure ((.bool true)) (pr_bool (by kernel_rfl) (decide_eq_true c99)) ?_)
              refine lwp_nil ?_
              exact ⟨true, I71, H, ⟨by kernel_rfl, by kernel_rfl, by kernel_rfl, by kernel_rfl, by kernel_rfl, by kernel_rfl, trivial⟩, pt72, r76, r79, o81⟩
            · rw [if_neg c99] at H
              refine lwp_op (by kernel_rfl) (owp_pure ((.bool false)) (pr_bool (by kernel_rfl) (decide_eq_false c99)) ?_)
              refine lwp_nil ?_
              exact ⟨false, I71, H, ⟨by kernel_rfl, by kernel_rfl, by kernel_rfl, by kernel_rfl, by kernel_rfl, by kernel_rfl, trivial⟩, pt72, r76, r79, o81⟩
          · clear H
            rintro ρ' h100 ⟨x105, I101, H, hf, pt102, r103, r104, o106⟩
            refine cwp_fits _ hf ?_
            subst e249
            try dsimp only at H
            refine cwp_seq ?_
            cases x105
            · rw [cond_false] at H
              refine cwp_false (by kernel_rfl) ?_
              refine cwp_exit ?_
              obtain rfl := Option.some.inj H
              show Exists _
              exact ⟨x73, a74, c75, I101, rfl, ⟨by kernel_rfl, trivial⟩, pt102, r103, fr78, r104, o106, d82⟩
            · rw [cond_true] at H
              refine cwp_true (by kernel_rfl) ?_
              refine cwp_skip ?_
              refine cwp_seq ?_
              refine cwp_block ?_
              refine cwp_seq ?_
              refine cwp_region ?_
              obtain ⟨c108, H⟩ := guard_pos H
              obtain ⟨c109, H⟩ := guard_pos H
              have hs110 := (r104.toSl).isSome c108 c109
              refine lwp_op (by kernel_rfl) (owp_pure (elemPtr a1 (x80.toNat * 2)) (pr_indexElem (e := 62) (r104.toSl) (k := .i64) (by kernel_rfl) (by kernel_rfl) (by kernel_rfl) (by kernel_rfl) c108 c109) ?_)
              obtain ⟨cs111, hs112, rp113⟩ := (r104.toSl).seg c108 c109
              obtain ⟨a114, c115, rfl, r117⟩ := t_api_Entry.open_ rp113
              refine lwp_op (by kernel_rfl) (owp_loadN (by kernel_rfl) (by kernel_rfl) (by kernel_rfl) hs112 ?_)
              refine lwp_op (by kernel_rfl) (owp_alloc [.int .i64 0, .slice none 0 0] (.agg #[.int .i64 0, .slice none 0 0]) pt102.bd (by kernel_rfl) (by kernel_rfl) ?_)
              intro b118 h119 hc120 p121 o122
              have pt123 := pt102.no p121
              have fr124 : No b118 ∨ h.size ≤ b118 := .inr (Nat.le_trans pt102.size hc120)
              have d125 := ne_new o106.lt hc120
              have d126 := notIn_new r103.lt hc120
              refine lwp_op (by kernel_rfl) (owp_storeN 0 [.int .i64 ((at_ x0.Fields x80).Addr), .slice a114 (((at_ x0.Fields x80).Text).length) c115] p121.bd o122 (by kernel_rfl) (by kernel_rfl) (by simp [Value.oneCell']) (by kernel_rfl) (Nat.le_of_ble_eq_true rfl) ?_)
              intro h127 p128 o129
              have pt130 := pt123.own p128 (one_nw fr124)
              refine lwp_nil ?_
              refine cwp_seq ?_
              obtain ⟨j141, e248, H⟩ := letJ_some H
              refine cwp_join (fun ρ' h132 => ∃ (x137 : Bool) (I133 : Gh), j141 x137 = some s84 ∧ Fits [(1, .int .i64 x1), (7, .slice a74 x73.length c75), (9, .pointer (some ⟨b118, 0, none⟩)), (30, .slice a1 x0.Fields.length c2), (31, .int .i64 (x0.Fields.length : Int)), (32, .int .i64 x80), (38, .bool x137)] ρ' ∧ Pst No I h I133 h132 ∧ OwnX (tInt .u8) I133 I133 h132 a74 c75 x73 ∧ Rd t_api_Entry (Or2 I133 B) h132 a1 c2 x0.Fields ∧ OwnB I133 h132 b5 [.int .u8 x0.Aid, .int .i64 x0.Cursor, .slice a1 x0.Fields.length c2] 51 ∧ Rd (tInt .u8) (Or2 I133 B) h132 a114 c115 ((at_ x0.Fields x80).Text) ∧ OwnB I133 h132 b118 [.int .i64 ((at_ x0.Fields x80).Addr), .slice a114 (((at_ x0.Fields x80).Text).length) c115] 62) ?_ ?_
              · refine cwp_region ?_
                refine lwp_run 1 (by kernel_rfl) ?_
                refine lwp_op (by kernel_rfl) (owp_load (by kernel_rfl) (by kernel_rfl) (o129.cell (off := 0) rfl) ?_)
                by_cases c131 : (at_ x0.Fields x80).Addr = (-1)
                · rw [if_pos c131] at H
                  refine lwp_op (by kernel_rfl) (owp_pure ((.bool false)) (pr_bool (by kernel_rfl) (neF c131)) ?_)
                  refine lwp_nil ?_
                  have f100029 := r103.post pt102.bd p121 (fun _ x => x.elim) (fun _ _ x => x.elim)
                  have f100030 := f100029.post p121.bd p128 (one_not o122.no) (dis_one d126)
                  have f100031 := r104.up (upOr (p121.up pt102.bd (fun _ x => x.elim)) (keepB p121 (hBB.mono pt102.size) (fun _ x => x.elim)))
                  have f100032 := f100031.up (upOr (p128.up p121.bd (one_not o122.no)) (keepB p128 (hBB.mono pt123.size) (nwB (one_nw fr124) (fun _ x => x.elim) hBB)))
                  have f100033 := o106.post p121 (fun x => x.elim)
                  have f100034 := f100033.post p128 (fun e => d125 e.symm)
                  have f100035 := r117.up (upOr (p121.up pt102.bd (fun _ x => x.elim)) (keepB p121 (hBB.mono pt102.size) (fun _ x => x.elim)))
                  have f100036 := f100035.up (upOr (p128.up p121.bd (one_not o122.no)) (keepB p128 (hBB.mono pt123.size) (nwB (one_nw fr124) (fun _ x => x.elim) hBB)))
                  exact ⟨false, I101, H, ⟨by kernel_rfl, by kernel_rfl, by kernel_rfl, by kernel_rfl, by kernel_rfl, by kernel_rfl, by kernel_rfl, trivial⟩, pt130, f100030, f100032, f100034, f100036, o129⟩
                · rw [if_neg c131] at H
                  refine lwp_op (by kernel_rfl) (owp_pure ((.bool true)) (pr_bool (by kernel_rfl) (neT c131)) ?_)
                  refine lwp_nil ?_
                  have f100037 := r103.post pt102.bd p121 (fun _ x => x.elim) (fun _ _ x => x.elim)
                  have f100038 := f100037.post p121.bd p128 (one_not o122.no) (dis_one d126)
                  have f100039 := r104.up (upOr (p121.up pt102.bd (fun _ x => x.elim)) (keepB p121 (hBB.mono pt102.size) (fun _ x => x.elim)))
                  have f100040 := f100039.up (upOr (p128.up p121.bd (one_not o122.no)) (keepB p128 (hBB.mono pt123.size) (nwB (one_nw fr124) (fun _ x => x.elim) hBB)))
                  have f100041 := o106.post p121 (fun x => x.elim)
                  have f100042 := f100041.post p128 (fun e => d125 e.symm)
                  have f100043 := r117.up (upOr (p121.up pt102.bd (fun _ x => x.elim)) (keepB p121 (hBB.mono pt102.size) (fun _ x => x.elim)))
                  have f100044 := f100043.up (upOr (p128.up p121.bd (one_not o122.no)) (keepB p128 (hBB.mono pt123.size) (nwB (one_nw fr124) (fun _ x => x.elim) hBB)))
                  exact ⟨true, I101, H, ⟨by kernel_rfl, by kernel_rfl, by kernel_rfl, by kernel_rfl, by kernel_rfl, by kernel_rfl, by kernel_rfl, trivial⟩, pt130, f100038, f100040, f100042, f100044, o129⟩
              · clear H
                rintro ρ' h132 ⟨x137, I133, H, hf, pt134, r135, r136, o138, r139, o140⟩
                refine cwp_fits _ hf ?_
                subst e248
                try dsimp only at H
                cases x137
                · rw [cond_false] at H
                  refine cwp_false (by kernel_rfl) ?_
                  refine cwp_skip ?_
                  refine cwp_region ?_
                  refine lwp_run 2 (by kernel_rfl) ?_
                  refine lwp_op (by kernel_rfl) (owp_load (by kernel_rfl) (by kernel_rfl) (o140.cell (off := 1) rfl) ?_)
                  obtain ⟨l235, m236, H⟩ := bind_some H
                  refine lwp_op (by kernel_rfl) (owp_app (e := 5) (bytes := 1) (tInt .u8) (by kernel_rfl) (elemOk_of (by kernel_rfl)) rfl rfl pt134.bd pt134.bd r135 r135.notI ((Sl.flat (I' := I133) (r139.toSl) flat_int)) m236 (by kernel_rfl) (by kernel_rfl) ?_)
                  intro a237 c238 h239 p240 o241 fr242
                  have pt243 := pt134.own p240 fr78
                  have fr245 := nw_step (M := No) (n := h.size) fr78 fr242 pt134.size
                  have d246 := step_blk fr242 o138.lt d82
                  have d247 := step_blk fr242 o140.lt d126
                  refine lwp_run 1 (by kernel_rfl) ?_
                  refine lwp_nil ?_
                  refine cwp_region ?_
                  refine lwp_run 2 (by kernel_rfl) ?_
                  refine lwp_nil ?_
                  have f100027 := r136.up (upOr (p240.up pt134.bd r135.notI) (keepB p240 (hBB.mono pt134.size) (nwB fr78 (fun _ x => x.elim) hBB)))
                  have f100028 := o138.post p240 d82
                  show Exists _
                  exact ⟨k, Nat.lt_succ_self _, l235, (w64 (x80 + 1)), a237, c238, I133, H, ⟨by kernel_rfl, by kernel_rfl, by kernel_rfl, by kernel_rfl, by kernel_rfl, trivial⟩, pt243, o241, fr245, f100027, f100028, d246⟩
                · rw [cond_true] at H
                  refine cwp_true (by kernel_rfl) ?_
                  refine cwp_regionD (Keep (InA a74) h132) 6 (by kernel_rfl) ?_
                  refine awp_run (fuel := 7) [0, 3] Keep.refl (by kernel_rfl) ?_
                  refine awp_load 4 rfl (by kernel_rfl) (by kernel_rfl) (by kernel_rfl) (by kernel_rfl) Keep.refl (o140.cell (off := 0) rfl) (some_not d126) ?_
                  refine awp_run (fuel := 5) [5] Keep.refl (by kernel_rfl) ?_
                  refine awp_op 1 (by kernel_rfl) rfl (by kernel_rfl) (owp_buildSlice (e := 5) [.int .u8 17] 1 (.int .u8 0) pt134.bd (by kernel_rfl) (by kernel_rfl) (by kernel_rfl) (by kernel_rfl) (by kernel_rfl) ?_)
                  intro b142 h143 hc144 p145 o146
                  have pt147 := pt134.no p145
                  have w148 := o146.own (l := ([17] : List Int)) (Reps.int (I := I133) (k := .u8) (l := [17]))
                  have fw148 := some_nw (M := No) (Nat.le_trans pt134.size hc144)
                  have d150 := some_ne (ne_new o138.lt hc144)
                  have d151 := some_ne (ne_new o140.lt hc144)
                  have d152 := some_notIn (notIn_new r135.lt hc144)
                  have hK153 := Keep.post (M := (InA a74)) Keep.refl (Nat.le_refl _) p145 (fun _ x => x.elim)
                  refine ⟨hK153, ?_⟩
                  have f154 := r135.post pt134.bd p145 (fun _ x => x.elim) (fun _ _ x => x.elim)
                  obtain ⟨l155, m156, H⟩ := bind_some H
                  refine awp_op 2 (by kernel_rfl) rfl (by kernel_rfl) (owp_app (e := 5) (bytes := 1) (tInt .u8) (by kernel_rfl) (elemOk_of (by kernel_rfl)) rfl rfl p145.bd p145.bd f154 f154.notI (w148.toSl) m156 (by kernel_rfl) (by kernel_rfl) ?_)
                  intro a157 c158 h159 p160 o161 fr162
                  have pt163 := pt147.own p160 fr78
                  have fr165 := nw_step (M := No) (n := h.size) fr78 fr162 pt147.size
                  have f166 := o138.post p145 (fun x => x.elim)
                  have d167 := step_blk fr162 f166.lt d82
                  have f168 := o140.post p145 (fun x => x.elim)
                  have d169 := step_blk fr162 f168.lt d126
                  have d170 := step_sl fr162 w148.lt d152
                  have hK171 := Keep.post (M := (InA a74)) hK153 (Nat.le_trans (Nat.le_refl _) p145.size) p160 (fun b x => .inl x)
                  refine ⟨hK171, ?_⟩
                  obtain ⟨t172, m173, H⟩ := bind_some H
                  refine awp_opL 6 (by kernel_rfl) (by kernel_rfl) rfl (by kernel_rfl) (owp_callF (by kernel_rfl) (input_place.calls (I := I133) p160.bd m173) ?_)
                  rintro v174 h175 ⟨I176, a178, c179, rfl, p177, r181⟩
                  have pt182 := pt163.no p177
                  have f183 := o161.post p160.bd p177 (fun _ x => x.elim) (fun _ _ x => x.elim)
                  obtain ⟨l184, m185, H⟩ := bind_some H
                  refine awp_opL 7 (by kernel_rfl) (by kernel_rfl) rfl (by kernel_rfl) (owp_app (e := 5) (bytes := 1) (tInt .u8) (by kernel_rfl) (elemOk_of (by kernel_rfl)) rfl rfl p177.bd p177.bd f183 f183.notI (r181.toSl) m185 (by kernel_rfl) (by kernel_rfl) ?_)
                  intro a186 c187 h188 p189 o190 fr191
                  have pt192 := pt182.own p189 fr165
                  have fr194 := nw_step (M := No) (n := h.size) fr165 fr191 pt182.size
                  have f195 := o138.post p145 (fun x => x.elim)
                  have f196 := f195.post p160 d82
                  have f197 := f196.post p177 (fun x => x.elim)
                  have d198 := step_blk fr191 f197.lt d167
                  have f199 := o140.post p145 (fun x => x.elim)
                  have f200 := f199.post p160 d126
                  have f201 := f200.post p177 (fun x => x.elim)
                  have d202 := step_blk fr191 f201.lt d169
                  have f203 := w148.post p145.bd p160 f154.notI d152
                  have f204 := f203.post p160.bd p177 (fun _ x => x.elim) (fun _ _ x => x.elim)
                  have d205 := step_sl fr191 f204.lt (flipD d170)
                  refine awp_opL 8 (by kernel_rfl) (by kernel_rfl) rfl (by kernel_rfl) (owp_pure ((.slice a186 l184.length c187)) (by kernel_rfl) ?_)
                  refine awp_nil (by kernel_rfl) ?_ 0
                  refine cwp_region ?_
                  refine lwp_run 2 (by kernel_rfl) ?_
                  have f206 := o140.post p145 (fun x => x.elim)
                  have f207 := f206.post p160 d126
                  have f208 := f207.post p177 (fun x => x.elim)
                  have f209 := f208.post p189 d169
                  refine lwp_op (by kernel_rfl) (owp_load (by kernel_rfl) (by kernel_rfl) (f209.cell (off := 1) rfl) ?_)
                  have f210 := r139.up (upOr (p145.up pt134.bd (fun _ x => x.elim)) (keepB p145 (hBB.mono pt134.size) (fun _ x => x.elim)))
                  have f211 := f210.up (upOr (p160.up p145.bd f154.notI) (keepB p160 (hBB.mono pt147.size) (nwB fr78 (fun _ x => x.elim) hBB)))
                  have f212 := f211.up (upOr (p177.up p160.bd (fun _ x => x.elim)) (keepB p177 (hBB.mono pt163.size) (fun _ x => x.elim)))
                  have f213 := f212.up (upOr (p189.up p177.bd f183.notI) (keepB p189 (hBB.mono pt182.size) (nwB fr165 (fun _ x => x.elim) hBB)))
                  obtain ⟨l214, m215, H⟩ := bind_some H
                  refine lwp_op (by kernel_rfl) (owp_app (e := 5) (bytes := 1) (tInt .u8) (by kernel_rfl) (elemOk_of (by kernel_rfl)) rfl rfl p189.bd p189.bd o190 o190.notI ((Sl.flat (I' := I176) (f213.toSl) flat_int)) m215 (by kernel_rfl) (by kernel_rfl) ?_)
                  intro a216 c217 h218 p219 o220 fr221
                  have pt222 := pt192.own p219 fr194
                  have fr224 := nw_step (M := No) (n := h.size) fr194 fr221 pt192.size
                  have f225 := o138.post p145 (fun x => x.elim)
                  have f226 := f225.post p160 d82
                  have f227 := f226.post p177 (fun x => x.elim)
                  have f228 := f227.post p189 d167
                  have d229 := step_blk fr221 f228.lt d198
                  have d230 := step_blk fr221 f209.lt d202
                  have f231 := w148.post p145.bd p160 f154.notI d152
                  have f232 := f231.post p160.bd p177 (fun _ x => x.elim) (fun _ _ x => x.elim)
                  have f233 := f232.post p177.bd p189 f183.notI (flipD d170)
                  have d234 := step_sl fr221 f233.lt (flipD d205)
                  refine lwp_run 1 (by kernel_rfl) ?_
                  refine lwp_nil ?_
                  refine cwp_region ?_
                  refine lwp_run 2 (by kernel_rfl) ?_
                  refine lwp_nil ?_
                  have f100017 := r136.up (upOr (p145.up pt134.bd (fun _ x => x.elim)) (keepB p145 (hBB.mono pt134.size) (fun _ x => x.elim)))
                  have f100018 := f100017.up (upOr (p160.up p145.bd f154.notI) (keepB p160 (hBB.mono pt147.size) (nwB fr78 (fun _ x => x.elim) hBB)))
                  have f100019 := f100018.up (upOr (p177.up p160.bd (fun _ x => x.elim)) (keepB p177 (hBB.mono pt163.size) (fun _ x => x.elim)))
                  have f100020 := f100019.up (upOr (p189.up p177.bd f183.notI) (keepB p189 (hBB.mono pt182.size) (nwB fr165 (fun _ x => x.elim) hBB)))
                  have f100021 := f100020.up (upOr (p219.up p189.bd o190.notI) (keepB p219 (hBB.mono pt192.size) (nwB fr194 (fun _ x => x.elim) hBB)))
                  have f100022 := o138.post p145 (fun x => x.elim)
                  have f100023 := f100022.post p160 d82
                  have f100024 := f100023.post p177 (fun x => x.elim)
                  have f100025 := f100024.post p189 d167
                  have f100026 := f100025.post p219 d198
                  show Exists _
                  exact ⟨k, Nat.lt_succ_self _, l214, (w64 (x80 + 1)), a216, c217, I176, H, ⟨by kernel_rfl, by kernel_rfl, by kernel_rfl, by kernel_rfl, by kernel_rfl, trivial⟩, pt222, o220, fr224, f100021, f100026, d229⟩
      · rintro ρ' h85 ⟨x88, a89, c90, I86, rfl, hf, pt87, r91, fr93, r94, o95, d96⟩
        have H := HR98
        try dsimp only at H
        refine cwp_fits _ hf ?_
        refine cwp_seq ?_
        refine cwp_seq ?_
        refine cwp_region ?_
        refine lwp_run 2 (by kernel_rfl) ?_
        by_cases c254 : (x88.length : Int) > 8192
        · rw [if_pos c254] at H
          refine lwp_op (by kernel_rfl) (owp_pure ((.bool true)) (pr_bool (by kernel_rfl) (decide_eq_true c254)) ?_)
          refine lwp_nil ?_
          refine cwp_true (by kernel_rfl) ?_
          refine cwp_seq ?_
          refine cwp_region ?_
          refine lwp_run 3 (by kernel_rfl) ?_
          refine lwp_nil ?_
          refine cwp_ret ?_
          obtain rfl := Option.some.inj H
          show Exists _
          exact ⟨.tuple #[.slice none 0 0, .iface 97 (.int .i64 6)], by kernel_rfl, I86, none, 0, (.iface 97 (.int .i64 6)), rfl, pt87, (own_nil (tInt .u8) I86 I86 h85), none_nw, (show ErrV I86 h85 (GoErr.no 6) (.iface 97 (.int .i64 6)) from rfl)⟩
        · rw [if_neg c254] at H
          refine lwp_op (by kernel_rfl) (owp_pure ((.bool false)) (pr_bool (by kernel_rfl) (decide_eq_false c254)) ?_)
          refine lwp_nil ?_
          refine cwp_false (by kernel_rfl) ?_
          refine cwp_skip ?_
          refine cwp_seq ?_
          refine cwp_region ?_
          refine lwp_run 3 (by kernel_rfl) ?_
          refine lwp_nil ?_
          refine cwp_ret ?_
          obtain rfl := Option.some.inj H
          show Exists _
          exact ⟨.tuple #[.slice a89 x88.length c90, .nilIface], by kernel_rfl, I86, a89, c90, (.nilIface), rfl, pt87, r91, fr93, (show ErrV I86 h85 GoErr.nil .nilIface from rfl)⟩
    · rw [cond_true] at H
      refine lwp_nil ?_
      refine cwp_true (by kernel_rfl) ?_
      refine cwp_seq ?_
      refine cwp_region ?_
      refine lwp_run 3 (by kernel_rfl) ?_
      refine lwp_nil ?_
      refine cwp_ret ?_
      obtain rfl := Option.some.inj H
      show Exists _
      exact ⟨.tuple #[.slice (some ⟨b27, 0, none⟩) ([x0.Aid].length) 1, .nilIface], by kernel_rfl, I17, (some ⟨b27, 0, none⟩), 1, (.nilIface), rfl, pt32, w33, fw33, (show ErrV I17 h28 GoErr.nil .nilIface from rfl)⟩
  · rw [if_neg c23] at H
    refine lwp_run 1 (by kernel_rfl) ?_
    refine lwp_nil ?_
    refine cwp_true (by kernel_rfl) ?_
    refine cwp_seq ?_
    refine cwp_region ?_
    refine lwp_run 3 (by kernel_rfl) ?_
    refine lwp_nil ?_
    refine cwp_ret ?_
    obtain rfl := Option.some.inj H
    show Exists _
    exact ⟨.tuple #[.slice none 0 0, (.iface t24 u25)], by kernel_rfl, I17, none, 0, ((.iface t24 u25)), rfl, pt22, (own_nil (tInt .u8) I17 I17 h16), none_nw, q21⟩

/-! slices.Equal[[]byte,byte] -/
def slices_Equal_bytes.l1.m (K : Nat) (x0 : (List Int)) (x1 : (List Int)) : Nat → Int → Option (Bool ⊕ (Unit))
  | 0, _ => none
  | k + 1, x13 => (letJ (α := Bool → Option (Bool ⊕ (Unit))) (fun (x25 : Bool) => (bif x25 then (if 0 ≤ x13 then (if x13 < (x0.length : Int) then (if x13 < (x1.length : Int) then (if (at_ x0 x13) = (at_ x1 x13) then (slices_Equal_bytes.l1.m K x0 x1 k (w64 (x13 + 1))) else (some (Sum.inl false))) else none) else none) else none) else (some (Sum.inr ())))) fun (j26 : Bool → Option (Bool ⊕ (Unit))) => (if x13 < (x0.length : Int) then (j26 true) else (j26 false)))
def slices_Equal_bytes.m (K : Nat) (x0 : (List Int)) (x1 : (List Int)) : Option Bool :=
  (if (x0.length : Int) = (x1.length : Int) then ((slices_Equal_bytes.l1.m K x0 x1 K 0).bind fun s15 => match s15 with | .inl q => (some q) | .inr _ => (some true)) else (some false))

set_option maxRecDepth 100000 in
theorem slices_Equal_bytes.calls {I : Gh} {h : Heap} {K : Nat} {x0 : List Int} {a1 : Option Addr} {c2 : Nat} {x1 : List Int} {a5 : Option Addr} {c6 : Nat} (_hB : Bd I h) (r4 : Rd (tInt .u8) I h a1 c2 x0) (r8 : Rd (tInt .u8) I h a5 c6 x1) {r : Bool}
    (H : slices_Equal_bytes.m K x0 x1 = some r) :
    Ret Tryd.prog 50 #[.slice a1 x0.length c2, .slice a5 x1.length c6] h (fun v h' => ∃ _ : Unit, .bool r = v ∧ h = h') := by
  unfold slices_Equal_bytes.m at H
  refine ret_of (args := [.slice a1 x0.length c2, .slice a5 x1.length c6]) (rs := [.tmp 4]) (N := 26) Tryd.func50 rfl rfl rfl (Nat.le_of_ble_eq_true rfl) ?_
  refine cwp_seq ?_
  refine cwp_region ?_
  refine lwp_run 1 (by kernel_rfl) ?_
  refine lwp_nil ?_
  refine cwp_seq ?_
  refine cwp_seq ?_
  refine cwp_region ?_
  refine lwp_run 4 (by kernel_rfl) ?_
  by_cases c9 : (x0.length : Int) = (x1.length : Int)
  · rw [if_pos c9] at H
    refine lwp_op (by kernel_rfl) (owp_pure ((.bool false)) (pr_bool (by kernel_rfl) (neF c9)) ?_)
    refine lwp_nil ?_
    refine cwp_false (by kernel_rfl) ?_
    refine cwp_skip ?_
    refine cwp_seq ?_
    refine cwp_seq ?_
    refine cwp_region ?_
    refine lwp_run 3 (by kernel_rfl) ?_
    refine lwp_nil ?_
    refine cwp_block ?_
    obtain ⟨s15, m19, HR20⟩ := bind_some H
    refine cwp_loopE 0 (fun ρ' h16 => ∃ (_ : Unit), Sum.inr () = s15 ∧ Fits [] ρ' ∧ h = h16) ?_ ?_
    · refine cwp_loop (fun k' ρ' h10 => ∃ (x13 : Int) (_ : Unit), slices_Equal_bytes.l1.m K x0 x1 k' x13 = some s15 ∧ Fits [(0, .slice a1 x0.length c2), (1, .slice a5 x1.length c6), (12, .int .i64 (x0.length : Int)), (13, .int .i64 x13)] ρ' ∧ h = h10) K ⟨0, (), m19, ⟨by kernel_rfl, by kernel_rfl, by kernel_rfl, by kernel_rfl, trivial⟩, rfl⟩ ?_
      clear m19
      rintro k' ρ' h10 ⟨x13, _, H, hf, rfl⟩
      cases k' with
      | zero => cases H
      | succ k =>
        rw [slices_Equal_bytes.l1.m] at H
        refine cwp_fits _ hf ?_
        obtain ⟨j26, e39, H⟩ := letJ_some H
        refine cwp_join (fun ρ' h22 => ∃ (x25 : Bool) (_ : Unit), j26 x25 = some s15 ∧ Fits [(0, .slice a1 x0.length c2), (1, .slice a5 x1.length c6), (12, .int .i64 (x0.length : Int)), (13, .int .i64 x13), (14, .bool x25)] ρ' ∧ h = h22) ?_ ?_
        · refine cwp_region ?_
          by_cases c21 : x13 < (x0.length : Int)
          · rw [if_pos c21] at H
            refine lwp_op (by kernel_rfl) (owp_pure ((.bool true)) (pr_bool (by kernel_rfl) (decide_eq_true c21)) ?_)
            refine lwp_nil ?_
            exact ⟨true, (), H, ⟨by kernel_rfl, by kernel_rfl, by kernel_rfl, by kernel_rfl, by kernel_rfl, trivial⟩, rfl⟩
          · rw [if_neg c21] at H
            refine lwp_op (by kernel_rfl) (owp_pure ((.bool false)) (pr_bool (by kernel_rfl) (decide_eq_false c21)) ?_)
            refine lwp_nil ?_
            exact ⟨false, (), H, ⟨by kernel_rfl, by kernel_rfl, by kernel_rfl, by kernel_rfl, by kernel_rfl, trivial⟩, rfl⟩
        · clear H
          rintro ρ' h22 ⟨x25, _, H, hf, rfl⟩
          refine cwp_fits _ hf ?_
          subst e39
          try dsimp only at H
          refine cwp_seq ?_
          cases x25
          · rw [cond_false] at H
            refine cwp_false (by kernel_rfl) ?_
            refine cwp_exit ?_
            obtain rfl := Option.some.inj H
            show Exists _
            exact ⟨(), rfl, trivial, rfl⟩
          · rw [cond_true] at H
            refine cwp_true (by kernel_rfl) ?_
            refine cwp_skip ?_
            refine cwp_seq ?_
            refine cwp_block ?_
            refine cwp_seq ?_
            refine cwp_region ?_
            refine lwp_run 2 (by kernel_rfl) ?_
            refine lwp_nil ?_
            refine cwp_seq ?_
            refine cwp_regionD (Keep No h) 9 (by kernel_rfl) ?_
            obtain ⟨c27, H⟩ := guard_pos H
            obtain ⟨c28, H⟩ := guard_pos H
            refine awp_run (fuel := 7) [0, 1] Keep.refl (by kernel_rfl) ?_
            have hs29 := (r4.toSl).isSome c27 c28
            refine awp_pure 2 (elemPtr a1 (x13.toNat * 1)) rfl (by kernel_rfl) (by kernel_rfl) (pr_indexElem (e := 5) (r4.toSl) (k := .i64) (by kernel_rfl) (by kernel_rfl) (by kernel_rfl) (by kernel_rfl) c27 c28) Keep.refl ?_
            obtain ⟨cs30, hs31, rp32⟩ := (r4.toSl).seg c27 c28
            obtain rfl := rep_int rp32
            refine awp_load 3 rfl (by kernel_rfl) (by kernel_rfl) (by kernel_rfl) (by kernel_rfl) Keep.refl (seg_cell (f := 0) hs31 rfl) (fun _ _ x => x.elim) ?_
            obtain ⟨c33, H⟩ := guard_pos H
            refine awp_run (fuel := 3) [4, 5] Keep.refl (by kernel_rfl) ?_
            have hs34 := (r8.toSl).isSome c27 c33
            refine awp_pure 6 (elemPtr a5 (x13.toNat * 1)) rfl (by kernel_rfl) (by kernel_rfl) (pr_indexElem (e := 5) (r8.toSl) (k := .i64) (by kernel_rfl) (by kernel_rfl) (by kernel_rfl) (by kernel_rfl) c27 c33) Keep.refl ?_
            obtain ⟨cs35, hs36, rp37⟩ := (r8.toSl).seg c27 c33
            obtain rfl := rep_int rp37
            refine awp_load 7 rfl (by kernel_rfl) (by kernel_rfl) (by kernel_rfl) (by kernel_rfl) Keep.refl (seg_cell (f := 0) hs36 rfl) (fun _ _ x => x.elim) ?_
            by_cases c38 : (at_ x0 x13) = (at_ x1 x13)
            · rw [if_pos c38] at H
              refine awp_pure 8 ((.bool false)) rfl (by kernel_rfl) (by kernel_rfl) (pr_bool (by kernel_rfl) (neF c38)) Keep.refl ?_
              refine awp_nil (by kernel_rfl) ?_ 0
              refine cwp_false (by kernel_rfl) ?_
              refine cwp_skip ?_
              refine cwp_region ?_
              refine lwp_run 2 (by kernel_rfl) ?_
              refine lwp_nil ?_
              show Exists _
              exact ⟨k, Nat.lt_succ_self _, (w64 (x13 + 1)), (), H, ⟨by kernel_rfl, by kernel_rfl, by kernel_rfl, by kernel_rfl, trivial⟩, rfl⟩
            · rw [if_neg c38] at H
              refine awp_pure 8 ((.bool true)) rfl (by kernel_rfl) (by kernel_rfl) (pr_bool (by kernel_rfl) (neT c38)) Keep.refl ?_
              refine awp_nil (by kernel_rfl) ?_ 0
              refine cwp_true (by kernel_rfl) ?_
              refine cwp_seq ?_
              refine cwp_region ?_
              refine lwp_run 1 (by kernel_rfl) ?_
              refine lwp_nil ?_
              refine cwp_ret ?_
              obtain rfl := Option.some.inj H
              obtain rfl := Option.some.inj HR20
              show Exists _
              exact ⟨.bool false, by kernel_rfl, (), rfl, rfl⟩
    · rintro ρ' h16 ⟨_, rfl, hf, rfl⟩
      have H := HR20
      try dsimp only at H
      refine cwp_fits _ hf ?_
      refine cwp_seq ?_
      refine cwp_region ?_
      refine lwp_run 1 (by kernel_rfl) ?_
      refine lwp_nil ?_
      refine cwp_ret ?_
      obtain rfl := Option.some.inj H
      show Exists _
      exact ⟨.bool true, by kernel_rfl, (), rfl, rfl⟩
  · rw [if_neg c9] at H
    refine lwp_op (by kernel_rfl) (owp_pure ((.bool true)) (pr_bool (by kernel_rfl) (neT c9)) ?_)
    refine lwp_nil ?_
    refine cwp_true (by kernel_rfl) ?_
    refine cwp_seq ?_
    refine cwp_region ?_
    refine lwp_run 1 (by kernel_rfl) ?_
    refine lwp_nil ?_
    refine cwp_ret ?_
    obtain rfl := Option.some.inj H
    show Exists _
    exact ⟨.bool false, by kernel_rfl, (), rfl, rfl⟩

/-! shutter/input.Same$1 -/
def input_Same_1.m (K : Nat) (x0 : api_Entry) (x1 : api_Entry) : Option Bool :=
  (if x0.Addr = x1.Addr then ((slices_Equal_bytes.m K x0.Text x1.Text).bind fun t30 => (some t30)) else (some false))

set_option maxRecDepth 100000 in
theorem input_Same_1.calls {I : Gh} {h : Heap} {K : Nat} {x0 : api_Entry} {a1 : Option Addr} {c2 : Nat} {x1 : api_Entry} {a5 : Option Addr} {c6 : Nat} (hB : Bd I h) (r4 : Rd (tInt .u8) I h a1 c2 x0.Text) (r8 : Rd (tInt .u8) I h a5 c6 x1.Text) {r : Bool}
    (H : input_Same_1.m K x0 x1 = some r) :
    Ret Tryd.prog 49 #[.agg #[.int .i64 x0.Addr, .slice a1 x0.Text.length c2], .agg #[.int .i64 x1.Addr, .slice a5 x1.Text.length c6]] h (fun v h' => ∃ (I' : Gh), .bool r = v ∧ Pst No I h I' h') := by
  unfold input_Same_1.m at H
  refine ret_of (args := [.agg #[.int .i64 x0.Addr, .slice a1 x0.Text.length c2], .agg #[.int .i64 x1.Addr, .slice a5 x1.Text.length c6]]) (rs := [.tmp 4]) (N := 17) Tryd.func49 rfl rfl rfl (Nat.le_of_ble_eq_true rfl) ?_
  have pt0 : Pst No I h I h := Pst.refl hB
  refine cwp_seq ?_
  refine cwp_region ?_
  refine lwp_op (by kernel_rfl) (owp_box [.int .i64 x0.Addr, .slice a1 x0.Text.length c2] hB (by kernel_rfl) ?_)
  intro b9 h10 hc11 p12 o13
  have pt14 := pt0.no p12
  have fr15 : No b9 ∨ h.size ≤ b9 := .inr (Nat.le_trans pt0.size hc11)
  refine lwp_op (by kernel_rfl) (owp_box [.int .i64 x1.Addr, .slice a5 x1.Text.length c6] p12.bd (by kernel_rfl) ?_)
  intro b16 h17 hc18 p19 o20
  have pt21 := pt14.no p19
  have fr22 : No b16 ∨ h.size ≤ b16 := .inr (Nat.le_trans pt14.size hc18)
  have d23 := ne_new o13.lt hc18
  refine lwp_run 1 (by kernel_rfl) ?_
  refine lwp_nil ?_
  refine cwp_seq ?_
  refine cwp_region ?_
  refine lwp_run 1 (by kernel_rfl) ?_
  have f24 := o13.post p19 (fun x => x.elim)
  refine lwp_op (by kernel_rfl) (owp_load (by kernel_rfl) (by kernel_rfl) (f24.cell (off := 0) rfl) ?_)
  refine lwp_run 1 (by kernel_rfl) ?_
  refine lwp_op (by kernel_rfl) (owp_load (by kernel_rfl) (by kernel_rfl) (o20.cell (off := 0) rfl) ?_)
  by_cases c25 : x0.Addr = x1.Addr
  · rw [if_pos c25] at H
    refine lwp_op (by kernel_rfl) (owp_pure ((.bool true)) (pr_bool (by kernel_rfl) (eqT c25)) ?_)
    refine lwp_run 2 (by kernel_rfl) ?_
    refine lwp_op (by kernel_rfl) (owp_load (by kernel_rfl) (by kernel_rfl) (f24.cell (off := 1) rfl) ?_)
    refine lwp_run 1 (by kernel_rfl) ?_
    refine lwp_op (by kernel_rfl) (owp_load (by kernel_rfl) (by kernel_rfl) (o20.cell (off := 1) rfl) ?_)
    have f26 := r4.up (p12.up hB (fun _ x => x.elim))
    have f27 := f26.up (p19.up p12.bd (fun _ x => x.elim))
    have f28 := r8.up (p12.up hB (fun _ x => x.elim))
    have f29 := f28.up (p19.up p12.bd (fun _ x => x.elim))
    obtain ⟨t30, m31, H⟩ := bind_some H
    refine lwp_op (by kernel_rfl) (owp_callF (by kernel_rfl) (slices_Equal_bytes.calls (I := I) p19.bd f27 f29 m31) ?_)
    rintro v32 h33 ⟨_, rfl, rfl⟩
    refine lwp_run 2 (by kernel_rfl) ?_
    refine lwp_nil ?_
    refine cwp_ret ?_
    obtain rfl := Option.some.inj H
    show Exists _
    exact ⟨.bool t30, by kernel_rfl, I, rfl, pt21⟩
  · rw [if_neg c25] at H
    refine lwp_op (by kernel_rfl) (owp_pure ((.bool false)) (pr_bool (by kernel_rfl) (eqF c25)) ?_)
    refine lwp_run 8 (by kernel_rfl) ?_
    refine lwp_nil ?_
    refine cwp_ret ?_
    obtain rfl := Option.some.inj H
    show Exists _
    exact ⟨.bool false, by kernel_rfl, I, rfl, pt21⟩

/-! slices.EqualFunc[[]shutter/api.Entry,[]shutter/api.Entry,shutter/api.Entry,shutter/api.Entry] -/
def slices_EqualFunc_api_Entry__input_Same_1.l1.m (K : Nat) (x0 : (List api_Entry)) (x1 : (List api_Entry)) : Nat → Int → Option (Bool ⊕ (Unit))
  | 0, _ => none
  | k + 1, x15 => (letJ (α := Bool → Option (Bool ⊕ (Unit))) (fun (x29 : Bool) => (bif x29 then (if 0 ≤ x15 then (if x15 < (x0.length : Int) then (if x15 < (x1.length : Int) then ((input_Same_1.m K (at_ x0 x15) (at_ x1 x15)).bind fun t83 => bif t83 then (slices_EqualFunc_api_Entry__input_Same_1.l1.m K x0 x1 k (w64 (x15 + 1))) else (some (Sum.inl false))) else none) else none) else none) else (some (Sum.inr ())))) fun (j30 : Bool → Option (Bool ⊕ (Unit))) => (if x15 < (x0.length : Int) then (j30 true) else (j30 false)))
def slices_EqualFunc_api_Entry__input_Same_1.m (K : Nat) (x0 : (List api_Entry)) (x1 : (List api_Entry)) : Option Bool :=
  (if (x0.length : Int) = (x1.length : Int) then ((slices_EqualFunc_api_Entry__input_Same_1.l1.m K x0 x1 K 0).bind fun s17 => match s17 with | .inl q => (some q) | .inr _ => (some true)) else (some false))

set_option maxRecDepth 100000 in
theorem slices_EqualFunc_api_Entry__input_Same_1.calls {I : Gh} {h : Heap} {K : Nat} {x0 : List api_Entry} {a1 : Option Addr} {c2 : Nat} {x1 : List api_Entry} {a5 : Option Addr} {c6 : Nat} (hB : Bd I h) (r4 : Rd t_api_Entry I h a1 c2 x0) (r8 : Rd t_api_Entry I h a5 c6 x1) {r : Bool}
    (H : slices_EqualFunc_api_Entry__input_Same_1.m K x0 x1 = some r) :
    Ret Tryd.prog 48 #[.slice a1 x0.length c2, .slice a5 x1.length c6, .func (.func 49) #[] #[]] h (fun v h' => ∃ (I' : Gh), .bool r = v ∧ Pst No I h I' h') := by
  unfold slices_EqualFunc_api_Entry__input_Same_1.m at H
  refine ret_of (args := [.slice a1 x0.length c2, .slice a5 x1.length c6, .func (.func 49) #[] #[]]) (rs := [.tmp 6]) (N := 32) Tryd.func48 rfl rfl rfl (Nat.le_of_ble_eq_true rfl) ?_
  have pt0 : Pst No I h I h := Pst.refl hB
  refine cwp_seq ?_
  refine cwp_region ?_
  refine lwp_run 1 (by kernel_rfl) ?_
  refine lwp_nil ?_
  refine cwp_seq ?_
  refine cwp_seq ?_
  refine cwp_region ?_
  refine lwp_run 4 (by kernel_rfl) ?_
  by_cases c9 : (x0.length : Int) = (x1.length : Int)
  · rw [if_pos c9] at H
    refine lwp_op (by kernel_rfl) (owp_pure ((.bool false)) (pr_bool (by kernel_rfl) (neF c9)) ?_)
    refine lwp_nil ?_
    refine cwp_false (by kernel_rfl) ?_
    refine cwp_skip ?_
    refine cwp_seq ?_
    refine cwp_seq ?_
    refine cwp_region ?_
    refine lwp_run 3 (by kernel_rfl) ?_
    refine lwp_nil ?_
    refine cwp_block ?_
    obtain ⟨s17, m21, HR22⟩ := bind_some H
    refine cwp_loopE 0 (fun ρ' h18 => ∃ (I19 : Gh), Sum.inr () = s17 ∧ Fits [] ρ' ∧ Pst No I h I19 h18) ?_ ?_
    · refine cwp_loop (fun k' ρ' h10 => ∃ (x15 : Int) (I11 : Gh), slices_EqualFunc_api_Entry__input_Same_1.l1.m K x0 x1 k' x15 = some s17 ∧ Fits [(1, .slice a5 x1.length c6), (2, .func (.func 49) #[] #[]), (15, .slice a1 x0.length c2), (16, .int .i64 (x0.length : Int)), (17, .int .i64 x15)] ρ' ∧ Pst No I h I11 h10 ∧ Rd t_api_Entry I11 h10 a5 c6 x1 ∧ Rd t_api_Entry I11 h10 a1 c2 x0) K ⟨0, I, m21, ⟨by kernel_rfl, by kernel_rfl, by kernel_rfl, by kernel_rfl, by kernel_rfl, trivial⟩, pt0, r8, r4⟩ ?_
      clear m21
      rintro k' ρ' h10 ⟨x15, I11, H, hf, pt12, r13, r14⟩
      cases k' with
      | zero => cases H
      | succ k =>
        rw [slices_EqualFunc_api_Entry__input_Same_1.l1.m] at H
        refine cwp_fits _ hf ?_
        obtain ⟨j30, e90, H⟩ := letJ_some H
        refine cwp_join (fun ρ' h24 => ∃ (x29 : Bool) (I25 : Gh), j30 x29 = some s17 ∧ Fits [(1, .slice a5 x1.length c6), (2, .func (.func 49) #[] #[]), (15, .slice a1 x0.length c2), (16, .int .i64 (x0.length : Int)), (17, .int .i64 x15), (18, .bool x29)] ρ' ∧ Pst No I h I25 h24 ∧ Rd t_api_Entry I25 h24 a5 c6 x1 ∧ Rd t_api_Entry I25 h24 a1 c2 x0) ?_ ?_
        · refine cwp_region ?_
          by_cases c23 : x15 < (x0.length : Int)
          · rw [if_pos c23] at H
            refine lwp_op (by kernel_rfl) (owp_pure ((.bool true)) (pr_bool (by kernel_rfl) (decide_eq_true c23)) ?_)
            refine lwp_nil ?_
            exact ⟨true, I11, H, ⟨by kernel_rfl, by kernel_rfl, by kernel_rfl, by kernel_rfl, by kernel_rfl, by kernel_rfl, trivial⟩, pt12, r13, r14⟩
          · rw [if_neg c23] at H
            refine lwp_op (by kernel_rfl) (owp_pure ((.bool false)) (pr_bool (by kernel_rfl) (decide_eq_false c23)) ?_)
            refine lwp_nil ?_
            exact ⟨false, I11, H, ⟨by kernel_rfl, by kernel_rfl, by kernel_rfl, by kernel_rfl, by kernel_rfl, by kernel_rfl, trivial⟩, pt12, r13, r14⟩
        · clear H
          rintro ρ' h24 ⟨x29, I25, H, hf, pt26, r27, r28⟩
          refine cwp_fits _ hf ?_
          subst e90
          try dsimp only at H
          refine cwp_seq ?_
          cases x29
          · rw [cond_false] at H
            refine cwp_false (by kernel_rfl) ?_
            refine cwp_exit ?_
            obtain rfl := Option.some.inj H
            show Exists _
            exact ⟨I25, rfl, trivial, pt26⟩
          · rw [cond_true] at H
            refine cwp_true (by kernel_rfl) ?_
            refine cwp_skip ?_
            refine cwp_seq ?_
            refine cwp_block ?_
            refine cwp_seq ?_
            refine cwp_region ?_
            obtain ⟨c31, H⟩ := guard_pos H
            obtain ⟨c32, H⟩ := guard_pos H
            refine lwp_run 1 (by kernel_rfl) ?_
            have hs33 := (r28.toSl).isSome c31 c32
            refine lwp_op (by kernel_rfl) (owp_pure (elemPtr a1 (x15.toNat * 2)) (pr_indexElem (e := 62) (r28.toSl) (k := .i64) (by kernel_rfl) (by kernel_rfl) (by kernel_rfl) (by kernel_rfl) c31 c32) ?_)
            obtain ⟨cs34, hs35, rp36⟩ := (r28.toSl).seg c31 c32
            obtain ⟨a37, c38, rfl, r40⟩ := t_api_Entry.open_ rp36
            refine lwp_op (by kernel_rfl) (owp_loadN (by kernel_rfl) (by kernel_rfl) (by kernel_rfl) hs35 ?_)
            refine lwp_op (by kernel_rfl) (owp_alloc [.int .i64 0, .slice none 0 0] (.agg #[.int .i64 0, .slice none 0 0]) pt26.bd (by kernel_rfl) (by kernel_rfl) ?_)
            intro b41 h42 hc43 p44 o45
            have pt46 := pt26.no p44
            have fr47 : No b41 ∨ h.size ≤ b41 := .inr (Nat.le_trans pt26.size hc43)
            refine lwp_run 1 (by kernel_rfl) ?_
            refine lwp_op (by kernel_rfl) (owp_storeN 0 [.int .i64 ((at_ x0 x15).Addr), .slice a37 (((at_ x0 x15).Text).length) c38] p44.bd o45 (by kernel_rfl) (by kernel_rfl) (by simp [Value.oneCell']) (by kernel_rfl) (Nat.le_of_ble_eq_true rfl) ?_)
            intro h48 p49 o50
            have pt51 := pt46.own p49 (one_nw fr47)
            refine lwp_nil ?_
            refine cwp_seq ?_
            refine cwp_region ?_
            obtain ⟨c52, H⟩ := guard_pos H
            refine lwp_run 2 (by kernel_rfl) ?_
            have f53 := r27.up (p44.up pt26.bd (fun _ x => x.elim))
            have f54 := f53.up (p49.up p44.bd (one_not o45.no))
            have hs55 := (f54.toSl).isSome c31 c52
            refine lwp_op (by kernel_rfl) (owp_pure (elemPtr a5 (x15.toNat * 2)) (pr_indexElem (e := 62) (f54.toSl) (k := .i64) (by kernel_rfl) (by kernel_rfl) (by kernel_rfl) (by kernel_rfl) c31 c52) ?_)
            obtain ⟨cs56, hs57, rp58⟩ := (f54.toSl).seg c31 c52
            obtain ⟨a59, c60, rfl, r62⟩ := t_api_Entry.open_ rp58
            refine lwp_op (by kernel_rfl) (owp_loadN (by kernel_rfl) (by kernel_rfl) (by kernel_rfl) hs57 ?_)
            refine lwp_op (by kernel_rfl) (owp_alloc [.int .i64 0, .slice none 0 0] (.agg #[.int .i64 0, .slice none 0 0]) p49.bd (by kernel_rfl) (by kernel_rfl) ?_)
            intro b63 h64 hc65 p66 o67
            have pt68 := pt51.no p66
            have fr69 : No b63 ∨ h.size ≤ b63 := .inr (Nat.le_trans pt51.size hc65)
            have d70 := ne_new o50.lt hc65
            refine lwp_op (by kernel_rfl) (owp_storeN 0 [.int .i64 ((at_ x1 x15).Addr), .slice a59 (((at_ x1 x15).Text).length) c60] p66.bd o67 (by kernel_rfl) (by kernel_rfl) (by simp [Value.oneCell']) (by kernel_rfl) (Nat.le_of_ble_eq_true rfl) ?_)
            intro h71 p72 o73
            have pt74 := pt68.own p72 (one_nw fr69)
            refine lwp_nil ?_
            refine cwp_seq ?_
            refine cwp_region ?_
            refine lwp_run 1 (by kernel_rfl) ?_
            have f75 := o50.post p66 (fun x => x.elim)
            have f76 := f75.post p72 (fun e => d70 e.symm)
            refine lwp_op (by kernel_rfl) (owp_loadN (by kernel_rfl) (by kernel_rfl) (by kernel_rfl) (f76.seg_ 0 2 (Nat.le_of_ble_eq_true rfl)) ?_)
            refine lwp_op (by kernel_rfl) (owp_loadN (by kernel_rfl) (by kernel_rfl) (by kernel_rfl) (o73.seg_ 0 2 (Nat.le_of_ble_eq_true rfl)) ?_)
            have f77 := r40.up (p44.up pt26.bd (fun _ x => x.elim))
            have f78 := f77.up (p49.up p44.bd (one_not o45.no))
            have f79 := f78.up (p66.up p49.bd (fun _ x => x.elim))
            have f80 := f79.up (p72.up p66.bd (one_not o67.no))
            have f81 := r62.up (p66.up p49.bd (fun _ x => x.elim))
            have f82 := f81.up (p72.up p66.bd (one_not o67.no))
            obtain ⟨t83, m84, H⟩ := bind_some H
            refine lwp_op (by kernel_rfl) (owp_callF (by kernel_rfl) (input_Same_1.calls (I := I25) p72.bd f80 f82 m84) ?_)
            rintro v85 h86 ⟨I87, rfl, p88⟩
            have pt89 := pt74.no p88
            cases t83
            · rw [cond_false] at H
              refine lwp_run 1 (by kernel_rfl) ?_
              refine lwp_nil ?_
              refine cwp_true (by kernel_rfl) ?_
              refine cwp_seq ?_
              refine cwp_region ?_
              refine lwp_run 1 (by kernel_rfl) ?_
              refine lwp_nil ?_
              refine cwp_ret ?_
              obtain rfl := Option.some.inj H
              obtain rfl := Option.some.inj HR22
              show Exists _
              exact ⟨.bool false, by kernel_rfl, I87, rfl, pt89⟩
            · rw [cond_true] at H
              refine lwp_run 1 (by kernel_rfl) ?_
              refine lwp_nil ?_
              refine cwp_false (by kernel_rfl) ?_
              refine cwp_skip ?_
              refine cwp_region ?_
              refine lwp_run 2 (by kernel_rfl) ?_
              refine lwp_nil ?_
              have f100001 := f54.up (p66.up p49.bd (fun _ x => x.elim))
              have f100002 := f100001.up (p72.up p66.bd (one_not o67.no))
              have f100003 := f100002.up (p88.up p72.bd (fun _ x => x.elim))
              have f100004 := r28.up (p44.up pt26.bd (fun _ x => x.elim))
              have f100005 := f100004.up (p49.up p44.bd (one_not o45.no))
              have f100006 := f100005.up (p66.up p49.bd (fun _ x => x.elim))
              have f100007 := f100006.up (p72.up p66.bd (one_not o67.no))
              have f100008 := f100007.up (p88.up p72.bd (fun _ x => x.elim))
              show Exists _
              exact ⟨k, Nat.lt_succ_self _, (w64 (x15 + 1)), I87, H, ⟨by kernel_rfl, by kernel_rfl, by kernel_rfl, by kernel_rfl, by kernel_rfl, trivial⟩, pt89, f100003, f100008⟩
    · rintro ρ' h18 ⟨I19, rfl, hf, pt20⟩
      have H := HR22
      try dsimp only at H
      refine cwp_fits _ hf ?_
      refine cwp_seq ?_
      refine cwp_region ?_
      refine lwp_run 1 (by kernel_rfl) ?_
      refine lwp_nil ?_
      refine cwp_ret ?_
      obtain rfl := Option.some.inj H
      show Exists _
      exact ⟨.bool true, by kernel_rfl, I19, rfl, pt20⟩
  · rw [if_neg c9] at H
    refine lwp_op (by kernel_rfl) (owp_pure ((.bool true)) (pr_bool (by kernel_rfl) (neT c9)) ?_)
    refine lwp_nil ?_
    refine cwp_true (by kernel_rfl) ?_
    refine cwp_seq ?_
    refine cwp_region ?_
    refine lwp_run 1 (by kernel_rfl) ?_
    refine lwp_nil ?_
    refine cwp_ret ?_
    obtain rfl := Option.some.inj H
    show Exists _
    exact ⟨.bool false, by kernel_rfl, I, rfl, pt0⟩

/-! shutter/input.Same -/
def input_Same.m (K : Nat) (x0 : api_In) (x1 : api_In) : Option Bool :=
  (if x0.Aid = x1.Aid then (if x0.Cursor = x1.Cursor then ((slices_EqualFunc_api_Entry__input_Same_1.m K x0.Fields x1.Fields).bind fun t31 => (some t31)) else (some false)) else (some false))

set_option maxRecDepth 100000 in
theorem input_Same.calls {I : Gh} {h : Heap} {K : Nat} {x0 : api_In} {a1 : Option Addr} {c2 : Nat} {x1 : api_In} {a5 : Option Addr} {c6 : Nat} (hB : Bd I h) (r4 : Rd t_api_Entry I h a1 c2 x0.Fields) (r8 : Rd t_api_Entry I h a5 c6 x1.Fields) {r : Bool}
    (H : input_Same.m K x0 x1 = some r) :
    Ret Tryd.prog 26 #[.agg #[.int .u8 x0.Aid, .int .i64 x0.Cursor, .slice a1 x0.Fields.length c2], .agg #[.int .u8 x1.Aid, .int .i64 x1.Cursor, .slice a5 x1.Fields.length c6]] h (fun v h' => ∃ (I' : Gh), .bool r = v ∧ Pst No I h I' h') := by
  unfold input_Same.m at H
  refine ret_of (args := [.agg #[.int .u8 x0.Aid, .int .i64 x0.Cursor, .slice a1 x0.Fields.length c2], .agg #[.int .u8 x1.Aid, .int .i64 x1.Cursor, .slice a5 x1.Fields.length c6]]) (rs := [.tmp 4]) (N := 24) Tryd.func26 rfl rfl rfl (Nat.le_of_ble_eq_true rfl) ?_
  have pt0 : Pst No I h I h := Pst.refl hB
  refine cwp_seq ?_
  refine cwp_region ?_
  refine lwp_op (by kernel_rfl) (owp_box [.int .u8 x0.Aid, .int .i64 x0.Cursor, .slice a1 x0.Fields.length c2] hB (by kernel_rfl) ?_)
  intro b9 h10 hc11 p12 o13
  have pt14 := pt0.no p12
  have fr15 : No b9 ∨ h.size ≤ b9 := .inr (Nat.le_trans pt0.size hc11)
  refine lwp_op (by kernel_rfl) (owp_box [.int .u8 x1.Aid, .int .i64 x1.Cursor, .slice a5 x1.Fields.length c6] p12.bd (by kernel_rfl) ?_)
  intro b16 h17 hc18 p19 o20
  have pt21 := pt14.no p19
  have fr22 : No b16 ∨ h.size ≤ b16 := .inr (Nat.le_trans pt14.size hc18)
  have d23 := ne_new o13.lt hc18
  refine lwp_run 1 (by kernel_rfl) ?_
  refine lwp_nil ?_
  refine cwp_seq ?_
  refine cwp_region ?_
  refine lwp_run 1 (by kernel_rfl) ?_
  have f24 := o13.post p19 (fun x => x.elim)
  refine lwp_op (by kernel_rfl) (owp_load (by kernel_rfl) (by kernel_rfl) (f24.cell (off := 0) rfl) ?_)
  refine lwp_run 1 (by kernel_rfl) ?_
  refine lwp_op (by kernel_rfl) (owp_load (by kernel_rfl) (by kernel_rfl) (o20.cell (off := 0) rfl) ?_)
  by_cases c25 : x0.Aid = x1.Aid
  · rw [if_pos c25] at H
    refine lwp_op (by kernel_rfl) (owp_pure ((.bool true)) (pr_bool (by kernel_rfl) (eqT c25)) ?_)
    refine lwp_run 2 (by kernel_rfl) ?_
    refine lwp_op (by kernel_rfl) (owp_load (by kernel_rfl) (by kernel_rfl) (f24.cell (off := 1) rfl) ?_)
    refine lwp_run 1 (by kernel_rfl) ?_
    refine lwp_op (by kernel_rfl) (owp_load (by kernel_rfl) (by kernel_rfl) (o20.cell (off := 1) rfl) ?_)
    by_cases c26 : x0.Cursor = x1.Cursor
    · rw [if_pos c26] at H
      refine lwp_op (by kernel_rfl) (owp_pure ((.bool true)) (pr_bool (by kernel_rfl) (eqT c26)) ?_)
      refine lwp_run 3 (by kernel_rfl) ?_
      refine lwp_op (by kernel_rfl) (owp_load (by kernel_rfl) (by kernel_rfl) (f24.cell (off := 2) rfl) ?_)
      refine lwp_run 1 (by kernel_rfl) ?_
      refine lwp_op (by kernel_rfl) (owp_load (by kernel_rfl) (by kernel_rfl) (o20.cell (off := 2) rfl) ?_)
      have f27 := r4.up (p12.up hB (fun _ x => x.elim))
      have f28 := f27.up (p19.up p12.bd (fun _ x => x.elim))
      have f29 := r8.up (p12.up hB (fun _ x => x.elim))
      have f30 := f29.up (p19.up p12.bd (fun _ x => x.elim))
      obtain ⟨t31, m32, H⟩ := bind_some H
      refine lwp_op (by kernel_rfl) (owp_callF (by kernel_rfl) (slices_EqualFunc_api_Entry__input_Same_1.calls (I := I) p19.bd f28 f30 m32) ?_)
      rintro v33 h34 ⟨I35, rfl, p36⟩
      have pt37 := pt21.no p36
      refine lwp_run 2 (by kernel_rfl) ?_
      refine lwp_nil ?_
      refine cwp_ret ?_
      obtain rfl := Option.some.inj H
      show Exists _
      exact ⟨.bool t31, by kernel_rfl, I35, rfl, pt37⟩
    · rw [if_neg c26] at H
      refine lwp_op (by kernel_rfl) (owp_pure ((.bool false)) (pr_bool (by kernel_rfl) (eqF c26)) ?_)
      refine lwp_run 9 (by kernel_rfl) ?_
      refine lwp_nil ?_
      refine cwp_ret ?_
      obtain rfl := Option.some.inj H
      show Exists _
      exact ⟨.bool false, by kernel_rfl, I, rfl, pt21⟩
  · rw [if_neg c25] at H
    refine lwp_op (by kernel_rfl) (owp_pure ((.bool false)) (pr_bool (by kernel_rfl) (eqF c25)) ?_)
    refine lwp_run 15 (by kernel_rfl) ?_
    refine lwp_nil ?_
    refine cwp_ret ?_
    obtain rfl := Option.some.inj H
    show Exists _
    exact ⟨.bool false, by kernel_rfl, I, rfl, pt21⟩

/-! slices.Clone[[]byte,byte] -/
def slices_Clone_bytes.m (x0 : (List Int)) : Option (List Int) :=
  ((app [] x0).bind fun l15 => (some l15))

set_option maxRecDepth 100000 in
theorem slices_Clone_bytes.calls {I : Gh} {h : Heap} {x0 : List Int} {a1 : Option Addr} {c2 : Nat} (hB : Bd I h) (r4 : Rd (tInt .u8) I h a1 c2 x0) {r : (List Int)}
    (H : slices_Clone_bytes.m x0 = some r) :
    Ret Tryd.prog 79 #[.slice a1 x0.length c2] h (fun v h' => ∃ (I' : Gh) (a26 : Option Addr) (c27 : Nat), .slice a26 r.length c27 = v ∧ Pst No I h I' h' ∧ Own (tInt .u8) I' h' a26 c27 r ∧ (∀ b, InA a26 b → No b ∨ h.size ≤ b)) := by
  unfold slices_Clone_bytes.m at H
  refine ret_of (args := [.slice a1 x0.length c2]) (rs := [.tmp 2]) (N := 8) Tryd.func79 rfl rfl rfl (Nat.le_of_ble_eq_true rfl) ?_
  have pt0 : Pst No I h I h := Pst.refl hB
  refine cwp_seq ?_
  refine cwp_region ?_
  refine lwp_run 1 (by kernel_rfl) ?_
  refine lwp_nil ?_
  refine cwp_seq ?_
  refine cwp_seq ?_
  refine cwp_region ?_
  refine lwp_run 1 (by kernel_rfl) ?_
  rcases a1 with _ | ad5
  · obtain ⟨rfl, rfl⟩ := (r4.toSl).nil rfl
    replace H : (some []) = some r := by simpa [app, Lim] using H
    refine lwp_run 1 (by kernel_rfl) ?_
    refine lwp_nil ?_
    refine cwp_true (by kernel_rfl) ?_
    refine cwp_seq ?_
    refine cwp_region ?_
    refine lwp_run 1 (by kernel_rfl) ?_
    refine lwp_nil ?_
    refine cwp_ret ?_
    obtain rfl := Option.some.inj H
    show Exists _
    exact ⟨.slice none 0 0, by kernel_rfl, I, none, 0, rfl, pt0, (own_nil (tInt .u8) I I h), none_nw⟩
  · refine lwp_run 1 (by kernel_rfl) ?_
    refine lwp_nil ?_
    refine cwp_false (by kernel_rfl) ?_
    refine cwp_skip ?_
    refine cwp_seq ?_
    refine cwp_region ?_
    refine lwp_op (by kernel_rfl) (owp_buildSlice (e := 5) [] 1 (.int .u8 0) hB (by kernel_rfl) (by kernel_rfl) (by kernel_rfl) (by kernel_rfl) (by kernel_rfl) ?_)
    intro b6 h7 hc8 p9 o10
    have pt11 := pt0.no p9
    have w12 := o10.own (l := ([] : List Int)) (Reps.int (I := I) (k := .u8) (l := []))
    have fw12 := some_nw (M := No) (Nat.le_trans pt0.size hc8)
    refine lwp_run 1 (by kernel_rfl) ?_
    have f14 := r4.up (p9.up hB (fun _ x => x.elim))
    obtain ⟨l15, m16, H⟩ := bind_some H
    refine lwp_op (by kernel_rfl) (owp_app (e := 5) (bytes := 1) (tInt .u8) (by kernel_rfl) (elemOk_of (by kernel_rfl)) rfl rfl p9.bd p9.bd w12 w12.notI (f14.toSl) m16 (by kernel_rfl) (by kernel_rfl) ?_)
    intro a17 c18 h19 p20 o21 fr22
    have pt23 := pt11.own p20 fw12
    have fr25 := nw_step (M := No) (n := h.size) fw12 fr22 pt11.size
    refine lwp_run 1 (by kernel_rfl) ?_
    refine lwp_nil ?_
    refine cwp_ret ?_
    obtain rfl := Option.some.inj H
    show Exists _
    exact ⟨.slice a17 l15.length c18, by kernel_rfl, I, a17, c18, rfl, pt23, o21, fr25⟩

/-! shutter/bytes.New -/
def bytes_New.m (x0 : (List Int)) : Option bytes_Cursor :=
  ((slices_Clone_bytes.m x0).bind fun t5 => (some (⟨t5, 0, GoErr.nil⟩ : bytes_Cursor)))

set_option maxRecDepth 100000 in
theorem bytes_New.calls {I B : Gh} {h : Heap} {x0 : List Int} {a1 : Option Addr} {c2 : Nat} (hB : Bd I h) (hBB : Bd B h) (r4 : Rd (tInt .u8) (Or2 I B) h a1 c2 x0) {r : bytes_Cursor}
    (H : bytes_New.m x0 = some r) :
    Ret Tryd.prog 52 #[.slice a1 x0.length c2] h (fun v h' => ∃ (I' : Gh) (b34 : Nat) (a35 : Option Addr) (c36 : Nat) (v39 : Value), .pointer (some ⟨b34, 0, none⟩) = v ∧ Pst No I h I' h' ∧ Rd (tInt .u8) I' h' a35 c36 r.b' ∧ ErrV I' h' r.err' v39 ∧ OwnB I' h' b34 [.slice a35 r.b'.length c36, .int .i64 r.at', v39] 153 ∧ (No b34 ∨ h.size ≤ b34)) := by
  unfold bytes_New.m at H
  refine ret_of (args := [.slice a1 x0.length c2]) (rs := [.tmp 2]) (N := 7) Tryd.func52 rfl rfl rfl (Nat.le_of_ble_eq_true rfl) ?_
  have pt0 : Pst No I h I h := Pst.refl hB
  refine cwp_seq ?_
  refine cwp_region ?_
  refine lwp_run 1 (by kernel_rfl) ?_
  refine lwp_nil ?_
  refine cwp_seq ?_
  refine cwp_region ?_
  refine lwp_run 1 (by kernel_rfl) ?_
  obtain ⟨t5, m6, H⟩ := bind_some H
  refine lwp_op (by kernel_rfl) (owp_callF (by kernel_rfl) (slices_Clone_bytes.calls (I := (Or2 I B)) (bdOr hB (hBB.mono pt0.size)) r4 m6) ?_)
  rintro v7 h8 ⟨I9, a11, c12, rfl, p10, r14, fr15⟩
  have p16 := Pst.forget p10 hB
  have w17 := OwnX.forget r14 flat_int (fun b x => p10.sub b (Or.inl x))
  have pt18 := pt0.no p16
  have fr19 := nw_step (M := No) (n := h.size) (fun _ x => x.elim) fr15 pt0.size
  refine lwp_run 1 (by kernel_rfl) ?_
  refine lwp_op (by kernel_rfl) (owp_box [.slice a11 t5.length c12, .int .i64 0, .nilIface] p16.bd (by kernel_rfl) ?_)
  intro b20 h21 hc22 p23 o24
  have pt25 := pt18.no p23
  have fr26 : No b20 ∨ h.size ≤ b20 := .inr (Nat.le_trans pt18.size hc22)
  have d27 := notIn_new w17.lt hc22
  refine lwp_run 1 (by kernel_rfl) ?_
  refine lwp_nil ?_
  refine cwp_ret ?_
  obtain rfl := Option.some.inj H
  have f28 := w17.post p16.bd p23 (fun _ x => x.elim) (fun _ _ x => x.elim)
  have pt29 := post_fz f28 p23.bd pt25 fr19
  have r31 := f28.rd
  have bd32 := bd_fz f28 p23.bd
  have f33 := o24.fz d27
  show Exists _
  exact ⟨.pointer (some ⟨b20, 0, none⟩), by kernel_rfl, (Fz I a11), b20, a11, c12, (.nilIface), rfl, pt29, r31, (show ErrV (Fz I a11) h21 GoErr.nil .nilIface from rfl), f33, fr26⟩

/-! (*shutter/bytes.Cursor).Left -/
def bytes_Cursor_Left.m (x0 : bytes_Cursor) : Option (Int × bytes_Cursor) :=
  (some ((w64 ((x0.b'.length : Int) - x0.at')), x0))

set_option maxRecDepth 100000 in
theorem bytes_Cursor_Left.calls {I : Gh} {h : Heap} {b0 : Nat} {x0 : bytes_Cursor} {a1 : Option Addr} {c2 : Nat} {v5 : Value} (hB : Bd I h) (o8 : OwnB I h b0 [.slice a1 x0.b'.length c2, .int .i64 x0.at', v5] 153) (r4 : Rd (tInt .u8) I h a1 c2 x0.b') (q7 : ErrV I h x0.err' v5) {r : (Int × bytes_Cursor)}
    (H : bytes_Cursor_Left.m x0 = some r) :
    Ret Tryd.prog 56 #[.pointer (some ⟨b0, 0, none⟩)] h (fun v h' => ∃ (I' : Gh) (a9 : Option Addr) (c10 : Nat) (v13 : Value), .int .i64 r.1 = v ∧ Pst (One b0) I h I' h' ∧ Rd (tInt .u8) I' h' a9 c10 r.2.b' ∧ ErrV I' h' r.2.err' v13 ∧ OwnB I' h' b0 [.slice a9 r.2.b'.length c10, .int .i64 r.2.at', v13] 153) := by
  unfold bytes_Cursor_Left.m at H
  refine ret_of (args := [.pointer (some ⟨b0, 0, none⟩)]) (rs := [.tmp 2]) (N := 13) Tryd.func56 rfl rfl rfl (Nat.le_of_ble_eq_true rfl) ?_
  have pt0 : Pst (One b0) I h I h := Pst.refl hB
  have nw_b0 : (One b0) b0 ∨ h.size ≤ b0 := .inl rfl
  refine cwp_seq ?_
  refine cwp_region ?_
  refine lwp_run 1 (by kernel_rfl) ?_
  refine lwp_nil ?_
  refine cwp_seq ?_
  refine cwp_regionD (Keep No h) 11 (by kernel_rfl) ?_
  refine awp_run (fuel := 8) [0, 1, 2] Keep.refl (by kernel_rfl) ?_
  refine awp_load 3 rfl (by kernel_rfl) (by kernel_rfl) (by kernel_rfl) (by kernel_rfl) Keep.refl (o8.cell (off := 0) rfl) (fun _ _ x => x.elim) ?_
  refine awp_run (fuel := 3) [4, 5, 6, 7] Keep.refl (by kernel_rfl) ?_
  refine awp_load 8 rfl (by kernel_rfl) (by kernel_rfl) (by kernel_rfl) (by kernel_rfl) Keep.refl (o8.cell (off := 1) rfl) (fun _ _ x => x.elim) ?_
  refine awp_run (fuel := 0) [9, 10] Keep.refl (by kernel_rfl) ?_
  refine awp_nil (by kernel_rfl) ?_ 0
  refine cwp_ret ?_
  obtain rfl := Option.some.inj H
  show Exists _
  exact ⟨.int .i64 (w64 ((x0.b'.length : Int) - x0.at')), by kernel_rfl, I, a1, c2, (v5), rfl, pt0, r4, q7, o8⟩

/-! (*shutter/bytes.Cursor).Fail -/
def bytes_Cursor_Fail.m (x0 : bytes_Cursor) (x1 : GoErr) : Option bytes_Cursor :=
  (letJ (α := Bool → Option bytes_Cursor) (fun (x23 : Bool) => (bif x23 then (some (⟨x0.b', x0.at', (GoErr.spot x0.at' x1)⟩ : bytes_Cursor)) else (some x0))) fun (j28 : Bool → Option bytes_Cursor) => (if x0.err' = GoErr.nil then (if x1 = GoErr.nil then (j28 false) else (j28 true)) else (j28 false)))

set_option maxRecDepth 100000 in
theorem bytes_Cursor_Fail.calls {I : Gh} {h : Heap} {b0 : Nat} {x0 : bytes_Cursor} {a1 : Option Addr} {c2 : Nat} {v5 : Value} {x1 : GoErr} {v9 : Value} (hB : Bd I h) (o8 : OwnB I h b0 [.slice a1 x0.b'.length c2, .int .i64 x0.at', v5] 153) (r4 : Rd (tInt .u8) I h a1 c2 x0.b') (q7 : ErrV I h x0.err' v5) (q11 : ErrV I h x1 v9) {r : bytes_Cursor}
    (H : bytes_Cursor_Fail.m x0 x1 = some r) :
    Ret Tryd.prog 88 #[.pointer (some ⟨b0, 0, none⟩), v9] h (fun v h' => ∃ (I' : Gh) (a56 : Option Addr) (c57 : Nat) (v60 : Value), .tuple #[] = v ∧ Pst (One b0) I h I' h' ∧ Rd (tInt .u8) I' h' a56 c57 r.b' ∧ ErrV I' h' r.err' v60 ∧ OwnB I' h' b0 [.slice a56 r.b'.length c57, .int .i64 r.at', v60] 153) := by
  unfold bytes_Cursor_Fail.m at H
  refine ret_of (args := [.pointer (some ⟨b0, 0, none⟩), v9]) (rs := []) (N := 24) Tryd.func88 rfl rfl rfl (Nat.le_of_ble_eq_true rfl) ?_
  have pt0 : Pst (One b0) I h I h := Pst.refl hB
  have nw_b0 : (One b0) b0 ∨ h.size ≤ b0 := .inl rfl
  obtain ⟨j28, e55, H⟩ := letJ_some H
  refine cwp_join (fun ρ' h18 => ∃ (x23 : Bool) (v22 : Value) (v26 : Value) (I19 : Gh), j28 x23 = some r ∧ Fits [(0, .pointer (some ⟨b0, 0, none⟩)), (1, v22), (12, .bool x23)] ρ' ∧ Pst (One b0) I h I19 h18 ∧ ErrV I19 h18 x1 v22 ∧ Rd (tInt .u8) I19 h18 a1 c2 x0.b' ∧ ErrV I19 h18 x0.err' v26 ∧ OwnB I19 h18 b0 [.slice a1 x0.b'.length c2, .int .i64 x0.at', v26] 153) ?_ ?_
  · refine cwp_region ?_
    refine lwp_run 3 (by kernel_rfl) ?_
    refine lwp_op (by kernel_rfl) (owp_load (by kernel_rfl) (by kernel_rfl) (o8.cell (off := 2) rfl) ?_)
    rcases q7.cases with ⟨c12, rfl⟩ | ⟨c12, t13, u14, rfl⟩
    · rw [if_pos c12] at H
      refine lwp_run 3 (by kernel_rfl) ?_
      rcases q11.cases with ⟨c15, rfl⟩ | ⟨c15, t16, u17, rfl⟩
      · rw [if_pos c15] at H
        refine lwp_run 2 (by kernel_rfl) ?_
        refine lwp_nil ?_
        exact ⟨false, .nilIface, .nilIface, I, H, ⟨by kernel_rfl, by kernel_rfl, by kernel_rfl, trivial⟩, pt0, q11, r4, q7, o8⟩
      · rw [if_neg c15] at H
        refine lwp_run 2 (by kernel_rfl) ?_
        refine lwp_nil ?_
        exact ⟨true, (.iface t16 u17), .nilIface, I, H, ⟨by kernel_rfl, by kernel_rfl, by kernel_rfl, trivial⟩, pt0, q11, r4, q7, o8⟩
    · rw [if_neg c12] at H
      refine lwp_run 5 (by kernel_rfl) ?_
      refine lwp_nil ?_
      exact ⟨false, v9, (.iface t13 u14), I, H, ⟨by kernel_rfl, by kernel_rfl, by kernel_rfl, trivial⟩, pt0, q11, r4, q7, o8⟩
  · clear H
    rintro ρ' h18 ⟨x23, v22, v26, I19, H, hf, pt20, q21, r24, q25, o27⟩
    refine cwp_fits _ hf ?_
    subst e55
    try dsimp only at H
    cases x23
    · rw [cond_false] at H
      refine cwp_false (by kernel_rfl) ?_
      refine cwp_skip ?_
      obtain rfl := Option.some.inj H
      show Exists _
      exact ⟨.tuple #[], by kernel_rfl, I19, a1, c2, (v26), rfl, pt20, r24, q25, o27⟩
    · rw [cond_true] at H
      refine cwp_true (by kernel_rfl) ?_
      refine cwp_region ?_
      refine lwp_run 4 (by kernel_rfl) ?_
      refine lwp_op (by kernel_rfl) (owp_load (by kernel_rfl) (by kernel_rfl) (o27.cell (off := 1) rfl) ?_)
      refine lwp_run 1 (by kernel_rfl) ?_
      rcases q21.cases with ⟨c29, rfl⟩ | ⟨c29, t30, u31, rfl⟩
      · refine lwp_run 1 (by kernel_rfl) ?_
        refine lwp_op (by kernel_rfl) (owp_box [.int .i64 x0.at', .nilIface] pt20.bd (by kernel_rfl) ?_)
        intro b32 h33 hc34 p35 o36
        have pt37 := pt20.no p35
        have fr38 : (One b0) b32 ∨ h.size ≤ b32 := .inr (Nat.le_trans pt20.size hc34)
        have d39 := ne_new o27.lt hc34
        have f40 := ErrV.up (p35.up pt20.bd (fun _ x => x.elim)) q21
        have pt41 := post_fzB o36 p35.bd pt37 fr38
        have bd42 := bd_fzB o36 p35.bd
        have q43 := mk_spot (a := x0.at') (e := x1) o36 f40
        refine lwp_run 3 (by kernel_rfl) ?_
        have f45 := o27.post p35 (fun x => x.elim)
        have f46 := f45.fz (some_ne d39)
        refine lwp_op (by kernel_rfl) (owp_store1 2 ((.iface 115 (.pointer (some ⟨b32, 0, none⟩)))) bd42 f46 (by kernel_rfl) (by kernel_rfl) rfl (by kernel_rfl) (Nat.le_of_ble_eq_true rfl) ?_)
        intro h47 p48 o49
        have pt50 := pt41.own p48 (one_nw nw_b0)
        refine lwp_nil ?_
        obtain rfl := Option.some.inj H
        have f51 := r24.up (p35.up pt20.bd (fun _ x => x.elim))
        have f52 := f51.up (up_fz (a := (some ⟨b32, 0, none⟩)))
        have f53 := f52.up (p48.up bd42 (one_not f46.no))
        have f54 := ErrV.up (p48.up bd42 (one_not f46.no)) q43
        show Exists _
        exact ⟨.tuple #[], by kernel_rfl, (Fz I19 (some ⟨b32, 0, none⟩)), a1, c2, ((.iface 115 (.pointer (some ⟨b32, 0, none⟩)))), rfl, pt50, f53, f54, o49⟩
      · refine lwp_run 1 (by kernel_rfl) ?_
        refine lwp_op (by kernel_rfl) (owp_box [.int .i64 x0.at', (.iface t30 u31)] pt20.bd (by kernel_rfl) ?_)
        intro b32 h33 hc34 p35 o36
        have pt37 := pt20.no p35
        have fr38 : (One b0) b32 ∨ h.size ≤ b32 := .inr (Nat.le_trans pt20.size hc34)
        have d39 := ne_new o27.lt hc34
        have f40 := ErrV.up (p35.up pt20.bd (fun _ x => x.elim)) q21
        have pt41 := post_fzB o36 p35.bd pt37 fr38
        have bd42 := bd_fzB o36 p35.bd
        have q43 := mk_spot (a := x0.at') (e := x1) o36 f40
        refine lwp_run 3 (by kernel_rfl) ?_
        have f45 := o27.post p35 (fun x => x.elim)
        have f46 := f45.fz (some_ne d39)
        refine lwp_op (by kernel_rfl) (owp_store1 2 ((.iface 115 (.pointer (some ⟨b32, 0, none⟩)))) bd42 f46 (by kernel_rfl) (by kernel_rfl) rfl (by kernel_rfl) (Nat.le_of_ble_eq_true rfl) ?_)
        intro h47 p48 o49
        have pt50 := pt41.own p48 (one_nw nw_b0)
        refine lwp_nil ?_
        obtain rfl := Option.some.inj H
        have f51 := r24.up (p35.up pt20.bd (fun _ x => x.elim))
        have f52 := f51.up (up_fz (a := (some ⟨b32, 0, none⟩)))
        have f53 := f52.up (p48.up bd42 (one_not f46.no))
        have f54 := ErrV.up (p48.up bd42 (one_not f46.no)) q43
        show Exists _
        exact ⟨.tuple #[], by kernel_rfl, (Fz I19 (some ⟨b32, 0, none⟩)), a1, c2, ((.iface 115 (.pointer (some ⟨b32, 0, none⟩)))), rfl, pt50, f53, f54, o49⟩

/-! (*shutter/bytes.Cursor).Take -/
def bytes_Cursor_Take.m (x0 : bytes_Cursor) (x1 : Int) : Option ((List Int) × bytes_Cursor) :=
  (letJ (α := (List Int) → Int → GoErr → Option ((List Int) × bytes_Cursor)) (fun (x59 : List Int) (x64 : Int) (x65 : GoErr) => (if x65 = GoErr.nil then (if 0 ≤ (w64 ((w64 (x64 + x1)) - x1)) then (if (w64 ((w64 (x64 + x1)) - x1)) ≤ (w64 (x64 + x1)) then (if (w64 (x64 + x1)) ≤ (x59.length : Int) then ((slices_Clone_bytes.m (sub x59 (w64 ((w64 (x64 + x1)) - x1)) (w64 (x64 + x1)))).bind fun t87 => (some (t87, (⟨x59, (w64 (x64 + x1)), x65⟩ : bytes_Cursor)))) else none) else none) else none) else (some ([], (⟨x59, x64, x65⟩ : bytes_Cursor))))) fun (j70 : (List Int) → Int → GoErr → Option ((List Int) × bytes_Cursor)) => (if x1 < 0 then ((bytes_Cursor_Fail.m x0 (GoErr.no 2)).bind fun t10 => (j70 t10.b' t10.at' t10.err')) else ((bytes_Cursor_Left.m x0).bind fun t25 => (if x1 > t25.1 then ((bytes_Cursor_Fail.m t25.2 (GoErr.no 2)).bind fun t41 => (j70 t41.b' t41.at' t41.err')) else (j70 t25.2.b' t25.2.at' t25.2.err')))))

set_option maxRecDepth 100000 in
theorem bytes_Cursor_Take.calls {I : Gh} {h : Heap} {b0 : Nat} {x0 : bytes_Cursor} {a1 : Option Addr} {c2 : Nat} {v5 : Value} {x1 : Int} (hB : Bd I h) (o8 : OwnB I h b0 [.slice a1 x0.b'.length c2, .int .i64 x0.at', v5] 153) (r4 : Rd (tInt .u8) I h a1 c2 x0.b') (q7 : ErrV I h x0.err' v5) {r : ((List Int) × bytes_Cursor)}
    (H : bytes_Cursor_Take.m x0 x1 = some r) :
    Ret Tryd.prog 86 #[.pointer (some ⟨b0, 0, none⟩), .int .i64 x1] h (fun v h' => ∃ (I' : Gh) (a107 : Option Addr) (c108 : Nat) (a112 : Option Addr) (c113 : Nat) (v116 : Value), .slice a107 r.1.length c108 = v ∧ Pst (One b0) I h I' h' ∧ Own (tInt .u8) I' h' a107 c108 r.1 ∧ (∀ b, InA a107 b → (One b0) b ∨ h.size ≤ b) ∧ Rd (tInt .u8) I' h' a112 c113 r.2.b' ∧ ErrV I' h' r.2.err' v116 ∧ OwnB I' h' b0 [.slice a112 r.2.b'.length c113, .int .i64 r.2.at', v116] 153 ∧ ¬ InA a107 b0) := by
  unfold bytes_Cursor_Take.m at H
  refine ret_of (args := [.pointer (some ⟨b0, 0, none⟩), .int .i64 x1]) (rs := [.tmp 4]) (N := 45) Tryd.func86 rfl rfl rfl (Nat.le_of_ble_eq_true rfl) ?_
  have pt0 : Pst (One b0) I h I h := Pst.refl hB
  have nw_b0 : (One b0) b0 ∨ h.size ≤ b0 := .inl rfl
  refine cwp_seq ?_
  refine cwp_region ?_
  refine lwp_run 1 (by kernel_rfl) ?_
  refine lwp_nil ?_
  obtain ⟨j70, e106, H⟩ := letJ_some H
  refine cwp_join (fun ρ' h56 => ∃ (x59 : List Int) (x64 : Int) (x65 : GoErr) (a60 : Option Addr) (c61 : Nat) (v66 : Value) (I57 : Gh), j70 x59 x64 x65 = some r ∧ Fits [(0, .pointer (some ⟨b0, 0, none⟩)), (1, .int .i64 x1)] ρ' ∧ Pst (One b0) I h I57 h56 ∧ Rd (tInt .u8) I57 h56 a60 c61 x59 ∧ ErrV I57 h56 x65 v66 ∧ OwnB I57 h56 b0 [.slice a60 x59.length c61, .int .i64 x64, v66] 153) ?_ ?_
  · refine cwp_seq ?_
    refine cwp_region ?_
    refine lwp_run 1 (by kernel_rfl) ?_
    by_cases c9 : x1 < 0
    · rw [if_pos c9] at H
      refine lwp_op (by kernel_rfl) (owp_pure ((.bool true)) (pr_bool (by kernel_rfl) (decide_eq_true c9)) ?_)
      refine lwp_run 6 (by kernel_rfl) ?_
      refine lwp_nil ?_
      refine cwp_true (by kernel_rfl) ?_
      refine cwp_region ?_
      refine lwp_run 2 (by kernel_rfl) ?_
      obtain ⟨t10, m11, H⟩ := bind_some H
      refine lwp_op (by kernel_rfl) (owp_callF (by kernel_rfl) (bytes_Cursor_Fail.calls (I := I) hB o8 r4 q7 (show ErrV I h (GoErr.no 2) (.iface 97 (.int .i64 2)) from rfl) m11) ?_)
      rintro v12 h13 ⟨I14, a16, c17, v20, rfl, p15, r19, q22, o23⟩
      have pt24 := pt0.own p15 (one_nw nw_b0)
      refine lwp_nil ?_
      exact ⟨t10.b', t10.at', t10.err', a16, c17, v20, I14, H, ⟨by kernel_rfl, by kernel_rfl, trivial⟩, pt24, r19, q22, o23⟩
    · rw [if_neg c9] at H
      refine lwp_op (by kernel_rfl) (owp_pure ((.bool false)) (pr_bool (by kernel_rfl) (decide_eq_false c9)) ?_)
      refine lwp_run 3 (by kernel_rfl) ?_
      obtain ⟨t25, m26, H⟩ := bind_some H
      refine lwp_op (by kernel_rfl) (owp_callF (by kernel_rfl) (bytes_Cursor_Left.calls (I := I) hB o8 r4 q7 m26) ?_)
      rintro v27 h28 ⟨I29, a31, c32, v35, rfl, p30, r34, q37, o38⟩
      have pt39 := pt0.own p30 (one_nw nw_b0)
      by_cases c40 : x1 > t25.1
      · rw [if_pos c40] at H
        refine lwp_op (by kernel_rfl) (owp_pure ((.bool true)) (pr_bool (by kernel_rfl) (decide_eq_true c40)) ?_)
        refine lwp_run 1 (by kernel_rfl) ?_
        refine lwp_nil ?_
        refine cwp_true (by kernel_rfl) ?_
        refine cwp_region ?_
        refine lwp_run 2 (by kernel_rfl) ?_
        obtain ⟨t41, m42, H⟩ := bind_some H
        refine lwp_op (by kernel_rfl) (owp_callF (by kernel_rfl) (bytes_Cursor_Fail.calls (I := I29) p30.bd o38 r34 q37 (show ErrV I29 h28 (GoErr.no 2) (.iface 97 (.int .i64 2)) from rfl) m42) ?_)
        rintro v43 h44 ⟨I45, a47, c48, v51, rfl, p46, r50, q53, o54⟩
        have pt55 := pt39.own p46 (one_nw nw_b0)
        refine lwp_nil ?_
        exact ⟨t41.b', t41.at', t41.err', a47, c48, v51, I45, H, ⟨by kernel_rfl, by kernel_rfl, trivial⟩, pt55, r50, q53, o54⟩
      · rw [if_neg c40] at H
        refine lwp_op (by kernel_rfl) (owp_pure ((.bool false)) (pr_bool (by kernel_rfl) (decide_eq_false c40)) ?_)
        refine lwp_run 1 (by kernel_rfl) ?_
        refine lwp_nil ?_
        refine cwp_false (by kernel_rfl) ?_
        refine cwp_skip ?_
        exact ⟨t25.2.b', t25.2.at', t25.2.err', a31, c32, v35, I29, H, ⟨by kernel_rfl, by kernel_rfl, trivial⟩, pt39, r34, q37, o38⟩
  · clear H
    rintro ρ' h56 ⟨x59, x64, x65, a60, c61, v66, I57, H, hf, pt58, r62, q67, o69⟩
    refine cwp_fits _ hf ?_
    subst e106
    try dsimp only at H
    refine cwp_seq ?_
    refine cwp_seq ?_
    refine cwp_region ?_
    refine lwp_run 3 (by kernel_rfl) ?_
    refine lwp_op (by kernel_rfl) (owp_load (by kernel_rfl) (by kernel_rfl) (o69.cell (off := 2) rfl) ?_)
    rcases q67.cases with ⟨c71, rfl⟩ | ⟨c71, t72, u73, rfl⟩
    · rw [if_pos c71] at H
      refine lwp_run 1 (by kernel_rfl) ?_
      refine lwp_nil ?_
      refine cwp_false (by kernel_rfl) ?_
      refine cwp_skip ?_
      refine cwp_seq ?_
      refine cwp_region ?_
      refine lwp_run 3 (by kernel_rfl) ?_
      refine lwp_op (by kernel_rfl) (owp_load (by kernel_rfl) (by kernel_rfl) (o69.cell (off := 1) rfl) ?_)
      refine lwp_run 4 (by kernel_rfl) ?_
      refine lwp_op (by kernel_rfl) (owp_store1 1 (.int .i64 (w64 (x64 + x1))) pt58.bd o69 (by kernel_rfl) (by kernel_rfl) rfl (by kernel_rfl) (Nat.le_of_ble_eq_true rfl) ?_)
      intro h74 p75 o76
      have pt77 := pt58.own p75 (one_nw nw_b0)
      refine lwp_nil ?_
      refine cwp_seq ?_
      refine cwp_regionD (Keep No h74) 17 (by kernel_rfl) ?_
      refine awp_run (fuel := 14) [0, 1, 2] Keep.refl (by kernel_rfl) ?_
      refine awp_load 3 rfl (by kernel_rfl) (by kernel_rfl) (by kernel_rfl) (by kernel_rfl) Keep.refl (o76.cell (off := 0) rfl) (fun _ _ x => x.elim) ?_
      refine awp_run (fuel := 10) [4, 5, 6] Keep.refl (by kernel_rfl) ?_
      refine awp_load 7 rfl (by kernel_rfl) (by kernel_rfl) (by kernel_rfl) (by kernel_rfl) Keep.refl (o76.cell (off := 1) rfl) (fun _ _ x => x.elim) ?_
      refine awp_run (fuel := 4) [8, 9, 10, 11, 12] Keep.refl (by kernel_rfl) ?_
      refine awp_load 13 rfl (by kernel_rfl) (by kernel_rfl) (by kernel_rfl) (by kernel_rfl) Keep.refl (o76.cell (off := 1) rfl) (fun _ _ x => x.elim) ?_
      obtain ⟨c78, H⟩ := guard_pos H
      obtain ⟨c79, H⟩ := guard_pos H
      obtain ⟨c80, H⟩ := guard_pos H
      have f82 := r62.up (p75.up pt58.bd (one_not o69.no))
      obtain ⟨a84, c85, r83, e86⟩ := f82.part (lo := (w64 ((w64 (x64 + x1)) - x1))) (hi := (w64 (x64 + x1))) c78 c79 c80
      refine awp_pure 14 ((.slice a84 ((sub x59 (w64 ((w64 (x64 + x1)) - x1)) (w64 (x64 + x1))).length) c85)) rfl (by kernel_rfl) (by kernel_rfl) (pr_slice_lh (e := 5) (f82.toSl) e86 (by kernel_rfl) (k1 := .i64) (by kernel_rfl) (k2 := .i64) (by kernel_rfl) (by kernel_rfl) (by kernel_rfl) c78 c79 c80) Keep.refl ?_
      obtain ⟨t87, m88, H⟩ := bind_some H
      refine awp_op 15 (by kernel_rfl) rfl (by kernel_rfl) (owp_callF (by kernel_rfl) (slices_Clone_bytes.calls (I := I57) p75.bd r83 m88) ?_)
      rintro v89 h90 ⟨I91, a93, c94, rfl, p92, r96, fr97⟩
      have pt98 := pt77.no p92
      have fr99 := nw_step (M := (One b0)) (n := h.size) (fun _ x => x.elim) fr97 pt77.size
      have d100 := step_blk fr97 o76.lt (fun x => x.elim)
      have hK101 := Keep.post (M := No) Keep.refl (Nat.le_refl _) p92 (fun _ x => x.elim)
      refine ⟨hK101, ?_⟩
      refine awp_run (fuel := 0) [16] hK101 (by kernel_rfl) ?_
      refine awp_nil (by kernel_rfl) ?_ 0
      refine cwp_ret ?_
      obtain rfl := Option.some.inj H
      have f102 := f82.up (p92.up p75.bd (fun _ x => x.elim))
      have f103 := ErrV.up (p75.up pt58.bd (one_not o69.no)) q67
      have f104 := ErrV.up (p92.up p75.bd (fun _ x => x.elim)) f103
      have f105 := o76.post p92 (fun x => x.elim)
      show Exists _
      exact ⟨.slice a93 t87.length c94, by kernel_rfl, I91, a93, c94, a60, c61, (.nilIface), rfl, pt98, r96, fr99, f102, f104, f105, d100⟩
    · rw [if_neg c71] at H
      refine lwp_run 1 (by kernel_rfl) ?_
      refine lwp_nil ?_
      refine cwp_true (by kernel_rfl) ?_
      refine cwp_seq ?_
      refine cwp_region ?_
      refine lwp_run 1 (by kernel_rfl) ?_
      refine lwp_nil ?_
      refine cwp_ret ?_
      obtain rfl := Option.some.inj H
      show Exists _
      exact ⟨.slice none 0 0, by kernel_rfl, I57, none, 0, a60, c61, ((.iface t72 u73)), rfl, pt58, (own_nil (tInt .u8) I57 I57 h56), none_nw, r62, q67, o69, inA_none⟩

/-! (*shutter/bytes.Cursor).Byte -/
def bytes_Cursor_Byte.m (x0 : bytes_Cursor) : Option (Int × bytes_Cursor) :=
  ((bytes_Cursor_Take.m x0 1).bind fun t9 => (if (t9.1.length : Int) = 0 then (some (0, t9.2)) else (if 0 < (t9.1.length : Int) then (some ((at_ t9.1 0), t9.2)) else none)))

set_option maxRecDepth 100000 in
theorem bytes_Cursor_Byte.calls {I : Gh} {h : Heap} {b0 : Nat} {x0 : bytes_Cursor} {a1 : Option Addr} {c2 : Nat} {v5 : Value} (hB : Bd I h) (o8 : OwnB I h b0 [.slice a1 x0.b'.length c2, .int .i64 x0.at', v5] 153) (r4 : Rd (tInt .u8) I h a1 c2 x0.b') (q7 : ErrV I h x0.err' v5) {r : (Int × bytes_Cursor)}
    (H : bytes_Cursor_Byte.m x0 = some r) :
    Ret Tryd.prog 53 #[.pointer (some ⟨b0, 0, none⟩)] h (fun v h' => ∃ (I' : Gh) (a37 : Option Addr) (c38 : Nat) (v41 : Value), .int .u8 r.1 = v ∧ Pst (One b0) I h I' h' ∧ Rd (tInt .u8) I' h' a37 c38 r.2.b' ∧ ErrV I' h' r.2.err' v41 ∧ OwnB I' h' b0 [.slice a37 r.2.b'.length c38, .int .i64 r.2.at', v41] 153) := by
  unfold bytes_Cursor_Byte.m at H
  refine ret_of (args := [.pointer (some ⟨b0, 0, none⟩)]) (rs := [.tmp 2]) (N := 12) Tryd.func53 rfl rfl rfl (Nat.le_of_ble_eq_true rfl) ?_
  have pt0 : Pst (One b0) I h I h := Pst.refl hB
  have nw_b0 : (One b0) b0 ∨ h.size ≤ b0 := .inl rfl
  refine cwp_seq ?_
  refine cwp_region ?_
  refine lwp_run 1 (by kernel_rfl) ?_
  refine lwp_nil ?_
  refine cwp_seq ?_
  refine cwp_region ?_
  refine lwp_run 1 (by kernel_rfl) ?_
  obtain ⟨t9, m10, H⟩ := bind_some H
  refine lwp_op (by kernel_rfl) (owp_callF (by kernel_rfl) (bytes_Cursor_Take.calls (I := I) hB o8 r4 q7 m10) ?_)
  rintro v11 h12 ⟨I13, a15, c16, a20, c21, v24, rfl, p14, r18, fr19, r23, q26, o27, d28⟩
  have pt29 := pt0.own p14 (one_nw nw_b0)
  have fr30 := nw_step (M := (One b0)) (n := h.size) (one_nw nw_b0) fr19 pt0.size
  refine lwp_run 1 (by kernel_rfl) ?_
  refine lwp_nil ?_
  refine cwp_seq ?_
  refine cwp_seq ?_
  refine cwp_region ?_
  refine lwp_run 2 (by kernel_rfl) ?_
  by_cases c31 : (t9.1.length : Int) = 0
  · rw [if_pos c31] at H
    refine lwp_op (by kernel_rfl) (owp_pure ((.bool true)) (pr_bool (by kernel_rfl) (eqT c31)) ?_)
    refine lwp_nil ?_
    refine cwp_true (by kernel_rfl) ?_
    refine cwp_seq ?_
    refine cwp_region ?_
    refine lwp_run 1 (by kernel_rfl) ?_
    refine lwp_nil ?_
    refine cwp_ret ?_
    obtain rfl := Option.some.inj H
    show Exists _
    exact ⟨.int .u8 0, by kernel_rfl, I13, a20, c21, (v24), rfl, pt29, r23, q26, o27⟩
  · rw [if_neg c31] at H
    refine lwp_op (by kernel_rfl) (owp_pure ((.bool false)) (pr_bool (by kernel_rfl) (eqF c31)) ?_)
    refine lwp_nil ?_
    refine cwp_false (by kernel_rfl) ?_
    refine cwp_skip ?_
    refine cwp_seq ?_
    refine cwp_region ?_
    obtain ⟨c32, H⟩ := guard_pos H
    refine lwp_run 1 (by kernel_rfl) ?_
    have hs33 := (r18.toSl).isSome (by decide) c32
    refine lwp_op (by kernel_rfl) (owp_pure (elemPtr a15 ((0 : Int).toNat * 1)) (pr_indexElem (e := 5) (r18.toSl) (k := .i64) (by kernel_rfl) (by kernel_rfl) (by kernel_rfl) (by kernel_rfl) (by decide) c32) ?_)
    obtain ⟨cs34, hs35, rp36⟩ := (r18.toSl).seg (by decide) c32
    obtain rfl := rep_int rp36
    refine lwp_op (by kernel_rfl) (owp_load (by kernel_rfl) (by kernel_rfl) (seg_cell (f := 0) hs35 rfl) ?_)
    refine lwp_run 1 (by kernel_rfl) ?_
    refine lwp_nil ?_
    refine cwp_ret ?_
    obtain rfl := Option.some.inj H
    show Exists _
    exact ⟨.int .u8 (at_ t9.1 0), by kernel_rfl, I13, a20, c21, (v24), rfl, pt29, r23, q26, o27⟩

/-! (*shutter/bytes.Cursor).Err -/
def bytes_Cursor_Err.m (x0 : bytes_Cursor) : Option (GoErr × bytes_Cursor) :=
  (some (x0.err', x0))

set_option maxRecDepth 100000 in
theorem bytes_Cursor_Err.calls {I : Gh} {h : Heap} {b0 : Nat} {x0 : bytes_Cursor} {a1 : Option Addr} {c2 : Nat} {v5 : Value} (hB : Bd I h) (o8 : OwnB I h b0 [.slice a1 x0.b'.length c2, .int .i64 x0.at', v5] 153) (r4 : Rd (tInt .u8) I h a1 c2 x0.b') (q7 : ErrV I h x0.err' v5) {r : (GoErr × bytes_Cursor)}
    (H : bytes_Cursor_Err.m x0 = some r) :
    Ret Tryd.prog 54 #[.pointer (some ⟨b0, 0, none⟩)] h (fun v h' => ∃ (I' : Gh) (v9 : Value) (a12 : Option Addr) (c13 : Nat) (v16 : Value), v9 = v ∧ Pst (One b0) I h I' h' ∧ ErrV I' h' r.1 v9 ∧ Rd (tInt .u8) I' h' a12 c13 r.2.b' ∧ ErrV I' h' r.2.err' v16 ∧ OwnB I' h' b0 [.slice a12 r.2.b'.length c13, .int .i64 r.2.at', v16] 153) := by
  unfold bytes_Cursor_Err.m at H
  refine ret_of (args := [.pointer (some ⟨b0, 0, none⟩)]) (rs := [.tmp 2]) (N := 7) Tryd.func54 rfl rfl rfl (Nat.le_of_ble_eq_true rfl) ?_
  have pt0 : Pst (One b0) I h I h := Pst.refl hB
  have nw_b0 : (One b0) b0 ∨ h.size ≤ b0 := .inl rfl
  refine cwp_seq ?_
  refine cwp_region ?_
  refine lwp_run 1 (by kernel_rfl) ?_
  refine lwp_nil ?_
  refine cwp_seq ?_
  refine cwp_region ?_
  refine lwp_run 3 (by kernel_rfl) ?_
  refine lwp_op (by kernel_rfl) (owp_load (by kernel_rfl) (by kernel_rfl) (o8.cell (off := 2) rfl) ?_)
  refine lwp_run 1 (by kernel_rfl) ?_
  refine lwp_nil ?_
  refine cwp_ret ?_
  obtain rfl := Option.some.inj H
  show Exists _
  exact ⟨v5, by kernel_rfl, I, (v5), a1, c2, (v5), rfl, pt0, q7, r4, q7, o8⟩

/-! shutter/six.Low -/
def six_Low.m (x0 : Int) : Option Int :=
  (some (w64 ((bAnd .u8 x0 63))))

set_option maxRecDepth 100000 in
theorem six_Low.calls {I : Gh} {h : Heap} {x0 : Int} (_hB : Bd I h)  {r : Int}
    (H : six_Low.m x0 = some r) :
    Ret Tryd.prog 138 #[.int .u8 x0] h (fun v h' => ∃ _ : Unit, .int .i64 r = v ∧ h = h') := by
  unfold six_Low.m at H
  refine ret_of (args := [.int .u8 x0]) (rs := [.tmp 2]) (N := 6) Tryd.func138 rfl rfl rfl (Nat.le_of_ble_eq_true rfl) ?_
  refine cwp_seq ?_
  refine cwp_region ?_
  refine lwp_run 1 (by kernel_rfl) ?_
  refine lwp_nil ?_
  refine cwp_seq ?_
  refine cwp_region ?_
  refine lwp_run 4 (by kernel_rfl) ?_
  refine lwp_nil ?_
  refine cwp_ret ?_
  obtain rfl := Option.some.inj H
  show Exists _
  exact ⟨.int .i64 (w64 ((bAnd .u8 x0 63))), by kernel_rfl, (), rfl, rfl⟩

/-! shutter/six.Get -/
def six_Get.m (x0 : Int) : Option (Int × GoErr) :=
  ((six_Low.m x0).bind fun t1 => ((six_at.m t1).bind fun t7 => (if t7 = x0 then (some (t1, GoErr.nil)) else (some (0, (GoErr.no 3))))))

set_option maxRecDepth 100000 in
theorem six_Get.calls {I : Gh} {h : Heap} {x0 : Int} (hB : Bd I h)  {r : (Int × GoErr)}
    (H : six_Get.m x0 = some r) :
    Ret Tryd.prog 128 #[.int .u8 x0] h (fun v h' => ∃ (v14 : Value), .tuple #[.int .i64 r.1, v14] = v ∧ h = h' ∧ ErrV I h r.2 v14) := by
  unfold six_Get.m at H
  refine ret_of (args := [.int .u8 x0]) (rs := [.tmp 2, .tmp 3]) (N := 13) Tryd.func128 rfl rfl rfl (Nat.le_of_ble_eq_true rfl) ?_
  refine cwp_seq ?_
  refine cwp_region ?_
  refine lwp_run 2 (by kernel_rfl) ?_
  refine lwp_nil ?_
  refine cwp_seq ?_
  refine cwp_seq ?_
  refine cwp_region ?_
  refine lwp_run 1 (by kernel_rfl) ?_
  obtain ⟨t1, m2, H⟩ := bind_some H
  refine lwp_op (by kernel_rfl) (owp_callF (by kernel_rfl) (six_Low.calls (I := I) hB m2) ?_)
  rintro v3 h4 ⟨_, rfl, rfl⟩
  refine lwp_run 1 (by kernel_rfl) ?_
  refine lwp_nil ?_
  refine cwp_seq ?_
  refine cwp_region ?_
  refine lwp_run 1 (by kernel_rfl) ?_
  obtain ⟨t7, m8, H⟩ := bind_some H
  refine lwp_op (by kernel_rfl) (owp_callF (by kernel_rfl) (six_at.calls (I := I) hB m8) ?_)
  rintro v9 h10 ⟨_, rfl, rfl⟩
  refine lwp_run 1 (by kernel_rfl) ?_
  by_cases c13 : t7 = x0
  · rw [if_pos c13] at H
    refine lwp_op (by kernel_rfl) (owp_pure ((.bool true)) (pr_bool (by kernel_rfl) (eqT c13)) ?_)
    refine lwp_nil ?_
    refine cwp_true (by kernel_rfl) ?_
    refine cwp_seq ?_
    refine cwp_region ?_
    refine lwp_run 3 (by kernel_rfl) ?_
    refine lwp_nil ?_
    refine cwp_ret ?_
    obtain rfl := Option.some.inj H
    show Exists _
    exact ⟨.tuple #[.int .i64 t1, .nilIface], by kernel_rfl, (.nilIface), rfl, rfl, (show ErrV I h GoErr.nil .nilIface from rfl)⟩
  · rw [if_neg c13] at H
    refine lwp_op (by kernel_rfl) (owp_pure ((.bool false)) (pr_bool (by kernel_rfl) (eqF c13)) ?_)
    refine lwp_nil ?_
    refine cwp_false (by kernel_rfl) ?_
    refine cwp_skip ?_
    refine cwp_seq ?_
    refine cwp_region ?_
    refine lwp_run 3 (by kernel_rfl) ?_
    refine lwp_nil ?_
    refine cwp_ret ?_
    obtain rfl := Option.some.inj H
    show Exists _
    exact ⟨.tuple #[.int .i64 0, .iface 97 (.int .i64 3)], by kernel_rfl, (.iface 97 (.int .i64 3)), rfl, rfl, (show ErrV I h (GoErr.no 3) (.iface 97 (.int .i64 3)) from rfl)⟩

/-! shutter/addr.spot -/
def addr_spot.m (x0 : Int) (x1 : GoErr) : Option GoErr :=
  (some (GoErr.spot x0 x1))

set_option maxRecDepth 100000 in
theorem addr_spot.calls {I : Gh} {h : Heap} {x0 : Int} {x1 : GoErr} {v1 : Value} (hB : Bd I h) (q3 : ErrV I h x1 v1) {r : GoErr}
    (H : addr_spot.m x0 x1 = some r) :
    Ret Tryd.prog 113 #[.int .i64 x0, v1] h (fun v h' => ∃ (I' : Gh) (v19 : Value), v19 = v ∧ Pst No I h I' h' ∧ ErrV I' h' r v19) := by
  unfold addr_spot.m at H
  refine ret_of (args := [.int .i64 x0, v1]) (rs := [.tmp 4]) (N := 10) Tryd.func113 rfl rfl rfl (Nat.le_of_ble_eq_true rfl) ?_
  have pt0 : Pst No I h I h := Pst.refl hB
  refine cwp_seq ?_
  refine cwp_region ?_
  refine lwp_run 1 (by kernel_rfl) ?_
  refine lwp_nil ?_
  refine cwp_seq ?_
  refine cwp_region ?_
  refine lwp_run 2 (by kernel_rfl) ?_
  rcases q3.cases with ⟨c4, rfl⟩ | ⟨c4, t5, u6, rfl⟩
  · refine lwp_run 1 (by kernel_rfl) ?_
    refine lwp_op (by kernel_rfl) (owp_box [.int .i64 x0, .nilIface] hB (by kernel_rfl) ?_)
    intro b7 h8 hc9 p10 o11
    have pt12 := pt0.no p10
    have fr13 : No b7 ∨ h.size ≤ b7 := .inr (Nat.le_trans pt0.size hc9)
    have f14 := ErrV.up (p10.up hB (fun _ x => x.elim)) q3
    have pt15 := post_fzB o11 p10.bd pt12 fr13
    have bd16 := bd_fzB o11 p10.bd
    have q17 := mk_spot (a := x0) (e := x1) o11 f14
    refine lwp_run 2 (by kernel_rfl) ?_
    refine lwp_nil ?_
    refine cwp_ret ?_
    obtain rfl := Option.some.inj H
    show Exists _
    exact ⟨(.iface 115 (.pointer (some ⟨b7, 0, none⟩))), by kernel_rfl, (Fz I (some ⟨b7, 0, none⟩)), ((.iface 115 (.pointer (some ⟨b7, 0, none⟩)))), rfl, pt15, q17⟩
  · refine lwp_run 1 (by kernel_rfl) ?_
    refine lwp_op (by kernel_rfl) (owp_box [.int .i64 x0, (.iface t5 u6)] hB (by kernel_rfl) ?_)
    intro b7 h8 hc9 p10 o11
    have pt12 := pt0.no p10
    have fr13 : No b7 ∨ h.size ≤ b7 := .inr (Nat.le_trans pt0.size hc9)
    have f14 := ErrV.up (p10.up hB (fun _ x => x.elim)) q3
    have pt15 := post_fzB o11 p10.bd pt12 fr13
    have bd16 := bd_fzB o11 p10.bd
    have q17 := mk_spot (a := x0) (e := x1) o11 f14
    refine lwp_run 2 (by kernel_rfl) ?_
    refine lwp_nil ?_
    refine cwp_ret ?_
    obtain rfl := Option.some.inj H
    show Exists _
    exact ⟨(.iface 115 (.pointer (some ⟨b7, 0, none⟩))), by kernel_rfl, (Fz I (some ⟨b7, 0, none⟩)), ((.iface 115 (.pointer (some ⟨b7, 0, none⟩)))), rfl, pt15, q17⟩

/-! shutter/addr.short -/
def addr_short.l1.m (K : Nat) (x0 : (List Int)) : Nat → Int → Int → Option ((Int × GoErr) ⊕ (Int))
  | 0, _, _ => none
  | k + 1, x9, x10 => (letJ (α := Bool → Option ((Int × GoErr) ⊕ (Int))) (fun (x24 : Bool) => (bif x24 then (if 0 ≤ x10 then (if x10 < (x0.length : Int) then ((six_Get.m (at_ x0 x10)).bind fun t32 => (if t32.2 = GoErr.nil then (addr_short.l1.m K x0 k (bOr .i64 (shl .i64 x9 6) t32.1) (w64 (x10 + 1))) else ((addr_spot.m x10 t32.2).bind fun t44 => (some (Sum.inl (0, t44)))))) else none) else none) else (some (Sum.inr x9)))) fun (j25 : Bool → Option ((Int × GoErr) ⊕ (Int))) => (if x10 < 2 then (j25 true) else (j25 false)))
def addr_short.m (K : Nat) (x0 : (List Int)) : Option (Int × GoErr) :=
  ((addr_short.l1.m K x0 K 0 0).bind fun s12 => match s12 with | .inl q => (some q) | .inr x16 => (some (x16, GoErr.nil)))

set_option maxRecDepth 100000 in
theorem addr_short.calls {I B : Gh} {h : Heap} {K : Nat} {x0 : List Int} {a1 : Option Addr} {c2 : Nat} (hB : Bd I h) (hBB : Bd B h) (r4 : Rd (tInt .u8) (Or2 I B) h a1 c2 x0) {r : (Int × GoErr)}
    (H : addr_short.m K x0 = some r) :
    Ret Tryd.prog 112 #[.slice a1 x0.length c2] h (fun v h' => ∃ (I' : Gh) (v55 : Value), .tuple #[.int .i64 r.1, v55] = v ∧ Pst No I h I' h' ∧ ErrV I' h' r.2 v55) := by
  unfold addr_short.m at H
  refine ret_of (args := [.slice a1 x0.length c2]) (rs := [.tmp 2, .tmp 3]) (N := 30) Tryd.func112 rfl rfl rfl (Nat.le_of_ble_eq_true rfl) ?_
  have pt0 : Pst No I h I h := Pst.refl hB
  refine cwp_seq ?_
  refine cwp_region ?_
  refine lwp_run 2 (by kernel_rfl) ?_
  refine lwp_nil ?_
  refine cwp_seq ?_
  refine cwp_region ?_
  refine lwp_run 1 (by kernel_rfl) ?_
  refine lwp_nil ?_
  refine cwp_seq ?_
  refine cwp_seq ?_
  refine cwp_region ?_
  refine lwp_run 1 (by kernel_rfl) ?_
  refine lwp_nil ?_
  refine cwp_block ?_
  obtain ⟨s12, m17, HR18⟩ := bind_some H
  refine cwp_loopE 0 (fun ρ' h13 => ∃ (x16 : Int) (I14 : Gh), Sum.inr x16 = s12 ∧ Fits [(4, .int .i64 x16)] ρ' ∧ Pst No I h I14 h13) ?_ ?_
  · refine cwp_loop (fun k' ρ' h5 => ∃ (x9 : Int) (x10 : Int) (I6 : Gh), addr_short.l1.m K x0 k' x9 x10 = some s12 ∧ Fits [(0, .slice a1 x0.length c2), (4, .int .i64 x9), (8, .int .i64 x10)] ρ' ∧ Pst No I h I6 h5 ∧ Rd (tInt .u8) (Or2 I6 B) h5 a1 c2 x0) K ⟨0, 0, I, m17, ⟨by kernel_rfl, by kernel_rfl, by kernel_rfl, trivial⟩, pt0, r4⟩ ?_
    clear m17
    rintro k' ρ' h5 ⟨x9, x10, I6, H, hf, pt7, r8⟩
    cases k' with
    | zero => cases H
    | succ k =>
      rw [addr_short.l1.m] at H
      refine cwp_fits _ hf ?_
      obtain ⟨j25, e54, H⟩ := letJ_some H
      refine cwp_join (fun ρ' h20 => ∃ (x24 : Bool) (I21 : Gh), j25 x24 = some s12 ∧ Fits [(0, .slice a1 x0.length c2), (4, .int .i64 x9), (8, .int .i64 x10), (9, .bool x24)] ρ' ∧ Pst No I h I21 h20 ∧ Rd (tInt .u8) (Or2 I21 B) h20 a1 c2 x0) ?_ ?_
      · refine cwp_region ?_
        by_cases c19 : x10 < 2
        · rw [if_pos c19] at H
          refine lwp_op (by kernel_rfl) (owp_pure ((.bool true)) (pr_bool (by kernel_rfl) (decide_eq_true c19)) ?_)
          refine lwp_nil ?_
          exact ⟨true, I6, H, ⟨by kernel_rfl, by kernel_rfl, by kernel_rfl, by kernel_rfl, trivial⟩, pt7, r8⟩
        · rw [if_neg c19] at H
          refine lwp_op (by kernel_rfl) (owp_pure ((.bool false)) (pr_bool (by kernel_rfl) (decide_eq_false c19)) ?_)
          refine lwp_nil ?_
          exact ⟨false, I6, H, ⟨by kernel_rfl, by kernel_rfl, by kernel_rfl, by kernel_rfl, trivial⟩, pt7, r8⟩
      · clear H
        rintro ρ' h20 ⟨x24, I21, H, hf, pt22, r23⟩
        refine cwp_fits _ hf ?_
        subst e54
        try dsimp only at H
        refine cwp_seq ?_
        cases x24
        · rw [cond_false] at H
          refine cwp_false (by kernel_rfl) ?_
          refine cwp_exit ?_
          obtain rfl := Option.some.inj H
          show Exists _
          exact ⟨x9, I21, rfl, ⟨by kernel_rfl, trivial⟩, pt22⟩
        · rw [cond_true] at H
          refine cwp_true (by kernel_rfl) ?_
          refine cwp_skip ?_
          refine cwp_seq ?_
          refine cwp_block ?_
          refine cwp_seq ?_
          refine cwp_region ?_
          refine lwp_run 2 (by kernel_rfl) ?_
          refine lwp_nil ?_
          refine cwp_seq ?_
          refine cwp_region ?_
          obtain ⟨c26, H⟩ := guard_pos H
          obtain ⟨c27, H⟩ := guard_pos H
          refine lwp_run 2 (by kernel_rfl) ?_
          have hs28 := (r23.toSl).isSome c26 c27
          refine lwp_op (by kernel_rfl) (owp_pure (elemPtr a1 (x10.toNat * 1)) (pr_indexElem (e := 5) (r23.toSl) (k := .i64) (by kernel_rfl) (by kernel_rfl) (by kernel_rfl) (by kernel_rfl) c26 c27) ?_)
          obtain ⟨cs29, hs30, rp31⟩ := (r23.toSl).seg c26 c27
          obtain rfl := rep_int rp31
          refine lwp_op (by kernel_rfl) (owp_load (by kernel_rfl) (by kernel_rfl) (seg_cell (f := 0) hs30 rfl) ?_)
          obtain ⟨t32, m33, H⟩ := bind_some H
          refine lwp_op (by kernel_rfl) (owp_callF (by kernel_rfl) (six_Get.calls (I := I21) pt22.bd m33) ?_)
          rintro v34 h35 ⟨v38, rfl, rfl, q40⟩
          refine lwp_run 5 (by kernel_rfl) ?_
          refine lwp_nil ?_
          refine cwp_seq ?_
          refine cwp_seq ?_
          refine cwp_region ?_
          refine lwp_run 1 (by kernel_rfl) ?_
          rcases q40.cases with ⟨c41, rfl⟩ | ⟨c41, t42, u43, rfl⟩
          · rw [if_pos c41] at H
            refine lwp_run 1 (by kernel_rfl) ?_
            refine lwp_nil ?_
            refine cwp_false (by kernel_rfl) ?_
            refine cwp_skip ?_
            refine cwp_region ?_
            refine lwp_run 5 (by kernel_rfl) ?_
            refine lwp_nil ?_
            refine cwp_region ?_
            refine lwp_run 2 (by kernel_rfl) ?_
            refine lwp_nil ?_
            show Exists _
            exact ⟨k, Nat.lt_succ_self _, (bOr .i64 (shl .i64 x9 6) t32.1), (w64 (x10 + 1)), I21, H, ⟨by kernel_rfl, by kernel_rfl, by kernel_rfl, trivial⟩, pt22, r23⟩
          · rw [if_neg c41] at H
            refine lwp_run 1 (by kernel_rfl) ?_
            refine lwp_nil ?_
            refine cwp_true (by kernel_rfl) ?_
            refine cwp_seq ?_
            refine cwp_region ?_
            refine lwp_run 2 (by kernel_rfl) ?_
            obtain ⟨t44, m45, H⟩ := bind_some H
            refine lwp_op (by kernel_rfl) (owp_callF (by kernel_rfl) (addr_spot.calls (I := I21) pt22.bd q40 m45) ?_)
            rintro v46 h47 ⟨I48, v50, rfl, p49, q52⟩
            have pt53 := pt22.no p49
            refine lwp_run 2 (by kernel_rfl) ?_
            refine lwp_nil ?_
            refine cwp_ret ?_
            obtain rfl := Option.some.inj H
            obtain rfl := Option.some.inj HR18
            show Exists _
            exact ⟨.tuple #[.int .i64 0, v50], by kernel_rfl, I48, (v50), rfl, pt53, q52⟩
  · rintro ρ' h13 ⟨x16, I14, rfl, hf, pt15⟩
    have H := HR18
    try dsimp only at H
    refine cwp_fits _ hf ?_
    refine cwp_seq ?_
    refine cwp_region ?_
    refine lwp_run 3 (by kernel_rfl) ?_
    refine lwp_nil ?_
    refine cwp_ret ?_
    obtain rfl := Option.some.inj H
    show Exists _
    exact ⟨.tuple #[.int .i64 x16, .nilIface], by kernel_rfl, I14, (.nilIface), rfl, pt15, (show ErrV I14 h13 GoErr.nil .nilIface from rfl)⟩

/-! shutter/addr.Get -/
def addr_Get.m (K : Nat) (x0 : (List Int)) (x1 : Int) : Option (Int × GoErr) :=
  ((addr_sized.m x1).bind fun t5 => bif t5 then (if (x0.length : Int) < 2 then (some (0, (GoErr.no 2))) else (if 0 < (x0.length : Int) then (if 1 < (x0.length : Int) then (letJ (α := Bool → Option (Int × GoErr)) (fun (x32 : Bool) => (bif x32 then ((addr_short.m K x0).bind fun t34 => (if t34.2 = GoErr.nil then (if t34.1 ≥ x1 then (some (0, (GoErr.no 4))) else (some (t34.1, GoErr.nil))) else (some (0, t34.2)))) else (if (at_ x0 0) > 63 then ((addr_spot.m 0 (GoErr.no 3)).bind fun t53 => (some (0, t53))) else (if (bOr .i64 (shl .i64 (w64 ((at_ x0 0))) 8) (w64 ((at_ x0 1)))) ≥ x1 then (some (0, (GoErr.no 4))) else (some ((bOr .i64 (shl .i64 (w64 ((at_ x0 0))) 8) (w64 ((at_ x0 1)))), GoErr.nil)))))) fun (j33 : Bool → Option (Int × GoErr)) => ((addr_Long.m x1).bind fun t22 => bif t22 then (j33 false) else (j33 true))) else none) else none)) else (some (0, (GoErr.no 1))))

set_option maxRecDepth 100000 in
theorem addr_Get.calls {I B : Gh} {h : Heap} {K : Nat} {x0 : List Int} {a1 : Option Addr} {c2 : Nat} {x1 : Int} (hB : Bd I h) (hBB : Bd B h) (r4 : Rd (tInt .u8) (Or2 I B) h a1 c2 x0) {r : (Int × GoErr)}
    (H : addr_Get.m K x0 x1 = some r) :
    Ret Tryd.prog 87 #[.slice a1 x0.length c2, .int .i64 x1] h (fun v h' => ∃ (I' : Gh) (v65 : Value), .tuple #[.int .i64 r.1, v65] = v ∧ Pst No I h I' h' ∧ ErrV I' h' r.2 v65) := by
  unfold addr_Get.m at H
  refine ret_of (args := [.slice a1 x0.length c2, .int .i64 x1]) (rs := [.tmp 4, .tmp 5]) (N := 52) Tryd.func87 rfl rfl rfl (Nat.le_of_ble_eq_true rfl) ?_
  have pt0 : Pst No I h I h := Pst.refl hB
  refine cwp_seq ?_
  refine cwp_region ?_
  refine lwp_run 2 (by kernel_rfl) ?_
  refine lwp_nil ?_
  refine cwp_seq ?_
  refine cwp_seq ?_
  refine cwp_region ?_
  refine lwp_run 1 (by kernel_rfl) ?_
  obtain ⟨t5, m6, H⟩ := bind_some H
  refine lwp_op (by kernel_rfl) (owp_callF (by kernel_rfl) (addr_sized.calls (I := I) hB m6) ?_)
  rintro v7 h8 ⟨_, rfl, rfl⟩
  cases t5
  · rw [cond_false] at H
    refine lwp_run 1 (by kernel_rfl) ?_
    refine lwp_nil ?_
    refine cwp_true (by kernel_rfl) ?_
    refine cwp_seq ?_
    refine cwp_region ?_
    refine lwp_run 3 (by kernel_rfl) ?_
    refine lwp_nil ?_
    refine cwp_ret ?_
    obtain rfl := Option.some.inj H
    show Exists _
    exact ⟨.tuple #[.int .i64 0, .iface 97 (.int .i64 1)], by kernel_rfl, I, (.iface 97 (.int .i64 1)), rfl, pt0, (show ErrV I h (GoErr.no 1) (.iface 97 (.int .i64 1)) from rfl)⟩
  · rw [cond_true] at H
    refine lwp_run 1 (by kernel_rfl) ?_
    refine lwp_nil ?_
    refine cwp_false (by kernel_rfl) ?_
    refine cwp_skip ?_
    refine cwp_seq ?_
    refine cwp_seq ?_
    refine cwp_region ?_
    refine lwp_run 2 (by kernel_rfl) ?_
    by_cases c11 : (x0.length : Int) < 2
    · rw [if_pos c11] at H
      refine lwp_op (by kernel_rfl) (owp_pure ((.bool true)) (pr_bool (by kernel_rfl) (decide_eq_true c11)) ?_)
      refine lwp_nil ?_
      refine cwp_true (by kernel_rfl) ?_
      refine cwp_seq ?_
      refine cwp_region ?_
      refine lwp_run 3 (by kernel_rfl) ?_
      refine lwp_nil ?_
      refine cwp_ret ?_
      obtain rfl := Option.some.inj H
      show Exists _
      exact ⟨.tuple #[.int .i64 0, .iface 97 (.int .i64 2)], by kernel_rfl, I, (.iface 97 (.int .i64 2)), rfl, pt0, (show ErrV I h (GoErr.no 2) (.iface 97 (.int .i64 2)) from rfl)⟩
    · rw [if_neg c11] at H
      refine lwp_op (by kernel_rfl) (owp_pure ((.bool false)) (pr_bool (by kernel_rfl) (decide_eq_false c11)) ?_)
      refine lwp_nil ?_
      refine cwp_false (by kernel_rfl) ?_
      refine cwp_skip ?_
      refine cwp_seq ?_
      refine cwp_regionD (Keep No h) 11 (by kernel_rfl) ?_
      obtain ⟨c12, H⟩ := guard_pos H
      refine awp_run (fuel := 10) [0] Keep.refl (by kernel_rfl) ?_
      have hs13 := (r4.toSl).isSome (by decide) c12
      refine awp_pure 1 (elemPtr a1 ((0 : Int).toNat * 1)) rfl (by kernel_rfl) (by kernel_rfl) (pr_indexElem (e := 5) (r4.toSl) (k := .i64) (by kernel_rfl) (by kernel_rfl) (by kernel_rfl) (by kernel_rfl) (by decide) c12) Keep.refl ?_
      obtain ⟨cs14, hs15, rp16⟩ := (r4.toSl).seg (by decide) c12
      obtain rfl := rep_int rp16
      refine awp_load 2 rfl (by kernel_rfl) (by kernel_rfl) (by kernel_rfl) (by kernel_rfl) Keep.refl (seg_cell (f := 0) hs15 rfl) (fun _ _ x => x.elim) ?_
      obtain ⟨c17, H⟩ := guard_pos H
      refine awp_run (fuel := 5) [3, 4, 5] Keep.refl (by kernel_rfl) ?_
      have hs18 := (r4.toSl).isSome (by decide) c17
      refine awp_pure 6 (elemPtr a1 ((1 : Int).toNat * 1)) rfl (by kernel_rfl) (by kernel_rfl) (pr_indexElem (e := 5) (r4.toSl) (k := .i64) (by kernel_rfl) (by kernel_rfl) (by kernel_rfl) (by kernel_rfl) (by decide) c17) Keep.refl ?_
      obtain ⟨cs19, hs20, rp21⟩ := (r4.toSl).seg (by decide) c17
      obtain rfl := rep_int rp21
      refine awp_load 7 rfl (by kernel_rfl) (by kernel_rfl) (by kernel_rfl) (by kernel_rfl) Keep.refl (seg_cell (f := 0) hs20 rfl) (fun _ _ x => x.elim) ?_
      refine awp_run (fuel := 0) [8, 9, 10] Keep.refl (by kernel_rfl) ?_
      refine awp_nil (by kernel_rfl) ?_ 0
      refine cwp_seq ?_
      refine cwp_block ?_
      obtain ⟨j33, e64, H⟩ := letJ_some H
      refine cwp_join (fun ρ' h28 => ∃ (x32 : Bool) (I29 : Gh), j33 x32 = some r ∧ Fits [(0, .slice a1 x0.length c2), (1, .int .i64 x1), (6, .int .i64 (bOr .i64 (shl .i64 (w64 ((at_ x0 0))) 8) (w64 ((at_ x0 1))))), (27, .bool x32)] ρ' ∧ Pst No I h I29 h28 ∧ Rd (tInt .u8) (Or2 I29 B) h28 a1 c2 x0) ?_ ?_
      · refine cwp_region ?_
        refine lwp_run 1 (by kernel_rfl) ?_
        obtain ⟨t22, m23, H⟩ := bind_some H
        refine lwp_op (by kernel_rfl) (owp_callF (by kernel_rfl) (addr_Long.calls (I := I) hB m23) ?_)
        rintro v24 h25 ⟨_, rfl, rfl⟩
        cases t22
        · rw [cond_false] at H
          refine lwp_run 2 (by kernel_rfl) ?_
          refine lwp_nil ?_
          exact ⟨true, I, H, ⟨by kernel_rfl, by kernel_rfl, by kernel_rfl, by kernel_rfl, trivial⟩, pt0, r4⟩
        · rw [cond_true] at H
          refine lwp_run 2 (by kernel_rfl) ?_
          refine lwp_nil ?_
          exact ⟨false, I, H, ⟨by kernel_rfl, by kernel_rfl, by kernel_rfl, by kernel_rfl, trivial⟩, pt0, r4⟩
      · clear H
        rintro ρ' h28 ⟨x32, I29, H, hf, pt30, r31⟩
        refine cwp_fits _ hf ?_
        subst e64
        try dsimp only at H
        cases x32
        · rw [cond_false] at H
          refine cwp_false (by kernel_rfl) ?_
          refine cwp_seq ?_
          refine cwp_region ?_
          refine lwp_run 1 (by kernel_rfl) ?_
          have hs48 := (r31.toSl).isSome (by decide) c12
          refine lwp_op (by kernel_rfl) (owp_pure (elemPtr a1 ((0 : Int).toNat * 1)) (pr_indexElem (e := 5) (r31.toSl) (k := .i64) (by kernel_rfl) (by kernel_rfl) (by kernel_rfl) (by kernel_rfl) (by decide) c12) ?_)
          obtain ⟨cs49, hs50, rp51⟩ := (r31.toSl).seg (by decide) c12
          obtain rfl := rep_int rp51
          refine lwp_op (by kernel_rfl) (owp_load (by kernel_rfl) (by kernel_rfl) (seg_cell (f := 0) hs50 rfl) ?_)
          by_cases c52 : (at_ x0 0) > 63
          · rw [if_pos c52] at H
            refine lwp_op (by kernel_rfl) (owp_pure ((.bool true)) (pr_bool (by kernel_rfl) (decide_eq_true c52)) ?_)
            refine lwp_run 1 (by kernel_rfl) ?_
            refine lwp_nil ?_
            refine cwp_true (by kernel_rfl) ?_
            refine cwp_seq ?_
            refine cwp_region ?_
            refine lwp_run 1 (by kernel_rfl) ?_
            obtain ⟨t53, m54, H⟩ := bind_some H
            refine lwp_op (by kernel_rfl) (owp_callF (by kernel_rfl) (addr_spot.calls (I := I29) pt30.bd (show ErrV I29 h28 (GoErr.no 3) (.iface 97 (.int .i64 3)) from rfl) m54) ?_)
            rintro v55 h56 ⟨I57, v59, rfl, p58, q61⟩
            have pt62 := pt30.no p58
            refine lwp_run 2 (by kernel_rfl) ?_
            refine lwp_nil ?_
            refine cwp_ret ?_
            obtain rfl := Option.some.inj H
            show Exists _
            exact ⟨.tuple #[.int .i64 0, v59], by kernel_rfl, I57, (v59), rfl, pt62, q61⟩
          · rw [if_neg c52] at H
            refine lwp_op (by kernel_rfl) (owp_pure ((.bool false)) (pr_bool (by kernel_rfl) (decide_eq_false c52)) ?_)
            refine lwp_run 1 (by kernel_rfl) ?_
            refine lwp_nil ?_
            refine cwp_false (by kernel_rfl) ?_
            refine cwp_skip ?_
            refine cwp_seq ?_
            refine cwp_seq ?_
            refine cwp_region ?_
            refine lwp_run 2 (by kernel_rfl) ?_
            by_cases c63 : (bOr .i64 (shl .i64 (w64 ((at_ x0 0))) 8) (w64 ((at_ x0 1)))) ≥ x1
            · rw [if_pos c63] at H
              refine lwp_op (by kernel_rfl) (owp_pure ((.bool true)) (pr_bool (by kernel_rfl) (decide_eq_true c63)) ?_)
              refine lwp_nil ?_
              refine cwp_true (by kernel_rfl) ?_
              refine cwp_seq ?_
              refine cwp_region ?_
              refine lwp_run 3 (by kernel_rfl) ?_
              refine lwp_nil ?_
              refine cwp_ret ?_
              obtain rfl := Option.some.inj H
              show Exists _
              exact ⟨.tuple #[.int .i64 0, .iface 97 (.int .i64 4)], by kernel_rfl, I29, (.iface 97 (.int .i64 4)), rfl, pt30, (show ErrV I29 h28 (GoErr.no 4) (.iface 97 (.int .i64 4)) from rfl)⟩
            · rw [if_neg c63] at H
              refine lwp_op (by kernel_rfl) (owp_pure ((.bool false)) (pr_bool (by kernel_rfl) (decide_eq_false c63)) ?_)
              refine lwp_nil ?_
              refine cwp_false (by kernel_rfl) ?_
              refine cwp_skip ?_
              refine cwp_seq ?_
              refine cwp_region ?_
              refine lwp_run 3 (by kernel_rfl) ?_
              refine lwp_nil ?_
              refine cwp_ret ?_
              obtain rfl := Option.some.inj H
              show Exists _
              exact ⟨.tuple #[.int .i64 (bOr .i64 (shl .i64 (w64 ((at_ x0 0))) 8) (w64 ((at_ x0 1)))), .nilIface], by kernel_rfl, I29, (.nilIface), rfl, pt30, (show ErrV I29 h28 GoErr.nil .nilIface from rfl)⟩
        · rw [cond_true] at H
          refine cwp_true (by kernel_rfl) ?_
          refine cwp_seq ?_
          refine cwp_region ?_
          refine lwp_run 1 (by kernel_rfl) ?_
          obtain ⟨t34, m35, H⟩ := bind_some H
          refine lwp_op (by kernel_rfl) (owp_callF (by kernel_rfl) (addr_short.calls (I := I29) (B := (Or2 I29 B)) pt30.bd (bdOr pt30.bd (hBB.mono pt30.size)) (Rd.mono (I' := Or2 I29 (Or2 I29 B)) r31 (fun _ x => Or.inr x)) m35) ?_)
          rintro v36 h37 ⟨I38, v40, rfl, p39, q42⟩
          have pt43 := pt30.no p39
          refine lwp_run 5 (by kernel_rfl) ?_
          refine lwp_nil ?_
          refine cwp_seq ?_
          refine cwp_seq ?_
          refine cwp_region ?_
          refine lwp_run 1 (by kernel_rfl) ?_
          rcases q42.cases with ⟨c44, rfl⟩ | ⟨c44, t45, u46, rfl⟩
          · rw [if_pos c44] at H
            refine lwp_run 1 (by kernel_rfl) ?_
            refine lwp_nil ?_
            refine cwp_false (by kernel_rfl) ?_
            refine cwp_skip ?_
            refine cwp_region ?_
            refine lwp_run 2 (by kernel_rfl) ?_
            refine lwp_nil ?_
            refine cwp_seq ?_
            refine cwp_seq ?_
            refine cwp_region ?_
            refine lwp_run 2 (by kernel_rfl) ?_
            by_cases c47 : t34.1 ≥ x1
            · rw [if_pos c47] at H
              refine lwp_op (by kernel_rfl) (owp_pure ((.bool true)) (pr_bool (by kernel_rfl) (decide_eq_true c47)) ?_)
              refine lwp_nil ?_
              refine cwp_true (by kernel_rfl) ?_
              refine cwp_seq ?_
              refine cwp_region ?_
              refine lwp_run 3 (by kernel_rfl) ?_
              refine lwp_nil ?_
              refine cwp_ret ?_
              obtain rfl := Option.some.inj H
              show Exists _
              exact ⟨.tuple #[.int .i64 0, .iface 97 (.int .i64 4)], by kernel_rfl, I38, (.iface 97 (.int .i64 4)), rfl, pt43, (show ErrV I38 h37 (GoErr.no 4) (.iface 97 (.int .i64 4)) from rfl)⟩
            · rw [if_neg c47] at H
              refine lwp_op (by kernel_rfl) (owp_pure ((.bool false)) (pr_bool (by kernel_rfl) (decide_eq_false c47)) ?_)
              refine lwp_nil ?_
              refine cwp_false (by kernel_rfl) ?_
              refine cwp_skip ?_
              refine cwp_seq ?_
              refine cwp_region ?_
              refine lwp_run 3 (by kernel_rfl) ?_
              refine lwp_nil ?_
              refine cwp_ret ?_
              obtain rfl := Option.some.inj H
              show Exists _
              exact ⟨.tuple #[.int .i64 t34.1, .nilIface], by kernel_rfl, I38, (.nilIface), rfl, pt43, (show ErrV I38 h37 GoErr.nil .nilIface from rfl)⟩
          · rw [if_neg c44] at H
            refine lwp_run 1 (by kernel_rfl) ?_
            refine lwp_nil ?_
            refine cwp_true (by kernel_rfl) ?_
            refine cwp_seq ?_
            refine cwp_region ?_
            refine lwp_run 3 (by kernel_rfl) ?_
            refine lwp_nil ?_
            refine cwp_ret ?_
            obtain rfl := Option.some.inj H
            show Exists _
            exact ⟨.tuple #[.int .i64 0, (.iface t45 u46)], by kernel_rfl, I38, ((.iface t45 u46)), rfl, pt43, q42⟩

/-! (*shutter/bytes.Cursor).Addr -/
def bytes_Cursor_Addr.m (K : Nat) (x0 : bytes_Cursor) (x1 : Int) : Option (Int × bytes_Cursor) :=
  (if x0.err' = GoErr.nil then (if 0 ≤ x0.at' then (if x0.at' ≤ (x0.b'.length : Int) then ((addr_Get.m K (sub x0.b' x0.at' (x0.b'.length : Int)) x1).bind fun t19 => ((bytes_Cursor_Fail.m x0 t19.2).bind fun t33 => (if t19.2 = GoErr.nil then (some (t19.1, (⟨t33.b', (w64 (t33.at' + 2)), t33.err'⟩ : bytes_Cursor))) else (some (t19.1, t33))))) else none) else none) else (some (0, x0)))

set_option maxRecDepth 100000 in
theorem bytes_Cursor_Addr.calls {I : Gh} {h : Heap} {K : Nat} {b0 : Nat} {x0 : bytes_Cursor} {a1 : Option Addr} {c2 : Nat} {v5 : Value} {x1 : Int} (hB : Bd I h) (o8 : OwnB I h b0 [.slice a1 x0.b'.length c2, .int .i64 x0.at', v5] 153) (r4 : Rd (tInt .u8) I h a1 c2 x0.b') (q7 : ErrV I h x0.err' v5) {r : (Int × bytes_Cursor)}
    (H : bytes_Cursor_Addr.m K x0 x1 = some r) :
    Ret Tryd.prog 57 #[.pointer (some ⟨b0, 0, none⟩), .int .i64 x1] h (fun v h' => ∃ (I' : Gh) (a58 : Option Addr) (c59 : Nat) (v62 : Value), .int .i64 r.1 = v ∧ Pst (One b0) I h I' h' ∧ Rd (tInt .u8) I' h' a58 c59 r.2.b' ∧ ErrV I' h' r.2.err' v62 ∧ OwnB I' h' b0 [.slice a58 r.2.b'.length c59, .int .i64 r.2.at', v62] 153) := by
  unfold bytes_Cursor_Addr.m at H
  refine ret_of (args := [.pointer (some ⟨b0, 0, none⟩), .int .i64 x1]) (rs := [.tmp 4]) (N := 39) Tryd.func57 rfl rfl rfl (Nat.le_of_ble_eq_true rfl) ?_
  have pt0 : Pst (One b0) I h I h := Pst.refl hB
  have nw_b0 : (One b0) b0 ∨ h.size ≤ b0 := .inl rfl
  refine cwp_seq ?_
  refine cwp_region ?_
  refine lwp_run 1 (by kernel_rfl) ?_
  refine lwp_nil ?_
  refine cwp_seq ?_
  refine cwp_seq ?_
  refine cwp_region ?_
  refine lwp_run 3 (by kernel_rfl) ?_
  refine lwp_op (by kernel_rfl) (owp_load (by kernel_rfl) (by kernel_rfl) (o8.cell (off := 2) rfl) ?_)
  rcases q7.cases with ⟨c9, rfl⟩ | ⟨c9, t10, u11, rfl⟩
  · rw [if_pos c9] at H
    refine lwp_run 1 (by kernel_rfl) ?_
    refine lwp_nil ?_
    refine cwp_false (by kernel_rfl) ?_
    refine cwp_skip ?_
    refine cwp_seq ?_
    refine cwp_regionD (Keep No h) 16 (by kernel_rfl) ?_
    refine awp_run (fuel := 13) [0, 1, 2] Keep.refl (by kernel_rfl) ?_
    refine awp_load 3 rfl (by kernel_rfl) (by kernel_rfl) (by kernel_rfl) (by kernel_rfl) Keep.refl (o8.cell (off := 0) rfl) (fun _ _ x => x.elim) ?_
    refine awp_run (fuel := 9) [4, 5, 6] Keep.refl (by kernel_rfl) ?_
    refine awp_load 7 rfl (by kernel_rfl) (by kernel_rfl) (by kernel_rfl) (by kernel_rfl) Keep.refl (o8.cell (off := 1) rfl) (fun _ _ x => x.elim) ?_
    obtain ⟨c12, H⟩ := guard_pos H
    obtain ⟨c13, H⟩ := guard_pos H
    obtain ⟨a16, c17, r15, e18⟩ := r4.part (lo := x0.at') (hi := (x0.b'.length : Int)) c12 c13 (Int.le_refl _)
    refine awp_pure 8 ((.slice a16 ((sub x0.b' x0.at' (x0.b'.length : Int)).length) c17)) rfl (by kernel_rfl) (by kernel_rfl) (pr_slice_l (e := 5) (r4.toSl) e18 (by kernel_rfl) (k1 := .i64) (by kernel_rfl) (by kernel_rfl) (by kernel_rfl) c12 c13 (Int.le_refl _)) Keep.refl ?_
    refine awp_run (fuel := 6) [9] Keep.refl (by kernel_rfl) ?_
    obtain ⟨t19, m20, H⟩ := bind_some H
    refine awp_op 10 (by kernel_rfl) rfl (by kernel_rfl) (owp_callF (by kernel_rfl) (addr_Get.calls (I := I) (B := I) hB hB (Rd.mono (I' := Or2 I I) r15 (fun _ x => Or.inr x)) m20) ?_)
    rintro v21 h22 ⟨I23, v25, rfl, p24, q27⟩
    have pt28 := pt0.no p24
    have hK29 := Keep.post (M := No) Keep.refl (Nat.le_refl _) p24 (fun _ x => x.elim)
    refine ⟨hK29, ?_⟩
    refine awp_run (fuel := 0) [11, 12, 13, 14, 15] hK29 (by kernel_rfl) ?_
    refine awp_nil (by kernel_rfl) ?_ 0
    refine cwp_seq ?_
    refine cwp_region ?_
    refine lwp_run 2 (by kernel_rfl) ?_
    have f30 := o8.post p24 (fun x => x.elim)
    have f31 := r4.up (p24.up hB (fun _ x => x.elim))
    have f32 := ErrV.up (p24.up hB (fun _ x => x.elim)) q7
    obtain ⟨t33, m34, H⟩ := bind_some H
    refine lwp_op (by kernel_rfl) (owp_callF (by kernel_rfl) (bytes_Cursor_Fail.calls (I := I23) p24.bd f30 f31 f32 q27 m34) ?_)
    rintro v35 h36 ⟨I37, a39, c40, v43, rfl, p38, r42, q45, o46⟩
    have pt47 := pt28.own p38 (one_nw nw_b0)
    refine lwp_nil ?_
    refine cwp_seq ?_
    refine cwp_seq ?_
    refine cwp_region ?_
    refine lwp_run 1 (by kernel_rfl) ?_
    have f48 := ErrV.up (p38.up p24.bd (one_not f30.no)) q27
    rcases f48.cases with ⟨c49, rfl⟩ | ⟨c49, t50, u51, rfl⟩
    · rw [if_pos c49] at H
      refine lwp_run 1 (by kernel_rfl) ?_
      refine lwp_nil ?_
      refine cwp_true (by kernel_rfl) ?_
      refine cwp_region ?_
      refine lwp_run 3 (by kernel_rfl) ?_
      refine lwp_op (by kernel_rfl) (owp_load (by kernel_rfl) (by kernel_rfl) (o46.cell (off := 1) rfl) ?_)
      refine lwp_run 3 (by kernel_rfl) ?_
      refine lwp_op (by kernel_rfl) (owp_store1 1 (.int .i64 (w64 (t33.at' + 2))) p38.bd o46 (by kernel_rfl) (by kernel_rfl) rfl (by kernel_rfl) (Nat.le_of_ble_eq_true rfl) ?_)
      intro h52 p53 o54
      have pt55 := pt47.own p53 (one_nw nw_b0)
      refine lwp_nil ?_
      refine cwp_seq ?_
      refine cwp_region ?_
      refine lwp_run 2 (by kernel_rfl) ?_
      refine lwp_nil ?_
      refine cwp_ret ?_
      obtain rfl := Option.some.inj H
      have f56 := r42.up (p53.up p38.bd (one_not o46.no))
      have f57 := ErrV.up (p53.up p38.bd (one_not o46.no)) q45
      show Exists _
      exact ⟨.int .i64 t19.1, by kernel_rfl, I37, a39, c40, (v43), rfl, pt55, f56, f57, o54⟩
    · rw [if_neg c49] at H
      refine lwp_run 1 (by kernel_rfl) ?_
      refine lwp_nil ?_
      refine cwp_false (by kernel_rfl) ?_
      refine cwp_skip ?_
      refine cwp_seq ?_
      refine cwp_region ?_
      refine lwp_run 2 (by kernel_rfl) ?_
      refine lwp_nil ?_
      refine cwp_ret ?_
      obtain rfl := Option.some.inj H
      show Exists _
      exact ⟨.int .i64 t19.1, by kernel_rfl, I37, a39, c40, (v43), rfl, pt47, r42, q45, o46⟩
  · rw [if_neg c9] at H
    refine lwp_run 1 (by kernel_rfl) ?_
    refine lwp_nil ?_
    refine cwp_true (by kernel_rfl) ?_
    refine cwp_seq ?_
    refine cwp_region ?_
    refine lwp_run 1 (by kernel_rfl) ?_
    refine lwp_nil ?_
    refine cwp_ret ?_
    obtain rfl := Option.some.inj H
    show Exists _
    exact ⟨.int .i64 0, by kernel_rfl, I, a1, c2, ((.iface t10 u11)), rfl, pt0, r4, q7, o8⟩

end Go.Proofs.YtlomgckbmdjmhaaDoor.Sx
