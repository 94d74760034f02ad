/- Printed walks, part 1: each function's model, and that the code comes to it. -/
import Derived.Test.YtociikgdocjfnaaDoorProg
import Derived.Test.YtociikgdocjfnaaDoorSx9
import Derived.Test.YtociikgdocjfnaaDoorG0
namespace Go.Proofs.YtociikgdocjfnaaDoor.Sx
open Go

/-! shutter/order.Right -/
def order_Right.m (K : Nat) (x0 : api_Order) (x1 : Int) : Option GoErr :=
  (if x0.Kind < 1 then (some (GoErr.no 5)) else (if x0.Kind > 7 then (some (GoErr.no 5)) else (letJ (α := Bool → Bool → Bool → Bool → Option GoErr) (fun (x30 : Bool) (x31 : Bool) (x32 : Bool) (x33 : Bool) => ((attr_Put.m K x0.Attr).bind fun t37 => (letJ (α := Bool → Option GoErr) (fun (x62 : Bool) => (bif x62 then (some (GoErr.no 1)) else (letJ (α := Bool → Option GoErr) (fun (x74 : Bool) => (bif x74 then (some (GoErr.no 1)) else (letJ (α := Bool → Option GoErr) (fun (x93 : Bool) => (bif x93 then (some (GoErr.no 1)) else (bif x32 then (if x0.Addr < 0 then (some (GoErr.no 4)) else (if x0.Addr ≥ x1 then (some (GoErr.no 4)) else (some GoErr.nil))) else (some GoErr.nil)))) fun (j96 : Bool → Option GoErr) => (bif x33 then ((order_Right_1.m x0.Char).bind fun t79 => bif t79 then (j96 true) else (bif x32 then (j96 false) else (if x0.Addr = 0 then (j96 false) else (j96 true)))) else (if x0.Char = 0 then (bif x32 then (j96 false) else (if x0.Addr = 0 then (j96 false) else (j96 true))) else (j96 true)))))) fun (j77 : Bool → Option GoErr) => (bif x31 then (if t37.2 = GoErr.nil then (j77 false) else (j77 true)) else (bif ((x0.Attr.Protected == false) && ((x0.Attr.Numeric == false) && ((x0.Attr.Show == 0) && ((x0.Attr.Modified == false) && true)))) then (j77 false) else (j77 true)))))) fun (j65 : Bool → Option GoErr) => (bif (x30 != (decide ((x0.Text.length : Int) > 0))) then (j65 true) else ((slices_ContainsFunc_bytes__order_Right_1.m K x0.Text).bind fun t50 => bif t50 then (j65 true) else (j65 false)))))) fun (j36 : Bool → Bool → Bool → Bool → Option GoErr) => ((order_has.m x0.Kind).bind fun t14 => (bif t14.2.1 then (bif t14.2.2.1 then (bif t14.2.2.2 then (j36 t14.1 true true true) else (j36 t14.1 true true false)) else (bif t14.2.2.2 then (j36 t14.1 true false true) else (j36 t14.1 true false false))) else (bif t14.2.2.1 then (bif t14.2.2.2 then (j36 t14.1 false true true) else (j36 t14.1 false true false)) else (bif t14.2.2.2 then (j36 t14.1 false false true) else (j36 t14.1 false false false))))))))

set_option maxRecDepth 100000 in
theorem order_Right.calls {I B : Gh} {h : Heap} {K : Nat} {x0 : api_Order} {a1 : Option Addr} {c2 : Nat} {x1 : Int} (hB : Bd I h) (hBB : Bd B h) (r4 : Rd (tInt .u8) (Or2 I B) h a1 c2 x0.Text) {r : GoErr}
    (H : order_Right.m K x0 x1 = some r) :
    Ret Tryd.prog 14 #[.agg #[.int .i64 x0.Kind, .slice a1 x0.Text.length c2, .bool x0.Attr.Protected, .bool x0.Attr.Numeric, .int .i64 x0.Attr.Show, .bool x0.Attr.Modified, .int .i64 x0.Addr, .int .u8 x0.Char], .int .i64 x1] h (fun v h' => ∃ (I' : Gh) (v104 : Value), v104 = v ∧ Pst No I h I' h' ∧ ErrV I' h' r v104) := by
  unfold order_Right.m at H
  refine ret_of (args := [.agg #[.int .i64 x0.Kind, .slice a1 x0.Text.length c2, .bool x0.Attr.Protected, .bool x0.Attr.Numeric, .int .i64 x0.Attr.Show, .bool x0.Attr.Modified, .int .i64 x0.Addr, .int .u8 x0.Char], .int .i64 x1]) (rs := [.tmp 4]) (N := 107) Tryd.func14 rfl rfl rfl (Nat.le_of_ble_eq_true rfl) ?_
  have pt0 : Pst No I h I h := Pst.refl hB
  refine cwp_seq ?_
  refine cwp_region ?_
  refine lwp_op (by kernel_rfl) (owp_box [.int .i64 x0.Kind, .slice a1 x0.Text.length c2, .bool x0.Attr.Protected, .bool x0.Attr.Numeric, .int .i64 x0.Attr.Show, .bool x0.Attr.Modified, .int .i64 x0.Addr, .int .u8 x0.Char] hB (by kernel_rfl) ?_)
  intro b5 h6 hc7 p8 o9
  have pt10 := pt0.no p8
  have fr11 : No b5 ∨ h.size ≤ b5 := .inr (Nat.le_trans pt0.size hc7)
  refine lwp_run 1 (by kernel_rfl) ?_
  refine lwp_nil ?_
  refine cwp_seq ?_
  refine cwp_seq ?_
  refine cwp_region ?_
  refine lwp_run 1 (by kernel_rfl) ?_
  refine lwp_op (by kernel_rfl) (owp_load (by kernel_rfl) (by kernel_rfl) (o9.cell (off := 0) rfl) ?_)
  by_cases c12 : x0.Kind < 1
  · rw [if_pos c12] at H
    refine lwp_op (by kernel_rfl) (owp_pure ((.bool true)) (pr_bool (by kernel_rfl) (decide_eq_true c12)) ?_)
    refine lwp_run 5 (by kernel_rfl) ?_
    refine lwp_nil ?_
    refine cwp_true (by kernel_rfl) ?_
    refine cwp_seq ?_
    refine cwp_region ?_
    refine lwp_run 2 (by kernel_rfl) ?_
    refine lwp_nil ?_
    refine cwp_ret ?_
    obtain rfl := Option.some.inj H
    show Exists _
    exact ⟨.iface 78 (.int .i64 5), by kernel_rfl, I, (.iface 78 (.int .i64 5)), rfl, pt10, (show ErrV I h6 (GoErr.no 5) (.iface 78 (.int .i64 5)) from rfl)⟩
  · rw [if_neg c12] at H
    refine lwp_op (by kernel_rfl) (owp_pure ((.bool false)) (pr_bool (by kernel_rfl) (decide_eq_false c12)) ?_)
    refine lwp_run 2 (by kernel_rfl) ?_
    refine lwp_op (by kernel_rfl) (owp_load (by kernel_rfl) (by kernel_rfl) (o9.cell (off := 0) rfl) ?_)
    by_cases c13 : x0.Kind > 7
    · rw [if_pos c13] at H
      refine lwp_op (by kernel_rfl) (owp_pure ((.bool true)) (pr_bool (by kernel_rfl) (decide_eq_true c13)) ?_)
      refine lwp_run 1 (by kernel_rfl) ?_
      refine lwp_nil ?_
      refine cwp_true (by kernel_rfl) ?_
      refine cwp_seq ?_
      refine cwp_region ?_
      refine lwp_run 2 (by kernel_rfl) ?_
      refine lwp_nil ?_
      refine cwp_ret ?_
      obtain rfl := Option.some.inj H
      show Exists _
      exact ⟨.iface 78 (.int .i64 5), by kernel_rfl, I, (.iface 78 (.int .i64 5)), rfl, pt10, (show ErrV I h6 (GoErr.no 5) (.iface 78 (.int .i64 5)) from rfl)⟩
    · rw [if_neg c13] at H
      refine lwp_op (by kernel_rfl) (owp_pure ((.bool false)) (pr_bool (by kernel_rfl) (decide_eq_false c13)) ?_)
      refine lwp_run 1 (by kernel_rfl) ?_
      refine lwp_nil ?_
      refine cwp_false (by kernel_rfl) ?_
      refine cwp_skip ?_
      obtain ⟨j36, e103, H⟩ := letJ_some H
      refine cwp_join (fun ρ' h27 => ∃ (x30 : Bool) (x31 : Bool) (x32 : Bool) (x33 : Bool) (I28 : Gh), j36 x30 x31 x32 x33 = some r ∧ Fits [(1, .int .i64 x1), (2, .pointer (some ⟨b5, 0, none⟩)), (5, .bool x30), (6, .bool x31), (7, .bool x32), (8, .bool x33)] ρ' ∧ Pst No I h I28 h27 ∧ Rd (tInt .u8) (Or2 I28 B) h27 a1 c2 x0.Text ∧ OwnB I28 h27 b5 [.int .i64 x0.Kind, .slice a1 x0.Text.length c2, .bool x0.Attr.Protected, .bool x0.Attr.Numeric, .int .i64 x0.Attr.Show, .bool x0.Attr.Modified, .int .i64 x0.Addr, .int .u8 x0.Char] 26) ?_ ?_
      · refine cwp_region ?_
        refine lwp_run 1 (by kernel_rfl) ?_
        refine lwp_op (by kernel_rfl) (owp_load (by kernel_rfl) (by kernel_rfl) (o9.cell (off := 0) rfl) ?_)
        obtain ⟨t14, m15, H⟩ := bind_some H
        refine lwp_op (by kernel_rfl) (owp_callF (by kernel_rfl) (order_has.calls (I := I) p8.bd m15) ?_)
        rintro v16 h17 ⟨_, rfl, rfl⟩
        refine lwp_run 2 (by kernel_rfl) ?_
        rcases bool_or t14.2.1 with c20 | c20
        · replace H := bif_f c20 H
          refine lwp_op (by kernel_rfl) (owp_pure ((.bool false)) (pr_bool (by kernel_rfl) c20) ?_)
          rcases bool_or t14.2.2.1 with c24 | c24
          · replace H := bif_f c24 H
            refine lwp_op (by kernel_rfl) (owp_pure ((.bool false)) (pr_bool (by kernel_rfl) c24) ?_)
            rcases bool_or t14.2.2.2 with c26 | c26
            · replace H := bif_f c26 H
              refine lwp_op (by kernel_rfl) (owp_pure ((.bool false)) (pr_bool (by kernel_rfl) c26) ?_)
              refine lwp_run 4 (by kernel_rfl) ?_
              refine lwp_nil ?_
              have f100015 := r4.up (upOr (p8.up hB (fun _ x => x.elim)) (keepB p8 (hBB.mono pt0.size) (fun _ x => x.elim)))
              exact ⟨t14.1, false, false, false, I, H, ⟨by kernel_rfl, by kernel_rfl, by kernel_rfl, by kernel_rfl, by kernel_rfl, by kernel_rfl, trivial⟩, pt10, f100015, o9⟩
            · replace H := bif_t c26 H
              refine lwp_op (by kernel_rfl) (owp_pure ((.bool true)) (pr_bool (by kernel_rfl) c26) ?_)
              refine lwp_run 4 (by kernel_rfl) ?_
              refine lwp_nil ?_
              have f100014 := r4.up (upOr (p8.up hB (fun _ x => x.elim)) (keepB p8 (hBB.mono pt0.size) (fun _ x => x.elim)))
              exact ⟨t14.1, false, false, true, I, H, ⟨by kernel_rfl, by kernel_rfl, by kernel_rfl, by kernel_rfl, by kernel_rfl, by kernel_rfl, trivial⟩, pt10, f100014, o9⟩
          · replace H := bif_t c24 H
            refine lwp_op (by kernel_rfl) (owp_pure ((.bool true)) (pr_bool (by kernel_rfl) c24) ?_)
            rcases bool_or t14.2.2.2 with c25 | c25
            · replace H := bif_f c25 H
              refine lwp_op (by kernel_rfl) (owp_pure ((.bool false)) (pr_bool (by kernel_rfl) c25) ?_)
              refine lwp_run 4 (by kernel_rfl) ?_
              refine lwp_nil ?_
              have f100013 := r4.up (upOr (p8.up hB (fun _ x => x.elim)) (keepB p8 (hBB.mono pt0.size) (fun _ x => x.elim)))
              exact ⟨t14.1, false, true, false, I, H, ⟨by kernel_rfl, by kernel_rfl, by kernel_rfl, by kernel_rfl, by kernel_rfl, by kernel_rfl, trivial⟩, pt10, f100013, o9⟩
            · replace H := bif_t c25 H
              refine lwp_op (by kernel_rfl) (owp_pure ((.bool true)) (pr_bool (by kernel_rfl) c25) ?_)
              refine lwp_run 4 (by kernel_rfl) ?_
              refine lwp_nil ?_
              have f100012 := r4.up (upOr (p8.up hB (fun _ x => x.elim)) (keepB p8 (hBB.mono pt0.size) (fun _ x => x.elim)))
              exact ⟨t14.1, false, true, true, I, H, ⟨by kernel_rfl, by kernel_rfl, by kernel_rfl, by kernel_rfl, by kernel_rfl, by kernel_rfl, trivial⟩, pt10, f100012, o9⟩
        · replace H := bif_t c20 H
          refine lwp_op (by kernel_rfl) (owp_pure ((.bool true)) (pr_bool (by kernel_rfl) c20) ?_)
          rcases bool_or t14.2.2.1 with c21 | c21
          · replace H := bif_f c21 H
            refine lwp_op (by kernel_rfl) (owp_pure ((.bool false)) (pr_bool (by kernel_rfl) c21) ?_)
            rcases bool_or t14.2.2.2 with c23 | c23
            · replace H := bif_f c23 H
              refine lwp_op (by kernel_rfl) (owp_pure ((.bool false)) (pr_bool (by kernel_rfl) c23) ?_)
              refine lwp_run 4 (by kernel_rfl) ?_
              refine lwp_nil ?_
              have f100011 := r4.up (upOr (p8.up hB (fun _ x => x.elim)) (keepB p8 (hBB.mono pt0.size) (fun _ x => x.elim)))
              exact ⟨t14.1, true, false, false, I, H, ⟨by kernel_rfl, by kernel_rfl, by kernel_rfl, by kernel_rfl, by kernel_rfl, by kernel_rfl, trivial⟩, pt10, f100011, o9⟩
            · replace H := bif_t c23 H
              refine lwp_op (by kernel_rfl) (owp_pure ((.bool true)) (pr_bool (by kernel_rfl) c23) ?_)
              refine lwp_run 4 (by kernel_rfl) ?_
              refine lwp_nil ?_
              have f100010 := r4.up (upOr (p8.up hB (fun _ x => x.elim)) (keepB p8 (hBB.mono pt0.size) (fun _ x => x.elim)))
              exact ⟨t14.1, true, false, true, I, H, ⟨by kernel_rfl, by kernel_rfl, by kernel_rfl, by kernel_rfl, by kernel_rfl, by kernel_rfl, trivial⟩, pt10, f100010, o9⟩
          · replace H := bif_t c21 H
            refine lwp_op (by kernel_rfl) (owp_pure ((.bool true)) (pr_bool (by kernel_rfl) c21) ?_)
            rcases bool_or t14.2.2.2 with c22 | c22
            · replace H := bif_f c22 H
              refine lwp_op (by kernel_rfl) (owp_pure ((.bool false)) (pr_bool (by kernel_rfl) c22) ?_)
              refine lwp_run 4 (by kernel_rfl) ?_
              refine lwp_nil ?_
              have f100009 := r4.up (upOr (p8.up hB (fun _ x => x.elim)) (keepB p8 (hBB.mono pt0.size) (fun _ x => x.elim)))
              exact ⟨t14.1, true, true, false, I, H, ⟨by kernel_rfl, by kernel_rfl, by kernel_rfl, by kernel_rfl, by kernel_rfl, by kernel_rfl, trivial⟩, pt10, f100009, o9⟩
            · replace H := bif_t c22 H
              refine lwp_op (by kernel_rfl) (owp_pure ((.bool true)) (pr_bool (by kernel_rfl) c22) ?_)
              refine lwp_run 4 (by kernel_rfl) ?_
              refine lwp_nil ?_
              have f100008 := r4.up (upOr (p8.up hB (fun _ x => x.elim)) (keepB p8 (hBB.mono pt0.size) (fun _ x => x.elim)))
              exact ⟨t14.1, true, true, true, I, H, ⟨by kernel_rfl, by kernel_rfl, by kernel_rfl, by kernel_rfl, by kernel_rfl, by kernel_rfl, trivial⟩, pt10, f100008, o9⟩
      · clear H
        rintro ρ' h27 ⟨x30, x31, x32, x33, I28, H, hf, pt29, r34, o35⟩
        refine cwp_fits _ hf ?_
        subst e103
        try dsimp only at H
        refine cwp_seq ?_
        refine cwp_region ?_
        refine lwp_run 1 (by kernel_rfl) ?_
        refine lwp_op (by kernel_rfl) (owp_loadN (by kernel_rfl) (by kernel_rfl) (by kernel_rfl) (o35.seg_ 2 4 (Nat.le_of_ble_eq_true rfl)) ?_)
        obtain ⟨t37, m38, H⟩ := bind_some H
        refine lwp_op (by kernel_rfl) (owp_callF (by kernel_rfl) (attr_Put.calls (I := I28) pt29.bd m38) ?_)
        rintro v39 h40 ⟨I41, v43, rfl, p42, q45⟩
        have pt46 := pt29.no p42
        refine lwp_run 5 (by kernel_rfl) ?_
        refine lwp_nil ?_
        refine cwp_seq ?_
        refine cwp_region ?_
        refine lwp_run 1 (by kernel_rfl) ?_
        refine lwp_nil ?_
        refine cwp_seq ?_
        refine cwp_block ?_
        obtain ⟨j65, e102, H⟩ := letJ_some H
        refine cwp_join (fun ρ' h58 => ∃ (x62 : Bool) (I59 : Gh), j65 x62 = some r ∧ Fits [(1, .int .i64 x1), (2, .pointer (some ⟨b5, 0, none⟩)), (6, .bool x31), (7, .bool x32), (8, .bool x33), (10, v43), (11, .func (.func 45) #[] #[]), (35, .bool x62)] ρ' ∧ Pst No I h I59 h58 ∧ ErrV I59 h58 t37.2 v43 ∧ Rd (tInt .u8) (Or2 I59 B) h58 a1 c2 x0.Text ∧ OwnB I59 h58 b5 [.int .i64 x0.Kind, .slice a1 x0.Text.length c2, .bool x0.Attr.Protected, .bool x0.Attr.Numeric, .int .i64 x0.Attr.Show, .bool x0.Attr.Modified, .int .i64 x0.Addr, .int .u8 x0.Char] 26) ?_ ?_
        · refine cwp_region ?_
          refine lwp_run 2 (by kernel_rfl) ?_
          have f47 := o35.post p42 (fun x => x.elim)
          refine lwp_op (by kernel_rfl) (owp_load (by kernel_rfl) (by kernel_rfl) (f47.cell (off := 1) rfl) ?_)
          refine lwp_run 2 (by kernel_rfl) ?_
          rcases bool_or (x30 != (decide ((x0.Text.length : Int) > 0))) with c48 | c48
          · replace H := bif_f c48 H
            refine lwp_op (by kernel_rfl) (owp_pure ((.bool false)) (pr_bool (by kernel_rfl) c48) ?_)
            refine lwp_run 2 (by kernel_rfl) ?_
            refine lwp_op (by kernel_rfl) (owp_load (by kernel_rfl) (by kernel_rfl) (f47.cell (off := 1) rfl) ?_)
            refine lwp_run 1 (by kernel_rfl) ?_
            have f49 := r34.up (upOr (p42.up pt29.bd (fun _ x => x.elim)) (keepB p42 (hBB.mono pt29.size) (fun _ x => x.elim)))
            obtain ⟨t50, m51, H⟩ := bind_some H
            refine lwp_op (by kernel_rfl) (owp_callF (by kernel_rfl) (slices_ContainsFunc_bytes__order_Right_1.calls (I := (Or2 I41 B)) (bdOr p42.bd (hBB.mono pt46.size)) f49 m51) ?_)
            rintro v52 h53 ⟨I54, rfl, p55⟩
            have p56 := Pst.forget p55 p42.bd
            have pt57 := pt46.no p56
            cases t50
            · rw [cond_false] at H
              refine lwp_run 2 (by kernel_rfl) ?_
              refine lwp_nil ?_
              have f100005 := ErrV.up (p56.up p42.bd (fun _ x => x.elim)) q45
              have f100006 := f49.up (upOr (p56.up p42.bd (fun _ x => x.elim)) (keepB p56 (hBB.mono pt46.size) (fun _ x => x.elim)))
              have f100007 := f47.post p56 (fun x => x.elim)
              exact ⟨false, I41, H, ⟨by kernel_rfl, by kernel_rfl, by kernel_rfl, by kernel_rfl, by kernel_rfl, by kernel_rfl, by kernel_rfl, by kernel_rfl, trivial⟩, pt57, f100005, f100006, f100007⟩
            · rw [cond_true] at H
              refine lwp_run 2 (by kernel_rfl) ?_
              refine lwp_nil ?_
              have f100002 := ErrV.up (p56.up p42.bd (fun _ x => x.elim)) q45
              have f100003 := f49.up (upOr (p56.up p42.bd (fun _ x => x.elim)) (keepB p56 (hBB.mono pt46.size) (fun _ x => x.elim)))
              have f100004 := f47.post p56 (fun x => x.elim)
              exact ⟨true, I41, H, ⟨by kernel_rfl, by kernel_rfl, by kernel_rfl, by kernel_rfl, by kernel_rfl, by kernel_rfl, by kernel_rfl, by kernel_rfl, trivial⟩, pt57, f100002, f100003, f100004⟩
          · replace H := bif_t c48 H
            refine lwp_op (by kernel_rfl) (owp_pure ((.bool true)) (pr_bool (by kernel_rfl) c48) ?_)
            refine lwp_run 7 (by kernel_rfl) ?_
            refine lwp_nil ?_
            have f100001 := r34.up (upOr (p42.up pt29.bd (fun _ x => x.elim)) (keepB p42 (hBB.mono pt29.size) (fun _ x => x.elim)))
            exact ⟨true, I41, H, ⟨by kernel_rfl, by kernel_rfl, by kernel_rfl, by kernel_rfl, by kernel_rfl, by kernel_rfl, by kernel_rfl, by kernel_rfl, trivial⟩, pt46, q45, f100001, f47⟩
        · clear H
          rintro ρ' h58 ⟨x62, I59, H, hf, pt60, q61, r63, o64⟩
          refine cwp_fits _ hf ?_
          subst e102
          try dsimp only at H
          cases x62
          · rw [cond_false] at H
            refine cwp_false (by kernel_rfl) ?_
            obtain ⟨j77, e101, H⟩ := letJ_some H
            refine cwp_join (fun ρ' h71 => ∃ (x74 : Bool) (I72 : Gh), j77 x74 = some r ∧ Fits [(1, .int .i64 x1), (2, .pointer (some ⟨b5, 0, none⟩)), (7, .bool x32), (8, .bool x33), (11, .func (.func 45) #[] #[]), (49, .bool x74)] ρ' ∧ Pst No I h I72 h71 ∧ Rd (tInt .u8) (Or2 I72 B) h71 a1 c2 x0.Text ∧ OwnB I72 h71 b5 [.int .i64 x0.Kind, .slice a1 x0.Text.length c2, .bool x0.Attr.Protected, .bool x0.Attr.Numeric, .int .i64 x0.Attr.Show, .bool x0.Attr.Modified, .int .i64 x0.Addr, .int .u8 x0.Char] 26) ?_ ?_
            · refine cwp_region ?_
              rcases bool_or x31 with c66 | c66
              · replace H := bif_f c66 H
                refine lwp_op (by kernel_rfl) (owp_pure ((.bool false)) (pr_bool (by kernel_rfl) c66) ?_)
                refine lwp_run 5 (by kernel_rfl) ?_
                refine lwp_op (by kernel_rfl) (owp_pure ((.bool false)) (pr_bool (by kernel_rfl) c66) ?_)
                refine lwp_run 3 (by kernel_rfl) ?_
                refine lwp_op (by kernel_rfl) (owp_loadN (by kernel_rfl) (by kernel_rfl) (by kernel_rfl) (o64.seg_ 2 4 (Nat.le_of_ble_eq_true rfl)) ?_)
                refine lwp_run 1 (by kernel_rfl) ?_
                rcases bool_or ((x0.Attr.Protected == false) && ((x0.Attr.Numeric == false) && ((x0.Attr.Show == 0) && ((x0.Attr.Modified == false) && true)))) with c70 | c70
                · replace H := bif_f c70 H
                  refine lwp_op (by kernel_rfl) (owp_run (.bool true) (run_bool (run_neAgg (xs := #[.bool x0.Attr.Protected, .bool x0.Attr.Numeric, .int .i64 x0.Attr.Show, .bool x0.Attr.Modified]) (ys := #[.bool false, .bool false, .int .i64 0, .bool false]) (by kernel_rfl) (by kernel_rfl) (by kernel_rfl) (eqB_run (b := ((x0.Attr.Protected == false) && ((x0.Attr.Numeric == false) && ((x0.Attr.Show == 0) && ((x0.Attr.Modified == false) && true))))) (by kernel_rfl))) (notB c70)) ?_)
                  refine lwp_run 3 (by kernel_rfl) ?_
                  refine lwp_nil ?_
                  exact ⟨true, I59, H, ⟨by kernel_rfl, by kernel_rfl, by kernel_rfl, by kernel_rfl, by kernel_rfl, by kernel_rfl, trivial⟩, pt60, r63, o64⟩
                · replace H := bif_t c70 H
                  refine lwp_op (by kernel_rfl) (owp_run (.bool false) (run_bool (run_neAgg (xs := #[.bool x0.Attr.Protected, .bool x0.Attr.Numeric, .int .i64 x0.Attr.Show, .bool x0.Attr.Modified]) (ys := #[.bool false, .bool false, .int .i64 0, .bool false]) (by kernel_rfl) (by kernel_rfl) (by kernel_rfl) (eqB_run (b := ((x0.Attr.Protected == false) && ((x0.Attr.Numeric == false) && ((x0.Attr.Show == 0) && ((x0.Attr.Modified == false) && true))))) (by kernel_rfl))) (notB c70)) ?_)
                  refine lwp_run 3 (by kernel_rfl) ?_
                  refine lwp_nil ?_
                  exact ⟨false, I59, H, ⟨by kernel_rfl, by kernel_rfl, by kernel_rfl, by kernel_rfl, by kernel_rfl, by kernel_rfl, trivial⟩, pt60, r63, o64⟩
              · replace H := bif_t c66 H
                refine lwp_op (by kernel_rfl) (owp_pure ((.bool true)) (pr_bool (by kernel_rfl) c66) ?_)
                refine lwp_run 2 (by kernel_rfl) ?_
                rcases q61.cases with ⟨c67, rfl⟩ | ⟨c67, t68, u69, rfl⟩
                · rw [if_pos c67] at H
                  refine lwp_run 3 (by kernel_rfl) ?_
                  refine lwp_op (by kernel_rfl) (owp_pure ((.bool true)) (pr_bool (by kernel_rfl) c66) ?_)
                  refine lwp_run 9 (by kernel_rfl) ?_
                  refine lwp_nil ?_
                  exact ⟨false, I59, H, ⟨by kernel_rfl, by kernel_rfl, by kernel_rfl, by kernel_rfl, by kernel_rfl, by kernel_rfl, trivial⟩, pt60, r63, o64⟩
                · rw [if_neg c67] at H
                  refine lwp_run 13 (by kernel_rfl) ?_
                  refine lwp_nil ?_
                  exact ⟨true, I59, H, ⟨by kernel_rfl, by kernel_rfl, by kernel_rfl, by kernel_rfl, by kernel_rfl, by kernel_rfl, trivial⟩, pt60, r63, o64⟩
            · clear H
              rintro ρ' h71 ⟨x74, I72, H, hf, pt73, r75, o76⟩
              refine cwp_fits _ hf ?_
              subst e101
              try dsimp only at H
              cases x74
              · rw [cond_false] at H
                refine cwp_false (by kernel_rfl) ?_
                obtain ⟨j96, e100, H⟩ := letJ_some H
                refine cwp_join (fun ρ' h90 => ∃ (x93 : Bool) (I91 : Gh), j96 x93 = some r ∧ Fits [(1, .int .i64 x1), (2, .pointer (some ⟨b5, 0, none⟩)), (7, .bool x32), (66, .bool x93)] ρ' ∧ Pst No I h I91 h90 ∧ Rd (tInt .u8) (Or2 I91 B) h90 a1 c2 x0.Text ∧ OwnB I91 h90 b5 [.int .i64 x0.Kind, .slice a1 x0.Text.length c2, .bool x0.Attr.Protected, .bool x0.Attr.Numeric, .int .i64 x0.Attr.Show, .bool x0.Attr.Modified, .int .i64 x0.Addr, .int .u8 x0.Char] 26) ?_ ?_
                · refine cwp_region ?_
                  rcases bool_or x33 with c78 | c78
                  · replace H := bif_f c78 H
                    refine lwp_op (by kernel_rfl) (owp_pure ((.bool false)) (pr_bool (by kernel_rfl) c78) ?_)
                    refine lwp_run 7 (by kernel_rfl) ?_
                    refine lwp_op (by kernel_rfl) (owp_pure ((.bool false)) (pr_bool (by kernel_rfl) c78) ?_)
                    refine lwp_run 3 (by kernel_rfl) ?_
                    refine lwp_op (by kernel_rfl) (owp_load (by kernel_rfl) (by kernel_rfl) (o76.cell (off := 7) rfl) ?_)
                    by_cases c87 : x0.Char = 0
                    · rw [if_pos c87] at H
                      refine lwp_op (by kernel_rfl) (owp_pure ((.bool false)) (pr_bool (by kernel_rfl) (neF c87)) ?_)
                      refine lwp_run 3 (by kernel_rfl) ?_
                      rcases bool_or x32 with c88 | c88
                      · replace H := bif_f c88 H
                        refine lwp_op (by kernel_rfl) (owp_pure ((.bool false)) (pr_bool (by kernel_rfl) c88) ?_)
                        refine lwp_run 3 (by kernel_rfl) ?_
                        refine lwp_op (by kernel_rfl) (owp_load (by kernel_rfl) (by kernel_rfl) (o76.cell (off := 6) rfl) ?_)
                        by_cases c89 : x0.Addr = 0
                        · rw [if_pos c89] at H
                          refine lwp_op (by kernel_rfl) (owp_pure ((.bool false)) (pr_bool (by kernel_rfl) (neF c89)) ?_)
                          refine lwp_run 3 (by kernel_rfl) ?_
                          refine lwp_nil ?_
                          exact ⟨false, I72, H, ⟨by kernel_rfl, by kernel_rfl, by kernel_rfl, by kernel_rfl, trivial⟩, pt73, r75, o76⟩
                        · rw [if_neg c89] at H
                          refine lwp_op (by kernel_rfl) (owp_pure ((.bool true)) (pr_bool (by kernel_rfl) (neT c89)) ?_)
                          refine lwp_run 3 (by kernel_rfl) ?_
                          refine lwp_nil ?_
                          exact ⟨true, I72, H, ⟨by kernel_rfl, by kernel_rfl, by kernel_rfl, by kernel_rfl, trivial⟩, pt73, r75, o76⟩
                      · replace H := bif_t c88 H
                        refine lwp_op (by kernel_rfl) (owp_pure ((.bool true)) (pr_bool (by kernel_rfl) c88) ?_)
                        refine lwp_run 8 (by kernel_rfl) ?_
                        refine lwp_nil ?_
                        exact ⟨false, I72, H, ⟨by kernel_rfl, by kernel_rfl, by kernel_rfl, by kernel_rfl, trivial⟩, pt73, r75, o76⟩
                    · rw [if_neg c87] at H
                      refine lwp_op (by kernel_rfl) (owp_pure ((.bool true)) (pr_bool (by kernel_rfl) (neT c87)) ?_)
                      refine lwp_run 12 (by kernel_rfl) ?_
                      refine lwp_nil ?_
                      exact ⟨true, I72, H, ⟨by kernel_rfl, by kernel_rfl, by kernel_rfl, by kernel_rfl, trivial⟩, pt73, r75, o76⟩
                  · replace H := bif_t c78 H
                    refine lwp_op (by kernel_rfl) (owp_pure ((.bool true)) (pr_bool (by kernel_rfl) c78) ?_)
                    refine lwp_run 3 (by kernel_rfl) ?_
                    refine lwp_op (by kernel_rfl) (owp_load (by kernel_rfl) (by kernel_rfl) (o76.cell (off := 7) rfl) ?_)
                    obtain ⟨t79, m80, H⟩ := bind_some H
                    refine lwp_op (by kernel_rfl) (owp_callF (by kernel_rfl) (order_Right_1.calls (I := I72) pt73.bd m80) ?_)
                    rintro v81 h82 ⟨_, rfl, rfl⟩
                    cases t79
                    · rw [cond_false] at H
                      refine lwp_run 2 (by kernel_rfl) ?_
                      refine lwp_op (by kernel_rfl) (owp_pure ((.bool true)) (pr_bool (by kernel_rfl) c78) ?_)
                      refine lwp_run 8 (by kernel_rfl) ?_
                      rcases bool_or x32 with c85 | c85
                      · replace H := bif_f c85 H
                        refine lwp_op (by kernel_rfl) (owp_pure ((.bool false)) (pr_bool (by kernel_rfl) c85) ?_)
                        refine lwp_run 3 (by kernel_rfl) ?_
                        refine lwp_op (by kernel_rfl) (owp_load (by kernel_rfl) (by kernel_rfl) (o76.cell (off := 6) rfl) ?_)
                        by_cases c86 : x0.Addr = 0
                        · rw [if_pos c86] at H
                          refine lwp_op (by kernel_rfl) (owp_pure ((.bool false)) (pr_bool (by kernel_rfl) (neF c86)) ?_)
                          refine lwp_run 3 (by kernel_rfl) ?_
                          refine lwp_nil ?_
                          exact ⟨false, I72, H, ⟨by kernel_rfl, by kernel_rfl, by kernel_rfl, by kernel_rfl, trivial⟩, pt73, r75, o76⟩
                        · rw [if_neg c86] at H
                          refine lwp_op (by kernel_rfl) (owp_pure ((.bool true)) (pr_bool (by kernel_rfl) (neT c86)) ?_)
                          refine lwp_run 3 (by kernel_rfl) ?_
                          refine lwp_nil ?_
                          exact ⟨true, I72, H, ⟨by kernel_rfl, by kernel_rfl, by kernel_rfl, by kernel_rfl, trivial⟩, pt73, r75, o76⟩
                      · replace H := bif_t c85 H
                        refine lwp_op (by kernel_rfl) (owp_pure ((.bool true)) (pr_bool (by kernel_rfl) c85) ?_)
                        refine lwp_run 8 (by kernel_rfl) ?_
                        refine lwp_nil ?_
                        exact ⟨false, I72, H, ⟨by kernel_rfl, by kernel_rfl, by kernel_rfl, by kernel_rfl, trivial⟩, pt73, r75, o76⟩
                    · rw [cond_true] at H
                      refine lwp_run 20 (by kernel_rfl) ?_
                      refine lwp_nil ?_
                      exact ⟨true, I72, H, ⟨by kernel_rfl, by kernel_rfl, by kernel_rfl, by kernel_rfl, trivial⟩, pt73, r75, o76⟩
                · clear H
                  rintro ρ' h90 ⟨x93, I91, H, hf, pt92, r94, o95⟩
                  refine cwp_fits _ hf ?_
                  subst e100
                  try dsimp only at H
                  cases x93
                  · rw [cond_false] at H
                    refine cwp_false (by kernel_rfl) ?_
                    refine cwp_seq ?_
                    refine cwp_region ?_
                    rcases bool_or x32 with c97 | c97
                    · replace H := bif_f c97 H
                      refine lwp_op (by kernel_rfl) (owp_pure ((.bool false)) (pr_bool (by kernel_rfl) c97) ?_)
                      refine lwp_run 12 (by kernel_rfl) ?_
                      refine lwp_nil ?_
                      refine cwp_false (by kernel_rfl) ?_
                      refine cwp_skip ?_
                      refine cwp_seq ?_
                      refine cwp_region ?_
                      refine lwp_run 1 (by kernel_rfl) ?_
                      refine lwp_nil ?_
                      refine cwp_ret ?_
                      obtain rfl := Option.some.inj H
                      show Exists _
                      exact ⟨.nilIface, by kernel_rfl, I91, (.nilIface), rfl, pt92, (show ErrV I91 h90 GoErr.nil .nilIface from rfl)⟩
                    · replace H := bif_t c97 H
                      refine lwp_op (by kernel_rfl) (owp_pure ((.bool true)) (pr_bool (by kernel_rfl) c97) ?_)
                      refine lwp_run 2 (by kernel_rfl) ?_
                      refine lwp_op (by kernel_rfl) (owp_load (by kernel_rfl) (by kernel_rfl) (o95.cell (off := 6) rfl) ?_)
                      by_cases c98 : x0.Addr < 0
                      · rw [if_pos c98] at H
                        refine lwp_op (by kernel_rfl) (owp_pure ((.bool true)) (pr_bool (by kernel_rfl) (decide_eq_true c98)) ?_)
                        refine lwp_run 8 (by kernel_rfl) ?_
                        refine lwp_nil ?_
                        refine cwp_true (by kernel_rfl) ?_
                        refine cwp_seq ?_
                        refine cwp_region ?_
                        refine lwp_run 2 (by kernel_rfl) ?_
                        refine lwp_nil ?_
                        refine cwp_ret ?_
                        obtain rfl := Option.some.inj H
                        show Exists _
                        exact ⟨.iface 78 (.int .i64 4), by kernel_rfl, I91, (.iface 78 (.int .i64 4)), rfl, pt92, (show ErrV I91 h90 (GoErr.no 4) (.iface 78 (.int .i64 4)) from rfl)⟩
                      · rw [if_neg c98] at H
                        refine lwp_op (by kernel_rfl) (owp_pure ((.bool false)) (pr_bool (by kernel_rfl) (decide_eq_false c98)) ?_)
                        refine lwp_run 2 (by kernel_rfl) ?_
                        refine lwp_op (by kernel_rfl) (owp_load (by kernel_rfl) (by kernel_rfl) (o95.cell (off := 6) rfl) ?_)
                        refine lwp_run 1 (by kernel_rfl) ?_
                        by_cases c99 : x0.Addr ≥ x1
                        · rw [if_pos c99] at H
                          refine lwp_op (by kernel_rfl) (owp_pure ((.bool true)) (pr_bool (by kernel_rfl) (decide_eq_true c99)) ?_)
                          refine lwp_run 3 (by kernel_rfl) ?_
                          refine lwp_nil ?_
                          refine cwp_true (by kernel_rfl) ?_
                          refine cwp_seq ?_
                          refine cwp_region ?_
                          refine lwp_run 2 (by kernel_rfl) ?_
                          refine lwp_nil ?_
                          refine cwp_ret ?_
                          obtain rfl := Option.some.inj H
                          show Exists _
                          exact ⟨.iface 78 (.int .i64 4), by kernel_rfl, I91, (.iface 78 (.int .i64 4)), rfl, pt92, (show ErrV I91 h90 (GoErr.no 4) (.iface 78 (.int .i64 4)) from rfl)⟩
                        · rw [if_neg c99] at H
                          refine lwp_op (by kernel_rfl) (owp_pure ((.bool false)) (pr_bool (by kernel_rfl) (decide_eq_false c99)) ?_)
                          refine lwp_run 3 (by kernel_rfl) ?_
                          refine lwp_nil ?_
                          refine cwp_false (by kernel_rfl) ?_
                          refine cwp_skip ?_
                          refine cwp_seq ?_
                          refine cwp_region ?_
                          refine lwp_run 1 (by kernel_rfl) ?_
                          refine lwp_nil ?_
                          refine cwp_ret ?_
                          obtain rfl := Option.some.inj H
                          show Exists _
                          exact ⟨.nilIface, by kernel_rfl, I91, (.nilIface), rfl, pt92, (show ErrV I91 h90 GoErr.nil .nilIface from rfl)⟩
                  · rw [cond_true] at H
                    refine cwp_true (by kernel_rfl) ?_
                    refine cwp_seq ?_
                    refine cwp_region ?_
                    refine lwp_run 2 (by kernel_rfl) ?_
                    refine lwp_nil ?_
                    refine cwp_ret ?_
                    obtain rfl := Option.some.inj H
                    show Exists _
                    exact ⟨.iface 78 (.int .i64 1), by kernel_rfl, I91, (.iface 78 (.int .i64 1)), rfl, pt92, (show ErrV I91 h90 (GoErr.no 1) (.iface 78 (.int .i64 1)) from rfl)⟩
              · rw [cond_true] at H
                refine cwp_true (by kernel_rfl) ?_
                refine cwp_seq ?_
                refine cwp_region ?_
                refine lwp_run 2 (by kernel_rfl) ?_
                refine lwp_nil ?_
                refine cwp_ret ?_
                obtain rfl := Option.some.inj H
                show Exists _
                exact ⟨.iface 78 (.int .i64 1), by kernel_rfl, I72, (.iface 78 (.int .i64 1)), rfl, pt73, (show ErrV I72 h71 (GoErr.no 1) (.iface 78 (.int .i64 1)) from rfl)⟩
          · rw [cond_true] at H
            refine cwp_true (by kernel_rfl) ?_
            refine cwp_seq ?_
            refine cwp_region ?_
            refine lwp_run 2 (by kernel_rfl) ?_
            refine lwp_nil ?_
            refine cwp_ret ?_
            obtain rfl := Option.some.inj H
            show Exists _
            exact ⟨.iface 78 (.int .i64 1), by kernel_rfl, I59, (.iface 78 (.int .i64 1)), rfl, pt60, (show ErrV I59 h58 (GoErr.no 1) (.iface 78 (.int .i64 1)) from rfl)⟩

/-! shutter/order.Put -/
def order_Put.m (K : Nat) (x0 : api_Order) (x1 : Int) : Option ((List Int) × GoErr) :=
  ((order_Right.m K x0 x1).bind fun t13 => (if t13 = GoErr.nil then (if x0.Kind = 1 then ((slices_Clone_bytes.m x0.Text).bind fun t29 => (some (t29, GoErr.nil))) else ((order_byteOf.m x0.Kind).bind fun t45 => (letJ (α := (List Int) → Option ((List Int) × GoErr)) (fun (x181 : List Int) => (if x0.Kind = 6 then ((app x181 [x0.Char]).bind fun l203 => (some (l203, GoErr.nil))) else (some (x181, GoErr.nil)))) fun (j190 : (List Int) → Option ((List Int) × GoErr)) => (letJ (α := Bool → Option ((List Int) × GoErr)) (fun (x66 : Bool) => (bif x66 then ((attr_Put.m K x0.Attr).bind fun t70 => ((app [t45] [t70.1]).bind fun l94 => (some (l94, t70.2)))) else (letJ (α := Bool → Option ((List Int) × GoErr)) (fun (x118 : Bool) => (bif x118 then ((addr_Put.m K x0.Addr x1).bind fun t122 => (if t122.2 = GoErr.nil then ((app [t45] t122.1).bind fun l162 => (j190 l162)) else (some ([], t122.2)))) else (j190 [t45]))) fun (j121 : Bool → Option ((List Int) × GoErr)) => (if x0.Kind = 3 then (j121 true) else (if x0.Kind = 6 then (j121 true) else (if x0.Kind = 7 then (j121 true) else (j121 false))))))) fun (j69 : Bool → Option ((List Int) × GoErr)) => (if x0.Kind = 2 then (j69 true) else (j69 false)))))) else (some ([], t13))))

set_option maxRecDepth 100000 in
theorem order_Put.calls {I B : Gh} {h : Heap} {K : Nat} {x0 : api_Order} {a1 : Option Addr} {c2 : Nat} {x1 : Int} (hB : Bd I h) (hBB : Bd B h) (r4 : Rd (tInt .u8) (Or2 I B) h a1 c2 x0.Text) {r : ((List Int) × GoErr)}
    (H : order_Put.m K x0 x1 = some r) :
    Ret Tryd.prog 12 #[.agg #[.int .i64 x0.Kind, .slice a1 x0.Text.length c2, .bool x0.Attr.Protected, .bool x0.Attr.Numeric, .int .i64 x0.Attr.Show, .bool x0.Attr.Modified, .int .i64 x0.Addr, .int .u8 x0.Char], .int .i64 x1] h (fun v h' => ∃ (I' : Gh) (a218 : Option Addr) (c219 : Nat) (v223 : Value), .tuple #[.slice a218 r.1.length c219, v223] = v ∧ Pst No I h I' h' ∧ Own (tInt .u8) I' h' a218 c219 r.1 ∧ (∀ b, InA a218 b → No b ∨ h.size ≤ b) ∧ ErrV I' h' r.2 v223) := by
  unfold order_Put.m at H
  refine ret_of (args := [.agg #[.int .i64 x0.Kind, .slice a1 x0.Text.length c2, .bool x0.Attr.Protected, .bool x0.Attr.Numeric, .int .i64 x0.Attr.Show, .bool x0.Attr.Modified, .int .i64 x0.Addr, .int .u8 x0.Char], .int .i64 x1]) (rs := [.tmp 4, .tmp 5]) (N := 69) Tryd.func12 rfl rfl rfl (Nat.le_of_ble_eq_true rfl) ?_
  have pt0 : Pst No I h I h := Pst.refl hB
  refine cwp_seq ?_
  refine cwp_region ?_
  refine lwp_op (by kernel_rfl) (owp_box [.int .i64 x0.Kind, .slice a1 x0.Text.length c2, .bool x0.Attr.Protected, .bool x0.Attr.Numeric, .int .i64 x0.Attr.Show, .bool x0.Attr.Modified, .int .i64 x0.Addr, .int .u8 x0.Char] hB (by kernel_rfl) ?_)
  intro b5 h6 hc7 p8 o9
  have pt10 := pt0.no p8
  have fr11 : No b5 ∨ h.size ≤ b5 := .inr (Nat.le_trans pt0.size hc7)
  refine lwp_run 2 (by kernel_rfl) ?_
  refine lwp_nil ?_
  refine cwp_seq ?_
  refine cwp_seq ?_
  refine cwp_region ?_
  refine lwp_op (by kernel_rfl) (owp_loadN (by kernel_rfl) (by kernel_rfl) (by kernel_rfl) (o9.seg_ 0 8 (Nat.le_of_ble_eq_true rfl)) ?_)
  refine lwp_run 1 (by kernel_rfl) ?_
  have f12 := r4.up (upOr (p8.up hB (fun _ x => x.elim)) (keepB p8 (hBB.mono pt0.size) (fun _ x => x.elim)))
  obtain ⟨t13, m14, H⟩ := bind_some H
  refine lwp_op (by kernel_rfl) (owp_callF (by kernel_rfl) (order_Right.calls (I := I) (B := (Or2 I B)) p8.bd (bdOr p8.bd (hBB.mono pt10.size)) (Rd.mono (I' := Or2 I (Or2 I B)) f12 (fun _ x => Or.inr x)) m14) ?_)
  rintro v15 h16 ⟨I17, v19, rfl, p18, q21⟩
  have pt22 := pt10.no p18
  refine lwp_run 1 (by kernel_rfl) ?_
  refine lwp_nil ?_
  refine cwp_seq ?_
  refine cwp_region ?_
  refine lwp_run 1 (by kernel_rfl) ?_
  rcases q21.cases with ⟨c23, rfl⟩ | ⟨c23, t24, u25, rfl⟩
  · rw [if_pos c23] at H
    refine lwp_run 1 (by kernel_rfl) ?_
    refine lwp_nil ?_
    refine cwp_false (by kernel_rfl) ?_
    refine cwp_skip ?_
    refine cwp_seq ?_
    refine cwp_seq ?_
    refine cwp_region ?_
    refine lwp_run 1 (by kernel_rfl) ?_
    have f26 := o9.post p18 (fun x => x.elim)
    refine lwp_op (by kernel_rfl) (owp_load (by kernel_rfl) (by kernel_rfl) (f26.cell (off := 0) rfl) ?_)
    by_cases c27 : x0.Kind = 1
    · rw [if_pos c27] at H
      refine lwp_op (by kernel_rfl) (owp_pure ((.bool true)) (pr_bool (by kernel_rfl) (eqT c27)) ?_)
      refine lwp_nil ?_
      refine cwp_true (by kernel_rfl) ?_
      refine cwp_seq ?_
      refine cwp_region ?_
      refine lwp_run 1 (by kernel_rfl) ?_
      refine lwp_op (by kernel_rfl) (owp_load (by kernel_rfl) (by kernel_rfl) (f26.cell (off := 1) rfl) ?_)
      have f28 := f12.up (upOr (p18.up p8.bd (fun _ x => x.elim)) (keepB p18 (hBB.mono pt10.size) (fun _ x => x.elim)))
      obtain ⟨t29, m30, H⟩ := bind_some H
      refine lwp_op (by kernel_rfl) (owp_callF (by kernel_rfl) (slices_Clone_bytes.calls (I := (Or2 I17 B)) (bdOr p18.bd (hBB.mono pt22.size)) f28 m30) ?_)
      rintro v31 h32 ⟨I33, a35, c36, rfl, p34, r38, fr39⟩
      have p40 := Pst.forget p34 p18.bd
      have w41 := OwnX.forget r38 flat_int (fun b x => p34.sub b (Or.inl x))
      have pt42 := pt22.no p40
      have fr43 := nw_step (M := No) (n := h.size) (fun _ x => x.elim) fr39 pt22.size
      have d44 := step_blk fr39 f26.lt (fun x => x.elim)
      refine lwp_run 2 (by kernel_rfl) ?_
      refine lwp_nil ?_
      refine cwp_ret ?_
      obtain rfl := Option.some.inj H
      show Exists _
      exact ⟨.tuple #[.slice a35 t29.length c36, .nilIface], by kernel_rfl, I17, a35, c36, (.nilIface), rfl, pt42, w41, fr43, (show ErrV I17 h32 GoErr.nil .nilIface from rfl)⟩
    · rw [if_neg c27] at H
      refine lwp_op (by kernel_rfl) (owp_pure ((.bool false)) (pr_bool (by kernel_rfl) (eqF c27)) ?_)
      refine lwp_nil ?_
      refine cwp_false (by kernel_rfl) ?_
      refine cwp_skip ?_
      refine cwp_seq ?_
      refine cwp_region ?_
      refine lwp_run 1 (by kernel_rfl) ?_
      refine lwp_op (by kernel_rfl) (owp_load (by kernel_rfl) (by kernel_rfl) (f26.cell (off := 0) rfl) ?_)
      obtain ⟨t45, m46, H⟩ := bind_some H
      refine lwp_op (by kernel_rfl) (owp_callF (by kernel_rfl) (order_byteOf.calls (I := I17) p18.bd m46) ?_)
      rintro v47 h48 ⟨_, rfl, rfl⟩
      refine lwp_op (by kernel_rfl) (owp_buildSlice (e := 5) [.int .u8 t45] 1 (.int .u8 0) p18.bd (by kernel_rfl) (by kernel_rfl) (by kernel_rfl) (by kernel_rfl) (by kernel_rfl) ?_)
      intro b51 h52 hc53 p54 o55
      have pt56 := pt22.no p54
      have w57 := o55.own (l := ([t45] : List Int)) (Reps.int (I := I17) (k := .u8) (l := [t45]))
      have fw57 := some_nw (M := No) (Nat.le_trans pt22.size hc53)
      have d59 := some_ne (ne_new f26.lt hc53)
      refine lwp_run 1 (by kernel_rfl) ?_
      refine lwp_nil ?_
      obtain ⟨j190, e217, H⟩ := letJ_some H
      refine cwp_join (fun ρ' h178 => ∃ (x181 : List Int) (a182 : Option Addr) (c183 : Nat) (I179 : Gh), j190 x181 = some r ∧ Fits [(2, .pointer (some ⟨b5, 0, none⟩)), (7, .slice a182 x181.length c183)] ρ' ∧ Pst No I h I179 h178 ∧ OwnX (tInt .u8) I179 I179 h178 a182 c183 x181 ∧ (∀ b, InA a182 b → No b ∨ h.size ≤ b) ∧ Rd (tInt .u8) (Or2 I179 B) h178 a1 c2 x0.Text ∧ OwnB I179 h178 b5 [.int .i64 x0.Kind, .slice a1 x0.Text.length c2, .bool x0.Attr.Protected, .bool x0.Attr.Numeric, .int .i64 x0.Attr.Show, .bool x0.Attr.Modified, .int .i64 x0.Addr, .int .u8 x0.Char] 26 ∧ ¬ InA a182 b5) ?_ ?_
      · refine cwp_seq ?_
        refine cwp_region ?_
        refine lwp_run 1 (by kernel_rfl) ?_
        have f60 := f26.post p54 (fun x => x.elim)
        refine lwp_op (by kernel_rfl) (owp_load (by kernel_rfl) (by kernel_rfl) (f60.cell (off := 0) rfl) ?_)
        refine lwp_nil ?_
        refine cwp_block ?_
        obtain ⟨j69, e179, H⟩ := letJ_some H
        refine cwp_join (fun ρ' h62 => ∃ (x66 : Bool) (I63 : Gh), j69 x66 = some r ∧ Fits [(1, .int .i64 x1), (2, .pointer (some ⟨b5, 0, none⟩)), (7, .slice (some ⟨b51, 0, none⟩) ([t45].length) 1), (29, .int .i64 x0.Kind), (30, .bool x66)] ρ' ∧ Pst No I h I63 h62 ∧ OwnX (tInt .u8) I63 I63 h62 (some ⟨b51, 0, none⟩) 1 [t45] ∧ Rd (tInt .u8) (Or2 I63 B) h62 a1 c2 x0.Text ∧ OwnB I63 h62 b5 [.int .i64 x0.Kind, .slice a1 x0.Text.length c2, .bool x0.Attr.Protected, .bool x0.Attr.Numeric, .int .i64 x0.Attr.Show, .bool x0.Attr.Modified, .int .i64 x0.Addr, .int .u8 x0.Char] 26) ?_ ?_
        · refine cwp_region ?_
          by_cases c61 : x0.Kind = 2
          · rw [if_pos c61] at H
            refine lwp_op (by kernel_rfl) (owp_pure ((.bool true)) (pr_bool (by kernel_rfl) (eqT c61)) ?_)
            refine lwp_run 1 (by kernel_rfl) ?_
            refine lwp_nil ?_
            have f100015 := f12.up (upOr (p18.up p8.bd (fun _ x => x.elim)) (keepB p18 (hBB.mono pt10.size) (fun _ x => x.elim)))
            have f100016 := f100015.up (upOr (p54.up p18.bd (fun _ x => x.elim)) (keepB p54 (hBB.mono pt22.size) (fun _ x => x.elim)))
            exact ⟨true, I17, H, ⟨by kernel_rfl, by kernel_rfl, by kernel_rfl, by kernel_rfl, by kernel_rfl, trivial⟩, pt56, w57, f100016, f60⟩
          · rw [if_neg c61] at H
            refine lwp_op (by kernel_rfl) (owp_pure ((.bool false)) (pr_bool (by kernel_rfl) (eqF c61)) ?_)
            refine lwp_run 1 (by kernel_rfl) ?_
            refine lwp_nil ?_
            have f100017 := f12.up (upOr (p18.up p8.bd (fun _ x => x.elim)) (keepB p18 (hBB.mono pt10.size) (fun _ x => x.elim)))
            have f100018 := f100017.up (upOr (p54.up p18.bd (fun _ x => x.elim)) (keepB p54 (hBB.mono pt22.size) (fun _ x => x.elim)))
            exact ⟨false, I17, H, ⟨by kernel_rfl, by kernel_rfl, by kernel_rfl, by kernel_rfl, by kernel_rfl, trivial⟩, pt56, w57, f100018, f60⟩
        · clear H
          rintro ρ' h62 ⟨x66, I63, H, hf, pt64, r65, r67, o68⟩
          refine cwp_fits _ hf ?_
          subst e179
          try dsimp only at H
          cases x66
          · rw [cond_false] at H
            refine cwp_false (by kernel_rfl) ?_
            obtain ⟨j121, e178, H⟩ := letJ_some H
            refine cwp_join (fun ρ' h114 => ∃ (x118 : Bool) (I115 : Gh), j121 x118 = some r ∧ Fits [(1, .int .i64 x1), (2, .pointer (some ⟨b5, 0, none⟩)), (7, .slice (some ⟨b51, 0, none⟩) ([t45].length) 1), (43, .bool x118)] ρ' ∧ Pst No I h I115 h114 ∧ OwnX (tInt .u8) I115 I115 h114 (some ⟨b51, 0, none⟩) 1 [t45] ∧ Rd (tInt .u8) (Or2 I115 B) h114 a1 c2 x0.Text ∧ OwnB I115 h114 b5 [.int .i64 x0.Kind, .slice a1 x0.Text.length c2, .bool x0.Attr.Protected, .bool x0.Attr.Numeric, .int .i64 x0.Attr.Show, .bool x0.Attr.Modified, .int .i64 x0.Addr, .int .u8 x0.Char] 26) ?_ ?_
            · refine cwp_seq ?_
              refine cwp_region ?_
              by_cases c111 : x0.Kind = 3
              · rw [if_pos c111] at H
                refine lwp_op (by kernel_rfl) (owp_pure ((.bool true)) (pr_bool (by kernel_rfl) (eqT c111)) ?_)
                refine lwp_run 1 (by kernel_rfl) ?_
                refine lwp_nil ?_
                refine cwp_true (by kernel_rfl) ?_
                refine cwp_skip ?_
                exact ⟨true, I63, H, ⟨by kernel_rfl, by kernel_rfl, by kernel_rfl, by kernel_rfl, trivial⟩, pt64, r65, r67, o68⟩
              · rw [if_neg c111] at H
                refine lwp_op (by kernel_rfl) (owp_pure ((.bool false)) (pr_bool (by kernel_rfl) (eqF c111)) ?_)
                refine lwp_run 1 (by kernel_rfl) ?_
                refine lwp_nil ?_
                refine cwp_false (by kernel_rfl) ?_
                refine cwp_seq ?_
                refine cwp_region ?_
                by_cases c112 : x0.Kind = 6
                · rw [if_pos c112] at H
                  refine lwp_op (by kernel_rfl) (owp_pure ((.bool true)) (pr_bool (by kernel_rfl) (eqT c112)) ?_)
                  refine lwp_run 1 (by kernel_rfl) ?_
                  refine lwp_nil ?_
                  refine cwp_true (by kernel_rfl) ?_
                  refine cwp_skip ?_
                  exact ⟨true, I63, H, ⟨by kernel_rfl, by kernel_rfl, by kernel_rfl, by kernel_rfl, trivial⟩, pt64, r65, r67, o68⟩
                · rw [if_neg c112] at H
                  refine lwp_op (by kernel_rfl) (owp_pure ((.bool false)) (pr_bool (by kernel_rfl) (eqF c112)) ?_)
                  refine lwp_run 1 (by kernel_rfl) ?_
                  refine lwp_nil ?_
                  refine cwp_false (by kernel_rfl) ?_
                  refine cwp_region ?_
                  by_cases c113 : x0.Kind = 7
                  · rw [if_pos c113] at H
                    refine lwp_op (by kernel_rfl) (owp_pure ((.bool true)) (pr_bool (by kernel_rfl) (eqT c113)) ?_)
                    refine lwp_run 1 (by kernel_rfl) ?_
                    refine lwp_nil ?_
                    exact ⟨true, I63, H, ⟨by kernel_rfl, by kernel_rfl, by kernel_rfl, by kernel_rfl, trivial⟩, pt64, r65, r67, o68⟩
                  · rw [if_neg c113] at H
                    refine lwp_op (by kernel_rfl) (owp_pure ((.bool false)) (pr_bool (by kernel_rfl) (eqF c113)) ?_)
                    refine lwp_run 1 (by kernel_rfl) ?_
                    refine lwp_nil ?_
                    exact ⟨false, I63, H, ⟨by kernel_rfl, by kernel_rfl, by kernel_rfl, by kernel_rfl, trivial⟩, pt64, r65, r67, o68⟩
            · clear H
              rintro ρ' h114 ⟨x118, I115, H, hf, pt116, r117, r119, o120⟩
              refine cwp_fits _ hf ?_
              subst e178
              try dsimp only at H
              cases x118
              · rw [cond_false] at H
                refine cwp_false (by kernel_rfl) ?_
                refine cwp_skip ?_
                exact ⟨[t45], (some ⟨b51, 0, none⟩), 1, I115, H, ⟨by kernel_rfl, by kernel_rfl, trivial⟩, pt116, r117, fw57, r119, o120, d59⟩
              · rw [cond_true] at H
                refine cwp_true (by kernel_rfl) ?_
                refine cwp_seq ?_
                refine cwp_region ?_
                refine lwp_run 1 (by kernel_rfl) ?_
                refine lwp_op (by kernel_rfl) (owp_load (by kernel_rfl) (by kernel_rfl) (o120.cell (off := 6) rfl) ?_)
                refine lwp_run 1 (by kernel_rfl) ?_
                obtain ⟨t122, m123, H⟩ := bind_some H
                refine lwp_op (by kernel_rfl) (owp_callF (by kernel_rfl) (addr_Put.calls (I := I115) pt116.bd m123) ?_)
                rintro v124 h125 ⟨I126, v129, rfl, p127, hl128, q131⟩
                have pt132 := pt116.no p127
                refine lwp_run 3 (by kernel_rfl) ?_
                refine lwp_op (by kernel_rfl) (owp_alloc (List.map (Value.int .u8) (List.replicate 2 (0 : Int))) (.agg (List.map (Value.int .u8) (List.replicate 2 (0 : Int))).toArray) p127.bd (by kernel_rfl) (by kernel_rfl) ?_)
                intro b133 h134 hc135 p136 o137
                have pt138 := pt132.no p136
                have fr139 : No b133 ∨ h.size ≤ b133 := .inr (Nat.le_trans pt132.size hc135)
                have f140 := o120.post p127 (fun x => x.elim)
                have d141 := ne_new f140.lt hc135
                have f142 := r117.post pt116.bd p127 (fun _ x => x.elim) (fun _ _ x => x.elim)
                have d143 := notIn_new f142.lt hc135
                refine lwp_op (by kernel_rfl) (owp_storeArrN (l2 := t122.1) p136.bd o137 (List.length_replicate (n := 2) (a := (0 : Int))) hl128 (by kernel_rfl) (by kernel_rfl) (by kernel_rfl) ?_)
                intro h144 p145 o146
                have pt147 := pt138.own p145 (one_nw fr139)
                refine lwp_run 1 (by kernel_rfl) ?_
                refine lwp_nil ?_
                refine cwp_seq ?_
                refine cwp_seq ?_
                refine cwp_region ?_
                refine lwp_run 1 (by kernel_rfl) ?_
                have f148 := ErrV.up (p136.up p127.bd (fun _ x => x.elim)) q131
                have f149 := ErrV.up (p145.up p136.bd (one_not o137.no)) f148
                rcases f149.cases with ⟨c150, rfl⟩ | ⟨c150, t151, u152, rfl⟩
                · rw [if_pos c150] at H
                  refine lwp_run 1 (by kernel_rfl) ?_
                  refine lwp_nil ?_
                  refine cwp_false (by kernel_rfl) ?_
                  refine cwp_skip ?_
                  refine cwp_region ?_
                  refine lwp_run 1 (by kernel_rfl) ?_
                  have pt153 := post_fzB o146 p145.bd pt147 fr139
                  have bd154 := bd_fzB o146 p145.bd
                  have o155 := o146.im
                  have r156 := o155.arrRd hl128
                  refine lwp_op (by kernel_rfl) (owp_pure ((.slice (some ⟨b133, 0, none⟩) t122.1.length 2)) (pr_sliceArr (n := 2) (l := t122.1) (by kernel_rfl) hl128) ?_)
                  have f158 := r117.post pt116.bd p127 (fun _ x => x.elim) (fun _ _ x => x.elim)
                  have f159 := f158.post p127.bd p136 (fun _ x => x.elim) (fun _ _ x => x.elim)
                  have f160 := f159.post p136.bd p145 (one_not o137.no) (dis_one d143)
                  have f161 := f160.fz (sl_some d143)
                  obtain ⟨l162, m163, H⟩ := bind_some H
                  refine lwp_op (by kernel_rfl) (owp_app (e := 5) (bytes := 1) (tInt .u8) (by kernel_rfl) (elemOk_of (by kernel_rfl)) rfl rfl bd154 bd154 f161 f161.notI (r156.toSl) m163 (by kernel_rfl) (by kernel_rfl) ?_)
                  intro a164 c165 h166 p167 o168 fr169
                  have pt170 := pt153.own p167 fw57
                  have fr172 := nw_step (M := No) (n := h.size) fw57 fr169 pt153.size
                  have f173 := o120.post p127 (fun x => x.elim)
                  have f174 := f173.post p136 (fun x => x.elim)
                  have f175 := f174.post p145 (fun e => d141 e.symm)
                  have f176 := f175.fz (some_ne d141)
                  have d177 := step_blk fr169 f176.lt d59
                  refine lwp_run 1 (by kernel_rfl) ?_
                  refine lwp_nil ?_
                  have f100005 := r119.up (upOr (p127.up pt116.bd (fun _ x => x.elim)) (keepB p127 (hBB.mono pt116.size) (fun _ x => x.elim)))
                  have f100006 := f100005.up (upOr (p136.up p127.bd (fun _ x => x.elim)) (keepB p136 (hBB.mono pt132.size) (fun _ x => x.elim)))
                  have f100007 := f100006.up (upOr (p145.up p136.bd (one_not o137.no)) (keepB p145 (hBB.mono pt138.size) (nwB (one_nw fr139) (fun _ x => x.elim) hBB)))
                  have f100008 := f100007.up (upOr (up_fz (a := (some ⟨b133, 0, none⟩))) keep_rfl)
                  have f100009 := f100008.up (upOr (p167.up bd154 f161.notI) (keepB p167 (hBB.mono pt153.size) (nwB fw57 (fun _ x => x.elim) hBB)))
                  have f100010 := o120.post p127 (fun x => x.elim)
                  have f100011 := f100010.post p136 (fun x => x.elim)
                  have f100012 := f100011.post p145 (fun e => d141 e.symm)
                  have f100013 := f100012.fz (some_ne d141)
                  have f100014 := f100013.post p167 d59
                  exact ⟨l162, a164, c165, (Fz I126 (some ⟨b133, 0, none⟩)), H, ⟨by kernel_rfl, by kernel_rfl, trivial⟩, pt170, o168, fr172, f100009, f100014, d177⟩
                · rw [if_neg c150] at H
                  refine lwp_run 1 (by kernel_rfl) ?_
                  refine lwp_nil ?_
                  refine cwp_true (by kernel_rfl) ?_
                  refine cwp_seq ?_
                  refine cwp_region ?_
                  refine lwp_run 3 (by kernel_rfl) ?_
                  refine lwp_nil ?_
                  refine cwp_ret ?_
                  obtain rfl := Option.some.inj H
                  show Exists _
                  exact ⟨.tuple #[.slice none 0 0, (.iface t151 u152)], by kernel_rfl, I126, none, 0, ((.iface t151 u152)), rfl, pt147, (own_nil (tInt .u8) I126 I126 h144), none_nw, f149⟩
          · rw [cond_true] at H
            refine cwp_true (by kernel_rfl) ?_
            refine cwp_seq ?_
            refine cwp_region ?_
            refine lwp_run 1 (by kernel_rfl) ?_
            refine lwp_op (by kernel_rfl) (owp_loadN (by kernel_rfl) (by kernel_rfl) (by kernel_rfl) (o68.seg_ 2 4 (Nat.le_of_ble_eq_true rfl)) ?_)
            obtain ⟨t70, m71, H⟩ := bind_some H
            refine lwp_op (by kernel_rfl) (owp_callF (by kernel_rfl) (attr_Put.calls (I := I63) pt64.bd m71) ?_)
            rintro v72 h73 ⟨I74, v76, rfl, p75, q78⟩
            have pt79 := pt64.no p75
            refine lwp_run 5 (by kernel_rfl) ?_
            refine lwp_nil ?_
            refine cwp_seq ?_
            refine cwp_region ?_
            refine lwp_run 2 (by kernel_rfl) ?_
            refine lwp_op (by kernel_rfl) (owp_buildSlice (e := 5) [.int .u8 t70.1] 1 (.int .u8 0) p75.bd (by kernel_rfl) (by kernel_rfl) (by kernel_rfl) (by kernel_rfl) (by kernel_rfl) ?_)
            intro b80 h81 hc82 p83 o84
            have pt85 := pt79.no p83
            have w86 := o84.own (l := ([t70.1] : List Int)) (Reps.int (I := I74) (k := .u8) (l := [t70.1]))
            have fw86 := some_nw (M := No) (Nat.le_trans pt79.size hc82)
            have f88 := o68.post p75 (fun x => x.elim)
            have d89 := some_ne (ne_new f88.lt hc82)
            have f90 := r65.post pt64.bd p75 (fun _ x => x.elim) (fun _ _ x => x.elim)
            have d91 := some_notIn (notIn_new f90.lt hc82)
            have f92 := r65.post pt64.bd p75 (fun _ x => x.elim) (fun _ _ x => x.elim)
            have f93 := f92.post p75.bd p83 (fun _ x => x.elim) (fun _ _ x => x.elim)
            obtain ⟨l94, m95, H⟩ := bind_some H
            refine lwp_op (by kernel_rfl) (owp_app (e := 5) (bytes := 1) (tInt .u8) (by kernel_rfl) (elemOk_of (by kernel_rfl)) rfl rfl p83.bd p83.bd f93 f93.notI (w86.toSl) m95 (by kernel_rfl) (by kernel_rfl) ?_)
            intro a96 c97 h98 p99 o100 fr101
            have pt102 := pt85.own p99 fw57
            have fr104 := nw_step (M := No) (n := h.size) fw57 fr101 pt85.size
            have f105 := o68.post p75 (fun x => x.elim)
            have f106 := f105.post p83 (fun x => x.elim)
            have d107 := step_blk fr101 f106.lt d59
            have d108 := step_sl fr101 w86.lt d91
            refine lwp_run 3 (by kernel_rfl) ?_
            refine lwp_nil ?_
            refine cwp_ret ?_
            obtain rfl := Option.some.inj H
            have f109 := ErrV.up (p83.up p75.bd (fun _ x => x.elim)) q78
            have f110 := ErrV.up (p99.up p83.bd f93.notI) f109
            show Exists _
            exact ⟨.tuple #[.slice a96 l94.length c97, v76], by kernel_rfl, I74, a96, c97, (v76), rfl, pt102, o100, fr104, f110⟩
      · clear H
        rintro ρ' h178 ⟨x181, a182, c183, I179, H, hf, pt180, r184, fr186, r187, o188, d189⟩
        refine cwp_fits _ hf ?_
        subst e217
        try dsimp only at H
        refine cwp_seq ?_
        refine cwp_seq ?_
        refine cwp_region ?_
        refine lwp_run 1 (by kernel_rfl) ?_
        refine lwp_op (by kernel_rfl) (owp_load (by kernel_rfl) (by kernel_rfl) (o188.cell (off := 0) rfl) ?_)
        by_cases c191 : x0.Kind = 6
        · rw [if_pos c191] at H
          refine lwp_op (by kernel_rfl) (owp_pure ((.bool true)) (pr_bool (by kernel_rfl) (eqT c191)) ?_)
          refine lwp_nil ?_
          refine cwp_true (by kernel_rfl) ?_
          refine cwp_region ?_
          refine lwp_run 2 (by kernel_rfl) ?_
          refine lwp_op (by kernel_rfl) (owp_load (by kernel_rfl) (by kernel_rfl) (o188.cell (off := 7) rfl) ?_)
          refine lwp_op (by kernel_rfl) (owp_buildSlice (e := 5) [.int .u8 x0.Char] 1 (.int .u8 0) pt180.bd (by kernel_rfl) (by kernel_rfl) (by kernel_rfl) (by kernel_rfl) (by kernel_rfl) ?_)
          intro b192 h193 hc194 p195 o196
          have pt197 := pt180.no p195
          have w198 := o196.own (l := ([x0.Char] : List Int)) (Reps.int (I := I179) (k := .u8) (l := [x0.Char]))
          have fw198 := some_nw (M := No) (Nat.le_trans pt180.size hc194)
          have d200 := some_ne (ne_new o188.lt hc194)
          have d201 := some_notIn (notIn_new r184.lt hc194)
          have f202 := r184.post pt180.bd p195 (fun _ x => x.elim) (fun _ _ x => x.elim)
          obtain ⟨l203, m204, H⟩ := bind_some H
          refine lwp_op (by kernel_rfl) (owp_app (e := 5) (bytes := 1) (tInt .u8) (by kernel_rfl) (elemOk_of (by kernel_rfl)) rfl rfl p195.bd p195.bd f202 f202.notI (w198.toSl) m204 (by kernel_rfl) (by kernel_rfl) ?_)
          intro a205 c206 h207 p208 o209 fr210
          have pt211 := pt197.own p208 fr186
          have fr213 := nw_step (M := No) (n := h.size) fr186 fr210 pt197.size
          have f214 := o188.post p195 (fun x => x.elim)
          have d215 := step_blk fr210 f214.lt d189
          have d216 := step_sl fr210 w198.lt d201
          refine lwp_run 1 (by kernel_rfl) ?_
          refine lwp_nil ?_
          refine cwp_seq ?_
          refine cwp_region ?_
          refine lwp_run 3 (by kernel_rfl) ?_
          refine lwp_nil ?_
          refine cwp_ret ?_
          obtain rfl := Option.some.inj H
          show Exists _
          exact ⟨.tuple #[.slice a205 l203.length c206, .nilIface], by kernel_rfl, I179, a205, c206, (.nilIface), rfl, pt211, o209, fr213, (show ErrV I179 h207 GoErr.nil .nilIface from rfl)⟩
        · rw [if_neg c191] at H
          refine lwp_op (by kernel_rfl) (owp_pure ((.bool false)) (pr_bool (by kernel_rfl) (eqF c191)) ?_)
          refine lwp_nil ?_
          refine cwp_false (by kernel_rfl) ?_
          refine cwp_skip ?_
          refine cwp_seq ?_
          refine cwp_region ?_
          refine lwp_run 3 (by kernel_rfl) ?_
          refine lwp_nil ?_
          refine cwp_ret ?_
          obtain rfl := Option.some.inj H
          show Exists _
          exact ⟨.tuple #[.slice a182 x181.length c183, .nilIface], by kernel_rfl, I179, a182, c183, (.nilIface), rfl, pt180, r184, fr186, (show ErrV I179 h178 GoErr.nil .nilIface from rfl)⟩
  · rw [if_neg c23] at H
    refine lwp_run 1 (by kernel_rfl) ?_
    refine lwp_nil ?_
    refine cwp_true (by kernel_rfl) ?_
    refine cwp_seq ?_
    refine cwp_region ?_
    refine lwp_run 3 (by kernel_rfl) ?_
    refine lwp_nil ?_
    refine cwp_ret ?_
    obtain rfl := Option.some.inj H
    show Exists _
    exact ⟨.tuple #[.slice none 0 0, (.iface t24 u25)], by kernel_rfl, I17, none, 0, ((.iface t24 u25)), rfl, pt22, (own_nil (tInt .u8) I17 I17 h16), none_nw, q21⟩

/-! shutter/shutterref01.Same -/
def shutterref01_Same.l1.m (K : Nat) (x0 : (List Int)) (x1 : (List Int)) : Nat → Int → Option (Bool ⊕ (Unit))
  | 0, _ => none
  | k + 1, x13 => (if x13 < (x0.length : Int) then (if 0 ≤ x13 then (if x13 < (x1.length : Int) then (if (at_ x0 x13) = (at_ x1 x13) then (shutterref01_Same.l1.m K x0 x1 k (w64 (x13 + 1))) else (some (Sum.inl false))) else none) else none) else (some (Sum.inr ())))
def shutterref01_Same.m (K : Nat) (x0 : (List Int)) (x1 : (List Int)) : Option Bool :=
  (if (x0.length : Int) = (x1.length : Int) then ((shutterref01_Same.l1.m K x0 x1 K 0).bind fun s15 => match s15 with | .inl q => (some q) | .inr _ => (some true)) else (some false))

set_option maxRecDepth 100000 in
theorem shutterref01_Same.calls {I : Gh} {h : Heap} {K : Nat} {x0 : List Int} {a1 : Option Addr} {c2 : Nat} {x1 : List Int} {a5 : Option Addr} {c6 : Nat} (_hB : Bd I h) (r4 : Rd (tInt .u8) I h a1 c2 x0) (r8 : Rd (tInt .u8) I h a5 c6 x1) {r : Bool}
    (H : shutterref01_Same.m K x0 x1 = some r) :
    Ret Tryd.prog 17 #[.slice a1 x0.length c2, .slice a5 x1.length c6] h (fun v h' => ∃ _ : Unit, .bool r = v ∧ h = h') := by
  unfold shutterref01_Same.m at H
  refine ret_of (args := [.slice a1 x0.length c2, .slice a5 x1.length c6]) (rs := [.tmp 4]) (N := 26) Tryd.func17 rfl rfl rfl (Nat.le_of_ble_eq_true rfl) ?_
  refine cwp_seq ?_
  refine cwp_region ?_
  refine lwp_run 1 (by kernel_rfl) ?_
  refine lwp_nil ?_
  refine cwp_seq ?_
  refine cwp_seq ?_
  refine cwp_region ?_
  refine lwp_run 4 (by kernel_rfl) ?_
  by_cases c9 : (x0.length : Int) = (x1.length : Int)
  · rw [if_pos c9] at H
    refine lwp_op (by kernel_rfl) (owp_pure ((.bool false)) (pr_bool (by kernel_rfl) (neF c9)) ?_)
    refine lwp_nil ?_
    refine cwp_false (by kernel_rfl) ?_
    refine cwp_skip ?_
    refine cwp_seq ?_
    refine cwp_seq ?_
    refine cwp_region ?_
    refine lwp_run 1 (by kernel_rfl) ?_
    refine lwp_nil ?_
    refine cwp_block ?_
    obtain ⟨s15, m19, HR20⟩ := bind_some H
    refine cwp_loopE 0 (fun ρ' h16 => ∃ (_ : Unit), Sum.inr () = s15 ∧ Fits [] ρ' ∧ h = h16) ?_ ?_
    · refine cwp_loop (fun k' ρ' h10 => ∃ (x13 : Int) (_ : Unit), shutterref01_Same.l1.m K x0 x1 k' x13 = some s15 ∧ Fits [(0, .slice a1 x0.length c2), (1, .slice a5 x1.length c6), (5, .int .i64 x13)] ρ' ∧ h = h10) K ⟨0, (), m19, ⟨by kernel_rfl, by kernel_rfl, by kernel_rfl, trivial⟩, rfl⟩ ?_
      clear m19
      rintro k' ρ' h10 ⟨x13, _, H, hf, rfl⟩
      cases k' with
      | zero => cases H
      | succ k =>
        rw [shutterref01_Same.l1.m] at H
        refine cwp_fits _ hf ?_
        refine cwp_seq ?_
        refine cwp_seq ?_
        refine cwp_region ?_
        refine lwp_run 3 (by kernel_rfl) ?_
        by_cases c21 : x13 < (x0.length : Int)
        · rw [if_pos c21] at H
          refine lwp_op (by kernel_rfl) (owp_pure ((.bool true)) (pr_bool (by kernel_rfl) (decide_eq_true c21)) ?_)
          refine lwp_nil ?_
          refine cwp_true (by kernel_rfl) ?_
          refine cwp_skip ?_
          refine cwp_seq ?_
          refine cwp_block ?_
          refine cwp_seq ?_
          refine cwp_regionD (Keep No h) 9 (by kernel_rfl) ?_
          obtain ⟨c22, H⟩ := guard_pos H
          refine awp_run (fuel := 7) [0, 1] Keep.refl (by kernel_rfl) ?_
          have hs23 := (r4.toSl).isSome c22 c21
          refine awp_pure 2 (elemPtr a1 (x13.toNat * 1)) rfl (by kernel_rfl) (by kernel_rfl) (pr_indexElem (e := 5) (r4.toSl) (k := .i64) (by kernel_rfl) (by kernel_rfl) (by kernel_rfl) (by kernel_rfl) c22 c21) Keep.refl ?_
          obtain ⟨cs24, hs25, rp26⟩ := (r4.toSl).seg c22 c21
          obtain rfl := rep_int rp26
          refine awp_load 3 rfl (by kernel_rfl) (by kernel_rfl) (by kernel_rfl) (by kernel_rfl) Keep.refl (seg_cell (f := 0) hs25 rfl) (fun _ _ x => x.elim) ?_
          obtain ⟨c27, H⟩ := guard_pos H
          refine awp_run (fuel := 3) [4, 5] Keep.refl (by kernel_rfl) ?_
          have hs28 := (r8.toSl).isSome c22 c27
          refine awp_pure 6 (elemPtr a5 (x13.toNat * 1)) rfl (by kernel_rfl) (by kernel_rfl) (pr_indexElem (e := 5) (r8.toSl) (k := .i64) (by kernel_rfl) (by kernel_rfl) (by kernel_rfl) (by kernel_rfl) c22 c27) Keep.refl ?_
          obtain ⟨cs29, hs30, rp31⟩ := (r8.toSl).seg c22 c27
          obtain rfl := rep_int rp31
          refine awp_load 7 rfl (by kernel_rfl) (by kernel_rfl) (by kernel_rfl) (by kernel_rfl) Keep.refl (seg_cell (f := 0) hs30 rfl) (fun _ _ x => x.elim) ?_
          by_cases c32 : (at_ x0 x13) = (at_ x1 x13)
          · rw [if_pos c32] at H
            refine awp_pure 8 ((.bool false)) rfl (by kernel_rfl) (by kernel_rfl) (pr_bool (by kernel_rfl) (neF c32)) Keep.refl ?_
            refine awp_nil (by kernel_rfl) ?_ 0
            refine cwp_false (by kernel_rfl) ?_
            refine cwp_skip ?_
            refine cwp_region ?_
            refine lwp_run 3 (by kernel_rfl) ?_
            refine lwp_nil ?_
            show Exists _
            exact ⟨k, Nat.lt_succ_self _, (w64 (x13 + 1)), (), H, ⟨by kernel_rfl, by kernel_rfl, by kernel_rfl, trivial⟩, rfl⟩
          · rw [if_neg c32] at H
            refine awp_pure 8 ((.bool true)) rfl (by kernel_rfl) (by kernel_rfl) (pr_bool (by kernel_rfl) (neT c32)) Keep.refl ?_
            refine awp_nil (by kernel_rfl) ?_ 0
            refine cwp_true (by kernel_rfl) ?_
            refine cwp_seq ?_
            refine cwp_region ?_
            refine lwp_run 1 (by kernel_rfl) ?_
            refine lwp_nil ?_
            refine cwp_ret ?_
            obtain rfl := Option.some.inj H
            obtain rfl := Option.some.inj HR20
            show Exists _
            exact ⟨.bool false, by kernel_rfl, (), rfl, rfl⟩
        · rw [if_neg c21] at H
          refine lwp_op (by kernel_rfl) (owp_pure ((.bool false)) (pr_bool (by kernel_rfl) (decide_eq_false c21)) ?_)
          refine lwp_nil ?_
          refine cwp_false (by kernel_rfl) ?_
          refine cwp_exit ?_
          obtain rfl := Option.some.inj H
          show Exists _
          exact ⟨(), rfl, trivial, rfl⟩
    · rintro ρ' h16 ⟨_, rfl, hf, rfl⟩
      have H := HR20
      try dsimp only at H
      refine cwp_fits _ hf ?_
      refine cwp_seq ?_
      refine cwp_region ?_
      refine lwp_run 1 (by kernel_rfl) ?_
      refine lwp_nil ?_
      refine cwp_ret ?_
      obtain rfl := Option.some.inj H
      show Exists _
      exact ⟨.bool true, by kernel_rfl, (), rfl, rfl⟩
  · rw [if_neg c9] at H
    refine lwp_op (by kernel_rfl) (owp_pure ((.bool true)) (pr_bool (by kernel_rfl) (neT c9)) ?_)
    refine lwp_nil ?_
    refine cwp_true (by kernel_rfl) ?_
    refine cwp_seq ?_
    refine cwp_region ?_
    refine lwp_run 1 (by kernel_rfl) ?_
    refine lwp_nil ?_
    refine cwp_ret ?_
    obtain rfl := Option.some.inj H
    show Exists _
    exact ⟨.bool false, by kernel_rfl, (), rfl, rfl⟩

/-! shutter/bytes.New -/
def bytes_New.m (x0 : (List Int)) : Option bytes_Cursor :=
  ((slices_Clone_bytes.m x0).bind fun t5 => (some (⟨t5, 0, GoErr.nil⟩ : bytes_Cursor)))

set_option maxRecDepth 100000 in
theorem bytes_New.calls {I B : Gh} {h : Heap} {x0 : List Int} {a1 : Option Addr} {c2 : Nat} (hB : Bd I h) (hBB : Bd B h) (r4 : Rd (tInt .u8) (Or2 I B) h a1 c2 x0) {r : bytes_Cursor}
    (H : bytes_New.m x0 = some r) :
    Ret Tryd.prog 19 #[.slice a1 x0.length c2] h (fun v h' => ∃ (I' : Gh) (b34 : Nat) (a35 : Option Addr) (c36 : Nat) (v39 : Value), .pointer (some ⟨b34, 0, none⟩) = v ∧ Pst No I h I' h' ∧ Rd (tInt .u8) I' h' a35 c36 r.b' ∧ ErrV I' h' r.err' v39 ∧ OwnB I' h' b34 [.slice a35 r.b'.length c36, .int .i64 r.at', v39] 88 ∧ (No b34 ∨ h.size ≤ b34)) := by
  unfold bytes_New.m at H
  refine ret_of (args := [.slice a1 x0.length c2]) (rs := [.tmp 2]) (N := 7) Tryd.func19 rfl rfl rfl (Nat.le_of_ble_eq_true rfl) ?_
  have pt0 : Pst No I h I h := Pst.refl hB
  refine cwp_seq ?_
  refine cwp_region ?_
  refine lwp_run 1 (by kernel_rfl) ?_
  refine lwp_nil ?_
  refine cwp_seq ?_
  refine cwp_region ?_
  refine lwp_run 1 (by kernel_rfl) ?_
  obtain ⟨t5, m6, H⟩ := bind_some H
  refine lwp_op (by kernel_rfl) (owp_callF (by kernel_rfl) (slices_Clone_bytes.calls (I := (Or2 I B)) (bdOr hB (hBB.mono pt0.size)) r4 m6) ?_)
  rintro v7 h8 ⟨I9, a11, c12, rfl, p10, r14, fr15⟩
  have p16 := Pst.forget p10 hB
  have w17 := OwnX.forget r14 flat_int (fun b x => p10.sub b (Or.inl x))
  have pt18 := pt0.no p16
  have fr19 := nw_step (M := No) (n := h.size) (fun _ x => x.elim) fr15 pt0.size
  refine lwp_run 1 (by kernel_rfl) ?_
  refine lwp_op (by kernel_rfl) (owp_box [.slice a11 t5.length c12, .int .i64 0, .nilIface] p16.bd (by kernel_rfl) ?_)
  intro b20 h21 hc22 p23 o24
  have pt25 := pt18.no p23
  have fr26 : No b20 ∨ h.size ≤ b20 := .inr (Nat.le_trans pt18.size hc22)
  have d27 := notIn_new w17.lt hc22
  refine lwp_run 1 (by kernel_rfl) ?_
  refine lwp_nil ?_
  refine cwp_ret ?_
  obtain rfl := Option.some.inj H
  have f28 := w17.post p16.bd p23 (fun _ x => x.elim) (fun _ _ x => x.elim)
  have pt29 := post_fz f28 p23.bd pt25 fr19
  have r31 := f28.rd
  have bd32 := bd_fz f28 p23.bd
  have f33 := o24.fz d27
  show Exists _
  exact ⟨.pointer (some ⟨b20, 0, none⟩), by kernel_rfl, (Fz I a11), b20, a11, c12, (.nilIface), rfl, pt29, r31, (show ErrV (Fz I a11) h21 GoErr.nil .nilIface from rfl), f33, fr26⟩

/-! (*shutter/bytes.Cursor).Fail -/
def bytes_Cursor_Fail.m (x0 : bytes_Cursor) (x1 : GoErr) : Option bytes_Cursor :=
  (letJ (α := Bool → Option bytes_Cursor) (fun (x23 : Bool) => (bif x23 then (some (⟨x0.b', x0.at', (GoErr.spot x0.at' x1)⟩ : bytes_Cursor)) else (some x0))) fun (j28 : Bool → Option bytes_Cursor) => (if x0.err' = GoErr.nil then (if x1 = GoErr.nil then (j28 false) else (j28 true)) else (j28 false)))

set_option maxRecDepth 100000 in
theorem bytes_Cursor_Fail.calls {I : Gh} {h : Heap} {b0 : Nat} {x0 : bytes_Cursor} {a1 : Option Addr} {c2 : Nat} {v5 : Value} {x1 : GoErr} {v9 : Value} (hB : Bd I h) (o8 : OwnB I h b0 [.slice a1 x0.b'.length c2, .int .i64 x0.at', v5] 88) (r4 : Rd (tInt .u8) I h a1 c2 x0.b') (q7 : ErrV I h x0.err' v5) (q11 : ErrV I h x1 v9) {r : bytes_Cursor}
    (H : bytes_Cursor_Fail.m x0 x1 = some r) :
    Ret Tryd.prog 53 #[.pointer (some ⟨b0, 0, none⟩), v9] h (fun v h' => ∃ (I' : Gh) (a56 : Option Addr) (c57 : Nat) (v60 : Value), .tuple #[] = v ∧ Pst (One b0) I h I' h' ∧ Rd (tInt .u8) I' h' a56 c57 r.b' ∧ ErrV I' h' r.err' v60 ∧ OwnB I' h' b0 [.slice a56 r.b'.length c57, .int .i64 r.at', v60] 88) := by
  unfold bytes_Cursor_Fail.m at H
  refine ret_of (args := [.pointer (some ⟨b0, 0, none⟩), v9]) (rs := []) (N := 24) Tryd.func53 rfl rfl rfl (Nat.le_of_ble_eq_true rfl) ?_
  have pt0 : Pst (One b0) I h I h := Pst.refl hB
  have nw_b0 : (One b0) b0 ∨ h.size ≤ b0 := .inl rfl
  obtain ⟨j28, e55, H⟩ := letJ_some H
  refine cwp_join (fun ρ' h18 => ∃ (x23 : Bool) (v22 : Value) (v26 : Value) (I19 : Gh), j28 x23 = some r ∧ Fits [(0, .pointer (some ⟨b0, 0, none⟩)), (1, v22), (12, .bool x23)] ρ' ∧ Pst (One b0) I h I19 h18 ∧ ErrV I19 h18 x1 v22 ∧ Rd (tInt .u8) I19 h18 a1 c2 x0.b' ∧ ErrV I19 h18 x0.err' v26 ∧ OwnB I19 h18 b0 [.slice a1 x0.b'.length c2, .int .i64 x0.at', v26] 88) ?_ ?_
  · refine cwp_region ?_
    refine lwp_run 3 (by kernel_rfl) ?_
    refine lwp_op (by kernel_rfl) (owp_load (by kernel_rfl) (by kernel_rfl) (o8.cell (off := 2) rfl) ?_)
    rcases q7.cases with ⟨c12, rfl⟩ | ⟨c12, t13, u14, rfl⟩
    · rw [if_pos c12] at H
      refine lwp_run 3 (by kernel_rfl) ?_
      rcases q11.cases with ⟨c15, rfl⟩ | ⟨c15, t16, u17, rfl⟩
      · rw [if_pos c15] at H
        refine lwp_run 2 (by kernel_rfl) ?_
        refine lwp_nil ?_
        exact ⟨false, .nilIface, .nilIface, I, H, ⟨by kernel_rfl, by kernel_rfl, by kernel_rfl, trivial⟩, pt0, q11, r4, q7, o8⟩
      · rw [if_neg c15] at H
        refine lwp_run 2 (by kernel_rfl) ?_
        refine lwp_nil ?_
        exact ⟨true, (.iface t16 u17), .nilIface, I, H, ⟨by kernel_rfl, by kernel_rfl, by kernel_rfl, trivial⟩, pt0, q11, r4, q7, o8⟩
    · rw [if_neg c12] at H
      refine lwp_run 5 (by kernel_rfl) ?_
      refine lwp_nil ?_
      exact ⟨false, v9, (.iface t13 u14), I, H, ⟨by kernel_rfl, by kernel_rfl, by kernel_rfl, trivial⟩, pt0, q11, r4, q7, o8⟩
  · clear H
    rintro ρ' h18 ⟨x23, v22, v26, I19, H, hf, pt20, q21, r24, q25, o27⟩
    refine cwp_fits _ hf ?_
    subst e55
    try dsimp only at H
    cases x23
    · rw [cond_false] at H
      refine cwp_false (by kernel_rfl) ?_
      refine cwp_skip ?_
      obtain rfl := Option.some.inj H
      show Exists _
      exact ⟨.tuple #[], by kernel_rfl, I19, a1, c2, (v26), rfl, pt20, r24, q25, o27⟩
    · rw [cond_true] at H
      refine cwp_true (by kernel_rfl) ?_
      refine cwp_region ?_
      refine lwp_run 4 (by kernel_rfl) ?_
      refine lwp_op (by kernel_rfl) (owp_load (by kernel_rfl) (by kernel_rfl) (o27.cell (off := 1) rfl) ?_)
      refine lwp_run 1 (by kernel_rfl) ?_
      rcases q21.cases with ⟨c29, rfl⟩ | ⟨c29, t30, u31, rfl⟩
      · refine lwp_run 1 (by kernel_rfl) ?_
        refine lwp_op (by kernel_rfl) (owp_box [.int .i64 x0.at', .nilIface] pt20.bd (by kernel_rfl) ?_)
        intro b32 h33 hc34 p35 o36
        have pt37 := pt20.no p35
        have fr38 : (One b0) b32 ∨ h.size ≤ b32 := .inr (Nat.le_trans pt20.size hc34)
        have d39 := ne_new o27.lt hc34
        have f40 := ErrV.up (p35.up pt20.bd (fun _ x => x.elim)) q21
        have pt41 := post_fzB o36 p35.bd pt37 fr38
        have bd42 := bd_fzB o36 p35.bd
        have q43 := mk_spot (a := x0.at') (e := x1) o36 f40
        refine lwp_run 3 (by kernel_rfl) ?_
        have f45 := o27.post p35 (fun x => x.elim)
        have f46 := f45.fz (some_ne d39)
        refine lwp_op (by kernel_rfl) (owp_store1 2 ((.iface 102 (.pointer (some ⟨b32, 0, none⟩)))) bd42 f46 (by kernel_rfl) (by kernel_rfl) rfl (by kernel_rfl) (Nat.le_of_ble_eq_true rfl) ?_)
        intro h47 p48 o49
        have pt50 := pt41.own p48 (one_nw nw_b0)
        refine lwp_nil ?_
        obtain rfl := Option.some.inj H
        have f51 := r24.up (p35.up pt20.bd (fun _ x => x.elim))
        have f52 := f51.up (up_fz (a := (some ⟨b32, 0, none⟩)))
        have f53 := f52.up (p48.up bd42 (one_not f46.no))
        have f54 := ErrV.up (p48.up bd42 (one_not f46.no)) q43
        show Exists _
        exact ⟨.tuple #[], by kernel_rfl, (Fz I19 (some ⟨b32, 0, none⟩)), a1, c2, ((.iface 102 (.pointer (some ⟨b32, 0, none⟩)))), rfl, pt50, f53, f54, o49⟩
      · refine lwp_run 1 (by kernel_rfl) ?_
        refine lwp_op (by kernel_rfl) (owp_box [.int .i64 x0.at', (.iface t30 u31)] pt20.bd (by kernel_rfl) ?_)
        intro b32 h33 hc34 p35 o36
        have pt37 := pt20.no p35
        have fr38 : (One b0) b32 ∨ h.size ≤ b32 := .inr (Nat.le_trans pt20.size hc34)
        have d39 := ne_new o27.lt hc34
        have f40 := ErrV.up (p35.up pt20.bd (fun _ x => x.elim)) q21
        have pt41 := post_fzB o36 p35.bd pt37 fr38
        have bd42 := bd_fzB o36 p35.bd
        have q43 := mk_spot (a := x0.at') (e := x1) o36 f40
        refine lwp_run 3 (by kernel_rfl) ?_
        have f45 := o27.post p35 (fun x => x.elim)
        have f46 := f45.fz (some_ne d39)
        refine lwp_op (by kernel_rfl) (owp_store1 2 ((.iface 102 (.pointer (some ⟨b32, 0, none⟩)))) bd42 f46 (by kernel_rfl) (by kernel_rfl) rfl (by kernel_rfl) (Nat.le_of_ble_eq_true rfl) ?_)
        intro h47 p48 o49
        have pt50 := pt41.own p48 (one_nw nw_b0)
        refine lwp_nil ?_
        obtain rfl := Option.some.inj H
        have f51 := r24.up (p35.up pt20.bd (fun _ x => x.elim))
        have f52 := f51.up (up_fz (a := (some ⟨b32, 0, none⟩)))
        have f53 := f52.up (p48.up bd42 (one_not f46.no))
        have f54 := ErrV.up (p48.up bd42 (one_not f46.no)) q43
        show Exists _
        exact ⟨.tuple #[], by kernel_rfl, (Fz I19 (some ⟨b32, 0, none⟩)), a1, c2, ((.iface 102 (.pointer (some ⟨b32, 0, none⟩)))), rfl, pt50, f53, f54, o49⟩

/-! (*shutter/bytes.Cursor).Peek -/
def bytes_Cursor_Peek.m (x0 : bytes_Cursor) : Option (Int × Bool × bytes_Cursor) :=
  (if x0.err' = GoErr.nil then ((bytes_Cursor_Left.m x0).bind fun t12 => (if t12.1 = 0 then (some (0, false, t12.2)) else (if 0 ≤ t12.2.at' then (if t12.2.at' < (t12.2.b'.length : Int) then (some ((at_ t12.2.b' t12.2.at'), true, t12.2)) else none) else none))) else (some (0, false, x0)))

set_option maxRecDepth 100000 in
theorem bytes_Cursor_Peek.calls {I : Gh} {h : Heap} {b0 : Nat} {x0 : bytes_Cursor} {a1 : Option Addr} {c2 : Nat} {v5 : Value} (hB : Bd I h) (o8 : OwnB I h b0 [.slice a1 x0.b'.length c2, .int .i64 x0.at', v5] 88) (r4 : Rd (tInt .u8) I h a1 c2 x0.b') (q7 : ErrV I h x0.err' v5) {r : (Int × Bool × bytes_Cursor)}
    (H : bytes_Cursor_Peek.m x0 = some r) :
    Ret Tryd.prog 54 #[.pointer (some ⟨b0, 0, none⟩)] h (fun v h' => ∃ (I' : Gh) (a34 : Option Addr) (c35 : Nat) (v38 : Value), .tuple #[.int .u8 r.1, .bool r.2.1] = v ∧ Pst (One b0) I h I' h' ∧ Rd (tInt .u8) I' h' a34 c35 r.2.2.b' ∧ ErrV I' h' r.2.2.err' v38 ∧ OwnB I' h' b0 [.slice a34 r.2.2.b'.length c35, .int .i64 r.2.2.at', v38] 88) := by
  unfold bytes_Cursor_Peek.m at H
  refine ret_of (args := [.pointer (some ⟨b0, 0, none⟩)]) (rs := [.tmp 2, .tmp 3]) (N := 24) Tryd.func54 rfl rfl rfl (Nat.le_of_ble_eq_true rfl) ?_
  have pt0 : Pst (One b0) I h I h := Pst.refl hB
  have nw_b0 : (One b0) b0 ∨ h.size ≤ b0 := .inl rfl
  refine cwp_seq ?_
  refine cwp_region ?_
  refine lwp_run 2 (by kernel_rfl) ?_
  refine lwp_nil ?_
  refine cwp_seq ?_
  refine cwp_seq ?_
  refine cwp_region ?_
  refine lwp_run 3 (by kernel_rfl) ?_
  refine lwp_op (by kernel_rfl) (owp_load (by kernel_rfl) (by kernel_rfl) (o8.cell (off := 2) rfl) ?_)
  rcases q7.cases with ⟨c9, rfl⟩ | ⟨c9, t10, u11, rfl⟩
  · rw [if_pos c9] at H
    refine lwp_run 3 (by kernel_rfl) ?_
    obtain ⟨t12, m13, H⟩ := bind_some H
    refine lwp_op (by kernel_rfl) (owp_callF (by kernel_rfl) (bytes_Cursor_Left.calls (I := I) hB o8 r4 q7 m13) ?_)
    rintro v14 h15 ⟨I16, a18, c19, v22, rfl, p17, r21, q24, o25⟩
    have pt26 := pt0.own p17 (one_nw nw_b0)
    by_cases c27 : t12.1 = 0
    · rw [if_pos c27] at H
      refine lwp_op (by kernel_rfl) (owp_pure ((.bool true)) (pr_bool (by kernel_rfl) (eqT c27)) ?_)
      refine lwp_run 1 (by kernel_rfl) ?_
      refine lwp_nil ?_
      refine cwp_true (by kernel_rfl) ?_
      refine cwp_seq ?_
      refine cwp_region ?_
      refine lwp_run 2 (by kernel_rfl) ?_
      refine lwp_nil ?_
      refine cwp_ret ?_
      obtain rfl := Option.some.inj H
      show Exists _
      exact ⟨.tuple #[.int .u8 0, .bool false], by kernel_rfl, I16, a18, c19, (v22), rfl, pt26, r21, q24, o25⟩
    · rw [if_neg c27] at H
      refine lwp_op (by kernel_rfl) (owp_pure ((.bool false)) (pr_bool (by kernel_rfl) (eqF c27)) ?_)
      refine lwp_run 1 (by kernel_rfl) ?_
      refine lwp_nil ?_
      refine cwp_false (by kernel_rfl) ?_
      refine cwp_skip ?_
      refine cwp_seq ?_
      refine cwp_regionD (Keep No h15) 12 (by kernel_rfl) ?_
      refine awp_run (fuel := 9) [0, 1, 2] Keep.refl (by kernel_rfl) ?_
      refine awp_load 3 rfl (by kernel_rfl) (by kernel_rfl) (by kernel_rfl) (by kernel_rfl) Keep.refl (o25.cell (off := 0) rfl) (fun _ _ x => x.elim) ?_
      refine awp_run (fuel := 5) [4, 5, 6] Keep.refl (by kernel_rfl) ?_
      refine awp_load 7 rfl (by kernel_rfl) (by kernel_rfl) (by kernel_rfl) (by kernel_rfl) Keep.refl (o25.cell (off := 1) rfl) (fun _ _ x => x.elim) ?_
      obtain ⟨c28, H⟩ := guard_pos H
      obtain ⟨c29, H⟩ := guard_pos H
      have hs30 := (r21.toSl).isSome c28 c29
      refine awp_pure 8 (elemPtr a18 (t12.2.at'.toNat * 1)) rfl (by kernel_rfl) (by kernel_rfl) (pr_indexElem (e := 5) (r21.toSl) (k := .i64) (by kernel_rfl) (by kernel_rfl) (by kernel_rfl) (by kernel_rfl) c28 c29) Keep.refl ?_
      obtain ⟨cs31, hs32, rp33⟩ := (r21.toSl).seg c28 c29
      obtain rfl := rep_int rp33
      refine awp_load 9 rfl (by kernel_rfl) (by kernel_rfl) (by kernel_rfl) (by kernel_rfl) Keep.refl (seg_cell (f := 0) hs32 rfl) (fun _ _ x => x.elim) ?_
      refine awp_run (fuel := 0) [10, 11] Keep.refl (by kernel_rfl) ?_
      refine awp_nil (by kernel_rfl) ?_ 0
      refine cwp_ret ?_
      obtain rfl := Option.some.inj H
      show Exists _
      exact ⟨.tuple #[.int .u8 (at_ t12.2.b' t12.2.at'), .bool true], by kernel_rfl, I16, a18, c19, (v22), rfl, pt26, r21, q24, o25⟩
  · rw [if_neg c9] at H
    refine lwp_run 6 (by kernel_rfl) ?_
    refine lwp_nil ?_
    refine cwp_true (by kernel_rfl) ?_
    refine cwp_seq ?_
    refine cwp_region ?_
    refine lwp_run 2 (by kernel_rfl) ?_
    refine lwp_nil ?_
    refine cwp_ret ?_
    obtain rfl := Option.some.inj H
    show Exists _
    exact ⟨.tuple #[.int .u8 0, .bool false], by kernel_rfl, I, a1, c2, ((.iface t10 u11)), rfl, pt0, r4, q7, o8⟩

/-! (*shutter/bytes.Cursor).Take -/
def bytes_Cursor_Take.m (x0 : bytes_Cursor) (x1 : Int) : Option ((List Int) × bytes_Cursor) :=
  (letJ (α := (List Int) → Int → GoErr → Option ((List Int) × bytes_Cursor)) (fun (x59 : List Int) (x64 : Int) (x65 : GoErr) => (if x65 = GoErr.nil then (if 0 ≤ (w64 ((w64 (x64 + x1)) - x1)) then (if (w64 ((w64 (x64 + x1)) - x1)) ≤ (w64 (x64 + x1)) then (if (w64 (x64 + x1)) ≤ (x59.length : Int) then ((slices_Clone_bytes.m (sub x59 (w64 ((w64 (x64 + x1)) - x1)) (w64 (x64 + x1)))).bind fun t87 => (some (t87, (⟨x59, (w64 (x64 + x1)), x65⟩ : bytes_Cursor)))) else none) else none) else none) else (some ([], (⟨x59, x64, x65⟩ : bytes_Cursor))))) fun (j70 : (List Int) → Int → GoErr → Option ((List Int) × bytes_Cursor)) => (if x1 < 0 then ((bytes_Cursor_Fail.m x0 (GoErr.no 2)).bind fun t10 => (j70 t10.b' t10.at' t10.err')) else ((bytes_Cursor_Left.m x0).bind fun t25 => (if x1 > t25.1 then ((bytes_Cursor_Fail.m t25.2 (GoErr.no 2)).bind fun t41 => (j70 t41.b' t41.at' t41.err')) else (j70 t25.2.b' t25.2.at' t25.2.err')))))

set_option maxRecDepth 100000 in
theorem bytes_Cursor_Take.calls {I : Gh} {h : Heap} {b0 : Nat} {x0 : bytes_Cursor} {a1 : Option Addr} {c2 : Nat} {v5 : Value} {x1 : Int} (hB : Bd I h) (o8 : OwnB I h b0 [.slice a1 x0.b'.length c2, .int .i64 x0.at', v5] 88) (r4 : Rd (tInt .u8) I h a1 c2 x0.b') (q7 : ErrV I h x0.err' v5) {r : ((List Int) × bytes_Cursor)}
    (H : bytes_Cursor_Take.m x0 x1 = some r) :
    Ret Tryd.prog 20 #[.pointer (some ⟨b0, 0, none⟩), .int .i64 x1] h (fun v h' => ∃ (I' : Gh) (a107 : Option Addr) (c108 : Nat) (a112 : Option Addr) (c113 : Nat) (v116 : Value), .slice a107 r.1.length c108 = v ∧ Pst (One b0) I h I' h' ∧ Own (tInt .u8) I' h' a107 c108 r.1 ∧ (∀ b, InA a107 b → (One b0) b ∨ h.size ≤ b) ∧ Rd (tInt .u8) I' h' a112 c113 r.2.b' ∧ ErrV I' h' r.2.err' v116 ∧ OwnB I' h' b0 [.slice a112 r.2.b'.length c113, .int .i64 r.2.at', v116] 88 ∧ ¬ InA a107 b0) := by
  unfold bytes_Cursor_Take.m at H
  refine ret_of (args := [.pointer (some ⟨b0, 0, none⟩), .int .i64 x1]) (rs := [.tmp 4]) (N := 45) Tryd.func20 rfl rfl rfl (Nat.le_of_ble_eq_true rfl) ?_
  have pt0 : Pst (One b0) I h I h := Pst.refl hB
  have nw_b0 : (One b0) b0 ∨ h.size ≤ b0 := .inl rfl
  refine cwp_seq ?_
  refine cwp_region ?_
  refine lwp_run 1 (by kernel_rfl) ?_
  refine lwp_nil ?_
  obtain ⟨j70, e106, H⟩ := letJ_some H
  refine cwp_join (fun ρ' h56 => ∃ (x59 : List Int) (x64 : Int) (x65 : GoErr) (a60 : Option Addr) (c61 : Nat) (v66 : Value) (I57 : Gh), j70 x59 x64 x65 = some r ∧ Fits [(0, .pointer (some ⟨b0, 0, none⟩)), (1, .int .i64 x1)] ρ' ∧ Pst (One b0) I h I57 h56 ∧ Rd (tInt .u8) I57 h56 a60 c61 x59 ∧ ErrV I57 h56 x65 v66 ∧ OwnB I57 h56 b0 [.slice a60 x59.length c61, .int .i64 x64, v66] 88) ?_ ?_
  · refine cwp_seq ?_
    refine cwp_region ?_
    refine lwp_run 1 (by kernel_rfl) ?_
    by_cases c9 : x1 < 0
    · rw [if_pos c9] at H
      refine lwp_op (by kernel_rfl) (owp_pure ((.bool true)) (pr_bool (by kernel_rfl) (decide_eq_true c9)) ?_)
      refine lwp_run 6 (by kernel_rfl) ?_
      refine lwp_nil ?_
      refine cwp_true (by kernel_rfl) ?_
      refine cwp_region ?_
      refine lwp_run 2 (by kernel_rfl) ?_
      obtain ⟨t10, m11, H⟩ := bind_some H
      refine lwp_op (by kernel_rfl) (owp_callF (by kernel_rfl) (bytes_Cursor_Fail.calls (I := I) hB o8 r4 q7 (show ErrV I h (GoErr.no 2) (.iface 78 (.int .i64 2)) from rfl) m11) ?_)
      rintro v12 h13 ⟨I14, a16, c17, v20, rfl, p15, r19, q22, o23⟩
      have pt24 := pt0.own p15 (one_nw nw_b0)
      refine lwp_nil ?_
      exact ⟨t10.b', t10.at', t10.err', a16, c17, v20, I14, H, ⟨by kernel_rfl, by kernel_rfl, trivial⟩, pt24, r19, q22, o23⟩
    · rw [if_neg c9] at H
      refine lwp_op (by kernel_rfl) (owp_pure ((.bool false)) (pr_bool (by kernel_rfl) (decide_eq_false c9)) ?_)
      refine lwp_run 3 (by kernel_rfl) ?_
      obtain ⟨t25, m26, H⟩ := bind_some H
      refine lwp_op (by kernel_rfl) (owp_callF (by kernel_rfl) (bytes_Cursor_Left.calls (I := I) hB o8 r4 q7 m26) ?_)
      rintro v27 h28 ⟨I29, a31, c32, v35, rfl, p30, r34, q37, o38⟩
      have pt39 := pt0.own p30 (one_nw nw_b0)
      by_cases c40 : x1 > t25.1
      · rw [if_pos c40] at H
        refine lwp_op (by kernel_rfl) (owp_pure ((.bool true)) (pr_bool (by kernel_rfl) (decide_eq_true c40)) ?_)
        refine lwp_run 1 (by kernel_rfl) ?_
        refine lwp_nil ?_
        refine cwp_true (by kernel_rfl) ?_
        refine cwp_region ?_
        refine lwp_run 2 (by kernel_rfl) ?_
        obtain ⟨t41, m42, H⟩ := bind_some H
        refine lwp_op (by kernel_rfl) (owp_callF (by kernel_rfl) (bytes_Cursor_Fail.calls (I := I29) p30.bd o38 r34 q37 (show ErrV I29 h28 (GoErr.no 2) (.iface 78 (.int .i64 2)) from rfl) m42) ?_)
        rintro v43 h44 ⟨I45, a47, c48, v51, rfl, p46, r50, q53, o54⟩
        have pt55 := pt39.own p46 (one_nw nw_b0)
        refine lwp_nil ?_
        exact ⟨t41.b', t41.at', t41.err', a47, c48, v51, I45, H, ⟨by kernel_rfl, by kernel_rfl, trivial⟩, pt55, r50, q53, o54⟩
      · rw [if_neg c40] at H
        refine lwp_op (by kernel_rfl) (owp_pure ((.bool false)) (pr_bool (by kernel_rfl) (decide_eq_false c40)) ?_)
        refine lwp_run 1 (by kernel_rfl) ?_
        refine lwp_nil ?_
        refine cwp_false (by kernel_rfl) ?_
        refine cwp_skip ?_
        exact ⟨t25.2.b', t25.2.at', t25.2.err', a31, c32, v35, I29, H, ⟨by kernel_rfl, by kernel_rfl, trivial⟩, pt39, r34, q37, o38⟩
  · clear H
    rintro ρ' h56 ⟨x59, x64, x65, a60, c61, v66, I57, H, hf, pt58, r62, q67, o69⟩
    refine cwp_fits _ hf ?_
    subst e106
    try dsimp only at H
    refine cwp_seq ?_
    refine cwp_seq ?_
    refine cwp_region ?_
    refine lwp_run 3 (by kernel_rfl) ?_
    refine lwp_op (by kernel_rfl) (owp_load (by kernel_rfl) (by kernel_rfl) (o69.cell (off := 2) rfl) ?_)
    rcases q67.cases with ⟨c71, rfl⟩ | ⟨c71, t72, u73, rfl⟩
    · rw [if_pos c71] at H
      refine lwp_run 1 (by kernel_rfl) ?_
      refine lwp_nil ?_
      refine cwp_false (by kernel_rfl) ?_
      refine cwp_skip ?_
      refine cwp_seq ?_
      refine cwp_region ?_
      refine lwp_run 3 (by kernel_rfl) ?_
      refine lwp_op (by kernel_rfl) (owp_load (by kernel_rfl) (by kernel_rfl) (o69.cell (off := 1) rfl) ?_)
      refine lwp_run 4 (by kernel_rfl) ?_
      refine lwp_op (by kernel_rfl) (owp_store1 1 (.int .i64 (w64 (x64 + x1))) pt58.bd o69 (by kernel_rfl) (by kernel_rfl) rfl (by kernel_rfl) (Nat.le_of_ble_eq_true rfl) ?_)
      intro h74 p75 o76
      have pt77 := pt58.own p75 (one_nw nw_b0)
      refine lwp_nil ?_
      refine cwp_seq ?_
      refine cwp_regionD (Keep No h74) 17 (by kernel_rfl) ?_
      refine awp_run (fuel := 14) [0, 1, 2] Keep.refl (by kernel_rfl) ?_
      refine awp_load 3 rfl (by kernel_rfl) (by kernel_rfl) (by kernel_rfl) (by kernel_rfl) Keep.refl (o76.cell (off := 0) rfl) (fun _ _ x => x.elim) ?_
      refine awp_run (fuel := 10) [4, 5, 6] Keep.refl (by kernel_rfl) ?_
      refine awp_load 7 rfl (by kernel_rfl) (by kernel_rfl) (by kernel_rfl) (by kernel_rfl) Keep.refl (o76.cell (off := 1) rfl) (fun _ _ x => x.elim) ?_
      refine awp_run (fuel := 4) [8, 9, 10, 11, 12] Keep.refl (by kernel_rfl) ?_
      refine awp_load 13 rfl (by kernel_rfl) (by kernel_rfl) (by kernel_rfl) (by kernel_rfl) Keep.refl (o76.cell (off := 1) rfl) (fun _ _ x => x.elim) ?_
      obtain ⟨c78, H⟩ := guard_pos H
      obtain ⟨c79, H⟩ := guard_pos H
      obtain ⟨c80, H⟩ := guard_pos H
      have f82 := r62.up (p75.up pt58.bd (one_not o69.no))
      obtain ⟨a84, c85, r83, e86⟩ := f82.part (lo := (w64 ((w64 (x64 + x1)) - x1))) (hi := (w64 (x64 + x1))) c78 c79 c80
      refine awp_pure 14 ((.slice a84 ((sub x59 (w64 ((w64 (x64 + x1)) - x1)) (w64 (x64 + x1))).length) c85)) rfl (by kernel_rfl) (by kernel_rfl) (pr_slice_lh (e := 5) (f82.toSl) e86 (by kernel_rfl) (k1 := .i64) (by kernel_rfl) (k2 := .i64) (by kernel_rfl) (by kernel_rfl) (by kernel_rfl) c78 c79 c80) Keep.refl ?_
      obtain ⟨t87, m88, H⟩ := bind_some H
      refine awp_op 15 (by kernel_rfl) rfl (by kernel_rfl) (owp_callF (by kernel_rfl) (slices_Clone_bytes.calls (I := I57) p75.bd r83 m88) ?_)
      rintro v89 h90 ⟨I91, a93, c94, rfl, p92, r96, fr97⟩
      have pt98 := pt77.no p92
      have fr99 := nw_step (M := (One b0)) (n := h.size) (fun _ x => x.elim) fr97 pt77.size
      have d100 := step_blk fr97 o76.lt (fun x => x.elim)
      have hK101 := Keep.post (M := No) Keep.refl (Nat.le_refl _) p92 (fun _ x => x.elim)
      refine ⟨hK101, ?_⟩
      refine awp_run (fuel := 0) [16] hK101 (by kernel_rfl) ?_
      refine awp_nil (by kernel_rfl) ?_ 0
      refine cwp_ret ?_
      obtain rfl := Option.some.inj H
      have f102 := f82.up (p92.up p75.bd (fun _ x => x.elim))
      have f103 := ErrV.up (p75.up pt58.bd (one_not o69.no)) q67
      have f104 := ErrV.up (p92.up p75.bd (fun _ x => x.elim)) f103
      have f105 := o76.post p92 (fun x => x.elim)
      show Exists _
      exact ⟨.slice a93 t87.length c94, by kernel_rfl, I91, a93, c94, a60, c61, (.nilIface), rfl, pt98, r96, fr99, f102, f104, f105, d100⟩
    · rw [if_neg c71] at H
      refine lwp_run 1 (by kernel_rfl) ?_
      refine lwp_nil ?_
      refine cwp_true (by kernel_rfl) ?_
      refine cwp_seq ?_
      refine cwp_region ?_
      refine lwp_run 1 (by kernel_rfl) ?_
      refine lwp_nil ?_
      refine cwp_ret ?_
      obtain rfl := Option.some.inj H
      show Exists _
      exact ⟨.slice none 0 0, by kernel_rfl, I57, none, 0, a60, c61, ((.iface t72 u73)), rfl, pt58, (own_nil (tInt .u8) I57 I57 h56), none_nw, r62, q67, o69, inA_none⟩

/-! (*shutter/bytes.Cursor).Chars$1 -/
def bytes_Cursor_Chars_1.m (x0 : Int) : Option Bool :=
  ((attr_Char.m x0).bind fun t1 => (some (!t1)))

set_option maxRecDepth 100000 in
theorem bytes_Cursor_Chars_1.calls {I : Gh} {h : Heap} {x0 : Int} (hB : Bd I h)  {r : Bool}
    (H : bytes_Cursor_Chars_1.m x0 = some r) :
    Ret Tryd.prog 84 #[.int .u8 x0] h (fun v h' => ∃ _ : Unit, .bool r = v ∧ h = h') := by
  unfold bytes_Cursor_Chars_1.m at H
  refine ret_of (args := [.int .u8 x0]) (rs := [.tmp 2]) (N := 6) Tryd.func84 rfl rfl rfl (Nat.le_of_ble_eq_true rfl) ?_
  refine cwp_seq ?_
  refine cwp_region ?_
  refine lwp_run 1 (by kernel_rfl) ?_
  refine lwp_nil ?_
  refine cwp_seq ?_
  refine cwp_region ?_
  refine lwp_run 1 (by kernel_rfl) ?_
  obtain ⟨t1, m2, H⟩ := bind_some H
  refine lwp_op (by kernel_rfl) (owp_callF (by kernel_rfl) (attr_Char.calls (I := I) hB m2) ?_)
  rintro v3 h4 ⟨_, rfl, rfl⟩
  refine lwp_run 2 (by kernel_rfl) ?_
  refine lwp_nil ?_
  refine cwp_ret ?_
  obtain rfl := Option.some.inj H
  show Exists _
  exact ⟨.bool (!t1), by kernel_rfl, (), rfl, rfl⟩

/-! slices.IndexFunc[[]byte,byte] -/
def slices_IndexFunc_bytes__bytes_Cursor_Chars_1.l1.m (K : Nat) (x0 : (List Int)) : Nat → Int → Option (Int ⊕ (Unit))
  | 0, _ => none
  | k + 1, x8 => (letJ (α := Bool → Option (Int ⊕ (Unit))) (fun (x20 : Bool) => (bif x20 then (if 0 ≤ x8 then (if x8 < (x0.length : Int) then ((bytes_Cursor_Chars_1.m (at_ x0 x8)).bind fun t28 => bif t28 then (some (Sum.inl x8)) else (slices_IndexFunc_bytes__bytes_Cursor_Chars_1.l1.m K x0 k (w64 (x8 + 1)))) else none) else none) else (some (Sum.inr ())))) fun (j21 : Bool → Option (Int ⊕ (Unit))) => (if x8 < (x0.length : Int) then (j21 true) else (j21 false)))
def slices_IndexFunc_bytes__bytes_Cursor_Chars_1.m (K : Nat) (x0 : (List Int)) : Option Int :=
  ((slices_IndexFunc_bytes__bytes_Cursor_Chars_1.l1.m K x0 K 0).bind fun s10 => match s10 with | .inl q => (some q) | .inr _ => (some (-1)))

set_option maxRecDepth 100000 in
theorem slices_IndexFunc_bytes__bytes_Cursor_Chars_1.calls {I : Gh} {h : Heap} {K : Nat} {x0 : List Int} {a1 : Option Addr} {c2 : Nat} (hB : Bd I h) (r4 : Rd (tInt .u8) I h a1 c2 x0) {r : Int}
    (H : slices_IndexFunc_bytes__bytes_Cursor_Chars_1.m K x0 = some r) :
    Ret Tryd.prog 78 #[.slice a1 x0.length c2, .func (.func 84) #[] #[]] h (fun v h' => ∃ _ : Unit, .int .i64 r = v ∧ h = h') := by
  unfold slices_IndexFunc_bytes__bytes_Cursor_Chars_1.m at H
  refine ret_of (args := [.slice a1 x0.length c2, .func (.func 84) #[] #[]]) (rs := [.tmp 4]) (N := 19) Tryd.func78 rfl rfl rfl (Nat.le_of_ble_eq_true rfl) ?_
  refine cwp_seq ?_
  refine cwp_region ?_
  refine lwp_run 1 (by kernel_rfl) ?_
  refine lwp_nil ?_
  refine cwp_seq ?_
  refine cwp_seq ?_
  refine cwp_region ?_
  refine lwp_run 3 (by kernel_rfl) ?_
  refine lwp_nil ?_
  refine cwp_block ?_
  obtain ⟨s10, m14, HR15⟩ := bind_some H
  refine cwp_loopE 0 (fun ρ' h11 => ∃ (_ : Unit), Sum.inr () = s10 ∧ Fits [] ρ' ∧ h = h11) ?_ ?_
  · refine cwp_loop (fun k' ρ' h5 => ∃ (x8 : Int) (_ : Unit), slices_IndexFunc_bytes__bytes_Cursor_Chars_1.l1.m K x0 k' x8 = some s10 ∧ Fits [(0, .slice a1 x0.length c2), (1, .func (.func 84) #[] #[]), (7, .int .i64 (x0.length : Int)), (8, .int .i64 x8)] ρ' ∧ h = h5) K ⟨0, (), m14, ⟨by kernel_rfl, by kernel_rfl, by kernel_rfl, by kernel_rfl, trivial⟩, rfl⟩ ?_
    clear m14
    rintro k' ρ' h5 ⟨x8, _, H, hf, rfl⟩
    cases k' with
    | zero => cases H
    | succ k =>
      rw [slices_IndexFunc_bytes__bytes_Cursor_Chars_1.l1.m] at H
      refine cwp_fits _ hf ?_
      obtain ⟨j21, e34, H⟩ := letJ_some H
      refine cwp_join (fun ρ' h17 => ∃ (x20 : Bool) (_ : Unit), j21 x20 = some s10 ∧ Fits [(0, .slice a1 x0.length c2), (1, .func (.func 84) #[] #[]), (7, .int .i64 (x0.length : Int)), (8, .int .i64 x8), (9, .bool x20)] ρ' ∧ h = h17) ?_ ?_
      · refine cwp_region ?_
        by_cases c16 : x8 < (x0.length : Int)
        · rw [if_pos c16] at H
          refine lwp_op (by kernel_rfl) (owp_pure ((.bool true)) (pr_bool (by kernel_rfl) (decide_eq_true c16)) ?_)
          refine lwp_nil ?_
          exact ⟨true, (), H, ⟨by kernel_rfl, by kernel_rfl, by kernel_rfl, by kernel_rfl, by kernel_rfl, trivial⟩, rfl⟩
        · rw [if_neg c16] at H
          refine lwp_op (by kernel_rfl) (owp_pure ((.bool false)) (pr_bool (by kernel_rfl) (decide_eq_false c16)) ?_)
          refine lwp_nil ?_
          exact ⟨false, (), H, ⟨by kernel_rfl, by kernel_rfl, by kernel_rfl, by kernel_rfl, by kernel_rfl, trivial⟩, rfl⟩
      · clear H
        rintro ρ' h17 ⟨x20, _, H, hf, rfl⟩
        refine cwp_fits _ hf ?_
        subst e34
        try dsimp only at H
        refine cwp_seq ?_
        cases x20
        · rw [cond_false] at H
          refine cwp_false (by kernel_rfl) ?_
          refine cwp_exit ?_
          obtain rfl := Option.some.inj H
          show Exists _
          exact ⟨(), rfl, trivial, rfl⟩
        · rw [cond_true] at H
          refine cwp_true (by kernel_rfl) ?_
          refine cwp_skip ?_
          refine cwp_seq ?_
          refine cwp_block ?_
          refine cwp_seq ?_
          refine cwp_region ?_
          refine lwp_run 2 (by kernel_rfl) ?_
          refine lwp_nil ?_
          refine cwp_seq ?_
          refine cwp_region ?_
          obtain ⟨c22, H⟩ := guard_pos H
          obtain ⟨c23, H⟩ := guard_pos H
          refine lwp_run 3 (by kernel_rfl) ?_
          have hs24 := (r4.toSl).isSome c22 c23
          refine lwp_op (by kernel_rfl) (owp_pure (elemPtr a1 (x8.toNat * 1)) (pr_indexElem (e := 5) (r4.toSl) (k := .i64) (by kernel_rfl) (by kernel_rfl) (by kernel_rfl) (by kernel_rfl) c22 c23) ?_)
          obtain ⟨cs25, hs26, rp27⟩ := (r4.toSl).seg c22 c23
          obtain rfl := rep_int rp27
          refine lwp_op (by kernel_rfl) (owp_load (by kernel_rfl) (by kernel_rfl) (seg_cell (f := 0) hs26 rfl) ?_)
          obtain ⟨t28, m29, H⟩ := bind_some H
          refine lwp_op (by kernel_rfl) (owp_callF (by kernel_rfl) (bytes_Cursor_Chars_1.calls (I := I) hB m29) ?_)
          rintro v30 h31 ⟨_, rfl, rfl⟩
          cases t28
          · rw [cond_false] at H
            refine lwp_nil ?_
            refine cwp_false (by kernel_rfl) ?_
            refine cwp_skip ?_
            refine cwp_region ?_
            refine lwp_run 2 (by kernel_rfl) ?_
            refine lwp_nil ?_
            show Exists _
            exact ⟨k, Nat.lt_succ_self _, (w64 (x8 + 1)), (), H, ⟨by kernel_rfl, by kernel_rfl, by kernel_rfl, by kernel_rfl, trivial⟩, rfl⟩
          · rw [cond_true] at H
            refine lwp_nil ?_
            refine cwp_true (by kernel_rfl) ?_
            refine cwp_seq ?_
            refine cwp_region ?_
            refine lwp_run 2 (by kernel_rfl) ?_
            refine lwp_nil ?_
            refine cwp_ret ?_
            obtain rfl := Option.some.inj H
            obtain rfl := Option.some.inj HR15
            show Exists _
            exact ⟨.int .i64 x8, by kernel_rfl, (), rfl, rfl⟩
  · rintro ρ' h11 ⟨_, rfl, hf, rfl⟩
    have H := HR15
    try dsimp only at H
    refine cwp_fits _ hf ?_
    refine cwp_seq ?_
    refine cwp_region ?_
    refine lwp_run 1 (by kernel_rfl) ?_
    refine lwp_nil ?_
    refine cwp_ret ?_
    obtain rfl := Option.some.inj H
    show Exists _
    exact ⟨.int .i64 (-1), by kernel_rfl, (), rfl, rfl⟩

/-! (*shutter/bytes.Cursor).Chars -/
def bytes_Cursor_Chars.m (K : Nat) (x0 : bytes_Cursor) : Option ((List Int) × bytes_Cursor) :=
  (if x0.err' = GoErr.nil then (if 0 ≤ x0.at' then (if x0.at' ≤ (x0.b'.length : Int) then ((slices_IndexFunc_bytes__bytes_Cursor_Chars_1.m K (sub x0.b' x0.at' (x0.b'.length : Int))).bind fun t19 => (if t19 < 0 then ((bytes_Cursor_Left.m x0).bind fun t26 => ((bytes_Cursor_Take.m t26.2 t26.1).bind fun t41 => (some (t41.1, t41.2)))) else ((bytes_Cursor_Take.m x0 t19).bind fun t63 => (some (t63.1, t63.2))))) else none) else none) else (some ([], x0)))

set_option maxRecDepth 100000 in
theorem bytes_Cursor_Chars.calls {I : Gh} {h : Heap} {K : Nat} {b0 : Nat} {x0 : bytes_Cursor} {a1 : Option Addr} {c2 : Nat} {v5 : Value} (hB : Bd I h) (o8 : OwnB I h b0 [.slice a1 x0.b'.length c2, .int .i64 x0.at', v5] 88) (r4 : Rd (tInt .u8) I h a1 c2 x0.b') (q7 : ErrV I h x0.err' v5) {r : ((List Int) × bytes_Cursor)}
    (H : bytes_Cursor_Chars.m K x0 = some r) :
    Ret Tryd.prog 55 #[.pointer (some ⟨b0, 0, none⟩)] h (fun v h' => ∃ (I' : Gh) (a85 : Option Addr) (c86 : Nat) (a90 : Option Addr) (c91 : Nat) (v94 : Value), .slice a85 r.1.length c86 = v ∧ Pst (One b0) I h I' h' ∧ Own (tInt .u8) I' h' a85 c86 r.1 ∧ (∀ b, InA a85 b → (One b0) b ∨ h.size ≤ b) ∧ Rd (tInt .u8) I' h' a90 c91 r.2.b' ∧ ErrV I' h' r.2.err' v94 ∧ OwnB I' h' b0 [.slice a90 r.2.b'.length c91, .int .i64 r.2.at', v94] 88 ∧ ¬ InA a85 b0) := by
  unfold bytes_Cursor_Chars.m at H
  refine ret_of (args := [.pointer (some ⟨b0, 0, none⟩)]) (rs := [.tmp 2]) (N := 26) Tryd.func55 rfl rfl rfl (Nat.le_of_ble_eq_true rfl) ?_
  have pt0 : Pst (One b0) I h I h := Pst.refl hB
  have nw_b0 : (One b0) b0 ∨ h.size ≤ b0 := .inl rfl
  refine cwp_seq ?_
  refine cwp_region ?_
  refine lwp_run 1 (by kernel_rfl) ?_
  refine lwp_nil ?_
  refine cwp_seq ?_
  refine cwp_seq ?_
  refine cwp_region ?_
  refine lwp_run 3 (by kernel_rfl) ?_
  refine lwp_op (by kernel_rfl) (owp_load (by kernel_rfl) (by kernel_rfl) (o8.cell (off := 2) rfl) ?_)
  rcases q7.cases with ⟨c9, rfl⟩ | ⟨c9, t10, u11, rfl⟩
  · rw [if_pos c9] at H
    refine lwp_run 1 (by kernel_rfl) ?_
    refine lwp_nil ?_
    refine cwp_false (by kernel_rfl) ?_
    refine cwp_skip ?_
    refine cwp_seq ?_
    refine cwp_regionD (Keep No h) 11 (by kernel_rfl) ?_
    refine awp_run (fuel := 8) [0, 1, 2] Keep.refl (by kernel_rfl) ?_
    refine awp_load 3 rfl (by kernel_rfl) (by kernel_rfl) (by kernel_rfl) (by kernel_rfl) Keep.refl (o8.cell (off := 0) rfl) (fun _ _ x => x.elim) ?_
    refine awp_run (fuel := 4) [4, 5, 6] Keep.refl (by kernel_rfl) ?_
    refine awp_load 7 rfl (by kernel_rfl) (by kernel_rfl) (by kernel_rfl) (by kernel_rfl) Keep.refl (o8.cell (off := 1) rfl) (fun _ _ x => x.elim) ?_
    obtain ⟨c12, H⟩ := guard_pos H
    obtain ⟨c13, H⟩ := guard_pos H
    obtain ⟨a16, c17, r15, e18⟩ := r4.part (lo := x0.at') (hi := (x0.b'.length : Int)) c12 c13 (Int.le_refl _)
    refine awp_pure 8 ((.slice a16 ((sub x0.b' x0.at' (x0.b'.length : Int)).length) c17)) rfl (by kernel_rfl) (by kernel_rfl) (pr_slice_l (e := 5) (r4.toSl) e18 (by kernel_rfl) (k1 := .i64) (by kernel_rfl) (by kernel_rfl) (by kernel_rfl) c12 c13 (Int.le_refl _)) Keep.refl ?_
    obtain ⟨t19, m20, H⟩ := bind_some H
    refine awp_op 9 (by kernel_rfl) rfl (by kernel_rfl) (owp_callF (by kernel_rfl) (slices_IndexFunc_bytes__bytes_Cursor_Chars_1.calls (I := I) hB r15 m20) ?_)
    rintro v21 h22 ⟨_, rfl, rfl⟩
    refine ⟨Keep.refl, ?_⟩
    refine awp_run (fuel := 0) [10] Keep.refl (by kernel_rfl) ?_
    refine awp_nil (by kernel_rfl) ?_ 0
    refine cwp_seq ?_
    refine cwp_seq ?_
    refine cwp_region ?_
    refine lwp_run 1 (by kernel_rfl) ?_
    by_cases c25 : t19 < 0
    · rw [if_pos c25] at H
      refine lwp_op (by kernel_rfl) (owp_pure ((.bool true)) (pr_bool (by kernel_rfl) (decide_eq_true c25)) ?_)
      refine lwp_nil ?_
      refine cwp_true (by kernel_rfl) ?_
      refine cwp_region ?_
      refine lwp_run 1 (by kernel_rfl) ?_
      obtain ⟨t26, m27, H⟩ := bind_some H
      refine lwp_op (by kernel_rfl) (owp_callF (by kernel_rfl) (bytes_Cursor_Left.calls (I := I) hB o8 r4 q7 m27) ?_)
      rintro v28 h29 ⟨I30, a32, c33, v36, rfl, p31, r35, q38, o39⟩
      have pt40 := pt0.own p31 (one_nw nw_b0)
      refine lwp_run 1 (by kernel_rfl) ?_
      refine lwp_nil ?_
      refine cwp_seq ?_
      refine cwp_region ?_
      refine lwp_run 2 (by kernel_rfl) ?_
      obtain ⟨t41, m42, H⟩ := bind_some H
      refine lwp_op (by kernel_rfl) (owp_callF (by kernel_rfl) (bytes_Cursor_Take.calls (I := I30) p31.bd o39 r35 q38 m42) ?_)
      rintro v43 h44 ⟨I45, a47, c48, a52, c53, v56, rfl, p46, r50, fr51, r55, q58, o59, d60⟩
      have pt61 := pt40.own p46 (one_nw nw_b0)
      have fr62 := nw_step (M := (One b0)) (n := h.size) (one_nw nw_b0) fr51 pt40.size
      refine lwp_run 1 (by kernel_rfl) ?_
      refine lwp_nil ?_
      refine cwp_ret ?_
      obtain rfl := Option.some.inj H
      show Exists _
      exact ⟨.slice a47 t41.1.length c48, by kernel_rfl, I45, a47, c48, a52, c53, (v56), rfl, pt61, r50, fr62, r55, q58, o59, d60⟩
    · rw [if_neg c25] at H
      refine lwp_op (by kernel_rfl) (owp_pure ((.bool false)) (pr_bool (by kernel_rfl) (decide_eq_false c25)) ?_)
      refine lwp_nil ?_
      refine cwp_false (by kernel_rfl) ?_
      refine cwp_skip ?_
      refine cwp_seq ?_
      refine cwp_region ?_
      refine lwp_run 2 (by kernel_rfl) ?_
      obtain ⟨t63, m64, H⟩ := bind_some H
      refine lwp_op (by kernel_rfl) (owp_callF (by kernel_rfl) (bytes_Cursor_Take.calls (I := I) hB o8 r4 q7 m64) ?_)
      rintro v65 h66 ⟨I67, a69, c70, a74, c75, v78, rfl, p68, r72, fr73, r77, q80, o81, d82⟩
      have pt83 := pt0.own p68 (one_nw nw_b0)
      have fr84 := nw_step (M := (One b0)) (n := h.size) (one_nw nw_b0) fr73 pt0.size
      refine lwp_run 1 (by kernel_rfl) ?_
      refine lwp_nil ?_
      refine cwp_ret ?_
      obtain rfl := Option.some.inj H
      show Exists _
      exact ⟨.slice a69 t63.1.length c70, by kernel_rfl, I67, a69, c70, a74, c75, (v78), rfl, pt83, r72, fr84, r77, q80, o81, d82⟩
  · rw [if_neg c9] at H
    refine lwp_run 1 (by kernel_rfl) ?_
    refine lwp_nil ?_
    refine cwp_true (by kernel_rfl) ?_
    refine cwp_seq ?_
    refine cwp_region ?_
    refine lwp_run 1 (by kernel_rfl) ?_
    refine lwp_nil ?_
    refine cwp_ret ?_
    obtain rfl := Option.some.inj H
    show Exists _
    exact ⟨.slice none 0 0, by kernel_rfl, I, none, 0, a1, c2, ((.iface t10 u11)), rfl, pt0, (own_nil (tInt .u8) I I h), none_nw, r4, q7, o8, inA_none⟩

/-! shutter/order.kind -/
def order_kind.l1.m (K : Nat) (x0 : Int) : Nat → Int → Option (Int ⊕ (Unit))
  | 0, _ => none
  | k + 1, x4 => (if x4 ≤ 7 then ((order_byteOf.m x4).bind fun t13 => (if t13 = x0 then (some (Sum.inl x4)) else (order_kind.l1.m K x0 k (w64 (x4 + 1))))) else (some (Sum.inr ())))
def order_kind.m (K : Nat) (x0 : Int) : Option Int :=
  ((order_kind.l1.m K x0 K 2).bind fun s6 => match s6 with | .inl q => (some q) | .inr _ => (some 0))

set_option maxRecDepth 100000 in
theorem order_kind.calls {I : Gh} {h : Heap} {K : Nat} {x0 : Int} (hB : Bd I h)  {r : Int}
    (H : order_kind.m K x0 = some r) :
    Ret Tryd.prog 56 #[.int .u8 x0] h (fun v h' => ∃ _ : Unit, .int .i64 r = v ∧ h = h') := by
  unfold order_kind.m at H
  refine ret_of (args := [.int .u8 x0]) (rs := [.tmp 2]) (N := 13) Tryd.func56 rfl rfl rfl (Nat.le_of_ble_eq_true rfl) ?_
  refine cwp_seq ?_
  refine cwp_region ?_
  refine lwp_run 1 (by kernel_rfl) ?_
  refine lwp_nil ?_
  refine cwp_seq ?_
  refine cwp_seq ?_
  refine cwp_region ?_
  refine lwp_run 1 (by kernel_rfl) ?_
  refine lwp_nil ?_
  refine cwp_block ?_
  obtain ⟨s6, m10, HR11⟩ := bind_some H
  refine cwp_loopE 0 (fun ρ' h7 => ∃ (_ : Unit), Sum.inr () = s6 ∧ Fits [] ρ' ∧ h = h7) ?_ ?_
  · refine cwp_loop (fun k' ρ' h1 => ∃ (x4 : Int) (_ : Unit), order_kind.l1.m K x0 k' x4 = some s6 ∧ Fits [(0, .int .u8 x0), (3, .int .i64 x4)] ρ' ∧ h = h1) K ⟨2, (), m10, ⟨by kernel_rfl, by kernel_rfl, trivial⟩, rfl⟩ ?_
    clear m10
    rintro k' ρ' h1 ⟨x4, _, H, hf, rfl⟩
    cases k' with
    | zero => cases H
    | succ k =>
      rw [order_kind.l1.m] at H
      refine cwp_fits _ hf ?_
      refine cwp_seq ?_
      refine cwp_seq ?_
      refine cwp_region ?_
      refine lwp_run 1 (by kernel_rfl) ?_
      by_cases c12 : x4 ≤ 7
      · rw [if_pos c12] at H
        refine lwp_op (by kernel_rfl) (owp_pure ((.bool true)) (pr_bool (by kernel_rfl) (decide_eq_true c12)) ?_)
        refine lwp_nil ?_
        refine cwp_true (by kernel_rfl) ?_
        refine cwp_skip ?_
        refine cwp_seq ?_
        refine cwp_block ?_
        refine cwp_seq ?_
        refine cwp_region ?_
        refine lwp_run 1 (by kernel_rfl) ?_
        obtain ⟨t13, m14, H⟩ := bind_some H
        refine lwp_op (by kernel_rfl) (owp_callF (by kernel_rfl) (order_byteOf.calls (I := I) hB m14) ?_)
        rintro v15 h16 ⟨_, rfl, rfl⟩
        refine lwp_run 1 (by kernel_rfl) ?_
        by_cases c19 : t13 = x0
        · rw [if_pos c19] at H
          refine lwp_op (by kernel_rfl) (owp_pure ((.bool true)) (pr_bool (by kernel_rfl) (eqT c19)) ?_)
          refine lwp_nil ?_
          refine cwp_true (by kernel_rfl) ?_
          refine cwp_seq ?_
          refine cwp_region ?_
          refine lwp_run 2 (by kernel_rfl) ?_
          refine lwp_nil ?_
          refine cwp_ret ?_
          obtain rfl := Option.some.inj H
          obtain rfl := Option.some.inj HR11
          show Exists _
          exact ⟨.int .i64 x4, by kernel_rfl, (), rfl, rfl⟩
        · rw [if_neg c19] at H
          refine lwp_op (by kernel_rfl) (owp_pure ((.bool false)) (pr_bool (by kernel_rfl) (eqF c19)) ?_)
          refine lwp_nil ?_
          refine cwp_false (by kernel_rfl) ?_
          refine cwp_skip ?_
          refine cwp_region ?_
          refine lwp_run 3 (by kernel_rfl) ?_
          refine lwp_nil ?_
          show Exists _
          exact ⟨k, Nat.lt_succ_self _, (w64 (x4 + 1)), (), H, ⟨by kernel_rfl, by kernel_rfl, trivial⟩, rfl⟩
      · rw [if_neg c12] at H
        refine lwp_op (by kernel_rfl) (owp_pure ((.bool false)) (pr_bool (by kernel_rfl) (decide_eq_false c12)) ?_)
        refine lwp_nil ?_
        refine cwp_false (by kernel_rfl) ?_
        refine cwp_exit ?_
        obtain rfl := Option.some.inj H
        show Exists _
        exact ⟨(), rfl, trivial, rfl⟩
  · rintro ρ' h7 ⟨_, rfl, hf, rfl⟩
    have H := HR11
    try dsimp only at H
    refine cwp_fits _ hf ?_
    refine cwp_seq ?_
    refine cwp_region ?_
    refine lwp_run 1 (by kernel_rfl) ?_
    refine lwp_nil ?_
    refine cwp_ret ?_
    obtain rfl := Option.some.inj H
    show Exists _
    exact ⟨.int .i64 0, by kernel_rfl, (), rfl, rfl⟩

/-! (*shutter/bytes.Cursor).Byte -/
def bytes_Cursor_Byte.m (x0 : bytes_Cursor) : Option (Int × bytes_Cursor) :=
  ((bytes_Cursor_Take.m x0 1).bind fun t9 => (if (t9.1.length : Int) = 0 then (some (0, t9.2)) else (if 0 < (t9.1.length : Int) then (some ((at_ t9.1 0), t9.2)) else none)))

set_option maxRecDepth 100000 in
theorem bytes_Cursor_Byte.calls {I : Gh} {h : Heap} {b0 : Nat} {x0 : bytes_Cursor} {a1 : Option Addr} {c2 : Nat} {v5 : Value} (hB : Bd I h) (o8 : OwnB I h b0 [.slice a1 x0.b'.length c2, .int .i64 x0.at', v5] 88) (r4 : Rd (tInt .u8) I h a1 c2 x0.b') (q7 : ErrV I h x0.err' v5) {r : (Int × bytes_Cursor)}
    (H : bytes_Cursor_Byte.m x0 = some r) :
    Ret Tryd.prog 57 #[.pointer (some ⟨b0, 0, none⟩)] h (fun v h' => ∃ (I' : Gh) (a37 : Option Addr) (c38 : Nat) (v41 : Value), .int .u8 r.1 = v ∧ Pst (One b0) I h I' h' ∧ Rd (tInt .u8) I' h' a37 c38 r.2.b' ∧ ErrV I' h' r.2.err' v41 ∧ OwnB I' h' b0 [.slice a37 r.2.b'.length c38, .int .i64 r.2.at', v41] 88) := by
  unfold bytes_Cursor_Byte.m at H
  refine ret_of (args := [.pointer (some ⟨b0, 0, none⟩)]) (rs := [.tmp 2]) (N := 12) Tryd.func57 rfl rfl rfl (Nat.le_of_ble_eq_true rfl) ?_
  have pt0 : Pst (One b0) I h I h := Pst.refl hB
  have nw_b0 : (One b0) b0 ∨ h.size ≤ b0 := .inl rfl
  refine cwp_seq ?_
  refine cwp_region ?_
  refine lwp_run 1 (by kernel_rfl) ?_
  refine lwp_nil ?_
  refine cwp_seq ?_
  refine cwp_region ?_
  refine lwp_run 1 (by kernel_rfl) ?_
  obtain ⟨t9, m10, H⟩ := bind_some H
  refine lwp_op (by kernel_rfl) (owp_callF (by kernel_rfl) (bytes_Cursor_Take.calls (I := I) hB o8 r4 q7 m10) ?_)
  rintro v11 h12 ⟨I13, a15, c16, a20, c21, v24, rfl, p14, r18, fr19, r23, q26, o27, d28⟩
  have pt29 := pt0.own p14 (one_nw nw_b0)
  have fr30 := nw_step (M := (One b0)) (n := h.size) (one_nw nw_b0) fr19 pt0.size
  refine lwp_run 1 (by kernel_rfl) ?_
  refine lwp_nil ?_
  refine cwp_seq ?_
  refine cwp_seq ?_
  refine cwp_region ?_
  refine lwp_run 2 (by kernel_rfl) ?_
  by_cases c31 : (t9.1.length : Int) = 0
  · rw [if_pos c31] at H
    refine lwp_op (by kernel_rfl) (owp_pure ((.bool true)) (pr_bool (by kernel_rfl) (eqT c31)) ?_)
    refine lwp_nil ?_
    refine cwp_true (by kernel_rfl) ?_
    refine cwp_seq ?_
    refine cwp_region ?_
    refine lwp_run 1 (by kernel_rfl) ?_
    refine lwp_nil ?_
    refine cwp_ret ?_
    obtain rfl := Option.some.inj H
    show Exists _
    exact ⟨.int .u8 0, by kernel_rfl, I13, a20, c21, (v24), rfl, pt29, r23, q26, o27⟩
  · rw [if_neg c31] at H
    refine lwp_op (by kernel_rfl) (owp_pure ((.bool false)) (pr_bool (by kernel_rfl) (eqF c31)) ?_)
    refine lwp_nil ?_
    refine cwp_false (by kernel_rfl) ?_
    refine cwp_skip ?_
    refine cwp_seq ?_
    refine cwp_region ?_
    obtain ⟨c32, H⟩ := guard_pos H
    refine lwp_run 1 (by kernel_rfl) ?_
    have hs33 := (r18.toSl).isSome (by decide) c32
    refine lwp_op (by kernel_rfl) (owp_pure (elemPtr a15 ((0 : Int).toNat * 1)) (pr_indexElem (e := 5) (r18.toSl) (k := .i64) (by kernel_rfl) (by kernel_rfl) (by kernel_rfl) (by kernel_rfl) (by decide) c32) ?_)
    obtain ⟨cs34, hs35, rp36⟩ := (r18.toSl).seg (by decide) c32
    obtain rfl := rep_int rp36
    refine lwp_op (by kernel_rfl) (owp_load (by kernel_rfl) (by kernel_rfl) (seg_cell (f := 0) hs35 rfl) ?_)
    refine lwp_run 1 (by kernel_rfl) ?_
    refine lwp_nil ?_
    refine cwp_ret ?_
    obtain rfl := Option.some.inj H
    show Exists _
    exact ⟨.int .u8 (at_ t9.1 0), by kernel_rfl, I13, a20, c21, (v24), rfl, pt29, r23, q26, o27⟩

/-! shutter/order.taken -/
def order_taken.m (x0 : bytes_Cursor) (x1 : GoErr) : Option bytes_Cursor :=
  ((bytes_Cursor_Left.m x0).bind fun t12 => (if t12.1 = 0 then ((bytes_Cursor_Fail.m t12.2 (GoErr.no 2)).bind fun t28 => ((bytes_Cursor_Byte.m t28).bind fun t43 => (some t43.2))) else ((bytes_Cursor_Fail.m t12.2 x1).bind fun t59 => ((bytes_Cursor_Byte.m t59).bind fun t74 => (some t74.2)))))

set_option maxRecDepth 100000 in
theorem order_taken.calls {I : Gh} {h : Heap} {b0 : Nat} {x0 : bytes_Cursor} {a1 : Option Addr} {c2 : Nat} {v5 : Value} {x1 : GoErr} {v9 : Value} (hB : Bd I h) (o8 : OwnB I h b0 [.slice a1 x0.b'.length c2, .int .i64 x0.at', v5] 88) (r4 : Rd (tInt .u8) I h a1 c2 x0.b') (q7 : ErrV I h x0.err' v5) (q11 : ErrV I h x1 v9) {r : bytes_Cursor}
    (H : order_taken.m x0 x1 = some r) :
    Ret Tryd.prog 86 #[.pointer (some ⟨b0, 0, none⟩), v9] h (fun v h' => ∃ (I' : Gh) (a89 : Option Addr) (c90 : Nat) (v93 : Value), .tuple #[] = v ∧ Pst (One b0) I h I' h' ∧ Rd (tInt .u8) I' h' a89 c90 r.b' ∧ ErrV I' h' r.err' v93 ∧ OwnB I' h' b0 [.slice a89 r.b'.length c90, .int .i64 r.at', v93] 88) := by
  unfold order_taken.m at H
  refine ret_of (args := [.pointer (some ⟨b0, 0, none⟩), v9]) (rs := []) (N := 13) Tryd.func86 rfl rfl rfl (Nat.le_of_ble_eq_true rfl) ?_
  have pt0 : Pst (One b0) I h I h := Pst.refl hB
  have nw_b0 : (One b0) b0 ∨ h.size ≤ b0 := .inl rfl
  refine cwp_seq ?_
  refine cwp_seq ?_
  refine cwp_region ?_
  refine lwp_run 1 (by kernel_rfl) ?_
  obtain ⟨t12, m13, H⟩ := bind_some H
  refine lwp_op (by kernel_rfl) (owp_callF (by kernel_rfl) (bytes_Cursor_Left.calls (I := I) hB o8 r4 q7 m13) ?_)
  rintro v14 h15 ⟨I16, a18, c19, v22, rfl, p17, r21, q24, o25⟩
  have pt26 := pt0.own p17 (one_nw nw_b0)
  by_cases c27 : t12.1 = 0
  · rw [if_pos c27] at H
    refine lwp_op (by kernel_rfl) (owp_pure ((.bool true)) (pr_bool (by kernel_rfl) (eqT c27)) ?_)
    refine lwp_nil ?_
    refine cwp_true (by kernel_rfl) ?_
    refine cwp_region ?_
    refine lwp_run 2 (by kernel_rfl) ?_
    refine lwp_nil ?_
    refine cwp_seq ?_
    refine cwp_region ?_
    refine lwp_run 2 (by kernel_rfl) ?_
    obtain ⟨t28, m29, H⟩ := bind_some H
    refine lwp_op (by kernel_rfl) (owp_callF (by kernel_rfl) (bytes_Cursor_Fail.calls (I := I16) p17.bd o25 r21 q24 (show ErrV I16 h15 (GoErr.no 2) (.iface 78 (.int .i64 2)) from rfl) m29) ?_)
    rintro v30 h31 ⟨I32, a34, c35, v38, rfl, p33, r37, q40, o41⟩
    have pt42 := pt26.own p33 (one_nw nw_b0)
    refine lwp_nil ?_
    refine cwp_region ?_
    refine lwp_run 1 (by kernel_rfl) ?_
    obtain ⟨t43, m44, H⟩ := bind_some H
    refine lwp_op (by kernel_rfl) (owp_callF (by kernel_rfl) (bytes_Cursor_Byte.calls (I := I32) p33.bd o41 r37 q40 m44) ?_)
    rintro v45 h46 ⟨I47, a49, c50, v53, rfl, p48, r52, q55, o56⟩
    have pt57 := pt42.own p48 (one_nw nw_b0)
    refine lwp_nil ?_
    obtain rfl := Option.some.inj H
    show Exists _
    exact ⟨.tuple #[], by kernel_rfl, I47, a49, c50, (v53), rfl, pt57, r52, q55, o56⟩
  · rw [if_neg c27] at H
    refine lwp_op (by kernel_rfl) (owp_pure ((.bool false)) (pr_bool (by kernel_rfl) (eqF c27)) ?_)
    refine lwp_nil ?_
    refine cwp_false (by kernel_rfl) ?_
    refine cwp_skip ?_
    refine cwp_seq ?_
    refine cwp_region ?_
    refine lwp_run 2 (by kernel_rfl) ?_
    have f58 := ErrV.up (p17.up hB (one_not o8.no)) q11
    obtain ⟨t59, m60, H⟩ := bind_some H
    refine lwp_op (by kernel_rfl) (owp_callF (by kernel_rfl) (bytes_Cursor_Fail.calls (I := I16) p17.bd o25 r21 q24 f58 m60) ?_)
    rintro v61 h62 ⟨I63, a65, c66, v69, rfl, p64, r68, q71, o72⟩
    have pt73 := pt26.own p64 (one_nw nw_b0)
    refine lwp_nil ?_
    refine cwp_region ?_
    refine lwp_run 1 (by kernel_rfl) ?_
    obtain ⟨t74, m75, H⟩ := bind_some H
    refine lwp_op (by kernel_rfl) (owp_callF (by kernel_rfl) (bytes_Cursor_Byte.calls (I := I63) p64.bd o72 r68 q71 m75) ?_)
    rintro v76 h77 ⟨I78, a80, c81, v84, rfl, p79, r83, q86, o87⟩
    have pt88 := pt73.own p79 (one_nw nw_b0)
    refine lwp_nil ?_
    obtain rfl := Option.some.inj H
    show Exists _
    exact ⟨.tuple #[], by kernel_rfl, I78, a80, c81, (v84), rfl, pt88, r83, q86, o87⟩

/-! shutter/six.Low -/
def six_Low.m (x0 : Int) : Option Int :=
  (some (w64 ((bAnd .u8 x0 63))))

set_option maxRecDepth 100000 in
theorem six_Low.calls {I : Gh} {h : Heap} {x0 : Int} (_hB : Bd I h)  {r : Int}
    (H : six_Low.m x0 = some r) :
    Ret Tryd.prog 97 #[.int .u8 x0] h (fun v h' => ∃ _ : Unit, .int .i64 r = v ∧ h = h') := by
  unfold six_Low.m at H
  refine ret_of (args := [.int .u8 x0]) (rs := [.tmp 2]) (N := 6) Tryd.func97 rfl rfl rfl (Nat.le_of_ble_eq_true rfl) ?_
  refine cwp_seq ?_
  refine cwp_region ?_
  refine lwp_run 1 (by kernel_rfl) ?_
  refine lwp_nil ?_
  refine cwp_seq ?_
  refine cwp_region ?_
  refine lwp_run 4 (by kernel_rfl) ?_
  refine lwp_nil ?_
  refine cwp_ret ?_
  obtain rfl := Option.some.inj H
  show Exists _
  exact ⟨.int .i64 (w64 ((bAnd .u8 x0 63))), by kernel_rfl, (), rfl, rfl⟩

/-! shutter/six.Get -/
def six_Get.m (x0 : Int) : Option (Int × GoErr) :=
  ((six_Low.m x0).bind fun t1 => ((six_at.m t1).bind fun t7 => (if t7 = x0 then (some (t1, GoErr.nil)) else (some (0, (GoErr.no 3))))))

set_option maxRecDepth 100000 in
theorem six_Get.calls {I : Gh} {h : Heap} {x0 : Int} (hB : Bd I h)  {r : (Int × GoErr)}
    (H : six_Get.m x0 = some r) :
    Ret Tryd.prog 89 #[.int .u8 x0] h (fun v h' => ∃ (v14 : Value), .tuple #[.int .i64 r.1, v14] = v ∧ h = h' ∧ ErrV I h r.2 v14) := by
  unfold six_Get.m at H
  refine ret_of (args := [.int .u8 x0]) (rs := [.tmp 2, .tmp 3]) (N := 13) Tryd.func89 rfl rfl rfl (Nat.le_of_ble_eq_true rfl) ?_
  refine cwp_seq ?_
  refine cwp_region ?_
  refine lwp_run 2 (by kernel_rfl) ?_
  refine lwp_nil ?_
  refine cwp_seq ?_
  refine cwp_seq ?_
  refine cwp_region ?_
  refine lwp_run 1 (by kernel_rfl) ?_
  obtain ⟨t1, m2, H⟩ := bind_some H
  refine lwp_op (by kernel_rfl) (owp_callF (by kernel_rfl) (six_Low.calls (I := I) hB m2) ?_)
  rintro v3 h4 ⟨_, rfl, rfl⟩
  refine lwp_run 1 (by kernel_rfl) ?_
  refine lwp_nil ?_
  refine cwp_seq ?_
  refine cwp_region ?_
  refine lwp_run 1 (by kernel_rfl) ?_
  obtain ⟨t7, m8, H⟩ := bind_some H
  refine lwp_op (by kernel_rfl) (owp_callF (by kernel_rfl) (six_at.calls (I := I) hB m8) ?_)
  rintro v9 h10 ⟨_, rfl, rfl⟩
  refine lwp_run 1 (by kernel_rfl) ?_
  by_cases c13 : t7 = x0
  · rw [if_pos c13] at H
    refine lwp_op (by kernel_rfl) (owp_pure ((.bool true)) (pr_bool (by kernel_rfl) (eqT c13)) ?_)
    refine lwp_nil ?_
    refine cwp_true (by kernel_rfl) ?_
    refine cwp_seq ?_
    refine cwp_region ?_
    refine lwp_run 3 (by kernel_rfl) ?_
    refine lwp_nil ?_
    refine cwp_ret ?_
    obtain rfl := Option.some.inj H
    show Exists _
    exact ⟨.tuple #[.int .i64 t1, .nilIface], by kernel_rfl, (.nilIface), rfl, rfl, (show ErrV I h GoErr.nil .nilIface from rfl)⟩
  · rw [if_neg c13] at H
    refine lwp_op (by kernel_rfl) (owp_pure ((.bool false)) (pr_bool (by kernel_rfl) (eqF c13)) ?_)
    refine lwp_nil ?_
    refine cwp_false (by kernel_rfl) ?_
    refine cwp_skip ?_
    refine cwp_seq ?_
    refine cwp_region ?_
    refine lwp_run 3 (by kernel_rfl) ?_
    refine lwp_nil ?_
    refine cwp_ret ?_
    obtain rfl := Option.some.inj H
    show Exists _
    exact ⟨.tuple #[.int .i64 0, .iface 78 (.int .i64 3)], by kernel_rfl, (.iface 78 (.int .i64 3)), rfl, rfl, (show ErrV I h (GoErr.no 3) (.iface 78 (.int .i64 3)) from rfl)⟩

end Go.Proofs.YtociikgdocjfnaaDoor.Sx
