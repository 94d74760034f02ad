/- Printed walks, part 3: each function's model, and that the code comes to it. -/
import Derived.Test.YtociikgdocjfnaaDoorProg
import Derived.Test.YtociikgdocjfnaaDoorSx9
import Derived.Test.YtociikgdocjfnaaDoorG2
namespace Go.Proofs.YtociikgdocjfnaaDoor.Sx
open Go

/-! shutter/shutterref07.Wrong -/
def shutterref07_Wrong.m (K : Nat) (x0 : api_Order) (x1 : Int) : Option Int :=
  (if x0.Kind < 1 then (some 5) else (if x0.Kind > 7 then (some 5) else (bif ((x0.Kind == 1) != (decide ((x0.Text.length : Int) > 0))) then (some 1) else ((shutterref05_Chars.m K x0.Text).bind fun t16 => bif t16 then (letJ (α := Option Int) (letJ (α := Option Int) (letJ (α := Option Int) (if x0.Addr < 0 then (some 4) else (if x0.Addr ≥ x1 then (some 4) else (some 0))) fun (j57 : Option Int) => (if x0.Kind = 3 then j57 else (if x0.Kind = 6 then j57 else (if x0.Kind = 7 then j57 else (if x0.Addr = 0 then (some 0) else (some 1)))))) fun (j47 : Option Int) => (if x0.Kind = 6 then ((shutterref05_Char.m x0.Char).bind fun t34 => bif t34 then j47 else (some 1)) else (if x0.Kind = 6 then j47 else (if x0.Char = 0 then j47 else (some 1))))) fun (j32 : Option Int) => (if x0.Kind = 2 then (if x0.Attr.Show < 0 then (some 1) else (if x0.Attr.Show > 3 then (some 1) else j32)) else (if x0.Kind = 2 then j32 else (bif ((x0.Attr.Protected == false) && ((x0.Attr.Numeric == false) && ((x0.Attr.Show == 0) && ((x0.Attr.Modified == false) && true)))) then j32 else (some 1))))) else (some 1)))))

set_option maxRecDepth 100000 in
theorem shutterref07_Wrong.calls {I : Gh} {h : Heap} {K : Nat} {x0 : api_Order} {a1 : Option Addr} {c2 : Nat} {x1 : Int} (hB : Bd I h) (r4 : Rd (tInt .u8) I h a1 c2 x0.Text) {r : Int}
    (H : shutterref07_Wrong.m K x0 x1 = some r) :
    Ret Tryd.prog 15 #[.agg #[.int .i64 x0.Kind, .slice a1 x0.Text.length c2, .bool x0.Attr.Protected, .bool x0.Attr.Numeric, .int .i64 x0.Attr.Show, .bool x0.Attr.Modified, .int .i64 x0.Addr, .int .u8 x0.Char], .int .i64 x1] h (fun v h' => ∃ (I' : Gh), .int .i64 r = v ∧ Pst No I h I' h') := by
  unfold shutterref07_Wrong.m at H
  refine ret_of (args := [.agg #[.int .i64 x0.Kind, .slice a1 x0.Text.length c2, .bool x0.Attr.Protected, .bool x0.Attr.Numeric, .int .i64 x0.Attr.Show, .bool x0.Attr.Modified, .int .i64 x0.Addr, .int .u8 x0.Char], .int .i64 x1]) (rs := [.tmp 4]) (N := 90) Tryd.func15 rfl rfl rfl (Nat.le_of_ble_eq_true rfl) ?_
  have pt0 : Pst No I h I h := Pst.refl hB
  refine cwp_seq ?_
  refine cwp_region ?_
  refine lwp_op (by kernel_rfl) (owp_box [.int .i64 x0.Kind, .slice a1 x0.Text.length c2, .bool x0.Attr.Protected, .bool x0.Attr.Numeric, .int .i64 x0.Attr.Show, .bool x0.Attr.Modified, .int .i64 x0.Addr, .int .u8 x0.Char] hB (by kernel_rfl) ?_)
  intro b5 h6 hc7 p8 o9
  have pt10 := pt0.no p8
  have fr11 : No b5 ∨ h.size ≤ b5 := .inr (Nat.le_trans pt0.size hc7)
  refine lwp_run 1 (by kernel_rfl) ?_
  refine lwp_nil ?_
  refine cwp_seq ?_
  refine cwp_region ?_
  refine lwp_run 1 (by kernel_rfl) ?_
  refine lwp_op (by kernel_rfl) (owp_load (by kernel_rfl) (by kernel_rfl) (o9.cell (off := 0) rfl) ?_)
  refine lwp_run 1 (by kernel_rfl) ?_
  refine lwp_nil ?_
  refine cwp_seq ?_
  refine cwp_seq ?_
  refine cwp_region ?_
  refine lwp_run 1 (by kernel_rfl) ?_
  by_cases c12 : x0.Kind < 1
  · rw [if_pos c12] at H
    refine lwp_op (by kernel_rfl) (owp_pure ((.bool true)) (pr_bool (by kernel_rfl) (decide_eq_true c12)) ?_)
    refine lwp_run 4 (by kernel_rfl) ?_
    refine lwp_nil ?_
    refine cwp_true (by kernel_rfl) ?_
    refine cwp_seq ?_
    refine cwp_region ?_
    refine lwp_run 1 (by kernel_rfl) ?_
    refine lwp_nil ?_
    refine cwp_ret ?_
    obtain rfl := Option.some.inj H
    show Exists _
    exact ⟨.int .i64 5, by kernel_rfl, I, rfl, pt10⟩
  · rw [if_neg c12] at H
    refine lwp_op (by kernel_rfl) (owp_pure ((.bool false)) (pr_bool (by kernel_rfl) (decide_eq_false c12)) ?_)
    refine lwp_run 2 (by kernel_rfl) ?_
    by_cases c13 : x0.Kind > 7
    · rw [if_pos c13] at H
      refine lwp_op (by kernel_rfl) (owp_pure ((.bool true)) (pr_bool (by kernel_rfl) (decide_eq_true c13)) ?_)
      refine lwp_run 1 (by kernel_rfl) ?_
      refine lwp_nil ?_
      refine cwp_true (by kernel_rfl) ?_
      refine cwp_seq ?_
      refine cwp_region ?_
      refine lwp_run 1 (by kernel_rfl) ?_
      refine lwp_nil ?_
      refine cwp_ret ?_
      obtain rfl := Option.some.inj H
      show Exists _
      exact ⟨.int .i64 5, by kernel_rfl, I, rfl, pt10⟩
    · rw [if_neg c13] at H
      refine lwp_op (by kernel_rfl) (owp_pure ((.bool false)) (pr_bool (by kernel_rfl) (decide_eq_false c13)) ?_)
      refine lwp_run 1 (by kernel_rfl) ?_
      refine lwp_nil ?_
      refine cwp_false (by kernel_rfl) ?_
      refine cwp_skip ?_
      refine cwp_seq ?_
      refine cwp_seq ?_
      refine cwp_region ?_
      refine lwp_run 3 (by kernel_rfl) ?_
      refine lwp_op (by kernel_rfl) (owp_load (by kernel_rfl) (by kernel_rfl) (o9.cell (off := 1) rfl) ?_)
      refine lwp_run 2 (by kernel_rfl) ?_
      rcases bool_or ((x0.Kind == 1) != (decide ((x0.Text.length : Int) > 0))) with c14 | c14
      · replace H := bif_f c14 H
        refine lwp_op (by kernel_rfl) (owp_pure ((.bool false)) (pr_bool (by kernel_rfl) c14) ?_)
        refine lwp_run 2 (by kernel_rfl) ?_
        refine lwp_op (by kernel_rfl) (owp_load (by kernel_rfl) (by kernel_rfl) (o9.cell (off := 1) rfl) ?_)
        have f15 := r4.up (p8.up hB (fun _ x => x.elim))
        obtain ⟨t16, m17, H⟩ := bind_some H
        refine lwp_op (by kernel_rfl) (owp_callF (by kernel_rfl) (shutterref05_Chars.calls (I := I) p8.bd f15 m17) ?_)
        rintro v18 h19 ⟨_, rfl, rfl⟩
        cases t16
        · rw [cond_false] at H
          refine lwp_run 2 (by kernel_rfl) ?_
          refine lwp_nil ?_
          refine cwp_true (by kernel_rfl) ?_
          refine cwp_seq ?_
          refine cwp_region ?_
          refine lwp_run 1 (by kernel_rfl) ?_
          refine lwp_nil ?_
          refine cwp_ret ?_
          obtain rfl := Option.some.inj H
          show Exists _
          exact ⟨.int .i64 1, by kernel_rfl, I, rfl, pt10⟩
        · rw [cond_true] at H
          refine lwp_run 2 (by kernel_rfl) ?_
          refine lwp_nil ?_
          refine cwp_false (by kernel_rfl) ?_
          refine cwp_skip ?_
          obtain ⟨j32, e62, H⟩ := letJ_some H
          refine cwp_join (fun ρ' h27 => ∃ (I28 : Gh), j32 = some r ∧ Fits [(1, .int .i64 x1), (2, .pointer (some ⟨b5, 0, none⟩)), (5, .int .i64 x0.Kind)] ρ' ∧ Pst No I h I28 h27 ∧ Rd (tInt .u8) I28 h27 a1 c2 x0.Text ∧ OwnB I28 h27 b5 [.int .i64 x0.Kind, .slice a1 x0.Text.length c2, .bool x0.Attr.Protected, .bool x0.Attr.Numeric, .int .i64 x0.Attr.Show, .bool x0.Attr.Modified, .int .i64 x0.Addr, .int .u8 x0.Char] 26) ?_ ?_
          · refine cwp_seq ?_
            refine cwp_region ?_
            refine lwp_run 1 (by kernel_rfl) ?_
            by_cases c22 : x0.Kind = 2
            · rw [if_pos c22] at H
              refine lwp_op (by kernel_rfl) (owp_pure ((.bool true)) (pr_bool (by kernel_rfl) (eqT c22)) ?_)
              refine lwp_run 3 (by kernel_rfl) ?_
              refine lwp_op (by kernel_rfl) (owp_load (by kernel_rfl) (by kernel_rfl) (o9.cell (off := 4) rfl) ?_)
              by_cases c23 : x0.Attr.Show < 0
              · rw [if_pos c23] at H
                refine lwp_op (by kernel_rfl) (owp_pure ((.bool true)) (pr_bool (by kernel_rfl) (decide_eq_true c23)) ?_)
                refine lwp_run 17 (by kernel_rfl) ?_
                refine lwp_nil ?_
                refine cwp_true (by kernel_rfl) ?_
                refine cwp_seq ?_
                refine cwp_region ?_
                refine lwp_run 1 (by kernel_rfl) ?_
                refine lwp_nil ?_
                refine cwp_ret ?_
                obtain rfl := Option.some.inj H
                show Exists _
                exact ⟨.int .i64 1, by kernel_rfl, I, rfl, pt10⟩
              · rw [if_neg c23] at H
                refine lwp_op (by kernel_rfl) (owp_pure ((.bool false)) (pr_bool (by kernel_rfl) (decide_eq_false c23)) ?_)
                refine lwp_run 3 (by kernel_rfl) ?_
                refine lwp_op (by kernel_rfl) (owp_load (by kernel_rfl) (by kernel_rfl) (o9.cell (off := 4) rfl) ?_)
                by_cases c24 : x0.Attr.Show > 3
                · rw [if_pos c24] at H
                  refine lwp_op (by kernel_rfl) (owp_pure ((.bool true)) (pr_bool (by kernel_rfl) (decide_eq_true c24)) ?_)
                  refine lwp_run 12 (by kernel_rfl) ?_
                  refine lwp_nil ?_
                  refine cwp_true (by kernel_rfl) ?_
                  refine cwp_seq ?_
                  refine cwp_region ?_
                  refine lwp_run 1 (by kernel_rfl) ?_
                  refine lwp_nil ?_
                  refine cwp_ret ?_
                  obtain rfl := Option.some.inj H
                  show Exists _
                  exact ⟨.int .i64 1, by kernel_rfl, I, rfl, pt10⟩
                · rw [if_neg c24] at H
                  refine lwp_op (by kernel_rfl) (owp_pure ((.bool false)) (pr_bool (by kernel_rfl) (decide_eq_false c24)) ?_)
                  refine lwp_run 4 (by kernel_rfl) ?_
                  refine lwp_op (by kernel_rfl) (owp_pure ((.bool false)) (pr_bool (by kernel_rfl) (neF c22)) ?_)
                  refine lwp_run 7 (by kernel_rfl) ?_
                  refine lwp_nil ?_
                  refine cwp_false (by kernel_rfl) ?_
                  refine cwp_skip ?_
                  exact ⟨I, H, ⟨by kernel_rfl, by kernel_rfl, by kernel_rfl, trivial⟩, pt10, f15, o9⟩
            · rw [if_neg c22] at H
              refine lwp_op (by kernel_rfl) (owp_pure ((.bool false)) (pr_bool (by kernel_rfl) (eqF c22)) ?_)
              refine lwp_run 14 (by kernel_rfl) ?_
              by_cases c25 : x0.Kind = 2
              · rw [if_pos c25] at H
                refine lwp_op (by kernel_rfl) (owp_pure ((.bool false)) (pr_bool (by kernel_rfl) (neF c25)) ?_)
                refine lwp_run 7 (by kernel_rfl) ?_
                refine lwp_nil ?_
                refine cwp_false (by kernel_rfl) ?_
                refine cwp_skip ?_
                exact ⟨I, H, ⟨by kernel_rfl, by kernel_rfl, by kernel_rfl, trivial⟩, pt10, f15, o9⟩
              · rw [if_neg c25] at H
                refine lwp_op (by kernel_rfl) (owp_pure ((.bool true)) (pr_bool (by kernel_rfl) (neT c25)) ?_)
                refine lwp_run 2 (by kernel_rfl) ?_
                refine lwp_op (by kernel_rfl) (owp_loadN (by kernel_rfl) (by kernel_rfl) (by kernel_rfl) (o9.seg_ 2 4 (Nat.le_of_ble_eq_true rfl)) ?_)
                refine lwp_run 1 (by kernel_rfl) ?_
                rcases bool_or ((x0.Attr.Protected == false) && ((x0.Attr.Numeric == false) && ((x0.Attr.Show == 0) && ((x0.Attr.Modified == false) && true)))) with c26 | c26
                · replace H := bif_f c26 H
                  refine lwp_op (by kernel_rfl) (owp_run (.bool true) (run_bool (run_neAgg (xs := #[.bool x0.Attr.Protected, .bool x0.Attr.Numeric, .int .i64 x0.Attr.Show, .bool x0.Attr.Modified]) (ys := #[.bool false, .bool false, .int .i64 0, .bool false]) (by kernel_rfl) (by kernel_rfl) (by kernel_rfl) (eqB_run (b := ((x0.Attr.Protected == false) && ((x0.Attr.Numeric == false) && ((x0.Attr.Show == 0) && ((x0.Attr.Modified == false) && true))))) (by kernel_rfl))) (notB c26)) ?_)
                  refine lwp_run 2 (by kernel_rfl) ?_
                  refine lwp_nil ?_
                  refine cwp_true (by kernel_rfl) ?_
                  refine cwp_seq ?_
                  refine cwp_region ?_
                  refine lwp_run 1 (by kernel_rfl) ?_
                  refine lwp_nil ?_
                  refine cwp_ret ?_
                  obtain rfl := Option.some.inj H
                  show Exists _
                  exact ⟨.int .i64 1, by kernel_rfl, I, rfl, pt10⟩
                · replace H := bif_t c26 H
                  refine lwp_op (by kernel_rfl) (owp_run (.bool false) (run_bool (run_neAgg (xs := #[.bool x0.Attr.Protected, .bool x0.Attr.Numeric, .int .i64 x0.Attr.Show, .bool x0.Attr.Modified]) (ys := #[.bool false, .bool false, .int .i64 0, .bool false]) (by kernel_rfl) (by kernel_rfl) (by kernel_rfl) (eqB_run (b := ((x0.Attr.Protected == false) && ((x0.Attr.Numeric == false) && ((x0.Attr.Show == 0) && ((x0.Attr.Modified == false) && true))))) (by kernel_rfl))) (notB c26)) ?_)
                  refine lwp_run 2 (by kernel_rfl) ?_
                  refine lwp_nil ?_
                  refine cwp_false (by kernel_rfl) ?_
                  refine cwp_skip ?_
                  exact ⟨I, H, ⟨by kernel_rfl, by kernel_rfl, by kernel_rfl, trivial⟩, pt10, f15, o9⟩
          · clear H
            rintro ρ' h27 ⟨I28, H, hf, pt29, r30, o31⟩
            refine cwp_fits _ hf ?_
            subst e62
            try dsimp only at H
            obtain ⟨j47, e61, H⟩ := letJ_some H
            refine cwp_join (fun ρ' h42 => ∃ (I43 : Gh), j47 = some r ∧ Fits [(1, .int .i64 x1), (2, .pointer (some ⟨b5, 0, none⟩)), (5, .int .i64 x0.Kind)] ρ' ∧ Pst No I h I43 h42 ∧ Rd (tInt .u8) I43 h42 a1 c2 x0.Text ∧ OwnB I43 h42 b5 [.int .i64 x0.Kind, .slice a1 x0.Text.length c2, .bool x0.Attr.Protected, .bool x0.Attr.Numeric, .int .i64 x0.Attr.Show, .bool x0.Attr.Modified, .int .i64 x0.Addr, .int .u8 x0.Char] 26) ?_ ?_
            · refine cwp_seq ?_
              refine cwp_region ?_
              refine lwp_run 1 (by kernel_rfl) ?_
              by_cases c33 : x0.Kind = 6
              · rw [if_pos c33] at H
                refine lwp_op (by kernel_rfl) (owp_pure ((.bool true)) (pr_bool (by kernel_rfl) (eqT c33)) ?_)
                refine lwp_run 2 (by kernel_rfl) ?_
                refine lwp_op (by kernel_rfl) (owp_load (by kernel_rfl) (by kernel_rfl) (o31.cell (off := 7) rfl) ?_)
                obtain ⟨t34, m35, H⟩ := bind_some H
                refine lwp_op (by kernel_rfl) (owp_callF (by kernel_rfl) (shutterref05_Char.calls (I := I28) pt29.bd m35) ?_)
                rintro v36 h37 ⟨_, rfl, rfl⟩
                cases t34
                · rw [cond_false] at H
                  refine lwp_run 11 (by kernel_rfl) ?_
                  refine lwp_nil ?_
                  refine cwp_true (by kernel_rfl) ?_
                  refine cwp_seq ?_
                  refine cwp_region ?_
                  refine lwp_run 1 (by kernel_rfl) ?_
                  refine lwp_nil ?_
                  refine cwp_ret ?_
                  obtain rfl := Option.some.inj H
                  show Exists _
                  exact ⟨.int .i64 1, by kernel_rfl, I28, rfl, pt29⟩
                · rw [cond_true] at H
                  refine lwp_run 4 (by kernel_rfl) ?_
                  refine lwp_op (by kernel_rfl) (owp_pure ((.bool false)) (pr_bool (by kernel_rfl) (neF c33)) ?_)
                  refine lwp_run 6 (by kernel_rfl) ?_
                  refine lwp_nil ?_
                  refine cwp_false (by kernel_rfl) ?_
                  refine cwp_skip ?_
                  exact ⟨I28, H, ⟨by kernel_rfl, by kernel_rfl, by kernel_rfl, trivial⟩, pt29, r30, o31⟩
              · rw [if_neg c33] at H
                refine lwp_op (by kernel_rfl) (owp_pure ((.bool false)) (pr_bool (by kernel_rfl) (eqF c33)) ?_)
                refine lwp_run 8 (by kernel_rfl) ?_
                by_cases c40 : x0.Kind = 6
                · rw [if_pos c40] at H
                  refine lwp_op (by kernel_rfl) (owp_pure ((.bool false)) (pr_bool (by kernel_rfl) (neF c40)) ?_)
                  refine lwp_run 6 (by kernel_rfl) ?_
                  refine lwp_nil ?_
                  refine cwp_false (by kernel_rfl) ?_
                  refine cwp_skip ?_
                  exact ⟨I28, H, ⟨by kernel_rfl, by kernel_rfl, by kernel_rfl, trivial⟩, pt29, r30, o31⟩
                · rw [if_neg c40] at H
                  refine lwp_op (by kernel_rfl) (owp_pure ((.bool true)) (pr_bool (by kernel_rfl) (neT c40)) ?_)
                  refine lwp_run 2 (by kernel_rfl) ?_
                  refine lwp_op (by kernel_rfl) (owp_load (by kernel_rfl) (by kernel_rfl) (o31.cell (off := 7) rfl) ?_)
                  by_cases c41 : x0.Char = 0
                  · rw [if_pos c41] at H
                    refine lwp_op (by kernel_rfl) (owp_pure ((.bool false)) (pr_bool (by kernel_rfl) (neF c41)) ?_)
                    refine lwp_run 2 (by kernel_rfl) ?_
                    refine lwp_nil ?_
                    refine cwp_false (by kernel_rfl) ?_
                    refine cwp_skip ?_
                    exact ⟨I28, H, ⟨by kernel_rfl, by kernel_rfl, by kernel_rfl, trivial⟩, pt29, r30, o31⟩
                  · rw [if_neg c41] at H
                    refine lwp_op (by kernel_rfl) (owp_pure ((.bool true)) (pr_bool (by kernel_rfl) (neT c41)) ?_)
                    refine lwp_run 2 (by kernel_rfl) ?_
                    refine lwp_nil ?_
                    refine cwp_true (by kernel_rfl) ?_
                    refine cwp_seq ?_
                    refine cwp_region ?_
                    refine lwp_run 1 (by kernel_rfl) ?_
                    refine lwp_nil ?_
                    refine cwp_ret ?_
                    obtain rfl := Option.some.inj H
                    show Exists _
                    exact ⟨.int .i64 1, by kernel_rfl, I28, rfl, pt29⟩
            · clear H
              rintro ρ' h42 ⟨I43, H, hf, pt44, r45, o46⟩
              refine cwp_fits _ hf ?_
              subst e61
              try dsimp only at H
              obtain ⟨j57, e60, H⟩ := letJ_some H
              refine cwp_join (fun ρ' h52 => ∃ (I53 : Gh), j57 = some r ∧ Fits [(1, .int .i64 x1), (2, .pointer (some ⟨b5, 0, none⟩))] ρ' ∧ Pst No I h I53 h52 ∧ Rd (tInt .u8) I53 h52 a1 c2 x0.Text ∧ OwnB I53 h52 b5 [.int .i64 x0.Kind, .slice a1 x0.Text.length c2, .bool x0.Attr.Protected, .bool x0.Attr.Numeric, .int .i64 x0.Attr.Show, .bool x0.Attr.Modified, .int .i64 x0.Addr, .int .u8 x0.Char] 26) ?_ ?_
              · refine cwp_seq ?_
                refine cwp_region ?_
                refine lwp_run 1 (by kernel_rfl) ?_
                by_cases c48 : x0.Kind = 3
                · rw [if_pos c48] at H
                  refine lwp_op (by kernel_rfl) (owp_pure ((.bool false)) (pr_bool (by kernel_rfl) (neF c48)) ?_)
                  refine lwp_run 8 (by kernel_rfl) ?_
                  refine lwp_nil ?_
                  refine cwp_false (by kernel_rfl) ?_
                  refine cwp_skip ?_
                  exact ⟨I43, H, ⟨by kernel_rfl, by kernel_rfl, trivial⟩, pt44, r45, o46⟩
                · rw [if_neg c48] at H
                  refine lwp_op (by kernel_rfl) (owp_pure ((.bool true)) (pr_bool (by kernel_rfl) (neT c48)) ?_)
                  refine lwp_run 2 (by kernel_rfl) ?_
                  by_cases c49 : x0.Kind = 6
                  · rw [if_pos c49] at H
                    refine lwp_op (by kernel_rfl) (owp_pure ((.bool false)) (pr_bool (by kernel_rfl) (neF c49)) ?_)
                    refine lwp_run 5 (by kernel_rfl) ?_
                    refine lwp_nil ?_
                    refine cwp_false (by kernel_rfl) ?_
                    refine cwp_skip ?_
                    exact ⟨I43, H, ⟨by kernel_rfl, by kernel_rfl, trivial⟩, pt44, r45, o46⟩
                  · rw [if_neg c49] at H
                    refine lwp_op (by kernel_rfl) (owp_pure ((.bool true)) (pr_bool (by kernel_rfl) (neT c49)) ?_)
                    refine lwp_run 3 (by kernel_rfl) ?_
                    by_cases c50 : x0.Kind = 7
                    · rw [if_pos c50] at H
                      refine lwp_op (by kernel_rfl) (owp_pure ((.bool false)) (pr_bool (by kernel_rfl) (neF c50)) ?_)
                      refine lwp_run 1 (by kernel_rfl) ?_
                      refine lwp_nil ?_
                      refine cwp_false (by kernel_rfl) ?_
                      refine cwp_skip ?_
                      exact ⟨I43, H, ⟨by kernel_rfl, by kernel_rfl, trivial⟩, pt44, r45, o46⟩
                    · rw [if_neg c50] at H
                      refine lwp_op (by kernel_rfl) (owp_pure ((.bool true)) (pr_bool (by kernel_rfl) (neT c50)) ?_)
                      refine lwp_run 1 (by kernel_rfl) ?_
                      refine lwp_nil ?_
                      refine cwp_true (by kernel_rfl) ?_
                      refine cwp_seq ?_
                      refine cwp_seq ?_
                      refine cwp_region ?_
                      refine lwp_run 1 (by kernel_rfl) ?_
                      refine lwp_op (by kernel_rfl) (owp_load (by kernel_rfl) (by kernel_rfl) (o46.cell (off := 6) rfl) ?_)
                      by_cases c51 : x0.Addr = 0
                      · rw [if_pos c51] at H
                        refine lwp_op (by kernel_rfl) (owp_pure ((.bool false)) (pr_bool (by kernel_rfl) (neF c51)) ?_)
                        refine lwp_nil ?_
                        refine cwp_false (by kernel_rfl) ?_
                        refine cwp_skip ?_
                        refine cwp_seq ?_
                        refine cwp_region ?_
                        refine lwp_run 1 (by kernel_rfl) ?_
                        refine lwp_nil ?_
                        refine cwp_ret ?_
                        obtain rfl := Option.some.inj H
                        show Exists _
                        exact ⟨.int .i64 0, by kernel_rfl, I43, rfl, pt44⟩
                      · rw [if_neg c51] at H
                        refine lwp_op (by kernel_rfl) (owp_pure ((.bool true)) (pr_bool (by kernel_rfl) (neT c51)) ?_)
                        refine lwp_nil ?_
                        refine cwp_true (by kernel_rfl) ?_
                        refine cwp_seq ?_
                        refine cwp_region ?_
                        refine lwp_run 1 (by kernel_rfl) ?_
                        refine lwp_nil ?_
                        refine cwp_ret ?_
                        obtain rfl := Option.some.inj H
                        show Exists _
                        exact ⟨.int .i64 1, by kernel_rfl, I43, rfl, pt44⟩
              · clear H
                rintro ρ' h52 ⟨I53, H, hf, pt54, r55, o56⟩
                refine cwp_fits _ hf ?_
                subst e60
                try dsimp only at H
                refine cwp_seq ?_
                refine cwp_seq ?_
                refine cwp_region ?_
                refine lwp_run 1 (by kernel_rfl) ?_
                refine lwp_op (by kernel_rfl) (owp_load (by kernel_rfl) (by kernel_rfl) (o56.cell (off := 6) rfl) ?_)
                by_cases c58 : x0.Addr < 0
                · rw [if_pos c58] at H
                  refine lwp_op (by kernel_rfl) (owp_pure ((.bool true)) (pr_bool (by kernel_rfl) (decide_eq_true c58)) ?_)
                  refine lwp_run 6 (by kernel_rfl) ?_
                  refine lwp_nil ?_
                  refine cwp_true (by kernel_rfl) ?_
                  refine cwp_seq ?_
                  refine cwp_region ?_
                  refine lwp_run 1 (by kernel_rfl) ?_
                  refine lwp_nil ?_
                  refine cwp_ret ?_
                  obtain rfl := Option.some.inj H
                  show Exists _
                  exact ⟨.int .i64 4, by kernel_rfl, I53, rfl, pt54⟩
                · rw [if_neg c58] at H
                  refine lwp_op (by kernel_rfl) (owp_pure ((.bool false)) (pr_bool (by kernel_rfl) (decide_eq_false c58)) ?_)
                  refine lwp_run 2 (by kernel_rfl) ?_
                  refine lwp_op (by kernel_rfl) (owp_load (by kernel_rfl) (by kernel_rfl) (o56.cell (off := 6) rfl) ?_)
                  refine lwp_run 1 (by kernel_rfl) ?_
                  by_cases c59 : x0.Addr ≥ x1
                  · rw [if_pos c59] at H
                    refine lwp_op (by kernel_rfl) (owp_pure ((.bool true)) (pr_bool (by kernel_rfl) (decide_eq_true c59)) ?_)
                    refine lwp_run 1 (by kernel_rfl) ?_
                    refine lwp_nil ?_
                    refine cwp_true (by kernel_rfl) ?_
                    refine cwp_seq ?_
                    refine cwp_region ?_
                    refine lwp_run 1 (by kernel_rfl) ?_
                    refine lwp_nil ?_
                    refine cwp_ret ?_
                    obtain rfl := Option.some.inj H
                    show Exists _
                    exact ⟨.int .i64 4, by kernel_rfl, I53, rfl, pt54⟩
                  · rw [if_neg c59] at H
                    refine lwp_op (by kernel_rfl) (owp_pure ((.bool false)) (pr_bool (by kernel_rfl) (decide_eq_false c59)) ?_)
                    refine lwp_run 1 (by kernel_rfl) ?_
                    refine lwp_nil ?_
                    refine cwp_false (by kernel_rfl) ?_
                    refine cwp_skip ?_
                    refine cwp_seq ?_
                    refine cwp_region ?_
                    refine lwp_run 1 (by kernel_rfl) ?_
                    refine lwp_nil ?_
                    refine cwp_ret ?_
                    obtain rfl := Option.some.inj H
                    show Exists _
                    exact ⟨.int .i64 0, by kernel_rfl, I53, rfl, pt54⟩
      · replace H := bif_t c14 H
        refine lwp_op (by kernel_rfl) (owp_pure ((.bool true)) (pr_bool (by kernel_rfl) c14) ?_)
        refine lwp_run 6 (by kernel_rfl) ?_
        refine lwp_nil ?_
        refine cwp_true (by kernel_rfl) ?_
        refine cwp_seq ?_
        refine cwp_region ?_
        refine lwp_run 1 (by kernel_rfl) ?_
        refine lwp_nil ?_
        refine cwp_ret ?_
        obtain rfl := Option.some.inj H
        show Exists _
        exact ⟨.int .i64 1, by kernel_rfl, I, rfl, pt10⟩

/-! shutter/api.Code -/
def api_Code.m (x0 : GoErr) : Option Int := some (codeOf x0)
theorem api_Code.calls {I : Gh} {h : Heap} {x0 : GoErr} {v1 : Value} (hB : Bd I h) (hG : Glob I h) (q : ErrV I h x0 v1) {r : Int} (H : api_Code.m x0 = some r) :
    Ret Tryd.prog 16 #[v1] h (fun v h' => ∃ (I' : Gh), .int .i64 r = v ∧ Pst No I h I' h') := by
  obtain rfl := Option.some.inj H
  exact Code_calls hB hG q

/-! shutter/shutterref03.value -/
def shutterref03_value.m (x0 : Int) : Option Int :=
  (if x0 ≥ 97 then (some (w64 ((w64 (x0)) - 87))) else (some (w64 ((w64 (x0)) - 48))))

set_option maxRecDepth 100000 in
theorem shutterref03_value.calls {I : Gh} {h : Heap} {x0 : Int} (_hB : Bd I h)  {r : Int}
    (H : shutterref03_value.m x0 = some r) :
    Ret Tryd.prog 94 #[.int .u8 x0] h (fun v h' => ∃ _ : Unit, .int .i64 r = v ∧ h = h') := by
  unfold shutterref03_value.m at H
  refine ret_of (args := [.int .u8 x0]) (rs := [.tmp 2]) (N := 11) Tryd.func94 rfl rfl rfl (Nat.le_of_ble_eq_true rfl) ?_
  refine cwp_seq ?_
  refine cwp_region ?_
  refine lwp_run 1 (by kernel_rfl) ?_
  refine lwp_nil ?_
  refine cwp_seq ?_
  refine cwp_seq ?_
  refine cwp_region ?_
  refine lwp_run 1 (by kernel_rfl) ?_
  by_cases c1 : x0 ≥ 97
  · rw [if_pos c1] at H
    refine lwp_op (by kernel_rfl) (owp_pure ((.bool true)) (pr_bool (by kernel_rfl) (decide_eq_true c1)) ?_)
    refine lwp_nil ?_
    refine cwp_true (by kernel_rfl) ?_
    refine cwp_seq ?_
    refine cwp_region ?_
    refine lwp_run 4 (by kernel_rfl) ?_
    refine lwp_nil ?_
    refine cwp_ret ?_
    obtain rfl := Option.some.inj H
    show Exists _
    exact ⟨.int .i64 (w64 ((w64 (x0)) - 87)), by kernel_rfl, (), rfl, rfl⟩
  · rw [if_neg c1] at H
    refine lwp_op (by kernel_rfl) (owp_pure ((.bool false)) (pr_bool (by kernel_rfl) (decide_eq_false c1)) ?_)
    refine lwp_nil ?_
    refine cwp_false (by kernel_rfl) ?_
    refine cwp_skip ?_
    refine cwp_seq ?_
    refine cwp_region ?_
    refine lwp_run 4 (by kernel_rfl) ?_
    refine lwp_nil ?_
    refine cwp_ret ?_
    obtain rfl := Option.some.inj H
    show Exists _
    exact ⟨.int .i64 (w64 ((w64 (x0)) - 48)), by kernel_rfl, (), rfl, rfl⟩

/-! shutter/shutterref03.Put -/
def shutterref03_Put.m (x0 : Int) : Option Int :=
  (if 0 ≤ (w64 (2 * x0)) then (if (w64 (2 * x0)) < 128 then (if 0 ≤ (w64 ((w64 (2 * x0)) + 1)) then (if (w64 ((w64 (2 * x0)) + 1)) < 128 then ((shutterref03_value.m (bt (⟨#[52, 48, 99, 49, 99, 50, 99, 51, 99, 52, 99, 53, 99, 54, 99, 55, 99, 56, 99, 57, 52, 97, 52, 98, 52, 99, 52, 100, 52, 101, 52, 102, 53, 48, 100, 49, 100, 50, 100, 51, 100, 52, 100, 53, 100, 54, 100, 55, 100, 56, 100, 57, 53, 97, 53, 98, 53, 99, 53, 100, 53, 101, 53, 102, 54, 48, 54, 49, 101, 50, 101, 51, 101, 52, 101, 53, 101, 54, 101, 55, 101, 56, 101, 57, 54, 97, 54, 98, 54, 99, 54, 100, 54, 101, 54, 102, 102, 48, 102, 49, 102, 50, 102, 51, 102, 52, 102, 53, 102, 54, 102, 55, 102, 56, 102, 57, 55, 97, 55, 98, 55, 99, 55, 100, 55, 101, 55, 102]⟩ : ByteArray) (w64 (2 * x0)))).bind fun t5 => ((shutterref03_value.m (bt (⟨#[52, 48, 99, 49, 99, 50, 99, 51, 99, 52, 99, 53, 99, 54, 99, 55, 99, 56, 99, 57, 52, 97, 52, 98, 52, 99, 52, 100, 52, 101, 52, 102, 53, 48, 100, 49, 100, 50, 100, 51, 100, 52, 100, 53, 100, 54, 100, 55, 100, 56, 100, 57, 53, 97, 53, 98, 53, 99, 53, 100, 53, 101, 53, 102, 54, 48, 54, 49, 101, 50, 101, 51, 101, 52, 101, 53, 101, 54, 101, 55, 101, 56, 101, 57, 54, 97, 54, 98, 54, 99, 54, 100, 54, 101, 54, 102, 102, 48, 102, 49, 102, 50, 102, 51, 102, 52, 102, 53, 102, 54, 102, 55, 102, 56, 102, 57, 55, 97, 55, 98, 55, 99, 55, 100, 55, 101, 55, 102]⟩ : ByteArray) (w64 ((w64 (2 * x0)) + 1)))).bind fun t11 => (some (IntKind.u8.wrap ((w64 ((w64 (16 * t5)) + t11))))))) else none) else none) else none) else none)

set_option maxRecDepth 100000 in
theorem shutterref03_Put.calls {I : Gh} {h : Heap} {x0 : Int} (hB : Bd I h)  {r : Int}
    (H : shutterref03_Put.m x0 = some r) :
    Ret Tryd.prog 83 #[.int .i64 x0] h (fun v h' => ∃ _ : Unit, .int .u8 r = v ∧ h = h') := by
  unfold shutterref03_Put.m at H
  refine ret_of (args := [.int .i64 x0]) (rs := [.tmp 2]) (N := 15) Tryd.func83 rfl rfl rfl (Nat.le_of_ble_eq_true rfl) ?_
  refine cwp_seq ?_
  refine cwp_region ?_
  refine lwp_run 1 (by kernel_rfl) ?_
  refine lwp_nil ?_
  refine cwp_seq ?_
  refine cwp_regionD (Keep No h) 13 (by kernel_rfl) ?_
  obtain ⟨c1, H⟩ := guard_pos H
  obtain ⟨c2, H⟩ := guard_pos H
  refine awp_run (fuel := 11) [0, 1] Keep.refl (by kernel_rfl) ?_
  refine awp_pure 2 ((.int .u8 (bt (⟨#[52, 48, 99, 49, 99, 50, 99, 51, 99, 52, 99, 53, 99, 54, 99, 55, 99, 56, 99, 57, 52, 97, 52, 98, 52, 99, 52, 100, 52, 101, 52, 102, 53, 48, 100, 49, 100, 50, 100, 51, 100, 52, 100, 53, 100, 54, 100, 55, 100, 56, 100, 57, 53, 97, 53, 98, 53, 99, 53, 100, 53, 101, 53, 102, 54, 48, 54, 49, 101, 50, 101, 51, 101, 52, 101, 53, 101, 54, 101, 55, 101, 56, 101, 57, 54, 97, 54, 98, 54, 99, 54, 100, 54, 101, 54, 102, 102, 48, 102, 49, 102, 50, 102, 51, 102, 52, 102, 53, 102, 54, 102, 55, 102, 56, 102, 57, 55, 97, 55, 98, 55, 99, 55, 100, 55, 101, 55, 102]⟩ : ByteArray) (w64 (2 * x0))))) rfl (by kernel_rfl) (by kernel_rfl) (pr_indexStr (s := (⟨#[52, 48, 99, 49, 99, 50, 99, 51, 99, 52, 99, 53, 99, 54, 99, 55, 99, 56, 99, 57, 52, 97, 52, 98, 52, 99, 52, 100, 52, 101, 52, 102, 53, 48, 100, 49, 100, 50, 100, 51, 100, 52, 100, 53, 100, 54, 100, 55, 100, 56, 100, 57, 53, 97, 53, 98, 53, 99, 53, 100, 53, 101, 53, 102, 54, 48, 54, 49, 101, 50, 101, 51, 101, 52, 101, 53, 101, 54, 101, 55, 101, 56, 101, 57, 54, 97, 54, 98, 54, 99, 54, 100, 54, 101, 54, 102, 102, 48, 102, 49, 102, 50, 102, 51, 102, 52, 102, 53, 102, 54, 102, 55, 102, 56, 102, 57, 55, 97, 55, 98, 55, 99, 55, 100, 55, 101, 55, 102]⟩ : ByteArray)) (k := .i64) (i := (w64 (2 * x0))) (by kernel_rfl) (by kernel_rfl) (by kernel_rfl) c1 c2) Keep.refl ?_
  obtain ⟨c3, H⟩ := guard_pos H
  obtain ⟨c4, H⟩ := guard_pos H
  refine awp_run (fuel := 7) [5, 6, 7] Keep.refl (by kernel_rfl) ?_
  refine awp_pure 8 ((.int .u8 (bt (⟨#[52, 48, 99, 49, 99, 50, 99, 51, 99, 52, 99, 53, 99, 54, 99, 55, 99, 56, 99, 57, 52, 97, 52, 98, 52, 99, 52, 100, 52, 101, 52, 102, 53, 48, 100, 49, 100, 50, 100, 51, 100, 52, 100, 53, 100, 54, 100, 55, 100, 56, 100, 57, 53, 97, 53, 98, 53, 99, 53, 100, 53, 101, 53, 102, 54, 48, 54, 49, 101, 50, 101, 51, 101, 52, 101, 53, 101, 54, 101, 55, 101, 56, 101, 57, 54, 97, 54, 98, 54, 99, 54, 100, 54, 101, 54, 102, 102, 48, 102, 49, 102, 50, 102, 51, 102, 52, 102, 53, 102, 54, 102, 55, 102, 56, 102, 57, 55, 97, 55, 98, 55, 99, 55, 100, 55, 101, 55, 102]⟩ : ByteArray) (w64 ((w64 (2 * x0)) + 1))))) rfl (by kernel_rfl) (by kernel_rfl) (pr_indexStr (s := (⟨#[52, 48, 99, 49, 99, 50, 99, 51, 99, 52, 99, 53, 99, 54, 99, 55, 99, 56, 99, 57, 52, 97, 52, 98, 52, 99, 52, 100, 52, 101, 52, 102, 53, 48, 100, 49, 100, 50, 100, 51, 100, 52, 100, 53, 100, 54, 100, 55, 100, 56, 100, 57, 53, 97, 53, 98, 53, 99, 53, 100, 53, 101, 53, 102, 54, 48, 54, 49, 101, 50, 101, 51, 101, 52, 101, 53, 101, 54, 101, 55, 101, 56, 101, 57, 54, 97, 54, 98, 54, 99, 54, 100, 54, 101, 54, 102, 102, 48, 102, 49, 102, 50, 102, 51, 102, 52, 102, 53, 102, 54, 102, 55, 102, 56, 102, 57, 55, 97, 55, 98, 55, 99, 55, 100, 55, 101, 55, 102]⟩ : ByteArray)) (k := .i64) (i := (w64 ((w64 (2 * x0)) + 1))) (by kernel_rfl) (by kernel_rfl) (by kernel_rfl) c3 c4) Keep.refl ?_
  obtain ⟨t5, m6, H⟩ := bind_some H
  refine awp_op 3 (by kernel_rfl) rfl (by kernel_rfl) (owp_callF (by kernel_rfl) (shutterref03_value.calls (I := I) hB m6) ?_)
  rintro v7 h8 ⟨_, rfl, rfl⟩
  refine ⟨Keep.refl, ?_⟩
  refine awp_run (fuel := 4) [4] Keep.refl (by kernel_rfl) ?_
  obtain ⟨t11, m12, H⟩ := bind_some H
  refine awp_op 9 (by kernel_rfl) rfl (by kernel_rfl) (owp_callF (by kernel_rfl) (shutterref03_value.calls (I := I) hB m12) ?_)
  rintro v13 h14 ⟨_, rfl, rfl⟩
  refine ⟨Keep.refl, ?_⟩
  refine awp_run (fuel := 0) [10, 11, 12] Keep.refl (by kernel_rfl) ?_
  refine awp_nil (by kernel_rfl) ?_ 0
  refine cwp_ret ?_
  obtain rfl := Option.some.inj H
  show Exists _
  exact ⟨.int .u8 (IntKind.u8.wrap ((w64 ((w64 (16 * t5)) + t11)))), by kernel_rfl, (), rfl, rfl⟩

/-! shutter/shutterref05.Put -/
def shutterref05_Put.m (x0 : api_Attr) : Option Int :=
  (letJ (α := Int → Option Int) (fun (x12 : Int) => (bif x0.Numeric then (bif x0.Modified then ((shutterref03_Put.m (w64 ((w64 (x12 + 16)) + 1))).bind fun t17 => (some t17)) else ((shutterref03_Put.m (w64 (x12 + 16))).bind fun t23 => (some t23))) else (bif x0.Modified then ((shutterref03_Put.m (w64 (x12 + 1))).bind fun t30 => (some t30)) else ((shutterref03_Put.m x12).bind fun t36 => (some t36))))) fun (j14 : Int → Option Int) => (bif x0.Protected then (j14 (w64 ((w64 (4 * x0.Show)) + 32))) else (j14 (w64 (4 * x0.Show)))))

set_option maxRecDepth 100000 in
theorem shutterref05_Put.calls {I : Gh} {h : Heap} {x0 : api_Attr} (hB : Bd I h)  {r : Int}
    (H : shutterref05_Put.m x0 = some r) :
    Ret Tryd.prog 51 #[.agg #[.bool x0.Protected, .bool x0.Numeric, .int .i64 x0.Show, .bool x0.Modified]] h (fun v h' => ∃ (I' : Gh), .int .u8 r = v ∧ Pst No I h I' h') := by
  unfold shutterref05_Put.m at H
  refine ret_of (args := [.agg #[.bool x0.Protected, .bool x0.Numeric, .int .i64 x0.Show, .bool x0.Modified]]) (rs := [.tmp 2]) (N := 21) Tryd.func51 rfl rfl rfl (Nat.le_of_ble_eq_true rfl) ?_
  have pt0 : Pst No I h I h := Pst.refl hB
  refine cwp_seq ?_
  refine cwp_region ?_
  refine lwp_op (by kernel_rfl) (owp_box [.bool x0.Protected, .bool x0.Numeric, .int .i64 x0.Show, .bool x0.Modified] hB (by kernel_rfl) ?_)
  intro b1 h2 hc3 p4 o5
  have pt6 := pt0.no p4
  have fr7 : No b1 ∨ h.size ≤ b1 := .inr (Nat.le_trans pt0.size hc3)
  refine lwp_run 1 (by kernel_rfl) ?_
  refine lwp_nil ?_
  refine cwp_seq ?_
  refine cwp_region ?_
  refine lwp_run 1 (by kernel_rfl) ?_
  refine lwp_op (by kernel_rfl) (owp_load (by kernel_rfl) (by kernel_rfl) (o5.cell (off := 2) rfl) ?_)
  refine lwp_run 2 (by kernel_rfl) ?_
  refine lwp_nil ?_
  obtain ⟨j14, e42, H⟩ := letJ_some H
  refine cwp_join (fun ρ' h9 => ∃ (x12 : Int) (I10 : Gh), j14 x12 = some r ∧ Fits [(1, .pointer (some ⟨b1, 0, none⟩)), (3, .int .i64 x12)] ρ' ∧ Pst No I h I10 h9 ∧ OwnB I10 h9 b1 [.bool x0.Protected, .bool x0.Numeric, .int .i64 x0.Show, .bool x0.Modified] 24) ?_ ?_
  · refine cwp_seq ?_
    refine cwp_region ?_
    refine lwp_run 1 (by kernel_rfl) ?_
    rcases bool_or x0.Protected with c8 | c8
    · replace H := bif_f c8 H
      refine lwp_op (by kernel_rfl) (owp_load (by kernel_rfl) (by kernel_rfl) ((o5.cell (off := 0) rfl).trans (congrArg (fun b => some (Value.bool b)) c8)) ?_)
      refine lwp_nil ?_
      refine cwp_false (by kernel_rfl) ?_
      refine cwp_skip ?_
      exact ⟨(w64 (4 * x0.Show)), I, H, ⟨by kernel_rfl, by kernel_rfl, trivial⟩, pt6, o5⟩
    · replace H := bif_t c8 H
      refine lwp_op (by kernel_rfl) (owp_load (by kernel_rfl) (by kernel_rfl) ((o5.cell (off := 0) rfl).trans (congrArg (fun b => some (Value.bool b)) c8)) ?_)
      refine lwp_nil ?_
      refine cwp_true (by kernel_rfl) ?_
      refine cwp_region ?_
      refine lwp_run 3 (by kernel_rfl) ?_
      refine lwp_nil ?_
      exact ⟨(w64 ((w64 (4 * x0.Show)) + 32)), I, H, ⟨by kernel_rfl, by kernel_rfl, trivial⟩, pt6, o5⟩
  · clear H
    rintro ρ' h9 ⟨x12, I10, H, hf, pt11, o13⟩
    refine cwp_fits _ hf ?_
    subst e42
    try dsimp only at H
    refine cwp_seq ?_
    refine cwp_seq ?_
    refine cwp_region ?_
    refine lwp_run 1 (by kernel_rfl) ?_
    rcases bool_or x0.Numeric with c15 | c15
    · replace H := bif_f c15 H
      refine lwp_op (by kernel_rfl) (owp_load (by kernel_rfl) (by kernel_rfl) ((o13.cell (off := 1) rfl).trans (congrArg (fun b => some (Value.bool b)) c15)) ?_)
      refine lwp_nil ?_
      refine cwp_false (by kernel_rfl) ?_
      refine cwp_skip ?_
      refine cwp_seq ?_
      refine cwp_seq ?_
      refine cwp_region ?_
      refine lwp_run 1 (by kernel_rfl) ?_
      rcases bool_or x0.Modified with c29 | c29
      · replace H := bif_f c29 H
        refine lwp_op (by kernel_rfl) (owp_load (by kernel_rfl) (by kernel_rfl) ((o13.cell (off := 3) rfl).trans (congrArg (fun b => some (Value.bool b)) c29)) ?_)
        refine lwp_nil ?_
        refine cwp_false (by kernel_rfl) ?_
        refine cwp_skip ?_
        refine cwp_seq ?_
        refine cwp_region ?_
        refine lwp_run 1 (by kernel_rfl) ?_
        obtain ⟨t36, m37, H⟩ := bind_some H
        refine lwp_op (by kernel_rfl) (owp_callF (by kernel_rfl) (shutterref03_Put.calls (I := I10) pt11.bd m37) ?_)
        rintro v38 h39 ⟨_, rfl, rfl⟩
        refine lwp_run 1 (by kernel_rfl) ?_
        refine lwp_nil ?_
        refine cwp_ret ?_
        obtain rfl := Option.some.inj H
        show Exists _
        exact ⟨.int .u8 t36, by kernel_rfl, I10, rfl, pt11⟩
      · replace H := bif_t c29 H
        refine lwp_op (by kernel_rfl) (owp_load (by kernel_rfl) (by kernel_rfl) ((o13.cell (off := 3) rfl).trans (congrArg (fun b => some (Value.bool b)) c29)) ?_)
        refine lwp_nil ?_
        refine cwp_true (by kernel_rfl) ?_
        refine cwp_region ?_
        refine lwp_run 3 (by kernel_rfl) ?_
        refine lwp_nil ?_
        refine cwp_seq ?_
        refine cwp_region ?_
        refine lwp_run 1 (by kernel_rfl) ?_
        obtain ⟨t30, m31, H⟩ := bind_some H
        refine lwp_op (by kernel_rfl) (owp_callF (by kernel_rfl) (shutterref03_Put.calls (I := I10) pt11.bd m31) ?_)
        rintro v32 h33 ⟨_, rfl, rfl⟩
        refine lwp_run 1 (by kernel_rfl) ?_
        refine lwp_nil ?_
        refine cwp_ret ?_
        obtain rfl := Option.some.inj H
        show Exists _
        exact ⟨.int .u8 t30, by kernel_rfl, I10, rfl, pt11⟩
    · replace H := bif_t c15 H
      refine lwp_op (by kernel_rfl) (owp_load (by kernel_rfl) (by kernel_rfl) ((o13.cell (off := 1) rfl).trans (congrArg (fun b => some (Value.bool b)) c15)) ?_)
      refine lwp_nil ?_
      refine cwp_true (by kernel_rfl) ?_
      refine cwp_region ?_
      refine lwp_run 3 (by kernel_rfl) ?_
      refine lwp_nil ?_
      refine cwp_seq ?_
      refine cwp_seq ?_
      refine cwp_region ?_
      refine lwp_run 1 (by kernel_rfl) ?_
      rcases bool_or x0.Modified with c16 | c16
      · replace H := bif_f c16 H
        refine lwp_op (by kernel_rfl) (owp_load (by kernel_rfl) (by kernel_rfl) ((o13.cell (off := 3) rfl).trans (congrArg (fun b => some (Value.bool b)) c16)) ?_)
        refine lwp_nil ?_
        refine cwp_false (by kernel_rfl) ?_
        refine cwp_skip ?_
        refine cwp_seq ?_
        refine cwp_region ?_
        refine lwp_run 1 (by kernel_rfl) ?_
        obtain ⟨t23, m24, H⟩ := bind_some H
        refine lwp_op (by kernel_rfl) (owp_callF (by kernel_rfl) (shutterref03_Put.calls (I := I10) pt11.bd m24) ?_)
        rintro v25 h26 ⟨_, rfl, rfl⟩
        refine lwp_run 1 (by kernel_rfl) ?_
        refine lwp_nil ?_
        refine cwp_ret ?_
        obtain rfl := Option.some.inj H
        show Exists _
        exact ⟨.int .u8 t23, by kernel_rfl, I10, rfl, pt11⟩
      · replace H := bif_t c16 H
        refine lwp_op (by kernel_rfl) (owp_load (by kernel_rfl) (by kernel_rfl) ((o13.cell (off := 3) rfl).trans (congrArg (fun b => some (Value.bool b)) c16)) ?_)
        refine lwp_nil ?_
        refine cwp_true (by kernel_rfl) ?_
        refine cwp_region ?_
        refine lwp_run 3 (by kernel_rfl) ?_
        refine lwp_nil ?_
        refine cwp_seq ?_
        refine cwp_region ?_
        refine lwp_run 1 (by kernel_rfl) ?_
        obtain ⟨t17, m18, H⟩ := bind_some H
        refine lwp_op (by kernel_rfl) (owp_callF (by kernel_rfl) (shutterref03_Put.calls (I := I10) pt11.bd m18) ?_)
        rintro v19 h20 ⟨_, rfl, rfl⟩
        refine lwp_run 1 (by kernel_rfl) ?_
        refine lwp_nil ?_
        refine cwp_ret ?_
        obtain rfl := Option.some.inj H
        show Exists _
        exact ⟨.int .u8 t17, by kernel_rfl, I10, rfl, pt11⟩

/-! shutter/shutterref04.Put -/
def shutterref04_Put.m (x0 : Int) (x1 : Int) : Option (List Int) :=
  (if x1 > 4096 then (some [(IntKind.u8.wrap ((w64 (Int.tdiv x0 256)))), (IntKind.u8.wrap ((Int.tmod x0 256)))]) else ((shutterref03_Put.m (w64 (Int.tdiv x0 64))).bind fun t10 => ((shutterref03_Put.m (Int.tmod x0 64)).bind fun t16 => (some [t10, t16]))))

set_option maxRecDepth 100000 in
theorem shutterref04_Put.calls {I : Gh} {h : Heap} {x0 : Int} {x1 : Int} (hB : Bd I h)  {r : (List Int)}
    (H : shutterref04_Put.m x0 x1 = some r) :
    Ret Tryd.prog 52 #[.int .i64 x0, .int .i64 x1] h (fun v h' => ∃ (I' : Gh) (a30 : Option Addr) (c31 : Nat), .slice a30 r.length c31 = v ∧ Pst No I h I' h' ∧ Own (tInt .u8) I' h' a30 c31 r ∧ (∀ b, InA a30 b → No b ∨ h.size ≤ b)) := by
  unfold shutterref04_Put.m at H
  refine ret_of (args := [.int .i64 x0, .int .i64 x1]) (rs := [.tmp 4]) (N := 21) Tryd.func52 rfl rfl rfl (Nat.le_of_ble_eq_true rfl) ?_
  have pt0 : Pst No I h I h := Pst.refl hB
  refine cwp_seq ?_
  refine cwp_region ?_
  refine lwp_run 1 (by kernel_rfl) ?_
  refine lwp_nil ?_
  refine cwp_seq ?_
  refine cwp_seq ?_
  refine cwp_region ?_
  refine lwp_run 1 (by kernel_rfl) ?_
  by_cases c1 : x1 > 4096
  · rw [if_pos c1] at H
    refine lwp_op (by kernel_rfl) (owp_pure ((.bool true)) (pr_bool (by kernel_rfl) (decide_eq_true c1)) ?_)
    refine lwp_nil ?_
    refine cwp_true (by kernel_rfl) ?_
    refine cwp_seq ?_
    refine cwp_region ?_
    refine lwp_run 6 (by kernel_rfl) ?_
    refine lwp_op (by kernel_rfl) (owp_buildSlice (e := 5) [.int .u8 (IntKind.u8.wrap ((w64 (Int.tdiv x0 256)))), .int .u8 (IntKind.u8.wrap ((Int.tmod x0 256)))] 1 (.int .u8 0) hB (by kernel_rfl) (by kernel_rfl) (by kernel_rfl) (by kernel_rfl) (by kernel_rfl) ?_)
    intro b2 h3 hc4 p5 o6
    have pt7 := pt0.no p5
    have w8 := o6.own (l := ([(IntKind.u8.wrap ((w64 (Int.tdiv x0 256)))), (IntKind.u8.wrap ((Int.tmod x0 256)))] : List Int)) (Reps.int (I := I) (k := .u8) (l := [(IntKind.u8.wrap ((w64 (Int.tdiv x0 256)))), (IntKind.u8.wrap ((Int.tmod x0 256)))]))
    have fw8 := some_nw (M := No) (Nat.le_trans pt0.size hc4)
    refine lwp_run 1 (by kernel_rfl) ?_
    refine lwp_nil ?_
    refine cwp_ret ?_
    obtain rfl := Option.some.inj H
    show Exists _
    exact ⟨.slice (some ⟨b2, 0, none⟩) ([(IntKind.u8.wrap ((w64 (Int.tdiv x0 256)))), (IntKind.u8.wrap ((Int.tmod x0 256)))].length) 2, by kernel_rfl, I, (some ⟨b2, 0, none⟩), 2, rfl, pt7, w8, fw8⟩
  · rw [if_neg c1] at H
    refine lwp_op (by kernel_rfl) (owp_pure ((.bool false)) (pr_bool (by kernel_rfl) (decide_eq_false c1)) ?_)
    refine lwp_nil ?_
    refine cwp_false (by kernel_rfl) ?_
    refine cwp_skip ?_
    refine cwp_seq ?_
    refine cwp_region ?_
    refine lwp_run 2 (by kernel_rfl) ?_
    obtain ⟨t10, m11, H⟩ := bind_some H
    refine lwp_op (by kernel_rfl) (owp_callF (by kernel_rfl) (shutterref03_Put.calls (I := I) hB m11) ?_)
    rintro v12 h13 ⟨_, rfl, rfl⟩
    refine lwp_run 2 (by kernel_rfl) ?_
    obtain ⟨t16, m17, H⟩ := bind_some H
    refine lwp_op (by kernel_rfl) (owp_callF (by kernel_rfl) (shutterref03_Put.calls (I := I) hB m17) ?_)
    rintro v18 h19 ⟨_, rfl, rfl⟩
    refine lwp_op (by kernel_rfl) (owp_buildSlice (e := 5) [.int .u8 t10, .int .u8 t16] 1 (.int .u8 0) hB (by kernel_rfl) (by kernel_rfl) (by kernel_rfl) (by kernel_rfl) (by kernel_rfl) ?_)
    intro b22 h23 hc24 p25 o26
    have pt27 := pt0.no p25
    have w28 := o26.own (l := ([t10, t16] : List Int)) (Reps.int (I := I) (k := .u8) (l := [t10, t16]))
    have fw28 := some_nw (M := No) (Nat.le_trans pt0.size hc24)
    refine lwp_run 1 (by kernel_rfl) ?_
    refine lwp_nil ?_
    refine cwp_ret ?_
    obtain rfl := Option.some.inj H
    show Exists _
    exact ⟨.slice (some ⟨b22, 0, none⟩) ([t10, t16].length) 2, by kernel_rfl, I, (some ⟨b22, 0, none⟩), 2, rfl, pt27, w28, fw28⟩

/-! shutter/shutterref07.Put -/
def shutterref07_Put.m (x0 : api_Order) (x1 : Int) : Option (List Int) :=
  (if x0.Kind = 1 then ((app [] x0.Text).bind fun l25 => (some l25)) else (if x0.Kind = 2 then ((shutterref05_Put.m x0.Attr).bind fun t38 => (some [29, t38])) else (if x0.Kind = 4 then (some [19]) else (if x0.Kind = 5 then (some [5]) else (letJ (α := Bool → Option (List Int)) (fun (x79 : Bool) => (bif x79 then ((shutterref04_Put.m x0.Addr x1).bind fun t93 => ((app [17] t93).bind fun l109 => (some l109))) else (letJ (α := Bool → Option (List Int)) (fun (x127 : Bool) => (bif x127 then ((shutterref04_Put.m x0.Addr x1).bind fun t141 => ((app [18] t141).bind fun l157 => (some l157))) else ((shutterref04_Put.m x0.Addr x1).bind fun t181 => ((app [60] t181).bind fun l199 => ((app l199 [x0.Char]).bind fun l232 => (some l232)))))) fun (j130 : Bool → Option (List Int)) => (if x0.Kind = 7 then (j130 true) else (j130 false))))) fun (j82 : Bool → Option (List Int)) => (if x0.Kind = 3 then (j82 true) else (j82 false)))))))

set_option maxRecDepth 100000 in
theorem shutterref07_Put.calls {I : Gh} {h : Heap} {x0 : api_Order} {a1 : Option Addr} {c2 : Nat} {x1 : Int} (hB : Bd I h) (r4 : Rd (tInt .u8) I h a1 c2 x0.Text) {r : (List Int)}
    (H : shutterref07_Put.m x0 x1 = some r) :
    Ret Tryd.prog 18 #[.agg #[.int .i64 x0.Kind, .slice a1 x0.Text.length c2, .bool x0.Attr.Protected, .bool x0.Attr.Numeric, .int .i64 x0.Attr.Show, .bool x0.Attr.Modified, .int .i64 x0.Addr, .int .u8 x0.Char], .int .i64 x1] h (fun v h' => ∃ (I' : Gh) (a755 : Option Addr) (c756 : Nat), .slice a755 r.length c756 = v ∧ Pst No I h I' h' ∧ Own (tInt .u8) I' h' a755 c756 r ∧ (∀ b, InA a755 b → No b ∨ h.size ≤ b)) := by
  unfold shutterref07_Put.m at H
  refine ret_of (args := [.agg #[.int .i64 x0.Kind, .slice a1 x0.Text.length c2, .bool x0.Attr.Protected, .bool x0.Attr.Numeric, .int .i64 x0.Attr.Show, .bool x0.Attr.Modified, .int .i64 x0.Addr, .int .u8 x0.Char], .int .i64 x1]) (rs := [.tmp 4]) (N := 55) Tryd.func18 rfl rfl rfl (Nat.le_of_ble_eq_true rfl) ?_
  have pt0 : Pst No I h I h := Pst.refl hB
  refine cwp_seq ?_
  refine cwp_region ?_
  refine lwp_op (by kernel_rfl) (owp_box [.int .i64 x0.Kind, .slice a1 x0.Text.length c2, .bool x0.Attr.Protected, .bool x0.Attr.Numeric, .int .i64 x0.Attr.Show, .bool x0.Attr.Modified, .int .i64 x0.Addr, .int .u8 x0.Char] hB (by kernel_rfl) ?_)
  intro b5 h6 hc7 p8 o9
  have pt10 := pt0.no p8
  have fr11 : No b5 ∨ h.size ≤ b5 := .inr (Nat.le_trans pt0.size hc7)
  refine lwp_run 1 (by kernel_rfl) ?_
  refine lwp_nil ?_
  refine cwp_seq ?_
  refine cwp_seq ?_
  refine cwp_region ?_
  refine lwp_run 1 (by kernel_rfl) ?_
  refine lwp_op (by kernel_rfl) (owp_load (by kernel_rfl) (by kernel_rfl) (o9.cell (off := 0) rfl) ?_)
  by_cases c12 : x0.Kind = 1
  · rw [if_pos c12] at H
    refine lwp_op (by kernel_rfl) (owp_pure ((.bool true)) (pr_bool (by kernel_rfl) (eqT c12)) ?_)
    refine lwp_nil ?_
    refine cwp_true (by kernel_rfl) ?_
    refine cwp_seq ?_
    refine cwp_region ?_
    refine lwp_op (by kernel_rfl) (owp_buildSlice (e := 5) [] 1 (.int .u8 0) p8.bd (by kernel_rfl) (by kernel_rfl) (by kernel_rfl) (by kernel_rfl) (by kernel_rfl) ?_)
    intro b13 h14 hc15 p16 o17
    have pt18 := pt10.no p16
    have w19 := o17.own (l := ([] : List Int)) (Reps.int (I := I) (k := .u8) (l := []))
    have fw19 := some_nw (M := No) (Nat.le_trans pt10.size hc15)
    have d21 := some_ne (ne_new o9.lt hc15)
    refine lwp_run 1 (by kernel_rfl) ?_
    have f22 := o9.post p16 (fun x => x.elim)
    refine lwp_op (by kernel_rfl) (owp_load (by kernel_rfl) (by kernel_rfl) (f22.cell (off := 1) rfl) ?_)
    have f23 := r4.up (p8.up hB (fun _ x => x.elim))
    have f24 := f23.up (p16.up p8.bd (fun _ x => x.elim))
    obtain ⟨l25, m26, H⟩ := bind_some H
    refine lwp_op (by kernel_rfl) (owp_app (e := 5) (bytes := 1) (tInt .u8) (by kernel_rfl) (elemOk_of (by kernel_rfl)) rfl rfl p16.bd p16.bd w19 w19.notI (f24.toSl) m26 (by kernel_rfl) (by kernel_rfl) ?_)
    intro a27 c28 h29 p30 o31 fr32
    have pt33 := pt18.own p30 fw19
    have fr35 := nw_step (M := No) (n := h.size) fw19 fr32 pt18.size
    have d36 := step_blk fr32 f22.lt d21
    refine lwp_run 1 (by kernel_rfl) ?_
    refine lwp_nil ?_
    refine cwp_ret ?_
    obtain rfl := Option.some.inj H
    show Exists _
    exact ⟨.slice a27 l25.length c28, by kernel_rfl, I, a27, c28, rfl, pt33, o31, fr35⟩
  · rw [if_neg c12] at H
    refine lwp_op (by kernel_rfl) (owp_pure ((.bool false)) (pr_bool (by kernel_rfl) (eqF c12)) ?_)
    refine lwp_nil ?_
    refine cwp_false (by kernel_rfl) ?_
    refine cwp_skip ?_
    refine cwp_seq ?_
    refine cwp_seq ?_
    refine cwp_region ?_
    refine lwp_run 1 (by kernel_rfl) ?_
    refine lwp_op (by kernel_rfl) (owp_load (by kernel_rfl) (by kernel_rfl) (o9.cell (off := 0) rfl) ?_)
    by_cases c37 : x0.Kind = 2
    · rw [if_pos c37] at H
      refine lwp_op (by kernel_rfl) (owp_pure ((.bool true)) (pr_bool (by kernel_rfl) (eqT c37)) ?_)
      refine lwp_nil ?_
      refine cwp_true (by kernel_rfl) ?_
      refine cwp_seq ?_
      refine cwp_region ?_
      refine lwp_run 1 (by kernel_rfl) ?_
      refine lwp_op (by kernel_rfl) (owp_loadN (by kernel_rfl) (by kernel_rfl) (by kernel_rfl) (o9.seg_ 2 4 (Nat.le_of_ble_eq_true rfl)) ?_)
      obtain ⟨t38, m39, H⟩ := bind_some H
      refine lwp_op (by kernel_rfl) (owp_callF (by kernel_rfl) (shutterref05_Put.calls (I := I) p8.bd m39) ?_)
      rintro v40 h41 ⟨I42, rfl, p43⟩
      have pt44 := pt10.no p43
      refine lwp_op (by kernel_rfl) (owp_buildSlice (e := 5) [.int .u8 29, .int .u8 t38] 1 (.int .u8 0) p43.bd (by kernel_rfl) (by kernel_rfl) (by kernel_rfl) (by kernel_rfl) (by kernel_rfl) ?_)
      intro b45 h46 hc47 p48 o49
      have pt50 := pt44.no p48
      have w51 := o49.own (l := ([29, t38] : List Int)) (Reps.int (I := I42) (k := .u8) (l := [29, t38]))
      have fw51 := some_nw (M := No) (Nat.le_trans pt44.size hc47)
      have f53 := o9.post p43 (fun x => x.elim)
      have d54 := some_ne (ne_new f53.lt hc47)
      refine lwp_run 1 (by kernel_rfl) ?_
      refine lwp_nil ?_
      refine cwp_ret ?_
      obtain rfl := Option.some.inj H
      show Exists _
      exact ⟨.slice (some ⟨b45, 0, none⟩) ([29, t38].length) 2, by kernel_rfl, I42, (some ⟨b45, 0, none⟩), 2, rfl, pt50, w51, fw51⟩
    · rw [if_neg c37] at H
      refine lwp_op (by kernel_rfl) (owp_pure ((.bool false)) (pr_bool (by kernel_rfl) (eqF c37)) ?_)
      refine lwp_nil ?_
      refine cwp_false (by kernel_rfl) ?_
      refine cwp_skip ?_
      refine cwp_seq ?_
      refine cwp_seq ?_
      refine cwp_region ?_
      refine lwp_run 1 (by kernel_rfl) ?_
      refine lwp_op (by kernel_rfl) (owp_load (by kernel_rfl) (by kernel_rfl) (o9.cell (off := 0) rfl) ?_)
      by_cases c55 : x0.Kind = 4
      · rw [if_pos c55] at H
        refine lwp_op (by kernel_rfl) (owp_pure ((.bool true)) (pr_bool (by kernel_rfl) (eqT c55)) ?_)
        refine lwp_nil ?_
        refine cwp_true (by kernel_rfl) ?_
        refine cwp_seq ?_
        refine cwp_region ?_
        refine lwp_op (by kernel_rfl) (owp_buildSlice (e := 5) [.int .u8 19] 1 (.int .u8 0) p8.bd (by kernel_rfl) (by kernel_rfl) (by kernel_rfl) (by kernel_rfl) (by kernel_rfl) ?_)
        intro b56 h57 hc58 p59 o60
        have pt61 := pt10.no p59
        have w62 := o60.own (l := ([19] : List Int)) (Reps.int (I := I) (k := .u8) (l := [19]))
        have fw62 := some_nw (M := No) (Nat.le_trans pt10.size hc58)
        have d64 := some_ne (ne_new o9.lt hc58)
        refine lwp_run 1 (by kernel_rfl) ?_
        refine lwp_nil ?_
        refine cwp_ret ?_
        obtain rfl := Option.some.inj H
        show Exists _
        exact ⟨.slice (some ⟨b56, 0, none⟩) ([19].length) 1, by kernel_rfl, I, (some ⟨b56, 0, none⟩), 1, rfl, pt61, w62, fw62⟩
      · rw [if_neg c55] at H
        refine lwp_op (by kernel_rfl) (owp_pure ((.bool false)) (pr_bool (by kernel_rfl) (eqF c55)) ?_)
        refine lwp_nil ?_
        refine cwp_false (by kernel_rfl) ?_
        refine cwp_skip ?_
        refine cwp_seq ?_
        refine cwp_seq ?_
        refine cwp_region ?_
        refine lwp_run 1 (by kernel_rfl) ?_
        refine lwp_op (by kernel_rfl) (owp_load (by kernel_rfl) (by kernel_rfl) (o9.cell (off := 0) rfl) ?_)
        by_cases c65 : x0.Kind = 5
        · rw [if_pos c65] at H
          refine lwp_op (by kernel_rfl) (owp_pure ((.bool true)) (pr_bool (by kernel_rfl) (eqT c65)) ?_)
          refine lwp_nil ?_
          refine cwp_true (by kernel_rfl) ?_
          refine cwp_seq ?_
          refine cwp_region ?_
          refine lwp_op (by kernel_rfl) (owp_buildSlice (e := 5) [.int .u8 5] 1 (.int .u8 0) p8.bd (by kernel_rfl) (by kernel_rfl) (by kernel_rfl) (by kernel_rfl) (by kernel_rfl) ?_)
          intro b66 h67 hc68 p69 o70
          have pt71 := pt10.no p69
          have w72 := o70.own (l := ([5] : List Int)) (Reps.int (I := I) (k := .u8) (l := [5]))
          have fw72 := some_nw (M := No) (Nat.le_trans pt10.size hc68)
          have d74 := some_ne (ne_new o9.lt hc68)
          refine lwp_run 1 (by kernel_rfl) ?_
          refine lwp_nil ?_
          refine cwp_ret ?_
          obtain rfl := Option.some.inj H
          show Exists _
          exact ⟨.slice (some ⟨b66, 0, none⟩) ([5].length) 1, by kernel_rfl, I, (some ⟨b66, 0, none⟩), 1, rfl, pt71, w72, fw72⟩
        · rw [if_neg c65] at H
          refine lwp_op (by kernel_rfl) (owp_pure ((.bool false)) (pr_bool (by kernel_rfl) (eqF c65)) ?_)
          refine lwp_nil ?_
          refine cwp_false (by kernel_rfl) ?_
          refine cwp_skip ?_
          refine cwp_seq ?_
          obtain ⟨j82, e754, H⟩ := letJ_some H
          refine cwp_join (fun ρ' h76 => ∃ (x79 : Bool) (I77 : Gh), j82 x79 = some r ∧ Fits [(1, .int .i64 x1), (2, .pointer (some ⟨b5, 0, none⟩)), (29, .bool x79)] ρ' ∧ Pst No I h I77 h76 ∧ Rd (tInt .u8) I77 h76 a1 c2 x0.Text ∧ OwnB I77 h76 b5 [.int .i64 x0.Kind, .slice a1 x0.Text.length c2, .bool x0.Attr.Protected, .bool x0.Attr.Numeric, .int .i64 x0.Attr.Show, .bool x0.Attr.Modified, .int .i64 x0.Addr, .int .u8 x0.Char] 26) ?_ ?_
          · refine cwp_region ?_
            refine lwp_run 1 (by kernel_rfl) ?_
            refine lwp_op (by kernel_rfl) (owp_load (by kernel_rfl) (by kernel_rfl) (o9.cell (off := 0) rfl) ?_)
            by_cases c75 : x0.Kind = 3
            · rw [if_pos c75] at H
              refine lwp_op (by kernel_rfl) (owp_pure ((.bool true)) (pr_bool (by kernel_rfl) (eqT c75)) ?_)
              refine lwp_nil ?_
              have f100003 := r4.up (p8.up hB (fun _ x => x.elim))
              exact ⟨true, I, H, ⟨by kernel_rfl, by kernel_rfl, by kernel_rfl, trivial⟩, pt10, f100003, o9⟩
            · rw [if_neg c75] at H
              refine lwp_op (by kernel_rfl) (owp_pure ((.bool false)) (pr_bool (by kernel_rfl) (eqF c75)) ?_)
              refine lwp_nil ?_
              have f100004 := r4.up (p8.up hB (fun _ x => x.elim))
              exact ⟨false, I, H, ⟨by kernel_rfl, by kernel_rfl, by kernel_rfl, trivial⟩, pt10, f100004, o9⟩
          · clear H
            rintro ρ' h76 ⟨x79, I77, H, hf, pt78, r80, o81⟩
            refine cwp_fits _ hf ?_
            subst e754
            try dsimp only at H
            cases x79
            · rw [cond_false] at H
              refine cwp_false (by kernel_rfl) ?_
              refine cwp_skip ?_
              refine cwp_seq ?_
              obtain ⟨j130, e753, H⟩ := letJ_some H
              refine cwp_join (fun ρ' h124 => ∃ (x127 : Bool) (I125 : Gh), j130 x127 = some r ∧ Fits [(1, .int .i64 x1), (2, .pointer (some ⟨b5, 0, none⟩)), (38, .bool x127)] ρ' ∧ Pst No I h I125 h124 ∧ Rd (tInt .u8) I125 h124 a1 c2 x0.Text ∧ OwnB I125 h124 b5 [.int .i64 x0.Kind, .slice a1 x0.Text.length c2, .bool x0.Attr.Protected, .bool x0.Attr.Numeric, .int .i64 x0.Attr.Show, .bool x0.Attr.Modified, .int .i64 x0.Addr, .int .u8 x0.Char] 26) ?_ ?_
              · refine cwp_region ?_
                refine lwp_run 1 (by kernel_rfl) ?_
                refine lwp_op (by kernel_rfl) (owp_load (by kernel_rfl) (by kernel_rfl) (o81.cell (off := 0) rfl) ?_)
                by_cases c123 : x0.Kind = 7
                · rw [if_pos c123] at H
                  refine lwp_op (by kernel_rfl) (owp_pure ((.bool true)) (pr_bool (by kernel_rfl) (eqT c123)) ?_)
                  refine lwp_nil ?_
                  exact ⟨true, I77, H, ⟨by kernel_rfl, by kernel_rfl, by kernel_rfl, trivial⟩, pt78, r80, o81⟩
                · rw [if_neg c123] at H
                  refine lwp_op (by kernel_rfl) (owp_pure ((.bool false)) (pr_bool (by kernel_rfl) (eqF c123)) ?_)
                  refine lwp_nil ?_
                  exact ⟨false, I77, H, ⟨by kernel_rfl, by kernel_rfl, by kernel_rfl, trivial⟩, pt78, r80, o81⟩
              · clear H
                rintro ρ' h124 ⟨x127, I125, H, hf, pt126, r128, o129⟩
                refine cwp_fits _ hf ?_
                subst e753
                try dsimp only at H
                cases x127
                · rw [cond_false] at H
                  refine cwp_false (by kernel_rfl) ?_
                  refine cwp_skip ?_
                  refine cwp_seq ?_
                  refine cwp_regionD (Keep No h124) 11 (by kernel_rfl) ?_
                  refine awp_run (fuel := 10) [1] Keep.refl (by kernel_rfl) ?_
                  refine awp_load 2 rfl (by kernel_rfl) (by kernel_rfl) (by kernel_rfl) (by kernel_rfl) Keep.refl (o129.cell (off := 6) rfl) (fun _ _ x => x.elim) ?_
                  refine awp_run (fuel := 7) [3, 6] Keep.refl (by kernel_rfl) ?_
                  refine awp_load 7 rfl (by kernel_rfl) (by kernel_rfl) (by kernel_rfl) (by kernel_rfl) Keep.refl (o129.cell (off := 7) rfl) (fun _ _ x => x.elim) ?_
                  refine awp_three 0 4 8 (by kernel_rfl) ?_ ?_ ?_
                  · refine awpAt_op rfl (by kernel_rfl) (owp_buildSlice (e := 5) [.int .u8 60] 1 (.int .u8 0) pt126.bd (by kernel_rfl) (by kernel_rfl) (by kernel_rfl) (by kernel_rfl) (by kernel_rfl) ?_)
                    intro b171 h172 hc173 p174 o175
                    have pt176 := pt126.no p174
                    have w177 := o175.own (l := ([60] : List Int)) (Reps.int (I := I125) (k := .u8) (l := [60]))
                    have fw177 := some_nw (M := No) (Nat.le_trans pt126.size hc173)
                    have d179 := some_ne (ne_new o129.lt hc173)
                    have hK180 := Keep.post (M := No) Keep.refl (Nat.le_refl _) p174 (fun _ x => x.elim)
                    refine ⟨hK180, ?_⟩
                    refine awp_two 4 8 (by kernel_rfl) ?_ ?_
                    · obtain ⟨t181, m182, H⟩ := bind_some H
                      refine awpAt_op rfl (by kernel_rfl) (owp_callF (by kernel_rfl) (shutterref04_Put.calls (I := I125) p174.bd m182) ?_)
                      rintro v183 h184 ⟨I185, a187, c188, rfl, p186, r190, fr191⟩
                      have pt192 := pt176.no p186
                      have fr193 := nw_step (M := No) (n := h.size) (fun _ x => x.elim) fr191 pt176.size
                      have f194 := o129.post p174 (fun x => x.elim)
                      have d195 := step_blk fr191 f194.lt (fun x => x.elim)
                      have d196 := step_sl fr191 w177.lt (fun _ _ x => x.elim)
                      have hK197 := Keep.post (M := No) hK180 (Nat.le_trans (Nat.le_refl _) p174.size) p186 (fun _ x => x.elim)
                      refine ⟨hK197, ?_⟩
                      refine awp_two 5 8 (by kernel_rfl) ?_ ?_
                      · have f198 := w177.post p174.bd p186 (fun _ x => x.elim) (fun _ _ x => x.elim)
                        obtain ⟨l199, m200, H⟩ := bind_some H
                        refine awpAt_op rfl (by kernel_rfl) (owp_app (e := 5) (bytes := 1) (tInt .u8) (by kernel_rfl) (elemOk_of (by kernel_rfl)) rfl rfl p186.bd p186.bd f198 f198.notI (r190.toSl) m200 (by kernel_rfl) (by kernel_rfl) ?_)
                        intro a201 c202 h203 p204 o205 fr206
                        have pt207 := pt192.own p204 fw177
                        have fr209 := nw_step (M := No) (n := h.size) fw177 fr206 pt192.size
                        have f210 := o129.post p174 (fun x => x.elim)
                        have f211 := f210.post p186 (fun x => x.elim)
                        have d212 := step_blk fr206 f211.lt d179
                        have d213 := step_sl fr206 r190.lt d196
                        have hK214 := Keep.post (M := No) hK197 (Nat.le_trans (Nat.le_trans (Nat.le_refl _) p174.size) p186.size) p204 (some_nw (Nat.le_trans (Nat.le_refl _) hc173))
                        refine ⟨hK214, ?_⟩
                        refine awp_op 8 (by kernel_rfl) rfl (by kernel_rfl) (owp_buildSlice (e := 5) [.int .u8 x0.Char] 1 (.int .u8 0) p204.bd (by kernel_rfl) (by kernel_rfl) (by kernel_rfl) (by kernel_rfl) (by kernel_rfl) ?_)
                        intro b215 h216 hc217 p218 o219
                        have pt220 := pt207.no p218
                        have w221 := o219.own (l := ([x0.Char] : List Int)) (Reps.int (I := I185) (k := .u8) (l := [x0.Char]))
                        have fw221 := some_nw (M := No) (Nat.le_trans pt207.size hc217)
                        have f223 := o129.post p174 (fun x => x.elim)
                        have f224 := f223.post p186 (fun x => x.elim)
                        have f225 := f224.post p204 d179
                        have d226 := some_ne (ne_new f225.lt hc217)
                        have f227 := r190.post p186.bd p204 f198.notI d196
                        have d228 := some_notIn (notIn_new f227.lt hc217)
                        have d229 := some_notIn (notIn_new o205.lt hc217)
                        have hK230 := Keep.post (M := No) hK214 (Nat.le_trans (Nat.le_trans (Nat.le_trans (Nat.le_refl _) p174.size) p186.size) p204.size) p218 (fun _ x => x.elim)
                        refine ⟨hK230, ?_⟩
                        have f231 := o205.post p204.bd p218 (fun _ x => x.elim) (fun _ _ x => x.elim)
                        obtain ⟨l232, m233, H⟩ := bind_some H
                        refine awp_op 9 (by kernel_rfl) rfl (by kernel_rfl) (owp_app (e := 5) (bytes := 1) (tInt .u8) (by kernel_rfl) (elemOk_of (by kernel_rfl)) rfl rfl p218.bd p218.bd f231 f231.notI (w221.toSl) m233 (by kernel_rfl) (by kernel_rfl) ?_)
                        intro a234 c235 h236 p237 o238 fr239
                        have pt240 := pt220.own p237 fr209
                        have fr242 := nw_step (M := No) (n := h.size) fr209 fr239 pt220.size
                        have f243 := o129.post p174 (fun x => x.elim)
                        have f244 := f243.post p186 (fun x => x.elim)
                        have f245 := f244.post p204 d179
                        have f246 := f245.post p218 (fun x => x.elim)
                        have d247 := step_blk fr239 f246.lt d212
                        have f248 := r190.post p186.bd p204 f198.notI d196
                        have f249 := f248.post p204.bd p218 (fun _ x => x.elim) (fun _ _ x => x.elim)
                        have d250 := step_sl fr239 f249.lt (flipD d213)
                        have d251 := step_sl fr239 w221.lt d229
                        have hK252 := Keep.post (M := No) hK230 (Nat.le_trans (Nat.le_trans (Nat.le_trans (Nat.le_trans (Nat.le_refl _) p174.size) p186.size) p204.size) p218.size) p237 (nw_step (M := No) (some_nw (Nat.le_trans (Nat.le_refl _) hc173)) fr206 (Nat.le_trans (Nat.le_trans (Nat.le_refl _) p174.size) p186.size))
                        refine ⟨hK252, ?_⟩
                        refine awp_run (fuel := 0) [10] hK252 (by kernel_rfl) ?_
                        refine awp_nil (by kernel_rfl) ?_ 0
                        refine cwp_ret ?_
                        obtain rfl := Option.some.inj H
                        show Exists _
                        exact ⟨.slice a234 l232.length c235, by kernel_rfl, I185, a234, c235, rfl, pt240, o238, fr242⟩
                      · refine awpAt_op rfl (by kernel_rfl) (owp_buildSlice (e := 5) [.int .u8 x0.Char] 1 (.int .u8 0) p186.bd (by kernel_rfl) (by kernel_rfl) (by kernel_rfl) (by kernel_rfl) (by kernel_rfl) ?_)
                        intro b253 h254 hc255 p256 o257
                        have pt258 := pt192.no p256
                        have w259 := o257.own (l := ([x0.Char] : List Int)) (Reps.int (I := I185) (k := .u8) (l := [x0.Char]))
                        have fw259 := some_nw (M := No) (Nat.le_trans pt192.size hc255)
                        have f261 := o129.post p174 (fun x => x.elim)
                        have f262 := f261.post p186 (fun x => x.elim)
                        have d263 := some_ne (ne_new f262.lt hc255)
                        have f264 := w177.post p174.bd p186 (fun _ x => x.elim) (fun _ _ x => x.elim)
                        have d265 := some_notIn (notIn_new f264.lt hc255)
                        have d266 := some_notIn (notIn_new r190.lt hc255)
                        have hK267 := Keep.post (M := No) hK197 (Nat.le_trans (Nat.le_trans (Nat.le_refl _) p174.size) p186.size) p256 (fun _ x => x.elim)
                        refine ⟨hK267, ?_⟩
                        have f268 := w177.post p174.bd p186 (fun _ x => x.elim) (fun _ _ x => x.elim)
                        have f269 := f268.post p186.bd p256 (fun _ x => x.elim) (fun _ _ x => x.elim)
                        have f270 := r190.post p186.bd p256 (fun _ x => x.elim) (fun _ _ x => x.elim)
                        obtain ⟨l271, m272, H⟩ := bind_some H
                        refine awp_op 5 (by kernel_rfl) rfl (by kernel_rfl) (owp_app (e := 5) (bytes := 1) (tInt .u8) (by kernel_rfl) (elemOk_of (by kernel_rfl)) rfl rfl p256.bd p256.bd f269 f269.notI (f270.toSl) m272 (by kernel_rfl) (by kernel_rfl) ?_)
                        intro a273 c274 h275 p276 o277 fr278
                        have pt279 := pt258.own p276 fw177
                        have fr281 := nw_step (M := No) (n := h.size) fw177 fr278 pt258.size
                        have f282 := o129.post p174 (fun x => x.elim)
                        have f283 := f282.post p186 (fun x => x.elim)
                        have f284 := f283.post p256 (fun x => x.elim)
                        have d285 := step_blk fr278 f284.lt d179
                        have d286 := step_sl fr278 f270.lt d196
                        have d287 := step_sl fr278 w259.lt d265
                        have hK288 := Keep.post (M := No) hK267 (Nat.le_trans (Nat.le_trans (Nat.le_trans (Nat.le_refl _) p174.size) p186.size) p256.size) p276 (some_nw (Nat.le_trans (Nat.le_refl _) hc173))
                        refine ⟨hK288, ?_⟩
                        have f289 := w259.post p256.bd p276 f269.notI d265
                        obtain ⟨l290, m291, H⟩ := bind_some H
                        refine awp_op 9 (by kernel_rfl) rfl (by kernel_rfl) (owp_app (e := 5) (bytes := 1) (tInt .u8) (by kernel_rfl) (elemOk_of (by kernel_rfl)) rfl rfl p276.bd p276.bd o277 o277.notI (f289.toSl) m291 (by kernel_rfl) (by kernel_rfl) ?_)
                        intro a292 c293 h294 p295 o296 fr297
                        have pt298 := pt279.own p295 fr281
                        have fr300 := nw_step (M := No) (n := h.size) fr281 fr297 pt279.size
                        have f301 := o129.post p174 (fun x => x.elim)
                        have f302 := f301.post p186 (fun x => x.elim)
                        have f303 := f302.post p256 (fun x => x.elim)
                        have f304 := f303.post p276 d179
                        have d305 := step_blk fr297 f304.lt d285
                        have f306 := f270.post p256.bd p276 f269.notI d196
                        have d307 := step_sl fr297 f306.lt (flipD d286)
                        have d308 := step_sl fr297 f289.lt (flipD d287)
                        have hK309 := Keep.post (M := No) hK288 (Nat.le_trans (Nat.le_trans (Nat.le_trans (Nat.le_trans (Nat.le_refl _) p174.size) p186.size) p256.size) p276.size) p295 (nw_step (M := No) (some_nw (Nat.le_trans (Nat.le_refl _) hc173)) fr278 (Nat.le_trans (Nat.le_trans (Nat.le_trans (Nat.le_refl _) p174.size) p186.size) p256.size))
                        refine ⟨hK309, ?_⟩
                        refine awp_run (fuel := 0) [10] hK309 (by kernel_rfl) ?_
                        refine awp_nil (by kernel_rfl) ?_ 0
                        refine cwp_ret ?_
                        obtain rfl := Option.some.inj H
                        show Exists _
                        exact ⟨.slice a292 l290.length c293, by kernel_rfl, I185, a292, c293, rfl, pt298, o296, fr300⟩
                    · refine awpAt_op rfl (by kernel_rfl) (owp_buildSlice (e := 5) [.int .u8 x0.Char] 1 (.int .u8 0) p174.bd (by kernel_rfl) (by kernel_rfl) (by kernel_rfl) (by kernel_rfl) (by kernel_rfl) ?_)
                      intro b310 h311 hc312 p313 o314
                      have pt315 := pt176.no p313
                      have w316 := o314.own (l := ([x0.Char] : List Int)) (Reps.int (I := I125) (k := .u8) (l := [x0.Char]))
                      have fw316 := some_nw (M := No) (Nat.le_trans pt176.size hc312)
                      have f318 := o129.post p174 (fun x => x.elim)
                      have d319 := some_ne (ne_new f318.lt hc312)
                      have d320 := some_notIn (notIn_new w177.lt hc312)
                      have hK321 := Keep.post (M := No) hK180 (Nat.le_trans (Nat.le_refl _) p174.size) p313 (fun _ x => x.elim)
                      refine ⟨hK321, ?_⟩
                      obtain ⟨t322, m323, H⟩ := bind_some H
                      refine awp_op 4 (by kernel_rfl) rfl (by kernel_rfl) (owp_callF (by kernel_rfl) (shutterref04_Put.calls (I := I125) p313.bd m323) ?_)
                      rintro v324 h325 ⟨I326, a328, c329, rfl, p327, r331, fr332⟩
                      have pt333 := pt315.no p327
                      have fr334 := nw_step (M := No) (n := h.size) (fun _ x => x.elim) fr332 pt315.size
                      have f335 := o129.post p174 (fun x => x.elim)
                      have f336 := f335.post p313 (fun x => x.elim)
                      have d337 := step_blk fr332 f336.lt (fun x => x.elim)
                      have f338 := w177.post p174.bd p313 (fun _ x => x.elim) (fun _ _ x => x.elim)
                      have d339 := step_sl fr332 f338.lt (fun _ _ x => x.elim)
                      have d340 := step_sl fr332 w316.lt (fun _ _ x => x.elim)
                      have hK341 := Keep.post (M := No) hK321 (Nat.le_trans (Nat.le_trans (Nat.le_refl _) p174.size) p313.size) p327 (fun _ x => x.elim)
                      refine ⟨hK341, ?_⟩
                      have f342 := f338.post p313.bd p327 (fun _ x => x.elim) (fun _ _ x => x.elim)
                      obtain ⟨l343, m344, H⟩ := bind_some H
                      refine awp_op 5 (by kernel_rfl) rfl (by kernel_rfl) (owp_app (e := 5) (bytes := 1) (tInt .u8) (by kernel_rfl) (elemOk_of (by kernel_rfl)) rfl rfl p327.bd p327.bd f342 f342.notI (r331.toSl) m344 (by kernel_rfl) (by kernel_rfl) ?_)
                      intro a345 c346 h347 p348 o349 fr350
                      have pt351 := pt333.own p348 fw177
                      have fr353 := nw_step (M := No) (n := h.size) fw177 fr350 pt333.size
                      have f354 := o129.post p174 (fun x => x.elim)
                      have f355 := f354.post p313 (fun x => x.elim)
                      have f356 := f355.post p327 (fun x => x.elim)
                      have d357 := step_blk fr350 f356.lt d179
                      have f358 := w316.post p313.bd p327 (fun _ x => x.elim) (fun _ _ x => x.elim)
                      have d359 := step_sl fr350 f358.lt d320
                      have d360 := step_sl fr350 r331.lt d339
                      have hK361 := Keep.post (M := No) hK341 (Nat.le_trans (Nat.le_trans (Nat.le_trans (Nat.le_refl _) p174.size) p313.size) p327.size) p348 (some_nw (Nat.le_trans (Nat.le_refl _) hc173))
                      refine ⟨hK361, ?_⟩
                      have f362 := w316.post p313.bd p327 (fun _ x => x.elim) (fun _ _ x => x.elim)
                      have f363 := f362.post p327.bd p348 f342.notI d320
                      obtain ⟨l364, m365, H⟩ := bind_some H
                      refine awp_op 9 (by kernel_rfl) rfl (by kernel_rfl) (owp_app (e := 5) (bytes := 1) (tInt .u8) (by kernel_rfl) (elemOk_of (by kernel_rfl)) rfl rfl p348.bd p348.bd o349 o349.notI (f363.toSl) m365 (by kernel_rfl) (by kernel_rfl) ?_)
                      intro a366 c367 h368 p369 o370 fr371
                      have pt372 := pt351.own p369 fr353
                      have fr374 := nw_step (M := No) (n := h.size) fr353 fr371 pt351.size
                      have f375 := o129.post p174 (fun x => x.elim)
                      have f376 := f375.post p313 (fun x => x.elim)
                      have f377 := f376.post p327 (fun x => x.elim)
                      have f378 := f377.post p348 d179
                      have d379 := step_blk fr371 f378.lt d357
                      have d380 := step_sl fr371 f363.lt (flipD d359)
                      have f381 := r331.post p327.bd p348 f342.notI d339
                      have d382 := step_sl fr371 f381.lt (flipD d360)
                      have hK383 := Keep.post (M := No) hK361 (Nat.le_trans (Nat.le_trans (Nat.le_trans (Nat.le_trans (Nat.le_refl _) p174.size) p313.size) p327.size) p348.size) p369 (nw_step (M := No) (some_nw (Nat.le_trans (Nat.le_refl _) hc173)) fr350 (Nat.le_trans (Nat.le_trans (Nat.le_trans (Nat.le_refl _) p174.size) p313.size) p327.size))
                      refine ⟨hK383, ?_⟩
                      refine awp_run (fuel := 0) [10] hK383 (by kernel_rfl) ?_
                      refine awp_nil (by kernel_rfl) ?_ 0
                      refine cwp_ret ?_
                      obtain rfl := Option.some.inj H
                      show Exists _
                      exact ⟨.slice a366 l364.length c367, by kernel_rfl, I326, a366, c367, rfl, pt372, o370, fr374⟩
                  · obtain ⟨t384, m385, H⟩ := bind_some H
                    refine awpAt_op rfl (by kernel_rfl) (owp_callF (by kernel_rfl) (shutterref04_Put.calls (I := I125) pt126.bd m385) ?_)
                    rintro v386 h387 ⟨I388, a390, c391, rfl, p389, r393, fr394⟩
                    have pt395 := pt126.no p389
                    have fr396 := nw_step (M := No) (n := h.size) (fun _ x => x.elim) fr394 pt126.size
                    have d397 := step_blk fr394 o129.lt (fun x => x.elim)
                    have hK398 := Keep.post (M := No) Keep.refl (Nat.le_refl _) p389 (fun _ x => x.elim)
                    refine ⟨hK398, ?_⟩
                    refine awp_two 0 8 (by kernel_rfl) ?_ ?_
                    · refine awpAt_op rfl (by kernel_rfl) (owp_buildSlice (e := 5) [.int .u8 60] 1 (.int .u8 0) p389.bd (by kernel_rfl) (by kernel_rfl) (by kernel_rfl) (by kernel_rfl) (by kernel_rfl) ?_)
                      intro b399 h400 hc401 p402 o403
                      have pt404 := pt395.no p402
                      have w405 := o403.own (l := ([60] : List Int)) (Reps.int (I := I388) (k := .u8) (l := [60]))
                      have fw405 := some_nw (M := No) (Nat.le_trans pt395.size hc401)
                      have f407 := o129.post p389 (fun x => x.elim)
                      have d408 := some_ne (ne_new f407.lt hc401)
                      have d409 := some_notIn (notIn_new r393.lt hc401)
                      have hK410 := Keep.post (M := No) hK398 (Nat.le_trans (Nat.le_refl _) p389.size) p402 (fun _ x => x.elim)
                      refine ⟨hK410, ?_⟩
                      refine awp_two 5 8 (by kernel_rfl) ?_ ?_
                      · have f411 := r393.post p389.bd p402 (fun _ x => x.elim) (fun _ _ x => x.elim)
                        obtain ⟨l412, m413, H⟩ := bind_some H
                        refine awpAt_op rfl (by kernel_rfl) (owp_app (e := 5) (bytes := 1) (tInt .u8) (by kernel_rfl) (elemOk_of (by kernel_rfl)) rfl rfl p402.bd p402.bd w405 w405.notI (f411.toSl) m413 (by kernel_rfl) (by kernel_rfl) ?_)
                        intro a414 c415 h416 p417 o418 fr419
                        have pt420 := pt404.own p417 fw405
                        have fr422 := nw_step (M := No) (n := h.size) fw405 fr419 pt404.size
                        have f423 := o129.post p389 (fun x => x.elim)
                        have f424 := f423.post p402 (fun x => x.elim)
                        have d425 := step_blk fr419 f424.lt d408
                        have d426 := step_sl fr419 f411.lt (flipD d409)
                        have hK427 := Keep.post (M := No) hK410 (Nat.le_trans (Nat.le_trans (Nat.le_refl _) p389.size) p402.size) p417 (some_nw (Nat.le_trans (Nat.le_trans (Nat.le_refl _) p389.size) hc401))
                        refine ⟨hK427, ?_⟩
                        refine awp_op 8 (by kernel_rfl) rfl (by kernel_rfl) (owp_buildSlice (e := 5) [.int .u8 x0.Char] 1 (.int .u8 0) p417.bd (by kernel_rfl) (by kernel_rfl) (by kernel_rfl) (by kernel_rfl) (by kernel_rfl) ?_)
                        intro b428 h429 hc430 p431 o432
                        have pt433 := pt420.no p431
                        have w434 := o432.own (l := ([x0.Char] : List Int)) (Reps.int (I := I388) (k := .u8) (l := [x0.Char]))
                        have fw434 := some_nw (M := No) (Nat.le_trans pt420.size hc430)
                        have f436 := o129.post p389 (fun x => x.elim)
                        have f437 := f436.post p402 (fun x => x.elim)
                        have f438 := f437.post p417 d408
                        have d439 := some_ne (ne_new f438.lt hc430)
                        have f440 := f411.post p402.bd p417 w405.notI (flipD d409)
                        have d441 := some_notIn (notIn_new f440.lt hc430)
                        have d442 := some_notIn (notIn_new o418.lt hc430)
                        have hK443 := Keep.post (M := No) hK427 (Nat.le_trans (Nat.le_trans (Nat.le_trans (Nat.le_refl _) p389.size) p402.size) p417.size) p431 (fun _ x => x.elim)
                        refine ⟨hK443, ?_⟩
                        have f444 := o418.post p417.bd p431 (fun _ x => x.elim) (fun _ _ x => x.elim)
                        obtain ⟨l445, m446, H⟩ := bind_some H
                        refine awp_op 9 (by kernel_rfl) rfl (by kernel_rfl) (owp_app (e := 5) (bytes := 1) (tInt .u8) (by kernel_rfl) (elemOk_of (by kernel_rfl)) rfl rfl p431.bd p431.bd f444 f444.notI (w434.toSl) m446 (by kernel_rfl) (by kernel_rfl) ?_)
                        intro a447 c448 h449 p450 o451 fr452
                        have pt453 := pt433.own p450 fr422
                        have fr455 := nw_step (M := No) (n := h.size) fr422 fr452 pt433.size
                        have f456 := o129.post p389 (fun x => x.elim)
                        have f457 := f456.post p402 (fun x => x.elim)
                        have f458 := f457.post p417 d408
                        have f459 := f458.post p431 (fun x => x.elim)
                        have d460 := step_blk fr452 f459.lt d425
                        have f461 := f411.post p402.bd p417 w405.notI (flipD d409)
                        have f462 := f461.post p417.bd p431 (fun _ x => x.elim) (fun _ _ x => x.elim)
                        have d463 := step_sl fr452 f462.lt (flipD d426)
                        have d464 := step_sl fr452 w434.lt d442
                        have hK465 := Keep.post (M := No) hK443 (Nat.le_trans (Nat.le_trans (Nat.le_trans (Nat.le_trans (Nat.le_refl _) p389.size) p402.size) p417.size) p431.size) p450 (nw_step (M := No) (some_nw (Nat.le_trans (Nat.le_trans (Nat.le_refl _) p389.size) hc401)) fr419 (Nat.le_trans (Nat.le_trans (Nat.le_refl _) p389.size) p402.size))
                        refine ⟨hK465, ?_⟩
                        refine awp_run (fuel := 0) [10] hK465 (by kernel_rfl) ?_
                        refine awp_nil (by kernel_rfl) ?_ 0
                        refine cwp_ret ?_
                        obtain rfl := Option.some.inj H
                        show Exists _
                        exact ⟨.slice a447 l445.length c448, by kernel_rfl, I388, a447, c448, rfl, pt453, o451, fr455⟩
                      · refine awpAt_op rfl (by kernel_rfl) (owp_buildSlice (e := 5) [.int .u8 x0.Char] 1 (.int .u8 0) p402.bd (by kernel_rfl) (by kernel_rfl) (by kernel_rfl) (by kernel_rfl) (by kernel_rfl) ?_)
                        intro b466 h467 hc468 p469 o470
                        have pt471 := pt404.no p469
                        have w472 := o470.own (l := ([x0.Char] : List Int)) (Reps.int (I := I388) (k := .u8) (l := [x0.Char]))
                        have fw472 := some_nw (M := No) (Nat.le_trans pt404.size hc468)
                        have f474 := o129.post p389 (fun x => x.elim)
                        have f475 := f474.post p402 (fun x => x.elim)
                        have d476 := some_ne (ne_new f475.lt hc468)
                        have f477 := r393.post p389.bd p402 (fun _ x => x.elim) (fun _ _ x => x.elim)
                        have d478 := some_notIn (notIn_new f477.lt hc468)
                        have d479 := some_notIn (notIn_new w405.lt hc468)
                        have hK480 := Keep.post (M := No) hK410 (Nat.le_trans (Nat.le_trans (Nat.le_refl _) p389.size) p402.size) p469 (fun _ x => x.elim)
                        refine ⟨hK480, ?_⟩
                        have f481 := w405.post p402.bd p469 (fun _ x => x.elim) (fun _ _ x => x.elim)
                        have f482 := r393.post p389.bd p402 (fun _ x => x.elim) (fun _ _ x => x.elim)
                        have f483 := f482.post p402.bd p469 (fun _ x => x.elim) (fun _ _ x => x.elim)
                        obtain ⟨l484, m485, H⟩ := bind_some H
                        refine awp_op 5 (by kernel_rfl) rfl (by kernel_rfl) (owp_app (e := 5) (bytes := 1) (tInt .u8) (by kernel_rfl) (elemOk_of (by kernel_rfl)) rfl rfl p469.bd p469.bd f481 f481.notI (f483.toSl) m485 (by kernel_rfl) (by kernel_rfl) ?_)
                        intro a486 c487 h488 p489 o490 fr491
                        have pt492 := pt471.own p489 fw405
                        have fr494 := nw_step (M := No) (n := h.size) fw405 fr491 pt471.size
                        have f495 := o129.post p389 (fun x => x.elim)
                        have f496 := f495.post p402 (fun x => x.elim)
                        have f497 := f496.post p469 (fun x => x.elim)
                        have d498 := step_blk fr491 f497.lt d408
                        have d499 := step_sl fr491 f483.lt (flipD d409)
                        have d500 := step_sl fr491 w472.lt d479
                        have hK501 := Keep.post (M := No) hK480 (Nat.le_trans (Nat.le_trans (Nat.le_trans (Nat.le_refl _) p389.size) p402.size) p469.size) p489 (some_nw (Nat.le_trans (Nat.le_trans (Nat.le_refl _) p389.size) hc401))
                        refine ⟨hK501, ?_⟩
                        have f502 := w472.post p469.bd p489 f481.notI d479
                        obtain ⟨l503, m504, H⟩ := bind_some H
                        refine awp_op 9 (by kernel_rfl) rfl (by kernel_rfl) (owp_app (e := 5) (bytes := 1) (tInt .u8) (by kernel_rfl) (elemOk_of (by kernel_rfl)) rfl rfl p489.bd p489.bd o490 o490.notI (f502.toSl) m504 (by kernel_rfl) (by kernel_rfl) ?_)
                        intro a505 c506 h507 p508 o509 fr510
                        have pt511 := pt492.own p508 fr494
                        have fr513 := nw_step (M := No) (n := h.size) fr494 fr510 pt492.size
                        have f514 := o129.post p389 (fun x => x.elim)
                        have f515 := f514.post p402 (fun x => x.elim)
                        have f516 := f515.post p469 (fun x => x.elim)
                        have f517 := f516.post p489 d408
                        have d518 := step_blk fr510 f517.lt d498
                        have f519 := f483.post p469.bd p489 f481.notI (flipD d409)
                        have d520 := step_sl fr510 f519.lt (flipD d499)
                        have d521 := step_sl fr510 f502.lt (flipD d500)
                        have hK522 := Keep.post (M := No) hK501 (Nat.le_trans (Nat.le_trans (Nat.le_trans (Nat.le_trans (Nat.le_refl _) p389.size) p402.size) p469.size) p489.size) p508 (nw_step (M := No) (some_nw (Nat.le_trans (Nat.le_trans (Nat.le_refl _) p389.size) hc401)) fr491 (Nat.le_trans (Nat.le_trans (Nat.le_trans (Nat.le_refl _) p389.size) p402.size) p469.size))
                        refine ⟨hK522, ?_⟩
                        refine awp_run (fuel := 0) [10] hK522 (by kernel_rfl) ?_
                        refine awp_nil (by kernel_rfl) ?_ 0
                        refine cwp_ret ?_
                        obtain rfl := Option.some.inj H
                        show Exists _
                        exact ⟨.slice a505 l503.length c506, by kernel_rfl, I388, a505, c506, rfl, pt511, o509, fr513⟩
                    · refine awpAt_op rfl (by kernel_rfl) (owp_buildSlice (e := 5) [.int .u8 x0.Char] 1 (.int .u8 0) p389.bd (by kernel_rfl) (by kernel_rfl) (by kernel_rfl) (by kernel_rfl) (by kernel_rfl) ?_)
                      intro b523 h524 hc525 p526 o527
                      have pt528 := pt395.no p526
                      have w529 := o527.own (l := ([x0.Char] : List Int)) (Reps.int (I := I388) (k := .u8) (l := [x0.Char]))
                      have fw529 := some_nw (M := No) (Nat.le_trans pt395.size hc525)
                      have f531 := o129.post p389 (fun x => x.elim)
                      have d532 := some_ne (ne_new f531.lt hc525)
                      have d533 := some_notIn (notIn_new r393.lt hc525)
                      have hK534 := Keep.post (M := No) hK398 (Nat.le_trans (Nat.le_refl _) p389.size) p526 (fun _ x => x.elim)
                      refine ⟨hK534, ?_⟩
                      refine awp_op 0 (by kernel_rfl) rfl (by kernel_rfl) (owp_buildSlice (e := 5) [.int .u8 60] 1 (.int .u8 0) p526.bd (by kernel_rfl) (by kernel_rfl) (by kernel_rfl) (by kernel_rfl) (by kernel_rfl) ?_)
                      intro b535 h536 hc537 p538 o539
                      have pt540 := pt528.no p538
                      have w541 := o539.own (l := ([60] : List Int)) (Reps.int (I := I388) (k := .u8) (l := [60]))
                      have fw541 := some_nw (M := No) (Nat.le_trans pt528.size hc537)
                      have f543 := o129.post p389 (fun x => x.elim)
                      have f544 := f543.post p526 (fun x => x.elim)
                      have d545 := some_ne (ne_new f544.lt hc537)
                      have f546 := r393.post p389.bd p526 (fun _ x => x.elim) (fun _ _ x => x.elim)
                      have d547 := some_notIn (notIn_new f546.lt hc537)
                      have d548 := some_notIn (notIn_new w529.lt hc537)
                      have hK549 := Keep.post (M := No) hK534 (Nat.le_trans (Nat.le_trans (Nat.le_refl _) p389.size) p526.size) p538 (fun _ x => x.elim)
                      refine ⟨hK549, ?_⟩
                      have f550 := r393.post p389.bd p526 (fun _ x => x.elim) (fun _ _ x => x.elim)
                      have f551 := f550.post p526.bd p538 (fun _ x => x.elim) (fun _ _ x => x.elim)
                      obtain ⟨l552, m553, H⟩ := bind_some H
                      refine awp_op 5 (by kernel_rfl) rfl (by kernel_rfl) (owp_app (e := 5) (bytes := 1) (tInt .u8) (by kernel_rfl) (elemOk_of (by kernel_rfl)) rfl rfl p538.bd p538.bd w541 w541.notI (f551.toSl) m553 (by kernel_rfl) (by kernel_rfl) ?_)
                      intro a554 c555 h556 p557 o558 fr559
                      have pt560 := pt540.own p557 fw541
                      have fr562 := nw_step (M := No) (n := h.size) fw541 fr559 pt540.size
                      have f563 := o129.post p389 (fun x => x.elim)
                      have f564 := f563.post p526 (fun x => x.elim)
                      have f565 := f564.post p538 (fun x => x.elim)
                      have d566 := step_blk fr559 f565.lt d545
                      have d567 := step_sl fr559 f551.lt (flipD d547)
                      have f568 := w529.post p526.bd p538 (fun _ x => x.elim) (fun _ _ x => x.elim)
                      have d569 := step_sl fr559 f568.lt (flipD d548)
                      have hK570 := Keep.post (M := No) hK549 (Nat.le_trans (Nat.le_trans (Nat.le_trans (Nat.le_refl _) p389.size) p526.size) p538.size) p557 (some_nw (Nat.le_trans (Nat.le_trans (Nat.le_trans (Nat.le_refl _) p389.size) p526.size) hc537))
                      refine ⟨hK570, ?_⟩
                      have f571 := w529.post p526.bd p538 (fun _ x => x.elim) (fun _ _ x => x.elim)
                      have f572 := f571.post p538.bd p557 w541.notI (flipD d548)
                      obtain ⟨l573, m574, H⟩ := bind_some H
                      refine awp_op 9 (by kernel_rfl) rfl (by kernel_rfl) (owp_app (e := 5) (bytes := 1) (tInt .u8) (by kernel_rfl) (elemOk_of (by kernel_rfl)) rfl rfl p557.bd p557.bd o558 o558.notI (f572.toSl) m574 (by kernel_rfl) (by kernel_rfl) ?_)
                      intro a575 c576 h577 p578 o579 fr580
                      have pt581 := pt560.own p578 fr562
                      have fr583 := nw_step (M := No) (n := h.size) fr562 fr580 pt560.size
                      have f584 := o129.post p389 (fun x => x.elim)
                      have f585 := f584.post p526 (fun x => x.elim)
                      have f586 := f585.post p538 (fun x => x.elim)
                      have f587 := f586.post p557 d545
                      have d588 := step_blk fr580 f587.lt d566
                      have f589 := f551.post p538.bd p557 w541.notI (flipD d547)
                      have d590 := step_sl fr580 f589.lt (flipD d567)
                      have d591 := step_sl fr580 f572.lt (flipD d569)
                      have hK592 := Keep.post (M := No) hK570 (Nat.le_trans (Nat.le_trans (Nat.le_trans (Nat.le_trans (Nat.le_refl _) p389.size) p526.size) p538.size) p557.size) p578 (nw_step (M := No) (some_nw (Nat.le_trans (Nat.le_trans (Nat.le_trans (Nat.le_refl _) p389.size) p526.size) hc537)) fr559 (Nat.le_trans (Nat.le_trans (Nat.le_trans (Nat.le_refl _) p389.size) p526.size) p538.size))
                      refine ⟨hK592, ?_⟩
                      refine awp_run (fuel := 0) [10] hK592 (by kernel_rfl) ?_
                      refine awp_nil (by kernel_rfl) ?_ 0
                      refine cwp_ret ?_
                      obtain rfl := Option.some.inj H
                      show Exists _
                      exact ⟨.slice a575 l573.length c576, by kernel_rfl, I388, a575, c576, rfl, pt581, o579, fr583⟩
                  · refine awpAt_op rfl (by kernel_rfl) (owp_buildSlice (e := 5) [.int .u8 x0.Char] 1 (.int .u8 0) pt126.bd (by kernel_rfl) (by kernel_rfl) (by kernel_rfl) (by kernel_rfl) (by kernel_rfl) ?_)
                    intro b593 h594 hc595 p596 o597
                    have pt598 := pt126.no p596
                    have w599 := o597.own (l := ([x0.Char] : List Int)) (Reps.int (I := I125) (k := .u8) (l := [x0.Char]))
                    have fw599 := some_nw (M := No) (Nat.le_trans pt126.size hc595)
                    have d601 := some_ne (ne_new o129.lt hc595)
                    have hK602 := Keep.post (M := No) Keep.refl (Nat.le_refl _) p596 (fun _ x => x.elim)
                    refine ⟨hK602, ?_⟩
                    refine awp_two 0 4 (by kernel_rfl) ?_ ?_
                    · refine awpAt_op rfl (by kernel_rfl) (owp_buildSlice (e := 5) [.int .u8 60] 1 (.int .u8 0) p596.bd (by kernel_rfl) (by kernel_rfl) (by kernel_rfl) (by kernel_rfl) (by kernel_rfl) ?_)
                      intro b603 h604 hc605 p606 o607
                      have pt608 := pt598.no p606
                      have w609 := o607.own (l := ([60] : List Int)) (Reps.int (I := I125) (k := .u8) (l := [60]))
                      have fw609 := some_nw (M := No) (Nat.le_trans pt598.size hc605)
                      have f611 := o129.post p596 (fun x => x.elim)
                      have d612 := some_ne (ne_new f611.lt hc605)
                      have d613 := some_notIn (notIn_new w599.lt hc605)
                      have hK614 := Keep.post (M := No) hK602 (Nat.le_trans (Nat.le_refl _) p596.size) p606 (fun _ x => x.elim)
                      refine ⟨hK614, ?_⟩
                      obtain ⟨t615, m616, H⟩ := bind_some H
                      refine awp_op 4 (by kernel_rfl) rfl (by kernel_rfl) (owp_callF (by kernel_rfl) (shutterref04_Put.calls (I := I125) p606.bd m616) ?_)
                      rintro v617 h618 ⟨I619, a621, c622, rfl, p620, r624, fr625⟩
                      have pt626 := pt608.no p620
                      have fr627 := nw_step (M := No) (n := h.size) (fun _ x => x.elim) fr625 pt608.size
                      have f628 := o129.post p596 (fun x => x.elim)
                      have f629 := f628.post p606 (fun x => x.elim)
                      have d630 := step_blk fr625 f629.lt (fun x => x.elim)
                      have f631 := w599.post p596.bd p606 (fun _ x => x.elim) (fun _ _ x => x.elim)
                      have d632 := step_sl fr625 f631.lt (fun _ _ x => x.elim)
                      have d633 := step_sl fr625 w609.lt (fun _ _ x => x.elim)
                      have hK634 := Keep.post (M := No) hK614 (Nat.le_trans (Nat.le_trans (Nat.le_refl _) p596.size) p606.size) p620 (fun _ x => x.elim)
                      refine ⟨hK634, ?_⟩
                      have f635 := w609.post p606.bd p620 (fun _ x => x.elim) (fun _ _ x => x.elim)
                      obtain ⟨l636, m637, H⟩ := bind_some H
                      refine awp_op 5 (by kernel_rfl) rfl (by kernel_rfl) (owp_app (e := 5) (bytes := 1) (tInt .u8) (by kernel_rfl) (elemOk_of (by kernel_rfl)) rfl rfl p620.bd p620.bd f635 f635.notI (r624.toSl) m637 (by kernel_rfl) (by kernel_rfl) ?_)
                      intro a638 c639 h640 p641 o642 fr643
                      have pt644 := pt626.own p641 fw609
                      have fr646 := nw_step (M := No) (n := h.size) fw609 fr643 pt626.size
                      have f647 := o129.post p596 (fun x => x.elim)
                      have f648 := f647.post p606 (fun x => x.elim)
                      have f649 := f648.post p620 (fun x => x.elim)
                      have d650 := step_blk fr643 f649.lt d612
                      have f651 := f631.post p606.bd p620 (fun _ x => x.elim) (fun _ _ x => x.elim)
                      have d652 := step_sl fr643 f651.lt (flipD d613)
                      have d653 := step_sl fr643 r624.lt d633
                      have hK654 := Keep.post (M := No) hK634 (Nat.le_trans (Nat.le_trans (Nat.le_trans (Nat.le_refl _) p596.size) p606.size) p620.size) p641 (some_nw (Nat.le_trans (Nat.le_trans (Nat.le_refl _) p596.size) hc605))
                      refine ⟨hK654, ?_⟩
                      have f655 := f631.post p606.bd p620 (fun _ x => x.elim) (fun _ _ x => x.elim)
                      have f656 := f655.post p620.bd p641 f635.notI (flipD d613)
                      obtain ⟨l657, m658, H⟩ := bind_some H
                      refine awp_op 9 (by kernel_rfl) rfl (by kernel_rfl) (owp_app (e := 5) (bytes := 1) (tInt .u8) (by kernel_rfl) (elemOk_of (by kernel_rfl)) rfl rfl p641.bd p641.bd o642 o642.notI (f656.toSl) m658 (by kernel_rfl) (by kernel_rfl) ?_)
                      intro a659 c660 h661 p662 o663 fr664
                      have pt665 := pt644.own p662 fr646
                      have fr667 := nw_step (M := No) (n := h.size) fr646 fr664 pt644.size
                      have f668 := o129.post p596 (fun x => x.elim)
                      have f669 := f668.post p606 (fun x => x.elim)
                      have f670 := f669.post p620 (fun x => x.elim)
                      have f671 := f670.post p641 d612
                      have d672 := step_blk fr664 f671.lt d650
                      have d673 := step_sl fr664 f656.lt (flipD d652)
                      have f674 := r624.post p620.bd p641 f635.notI d633
                      have d675 := step_sl fr664 f674.lt (flipD d653)
                      have hK676 := Keep.post (M := No) hK654 (Nat.le_trans (Nat.le_trans (Nat.le_trans (Nat.le_trans (Nat.le_refl _) p596.size) p606.size) p620.size) p641.size) p662 (nw_step (M := No) (some_nw (Nat.le_trans (Nat.le_trans (Nat.le_refl _) p596.size) hc605)) fr643 (Nat.le_trans (Nat.le_trans (Nat.le_trans (Nat.le_refl _) p596.size) p606.size) p620.size))
                      refine ⟨hK676, ?_⟩
                      refine awp_run (fuel := 0) [10] hK676 (by kernel_rfl) ?_
                      refine awp_nil (by kernel_rfl) ?_ 0
                      refine cwp_ret ?_
                      obtain rfl := Option.some.inj H
                      show Exists _
                      exact ⟨.slice a659 l657.length c660, by kernel_rfl, I619, a659, c660, rfl, pt665, o663, fr667⟩
                    · obtain ⟨t677, m678, H⟩ := bind_some H
                      refine awpAt_op rfl (by kernel_rfl) (owp_callF (by kernel_rfl) (shutterref04_Put.calls (I := I125) p596.bd m678) ?_)
                      rintro v679 h680 ⟨I681, a683, c684, rfl, p682, r686, fr687⟩
                      have pt688 := pt598.no p682
                      have fr689 := nw_step (M := No) (n := h.size) (fun _ x => x.elim) fr687 pt598.size
                      have f690 := o129.post p596 (fun x => x.elim)
                      have d691 := step_blk fr687 f690.lt (fun x => x.elim)
                      have d692 := step_sl fr687 w599.lt (fun _ _ x => x.elim)
                      have hK693 := Keep.post (M := No) hK602 (Nat.le_trans (Nat.le_refl _) p596.size) p682 (fun _ x => x.elim)
                      refine ⟨hK693, ?_⟩
                      refine awp_op 0 (by kernel_rfl) rfl (by kernel_rfl) (owp_buildSlice (e := 5) [.int .u8 60] 1 (.int .u8 0) p682.bd (by kernel_rfl) (by kernel_rfl) (by kernel_rfl) (by kernel_rfl) (by kernel_rfl) ?_)
                      intro b694 h695 hc696 p697 o698
                      have pt699 := pt688.no p697
                      have w700 := o698.own (l := ([60] : List Int)) (Reps.int (I := I681) (k := .u8) (l := [60]))
                      have fw700 := some_nw (M := No) (Nat.le_trans pt688.size hc696)
                      have f702 := o129.post p596 (fun x => x.elim)
                      have f703 := f702.post p682 (fun x => x.elim)
                      have d704 := some_ne (ne_new f703.lt hc696)
                      have f705 := w599.post p596.bd p682 (fun _ x => x.elim) (fun _ _ x => x.elim)
                      have d706 := some_notIn (notIn_new f705.lt hc696)
                      have d707 := some_notIn (notIn_new r686.lt hc696)
                      have hK708 := Keep.post (M := No) hK693 (Nat.le_trans (Nat.le_trans (Nat.le_refl _) p596.size) p682.size) p697 (fun _ x => x.elim)
                      refine ⟨hK708, ?_⟩
                      have f709 := r686.post p682.bd p697 (fun _ x => x.elim) (fun _ _ x => x.elim)
                      obtain ⟨l710, m711, H⟩ := bind_some H
                      refine awp_op 5 (by kernel_rfl) rfl (by kernel_rfl) (owp_app (e := 5) (bytes := 1) (tInt .u8) (by kernel_rfl) (elemOk_of (by kernel_rfl)) rfl rfl p697.bd p697.bd w700 w700.notI (f709.toSl) m711 (by kernel_rfl) (by kernel_rfl) ?_)
                      intro a712 c713 h714 p715 o716 fr717
                      have pt718 := pt699.own p715 fw700
                      have fr720 := nw_step (M := No) (n := h.size) fw700 fr717 pt699.size
                      have f721 := o129.post p596 (fun x => x.elim)
                      have f722 := f721.post p682 (fun x => x.elim)
                      have f723 := f722.post p697 (fun x => x.elim)
                      have d724 := step_blk fr717 f723.lt d704
                      have f725 := w599.post p596.bd p682 (fun _ x => x.elim) (fun _ _ x => x.elim)
                      have f726 := f725.post p682.bd p697 (fun _ x => x.elim) (fun _ _ x => x.elim)
                      have d727 := step_sl fr717 f726.lt (flipD d706)
                      have d728 := step_sl fr717 f709.lt (flipD d707)
                      have hK729 := Keep.post (M := No) hK708 (Nat.le_trans (Nat.le_trans (Nat.le_trans (Nat.le_refl _) p596.size) p682.size) p697.size) p715 (some_nw (Nat.le_trans (Nat.le_trans (Nat.le_trans (Nat.le_refl _) p596.size) p682.size) hc696))
                      refine ⟨hK729, ?_⟩
                      have f730 := w599.post p596.bd p682 (fun _ x => x.elim) (fun _ _ x => x.elim)
                      have f731 := f730.post p682.bd p697 (fun _ x => x.elim) (fun _ _ x => x.elim)
                      have f732 := f731.post p697.bd p715 w700.notI (flipD d706)
                      obtain ⟨l733, m734, H⟩ := bind_some H
                      refine awp_op 9 (by kernel_rfl) rfl (by kernel_rfl) (owp_app (e := 5) (bytes := 1) (tInt .u8) (by kernel_rfl) (elemOk_of (by kernel_rfl)) rfl rfl p715.bd p715.bd o716 o716.notI (f732.toSl) m734 (by kernel_rfl) (by kernel_rfl) ?_)
                      intro a735 c736 h737 p738 o739 fr740
                      have pt741 := pt718.own p738 fr720
                      have fr743 := nw_step (M := No) (n := h.size) fr720 fr740 pt718.size
                      have f744 := o129.post p596 (fun x => x.elim)
                      have f745 := f744.post p682 (fun x => x.elim)
                      have f746 := f745.post p697 (fun x => x.elim)
                      have f747 := f746.post p715 d704
                      have d748 := step_blk fr740 f747.lt d724
                      have d749 := step_sl fr740 f732.lt (flipD d727)
                      have f750 := f709.post p697.bd p715 w700.notI (flipD d707)
                      have d751 := step_sl fr740 f750.lt (flipD d728)
                      have hK752 := Keep.post (M := No) hK729 (Nat.le_trans (Nat.le_trans (Nat.le_trans (Nat.le_trans (Nat.le_refl _) p596.size) p682.size) p697.size) p715.size) p738 (nw_step (M := No) (some_nw (Nat.le_trans (Nat.le_trans (Nat.le_trans (Nat.le_refl _) p596.size) p682.size) hc696)) fr717 (Nat.le_trans (Nat.le_trans (Nat.le_trans (Nat.le_refl _) p596.size) p682.size) p697.size))
                      refine ⟨hK752, ?_⟩
                      refine awp_run (fuel := 0) [10] hK752 (by kernel_rfl) ?_
                      refine awp_nil (by kernel_rfl) ?_ 0
                      refine cwp_ret ?_
                      obtain rfl := Option.some.inj H
                      show Exists _
                      exact ⟨.slice a735 l733.length c736, by kernel_rfl, I681, a735, c736, rfl, pt741, o739, fr743⟩
                · rw [cond_true] at H
                  refine cwp_true (by kernel_rfl) ?_
                  refine cwp_seq ?_
                  refine cwp_region ?_
                  refine lwp_op (by kernel_rfl) (owp_buildSlice (e := 5) [.int .u8 18] 1 (.int .u8 0) pt126.bd (by kernel_rfl) (by kernel_rfl) (by kernel_rfl) (by kernel_rfl) (by kernel_rfl) ?_)
                  intro b131 h132 hc133 p134 o135
                  have pt136 := pt126.no p134
                  have w137 := o135.own (l := ([18] : List Int)) (Reps.int (I := I125) (k := .u8) (l := [18]))
                  have fw137 := some_nw (M := No) (Nat.le_trans pt126.size hc133)
                  have d139 := some_ne (ne_new o129.lt hc133)
                  refine lwp_run 1 (by kernel_rfl) ?_
                  have f140 := o129.post p134 (fun x => x.elim)
                  refine lwp_op (by kernel_rfl) (owp_load (by kernel_rfl) (by kernel_rfl) (f140.cell (off := 6) rfl) ?_)
                  refine lwp_run 1 (by kernel_rfl) ?_
                  obtain ⟨t141, m142, H⟩ := bind_some H
                  refine lwp_op (by kernel_rfl) (owp_callF (by kernel_rfl) (shutterref04_Put.calls (I := I125) p134.bd m142) ?_)
                  rintro v143 h144 ⟨I145, a147, c148, rfl, p146, r150, fr151⟩
                  have pt152 := pt136.no p146
                  have fr153 := nw_step (M := No) (n := h.size) (fun _ x => x.elim) fr151 pt136.size
                  have d154 := step_blk fr151 f140.lt (fun x => x.elim)
                  have d155 := step_sl fr151 w137.lt (fun _ _ x => x.elim)
                  have f156 := w137.post p134.bd p146 (fun _ x => x.elim) (fun _ _ x => x.elim)
                  obtain ⟨l157, m158, H⟩ := bind_some H
                  refine lwp_op (by kernel_rfl) (owp_app (e := 5) (bytes := 1) (tInt .u8) (by kernel_rfl) (elemOk_of (by kernel_rfl)) rfl rfl p146.bd p146.bd f156 f156.notI (r150.toSl) m158 (by kernel_rfl) (by kernel_rfl) ?_)
                  intro a159 c160 h161 p162 o163 fr164
                  have pt165 := pt152.own p162 fw137
                  have fr167 := nw_step (M := No) (n := h.size) fw137 fr164 pt152.size
                  have f168 := f140.post p146 (fun x => x.elim)
                  have d169 := step_blk fr164 f168.lt d139
                  have d170 := step_sl fr164 r150.lt d155
                  refine lwp_run 1 (by kernel_rfl) ?_
                  refine lwp_nil ?_
                  refine cwp_ret ?_
                  obtain rfl := Option.some.inj H
                  show Exists _
                  exact ⟨.slice a159 l157.length c160, by kernel_rfl, I145, a159, c160, rfl, pt165, o163, fr167⟩
            · rw [cond_true] at H
              refine cwp_true (by kernel_rfl) ?_
              refine cwp_seq ?_
              refine cwp_region ?_
              refine lwp_op (by kernel_rfl) (owp_buildSlice (e := 5) [.int .u8 17] 1 (.int .u8 0) pt78.bd (by kernel_rfl) (by kernel_rfl) (by kernel_rfl) (by kernel_rfl) (by kernel_rfl) ?_)
              intro b83 h84 hc85 p86 o87
              have pt88 := pt78.no p86
              have w89 := o87.own (l := ([17] : List Int)) (Reps.int (I := I77) (k := .u8) (l := [17]))
              have fw89 := some_nw (M := No) (Nat.le_trans pt78.size hc85)
              have d91 := some_ne (ne_new o81.lt hc85)
              refine lwp_run 1 (by kernel_rfl) ?_
              have f92 := o81.post p86 (fun x => x.elim)
              refine lwp_op (by kernel_rfl) (owp_load (by kernel_rfl) (by kernel_rfl) (f92.cell (off := 6) rfl) ?_)
              refine lwp_run 1 (by kernel_rfl) ?_
              obtain ⟨t93, m94, H⟩ := bind_some H
              refine lwp_op (by kernel_rfl) (owp_callF (by kernel_rfl) (shutterref04_Put.calls (I := I77) p86.bd m94) ?_)
              rintro v95 h96 ⟨I97, a99, c100, rfl, p98, r102, fr103⟩
              have pt104 := pt88.no p98
              have fr105 := nw_step (M := No) (n := h.size) (fun _ x => x.elim) fr103 pt88.size
              have d106 := step_blk fr103 f92.lt (fun x => x.elim)
              have d107 := step_sl fr103 w89.lt (fun _ _ x => x.elim)
              have f108 := w89.post p86.bd p98 (fun _ x => x.elim) (fun _ _ x => x.elim)
              obtain ⟨l109, m110, H⟩ := bind_some H
              refine lwp_op (by kernel_rfl) (owp_app (e := 5) (bytes := 1) (tInt .u8) (by kernel_rfl) (elemOk_of (by kernel_rfl)) rfl rfl p98.bd p98.bd f108 f108.notI (r102.toSl) m110 (by kernel_rfl) (by kernel_rfl) ?_)
              intro a111 c112 h113 p114 o115 fr116
              have pt117 := pt104.own p114 fw89
              have fr119 := nw_step (M := No) (n := h.size) fw89 fr116 pt104.size
              have f120 := f92.post p98 (fun x => x.elim)
              have d121 := step_blk fr116 f120.lt d91
              have d122 := step_sl fr116 r102.lt d107
              refine lwp_run 1 (by kernel_rfl) ?_
              refine lwp_nil ?_
              refine cwp_ret ?_
              obtain rfl := Option.some.inj H
              show Exists _
              exact ⟨.slice a111 l109.length c112, by kernel_rfl, I97, a111, c112, rfl, pt117, o115, fr119⟩

end Go.Proofs.YtociikgdocjfnaaDoor.Sx
