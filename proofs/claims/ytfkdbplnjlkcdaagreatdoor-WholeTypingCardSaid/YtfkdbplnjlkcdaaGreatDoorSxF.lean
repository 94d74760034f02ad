import Derived.Test.YtfkdbplnjlkcdaaGreatDoorSx9
namespace Go.Proofs.YtfkdbplnjlkcdaaGreatDoor.Sx
open Go
theorem As_nil {h : Heap} (t : Value) : Ret Tryz.prog 70 #[.nilIface, t] h (fun r h' => .bool false = r ∧ h = h') := by
  refine ret_of (args := [.nilIface, t]) (rs := [.tmp 4]) (N := 42) Tryz.func70 rfl rfl rfl (Nat.le_of_ble_eq_true rfl) ?_
  refine cwp_seq ?_
  refine cwp_region ?_
  refine lwp_run 1 (by kernel_rfl) ?_
  refine lwp_nil ?_
  refine cwp_seq ?_
  refine cwp_seq ?_
  refine cwp_region ?_
  refine lwp_run 2 (by kernel_rfl) ?_
  refine lwp_nil ?_
  refine cwp_true (by kernel_rfl) ?_
  refine cwp_seq ?_
  refine cwp_region ?_
  refine lwp_run 1 (by kernel_rfl) ?_
  refine lwp_nil ?_
  refine cwp_ret ?_
  exact ⟨_, by kernel_rfl, rfl, rfl⟩
def flatOf : GoErr → GoErr
  | .spot a k => match code? k with
    | some n => .spot a (.no n)
    | none => .spot a k
  | e => e
set_option maxHeartbeats 4000000 in
set_option maxRecDepth 100000 in
theorem flat_calls {I : Gh} {h : Heap} {e0 : GoErr} {v0 : Value} (hB : Bd I h) (hG : Glob I h) (q0 : ErrV I h e0 v0)
    (hs : ∀ {J : Gh} {k : Heap} {a : Int} {x : GoErr} {v : Value}, Bd J k → ErrV J k x v → Ret Tryz.prog 28 #[.int .i64 a, v] k (fun r k' => ∃ J', ErrV J' k' (.spot a x) r ∧ Pst No J k J' k')) :
    Ret Tryz.prog 35 #[v0] h (fun v h' => ∃ I', ErrV I' h' (flatOf e0) v ∧ Pst No I h I' h') := by
  refine ret_of (args := [v0]) (rs := [.tmp 2]) (N := 21) Tryz.func35 rfl rfl rfl (Nat.le_of_ble_eq_true rfl) ?_
  have pt0 : Pst No I h I h := Pst.refl hB
  refine cwp_seq ?_
  refine cwp_region ?_
  refine lwp_run 1 (by kernel_rfl) ?_
  refine lwp_nil ?_
  refine cwp_seq ?_
  refine cwp_region ?_
  refine lwp_op (by kernel_rfl) (owp_alloc [.pointer none] (.pointer none) hB (by kernel_rfl) (by kernel_rfl) ?_)
  intro c h1 hc p1 oc
  refine lwp_nil ?_
  refine cwp_seq ?_
  refine cwp_region ?_
  refine lwp_op (by kernel_rfl) (owp_alloc [.int .i64 0] (.int .i64 0) p1.bd (by kernel_rfl) (by kernel_rfl) ?_)
  intro d h2 hd p2 od
  have u1 := p1.up hB (fun _ x => x.elim)
  have u2 := p2.up p1.bd (fun _ x => x.elim)
  have q2 := ErrV.up u2 (ErrV.up u1 q0)
  have g2 := (hG.up u1).up u2
  have oc2 := oc.post p2 (fun x => x.elim)
  refine lwp_nil ?_
  refine cwp_seq ?_
  refine cwp_seq ?_
  refine cwp_region ?_
  rcases q2.cases with ⟨rfl, rfl⟩ | ⟨hn, t, u, rfl⟩
  · refine lwp_run 2 (by kernel_rfl) ?_
    refine lwp_op (by kernel_rfl) (owp_callF (by kernel_rfl) (As_nil (h := h2) (.iface 155 (.pointer (some ⟨c, 0, none⟩)))) ?_)
    rintro r h3 ⟨rfl, rfl⟩
    refine lwp_run 5 (by kernel_rfl) ?_
    refine lwp_nil ?_
    refine cwp_false (by kernel_rfl) ?_
    refine cwp_skip ?_
    refine cwp_seq ?_
    refine cwp_region ?_
    refine lwp_run 2 (by kernel_rfl) ?_
    refine lwp_nil ?_
    refine cwp_ret ?_
    exact ⟨_, by kernel_rfl, _, q2, (pt0.no p1).no p2⟩
  · refine lwp_run 2 (by kernel_rfl) ?_
    refine lwp_op (by kernel_rfl) (owp_callF (by kernel_rfl) (As_spot p2.bd g2 hn q2 oc2) ?_)
    rintro r h3 ⟨p3, rfl, oc3⟩
    have pt3 := ((pt0.no p1).no p2).own p3 (fun b x => .inr (by cases x; exact hc))
    have u3 := p3.up p2.bd (one_not oc2.no)
    have q3 := ErrV.up u3 q2
    have g3 := g2.up u3
    have od3 := od.post p3 (fun x => by have := oc.lt; unfold One at x; omega)
    cases e0 with
    | nil => exact absurd rfl hn
    | no n =>
      refine lwp_run 5 (by kernel_rfl) ?_
      refine lwp_nil ?_
      refine cwp_false (by kernel_rfl) ?_
      refine cwp_skip ?_
      refine cwp_seq ?_
      refine cwp_region ?_
      refine lwp_run 2 (by kernel_rfl) ?_
      refine lwp_nil ?_
      refine cwp_ret ?_
      exact ⟨_, by kernel_rfl, _, q3, pt3⟩
    | spot a e =>
      refine lwp_run 3 (by kernel_rfl) ?_
      refine lwp_op (by kernel_rfl) (owp_callF (by kernel_rfl) (As_errno p3.bd g3 hn q3 od3) ?_)
      rintro r h4 ⟨p4, rfl, od4⟩
      have pt4 := pt3.own p4 (fun b x => .inr (by cases x; exact Nat.le_trans p1.size hd))
      have u4 := p4.up p3.bd (one_not od3.no)
      have q4 := ErrV.up u4 q3
      have oc4 := oc3.post p4 (fun x => by have := oc.lt; unfold One at x; omega)
      cases hcd : code? (.spot a e) with
      | none =>
        rw [hcd] at od4
        refine lwp_run 1 (by kernel_rfl) ?_
        refine lwp_nil ?_
        refine cwp_false (by kernel_rfl) ?_
        refine cwp_skip ?_
        refine cwp_seq ?_
        refine cwp_region ?_
        refine lwp_run 2 (by kernel_rfl) ?_
        refine lwp_nil ?_
        refine cwp_ret ?_
        have ef : flatOf (.spot a e) = .spot a e := by unfold flatOf; simp only [show code? e = none from hcd]
        rw [← ef] at q4
        exact ⟨_, by kernel_rfl, _, q4, pt4⟩
      | some m =>
        rw [hcd] at od4
        obtain ⟨b, v', fr, hv, hb, hcb, q'⟩ := q4
        injection hv with ht hu
        subst ht hu
        have h0 : cellAt h4 (some ⟨b, 0, none⟩) 0 = some (.int .i64 a) := by unfold cellAt; simp only; rw [hcb]; rfl
        refine lwp_run 1 (by kernel_rfl) ?_
        refine lwp_nil ?_
        refine cwp_true (by kernel_rfl) ?_
        refine cwp_seq ?_
        refine cwp_regionD (Keep No h4) 8 (by kernel_rfl) ?_
        refine awp_load 0 rfl (by kernel_rfl) (by kernel_rfl) (by kernel_rfl) (by kernel_rfl) Keep.refl (oc4.cell (off := 0) rfl) (fun _ _ x => x.elim) ?_
        refine awp_run (fuel := 5) [1, 2] Keep.refl (by kernel_rfl) ?_
        refine awp_load 3 rfl (by kernel_rfl) (by kernel_rfl) (by kernel_rfl) (by kernel_rfl) Keep.refl h0 (fun _ _ x => x.elim) ?_
        refine awp_load 4 rfl (by kernel_rfl) (by kernel_rfl) (by kernel_rfl) (by kernel_rfl) Keep.refl (od4.cell (off := 0) rfl) (fun _ _ x => x.elim) ?_
        refine awp_run (fuel := 2) [5] Keep.refl (by kernel_rfl) ?_
        refine awp_op 6 (by kernel_rfl) rfl (by kernel_rfl) (owp_callF (by kernel_rfl) (hs (a := a) (x := .no m) (v := .iface 75 (.int .i64 m)) p4.bd rfl) ?_)
        rintro r h5 ⟨I5, q5, p5⟩
        have hK := Keep.post (M := No) Keep.refl (Nat.le_refl _) p5 (fun _ x => x.elim)
        refine ⟨hK, ?_⟩
        refine awp_run (fuel := 0) [7] hK (by kernel_rfl) ?_
        refine awp_nil (by kernel_rfl) ?_ 0
        refine cwp_ret ?_
        have ef : flatOf (.spot a e) = .spot a (.no m) := by unfold flatOf; simp only [show code? e = some m from hcd]
        rw [← ef] at q5
        exact ⟨_, by kernel_rfl, _, q5, pt4.no p5⟩
end Go.Proofs.YtfkdbplnjlkcdaaGreatDoor.Sx
