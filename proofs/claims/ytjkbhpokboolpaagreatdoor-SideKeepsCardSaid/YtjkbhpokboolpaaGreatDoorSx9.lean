import Derived.Test.YtjkbhpokboolpaaGreatDoorSx8
namespace Go.Proofs.YtjkbhpokboolpaaGreatDoor.Sx
open Go
def isSpot : GoErr → Bool
  | .spot _ _ => true
  | _ => false
def spotOf (v old : Value) : Value :=
  match v with
  | .iface _ (.pointer p) => .pointer p
  | _ => old
def codeOf (e : GoErr) : Int := (code? e).getD 0
def whereOf : GoErr → Int
  | .spot a _ => a
  | _ => -1
set_option maxHeartbeats 4000000 in
set_option maxRecDepth 100000 in
theorem Code_calls {I : Gh} {h : Heap} {e0 : GoErr} {v0 : Value} (hB : Bd I h) (hG : Glob I h) (q0 : ErrV I h e0 v0) :
    Ret Tryz.prog 21 #[v0] h (fun v h' => ∃ I', .int .i64 (codeOf e0) = v ∧ Pst No I h I' h') := by
  refine ret_of (args := [v0]) (rs := [.tmp 2]) (N := 12) Tryz.func21 rfl rfl rfl (Nat.le_of_ble_eq_true rfl) ?_
  have pt0 : Pst No I h I h := Pst.refl hB
  refine cwp_seq ?_
  refine cwp_region ?_
  refine lwp_run 1 (by kernel_rfl) ?_
  refine lwp_nil ?_
  refine cwp_seq ?_
  refine cwp_region ?_
  refine lwp_op (by kernel_rfl) (owp_alloc [.int .i64 0] (.int .i64 0) hB (by kernel_rfl) (by kernel_rfl) ?_)
  intro c h1 hc p1 oc
  have u1 := p1.up hB (fun _ x => x.elim)
  have q1 := ErrV.up u1 q0
  have g1 := hG.up u1
  refine lwp_nil ?_
  refine cwp_seq ?_
  refine cwp_seq ?_
  refine cwp_region ?_
  rcases q1.cases with ⟨rfl, rfl⟩ | ⟨hn, t, u, rfl⟩
  · refine lwp_run 7 (by kernel_rfl) ?_
    refine lwp_nil ?_
    refine cwp_false (by kernel_rfl) ?_
    refine cwp_skip ?_
    refine cwp_seq ?_
    refine cwp_region ?_
    refine lwp_run 1 (by kernel_rfl) ?_
    refine lwp_nil ?_
    refine cwp_ret ?_
    exact ⟨_, by kernel_rfl, _, rfl, pt0.no p1⟩
  · refine lwp_run 5 (by kernel_rfl) ?_
    refine lwp_op (by kernel_rfl) (owp_callF (by kernel_rfl) (As_errno p1.bd g1 hn q1 oc) ?_)
    rintro r h2 ⟨p2, rfl, o2⟩
    have pt2 := pt0.no p1 |>.own p2 (fun b x => .inr (by cases x; exact hc))
    unfold codeOf
    cases hcd : code? e0 with
    | none =>
      rw [hcd] at o2
      refine lwp_run 1 (by kernel_rfl) ?_
      refine lwp_nil ?_
      refine cwp_false (by kernel_rfl) ?_
      refine cwp_skip ?_
      refine cwp_seq ?_
      refine cwp_region ?_
      refine lwp_run 1 (by kernel_rfl) ?_
      refine lwp_nil ?_
      refine cwp_ret ?_
      exact ⟨_, by kernel_rfl, _, rfl, pt2⟩
    | some n =>
      rw [hcd] at o2
      refine lwp_run 1 (by kernel_rfl) ?_
      refine lwp_nil ?_
      refine cwp_true (by kernel_rfl) ?_
      refine cwp_seq ?_
      refine cwp_region ?_
      refine lwp_op (by kernel_rfl) (owp_load (a := some ⟨c, 0, none⟩) (n := 0) (v := .int .i64 n) (by kernel_rfl) (by kernel_rfl) (o2.cell rfl) ?_)
      refine lwp_run 1 (by kernel_rfl) ?_
      refine lwp_nil ?_
      refine cwp_ret ?_
      exact ⟨_, by kernel_rfl, _, rfl, pt2⟩
end Go.Proofs.YtjkbhpokboolpaaGreatDoor.Sx
