import Derived.Test.YtfkdbplnjlkcdaaGreatDoorSx8
namespace Go.Proofs.YtfkdbplnjlkcdaaGreatDoor.Sx
open Go
def isSpot : GoErr → Bool
  | .spot _ _ => true
  | _ => false
def spotOf (v old : Value) : Value :=
  match v with
  | .iface _ (.pointer p) => .pointer p
  | _ => old
set_option maxHeartbeats 4000000 in
set_option maxRecDepth 100000 in
theorem as_spot {I : Gh} {h : Heap} {e0 : GoErr} {v0 : Value} {bt c : Nat} {old : Value} (hB : Bd I h) (hne : e0 ≠ .nil) (q0 : ErrV I h e0 v0) (ot : OwnB I h bt [old] 141)
    (oc : OwnB I h c [.pointer (some ⟨bt, 0, none⟩)] 155) (_hct : c ≠ bt) :
    Ret Tryz.prog 104 #[v0, .iface 155 (.pointer (some ⟨bt, 0, none⟩)), .agg (rval 155 c 150).toArray, .iface 221 (hnd 141)] h
      (fun r h' => Pst (One bt) I h I h' ∧ r = .bool (isSpot e0) ∧ OwnB I h' bt [spotOf v0 old] 141) := by
  refine ret_of (args := [v0, .iface 155 (.pointer (some ⟨bt, 0, none⟩)), .agg (rval 155 c 150).toArray, .iface 221 (hnd 141)]) (rs := [.tmp 8]) (N := 62) Tryz.func104 rfl rfl rfl (Nat.le_of_ble_eq_true rfl) ?_
  have pt0 : Pst (One bt) I h I h := Pst.refl hB
  refine cwp_seq ?_
  refine cwp_region ?_
  refine lwp_op (by kernel_rfl) (owp_box (rval 155 c 150) hB (by kernel_rfl) ?_)
  intro d h1 hd p1 od
  have B1 := p1.bd
  have q1 := ErrV.up (p1.up hB (fun _ x => x.elim)) q0
  have oc1 := oc.post p1 (fun x => x.elim)
  have ot1 := ot.post p1 (fun x => x.elim)
  have hdc : d ≠ c := by have := oc.lt; omega
  have hdt : d ≠ bt := by have := ot.lt; omega
  refine lwp_run 1 (by kernel_rfl) ?_
  refine lwp_nil ?_
  refine cwp_block ?_
  refine cwp_loop (fun _ ρ' h' => h1 = h' ∧ Fits [(0, v0), (1, .iface 155 (.pointer (some ⟨bt, 0, none⟩))), (3, .iface 221 (hnd 141)), (6, .pointer (some ⟨d, 0, none⟩))] ρ') 0 ⟨rfl, ⟨by kernel_rfl, by kernel_rfl, by kernel_rfl, by kernel_rfl, trivial⟩⟩ ?_
  rintro k ρ h' ⟨rfl, hf⟩
  refine cwp_fits _ hf ?_
  refine cwp_block ?_
  cases e0 with
  | nil => exact absurd rfl hne
  | spot a e =>
    obtain ⟨b, v', fr, rfl, hb, hc, q'⟩ := q1
    refine cwp_seq ?_
    refine cwp_seq ?_
    refine cwp_region ?_
    refine lwp_run 4 (by kernel_rfl) ?_
    refine lwp_nil ?_
    refine cwp_true (by kernel_rfl) ?_
    refine cwp_seq ?_
    refine cwp_region ?_
    refine lwp_op (by kernel_rfl) (owp_loadN (a := some ⟨d, 0, none⟩) (n := 0) (m := 3) (cs := rval 155 c 150) (by kernel_rfl) (by kernel_rfl) (by kernel_rfl) (od.seg_ 0 3 (Nat.le_refl _)) ?_)
    refine lwp_op (by kernel_rfl) (owp_ev1 (v := .pointer (some ⟨bt, 0, none⟩)) (u := .agg (rval 141 bt 406).toArray) (a := ⟨c, 0, none⟩) (by kernel_rfl) (oc1.cell rfl) rfl ?_)
    refine lwp_run 1 (by kernel_rfl) ?_
    refine lwp_op (by kernel_rfl) (owp_new (cs := [.pointer (some ⟨b, 0, none⟩)]) (T := 141) B1 (fun x => .agg (rval 141 x 150).toArray) (fun w => by kernel_rfl) ?_)
    intro f h2 hf2 p2 of
    have ot2 := ot1.post p2 (fun x => x.elim)
    refine lwp_op (by kernel_rfl) (owp_ev3 (v := .pointer (some ⟨b, 0, none⟩)) (u := .pointer (some ⟨b, 0, none⟩)) (r := .tuple #[]) (b := bt) (c := f) p2.bd (by kernel_rfl) rfl (of.cell rfl) ot2 ?_)
    intro h3 p3 ot3
    refine lwp_nil ?_
    refine cwp_seq ?_
    refine cwp_region ?_
    refine lwp_run 1 (by kernel_rfl) ?_
    refine lwp_nil ?_
    refine cwp_ret ?_
    exact ⟨_, by kernel_rfl, ((pt0.no p1).no p2).own p3 (fun b x => .inl x), rfl, ot3⟩
  | no n =>
    obtain rfl : v0 = _ := q1
    refine cwp_seq ?_
    refine cwp_seq ?_
    refine cwp_region ?_
    refine lwp_run 4 (by kernel_rfl) ?_
    refine lwp_nil ?_
    refine cwp_false (by kernel_rfl) ?_
    refine cwp_skip ?_
    refine cwp_seq ?_
    refine cwp_seq ?_
    refine cwp_region ?_
    refine lwp_run 1 (by kernel_rfl) ?_
    refine lwp_op (by kernel_rfl) (owp_lacks (u := .int .i64 n) (t := 75) (z := .nilIface) (by kernel_rfl) (by kernel_rfl) (by kernel_rfl) ?_)
    refine lwp_run 5 (by kernel_rfl) ?_
    refine lwp_nil ?_
    refine cwp_seq ?_
    refine cwp_region ?_
    refine lwp_run 6 (by kernel_rfl) ?_
    refine lwp_nil ?_
    refine cwp_false (by kernel_rfl) ?_
    refine cwp_skip ?_
    refine cwp_seq ?_
    refine cwp_region ?_
    refine lwp_run 1 (by kernel_rfl) ?_
    refine lwp_nil ?_
    refine cwp_block ?_
    refine cwp_seq ?_
    refine cwp_region ?_
    refine lwp_op (by kernel_rfl) (owp_lacks (u := .int .i64 n) (t := 75) (z := .nilIface) (by kernel_rfl) (by kernel_rfl) (by kernel_rfl) ?_)
    refine lwp_run 2 (by kernel_rfl) ?_
    refine lwp_nil ?_
    refine cwp_false (by kernel_rfl) ?_
    refine cwp_seq ?_
    refine cwp_region ?_
    refine lwp_op (by kernel_rfl) (owp_lacks (u := .int .i64 n) (t := 75) (z := .nilIface) (by kernel_rfl) (by kernel_rfl) (by kernel_rfl) ?_)
    refine lwp_run 2 (by kernel_rfl) ?_
    refine lwp_nil ?_
    refine cwp_false (by kernel_rfl) ?_
    refine cwp_seq ?_
    refine cwp_region ?_
    refine lwp_run 1 (by kernel_rfl) ?_
    refine lwp_nil ?_
    refine cwp_seq ?_
    refine cwp_region ?_
    refine lwp_run 1 (by kernel_rfl) ?_
    refine lwp_nil ?_
    refine cwp_ret ?_
    exact ⟨_, by kernel_rfl, pt0.no p1, rfl, ot1⟩
set_option maxHeartbeats 4000000 in
set_option maxRecDepth 100000 in
theorem As_spot {I : Gh} {h : Heap} {e0 : GoErr} {v0 : Value} {bt : Nat} {old : Value} (hB : Bd I h) (hG : Glob I h) (hne : e0 ≠ .nil) (q0 : ErrV I h e0 v0) (ot : OwnB I h bt [old] 141) :
    Ret Tryz.prog 70 #[v0, .iface 155 (.pointer (some ⟨bt, 0, none⟩))] h
      (fun r h' => Pst (One bt) I h I h' ∧ .bool (isSpot e0) = r ∧ OwnB I h' bt [spotOf v0 old] 141) := by
  refine ret_of (args := [v0, .iface 155 (.pointer (some ⟨bt, 0, none⟩))]) (rs := [.tmp 4]) (N := 42) Tryz.func70 rfl rfl rfl (Nat.le_of_ble_eq_true rfl) ?_
  have pt0 : Pst (One bt) I h I h := Pst.refl hB
  have hsome : ∃ t u, v0 = .iface t u := by rcases q0.cases with ⟨e, _⟩ | ⟨_, x⟩; exact absurd e hne; exact x
  obtain ⟨t, u, rfl⟩ := hsome
  refine cwp_seq ?_
  refine cwp_region ?_
  refine lwp_run 1 (by kernel_rfl) ?_
  refine lwp_nil ?_
  refine cwp_seq ?_
  refine cwp_seq ?_
  refine cwp_region ?_
  refine lwp_run 2 (by kernel_rfl) ?_
  refine lwp_nil ?_
  refine cwp_false (by kernel_rfl) ?_
  refine cwp_skip ?_
  refine cwp_seq ?_
  refine cwp_seq ?_
  refine cwp_region ?_
  refine lwp_run 2 (by kernel_rfl) ?_
  refine lwp_nil ?_
  refine cwp_false (by kernel_rfl) ?_
  refine cwp_skip ?_
  refine cwp_seq ?_
  refine cwp_region ?_
  refine lwp_run 1 (by kernel_rfl) ?_
  refine lwp_op (by kernel_rfl) (owp_new (cs := [.pointer (some ⟨bt, 0, none⟩)]) (T := 155) hB (fun x => .agg (rval 155 x 150).toArray) (fun w => by kernel_rfl) ?_)
  intro c h1 hc p1 oc
  have ot1 := ot.post p1 (fun x => x.elim)
  have q1 := ErrV.up (p1.up hB (fun _ x => x.elim)) q0
  have g1 := hG.up (p1.up hB (fun _ x => x.elim))
  refine lwp_op (by kernel_rfl) (owp_alloc [.pointer none, .pointer none, .int .u64 0] (.agg #[.pointer none, .pointer none, .int .u64 0]) p1.bd (by kernel_rfl) (by kernel_rfl) ?_)
  intro d h2 hd p2 od
  have ot2 := ot1.post p2 (fun x => x.elim)
  have oc2 := oc.post p2 (fun x => x.elim)
  have q2 := ErrV.up (p2.up p1.bd (fun _ x => x.elim)) q1
  have g2 := g1.up (p2.up p1.bd (fun _ x => x.elim))
  have hdc : c ≠ d := by have := oc.lt; omega
  have hdt : bt ≠ d := by have := ot1.lt; omega
  refine lwp_op (by kernel_rfl) (owp_storeN 0 (rval 155 c 150) p2.bd od (by kernel_rfl) (by kernel_rfl) (by intro v hv; simp only [rval, List.mem_cons, List.not_mem_nil, or_false] at hv; rcases hv with rfl | rfl | rfl <;> rfl) (by kernel_rfl) (Nat.le_refl _) ?_)
  intro h3 p3 od3
  have ot3 := ot2.post p3 (fun x => hdt x)
  have oc3 := oc2.post p3 (fun x => hdc x)
  have u3 := p3.up p2.bd (fun b x hx => by cases x; exact od.no hx)
  have q3 := ErrV.up u3 q2
  have g3 := g2.up u3
  replace od3 : OwnB I h3 d (rval 155 c 150) 188 := od3
  refine lwp_nil ?_
  refine cwp_seq ?_
  refine cwp_region ?_
  refine lwp_op (by kernel_rfl) (owp_loadN (a := some ⟨d, 0, none⟩) (n := 0) (m := 3) (cs := rval 155 c 150) (by kernel_rfl) (by kernel_rfl) (by kernel_rfl) (od3.seg_ 0 3 (Nat.le_refl _)) ?_)
  refine lwp_run 2 (by kernel_rfl) ?_
  refine lwp_nil ?_
  refine cwp_seq ?_
  refine cwp_seq ?_
  refine cwp_region ?_
  refine lwp_run 4 (by kernel_rfl) ?_
  refine lwp_op (by kernel_rfl) (owp_loadN (a := some ⟨d, 0, none⟩) (n := 0) (m := 3) (cs := rval 155 c 150) (by kernel_rfl) (by kernel_rfl) (by kernel_rfl) (od3.seg_ 0 3 (Nat.le_refl _)) ?_)
  refine lwp_op (by kernel_rfl) (owp_ev1 (v := .pointer (some ⟨bt, 0, none⟩)) (u := .bool false) (a := ⟨c, 0, none⟩) (by kernel_rfl) (oc3.cell rfl) rfl ?_)
  refine lwp_run 1 (by kernel_rfl) ?_
  refine lwp_nil ?_
  refine cwp_false (by kernel_rfl) ?_
  refine cwp_skip ?_
  refine cwp_seq ?_
  refine cwp_region ?_
  refine lwp_run 3 (by kernel_rfl) ?_
  refine lwp_nil ?_
  refine cwp_seq ?_
  refine cwp_seq ?_
  refine cwp_region ?_
  refine lwp_run 5 (by kernel_rfl) ?_
  refine lwp_op (by kernel_rfl) (owp_load (a := some ⟨0, 0, none⟩) (n := 0) (v := .iface 221 (hnd 29)) (by kernel_rfl) (by kernel_rfl) g3.2 ?_)
  refine lwp_run 3 (by kernel_rfl) ?_
  refine lwp_nil ?_
  refine cwp_false (by kernel_rfl) ?_
  refine cwp_skip ?_
  refine cwp_seq ?_
  refine cwp_region ?_
  refine lwp_run 2 (by kernel_rfl) ?_
  refine lwp_op (by kernel_rfl) (owp_loadN (a := some ⟨d, 0, none⟩) (n := 0) (m := 3) (cs := rval 155 c 150) (by kernel_rfl) (by kernel_rfl) (by kernel_rfl) (od3.seg_ 0 3 (Nat.le_refl _)) ?_)
  refine lwp_run 1 (by kernel_rfl) ?_
  refine lwp_op (by kernel_rfl) (owp_callF (by kernel_rfl) (as_spot p3.bd hne q3 ot3 oc3 (fun x => by have := ot.lt; omega)) ?_)
  rintro r h4 ⟨p4, rfl, ot4⟩
  refine lwp_run 1 (by kernel_rfl) ?_
  refine lwp_nil ?_
  refine cwp_ret ?_
  exact ⟨_, by kernel_rfl, (((pt0.no p1).no p2).own p3 (fun b x => .inr (by cases x; exact Nat.le_trans p1.size hd))).own p4 (fun b x => .inl x), rfl, ot4⟩
def codeOf (e : GoErr) : Int := (code? e).getD 0
def whereOf : GoErr → Int
  | .spot a _ => a
  | _ => -1
set_option maxHeartbeats 4000000 in
set_option maxRecDepth 100000 in
theorem Code_calls {I : Gh} {h : Heap} {e0 : GoErr} {v0 : Value} (hB : Bd I h) (hG : Glob I h) (q0 : ErrV I h e0 v0) :
    Ret Tryz.prog 114 #[v0] h (fun v h' => ∃ I', .int .i64 (codeOf e0) = v ∧ Pst No I h I' h') := by
  refine ret_of (args := [v0]) (rs := [.tmp 2]) (N := 12) Tryz.func114 rfl rfl rfl (Nat.le_of_ble_eq_true rfl) ?_
  have pt0 : Pst No I h I h := Pst.refl hB
  refine cwp_seq ?_
  refine cwp_region ?_
  refine lwp_run 1 (by kernel_rfl) ?_
  refine lwp_nil ?_
  refine cwp_seq ?_
  refine cwp_region ?_
  refine lwp_op (by kernel_rfl) (owp_alloc [.int .i64 0] (.int .i64 0) hB (by kernel_rfl) (by kernel_rfl) ?_)
  intro c h1 hc p1 oc
  have u1 := p1.up hB (fun _ x => x.elim)
  have q1 := ErrV.up u1 q0
  have g1 := hG.up u1
  refine lwp_nil ?_
  refine cwp_seq ?_
  refine cwp_seq ?_
  refine cwp_region ?_
  rcases q1.cases with ⟨rfl, rfl⟩ | ⟨hn, t, u, rfl⟩
  · refine lwp_run 7 (by kernel_rfl) ?_
    refine lwp_nil ?_
    refine cwp_false (by kernel_rfl) ?_
    refine cwp_skip ?_
    refine cwp_seq ?_
    refine cwp_region ?_
    refine lwp_run 1 (by kernel_rfl) ?_
    refine lwp_nil ?_
    refine cwp_ret ?_
    exact ⟨_, by kernel_rfl, _, rfl, pt0.no p1⟩
  · refine lwp_run 5 (by kernel_rfl) ?_
    refine lwp_op (by kernel_rfl) (owp_callF (by kernel_rfl) (As_errno p1.bd g1 hn q1 oc) ?_)
    rintro r h2 ⟨p2, rfl, o2⟩
    have pt2 := pt0.no p1 |>.own p2 (fun b x => .inr (by cases x; exact hc))
    unfold codeOf
    cases hcd : code? e0 with
    | none =>
      rw [hcd] at o2
      refine lwp_run 1 (by kernel_rfl) ?_
      refine lwp_nil ?_
      refine cwp_false (by kernel_rfl) ?_
      refine cwp_skip ?_
      refine cwp_seq ?_
      refine cwp_region ?_
      refine lwp_run 1 (by kernel_rfl) ?_
      refine lwp_nil ?_
      refine cwp_ret ?_
      exact ⟨_, by kernel_rfl, _, rfl, pt2⟩
    | some n =>
      rw [hcd] at o2
      refine lwp_run 1 (by kernel_rfl) ?_
      refine lwp_nil ?_
      refine cwp_true (by kernel_rfl) ?_
      refine cwp_seq ?_
      refine cwp_region ?_
      refine lwp_op (by kernel_rfl) (owp_load (a := some ⟨c, 0, none⟩) (n := 0) (v := .int .i64 n) (by kernel_rfl) (by kernel_rfl) (o2.cell rfl) ?_)
      refine lwp_run 1 (by kernel_rfl) ?_
      refine lwp_nil ?_
      refine cwp_ret ?_
      exact ⟨_, by kernel_rfl, _, rfl, pt2⟩
end Go.Proofs.YtfkdbplnjlkcdaaGreatDoor.Sx
