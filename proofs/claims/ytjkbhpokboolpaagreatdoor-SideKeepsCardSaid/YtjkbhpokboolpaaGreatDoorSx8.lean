import Derived.Test.YtjkbhpokboolpaaGreatDoorSx7
namespace Go.Proofs.YtjkbhpokboolpaaGreatDoor.Sx
open Go
set_option maxHeartbeats 4000000 in
set_option maxRecDepth 100000 in
theorem as_errno {I : Gh} {h : Heap} {e0 : GoErr} {v0 : Value} {bt c : Nat} {old : Value} (hB : Bd I h) (hne : e0 ≠ .nil) (q0 : ErrV I h e0 v0) (ot : OwnB I h bt [old] 137)
    (oc : OwnB I h c [.pointer (some ⟨bt, 0, none⟩)] 161) (_hct : c ≠ bt) :
    Ret Tryz.prog 127 #[v0, .iface 161 (.pointer (some ⟨bt, 0, none⟩)), .agg (rval 161 c 150).toArray, .iface 289 (hnd 137)] h
      (fun r h' => Pst (One bt) I h I h' ∧ r = .bool (code? e0).isSome ∧ OwnB I h' bt [match code? e0 with | some n => .int .i64 n | none => old] 137) := by
  refine ret_of (args := [v0, .iface 161 (.pointer (some ⟨bt, 0, none⟩)), .agg (rval 161 c 150).toArray, .iface 289 (hnd 137)]) (rs := [.tmp 8]) (N := 62) Tryz.func127 rfl rfl rfl (Nat.le_of_ble_eq_true rfl) ?_
  have pt0 : Pst (One bt) I h I h := Pst.refl hB
  refine cwp_seq ?_
  refine cwp_region ?_
  refine lwp_op (by kernel_rfl) (owp_box (rval 161 c 150) hB (by kernel_rfl) ?_)
  intro d h1 hd p1 od
  have B1 := p1.bd
  have q1 := ErrV.up (p1.up hB (fun _ x => x.elim)) q0
  have oc1 := oc.post p1 (fun x => x.elim)
  have ot1 := ot.post p1 (fun x => x.elim)
  have hdc : d ≠ c := by have := oc.lt; omega
  have hdt : d ≠ bt := by have := ot.lt; omega
  refine lwp_run 1 (by kernel_rfl) ?_
  refine lwp_nil ?_
  refine cwp_block ?_
  refine cwp_loop (fun k ρ h' => ∃ e v, depth e = k ∧ h1 = h' ∧ e ≠ .nil ∧ code? e = code? e0 ∧ ErrV I h1 e v ∧
    Fits [(0, v), (1, .iface 161 (.pointer (some ⟨bt, 0, none⟩))), (3, .iface 289 (hnd 137)), (6, .pointer (some ⟨d, 0, none⟩))] ρ) (depth e0) ⟨e0, v0, rfl, rfl, hne, rfl, q1, ⟨by kernel_rfl, by kernel_rfl, by kernel_rfl, by kernel_rfl, trivial⟩⟩ ?_
  rintro k ρ h' ⟨e, v, rfl, rfl, hn, hce, q, hf⟩
  refine cwp_fits _ hf ?_
  rw [← hce]
  refine cwp_block ?_
  cases e with
  | nil => exact absurd rfl hn
  | no n =>
    obtain rfl : v = _ := q
    refine cwp_seq ?_
    refine cwp_seq ?_
    refine cwp_region ?_
    refine lwp_run 4 (by kernel_rfl) ?_
    refine lwp_nil ?_
    refine cwp_true (by kernel_rfl) ?_
    refine cwp_seq ?_
    refine cwp_region ?_
    refine lwp_op (by kernel_rfl) (owp_loadN (a := some ⟨d, 0, none⟩) (n := 0) (m := 3) (cs := rval 161 c 150) (by kernel_rfl) (by kernel_rfl) (by kernel_rfl) (od.seg_ 0 3 (Nat.le_refl _)) ?_)
    refine lwp_op (by kernel_rfl) (owp_ev1 (v := .pointer (some ⟨bt, 0, none⟩)) (u := .agg (rval 137 bt 386).toArray) (a := ⟨c, 0, none⟩) (by kernel_rfl) (oc1.cell rfl) rfl ?_)
    refine lwp_run 1 (by kernel_rfl) ?_
    refine lwp_op (by kernel_rfl) (owp_new (cs := [.int .i64 n]) (T := 137) B1 (fun x => .agg (rval 137 x 130).toArray) (fun w => by kernel_rfl) ?_)
    intro f h2 hf2 p2 of
    have ot2 := ot1.post p2 (fun x => x.elim)
    refine lwp_op (by kernel_rfl) (owp_ev3 (v := .int .i64 n) (u := .int .i64 n) (r := .tuple #[]) (b := bt) (c := f) p2.bd (by kernel_rfl) rfl (of.cell rfl) ot2 ?_)
    intro h3 p3 ot3
    refine lwp_nil ?_
    refine cwp_seq ?_
    refine cwp_region ?_
    refine lwp_run 1 (by kernel_rfl) ?_
    refine lwp_nil ?_
    refine cwp_ret ?_
    exact ⟨_, by kernel_rfl, ((pt0.no p1).no p2).own p3 (fun b x => .inl x), rfl, ot3⟩
  | spot a e =>
    obtain ⟨b, v', fr, rfl, hb, hc, q'⟩ := q
    refine cwp_seq ?_
    refine cwp_seq ?_
    refine cwp_region ?_
    refine lwp_run 4 (by kernel_rfl) ?_
    refine lwp_nil ?_
    refine cwp_false (by kernel_rfl) ?_
    refine cwp_skip ?_
    refine cwp_seq ?_
    refine cwp_seq ?_
    refine cwp_region ?_
    refine lwp_run 1 (by kernel_rfl) ?_
    refine lwp_op (by kernel_rfl) (owp_lacks (u := .pointer (some ⟨b, 0, none⟩)) (t := 202) (z := .nilIface) (by kernel_rfl) (by kernel_rfl) (by kernel_rfl) ?_)
    refine lwp_run 5 (by kernel_rfl) ?_
    refine lwp_nil ?_
    refine cwp_seq ?_
    refine cwp_region ?_
    refine lwp_run 6 (by kernel_rfl) ?_
    refine lwp_nil ?_
    refine cwp_false (by kernel_rfl) ?_
    refine cwp_skip ?_
    refine cwp_seq ?_
    refine cwp_region ?_
    refine lwp_run 1 (by kernel_rfl) ?_
    refine lwp_nil ?_
    refine cwp_block ?_
    refine cwp_seq ?_
    refine cwp_region ?_
    refine lwp_run 3 (by kernel_rfl) ?_
    refine lwp_nil ?_
    refine cwp_true (by kernel_rfl) ?_
    refine cwp_seq ?_
    refine cwp_region ?_
    refine lwp_run 1 (by kernel_rfl) ?_
    refine lwp_nil ?_
    refine cwp_seq ?_
    refine cwp_region ?_
    refine lwp_run 1 (by kernel_rfl) ?_
    refine lwp_op (by kernel_rfl) (owp_call (fun w => by kernel_rfl) (unwrap_calls hc) ?_)
    rintro v5 h5 ⟨rfl, rfl⟩
    refine lwp_run 1 (by kernel_rfl) ?_
    refine lwp_nil ?_
    refine cwp_seq ?_
    refine cwp_region ?_
    rcases q'.cases with ⟨rfl, rfl⟩ | ⟨hn', t, u, rfl⟩
    · refine lwp_run 2 (by kernel_rfl) ?_
      refine lwp_nil ?_
      refine cwp_true (by kernel_rfl) ?_
      refine cwp_seq ?_
      refine cwp_region ?_
      refine lwp_run 1 (by kernel_rfl) ?_
      refine lwp_nil ?_
      refine cwp_ret ?_
      exact ⟨_, by kernel_rfl, pt0.no p1, rfl, ot1⟩
    · refine lwp_run 2 (by kernel_rfl) ?_
      refine lwp_nil ?_
      refine cwp_false (by kernel_rfl) ?_
      refine cwp_skip ?_
      exact ⟨depth e, Nat.lt_succ_self _, e, _, rfl, rfl, hn', rfl, q', ⟨by kernel_rfl, by kernel_rfl, by kernel_rfl, by kernel_rfl, trivial⟩⟩
set_option maxHeartbeats 4000000 in
set_option maxRecDepth 100000 in
theorem As_errno {I : Gh} {h : Heap} {e0 : GoErr} {v0 : Value} {bt : Nat} {old : Value} (hB : Bd I h) (hG : Glob I h) (hne : e0 ≠ .nil) (q0 : ErrV I h e0 v0) (ot : OwnB I h bt [old] 137) :
    Ret Tryz.prog 75 #[v0, .iface 161 (.pointer (some ⟨bt, 0, none⟩))] h
      (fun r h' => Pst (One bt) I h I h' ∧ .bool (code? e0).isSome = r ∧ OwnB I h' bt [match code? e0 with | some n => .int .i64 n | none => old] 137) := by
  refine ret_of (args := [v0, .iface 161 (.pointer (some ⟨bt, 0, none⟩))]) (rs := [.tmp 4]) (N := 42) Tryz.func75 rfl rfl rfl (Nat.le_of_ble_eq_true rfl) ?_
  have pt0 : Pst (One bt) I h I h := Pst.refl hB
  have hsome : ∃ t u, v0 = .iface t u := by rcases q0.cases with ⟨e, _⟩ | ⟨_, x⟩; exact absurd e hne; exact x
  obtain ⟨t, u, rfl⟩ := hsome
  refine cwp_seq ?_
  refine cwp_region ?_
  refine lwp_run 1 (by kernel_rfl) ?_
  refine lwp_nil ?_
  refine cwp_seq ?_
  refine cwp_seq ?_
  refine cwp_region ?_
  refine lwp_run 2 (by kernel_rfl) ?_
  refine lwp_nil ?_
  refine cwp_false (by kernel_rfl) ?_
  refine cwp_skip ?_
  refine cwp_seq ?_
  refine cwp_seq ?_
  refine cwp_region ?_
  refine lwp_run 2 (by kernel_rfl) ?_
  refine lwp_nil ?_
  refine cwp_false (by kernel_rfl) ?_
  refine cwp_skip ?_
  refine cwp_seq ?_
  refine cwp_region ?_
  refine lwp_run 1 (by kernel_rfl) ?_
  refine lwp_op (by kernel_rfl) (owp_new (cs := [.pointer (some ⟨bt, 0, none⟩)]) (T := 161) hB (fun x => .agg (rval 161 x 150).toArray) (fun w => by kernel_rfl) ?_)
  intro c h1 hc p1 oc
  have ot1 := ot.post p1 (fun x => x.elim)
  have q1 := ErrV.up (p1.up hB (fun _ x => x.elim)) q0
  have g1 := hG.up (p1.up hB (fun _ x => x.elim))
  refine lwp_op (by kernel_rfl) (owp_alloc [.pointer none, .pointer none, .int .u64 0] (.agg #[.pointer none, .pointer none, .int .u64 0]) p1.bd (by kernel_rfl) (by kernel_rfl) ?_)
  intro d h2 hd p2 od
  have ot2 := ot1.post p2 (fun x => x.elim)
  have oc2 := oc.post p2 (fun x => x.elim)
  have q2 := ErrV.up (p2.up p1.bd (fun _ x => x.elim)) q1
  have g2 := g1.up (p2.up p1.bd (fun _ x => x.elim))
  have hdc : c ≠ d := by have := oc.lt; omega
  have hdt : bt ≠ d := by have := ot1.lt; omega
  refine lwp_op (by kernel_rfl) (owp_storeN 0 (rval 161 c 150) p2.bd od (by kernel_rfl) (by kernel_rfl) (by intro v hv; simp only [rval, List.mem_cons, List.not_mem_nil, or_false] at hv; rcases hv with rfl | rfl | rfl <;> rfl) (by kernel_rfl) (Nat.le_refl _) ?_)
  intro h3 p3 od3
  have ot3 := ot2.post p3 (fun x => hdt x)
  have oc3 := oc2.post p3 (fun x => hdc x)
  have u3 := p3.up p2.bd (fun b x hx => by cases x; exact od.no hx)
  have q3 := ErrV.up u3 q2
  have g3 := g2.up u3
  replace od3 : OwnB I h3 d (rval 161 c 150) 225 := od3
  refine lwp_nil ?_
  refine cwp_seq ?_
  refine cwp_region ?_
  refine lwp_op (by kernel_rfl) (owp_loadN (a := some ⟨d, 0, none⟩) (n := 0) (m := 3) (cs := rval 161 c 150) (by kernel_rfl) (by kernel_rfl) (by kernel_rfl) (od3.seg_ 0 3 (Nat.le_refl _)) ?_)
  refine lwp_run 2 (by kernel_rfl) ?_
  refine lwp_nil ?_
  refine cwp_seq ?_
  refine cwp_seq ?_
  refine cwp_region ?_
  refine lwp_run 4 (by kernel_rfl) ?_
  refine lwp_op (by kernel_rfl) (owp_loadN (a := some ⟨d, 0, none⟩) (n := 0) (m := 3) (cs := rval 161 c 150) (by kernel_rfl) (by kernel_rfl) (by kernel_rfl) (od3.seg_ 0 3 (Nat.le_refl _)) ?_)
  refine lwp_op (by kernel_rfl) (owp_ev1 (v := .pointer (some ⟨bt, 0, none⟩)) (u := .bool false) (a := ⟨c, 0, none⟩) (by kernel_rfl) (oc3.cell rfl) rfl ?_)
  refine lwp_run 1 (by kernel_rfl) ?_
  refine lwp_nil ?_
  refine cwp_false (by kernel_rfl) ?_
  refine cwp_skip ?_
  refine cwp_seq ?_
  refine cwp_region ?_
  refine lwp_run 3 (by kernel_rfl) ?_
  refine lwp_nil ?_
  refine cwp_seq ?_
  refine cwp_seq ?_
  refine cwp_region ?_
  refine lwp_run 5 (by kernel_rfl) ?_
  refine lwp_op (by kernel_rfl) (owp_load (a := some ⟨0, 0, none⟩) (n := 0) (v := .iface 289 (hnd 36)) (by kernel_rfl) (by kernel_rfl) g3.2 ?_)
  refine lwp_run 3 (by kernel_rfl) ?_
  refine lwp_nil ?_
  refine cwp_false (by kernel_rfl) ?_
  refine cwp_skip ?_
  refine cwp_seq ?_
  refine cwp_region ?_
  refine lwp_run 2 (by kernel_rfl) ?_
  refine lwp_op (by kernel_rfl) (owp_loadN (a := some ⟨d, 0, none⟩) (n := 0) (m := 3) (cs := rval 161 c 150) (by kernel_rfl) (by kernel_rfl) (by kernel_rfl) (od3.seg_ 0 3 (Nat.le_refl _)) ?_)
  refine lwp_run 1 (by kernel_rfl) ?_
  refine lwp_op (by kernel_rfl) (owp_callF (by kernel_rfl) (as_errno p3.bd hne q3 ot3 oc3 (fun x => by have := ot.lt; omega)) ?_)
  rintro r h4 ⟨p4, rfl, ot4⟩
  refine lwp_run 1 (by kernel_rfl) ?_
  refine lwp_nil ?_
  refine cwp_ret ?_
  exact ⟨_, by kernel_rfl, (((pt0.no p1).no p2).own p3 (fun b x => .inr (by cases x; exact Nat.le_trans p1.size hd))).own p4 (fun b x => .inl x), rfl, ot4⟩
end Go.Proofs.YtjkbhpokboolpaaGreatDoor.Sx
