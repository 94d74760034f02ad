/- Printed walks, part 1: each function's model, and that the code comes to it. -/
import Derived.Test.YtenlbpcfilmgpaaDoorProg
import Derived.Test.YtenlbpcfilmgpaaDoorSx9
import Derived.Test.YtenlbpcfilmgpaaDoorG0
namespace Go.Proofs.YtenlbpcfilmgpaaDoor.Sx
open Go

/-! shutter/addr.Put -/
def addr_Put.l1.m (K : Nat) (x0 : Int) : Nat → Int → (List Int) → Option (((List Int) × GoErr) ⊕ ((List Int)))
  | 0, _, _ => none
  | k + 1, x70, x73 => (letJ (fun (x91 : Bool) => (bif x91 then (if 0 ≤ x70 then (if x70 < ([(shr .i64 x0 6), (bAnd .i64 x0 63)].length : Int) then ((six_Put.m (at_ [(shr .i64 x0 6), (bAnd .i64 x0 63)] x70)).bind fun t101 => (if t101.2 = GoErr.nil then (if x70 < 2 then (addr_Put.l1.m K x0 k (w64 (x70 + 1)) (x73.set x70.toNat t101.1)) else none) else (some (Sum.inl ((List.replicate 2 (0 : Int)), t101.2))))) else none) else none) else (some (Sum.inr x73)))) fun (j94 : Bool → Option (((List Int) × GoErr) ⊕ ((List Int)))) => (if x70 < ([(shr .i64 x0 6), (bAnd .i64 x0 63)].length : Int) then (j94 true) else (j94 false)))
def addr_Put.m (K : Nat) (x0 : Int) (x1 : Int) : Option ((List Int) × GoErr) :=
  (letJ (fun (x17 : Bool) => (bif x17 then (some ((List.replicate 2 (0 : Int)), (GoErr.no 1))) else (letJ (fun (x29 : Bool) => (bif x29 then (some ((List.replicate 2 (0 : Int)), (GoErr.no 4))) else ((addr_Long.m x1).bind fun t36 => bif t36 then (some ([(IntKind.u8.wrap ((shr .i64 x0 8))), (IntKind.u8.wrap (x0))], GoErr.nil)) else ((addr_Put.l1.m K x0 K 0 (List.replicate 2 (0 : Int))).bind fun s76 => match s76 with | .inl q => (some q) | .inr x82 => (some (x82, GoErr.nil)))))) fun (j31 : Bool → Option ((List Int) × GoErr)) => (if x0 < 0 then (j31 true) else (if x0 ≥ x1 then (j31 true) else (j31 false)))))) fun (j19 : Bool → Option ((List Int) × GoErr)) => ((addr_sized.m x1).bind fun t8 => bif t8 then (j19 false) else (j19 true)))

set_option maxRecDepth 100000 in
theorem addr_Put.calls {I : Gh} {h : Heap} {K : Nat} {x0 : Int} {x1 : Int} (hB : Bd I h)  {r : ((List Int) × GoErr)}
    (H : addr_Put.m K x0 x1 = some r) :
    Ret Tryd.prog 20 #[.int .i64 x0, .int .i64 x1] h (fun v h' => ∃ (I' : Gh) (v134 : Value), .tuple #[.agg (List.map (Value.int .u8) r.1).toArray, v134] = v ∧ Pst No I h I' h' ∧ List.length r.1 = 2 ∧ ErrV I' h' r.2 v134) := by
  unfold addr_Put.m at H
  refine ret_of2 (args := [.int .i64 x0, .int .i64 x1]) (rs := [.cell 4 36, .tmp 5]) (N := 61) Tryd.func20 rfl rfl rfl (Nat.le_of_ble_eq_true rfl) ?_
  have pt0 : Pst No I h I h := Pst.refl hB
  refine cwp_seq ?_
  refine cwp_region ?_
  refine lwp_op (by kernel_rfl) (owp_alloc (List.map (Value.int .u8) (List.replicate 2 (0 : Int))) (.agg (List.map (Value.int .u8) (List.replicate 2 (0 : Int))).toArray) hB (by kernel_rfl) (by kernel_rfl) ?_)
  intro b1 h2 hc3 p4 o5
  have pt6 := pt0.no p4
  have fr7 := Nat.le_trans pt0.size hc3
  refine lwp_run 1 (by kernel_rfl) ?_
  refine lwp_nil ?_
  refine cwp_seq ?_
  refine cwp_block ?_
  obtain ⟨j19, e132, H⟩ := letJ_some H
  refine cwp_join (fun ρ' h14 => ∃ (x17 : Bool) (I15 : Gh), j19 x17 = some r ∧ Fits [(0, .int .i64 x0), (1, .int .i64 x1), (4, .pointer (some ⟨b1, 0, none⟩)), (11, .bool x17)] ρ' ∧ Pst No I h I15 h14 ∧ OwnB I15 h14 b1 (List.map (Value.int .u8) (List.replicate 2 (0 : Int))) 36) ?_ ?_
  · refine cwp_region ?_
    refine lwp_run 1 (by kernel_rfl) ?_
    obtain ⟨t8, m9, H⟩ := bind_some H
    refine lwp_op (by kernel_rfl) (owp_callF (by kernel_rfl) (addr_sized.calls p4.bd m9) ?_)
    rintro v10 h11 ⟨_, rfl, rfl⟩
    cases t8
    · rw [cond_false] at H
      refine lwp_run 2 (by kernel_rfl) ?_
      refine lwp_nil ?_
      exact ⟨true, I, H, ⟨by kernel_rfl, by kernel_rfl, by kernel_rfl, by kernel_rfl, trivial⟩, pt6, o5⟩
    · rw [cond_true] at H
      refine lwp_run 2 (by kernel_rfl) ?_
      refine lwp_nil ?_
      exact ⟨false, I, H, ⟨by kernel_rfl, by kernel_rfl, by kernel_rfl, by kernel_rfl, trivial⟩, pt6, o5⟩
  · clear H
    rintro ρ' h14 ⟨x17, I15, H, hf, pt16, o18⟩
    refine cwp_fits _ hf ?_
    subst e132
    try dsimp only at H
    cases x17
    · rw [cond_false] at H
      refine cwp_false (by kernel_rfl) ?_
      obtain ⟨j31, e131, H⟩ := letJ_some H
      refine cwp_join (fun ρ' h26 => ∃ (x29 : Bool) (I27 : Gh), j31 x29 = some r ∧ Fits [(0, .int .i64 x0), (1, .int .i64 x1), (4, .pointer (some ⟨b1, 0, none⟩)), (17, .bool x29)] ρ' ∧ Pst No I h I27 h26 ∧ OwnB I27 h26 b1 (List.map (Value.int .u8) (List.replicate 2 (0 : Int))) 36) ?_ ?_
      · refine cwp_region ?_
        refine lwp_run 1 (by kernel_rfl) ?_
        by_cases c24 : x0 < 0
        · rw [if_pos c24] at H
          refine lwp_op (by kernel_rfl) (owp_pure ((.bool true)) (pr_bool (by kernel_rfl) (decide_eq_true c24)) ?_)
          refine lwp_run 6 (by kernel_rfl) ?_
          refine lwp_nil ?_
          exact ⟨true, I15, H, ⟨by kernel_rfl, by kernel_rfl, by kernel_rfl, by kernel_rfl, trivial⟩, pt16, o18⟩
        · rw [if_neg c24] at H
          refine lwp_op (by kernel_rfl) (owp_pure ((.bool false)) (pr_bool (by kernel_rfl) (decide_eq_false c24)) ?_)
          refine lwp_run 3 (by kernel_rfl) ?_
          by_cases c25 : x0 ≥ x1
          · rw [if_pos c25] at H
            refine lwp_op (by kernel_rfl) (owp_pure ((.bool true)) (pr_bool (by kernel_rfl) (decide_eq_true c25)) ?_)
            refine lwp_run 2 (by kernel_rfl) ?_
            refine lwp_nil ?_
            exact ⟨true, I15, H, ⟨by kernel_rfl, by kernel_rfl, by kernel_rfl, by kernel_rfl, trivial⟩, pt16, o18⟩
          · rw [if_neg c25] at H
            refine lwp_op (by kernel_rfl) (owp_pure ((.bool false)) (pr_bool (by kernel_rfl) (decide_eq_false c25)) ?_)
            refine lwp_run 2 (by kernel_rfl) ?_
            refine lwp_nil ?_
            exact ⟨false, I15, H, ⟨by kernel_rfl, by kernel_rfl, by kernel_rfl, by kernel_rfl, trivial⟩, pt16, o18⟩
      · clear H
        rintro ρ' h26 ⟨x29, I27, H, hf, pt28, o30⟩
        refine cwp_fits _ hf ?_
        subst e131
        try dsimp only at H
        cases x29
        · rw [cond_false] at H
          refine cwp_false (by kernel_rfl) ?_
          refine cwp_seq ?_
          refine cwp_region ?_
          refine lwp_run 1 (by kernel_rfl) ?_
          obtain ⟨t36, m37, H⟩ := bind_some H
          refine lwp_op (by kernel_rfl) (owp_callF (by kernel_rfl) (addr_Long.calls pt28.bd m37) ?_)
          rintro v38 h39 ⟨_, rfl, rfl⟩
          cases t36
          · rw [cond_false] at H
            refine lwp_run 1 (by kernel_rfl) ?_
            refine lwp_nil ?_
            refine cwp_false (by kernel_rfl) ?_
            refine cwp_skip ?_
            refine cwp_seq ?_
            refine cwp_region ?_
            refine lwp_op (by kernel_rfl) (owp_alloc (List.map (Value.int .u8) (List.replicate 2 (0 : Int))) (.agg (List.map (Value.int .u8) (List.replicate 2 (0 : Int))).toArray) pt28.bd (by kernel_rfl) (by kernel_rfl) ?_)
            intro b46 h47 hc48 p49 o50
            have pt51 := pt28.no p49
            have fr52 := Nat.le_trans pt28.size hc48
            have d53 := ne_new o30.lt hc48
            refine lwp_nil ?_
            refine cwp_seq ?_
            refine cwp_seq ?_
            refine cwp_region ?_
            refine lwp_run 4 (by kernel_rfl) ?_
            refine lwp_op (by kernel_rfl) (owp_buildSlice (e := 3) [.int .i64 (shr .i64 x0 6), .int .i64 (bAnd .i64 x0 63)] 1 (.int .i64 0) p49.bd (by kernel_rfl) (by kernel_rfl) (by kernel_rfl) (by kernel_rfl) (by kernel_rfl) ?_)
            intro b54 h55 hc56 p57 o58
            have pt59 := pt51.no p57
            have fr60 := Nat.le_trans pt51.size hc56
            have w61 := o58.own (l := ([(shr .i64 x0 6), (bAnd .i64 x0 63)] : List Int)) (Reps.int (k := .i64) (l := [(shr .i64 x0 6), (bAnd .i64 x0 63)]))
            have fw61 := some_fresh fr60
            have f64 := o30.post p49 (fun x => x.elim)
            have d63 := some_ne (ne_new f64.lt hc56)
            have d65 := some_ne (ne_new o50.lt hc56)
            refine lwp_run 2 (by kernel_rfl) ?_
            refine lwp_nil ?_
            refine cwp_block ?_
            have f124 := o30.post p49 (fun x => x.elim)
            have f125 := f124.post p57 (fun x => x.elim)
            have f126 := o50.post p57 (fun x => x.elim)
            obtain ⟨s76, m84, HR85⟩ := bind_some H
            refine cwp_loopE 1 (fun ρ' h77 => ∃ (x82 : List Int) (I78 : Gh), Sum.inr x82 = s76 ∧ Fits [(4, .pointer (some ⟨b1, 0, none⟩)), (6, .pointer (some ⟨b46, 0, none⟩))] ρ' ∧ Pst No I h I78 h77 ∧ OwnB I78 h77 b1 (List.map (Value.int .u8) (List.replicate 2 (0 : Int))) 36 ∧ List.length x82 = 2 ∧ OwnB I78 h77 b46 (List.map (Value.int .u8) x82) 36) ?_ ?_
            · refine cwp_loop (fun k' ρ' h66 => ∃ (x70 : Int) (x73 : List Int) (I67 : Gh), addr_Put.l1.m K x0 k' x70 x73 = some s76 ∧ Fits [(4, .pointer (some ⟨b1, 0, none⟩)), (6, .pointer (some ⟨b46, 0, none⟩)), (40, .slice (some ⟨b54, 0, none⟩) [(shr .i64 x0 6), (bAnd .i64 x0 63)].length 2), (41, .int .i64 ([(shr .i64 x0 6), (bAnd .i64 x0 63)].length : Int)), (42, .int .i64 x70)] ρ' ∧ Pst No I h I67 h66 ∧ Own (tInt .i64) I67 h66 (some ⟨b54, 0, none⟩) 2 [(shr .i64 x0 6), (bAnd .i64 x0 63)] ∧ OwnB I67 h66 b1 (List.map (Value.int .u8) (List.replicate 2 (0 : Int))) 36 ∧ List.length x73 = 2 ∧ OwnB I67 h66 b46 (List.map (Value.int .u8) x73) 36) K ⟨0, (List.replicate 2 (0 : Int)), I27, m84, ⟨by kernel_rfl, by kernel_rfl, by kernel_rfl, by kernel_rfl, by kernel_rfl, trivial⟩, pt59, w61, f125, (List.length_replicate (n := 2) (a := (0 : Int))), f126⟩ ?_
              clear m84
              rintro k' ρ' h66 ⟨x70, x73, I67, H, hf, pt68, r69, o71, hl72, o74⟩
              cases k' with
              | zero => cases H
              | succ k =>
                rw [addr_Put.l1.m] at H
                refine cwp_fits _ hf ?_
                obtain ⟨j94, e123, H⟩ := letJ_some H
                refine cwp_join (fun ρ' h87 => ∃ (x91 : Bool) (I88 : Gh), j94 x91 = some s76 ∧ Fits [(4, .pointer (some ⟨b1, 0, none⟩)), (6, .pointer (some ⟨b46, 0, none⟩)), (40, .slice (some ⟨b54, 0, none⟩) [(shr .i64 x0 6), (bAnd .i64 x0 63)].length 2), (41, .int .i64 ([(shr .i64 x0 6), (bAnd .i64 x0 63)].length : Int)), (42, .int .i64 x70), (43, .bool x91)] ρ' ∧ Pst No I h I88 h87 ∧ Own (tInt .i64) I88 h87 (some ⟨b54, 0, none⟩) 2 [(shr .i64 x0 6), (bAnd .i64 x0 63)] ∧ OwnB I88 h87 b1 (List.map (Value.int .u8) (List.replicate 2 (0 : Int))) 36 ∧ OwnB I88 h87 b46 (List.map (Value.int .u8) x73) 36) ?_ ?_
                · refine cwp_region ?_
                  by_cases c86 : x70 < ([(shr .i64 x0 6), (bAnd .i64 x0 63)].length : Int)
                  · rw [if_pos c86] at H
                    refine lwp_op (by kernel_rfl) (owp_pure ((.bool true)) (pr_bool (by kernel_rfl) (decide_eq_true c86)) ?_)
                    refine lwp_nil ?_
                    exact ⟨true, I67, H, ⟨by kernel_rfl, by kernel_rfl, by kernel_rfl, by kernel_rfl, by kernel_rfl, by kernel_rfl, trivial⟩, pt68, r69, o71, o74⟩
                  · rw [if_neg c86] at H
                    refine lwp_op (by kernel_rfl) (owp_pure ((.bool false)) (pr_bool (by kernel_rfl) (decide_eq_false c86)) ?_)
                    refine lwp_nil ?_
                    exact ⟨false, I67, H, ⟨by kernel_rfl, by kernel_rfl, by kernel_rfl, by kernel_rfl, by kernel_rfl, by kernel_rfl, trivial⟩, pt68, r69, o71, o74⟩
                · clear H
                  rintro ρ' h87 ⟨x91, I88, H, hf, pt89, r90, o92, o93⟩
                  refine cwp_fits _ hf ?_
                  subst e123
                  try dsimp only at H
                  refine cwp_seq ?_
                  cases x91
                  · rw [cond_false] at H
                    refine cwp_false (by kernel_rfl) ?_
                    refine cwp_exit ?_
                    obtain rfl := Option.some.inj H
                    show Exists _
                    exact ⟨x73, I88, rfl, ⟨by kernel_rfl, by kernel_rfl, trivial⟩, pt89, o92, hl72, o93⟩
                  · rw [cond_true] at H
                    refine cwp_true (by kernel_rfl) ?_
                    refine cwp_skip ?_
                    refine cwp_seq ?_
                    refine cwp_block ?_
                    refine cwp_seq ?_
                    refine cwp_region ?_
                    obtain ⟨c95, H⟩ := guard_pos H
                    obtain ⟨c96, H⟩ := guard_pos H
                    refine lwp_run 1 (by kernel_rfl) ?_
                    have hs97 := r90.isSome c95 c96
                    refine lwp_op (by kernel_rfl) (owp_pure (elemPtr (some ⟨b54, 0, none⟩) (x70.toNat * 1)) (pr_indexElem (e := 3) r90.toSl (k := .i64) (by kernel_rfl) (by kernel_rfl) (by kernel_rfl) (by kernel_rfl) c95 c96) ?_)
                    obtain ⟨cs98, hs99, rp100⟩ := r90.toSl.seg c95 c96
                    obtain rfl := rep_int rp100
                    refine lwp_op (by kernel_rfl) (owp_load (by kernel_rfl) (by kernel_rfl) (seg_cell (f := 0) hs99 rfl) ?_)
                    refine lwp_run 2 (by kernel_rfl) ?_
                    refine lwp_nil ?_
                    refine cwp_seq ?_
                    refine cwp_region ?_
                    refine lwp_run 1 (by kernel_rfl) ?_
                    obtain ⟨t101, m102, H⟩ := bind_some H
                    refine lwp_op (by kernel_rfl) (owp_callF (by kernel_rfl) (six_Put.calls pt89.bd m102) ?_)
                    rintro v103 h104 ⟨v107, rfl, rfl, q109⟩
                    refine lwp_run 5 (by kernel_rfl) ?_
                    refine lwp_nil ?_
                    refine cwp_seq ?_
                    refine cwp_seq ?_
                    refine cwp_region ?_
                    refine lwp_run 1 (by kernel_rfl) ?_
                    rcases q109.cases with ⟨c110, rfl⟩ | ⟨c110, t111, u112, rfl⟩
                    · rw [if_pos c110] at H
                      refine lwp_run 1 (by kernel_rfl) ?_
                      refine lwp_nil ?_
                      refine cwp_false (by kernel_rfl) ?_
                      refine cwp_skip ?_
                      refine cwp_region ?_
                      obtain ⟨c113, H⟩ := guard_pos H
                      refine lwp_run 2 (by kernel_rfl) ?_
                      refine lwp_op (by kernel_rfl) (owp_pure ((elemPtr (some ⟨b46, 0, none⟩) (x70.toNat * 1))) (pr_indexArr (e := 5) (kk := .i64) (n := 2) (by kernel_rfl) (by kernel_rfl) (by kernel_rfl) (by kernel_rfl) c95 c113) ?_)
                      refine lwp_op (by kernel_rfl) (owp_storeArr t101.1 pt89.bd o93 hl72 c95 c113 (by kernel_rfl) (by kernel_rfl) (by kernel_rfl) ?_)
                      intro h114 p115 o116
                      have pt117 := pt89.own p115 (one_fresh fr52)
                      refine lwp_nil ?_
                      refine cwp_region ?_
                      refine lwp_run 2 (by kernel_rfl) ?_
                      refine lwp_nil ?_
                      have f100001 := r90.post pt89.bd p115 (one_not o93.no) (dis_one d65)
                      have f100002 := o92.post p115 (fun e => d53 e.symm)
                      show Exists _
                      exact ⟨k, Nat.lt_succ_self _, (w64 (x70 + 1)), (x73.set x70.toNat t101.1), I88, H, ⟨by kernel_rfl, by kernel_rfl, by kernel_rfl, by kernel_rfl, by kernel_rfl, trivial⟩, pt117, f100001, f100002, (len_set hl72), o116⟩
                    · rw [if_neg c110] at H
                      refine lwp_run 1 (by kernel_rfl) ?_
                      refine lwp_nil ?_
                      refine cwp_true (by kernel_rfl) ?_
                      refine cwp_seq ?_
                      refine cwp_region ?_
                      refine lwp_run 2 (by kernel_rfl) ?_
                      refine lwp_op (by kernel_rfl) (owp_storeArrN (l2 := (List.replicate 2 (0 : Int))) pt89.bd o92 (List.length_replicate (n := 2) (a := (0 : Int))) (List.length_replicate (n := 2) (a := (0 : Int))) (by kernel_rfl) (by kernel_rfl) (by kernel_rfl) ?_)
                      intro h118 p119 o120
                      have pt121 := pt89.own p119 (one_fresh fr7)
                      refine lwp_run 1 (by kernel_rfl) ?_
                      refine lwp_nil ?_
                      refine cwp_ret ?_
                      obtain rfl := Option.some.inj H
                      obtain rfl := Option.some.inj HR85
                      have f122 := ErrV.up (p119.up pt89.bd (one_not o92.no)) q109
                      show Exists _
                      exact ⟨[.agg (List.map (Value.int .u8) (List.replicate 2 (0 : Int))).toArray, (.iface t111 u112)], (.cons (.agg (by kernel_rfl) (by kernel_rfl) (by kernel_rfl) (o120.arrSeg (List.length_replicate (n := 2) (a := (0 : Int))))) (.cons (.tmp (by kernel_rfl)) .nil)), I88, ((.iface t111 u112)), rfl, pt121, (List.length_replicate (n := 2) (a := (0 : Int))), f122⟩
            · rintro ρ' h77 ⟨x82, I78, rfl, hf, pt79, o80, hl81, o83⟩
              have H := HR85
              try dsimp only at H
              refine cwp_fits _ hf ?_
              refine cwp_seq ?_
              refine cwp_region ?_
              refine lwp_op (by kernel_rfl) (owp_loadN (by kernel_rfl) (by kernel_rfl) (by kernel_rfl) (o83.arrSeg hl81) ?_)
              refine lwp_op (by kernel_rfl) (owp_storeArrN (l2 := x82) pt79.bd o80 (List.length_replicate (n := 2) (a := (0 : Int))) hl81 (by kernel_rfl) (by kernel_rfl) (by kernel_rfl) ?_)
              intro h127 p128 o129
              have pt130 := pt79.own p128 (one_fresh fr7)
              refine lwp_run 1 (by kernel_rfl) ?_
              refine lwp_nil ?_
              refine cwp_ret ?_
              obtain rfl := Option.some.inj H
              show Exists _
              exact ⟨[.agg (List.map (Value.int .u8) x82).toArray, .nilIface], (.cons (.agg (by kernel_rfl) (by kernel_rfl) (by kernel_rfl) (o129.arrSeg hl81)) (.cons (.tmp (by kernel_rfl)) .nil)), I78, (.nilIface), rfl, pt130, hl81, (show ErrV I78 h127 GoErr.nil .nilIface from rfl)⟩
          · rw [cond_true] at H
            refine lwp_run 1 (by kernel_rfl) ?_
            refine lwp_nil ?_
            refine cwp_true (by kernel_rfl) ?_
            refine cwp_seq ?_
            refine cwp_region ?_
            refine lwp_run 6 (by kernel_rfl) ?_
            refine lwp_op (by kernel_rfl) (owp_storeArrN (l2 := [(IntKind.u8.wrap ((shr .i64 x0 8))), (IntKind.u8.wrap (x0))]) pt28.bd o30 (List.length_replicate (n := 2) (a := (0 : Int))) rfl (by kernel_rfl) (by kernel_rfl) (by kernel_rfl) ?_)
            intro h42 p43 o44
            have pt45 := pt28.own p43 (one_fresh fr7)
            refine lwp_run 1 (by kernel_rfl) ?_
            refine lwp_nil ?_
            refine cwp_ret ?_
            obtain rfl := Option.some.inj H
            show Exists _
            exact ⟨[.agg (List.map (Value.int .u8) [(IntKind.u8.wrap ((shr .i64 x0 8))), (IntKind.u8.wrap (x0))]).toArray, .nilIface], (.cons (.agg (by kernel_rfl) (by kernel_rfl) (by kernel_rfl) (o44.arrSeg rfl)) (.cons (.tmp (by kernel_rfl)) .nil)), I27, (.nilIface), rfl, pt45, rfl, (show ErrV I27 h42 GoErr.nil .nilIface from rfl)⟩
        · rw [cond_true] at H
          refine cwp_true (by kernel_rfl) ?_
          refine cwp_seq ?_
          refine cwp_region ?_
          refine lwp_run 2 (by kernel_rfl) ?_
          refine lwp_op (by kernel_rfl) (owp_storeArrN (l2 := (List.replicate 2 (0 : Int))) pt28.bd o30 (List.length_replicate (n := 2) (a := (0 : Int))) (List.length_replicate (n := 2) (a := (0 : Int))) (by kernel_rfl) (by kernel_rfl) (by kernel_rfl) ?_)
          intro h32 p33 o34
          have pt35 := pt28.own p33 (one_fresh fr7)
          refine lwp_run 1 (by kernel_rfl) ?_
          refine lwp_nil ?_
          refine cwp_ret ?_
          obtain rfl := Option.some.inj H
          show Exists _
          exact ⟨[.agg (List.map (Value.int .u8) (List.replicate 2 (0 : Int))).toArray, .iface 55 (.int .i64 4)], (.cons (.agg (by kernel_rfl) (by kernel_rfl) (by kernel_rfl) (o34.arrSeg (List.length_replicate (n := 2) (a := (0 : Int))))) (.cons (.tmp (by kernel_rfl)) .nil)), I27, (.iface 55 (.int .i64 4)), rfl, pt35, (List.length_replicate (n := 2) (a := (0 : Int))), (show ErrV I27 h32 (GoErr.no 4) (.iface 55 (.int .i64 4)) from rfl)⟩
    · rw [cond_true] at H
      refine cwp_true (by kernel_rfl) ?_
      refine cwp_seq ?_
      refine cwp_region ?_
      refine lwp_run 2 (by kernel_rfl) ?_
      refine lwp_op (by kernel_rfl) (owp_storeArrN (l2 := (List.replicate 2 (0 : Int))) pt16.bd o18 (List.length_replicate (n := 2) (a := (0 : Int))) (List.length_replicate (n := 2) (a := (0 : Int))) (by kernel_rfl) (by kernel_rfl) (by kernel_rfl) ?_)
      intro h20 p21 o22
      have pt23 := pt16.own p21 (one_fresh fr7)
      refine lwp_run 1 (by kernel_rfl) ?_
      refine lwp_nil ?_
      refine cwp_ret ?_
      obtain rfl := Option.some.inj H
      show Exists _
      exact ⟨[.agg (List.map (Value.int .u8) (List.replicate 2 (0 : Int))).toArray, .iface 55 (.int .i64 1)], (.cons (.agg (by kernel_rfl) (by kernel_rfl) (by kernel_rfl) (o22.arrSeg (List.length_replicate (n := 2) (a := (0 : Int))))) (.cons (.tmp (by kernel_rfl)) .nil)), I15, (.iface 55 (.int .i64 1)), rfl, pt23, (List.length_replicate (n := 2) (a := (0 : Int))), (show ErrV I15 h20 (GoErr.no 1) (.iface 55 (.int .i64 1)) from rfl)⟩

/-! shutter/addr.spot -/
def addr_spot.m (x0 : Int) (x1 : GoErr) : Option GoErr :=
  (some (GoErr.spot x0 x1))

set_option maxRecDepth 100000 in
theorem addr_spot.calls {I : Gh} {h : Heap} {x0 : Int} {x1 : GoErr} {v1 : Value} (hB : Bd I h) (q3 : ErrV I h x1 v1) {r : GoErr}
    (H : addr_spot.m x0 x1 = some r) :
    Ret Tryd.prog 38 #[.int .i64 x0, v1] h (fun v h' => ∃ (I' : Gh) (v19 : Value), v19 = v ∧ Pst No I h I' h' ∧ ErrV I' h' r v19) := by
  unfold addr_spot.m at H
  refine ret_of (args := [.int .i64 x0, v1]) (rs := [.tmp 4]) (N := 10) Tryd.func38 rfl rfl rfl (Nat.le_of_ble_eq_true rfl) ?_
  have pt0 : Pst No I h I h := Pst.refl hB
  refine cwp_seq ?_
  refine cwp_region ?_
  refine lwp_run 1 (by kernel_rfl) ?_
  refine lwp_nil ?_
  refine cwp_seq ?_
  refine cwp_region ?_
  refine lwp_run 2 (by kernel_rfl) ?_
  rcases q3.cases with ⟨c4, rfl⟩ | ⟨c4, t5, u6, rfl⟩
  · refine lwp_run 1 (by kernel_rfl) ?_
    refine lwp_op (by kernel_rfl) (owp_box [.int .i64 x0, .nilIface] hB (by kernel_rfl) ?_)
    intro b7 h8 hc9 p10 o11
    have pt12 := pt0.no p10
    have fr13 := Nat.le_trans pt0.size hc9
    have f14 := ErrV.up (p10.up hB (fun _ x => x.elim)) q3
    have pt15 := post_fzB o11 p10.bd pt12 fr13
    have bd16 := bd_fzB o11 p10.bd
    have q17 := mk_spot (a := x0) (e := x1) o11 f14
    refine lwp_run 2 (by kernel_rfl) ?_
    refine lwp_nil ?_
    refine cwp_ret ?_
    obtain rfl := Option.some.inj H
    show Exists _
    exact ⟨(.iface 64 (.pointer (some ⟨b7, 0, none⟩))), by kernel_rfl, (Fz I (some ⟨b7, 0, none⟩)), ((.iface 64 (.pointer (some ⟨b7, 0, none⟩)))), rfl, pt15, q17⟩
  · refine lwp_run 1 (by kernel_rfl) ?_
    refine lwp_op (by kernel_rfl) (owp_box [.int .i64 x0, (.iface t5 u6)] hB (by kernel_rfl) ?_)
    intro b7 h8 hc9 p10 o11
    have pt12 := pt0.no p10
    have fr13 := Nat.le_trans pt0.size hc9
    have f14 := ErrV.up (p10.up hB (fun _ x => x.elim)) q3
    have pt15 := post_fzB o11 p10.bd pt12 fr13
    have bd16 := bd_fzB o11 p10.bd
    have q17 := mk_spot (a := x0) (e := x1) o11 f14
    refine lwp_run 2 (by kernel_rfl) ?_
    refine lwp_nil ?_
    refine cwp_ret ?_
    obtain rfl := Option.some.inj H
    show Exists _
    exact ⟨(.iface 64 (.pointer (some ⟨b7, 0, none⟩))), by kernel_rfl, (Fz I (some ⟨b7, 0, none⟩)), ((.iface 64 (.pointer (some ⟨b7, 0, none⟩)))), rfl, pt15, q17⟩

/-! shutter/six.Low -/
def six_Low.m (x0 : Int) : Option Int :=
  (some (w64 ((bAnd .u8 x0 63))))

set_option maxRecDepth 100000 in
theorem six_Low.calls {I : Gh} {h : Heap} {x0 : Int} (_hB : Bd I h)  {r : Int}
    (H : six_Low.m x0 = some r) :
    Ret Tryd.prog 49 #[.int .u8 x0] h (fun v h' => ∃ _ : Unit, .int .i64 r = v ∧ h = h') := by
  unfold six_Low.m at H
  refine ret_of (args := [.int .u8 x0]) (rs := [.tmp 2]) (N := 6) Tryd.func49 rfl rfl rfl (Nat.le_of_ble_eq_true rfl) ?_
  refine cwp_seq ?_
  refine cwp_region ?_
  refine lwp_run 1 (by kernel_rfl) ?_
  refine lwp_nil ?_
  refine cwp_seq ?_
  refine cwp_region ?_
  refine lwp_run 4 (by kernel_rfl) ?_
  refine lwp_nil ?_
  refine cwp_ret ?_
  obtain rfl := Option.some.inj H
  show Exists _
  exact ⟨.int .i64 (w64 ((bAnd .u8 x0 63))), by kernel_rfl, (), rfl, rfl⟩

/-! shutter/six.Get -/
def six_Get.m (x0 : Int) : Option (Int × GoErr) :=
  ((six_Low.m x0).bind fun t1 => ((six_at.m t1).bind fun t7 => (if t7 = x0 then (some (t1, GoErr.nil)) else (some (0, (GoErr.no 3))))))

set_option maxRecDepth 100000 in
theorem six_Get.calls {I : Gh} {h : Heap} {x0 : Int} (hB : Bd I h)  {r : (Int × GoErr)}
    (H : six_Get.m x0 = some r) :
    Ret Tryd.prog 42 #[.int .u8 x0] h (fun v h' => ∃ (v14 : Value), .tuple #[.int .i64 r.1, v14] = v ∧ h = h' ∧ ErrV I h r.2 v14) := by
  unfold six_Get.m at H
  refine ret_of (args := [.int .u8 x0]) (rs := [.tmp 2, .tmp 3]) (N := 13) Tryd.func42 rfl rfl rfl (Nat.le_of_ble_eq_true rfl) ?_
  refine cwp_seq ?_
  refine cwp_region ?_
  refine lwp_run 2 (by kernel_rfl) ?_
  refine lwp_nil ?_
  refine cwp_seq ?_
  refine cwp_seq ?_
  refine cwp_region ?_
  refine lwp_run 1 (by kernel_rfl) ?_
  obtain ⟨t1, m2, H⟩ := bind_some H
  refine lwp_op (by kernel_rfl) (owp_callF (by kernel_rfl) (six_Low.calls hB m2) ?_)
  rintro v3 h4 ⟨_, rfl, rfl⟩
  refine lwp_run 1 (by kernel_rfl) ?_
  refine lwp_nil ?_
  refine cwp_seq ?_
  refine cwp_region ?_
  refine lwp_run 1 (by kernel_rfl) ?_
  obtain ⟨t7, m8, H⟩ := bind_some H
  refine lwp_op (by kernel_rfl) (owp_callF (by kernel_rfl) (six_at.calls hB m8) ?_)
  rintro v9 h10 ⟨_, rfl, rfl⟩
  refine lwp_run 1 (by kernel_rfl) ?_
  by_cases c13 : t7 = x0
  · rw [if_pos c13] at H
    refine lwp_op (by kernel_rfl) (owp_pure ((.bool true)) (pr_bool (by kernel_rfl) (eqT c13)) ?_)
    refine lwp_nil ?_
    refine cwp_true (by kernel_rfl) ?_
    refine cwp_seq ?_
    refine cwp_region ?_
    refine lwp_run 3 (by kernel_rfl) ?_
    refine lwp_nil ?_
    refine cwp_ret ?_
    obtain rfl := Option.some.inj H
    show Exists _
    exact ⟨.tuple #[.int .i64 t1, .nilIface], by kernel_rfl, (.nilIface), rfl, rfl, (show ErrV I h GoErr.nil .nilIface from rfl)⟩
  · rw [if_neg c13] at H
    refine lwp_op (by kernel_rfl) (owp_pure ((.bool false)) (pr_bool (by kernel_rfl) (eqF c13)) ?_)
    refine lwp_nil ?_
    refine cwp_false (by kernel_rfl) ?_
    refine cwp_skip ?_
    refine cwp_seq ?_
    refine cwp_region ?_
    refine lwp_run 3 (by kernel_rfl) ?_
    refine lwp_nil ?_
    refine cwp_ret ?_
    obtain rfl := Option.some.inj H
    show Exists _
    exact ⟨.tuple #[.int .i64 0, .iface 55 (.int .i64 3)], by kernel_rfl, (.iface 55 (.int .i64 3)), rfl, rfl, (show ErrV I h (GoErr.no 3) (.iface 55 (.int .i64 3)) from rfl)⟩

/-! shutter/addr.short -/
def addr_short.l1.m (K : Nat) (x0 : (List Int)) : Nat → Int → Int → Option ((Int × GoErr) ⊕ (Int))
  | 0, _, _ => none
  | k + 1, x9, x10 => (letJ (fun (x24 : Bool) => (bif x24 then (if 0 ≤ x10 then (if x10 < (x0.length : Int) then ((six_Get.m (at_ x0 x10)).bind fun t32 => (if t32.2 = GoErr.nil then (addr_short.l1.m K x0 k (bOr .i64 (shl .i64 x9 6) t32.1) (w64 (x10 + 1))) else ((addr_spot.m x10 t32.2).bind fun t44 => (some (Sum.inl (0, t44)))))) else none) else none) else (some (Sum.inr x9)))) fun (j25 : Bool → Option ((Int × GoErr) ⊕ (Int))) => (if x10 < 2 then (j25 true) else (j25 false)))
def addr_short.m (K : Nat) (x0 : (List Int)) : Option (Int × GoErr) :=
  ((addr_short.l1.m K x0 K 0 0).bind fun s12 => match s12 with | .inl q => (some q) | .inr x16 => (some (x16, GoErr.nil)))

set_option maxRecDepth 100000 in
theorem addr_short.calls {I : Gh} {h : Heap} {K : Nat} {x0 : List Int} {a1 : Option Addr} {c2 : Nat} (hB : Bd I h) (r4 : Rd (tInt .u8) I h a1 c2 x0) {r : (Int × GoErr)}
    (H : addr_short.m K x0 = some r) :
    Ret Tryd.prog 37 #[.slice a1 x0.length c2] h (fun v h' => ∃ (I' : Gh) (v56 : Value), .tuple #[.int .i64 r.1, v56] = v ∧ Pst No I h I' h' ∧ ErrV I' h' r.2 v56) := by
  unfold addr_short.m at H
  refine ret_of (args := [.slice a1 x0.length c2]) (rs := [.tmp 2, .tmp 3]) (N := 30) Tryd.func37 rfl rfl rfl (Nat.le_of_ble_eq_true rfl) ?_
  have pt0 : Pst No I h I h := Pst.refl hB
  refine cwp_seq ?_
  refine cwp_region ?_
  refine lwp_run 2 (by kernel_rfl) ?_
  refine lwp_nil ?_
  refine cwp_seq ?_
  refine cwp_region ?_
  refine lwp_run 1 (by kernel_rfl) ?_
  refine lwp_nil ?_
  refine cwp_seq ?_
  refine cwp_seq ?_
  refine cwp_region ?_
  refine lwp_run 1 (by kernel_rfl) ?_
  refine lwp_nil ?_
  refine cwp_block ?_
  obtain ⟨s12, m17, HR18⟩ := bind_some H
  refine cwp_loopE 0 (fun ρ' h13 => ∃ (x16 : Int) (I14 : Gh), Sum.inr x16 = s12 ∧ Fits [(4, .int .i64 x16)] ρ' ∧ Pst No I h I14 h13) ?_ ?_
  · refine cwp_loop (fun k' ρ' h5 => ∃ (x9 : Int) (x10 : Int) (I6 : Gh), addr_short.l1.m K x0 k' x9 x10 = some s12 ∧ Fits [(0, .slice a1 x0.length c2), (4, .int .i64 x9), (8, .int .i64 x10)] ρ' ∧ Pst No I h I6 h5 ∧ Rd (tInt .u8) I6 h5 a1 c2 x0) K ⟨0, 0, I, m17, ⟨by kernel_rfl, by kernel_rfl, by kernel_rfl, trivial⟩, pt0, r4⟩ ?_
    clear m17
    rintro k' ρ' h5 ⟨x9, x10, I6, H, hf, pt7, r8⟩
    cases k' with
    | zero => cases H
    | succ k =>
      rw [addr_short.l1.m] at H
      refine cwp_fits _ hf ?_
      obtain ⟨j25, e55, H⟩ := letJ_some H
      refine cwp_join (fun ρ' h20 => ∃ (x24 : Bool) (I21 : Gh), j25 x24 = some s12 ∧ Fits [(0, .slice a1 x0.length c2), (4, .int .i64 x9), (8, .int .i64 x10), (9, .bool x24)] ρ' ∧ Pst No I h I21 h20 ∧ Rd (tInt .u8) I21 h20 a1 c2 x0) ?_ ?_
      · refine cwp_region ?_
        by_cases c19 : x10 < 2
        · rw [if_pos c19] at H
          refine lwp_op (by kernel_rfl) (owp_pure ((.bool true)) (pr_bool (by kernel_rfl) (decide_eq_true c19)) ?_)
          refine lwp_nil ?_
          exact ⟨true, I6, H, ⟨by kernel_rfl, by kernel_rfl, by kernel_rfl, by kernel_rfl, trivial⟩, pt7, r8⟩
        · rw [if_neg c19] at H
          refine lwp_op (by kernel_rfl) (owp_pure ((.bool false)) (pr_bool (by kernel_rfl) (decide_eq_false c19)) ?_)
          refine lwp_nil ?_
          exact ⟨false, I6, H, ⟨by kernel_rfl, by kernel_rfl, by kernel_rfl, by kernel_rfl, trivial⟩, pt7, r8⟩
      · clear H
        rintro ρ' h20 ⟨x24, I21, H, hf, pt22, r23⟩
        refine cwp_fits _ hf ?_
        subst e55
        try dsimp only at H
        refine cwp_seq ?_
        cases x24
        · rw [cond_false] at H
          refine cwp_false (by kernel_rfl) ?_
          refine cwp_exit ?_
          obtain rfl := Option.some.inj H
          show Exists _
          exact ⟨x9, I21, rfl, ⟨by kernel_rfl, trivial⟩, pt22⟩
        · rw [cond_true] at H
          refine cwp_true (by kernel_rfl) ?_
          refine cwp_skip ?_
          refine cwp_seq ?_
          refine cwp_block ?_
          refine cwp_seq ?_
          refine cwp_region ?_
          refine lwp_run 2 (by kernel_rfl) ?_
          refine lwp_nil ?_
          refine cwp_seq ?_
          refine cwp_region ?_
          obtain ⟨c26, H⟩ := guard_pos H
          obtain ⟨c27, H⟩ := guard_pos H
          refine lwp_run 2 (by kernel_rfl) ?_
          have hs28 := r23.isSome c26 c27
          refine lwp_op (by kernel_rfl) (owp_pure (elemPtr a1 (x10.toNat * 1)) (pr_indexElem (e := 5) r23.toSl (k := .i64) (by kernel_rfl) (by kernel_rfl) (by kernel_rfl) (by kernel_rfl) c26 c27) ?_)
          obtain ⟨cs29, hs30, rp31⟩ := r23.toSl.seg c26 c27
          obtain rfl := rep_int rp31
          refine lwp_op (by kernel_rfl) (owp_load (by kernel_rfl) (by kernel_rfl) (seg_cell (f := 0) hs30 rfl) ?_)
          obtain ⟨t32, m33, H⟩ := bind_some H
          refine lwp_op (by kernel_rfl) (owp_callF (by kernel_rfl) (six_Get.calls pt22.bd m33) ?_)
          rintro v34 h35 ⟨v38, rfl, rfl, q40⟩
          refine lwp_run 5 (by kernel_rfl) ?_
          refine lwp_nil ?_
          refine cwp_seq ?_
          refine cwp_seq ?_
          refine cwp_region ?_
          refine lwp_run 1 (by kernel_rfl) ?_
          rcases q40.cases with ⟨c41, rfl⟩ | ⟨c41, t42, u43, rfl⟩
          · rw [if_pos c41] at H
            refine lwp_run 1 (by kernel_rfl) ?_
            refine lwp_nil ?_
            refine cwp_false (by kernel_rfl) ?_
            refine cwp_skip ?_
            refine cwp_region ?_
            refine lwp_run 5 (by kernel_rfl) ?_
            refine lwp_nil ?_
            refine cwp_region ?_
            refine lwp_run 2 (by kernel_rfl) ?_
            refine lwp_nil ?_
            show Exists _
            exact ⟨k, Nat.lt_succ_self _, (bOr .i64 (shl .i64 x9 6) t32.1), (w64 (x10 + 1)), I21, H, ⟨by kernel_rfl, by kernel_rfl, by kernel_rfl, trivial⟩, pt22, r23⟩
          · rw [if_neg c41] at H
            refine lwp_run 1 (by kernel_rfl) ?_
            refine lwp_nil ?_
            refine cwp_true (by kernel_rfl) ?_
            refine cwp_seq ?_
            refine cwp_region ?_
            refine lwp_run 2 (by kernel_rfl) ?_
            obtain ⟨t44, m45, H⟩ := bind_some H
            refine lwp_op (by kernel_rfl) (owp_callF (by kernel_rfl) (addr_spot.calls pt22.bd q40 m45) ?_)
            rintro v46 h47 ⟨I48, v51, rfl, p49, q53⟩
            have pt54 := pt22.no p49
            refine lwp_run 2 (by kernel_rfl) ?_
            refine lwp_nil ?_
            refine cwp_ret ?_
            obtain rfl := Option.some.inj H
            obtain rfl := Option.some.inj HR18
            show Exists _
            exact ⟨.tuple #[.int .i64 0, v51], by kernel_rfl, I48, (v51), rfl, pt54, q53⟩
  · rintro ρ' h13 ⟨x16, I14, rfl, hf, pt15⟩
    have H := HR18
    try dsimp only at H
    refine cwp_fits _ hf ?_
    refine cwp_seq ?_
    refine cwp_region ?_
    refine lwp_run 3 (by kernel_rfl) ?_
    refine lwp_nil ?_
    refine cwp_ret ?_
    obtain rfl := Option.some.inj H
    show Exists _
    exact ⟨.tuple #[.int .i64 x16, .nilIface], by kernel_rfl, I14, (.nilIface), rfl, pt15, (show ErrV I14 h13 GoErr.nil .nilIface from rfl)⟩

/-! shutter/addr.Get -/
def addr_Get.m (K : Nat) (x0 : (List Int)) (x1 : Int) : Option (Int × GoErr) :=
  ((addr_sized.m x1).bind fun t5 => bif t5 then (if (x0.length : Int) < 2 then (some (0, (GoErr.no 2))) else (if 0 < (x0.length : Int) then (if 1 < (x0.length : Int) then (letJ (fun (x32 : Bool) => (bif x32 then ((addr_short.m K x0).bind fun t34 => (if t34.2 = GoErr.nil then (if t34.1 ≥ x1 then (some (0, (GoErr.no 4))) else (some (t34.1, GoErr.nil))) else (some (0, t34.2)))) else (if (at_ x0 0) > 63 then ((addr_spot.m 0 (GoErr.no 3)).bind fun t54 => (some (0, t54))) else (if (bOr .i64 (shl .i64 (w64 ((at_ x0 0))) 8) (w64 ((at_ x0 1)))) ≥ x1 then (some (0, (GoErr.no 4))) else (some ((bOr .i64 (shl .i64 (w64 ((at_ x0 0))) 8) (w64 ((at_ x0 1)))), GoErr.nil)))))) fun (j33 : Bool → Option (Int × GoErr)) => ((addr_Long.m x1).bind fun t22 => bif t22 then (j33 false) else (j33 true))) else none) else none)) else (some (0, (GoErr.no 1))))

set_option maxRecDepth 100000 in
theorem addr_Get.calls {I : Gh} {h : Heap} {K : Nat} {x0 : List Int} {a1 : Option Addr} {c2 : Nat} {x1 : Int} (hB : Bd I h) (r4 : Rd (tInt .u8) I h a1 c2 x0) {r : (Int × GoErr)}
    (H : addr_Get.m K x0 x1 = some r) :
    Ret Tryd.prog 21 #[.slice a1 x0.length c2, .int .i64 x1] h (fun v h' => ∃ (I' : Gh) (v67 : Value), .tuple #[.int .i64 r.1, v67] = v ∧ Pst No I h I' h' ∧ ErrV I' h' r.2 v67) := by
  unfold addr_Get.m at H
  refine ret_of (args := [.slice a1 x0.length c2, .int .i64 x1]) (rs := [.tmp 4, .tmp 5]) (N := 52) Tryd.func21 rfl rfl rfl (Nat.le_of_ble_eq_true rfl) ?_
  have pt0 : Pst No I h I h := Pst.refl hB
  refine cwp_seq ?_
  refine cwp_region ?_
  refine lwp_run 2 (by kernel_rfl) ?_
  refine lwp_nil ?_
  refine cwp_seq ?_
  refine cwp_seq ?_
  refine cwp_region ?_
  refine lwp_run 1 (by kernel_rfl) ?_
  obtain ⟨t5, m6, H⟩ := bind_some H
  refine lwp_op (by kernel_rfl) (owp_callF (by kernel_rfl) (addr_sized.calls hB m6) ?_)
  rintro v7 h8 ⟨_, rfl, rfl⟩
  cases t5
  · rw [cond_false] at H
    refine lwp_run 1 (by kernel_rfl) ?_
    refine lwp_nil ?_
    refine cwp_true (by kernel_rfl) ?_
    refine cwp_seq ?_
    refine cwp_region ?_
    refine lwp_run 3 (by kernel_rfl) ?_
    refine lwp_nil ?_
    refine cwp_ret ?_
    obtain rfl := Option.some.inj H
    show Exists _
    exact ⟨.tuple #[.int .i64 0, .iface 55 (.int .i64 1)], by kernel_rfl, I, (.iface 55 (.int .i64 1)), rfl, pt0, (show ErrV I h (GoErr.no 1) (.iface 55 (.int .i64 1)) from rfl)⟩
  · rw [cond_true] at H
    refine lwp_run 1 (by kernel_rfl) ?_
    refine lwp_nil ?_
    refine cwp_false (by kernel_rfl) ?_
    refine cwp_skip ?_
    refine cwp_seq ?_
    refine cwp_seq ?_
    refine cwp_region ?_
    refine lwp_run 2 (by kernel_rfl) ?_
    by_cases c11 : (x0.length : Int) < 2
    · rw [if_pos c11] at H
      refine lwp_op (by kernel_rfl) (owp_pure ((.bool true)) (pr_bool (by kernel_rfl) (decide_eq_true c11)) ?_)
      refine lwp_nil ?_
      refine cwp_true (by kernel_rfl) ?_
      refine cwp_seq ?_
      refine cwp_region ?_
      refine lwp_run 3 (by kernel_rfl) ?_
      refine lwp_nil ?_
      refine cwp_ret ?_
      obtain rfl := Option.some.inj H
      show Exists _
      exact ⟨.tuple #[.int .i64 0, .iface 55 (.int .i64 2)], by kernel_rfl, I, (.iface 55 (.int .i64 2)), rfl, pt0, (show ErrV I h (GoErr.no 2) (.iface 55 (.int .i64 2)) from rfl)⟩
    · rw [if_neg c11] at H
      refine lwp_op (by kernel_rfl) (owp_pure ((.bool false)) (pr_bool (by kernel_rfl) (decide_eq_false c11)) ?_)
      refine lwp_nil ?_
      refine cwp_false (by kernel_rfl) ?_
      refine cwp_skip ?_
      refine cwp_seq ?_
      refine cwp_regionD (Keep No h) (by kernel_rfl) ?_
      obtain ⟨c12, H⟩ := guard_pos H
      refine awp_run (fuel := 10) [0] Keep.refl (by kernel_rfl) ?_
      have hs13 := r4.isSome (by decide) c12
      refine awp_pure 1 (elemPtr a1 ((0 : Int).toNat * 1)) rfl (by kernel_rfl) (by kernel_rfl) (pr_indexElem (e := 5) r4.toSl (k := .i64) (by kernel_rfl) (by kernel_rfl) (by kernel_rfl) (by kernel_rfl) (by decide) c12) Keep.refl ?_
      obtain ⟨cs14, hs15, rp16⟩ := r4.toSl.seg (by decide) c12
      obtain rfl := rep_int rp16
      refine awp_load 2 rfl (by kernel_rfl) (by kernel_rfl) (by kernel_rfl) (by kernel_rfl) Keep.refl (seg_cell (f := 0) hs15 rfl) (fun _ _ x => x.elim) ?_
      obtain ⟨c17, H⟩ := guard_pos H
      refine awp_run (fuel := 5) [3, 4, 5] Keep.refl (by kernel_rfl) ?_
      have hs18 := r4.isSome (by decide) c17
      refine awp_pure 6 (elemPtr a1 ((1 : Int).toNat * 1)) rfl (by kernel_rfl) (by kernel_rfl) (pr_indexElem (e := 5) r4.toSl (k := .i64) (by kernel_rfl) (by kernel_rfl) (by kernel_rfl) (by kernel_rfl) (by decide) c17) Keep.refl ?_
      obtain ⟨cs19, hs20, rp21⟩ := r4.toSl.seg (by decide) c17
      obtain rfl := rep_int rp21
      refine awp_load 7 rfl (by kernel_rfl) (by kernel_rfl) (by kernel_rfl) (by kernel_rfl) Keep.refl (seg_cell (f := 0) hs20 rfl) (fun _ _ x => x.elim) ?_
      refine awp_run (fuel := 0) [8, 9, 10] Keep.refl (by kernel_rfl) ?_
      refine awp_nil (by kernel_rfl) ?_ 0
      refine cwp_seq ?_
      refine cwp_block ?_
      obtain ⟨j33, e66, H⟩ := letJ_some H
      refine cwp_join (fun ρ' h28 => ∃ (x32 : Bool) (I29 : Gh), j33 x32 = some r ∧ Fits [(0, .slice a1 x0.length c2), (1, .int .i64 x1), (6, .int .i64 (bOr .i64 (shl .i64 (w64 ((at_ x0 0))) 8) (w64 ((at_ x0 1))))), (27, .bool x32)] ρ' ∧ Pst No I h I29 h28 ∧ Rd (tInt .u8) I29 h28 a1 c2 x0) ?_ ?_
      · refine cwp_region ?_
        refine lwp_run 1 (by kernel_rfl) ?_
        obtain ⟨t22, m23, H⟩ := bind_some H
        refine lwp_op (by kernel_rfl) (owp_callF (by kernel_rfl) (addr_Long.calls hB m23) ?_)
        rintro v24 h25 ⟨_, rfl, rfl⟩
        cases t22
        · rw [cond_false] at H
          refine lwp_run 2 (by kernel_rfl) ?_
          refine lwp_nil ?_
          exact ⟨true, I, H, ⟨by kernel_rfl, by kernel_rfl, by kernel_rfl, by kernel_rfl, trivial⟩, pt0, r4⟩
        · rw [cond_true] at H
          refine lwp_run 2 (by kernel_rfl) ?_
          refine lwp_nil ?_
          exact ⟨false, I, H, ⟨by kernel_rfl, by kernel_rfl, by kernel_rfl, by kernel_rfl, trivial⟩, pt0, r4⟩
      · clear H
        rintro ρ' h28 ⟨x32, I29, H, hf, pt30, r31⟩
        refine cwp_fits _ hf ?_
        subst e66
        try dsimp only at H
        cases x32
        · rw [cond_false] at H
          refine cwp_false (by kernel_rfl) ?_
          refine cwp_seq ?_
          refine cwp_region ?_
          refine lwp_run 1 (by kernel_rfl) ?_
          have hs49 := r31.isSome (by decide) c12
          refine lwp_op (by kernel_rfl) (owp_pure (elemPtr a1 ((0 : Int).toNat * 1)) (pr_indexElem (e := 5) r31.toSl (k := .i64) (by kernel_rfl) (by kernel_rfl) (by kernel_rfl) (by kernel_rfl) (by decide) c12) ?_)
          obtain ⟨cs50, hs51, rp52⟩ := r31.toSl.seg (by decide) c12
          obtain rfl := rep_int rp52
          refine lwp_op (by kernel_rfl) (owp_load (by kernel_rfl) (by kernel_rfl) (seg_cell (f := 0) hs51 rfl) ?_)
          by_cases c53 : (at_ x0 0) > 63
          · rw [if_pos c53] at H
            refine lwp_op (by kernel_rfl) (owp_pure ((.bool true)) (pr_bool (by kernel_rfl) (decide_eq_true c53)) ?_)
            refine lwp_run 1 (by kernel_rfl) ?_
            refine lwp_nil ?_
            refine cwp_true (by kernel_rfl) ?_
            refine cwp_seq ?_
            refine cwp_region ?_
            refine lwp_run 1 (by kernel_rfl) ?_
            obtain ⟨t54, m55, H⟩ := bind_some H
            refine lwp_op (by kernel_rfl) (owp_callF (by kernel_rfl) (addr_spot.calls pt30.bd (show ErrV I29 h28 (GoErr.no 3) (.iface 55 (.int .i64 3)) from rfl) m55) ?_)
            rintro v56 h57 ⟨I58, v61, rfl, p59, q63⟩
            have pt64 := pt30.no p59
            refine lwp_run 2 (by kernel_rfl) ?_
            refine lwp_nil ?_
            refine cwp_ret ?_
            obtain rfl := Option.some.inj H
            show Exists _
            exact ⟨.tuple #[.int .i64 0, v61], by kernel_rfl, I58, (v61), rfl, pt64, q63⟩
          · rw [if_neg c53] at H
            refine lwp_op (by kernel_rfl) (owp_pure ((.bool false)) (pr_bool (by kernel_rfl) (decide_eq_false c53)) ?_)
            refine lwp_run 1 (by kernel_rfl) ?_
            refine lwp_nil ?_
            refine cwp_false (by kernel_rfl) ?_
            refine cwp_skip ?_
            refine cwp_seq ?_
            refine cwp_seq ?_
            refine cwp_region ?_
            refine lwp_run 2 (by kernel_rfl) ?_
            by_cases c65 : (bOr .i64 (shl .i64 (w64 ((at_ x0 0))) 8) (w64 ((at_ x0 1)))) ≥ x1
            · rw [if_pos c65] at H
              refine lwp_op (by kernel_rfl) (owp_pure ((.bool true)) (pr_bool (by kernel_rfl) (decide_eq_true c65)) ?_)
              refine lwp_nil ?_
              refine cwp_true (by kernel_rfl) ?_
              refine cwp_seq ?_
              refine cwp_region ?_
              refine lwp_run 3 (by kernel_rfl) ?_
              refine lwp_nil ?_
              refine cwp_ret ?_
              obtain rfl := Option.some.inj H
              show Exists _
              exact ⟨.tuple #[.int .i64 0, .iface 55 (.int .i64 4)], by kernel_rfl, I29, (.iface 55 (.int .i64 4)), rfl, pt30, (show ErrV I29 h28 (GoErr.no 4) (.iface 55 (.int .i64 4)) from rfl)⟩
            · rw [if_neg c65] at H
              refine lwp_op (by kernel_rfl) (owp_pure ((.bool false)) (pr_bool (by kernel_rfl) (decide_eq_false c65)) ?_)
              refine lwp_nil ?_
              refine cwp_false (by kernel_rfl) ?_
              refine cwp_skip ?_
              refine cwp_seq ?_
              refine cwp_region ?_
              refine lwp_run 3 (by kernel_rfl) ?_
              refine lwp_nil ?_
              refine cwp_ret ?_
              obtain rfl := Option.some.inj H
              show Exists _
              exact ⟨.tuple #[.int .i64 (bOr .i64 (shl .i64 (w64 ((at_ x0 0))) 8) (w64 ((at_ x0 1)))), .nilIface], by kernel_rfl, I29, (.nilIface), rfl, pt30, (show ErrV I29 h28 GoErr.nil .nilIface from rfl)⟩
        · rw [cond_true] at H
          refine cwp_true (by kernel_rfl) ?_
          refine cwp_seq ?_
          refine cwp_region ?_
          refine lwp_run 1 (by kernel_rfl) ?_
          obtain ⟨t34, m35, H⟩ := bind_some H
          refine lwp_op (by kernel_rfl) (owp_callF (by kernel_rfl) (addr_short.calls pt30.bd r31 m35) ?_)
          rintro v36 h37 ⟨I38, v41, rfl, p39, q43⟩
          have pt44 := pt30.no p39
          refine lwp_run 5 (by kernel_rfl) ?_
          refine lwp_nil ?_
          refine cwp_seq ?_
          refine cwp_seq ?_
          refine cwp_region ?_
          refine lwp_run 1 (by kernel_rfl) ?_
          rcases q43.cases with ⟨c45, rfl⟩ | ⟨c45, t46, u47, rfl⟩
          · rw [if_pos c45] at H
            refine lwp_run 1 (by kernel_rfl) ?_
            refine lwp_nil ?_
            refine cwp_false (by kernel_rfl) ?_
            refine cwp_skip ?_
            refine cwp_region ?_
            refine lwp_run 2 (by kernel_rfl) ?_
            refine lwp_nil ?_
            refine cwp_seq ?_
            refine cwp_seq ?_
            refine cwp_region ?_
            refine lwp_run 2 (by kernel_rfl) ?_
            by_cases c48 : t34.1 ≥ x1
            · rw [if_pos c48] at H
              refine lwp_op (by kernel_rfl) (owp_pure ((.bool true)) (pr_bool (by kernel_rfl) (decide_eq_true c48)) ?_)
              refine lwp_nil ?_
              refine cwp_true (by kernel_rfl) ?_
              refine cwp_seq ?_
              refine cwp_region ?_
              refine lwp_run 3 (by kernel_rfl) ?_
              refine lwp_nil ?_
              refine cwp_ret ?_
              obtain rfl := Option.some.inj H
              show Exists _
              exact ⟨.tuple #[.int .i64 0, .iface 55 (.int .i64 4)], by kernel_rfl, I38, (.iface 55 (.int .i64 4)), rfl, pt44, (show ErrV I38 h37 (GoErr.no 4) (.iface 55 (.int .i64 4)) from rfl)⟩
            · rw [if_neg c48] at H
              refine lwp_op (by kernel_rfl) (owp_pure ((.bool false)) (pr_bool (by kernel_rfl) (decide_eq_false c48)) ?_)
              refine lwp_nil ?_
              refine cwp_false (by kernel_rfl) ?_
              refine cwp_skip ?_
              refine cwp_seq ?_
              refine cwp_region ?_
              refine lwp_run 3 (by kernel_rfl) ?_
              refine lwp_nil ?_
              refine cwp_ret ?_
              obtain rfl := Option.some.inj H
              show Exists _
              exact ⟨.tuple #[.int .i64 t34.1, .nilIface], by kernel_rfl, I38, (.nilIface), rfl, pt44, (show ErrV I38 h37 GoErr.nil .nilIface from rfl)⟩
          · rw [if_neg c45] at H
            refine lwp_run 1 (by kernel_rfl) ?_
            refine lwp_nil ?_
            refine cwp_true (by kernel_rfl) ?_
            refine cwp_seq ?_
            refine cwp_region ?_
            refine lwp_run 3 (by kernel_rfl) ?_
            refine lwp_nil ?_
            refine cwp_ret ?_
            obtain rfl := Option.some.inj H
            show Exists _
            exact ⟨.tuple #[.int .i64 0, (.iface t46 u47)], by kernel_rfl, I38, ((.iface t46 u47)), rfl, pt44, q43⟩

/-! shutter/shutterlaw04.awake -/
def shutterlaw04_awake.m (K : Nat)  : Option Bool :=
  ((addr_Put.m K 80 1920).bind fun t1 => ((addr_Put.m K 5000 8000).bind fun t24 => ((addr_Get.m K [193, 80] 1920).bind fun t67 => ((addr_Get.m K [] 1920).bind fun t78 => (if t1.2 = GoErr.nil then (bif (t1.1 == [193, 80]) then (if t24.2 = GoErr.nil then (bif (t24.1 == [19, 136]) then (if t67.2 = GoErr.nil then (if t67.1 = 80 then ((api_Code.m t78.2).bind fun t128 => (some (t128 == 2))) else (some false)) else (some false)) else (some false)) else (some false)) else (some false)) else (some false))))))

set_option maxRecDepth 100000 in
theorem shutterlaw04_awake.calls {I : Gh} {h : Heap} {K : Nat}  (hB : Bd I h) (hG : Glob I h) {r : Bool}
    (H : shutterlaw04_awake.m K = some r) :
    Ret Tryd.prog 19 #[] h (fun v h' => ∃ (I' : Gh), .bool r = v ∧ Pst No I h I' h') := by
  unfold shutterlaw04_awake.m at H
  refine ret_of (args := []) (rs := [.tmp 0]) (N := 55) Tryd.func19 rfl rfl rfl (Nat.le_of_ble_eq_true rfl) ?_
  have pt0 : Pst No I h I h := Pst.refl hB
  refine cwp_seq ?_
  refine cwp_region ?_
  refine lwp_run 1 (by kernel_rfl) ?_
  refine lwp_nil ?_
  refine cwp_seq ?_
  refine cwp_region ?_
  obtain ⟨t1, m2, H⟩ := bind_some H
  refine lwp_op (by kernel_rfl) (owp_callF (by kernel_rfl) (addr_Put.calls hB m2) ?_)
  rintro v3 h4 ⟨I5, v9, rfl, p6, hl8, q11⟩
  have pt12 := pt0.no p6
  refine lwp_run 3 (by kernel_rfl) ?_
  refine lwp_op (by kernel_rfl) (owp_alloc (List.map (Value.int .u8) (List.replicate 2 (0 : Int))) (.agg (List.map (Value.int .u8) (List.replicate 2 (0 : Int))).toArray) p6.bd (by kernel_rfl) (by kernel_rfl) ?_)
  intro b13 h14 hc15 p16 o17
  have pt18 := pt12.no p16
  have fr19 := Nat.le_trans pt12.size hc15
  refine lwp_op (by kernel_rfl) (owp_storeArrN (l2 := t1.1) p16.bd o17 (List.length_replicate (n := 2) (a := (0 : Int))) hl8 (by kernel_rfl) (by kernel_rfl) (by kernel_rfl) ?_)
  intro h20 p21 o22
  have pt23 := pt18.own p21 (one_fresh fr19)
  refine lwp_run 1 (by kernel_rfl) ?_
  refine lwp_nil ?_
  refine cwp_seq ?_
  refine cwp_region ?_
  obtain ⟨t24, m25, H⟩ := bind_some H
  refine lwp_op (by kernel_rfl) (owp_callF (by kernel_rfl) (addr_Put.calls p21.bd m25) ?_)
  rintro v26 h27 ⟨I28, v32, rfl, p29, hl31, q34⟩
  have pt35 := pt23.no p29
  refine lwp_run 3 (by kernel_rfl) ?_
  refine lwp_op (by kernel_rfl) (owp_alloc (List.map (Value.int .u8) (List.replicate 2 (0 : Int))) (.agg (List.map (Value.int .u8) (List.replicate 2 (0 : Int))).toArray) p29.bd (by kernel_rfl) (by kernel_rfl) ?_)
  intro b36 h37 hc38 p39 o40
  have pt41 := pt35.no p39
  have fr42 := Nat.le_trans pt35.size hc38
  have f44 := o22.post p29 (fun x => x.elim)
  have d43 := ne_new f44.lt hc38
  refine lwp_op (by kernel_rfl) (owp_storeArrN (l2 := t24.1) p39.bd o40 (List.length_replicate (n := 2) (a := (0 : Int))) hl31 (by kernel_rfl) (by kernel_rfl) (by kernel_rfl) ?_)
  intro h45 p46 o47
  have pt48 := pt41.own p46 (one_fresh fr42)
  refine lwp_run 1 (by kernel_rfl) ?_
  refine lwp_nil ?_
  refine cwp_seq ?_
  refine cwp_region ?_
  refine lwp_op (by kernel_rfl) (owp_buildSlice (e := 5) [.int .u8 193, .int .u8 80] 1 (.int .u8 0) p46.bd (by kernel_rfl) (by kernel_rfl) (by kernel_rfl) (by kernel_rfl) (by kernel_rfl) ?_)
  intro b49 h50 hc51 p52 o53
  have pt54 := pt48.no p52
  have fr55 := Nat.le_trans pt48.size hc51
  have w56 := o53.own (l := ([193, 80] : List Int)) (Reps.int (k := .u8) (l := [193, 80]))
  have fw56 := some_fresh fr55
  have f59 := o22.post p29 (fun x => x.elim)
  have f60 := f59.post p39 (fun x => x.elim)
  have f61 := f60.post p46 (fun e => d43 e.symm)
  have d58 := some_ne (ne_new f61.lt hc51)
  have d62 := some_ne (ne_new o47.lt hc51)
  have pt63 := post_fz w56 p52.bd pt54 fw56
  have r65 := w56.rd
  have bd66 := bd_fz w56 p52.bd
  obtain ⟨t67, m68, H⟩ := bind_some H
  refine lwp_op (by kernel_rfl) (owp_callF (by kernel_rfl) (addr_Get.calls bd66 r65 m68) ?_)
  rintro v69 h70 ⟨I71, v74, rfl, p72, q76⟩
  have pt77 := pt63.no p72
  refine lwp_run 5 (by kernel_rfl) ?_
  refine lwp_nil ?_
  refine cwp_seq ?_
  refine cwp_region ?_
  obtain ⟨t78, m79, H⟩ := bind_some H
  refine lwp_op (by kernel_rfl) (owp_callF (by kernel_rfl) (addr_Get.calls p72.bd (rd_nil (tInt .u8) I71 h70) m79) ?_)
  rintro v80 h81 ⟨I82, v85, rfl, p83, q87⟩
  have pt88 := pt77.no p83
  refine lwp_run 5 (by kernel_rfl) ?_
  refine lwp_nil ?_
  refine cwp_seq ?_
  refine cwp_region ?_
  refine lwp_run 1 (by kernel_rfl) ?_
  have f89 := ErrV.up (p16.up p6.bd (fun _ x => x.elim)) q11
  have f90 := ErrV.up (p21.up p16.bd (one_not o17.no)) f89
  have f91 := ErrV.up (p29.up p21.bd (fun _ x => x.elim)) f90
  have f92 := ErrV.up (p39.up p29.bd (fun _ x => x.elim)) f91
  have f93 := ErrV.up (p46.up p39.bd (one_not o40.no)) f92
  have f94 := ErrV.up (p52.up p46.bd (fun _ x => x.elim)) f93
  have f95 := ErrV.up (up_fz (a := (some ⟨b49, 0, none⟩))) f94
  have f96 := ErrV.up (p72.up bd66 (fun _ x => x.elim)) f95
  have f97 := ErrV.up (p83.up p72.bd (fun _ x => x.elim)) f96
  rcases f97.cases with ⟨c98, rfl⟩ | ⟨c98, t99, u100, rfl⟩
  · rw [if_pos c98] at H
    refine lwp_run 2 (by kernel_rfl) ?_
    have f101 := o22.post p29 (fun x => x.elim)
    have f102 := f101.post p39 (fun x => x.elim)
    have f103 := f102.post p46 (fun e => d43 e.symm)
    have f104 := f103.post p52 (fun x => x.elim)
    have f105 := f104.fz d58
    have f106 := f105.post p72 (fun x => x.elim)
    have f107 := f106.post p83 (fun x => x.elim)
    refine lwp_op (by kernel_rfl) (owp_loadN (by kernel_rfl) (by kernel_rfl) (by kernel_rfl) (f107.arrSeg hl8) ?_)
    refine lwp_run 1 (by kernel_rfl) ?_
    rcases bool_or (t1.1 == [193, 80]) with c108 | c108
    · replace H := bif_f c108 H
      refine lwp_op (by kernel_rfl) (owp_run (.bool false) (run_bool (run_eqAgg (xs := (List.map (Value.int .u8) t1.1).toArray) (ys := (List.map (Value.int .u8) [193, 80]).toArray) (by kernel_rfl) (by kernel_rfl) (by kernel_rfl) (fun w => run_equalIn_arr (d := 9998) (e := 5) (n := 2) (k := .u8) (l1 := t1.1) (l2 := [193, 80]) (by kernel_rfl) (by kernel_rfl) (by kernel_rfl) hl8 rfl)) c108) ?_)
      refine lwp_run 24 (by kernel_rfl) ?_
      refine lwp_nil ?_
      refine cwp_ret ?_
      obtain rfl := Option.some.inj H
      show Exists _
      exact ⟨.bool false, by kernel_rfl, I82, rfl, pt88⟩
    · replace H := bif_t c108 H
      refine lwp_op (by kernel_rfl) (owp_run (.bool true) (run_bool (run_eqAgg (xs := (List.map (Value.int .u8) t1.1).toArray) (ys := (List.map (Value.int .u8) [193, 80]).toArray) (by kernel_rfl) (by kernel_rfl) (by kernel_rfl) (fun w => run_equalIn_arr (d := 9998) (e := 5) (n := 2) (k := .u8) (l1 := t1.1) (l2 := [193, 80]) (by kernel_rfl) (by kernel_rfl) (by kernel_rfl) hl8 rfl)) c108) ?_)
      refine lwp_run 3 (by kernel_rfl) ?_
      have f109 := ErrV.up (p39.up p29.bd (fun _ x => x.elim)) q34
      have f110 := ErrV.up (p46.up p39.bd (one_not o40.no)) f109
      have f111 := ErrV.up (p52.up p46.bd (fun _ x => x.elim)) f110
      have f112 := ErrV.up (up_fz (a := (some ⟨b49, 0, none⟩))) f111
      have f113 := ErrV.up (p72.up bd66 (fun _ x => x.elim)) f112
      have f114 := ErrV.up (p83.up p72.bd (fun _ x => x.elim)) f113
      rcases f114.cases with ⟨c115, rfl⟩ | ⟨c115, t116, u117, rfl⟩
      · rw [if_pos c115] at H
        refine lwp_run 3 (by kernel_rfl) ?_
        have f118 := o47.post p52 (fun x => x.elim)
        have f119 := f118.fz d62
        have f120 := f119.post p72 (fun x => x.elim)
        have f121 := f120.post p83 (fun x => x.elim)
        refine lwp_op (by kernel_rfl) (owp_loadN (by kernel_rfl) (by kernel_rfl) (by kernel_rfl) (f121.arrSeg hl31) ?_)
        refine lwp_run 1 (by kernel_rfl) ?_
        rcases bool_or (t24.1 == [19, 136]) with c122 | c122
        · replace H := bif_f c122 H
          refine lwp_op (by kernel_rfl) (owp_run (.bool false) (run_bool (run_eqAgg (xs := (List.map (Value.int .u8) t24.1).toArray) (ys := (List.map (Value.int .u8) [19, 136]).toArray) (by kernel_rfl) (by kernel_rfl) (by kernel_rfl) (fun w => run_equalIn_arr (d := 9998) (e := 5) (n := 2) (k := .u8) (l1 := t24.1) (l2 := [19, 136]) (by kernel_rfl) (by kernel_rfl) (by kernel_rfl) hl31 rfl)) c122) ?_)
          refine lwp_run 15 (by kernel_rfl) ?_
          refine lwp_nil ?_
          refine cwp_ret ?_
          obtain rfl := Option.some.inj H
          show Exists _
          exact ⟨.bool false, by kernel_rfl, I82, rfl, pt88⟩
        · replace H := bif_t c122 H
          refine lwp_op (by kernel_rfl) (owp_run (.bool true) (run_bool (run_eqAgg (xs := (List.map (Value.int .u8) t24.1).toArray) (ys := (List.map (Value.int .u8) [19, 136]).toArray) (by kernel_rfl) (by kernel_rfl) (by kernel_rfl) (fun w => run_equalIn_arr (d := 9998) (e := 5) (n := 2) (k := .u8) (l1 := t24.1) (l2 := [19, 136]) (by kernel_rfl) (by kernel_rfl) (by kernel_rfl) hl31 rfl)) c122) ?_)
          refine lwp_run 3 (by kernel_rfl) ?_
          have f123 := ErrV.up (p83.up p72.bd (fun _ x => x.elim)) q76
          rcases f123.cases with ⟨c124, rfl⟩ | ⟨c124, t125, u126, rfl⟩
          · rw [if_pos c124] at H
            refine lwp_run 4 (by kernel_rfl) ?_
            by_cases c127 : t67.1 = 80
            · rw [if_pos c127] at H
              refine lwp_op (by kernel_rfl) (owp_pure ((.bool true)) (pr_bool (by kernel_rfl) (eqT c127)) ?_)
              refine lwp_run 3 (by kernel_rfl) ?_
              obtain ⟨t128, m129, H⟩ := bind_some H
              have f130 := hG.up (p6.up hB (fun _ x => x.elim))
              have f131 := f130.up (p16.up p6.bd (fun _ x => x.elim))
              have f132 := f131.up (p21.up p16.bd (one_not o17.no))
              have f133 := f132.up (p29.up p21.bd (fun _ x => x.elim))
              have f134 := f133.up (p39.up p29.bd (fun _ x => x.elim))
              have f135 := f134.up (p46.up p39.bd (one_not o40.no))
              have f136 := f135.up (p52.up p46.bd (fun _ x => x.elim))
              have f137 := f136.up (up_fz (a := (some ⟨b49, 0, none⟩)))
              have f138 := f137.up (p72.up bd66 (fun _ x => x.elim))
              have f139 := f138.up (p83.up p72.bd (fun _ x => x.elim))
              refine lwp_op (by kernel_rfl) (owp_callF (by kernel_rfl) (api_Code.calls p83.bd f139 q87 m129) ?_)
              rintro v140 h141 ⟨I142, rfl, p143⟩
              have pt145 := pt88.no p143
              refine lwp_run 3 (by kernel_rfl) ?_
              refine lwp_nil ?_
              refine cwp_ret ?_
              obtain rfl := Option.some.inj H
              show Exists _
              exact ⟨.bool (t128 == 2), by kernel_rfl, I142, rfl, pt145⟩
            · rw [if_neg c127] at H
              refine lwp_op (by kernel_rfl) (owp_pure ((.bool false)) (pr_bool (by kernel_rfl) (eqF c127)) ?_)
              refine lwp_run 7 (by kernel_rfl) ?_
              refine lwp_nil ?_
              refine cwp_ret ?_
              obtain rfl := Option.some.inj H
              show Exists _
              exact ⟨.bool false, by kernel_rfl, I82, rfl, pt88⟩
          · rw [if_neg c124] at H
            refine lwp_run 12 (by kernel_rfl) ?_
            refine lwp_nil ?_
            refine cwp_ret ?_
            obtain rfl := Option.some.inj H
            show Exists _
            exact ⟨.bool false, by kernel_rfl, I82, rfl, pt88⟩
      · rw [if_neg c115] at H
        refine lwp_run 21 (by kernel_rfl) ?_
        refine lwp_nil ?_
        refine cwp_ret ?_
        obtain rfl := Option.some.inj H
        show Exists _
        exact ⟨.bool false, by kernel_rfl, I82, rfl, pt88⟩
  · rw [if_neg c98] at H
    refine lwp_run 29 (by kernel_rfl) ?_
    refine lwp_nil ?_
    refine cwp_ret ?_
    obtain rfl := Option.some.inj H
    show Exists _
    exact ⟨.bool false, by kernel_rfl, I82, rfl, pt88⟩

/-! shutter/shutterlaw04.AddrBack -/
def shutterlaw04_AddrBack.m (K : Nat) (x0 : Int) (x1 : Int) (x2 : (List Int)) (x3 : (List Int)) : Option Bool :=
  ((shutterlaw04_awake.m K).bind fun t13 => bif t13 then (if (x3.length : Int) > 100 then ((shutterlaw04_awake.m K).bind fun t23 => (some t23)) else (if (w64 (1 + (Int.tmod (w64 (x1)) 16383))) ≠ 0 then ((addr_Put.m K (Int.tmod (w64 (x0)) (w64 (1 + (Int.tmod (w64 (x1)) 16383)))) (w64 (1 + (Int.tmod (w64 (x1)) 16383)))).bind fun t33 => ((app [] [(at_ t33.1 0), (at_ t33.1 1)]).bind fun l93 => ((app l93 x3).bind fun l122 => ((addr_Get.m K l122 (w64 (1 + (Int.tmod (w64 (x1)) 16383)))).bind fun t150 => (if t33.2 = GoErr.nil then (if t150.2 = GoErr.nil then (if t150.1 = (Int.tmod (w64 (x0)) (w64 (1 + (Int.tmod (w64 (x1)) 16383)))) then ((addr_Get.m K x2 (w64 (1 + (Int.tmod (w64 (x1)) 16383)))).bind fun t191 => (if t191.2 = GoErr.nil then ((addr_Put.m K t191.1 (w64 (1 + (Int.tmod (w64 (x1)) 16383)))).bind fun t205 => (if t205.2 = GoErr.nil then (some (t205.1 == x2)) else (some false))) else (some (t191.1 == 0)))) else (some false)) else (some false)) else (some false)))))) else none)) else ((shutterlaw04_awake.m K).bind fun t254 => (some t254)))

set_option maxRecDepth 100000 in
theorem shutterlaw04_AddrBack.calls {I : Gh} {h : Heap} {K : Nat} {x0 : Int} {x1 : Int} {x2 : List Int} {x3 : List Int} {a2 : Option Addr} {c3 : Nat} (hB : Bd I h) (hG : Glob I h) (hl1 : List.length x2 = 2) (r5 : Rd (tInt .u8) I h a2 c3 x3) {r : Bool}
    (H : shutterlaw04_AddrBack.m K x0 x1 x2 x3 = some r) :
    Ret Tryd.prog 5 #[.int .u16 x0, .int .u16 x1, .agg (List.map (Value.int .u8) x2).toArray, .slice a2 x3.length c3] h (fun v h' => ∃ (I' : Gh), .bool r = v ∧ Pst No I h I' h') := by
  unfold shutterlaw04_AddrBack.m at H
  refine ret_of (args := [.int .u16 x0, .int .u16 x1, .agg (List.map (Value.int .u8) x2).toArray, .slice a2 x3.length c3]) (rs := [.tmp 8]) (N := 89) Tryd.func5 rfl rfl rfl (Nat.le_of_ble_eq_true rfl) ?_
  have pt0 : Pst No I h I h := Pst.refl hB
  refine cwp_seq ?_
  refine cwp_region ?_
  refine lwp_op (by kernel_rfl) (owp_box (List.map (Value.int .u8) x2) hB (by kernel_rfl) ?_)
  intro b6 h7 hc8 p9 o10
  have pt11 := pt0.no p9
  have fr12 := Nat.le_trans pt0.size hc8
  refine lwp_run 1 (by kernel_rfl) ?_
  refine lwp_nil ?_
  refine cwp_seq ?_
  refine cwp_seq ?_
  refine cwp_region ?_
  obtain ⟨t13, m14, H⟩ := bind_some H
  have f15 := hG.up (p9.up hB (fun _ x => x.elim))
  refine lwp_op (by kernel_rfl) (owp_callF (by kernel_rfl) (shutterlaw04_awake.calls p9.bd f15 m14) ?_)
  rintro v16 h17 ⟨I18, rfl, p19⟩
  have pt21 := pt11.no p19
  cases t13
  · rw [cond_false] at H
    refine lwp_run 6 (by kernel_rfl) ?_
    refine lwp_nil ?_
    refine cwp_true (by kernel_rfl) ?_
    refine cwp_seq ?_
    refine cwp_region ?_
    obtain ⟨t254, m255, H⟩ := bind_some H
    have f256 := f15.up (p19.up p9.bd (fun _ x => x.elim))
    refine lwp_op (by kernel_rfl) (owp_callF (by kernel_rfl) (shutterlaw04_awake.calls p19.bd f256 m255) ?_)
    rintro v257 h258 ⟨I259, rfl, p260⟩
    have pt262 := pt21.no p260
    refine lwp_run 1 (by kernel_rfl) ?_
    refine lwp_nil ?_
    refine cwp_ret ?_
    obtain rfl := Option.some.inj H
    show Exists _
    exact ⟨.bool t254, by kernel_rfl, I259, rfl, pt262⟩
  · rw [cond_true] at H
    refine lwp_run 4 (by kernel_rfl) ?_
    by_cases c22 : (x3.length : Int) > 100
    · rw [if_pos c22] at H
      refine lwp_op (by kernel_rfl) (owp_pure ((.bool true)) (pr_bool (by kernel_rfl) (decide_eq_true c22)) ?_)
      refine lwp_run 1 (by kernel_rfl) ?_
      refine lwp_nil ?_
      refine cwp_true (by kernel_rfl) ?_
      refine cwp_seq ?_
      refine cwp_region ?_
      obtain ⟨t23, m24, H⟩ := bind_some H
      have f25 := f15.up (p19.up p9.bd (fun _ x => x.elim))
      refine lwp_op (by kernel_rfl) (owp_callF (by kernel_rfl) (shutterlaw04_awake.calls p19.bd f25 m24) ?_)
      rintro v26 h27 ⟨I28, rfl, p29⟩
      have pt31 := pt21.no p29
      refine lwp_run 1 (by kernel_rfl) ?_
      refine lwp_nil ?_
      refine cwp_ret ?_
      obtain rfl := Option.some.inj H
      show Exists _
      exact ⟨.bool t23, by kernel_rfl, I28, rfl, pt31⟩
    · rw [if_neg c22] at H
      refine lwp_op (by kernel_rfl) (owp_pure ((.bool false)) (pr_bool (by kernel_rfl) (decide_eq_false c22)) ?_)
      refine lwp_run 1 (by kernel_rfl) ?_
      refine lwp_nil ?_
      refine cwp_false (by kernel_rfl) ?_
      refine cwp_skip ?_
      refine cwp_seq ?_
      refine cwp_region ?_
      refine lwp_run 5 (by kernel_rfl) ?_
      refine lwp_nil ?_
      refine cwp_seq ?_
      refine cwp_region ?_
      obtain ⟨c32, H⟩ := guard_pos H
      refine lwp_run 3 (by kernel_rfl) ?_
      refine lwp_op (by kernel_rfl) (owp_pure ((.int .i64 (Int.tmod (w64 (x0)) (w64 (1 + (Int.tmod (w64 (x1)) 16383)))))) (pr_rem (k := .i64) (a := (w64 (x0))) (b := (w64 (1 + (Int.tmod (w64 (x1)) 16383)))) (by kernel_rfl) (by kernel_rfl) c32) ?_)
      refine lwp_run 1 (by kernel_rfl) ?_
      refine lwp_nil ?_
      refine cwp_seq ?_
      refine cwp_region ?_
      refine lwp_run 2 (by kernel_rfl) ?_
      obtain ⟨t33, m34, H⟩ := bind_some H
      refine lwp_op (by kernel_rfl) (owp_callF (by kernel_rfl) (addr_Put.calls p19.bd m34) ?_)
      rintro v35 h36 ⟨I37, v41, rfl, p38, hl40, q43⟩
      have pt44 := pt21.no p38
      refine lwp_run 3 (by kernel_rfl) ?_
      refine lwp_op (by kernel_rfl) (owp_alloc (List.map (Value.int .u8) (List.replicate 2 (0 : Int))) (.agg (List.map (Value.int .u8) (List.replicate 2 (0 : Int))).toArray) p38.bd (by kernel_rfl) (by kernel_rfl) ?_)
      intro b45 h46 hc47 p48 o49
      have pt50 := pt44.no p48
      have fr51 := Nat.le_trans pt44.size hc47
      have f53 := o10.post p19 (fun x => x.elim)
      have f54 := f53.post p38 (fun x => x.elim)
      have d52 := ne_new f54.lt hc47
      refine lwp_op (by kernel_rfl) (owp_storeArrN (l2 := t33.1) p48.bd o49 (List.length_replicate (n := 2) (a := (0 : Int))) hl40 (by kernel_rfl) (by kernel_rfl) (by kernel_rfl) ?_)
      intro h55 p56 o57
      have pt58 := pt50.own p56 (one_fresh fr51)
      refine lwp_run 1 (by kernel_rfl) ?_
      refine lwp_nil ?_
      refine cwp_seq ?_
      refine cwp_region ?_
      refine lwp_op (by kernel_rfl) (owp_buildSlice (e := 5) [] 1 (.int .u8 0) p56.bd (by kernel_rfl) (by kernel_rfl) (by kernel_rfl) (by kernel_rfl) (by kernel_rfl) ?_)
      intro b59 h60 hc61 p62 o63
      have pt64 := pt58.no p62
      have fr65 := Nat.le_trans pt58.size hc61
      have w66 := o63.own (l := ([] : List Int)) (Reps.int (k := .u8) (l := []))
      have fw66 := some_fresh fr65
      have f69 := o10.post p19 (fun x => x.elim)
      have f70 := f69.post p38 (fun x => x.elim)
      have f71 := f70.post p48 (fun x => x.elim)
      have f72 := f71.post p56 (fun e => d52 e.symm)
      have d68 := some_ne (ne_new f72.lt hc61)
      have d73 := some_ne (ne_new o57.lt hc61)
      refine lwp_op (by kernel_rfl) (owp_pure ((elemPtr (some ⟨b45, 0, none⟩) ((0 : Int).toNat * 1))) (pr_indexArr (e := 5) (kk := .i64) (n := 2) (by kernel_rfl) (by kernel_rfl) (by kernel_rfl) (by kernel_rfl) (by decide) (by decide)) ?_)
      have f74 := o57.post p62 (fun x => x.elim)
      refine lwp_op (by kernel_rfl) (owp_load (by kernel_rfl) (by kernel_rfl) (f74.arrCell (i := 0) hl40 (by decide) (by decide)) ?_)
      refine lwp_op (by kernel_rfl) (owp_pure ((elemPtr (some ⟨b45, 0, none⟩) ((1 : Int).toNat * 1))) (pr_indexArr (e := 5) (kk := .i64) (n := 2) (by kernel_rfl) (by kernel_rfl) (by kernel_rfl) (by kernel_rfl) (by decide) (by decide)) ?_)
      refine lwp_op (by kernel_rfl) (owp_load (by kernel_rfl) (by kernel_rfl) (f74.arrCell (i := 1) hl40 (by decide) (by decide)) ?_)
      refine lwp_op (by kernel_rfl) (owp_buildSlice (e := 5) [.int .u8 (at_ t33.1 0), .int .u8 (at_ t33.1 1)] 1 (.int .u8 0) p62.bd (by kernel_rfl) (by kernel_rfl) (by kernel_rfl) (by kernel_rfl) (by kernel_rfl) ?_)
      intro b75 h76 hc77 p78 o79
      have pt80 := pt64.no p78
      have fr81 := Nat.le_trans pt64.size hc77
      have w82 := o79.own (l := ([(at_ t33.1 0), (at_ t33.1 1)] : List Int)) (Reps.int (k := .u8) (l := [(at_ t33.1 0), (at_ t33.1 1)]))
      have fw82 := some_fresh fr81
      have f85 := o10.post p19 (fun x => x.elim)
      have f86 := f85.post p38 (fun x => x.elim)
      have f87 := f86.post p48 (fun x => x.elim)
      have f88 := f87.post p56 (fun e => d52 e.symm)
      have f89 := f88.post p62 (fun x => x.elim)
      have d84 := some_ne (ne_new f89.lt hc77)
      have d90 := some_ne (ne_new f74.lt hc77)
      have d91 := some_notIn (notIn_new w66.lt hc77)
      have f92 := w66.post p62.bd p78 (fun _ x => x.elim) (fun _ _ x => x.elim)
      obtain ⟨l93, m94, H⟩ := bind_some H
      refine lwp_op (by kernel_rfl) (owp_app (e := 5) (bytes := 1) (tInt .u8) (by kernel_rfl) (elemOk_of (by kernel_rfl)) rfl rfl p78.bd f92 w82.toSl m94 (by kernel_rfl) (by kernel_rfl) ?_)
      intro a95 c96 h97 p98 o99 fr100
      have pt101 := pt80.own p98 (fun b x => .inr (fw66 b x))
      have fr103 := fresh_step fw66 fr100 pt80.size
      have f105 := o10.post p19 (fun x => x.elim)
      have f106 := f105.post p38 (fun x => x.elim)
      have f107 := f106.post p48 (fun x => x.elim)
      have f108 := f107.post p56 (fun e => d52 e.symm)
      have f109 := f108.post p62 (fun x => x.elim)
      have f110 := f109.post p78 (fun x => x.elim)
      have d104 := step_blk fr100 f110.lt d68
      have f112 := f74.post p78 (fun x => x.elim)
      have d111 := step_blk fr100 f112.lt d73
      have d113 := step_sl fr100 w82.lt d91
      refine lwp_run 1 (by kernel_rfl) ?_
      have f114 := r5.up (p9.up hB (fun _ x => x.elim))
      have f115 := f114.up (p19.up p9.bd (fun _ x => x.elim))
      have f116 := f115.up (p38.up p19.bd (fun _ x => x.elim))
      have f117 := f116.up (p48.up p38.bd (fun _ x => x.elim))
      have f118 := f117.up (p56.up p48.bd (one_not o49.no))
      have f119 := f118.up (p62.up p56.bd (fun _ x => x.elim))
      have f120 := f119.up (p78.up p62.bd (fun _ x => x.elim))
      have f121 := f120.up (p98.up p78.bd f92.notI)
      obtain ⟨l122, m123, H⟩ := bind_some H
      refine lwp_op (by kernel_rfl) (owp_app (e := 5) (bytes := 1) (tInt .u8) (by kernel_rfl) (elemOk_of (by kernel_rfl)) rfl rfl p98.bd o99 f121.toSl m123 (by kernel_rfl) (by kernel_rfl) ?_)
      intro a124 c125 h126 p127 o128 fr129
      have pt130 := pt101.own p127 (fun b x => .inr (fr103 b x))
      have fr132 := fresh_step fr103 fr129 pt101.size
      have f134 := o10.post p19 (fun x => x.elim)
      have f135 := f134.post p38 (fun x => x.elim)
      have f136 := f135.post p48 (fun x => x.elim)
      have f137 := f136.post p56 (fun e => d52 e.symm)
      have f138 := f137.post p62 (fun x => x.elim)
      have f139 := f138.post p78 (fun x => x.elim)
      have f140 := f139.post p98 d68
      have d133 := step_blk fr129 f140.lt d104
      have f142 := f74.post p78 (fun x => x.elim)
      have f143 := f142.post p98 d73
      have d141 := step_blk fr129 f143.lt d111
      have f145 := w82.post p78.bd p98 f92.notI d91
      have d144 := step_sl fr129 f145.lt (fun b hx hy => d113 b hy hx)
      refine lwp_run 1 (by kernel_rfl) ?_
      have pt146 := post_fz o128 p127.bd pt130 fr132
      have r148 := o128.rd
      have bd149 := bd_fz o128 p127.bd
      obtain ⟨t150, m151, H⟩ := bind_some H
      refine lwp_op (by kernel_rfl) (owp_callF (by kernel_rfl) (addr_Get.calls bd149 r148 m151) ?_)
      rintro v152 h153 ⟨I154, v157, rfl, p155, q159⟩
      have pt160 := pt146.no p155
      refine lwp_run 5 (by kernel_rfl) ?_
      refine lwp_nil ?_
      refine cwp_seq ?_
      refine cwp_seq ?_
      refine cwp_region ?_
      refine lwp_run 1 (by kernel_rfl) ?_
      have f161 := ErrV.up (p48.up p38.bd (fun _ x => x.elim)) q43
      have f162 := ErrV.up (p56.up p48.bd (one_not o49.no)) f161
      have f163 := ErrV.up (p62.up p56.bd (fun _ x => x.elim)) f162
      have f164 := ErrV.up (p78.up p62.bd (fun _ x => x.elim)) f163
      have f165 := ErrV.up (p98.up p78.bd f92.notI) f164
      have f166 := ErrV.up (p127.up p98.bd o99.notI) f165
      have f167 := ErrV.up (up_fz (a := a124)) f166
      have f168 := ErrV.up (p155.up bd149 (fun _ x => x.elim)) f167
      rcases f168.cases with ⟨c169, rfl⟩ | ⟨c169, t170, u171, rfl⟩
      · rw [if_pos c169] at H
        refine lwp_run 3 (by kernel_rfl) ?_
        rcases q159.cases with ⟨c172, rfl⟩ | ⟨c172, t173, u174, rfl⟩
        · rw [if_pos c172] at H
          refine lwp_run 5 (by kernel_rfl) ?_
          by_cases c175 : t150.1 = (Int.tmod (w64 (x0)) (w64 (1 + (Int.tmod (w64 (x1)) 16383))))
          · rw [if_pos c175] at H
            refine lwp_op (by kernel_rfl) (owp_pure ((.bool false)) (pr_bool (by kernel_rfl) (neF c175)) ?_)
            refine lwp_run 1 (by kernel_rfl) ?_
            refine lwp_nil ?_
            refine cwp_false (by kernel_rfl) ?_
            refine cwp_skip ?_
            refine cwp_seq ?_
            refine cwp_region ?_
            have f176 := o10.post p19 (fun x => x.elim)
            have f177 := f176.post p38 (fun x => x.elim)
            have f178 := f177.post p48 (fun x => x.elim)
            have f179 := f178.post p56 (fun e => d52 e.symm)
            have f180 := f179.post p62 (fun x => x.elim)
            have f181 := f180.post p78 (fun x => x.elim)
            have f182 := f181.post p98 d68
            have f183 := f182.post p127 d104
            have f184 := f183.fz d133
            have f185 := f184.post p155 (fun x => x.elim)
            have pt186 := post_fzB f185 p155.bd pt160 fr12
            have bd187 := bd_fzB f185 p155.bd
            have o188 := f185.im
            have r189 := o188.arrRd hl1
            refine lwp_op (by kernel_rfl) (owp_pure ((.slice (some ⟨b6, 0, none⟩) x2.length 2)) (pr_sliceArr (n := 2) (l := x2) (by kernel_rfl) hl1) ?_)
            refine lwp_run 1 (by kernel_rfl) ?_
            obtain ⟨t191, m192, H⟩ := bind_some H
            refine lwp_op (by kernel_rfl) (owp_callF (by kernel_rfl) (addr_Get.calls bd187 r189 m192) ?_)
            rintro v193 h194 ⟨I195, v198, rfl, p196, q200⟩
            have pt201 := pt186.no p196
            refine lwp_run 5 (by kernel_rfl) ?_
            refine lwp_nil ?_
            refine cwp_seq ?_
            refine cwp_seq ?_
            refine cwp_region ?_
            refine lwp_run 1 (by kernel_rfl) ?_
            rcases q200.cases with ⟨c202, rfl⟩ | ⟨c202, t203, u204, rfl⟩
            · rw [if_pos c202] at H
              refine lwp_run 1 (by kernel_rfl) ?_
              refine lwp_nil ?_
              refine cwp_false (by kernel_rfl) ?_
              refine cwp_skip ?_
              refine cwp_seq ?_
              refine cwp_region ?_
              refine lwp_run 2 (by kernel_rfl) ?_
              obtain ⟨t205, m206, H⟩ := bind_some H
              refine lwp_op (by kernel_rfl) (owp_callF (by kernel_rfl) (addr_Put.calls p196.bd m206) ?_)
              rintro v207 h208 ⟨I209, v213, rfl, p210, hl212, q215⟩
              have pt216 := pt201.no p210
              refine lwp_run 3 (by kernel_rfl) ?_
              refine lwp_op (by kernel_rfl) (owp_alloc (List.map (Value.int .u8) (List.replicate 2 (0 : Int))) (.agg (List.map (Value.int .u8) (List.replicate 2 (0 : Int))).toArray) p210.bd (by kernel_rfl) (by kernel_rfl) ?_)
              intro b217 h218 hc219 p220 o221
              have pt222 := pt216.no p220
              have fr223 := Nat.le_trans pt216.size hc219
              have f225 := f74.post p78 (fun x => x.elim)
              have f226 := f225.post p98 d73
              have f227 := f226.post p127 d111
              have f228 := f227.fz d141
              have f229 := f228.post p155 (fun x => x.elim)
              have f230 := f229.fz (some_ne (fun e => d52 e.symm))
              have f231 := f230.post p196 (fun x => x.elim)
              have f232 := f231.post p210 (fun x => x.elim)
              have d224 := ne_new f232.lt hc219
              have f234 := w82.post p78.bd p98 f92.notI d91
              have f235 := f234.post p98.bd p127 o99.notI (fun b hx hy => d113 b hy hx)
              have f236 := f235.fz (fun b hx hy => d144 b hy hx)
              have f237 := f236.post bd149 p155 (fun _ x => x.elim) (fun _ _ x => x.elim)
              have f238 := f237.fz (sl_some d84)
              have f239 := f238.post bd187 p196 (fun _ x => x.elim) (fun _ _ x => x.elim)
              have f240 := f239.post p196.bd p210 (fun _ x => x.elim) (fun _ _ x => x.elim)
              have d233 := notIn_new f240.lt hc219
              refine lwp_op (by kernel_rfl) (owp_storeArrN (l2 := t205.1) p220.bd o221 (List.length_replicate (n := 2) (a := (0 : Int))) hl212 (by kernel_rfl) (by kernel_rfl) (by kernel_rfl) ?_)
              intro h241 p242 o243
              have pt244 := pt222.own p242 (one_fresh fr223)
              refine lwp_run 1 (by kernel_rfl) ?_
              refine lwp_nil ?_
              refine cwp_seq ?_
              refine cwp_region ?_
              refine lwp_run 1 (by kernel_rfl) ?_
              have f245 := ErrV.up (p220.up p210.bd (fun _ x => x.elim)) q215
              have f246 := ErrV.up (p242.up p220.bd (one_not o221.no)) f245
              rcases f246.cases with ⟨c247, rfl⟩ | ⟨c247, t248, u249, rfl⟩
              · rw [if_pos c247] at H
                refine lwp_run 2 (by kernel_rfl) ?_
                refine lwp_op (by kernel_rfl) (owp_loadN (by kernel_rfl) (by kernel_rfl) (by kernel_rfl) (o243.arrSeg hl212) ?_)
                have f250 := o188.up (p196.up bd187 (fun _ x => x.elim))
                have f251 := f250.up (p210.up p196.bd (fun _ x => x.elim))
                have f252 := f251.up (p220.up p210.bd (fun _ x => x.elim))
                have f253 := f252.up (p242.up p220.bd (one_not o221.no))
                refine lwp_op (by kernel_rfl) (owp_loadN (by kernel_rfl) (by kernel_rfl) (by kernel_rfl) (f253.arrSeg hl1) ?_)
                refine lwp_op (by kernel_rfl) (owp_run (.bool (t205.1 == x2)) (run_eqAgg (xs := (List.map (Value.int .u8) t205.1).toArray) (ys := (List.map (Value.int .u8) x2).toArray) (by kernel_rfl) (by kernel_rfl) (by kernel_rfl) (fun w => run_equalIn_arr (d := 9998) (e := 5) (n := 2) (k := .u8) (l1 := t205.1) (l2 := x2) (by kernel_rfl) (by kernel_rfl) (by kernel_rfl) hl212 hl1)) ?_)
                refine lwp_run 2 (by kernel_rfl) ?_
                refine lwp_nil ?_
                refine cwp_ret ?_
                obtain rfl := Option.some.inj H
                show Exists _
                exact ⟨.bool (t205.1 == x2), by kernel_rfl, I209, rfl, pt244⟩
              · rw [if_neg c247] at H
                refine lwp_run 7 (by kernel_rfl) ?_
                refine lwp_nil ?_
                refine cwp_ret ?_
                obtain rfl := Option.some.inj H
                show Exists _
                exact ⟨.bool false, by kernel_rfl, I209, rfl, pt244⟩
            · rw [if_neg c202] at H
              refine lwp_run 1 (by kernel_rfl) ?_
              refine lwp_nil ?_
              refine cwp_true (by kernel_rfl) ?_
              refine cwp_seq ?_
              refine cwp_region ?_
              refine lwp_run 3 (by kernel_rfl) ?_
              refine lwp_nil ?_
              refine cwp_ret ?_
              obtain rfl := Option.some.inj H
              show Exists _
              exact ⟨.bool (t191.1 == 0), by kernel_rfl, I195, rfl, pt201⟩
          · rw [if_neg c175] at H
            refine lwp_op (by kernel_rfl) (owp_pure ((.bool true)) (pr_bool (by kernel_rfl) (neT c175)) ?_)
            refine lwp_run 1 (by kernel_rfl) ?_
            refine lwp_nil ?_
            refine cwp_true (by kernel_rfl) ?_
            refine cwp_seq ?_
            refine cwp_region ?_
            refine lwp_run 1 (by kernel_rfl) ?_
            refine lwp_nil ?_
            refine cwp_ret ?_
            obtain rfl := Option.some.inj H
            show Exists _
            exact ⟨.bool false, by kernel_rfl, I154, rfl, pt160⟩
        · rw [if_neg c172] at H
          refine lwp_run 7 (by kernel_rfl) ?_
          refine lwp_nil ?_
          refine cwp_true (by kernel_rfl) ?_
          refine cwp_seq ?_
          refine cwp_region ?_
          refine lwp_run 1 (by kernel_rfl) ?_
          refine lwp_nil ?_
          refine cwp_ret ?_
          obtain rfl := Option.some.inj H
          show Exists _
          exact ⟨.bool false, by kernel_rfl, I154, rfl, pt160⟩
      · rw [if_neg c169] at H
        refine lwp_run 10 (by kernel_rfl) ?_
        refine lwp_nil ?_
        refine cwp_true (by kernel_rfl) ?_
        refine cwp_seq ?_
        refine cwp_region ?_
        refine lwp_run 1 (by kernel_rfl) ?_
        refine lwp_nil ?_
        refine cwp_ret ?_
        obtain rfl := Option.some.inj H
        show Exists _
        exact ⟨.bool false, by kernel_rfl, I154, rfl, pt160⟩

/-! shutter/shutterlaw04.AddrApart -/
def shutterlaw04_AddrApart.m (K : Nat) (x0 : Int) (x1 : Int) (x2 : Int) : Option Bool :=
  (if (w64 (1 + (Int.tmod (w64 (x2)) 16383))) ≠ 0 then ((addr_Put.m K (Int.tmod (w64 (x0)) (w64 (1 + (Int.tmod (w64 (x2)) 16383)))) (w64 (1 + (Int.tmod (w64 (x2)) 16383)))).bind fun t2 => ((addr_Put.m K (Int.tmod (w64 (x1)) (w64 (1 + (Int.tmod (w64 (x2)) 16383)))) (w64 (1 + (Int.tmod (w64 (x2)) 16383)))).bind fun t25 => ((shutterlaw04_awake.m K).bind fun t50 => bif t50 then (if t2.2 = GoErr.nil then (if t25.2 = GoErr.nil then (some ((t2.1 == t25.1) == ((Int.tmod (w64 (x0)) (w64 (1 + (Int.tmod (w64 (x2)) 16383)))) == (Int.tmod (w64 (x1)) (w64 (1 + (Int.tmod (w64 (x2)) 16383))))))) else (some false)) else (some false)) else (some false)))) else none)

set_option maxRecDepth 100000 in
theorem shutterlaw04_AddrApart.calls {I : Gh} {h : Heap} {K : Nat} {x0 : Int} {x1 : Int} {x2 : Int} (hB : Bd I h) (hG : Glob I h) {r : Bool}
    (H : shutterlaw04_AddrApart.m K x0 x1 x2 = some r) :
    Ret Tryd.prog 6 #[.int .u16 x0, .int .u16 x1, .int .u16 x2] h (fun v h' => ∃ (I' : Gh), .bool r = v ∧ Pst No I h I' h') := by
  unfold shutterlaw04_AddrApart.m at H
  refine ret_of (args := [.int .u16 x0, .int .u16 x1, .int .u16 x2]) (rs := [.tmp 6]) (N := 56) Tryd.func6 rfl rfl rfl (Nat.le_of_ble_eq_true rfl) ?_
  have pt0 : Pst No I h I h := Pst.refl hB
  refine cwp_seq ?_
  refine cwp_region ?_
  refine lwp_run 1 (by kernel_rfl) ?_
  refine lwp_nil ?_
  refine cwp_seq ?_
  refine cwp_region ?_
  refine lwp_run 5 (by kernel_rfl) ?_
  refine lwp_nil ?_
  refine cwp_seq ?_
  refine cwp_region ?_
  obtain ⟨c1, H⟩ := guard_pos H
  refine lwp_run 3 (by kernel_rfl) ?_
  refine lwp_op (by kernel_rfl) (owp_pure ((.int .i64 (Int.tmod (w64 (x0)) (w64 (1 + (Int.tmod (w64 (x2)) 16383)))))) (pr_rem (k := .i64) (a := (w64 (x0))) (b := (w64 (1 + (Int.tmod (w64 (x2)) 16383)))) (by kernel_rfl) (by kernel_rfl) c1) ?_)
  refine lwp_run 1 (by kernel_rfl) ?_
  refine lwp_nil ?_
  refine cwp_seq ?_
  refine cwp_region ?_
  refine lwp_run 3 (by kernel_rfl) ?_
  refine lwp_op (by kernel_rfl) (owp_pure ((.int .i64 (Int.tmod (w64 (x1)) (w64 (1 + (Int.tmod (w64 (x2)) 16383)))))) (pr_rem (k := .i64) (a := (w64 (x1))) (b := (w64 (1 + (Int.tmod (w64 (x2)) 16383)))) (by kernel_rfl) (by kernel_rfl) c1) ?_)
  refine lwp_run 1 (by kernel_rfl) ?_
  refine lwp_nil ?_
  refine cwp_seq ?_
  refine cwp_region ?_
  refine lwp_run 2 (by kernel_rfl) ?_
  obtain ⟨t2, m3, H⟩ := bind_some H
  refine lwp_op (by kernel_rfl) (owp_callF (by kernel_rfl) (addr_Put.calls hB m3) ?_)
  rintro v4 h5 ⟨I6, v10, rfl, p7, hl9, q12⟩
  have pt13 := pt0.no p7
  refine lwp_run 3 (by kernel_rfl) ?_
  refine lwp_op (by kernel_rfl) (owp_alloc (List.map (Value.int .u8) (List.replicate 2 (0 : Int))) (.agg (List.map (Value.int .u8) (List.replicate 2 (0 : Int))).toArray) p7.bd (by kernel_rfl) (by kernel_rfl) ?_)
  intro b14 h15 hc16 p17 o18
  have pt19 := pt13.no p17
  have fr20 := Nat.le_trans pt13.size hc16
  refine lwp_op (by kernel_rfl) (owp_storeArrN (l2 := t2.1) p17.bd o18 (List.length_replicate (n := 2) (a := (0 : Int))) hl9 (by kernel_rfl) (by kernel_rfl) (by kernel_rfl) ?_)
  intro h21 p22 o23
  have pt24 := pt19.own p22 (one_fresh fr20)
  refine lwp_run 1 (by kernel_rfl) ?_
  refine lwp_nil ?_
  refine cwp_seq ?_
  refine cwp_region ?_
  refine lwp_run 2 (by kernel_rfl) ?_
  obtain ⟨t25, m26, H⟩ := bind_some H
  refine lwp_op (by kernel_rfl) (owp_callF (by kernel_rfl) (addr_Put.calls p22.bd m26) ?_)
  rintro v27 h28 ⟨I29, v33, rfl, p30, hl32, q35⟩
  have pt36 := pt24.no p30
  refine lwp_run 3 (by kernel_rfl) ?_
  refine lwp_op (by kernel_rfl) (owp_alloc (List.map (Value.int .u8) (List.replicate 2 (0 : Int))) (.agg (List.map (Value.int .u8) (List.replicate 2 (0 : Int))).toArray) p30.bd (by kernel_rfl) (by kernel_rfl) ?_)
  intro b37 h38 hc39 p40 o41
  have pt42 := pt36.no p40
  have fr43 := Nat.le_trans pt36.size hc39
  have f45 := o23.post p30 (fun x => x.elim)
  have d44 := ne_new f45.lt hc39
  refine lwp_op (by kernel_rfl) (owp_storeArrN (l2 := t25.1) p40.bd o41 (List.length_replicate (n := 2) (a := (0 : Int))) hl32 (by kernel_rfl) (by kernel_rfl) (by kernel_rfl) ?_)
  intro h46 p47 o48
  have pt49 := pt42.own p47 (one_fresh fr43)
  refine lwp_run 1 (by kernel_rfl) ?_
  refine lwp_nil ?_
  refine cwp_seq ?_
  refine cwp_region ?_
  obtain ⟨t50, m51, H⟩ := bind_some H
  have f52 := hG.up (p7.up hB (fun _ x => x.elim))
  have f53 := f52.up (p17.up p7.bd (fun _ x => x.elim))
  have f54 := f53.up (p22.up p17.bd (one_not o18.no))
  have f55 := f54.up (p30.up p22.bd (fun _ x => x.elim))
  have f56 := f55.up (p40.up p30.bd (fun _ x => x.elim))
  have f57 := f56.up (p47.up p40.bd (one_not o41.no))
  refine lwp_op (by kernel_rfl) (owp_callF (by kernel_rfl) (shutterlaw04_awake.calls p47.bd f57 m51) ?_)
  rintro v58 h59 ⟨I60, rfl, p61⟩
  have pt63 := pt49.no p61
  cases t50
  · rw [cond_false] at H
    refine lwp_run 18 (by kernel_rfl) ?_
    refine lwp_nil ?_
    refine cwp_ret ?_
    obtain rfl := Option.some.inj H
    show Exists _
    exact ⟨.bool false, by kernel_rfl, I60, rfl, pt63⟩
  · rw [cond_true] at H
    refine lwp_run 2 (by kernel_rfl) ?_
    have f64 := ErrV.up (p17.up p7.bd (fun _ x => x.elim)) q12
    have f65 := ErrV.up (p22.up p17.bd (one_not o18.no)) f64
    have f66 := ErrV.up (p30.up p22.bd (fun _ x => x.elim)) f65
    have f67 := ErrV.up (p40.up p30.bd (fun _ x => x.elim)) f66
    have f68 := ErrV.up (p47.up p40.bd (one_not o41.no)) f67
    have f69 := ErrV.up (p61.up p47.bd (fun _ x => x.elim)) f68
    rcases f69.cases with ⟨c70, rfl⟩ | ⟨c70, t71, u72, rfl⟩
    · rw [if_pos c70] at H
      refine lwp_run 4 (by kernel_rfl) ?_
      have f73 := ErrV.up (p40.up p30.bd (fun _ x => x.elim)) q35
      have f74 := ErrV.up (p47.up p40.bd (one_not o41.no)) f73
      have f75 := ErrV.up (p61.up p47.bd (fun _ x => x.elim)) f74
      rcases f75.cases with ⟨c76, rfl⟩ | ⟨c76, t77, u78, rfl⟩
      · rw [if_pos c76] at H
        refine lwp_run 3 (by kernel_rfl) ?_
        have f79 := o23.post p30 (fun x => x.elim)
        have f80 := f79.post p40 (fun x => x.elim)
        have f81 := f80.post p47 (fun e => d44 e.symm)
        have f82 := f81.post p61 (fun x => x.elim)
        refine lwp_op (by kernel_rfl) (owp_loadN (by kernel_rfl) (by kernel_rfl) (by kernel_rfl) (f82.arrSeg hl9) ?_)
        have f83 := o48.post p61 (fun x => x.elim)
        refine lwp_op (by kernel_rfl) (owp_loadN (by kernel_rfl) (by kernel_rfl) (by kernel_rfl) (f83.arrSeg hl32) ?_)
        refine lwp_op (by kernel_rfl) (owp_run (.bool (t2.1 == t25.1)) (run_eqAgg (xs := (List.map (Value.int .u8) t2.1).toArray) (ys := (List.map (Value.int .u8) t25.1).toArray) (by kernel_rfl) (by kernel_rfl) (by kernel_rfl) (fun w => run_equalIn_arr (d := 9998) (e := 5) (n := 2) (k := .u8) (l1 := t2.1) (l2 := t25.1) (by kernel_rfl) (by kernel_rfl) (by kernel_rfl) hl9 hl32)) ?_)
        refine lwp_run 6 (by kernel_rfl) ?_
        refine lwp_nil ?_
        refine cwp_ret ?_
        obtain rfl := Option.some.inj H
        show Exists _
        exact ⟨.bool ((t2.1 == t25.1) == ((Int.tmod (w64 (x0)) (w64 (1 + (Int.tmod (w64 (x2)) 16383)))) == (Int.tmod (w64 (x1)) (w64 (1 + (Int.tmod (w64 (x2)) 16383)))))), by kernel_rfl, I60, rfl, pt63⟩
      · rw [if_neg c76] at H
        refine lwp_run 12 (by kernel_rfl) ?_
        refine lwp_nil ?_
        refine cwp_ret ?_
        obtain rfl := Option.some.inj H
        show Exists _
        exact ⟨.bool false, by kernel_rfl, I60, rfl, pt63⟩
    · rw [if_neg c70] at H
      refine lwp_run 16 (by kernel_rfl) ?_
      refine lwp_nil ?_
      refine cwp_ret ?_
      obtain rfl := Option.some.inj H
      show Exists _
      exact ⟨.bool false, by kernel_rfl, I60, rfl, pt63⟩

/-! shutter/shutterlaw04.AddrWays -/
def shutterlaw04_AddrWays.m (K : Nat) (x0 : Int) (x1 : Int) : Option Bool :=
  (if (w64 (1 + (Int.tmod (w64 (x1)) 16383))) ≠ 0 then ((addr_Put.m K (Int.tmod (w64 (x0)) (w64 (1 + (Int.tmod (w64 (x1)) 16383)))) (w64 (1 + (Int.tmod (w64 (x1)) 16383)))).bind fun t2 => ((shutterlaw04_awake.m K).bind fun t25 => bif t25 then (if t2.2 = GoErr.nil then (letJ (fun (x51 : Bool) => (bif x51 then (if (at_ t2.1 0) < 64 then (some ((w64 ((w64 (256 * (w64 ((at_ t2.1 0))))) + (w64 ((at_ t2.1 1))))) == (Int.tmod (w64 (x0)) (w64 (1 + (Int.tmod (w64 (x1)) 16383)))))) else (some false)) else (if (at_ t2.1 0) ≥ 64 then (if (at_ t2.1 1) ≥ 64 then (some ((w64 ((w64 (64 * (w64 ((Int.tmod (at_ t2.1 0) 64))))) + (w64 ((Int.tmod (at_ t2.1 1) 64))))) == (Int.tmod (w64 (x0)) (w64 (1 + (Int.tmod (w64 (x1)) 16383)))))) else (some false)) else (some false)))) fun (j54 : Bool → Option Bool) => ((addr_Long.m (w64 (1 + (Int.tmod (w64 (x1)) 16383)))).bind fun t42 => bif t42 then (j54 true) else (j54 false))) else (some false)) else (some false))) else none)

set_option maxRecDepth 100000 in
theorem shutterlaw04_AddrWays.calls {I : Gh} {h : Heap} {K : Nat} {x0 : Int} {x1 : Int} (hB : Bd I h) (hG : Glob I h) {r : Bool}
    (H : shutterlaw04_AddrWays.m K x0 x1 = some r) :
    Ret Tryd.prog 7 #[.int .u16 x0, .int .u16 x1] h (fun v h' => ∃ (I' : Gh), .bool r = v ∧ Pst No I h I' h') := by
  unfold shutterlaw04_AddrWays.m at H
  refine ret_of (args := [.int .u16 x0, .int .u16 x1]) (rs := [.tmp 4]) (N := 68) Tryd.func7 rfl rfl rfl (Nat.le_of_ble_eq_true rfl) ?_
  have pt0 : Pst No I h I h := Pst.refl hB
  refine cwp_seq ?_
  refine cwp_region ?_
  refine lwp_run 1 (by kernel_rfl) ?_
  refine lwp_nil ?_
  refine cwp_seq ?_
  refine cwp_region ?_
  refine lwp_run 5 (by kernel_rfl) ?_
  refine lwp_nil ?_
  refine cwp_seq ?_
  refine cwp_region ?_
  obtain ⟨c1, H⟩ := guard_pos H
  refine lwp_run 3 (by kernel_rfl) ?_
  refine lwp_op (by kernel_rfl) (owp_pure ((.int .i64 (Int.tmod (w64 (x0)) (w64 (1 + (Int.tmod (w64 (x1)) 16383)))))) (pr_rem (k := .i64) (a := (w64 (x0))) (b := (w64 (1 + (Int.tmod (w64 (x1)) 16383)))) (by kernel_rfl) (by kernel_rfl) c1) ?_)
  refine lwp_run 1 (by kernel_rfl) ?_
  refine lwp_nil ?_
  refine cwp_seq ?_
  refine cwp_region ?_
  refine lwp_run 2 (by kernel_rfl) ?_
  obtain ⟨t2, m3, H⟩ := bind_some H
  refine lwp_op (by kernel_rfl) (owp_callF (by kernel_rfl) (addr_Put.calls hB m3) ?_)
  rintro v4 h5 ⟨I6, v10, rfl, p7, hl9, q12⟩
  have pt13 := pt0.no p7
  refine lwp_run 3 (by kernel_rfl) ?_
  refine lwp_op (by kernel_rfl) (owp_alloc (List.map (Value.int .u8) (List.replicate 2 (0 : Int))) (.agg (List.map (Value.int .u8) (List.replicate 2 (0 : Int))).toArray) p7.bd (by kernel_rfl) (by kernel_rfl) ?_)
  intro b14 h15 hc16 p17 o18
  have pt19 := pt13.no p17
  have fr20 := Nat.le_trans pt13.size hc16
  refine lwp_op (by kernel_rfl) (owp_storeArrN (l2 := t2.1) p17.bd o18 (List.length_replicate (n := 2) (a := (0 : Int))) hl9 (by kernel_rfl) (by kernel_rfl) (by kernel_rfl) ?_)
  intro h21 p22 o23
  have pt24 := pt19.own p22 (one_fresh fr20)
  refine lwp_run 1 (by kernel_rfl) ?_
  refine lwp_nil ?_
  refine cwp_seq ?_
  refine cwp_seq ?_
  refine cwp_region ?_
  obtain ⟨t25, m26, H⟩ := bind_some H
  have f27 := hG.up (p7.up hB (fun _ x => x.elim))
  have f28 := f27.up (p17.up p7.bd (fun _ x => x.elim))
  have f29 := f28.up (p22.up p17.bd (one_not o18.no))
  refine lwp_op (by kernel_rfl) (owp_callF (by kernel_rfl) (shutterlaw04_awake.calls p22.bd f29 m26) ?_)
  rintro v30 h31 ⟨I32, rfl, p33⟩
  have pt35 := pt24.no p33
  cases t25
  · rw [cond_false] at H
    refine lwp_run 5 (by kernel_rfl) ?_
    refine lwp_nil ?_
    refine cwp_true (by kernel_rfl) ?_
    refine cwp_seq ?_
    refine cwp_region ?_
    refine lwp_run 1 (by kernel_rfl) ?_
    refine lwp_nil ?_
    refine cwp_ret ?_
    obtain rfl := Option.some.inj H
    show Exists _
    exact ⟨.bool false, by kernel_rfl, I32, rfl, pt35⟩
  · rw [cond_true] at H
    refine lwp_run 3 (by kernel_rfl) ?_
    have f36 := ErrV.up (p17.up p7.bd (fun _ x => x.elim)) q12
    have f37 := ErrV.up (p22.up p17.bd (one_not o18.no)) f36
    have f38 := ErrV.up (p33.up p22.bd (fun _ x => x.elim)) f37
    rcases f38.cases with ⟨c39, rfl⟩ | ⟨c39, t40, u41, rfl⟩
    · rw [if_pos c39] at H
      refine lwp_run 2 (by kernel_rfl) ?_
      refine lwp_nil ?_
      refine cwp_false (by kernel_rfl) ?_
      refine cwp_skip ?_
      refine cwp_seq ?_
      obtain ⟨j54, e58, H⟩ := letJ_some H
      refine cwp_join (fun ρ' h48 => ∃ (x51 : Bool) (I49 : Gh), j54 x51 = some r ∧ Fits [(6, .int .i64 (Int.tmod (w64 (x0)) (w64 (1 + (Int.tmod (w64 (x1)) 16383))))), (7, .pointer (some ⟨b14, 0, none⟩)), (30, .bool x51)] ρ' ∧ Pst No I h I49 h48 ∧ OwnB I49 h48 b14 (List.map (Value.int .u8) t2.1) 36 ∧ Glob I49 h48) ?_ ?_
      · refine cwp_region ?_
        refine lwp_run 1 (by kernel_rfl) ?_
        obtain ⟨t42, m43, H⟩ := bind_some H
        refine lwp_op (by kernel_rfl) (owp_callF (by kernel_rfl) (addr_Long.calls p33.bd m43) ?_)
        rintro v44 h45 ⟨_, rfl, rfl⟩
        cases t42
        · rw [cond_false] at H
          refine lwp_nil ?_
          have f100007 := o23.post p33 (fun x => x.elim)
          have f100008 := f29.up (p33.up p22.bd (fun _ x => x.elim))
          exact ⟨false, I32, H, ⟨by kernel_rfl, by kernel_rfl, by kernel_rfl, trivial⟩, pt35, f100007, f100008⟩
        · rw [cond_true] at H
          refine lwp_nil ?_
          have f100005 := o23.post p33 (fun x => x.elim)
          have f100006 := f29.up (p33.up p22.bd (fun _ x => x.elim))
          exact ⟨true, I32, H, ⟨by kernel_rfl, by kernel_rfl, by kernel_rfl, trivial⟩, pt35, f100005, f100006⟩
      · clear H
        rintro ρ' h48 ⟨x51, I49, H, hf, pt50, o52, g53⟩
        refine cwp_fits _ hf ?_
        subst e58
        try dsimp only at H
        cases x51
        · rw [cond_false] at H
          refine cwp_false (by kernel_rfl) ?_
          refine cwp_skip ?_
          refine cwp_seq ?_
          refine cwp_region ?_
          refine lwp_op (by kernel_rfl) (owp_pure ((elemPtr (some ⟨b14, 0, none⟩) ((0 : Int).toNat * 1))) (pr_indexArr (e := 5) (kk := .i64) (n := 2) (by kernel_rfl) (by kernel_rfl) (by kernel_rfl) (by kernel_rfl) (by decide) (by decide)) ?_)
          refine lwp_op (by kernel_rfl) (owp_load (by kernel_rfl) (by kernel_rfl) (o52.arrCell (i := 0) hl9 (by decide) (by decide)) ?_)
          by_cases c56 : (at_ t2.1 0) ≥ 64
          · rw [if_pos c56] at H
            refine lwp_op (by kernel_rfl) (owp_pure ((.bool true)) (pr_bool (by kernel_rfl) (decide_eq_true c56)) ?_)
            refine lwp_run 1 (by kernel_rfl) ?_
            refine lwp_op (by kernel_rfl) (owp_pure ((elemPtr (some ⟨b14, 0, none⟩) ((1 : Int).toNat * 1))) (pr_indexArr (e := 5) (kk := .i64) (n := 2) (by kernel_rfl) (by kernel_rfl) (by kernel_rfl) (by kernel_rfl) (by decide) (by decide)) ?_)
            refine lwp_op (by kernel_rfl) (owp_load (by kernel_rfl) (by kernel_rfl) (o52.arrCell (i := 1) hl9 (by decide) (by decide)) ?_)
            by_cases c57 : (at_ t2.1 1) ≥ 64
            · rw [if_pos c57] at H
              refine lwp_op (by kernel_rfl) (owp_pure ((.bool true)) (pr_bool (by kernel_rfl) (decide_eq_true c57)) ?_)
              refine lwp_run 2 (by kernel_rfl) ?_
              refine lwp_op (by kernel_rfl) (owp_pure ((elemPtr (some ⟨b14, 0, none⟩) ((0 : Int).toNat * 1))) (pr_indexArr (e := 5) (kk := .i64) (n := 2) (by kernel_rfl) (by kernel_rfl) (by kernel_rfl) (by kernel_rfl) (by decide) (by decide)) ?_)
              refine lwp_op (by kernel_rfl) (owp_load (by kernel_rfl) (by kernel_rfl) (o52.arrCell (i := 0) hl9 (by decide) (by decide)) ?_)
              refine lwp_run 3 (by kernel_rfl) ?_
              refine lwp_op (by kernel_rfl) (owp_pure ((elemPtr (some ⟨b14, 0, none⟩) ((1 : Int).toNat * 1))) (pr_indexArr (e := 5) (kk := .i64) (n := 2) (by kernel_rfl) (by kernel_rfl) (by kernel_rfl) (by kernel_rfl) (by decide) (by decide)) ?_)
              refine lwp_op (by kernel_rfl) (owp_load (by kernel_rfl) (by kernel_rfl) (o52.arrCell (i := 1) hl9 (by decide) (by decide)) ?_)
              refine lwp_run 7 (by kernel_rfl) ?_
              refine lwp_nil ?_
              refine cwp_ret ?_
              obtain rfl := Option.some.inj H
              show Exists _
              exact ⟨.bool ((w64 ((w64 (64 * (w64 ((Int.tmod (at_ t2.1 0) 64))))) + (w64 ((Int.tmod (at_ t2.1 1) 64))))) == (Int.tmod (w64 (x0)) (w64 (1 + (Int.tmod (w64 (x1)) 16383))))), by kernel_rfl, I49, rfl, pt50⟩
            · rw [if_neg c57] at H
              refine lwp_op (by kernel_rfl) (owp_pure ((.bool false)) (pr_bool (by kernel_rfl) (decide_eq_false c57)) ?_)
              refine lwp_run 16 (by kernel_rfl) ?_
              refine lwp_nil ?_
              refine cwp_ret ?_
              obtain rfl := Option.some.inj H
              show Exists _
              exact ⟨.bool false, by kernel_rfl, I49, rfl, pt50⟩
          · rw [if_neg c56] at H
            refine lwp_op (by kernel_rfl) (owp_pure ((.bool false)) (pr_bool (by kernel_rfl) (decide_eq_false c56)) ?_)
            refine lwp_run 20 (by kernel_rfl) ?_
            refine lwp_nil ?_
            refine cwp_ret ?_
            obtain rfl := Option.some.inj H
            show Exists _
            exact ⟨.bool false, by kernel_rfl, I49, rfl, pt50⟩
        · rw [cond_true] at H
          refine cwp_true (by kernel_rfl) ?_
          refine cwp_seq ?_
          refine cwp_region ?_
          refine lwp_op (by kernel_rfl) (owp_pure ((elemPtr (some ⟨b14, 0, none⟩) ((0 : Int).toNat * 1))) (pr_indexArr (e := 5) (kk := .i64) (n := 2) (by kernel_rfl) (by kernel_rfl) (by kernel_rfl) (by kernel_rfl) (by decide) (by decide)) ?_)
          refine lwp_op (by kernel_rfl) (owp_load (by kernel_rfl) (by kernel_rfl) (o52.arrCell (i := 0) hl9 (by decide) (by decide)) ?_)
          by_cases c55 : (at_ t2.1 0) < 64
          · rw [if_pos c55] at H
            refine lwp_op (by kernel_rfl) (owp_pure ((.bool true)) (pr_bool (by kernel_rfl) (decide_eq_true c55)) ?_)
            refine lwp_run 1 (by kernel_rfl) ?_
            refine lwp_op (by kernel_rfl) (owp_pure ((elemPtr (some ⟨b14, 0, none⟩) ((0 : Int).toNat * 1))) (pr_indexArr (e := 5) (kk := .i64) (n := 2) (by kernel_rfl) (by kernel_rfl) (by kernel_rfl) (by kernel_rfl) (by decide) (by decide)) ?_)
            refine lwp_op (by kernel_rfl) (owp_load (by kernel_rfl) (by kernel_rfl) (o52.arrCell (i := 0) hl9 (by decide) (by decide)) ?_)
            refine lwp_run 2 (by kernel_rfl) ?_
            refine lwp_op (by kernel_rfl) (owp_pure ((elemPtr (some ⟨b14, 0, none⟩) ((1 : Int).toNat * 1))) (pr_indexArr (e := 5) (kk := .i64) (n := 2) (by kernel_rfl) (by kernel_rfl) (by kernel_rfl) (by kernel_rfl) (by decide) (by decide)) ?_)
            refine lwp_op (by kernel_rfl) (owp_load (by kernel_rfl) (by kernel_rfl) (o52.arrCell (i := 1) hl9 (by decide) (by decide)) ?_)
            refine lwp_run 6 (by kernel_rfl) ?_
            refine lwp_nil ?_
            refine cwp_ret ?_
            obtain rfl := Option.some.inj H
            show Exists _
            exact ⟨.bool ((w64 ((w64 (256 * (w64 ((at_ t2.1 0))))) + (w64 ((at_ t2.1 1))))) == (Int.tmod (w64 (x0)) (w64 (1 + (Int.tmod (w64 (x1)) 16383))))), by kernel_rfl, I49, rfl, pt50⟩
          · rw [if_neg c55] at H
            refine lwp_op (by kernel_rfl) (owp_pure ((.bool false)) (pr_bool (by kernel_rfl) (decide_eq_false c55)) ?_)
            refine lwp_run 13 (by kernel_rfl) ?_
            refine lwp_nil ?_
            refine cwp_ret ?_
            obtain rfl := Option.some.inj H
            show Exists _
            exact ⟨.bool false, by kernel_rfl, I49, rfl, pt50⟩
    · rw [if_neg c39] at H
      refine lwp_run 2 (by kernel_rfl) ?_
      refine lwp_nil ?_
      refine cwp_true (by kernel_rfl) ?_
      refine cwp_seq ?_
      refine cwp_region ?_
      refine lwp_run 1 (by kernel_rfl) ?_
      refine lwp_nil ?_
      refine cwp_ret ?_
      obtain rfl := Option.some.inj H
      show Exists _
      exact ⟨.bool false, by kernel_rfl, I32, rfl, pt35⟩

/-! shutter/shutterref03.value -/
def shutterref03_value.m (x0 : Int) : Option Int :=
  (if x0 ≥ 97 then (some (w64 ((w64 (x0)) - 87))) else (some (w64 ((w64 (x0)) - 48))))

set_option maxRecDepth 100000 in
theorem shutterref03_value.calls {I : Gh} {h : Heap} {x0 : Int} (_hB : Bd I h)  {r : Int}
    (H : shutterref03_value.m x0 = some r) :
    Ret Tryd.prog 50 #[.int .u8 x0] h (fun v h' => ∃ _ : Unit, .int .i64 r = v ∧ h = h') := by
  unfold shutterref03_value.m at H
  refine ret_of (args := [.int .u8 x0]) (rs := [.tmp 2]) (N := 11) Tryd.func50 rfl rfl rfl (Nat.le_of_ble_eq_true rfl) ?_
  refine cwp_seq ?_
  refine cwp_region ?_
  refine lwp_run 1 (by kernel_rfl) ?_
  refine lwp_nil ?_
  refine cwp_seq ?_
  refine cwp_seq ?_
  refine cwp_region ?_
  refine lwp_run 1 (by kernel_rfl) ?_
  by_cases c1 : x0 ≥ 97
  · rw [if_pos c1] at H
    refine lwp_op (by kernel_rfl) (owp_pure ((.bool true)) (pr_bool (by kernel_rfl) (decide_eq_true c1)) ?_)
    refine lwp_nil ?_
    refine cwp_true (by kernel_rfl) ?_
    refine cwp_seq ?_
    refine cwp_region ?_
    refine lwp_run 4 (by kernel_rfl) ?_
    refine lwp_nil ?_
    refine cwp_ret ?_
    obtain rfl := Option.some.inj H
    show Exists _
    exact ⟨.int .i64 (w64 ((w64 (x0)) - 87)), by kernel_rfl, (), rfl, rfl⟩
  · rw [if_neg c1] at H
    refine lwp_op (by kernel_rfl) (owp_pure ((.bool false)) (pr_bool (by kernel_rfl) (decide_eq_false c1)) ?_)
    refine lwp_nil ?_
    refine cwp_false (by kernel_rfl) ?_
    refine cwp_skip ?_
    refine cwp_seq ?_
    refine cwp_region ?_
    refine lwp_run 4 (by kernel_rfl) ?_
    refine lwp_nil ?_
    refine cwp_ret ?_
    obtain rfl := Option.some.inj H
    show Exists _
    exact ⟨.int .i64 (w64 ((w64 (x0)) - 48)), by kernel_rfl, (), rfl, rfl⟩

/-! shutter/shutterref03.Put -/
def shutterref03_Put.m (x0 : Int) : Option Int :=
  (if 0 ≤ (w64 (2 * x0)) then (if (w64 (2 * x0)) < 128 then (if 0 ≤ (w64 ((w64 (2 * x0)) + 1)) then (if (w64 ((w64 (2 * x0)) + 1)) < 128 then ((shutterref03_value.m (bt (⟨#[52, 48, 99, 49, 99, 50, 99, 51, 99, 52, 99, 53, 99, 54, 99, 55, 99, 56, 99, 57, 52, 97, 52, 98, 52, 99, 52, 100, 52, 101, 52, 102, 53, 48, 100, 49, 100, 50, 100, 51, 100, 52, 100, 53, 100, 54, 100, 55, 100, 56, 100, 57, 53, 97, 53, 98, 53, 99, 53, 100, 53, 101, 53, 102, 54, 48, 54, 49, 101, 50, 101, 51, 101, 52, 101, 53, 101, 54, 101, 55, 101, 56, 101, 57, 54, 97, 54, 98, 54, 99, 54, 100, 54, 101, 54, 102, 102, 48, 102, 49, 102, 50, 102, 51, 102, 52, 102, 53, 102, 54, 102, 55, 102, 56, 102, 57, 55, 97, 55, 98, 55, 99, 55, 100, 55, 101, 55, 102]⟩ : ByteArray) (w64 (2 * x0)))).bind fun t5 => ((shutterref03_value.m (bt (⟨#[52, 48, 99, 49, 99, 50, 99, 51, 99, 52, 99, 53, 99, 54, 99, 55, 99, 56, 99, 57, 52, 97, 52, 98, 52, 99, 52, 100, 52, 101, 52, 102, 53, 48, 100, 49, 100, 50, 100, 51, 100, 52, 100, 53, 100, 54, 100, 55, 100, 56, 100, 57, 53, 97, 53, 98, 53, 99, 53, 100, 53, 101, 53, 102, 54, 48, 54, 49, 101, 50, 101, 51, 101, 52, 101, 53, 101, 54, 101, 55, 101, 56, 101, 57, 54, 97, 54, 98, 54, 99, 54, 100, 54, 101, 54, 102, 102, 48, 102, 49, 102, 50, 102, 51, 102, 52, 102, 53, 102, 54, 102, 55, 102, 56, 102, 57, 55, 97, 55, 98, 55, 99, 55, 100, 55, 101, 55, 102]⟩ : ByteArray) (w64 ((w64 (2 * x0)) + 1)))).bind fun t11 => (some (IntKind.u8.wrap ((w64 ((w64 (16 * t5)) + t11))))))) else none) else none) else none) else none)

set_option maxRecDepth 100000 in
theorem shutterref03_Put.calls {I : Gh} {h : Heap} {x0 : Int} (hB : Bd I h)  {r : Int}
    (H : shutterref03_Put.m x0 = some r) :
    Ret Tryd.prog 43 #[.int .i64 x0] h (fun v h' => ∃ _ : Unit, .int .u8 r = v ∧ h = h') := by
  unfold shutterref03_Put.m at H
  refine ret_of (args := [.int .i64 x0]) (rs := [.tmp 2]) (N := 15) Tryd.func43 rfl rfl rfl (Nat.le_of_ble_eq_true rfl) ?_
  refine cwp_seq ?_
  refine cwp_region ?_
  refine lwp_run 1 (by kernel_rfl) ?_
  refine lwp_nil ?_
  refine cwp_seq ?_
  refine cwp_regionD (Keep No h) (by kernel_rfl) ?_
  obtain ⟨c1, H⟩ := guard_pos H
  obtain ⟨c2, H⟩ := guard_pos H
  refine awp_run (fuel := 11) [0, 1] Keep.refl (by kernel_rfl) ?_
  refine awp_pure 2 ((.int .u8 (bt (⟨#[52, 48, 99, 49, 99, 50, 99, 51, 99, 52, 99, 53, 99, 54, 99, 55, 99, 56, 99, 57, 52, 97, 52, 98, 52, 99, 52, 100, 52, 101, 52, 102, 53, 48, 100, 49, 100, 50, 100, 51, 100, 52, 100, 53, 100, 54, 100, 55, 100, 56, 100, 57, 53, 97, 53, 98, 53, 99, 53, 100, 53, 101, 53, 102, 54, 48, 54, 49, 101, 50, 101, 51, 101, 52, 101, 53, 101, 54, 101, 55, 101, 56, 101, 57, 54, 97, 54, 98, 54, 99, 54, 100, 54, 101, 54, 102, 102, 48, 102, 49, 102, 50, 102, 51, 102, 52, 102, 53, 102, 54, 102, 55, 102, 56, 102, 57, 55, 97, 55, 98, 55, 99, 55, 100, 55, 101, 55, 102]⟩ : ByteArray) (w64 (2 * x0))))) rfl (by kernel_rfl) (by kernel_rfl) (pr_indexStr (s := (⟨#[52, 48, 99, 49, 99, 50, 99, 51, 99, 52, 99, 53, 99, 54, 99, 55, 99, 56, 99, 57, 52, 97, 52, 98, 52, 99, 52, 100, 52, 101, 52, 102, 53, 48, 100, 49, 100, 50, 100, 51, 100, 52, 100, 53, 100, 54, 100, 55, 100, 56, 100, 57, 53, 97, 53, 98, 53, 99, 53, 100, 53, 101, 53, 102, 54, 48, 54, 49, 101, 50, 101, 51, 101, 52, 101, 53, 101, 54, 101, 55, 101, 56, 101, 57, 54, 97, 54, 98, 54, 99, 54, 100, 54, 101, 54, 102, 102, 48, 102, 49, 102, 50, 102, 51, 102, 52, 102, 53, 102, 54, 102, 55, 102, 56, 102, 57, 55, 97, 55, 98, 55, 99, 55, 100, 55, 101, 55, 102]⟩ : ByteArray)) (k := .i64) (i := (w64 (2 * x0))) (by kernel_rfl) (by kernel_rfl) (by kernel_rfl) c1 c2) Keep.refl ?_
  obtain ⟨c3, H⟩ := guard_pos H
  obtain ⟨c4, H⟩ := guard_pos H
  refine awp_run (fuel := 7) [5, 6, 7] Keep.refl (by kernel_rfl) ?_
  refine awp_pure 8 ((.int .u8 (bt (⟨#[52, 48, 99, 49, 99, 50, 99, 51, 99, 52, 99, 53, 99, 54, 99, 55, 99, 56, 99, 57, 52, 97, 52, 98, 52, 99, 52, 100, 52, 101, 52, 102, 53, 48, 100, 49, 100, 50, 100, 51, 100, 52, 100, 53, 100, 54, 100, 55, 100, 56, 100, 57, 53, 97, 53, 98, 53, 99, 53, 100, 53, 101, 53, 102, 54, 48, 54, 49, 101, 50, 101, 51, 101, 52, 101, 53, 101, 54, 101, 55, 101, 56, 101, 57, 54, 97, 54, 98, 54, 99, 54, 100, 54, 101, 54, 102, 102, 48, 102, 49, 102, 50, 102, 51, 102, 52, 102, 53, 102, 54, 102, 55, 102, 56, 102, 57, 55, 97, 55, 98, 55, 99, 55, 100, 55, 101, 55, 102]⟩ : ByteArray) (w64 ((w64 (2 * x0)) + 1))))) rfl (by kernel_rfl) (by kernel_rfl) (pr_indexStr (s := (⟨#[52, 48, 99, 49, 99, 50, 99, 51, 99, 52, 99, 53, 99, 54, 99, 55, 99, 56, 99, 57, 52, 97, 52, 98, 52, 99, 52, 100, 52, 101, 52, 102, 53, 48, 100, 49, 100, 50, 100, 51, 100, 52, 100, 53, 100, 54, 100, 55, 100, 56, 100, 57, 53, 97, 53, 98, 53, 99, 53, 100, 53, 101, 53, 102, 54, 48, 54, 49, 101, 50, 101, 51, 101, 52, 101, 53, 101, 54, 101, 55, 101, 56, 101, 57, 54, 97, 54, 98, 54, 99, 54, 100, 54, 101, 54, 102, 102, 48, 102, 49, 102, 50, 102, 51, 102, 52, 102, 53, 102, 54, 102, 55, 102, 56, 102, 57, 55, 97, 55, 98, 55, 99, 55, 100, 55, 101, 55, 102]⟩ : ByteArray)) (k := .i64) (i := (w64 ((w64 (2 * x0)) + 1))) (by kernel_rfl) (by kernel_rfl) (by kernel_rfl) c3 c4) Keep.refl ?_
  obtain ⟨t5, m6, H⟩ := bind_some H
  refine awp_op 3 (by kernel_rfl) rfl (by kernel_rfl) (owp_callF (by kernel_rfl) (shutterref03_value.calls hB m6) ?_)
  rintro v7 h8 ⟨_, rfl, rfl⟩
  refine ⟨Keep.refl, ?_⟩
  refine awp_run (fuel := 4) [4] Keep.refl (by kernel_rfl) ?_
  obtain ⟨t11, m12, H⟩ := bind_some H
  refine awp_op 9 (by kernel_rfl) rfl (by kernel_rfl) (owp_callF (by kernel_rfl) (shutterref03_value.calls hB m12) ?_)
  rintro v13 h14 ⟨_, rfl, rfl⟩
  refine ⟨Keep.refl, ?_⟩
  refine awp_run (fuel := 0) [10, 11, 12] Keep.refl (by kernel_rfl) ?_
  refine awp_nil (by kernel_rfl) ?_ 0
  refine cwp_ret ?_
  obtain rfl := Option.some.inj H
  show Exists _
  exact ⟨.int .u8 (IntKind.u8.wrap ((w64 ((w64 (16 * t5)) + t11)))), by kernel_rfl, (), rfl, rfl⟩

/-! shutter/shutterref03.Get -/
def shutterref03_Get.l1.m (K : Nat) (x0 : Int) : Nat → Int → Option (Int ⊕ (Unit))
  | 0, _ => none
  | k + 1, x4 => (if x4 < 64 then ((shutterref03_Put.m x4).bind fun t13 => (if t13 = x0 then (some (Sum.inl x4)) else (shutterref03_Get.l1.m K x0 k (w64 (x4 + 1))))) else (some (Sum.inr ())))
def shutterref03_Get.m (K : Nat) (x0 : Int) : Option Int :=
  ((shutterref03_Get.l1.m K x0 K 0).bind fun s6 => match s6 with | .inl q => (some q) | .inr _ => (some (-1)))

set_option maxRecDepth 100000 in
theorem shutterref03_Get.calls {I : Gh} {h : Heap} {K : Nat} {x0 : Int} (hB : Bd I h)  {r : Int}
    (H : shutterref03_Get.m K x0 = some r) :
    Ret Tryd.prog 39 #[.int .u8 x0] h (fun v h' => ∃ _ : Unit, .int .i64 r = v ∧ h = h') := by
  unfold shutterref03_Get.m at H
  refine ret_of (args := [.int .u8 x0]) (rs := [.tmp 2]) (N := 13) Tryd.func39 rfl rfl rfl (Nat.le_of_ble_eq_true rfl) ?_
  refine cwp_seq ?_
  refine cwp_region ?_
  refine lwp_run 1 (by kernel_rfl) ?_
  refine lwp_nil ?_
  refine cwp_seq ?_
  refine cwp_seq ?_
  refine cwp_region ?_
  refine lwp_run 1 (by kernel_rfl) ?_
  refine lwp_nil ?_
  refine cwp_block ?_
  obtain ⟨s6, m10, HR11⟩ := bind_some H
  refine cwp_loopE 0 (fun ρ' h7 => ∃ (_ : Unit), Sum.inr () = s6 ∧ Fits [] ρ' ∧ h = h7) ?_ ?_
  · refine cwp_loop (fun k' ρ' h1 => ∃ (x4 : Int) (_ : Unit), shutterref03_Get.l1.m K x0 k' x4 = some s6 ∧ Fits [(0, .int .u8 x0), (3, .int .i64 x4)] ρ' ∧ h = h1) K ⟨0, (), m10, ⟨by kernel_rfl, by kernel_rfl, trivial⟩, rfl⟩ ?_
    clear m10
    rintro k' ρ' h1 ⟨x4, _, H, hf, rfl⟩
    cases k' with
    | zero => cases H
    | succ k =>
      rw [shutterref03_Get.l1.m] at H
      refine cwp_fits _ hf ?_
      refine cwp_seq ?_
      refine cwp_seq ?_
      refine cwp_region ?_
      refine lwp_run 1 (by kernel_rfl) ?_
      by_cases c12 : x4 < 64
      · rw [if_pos c12] at H
        refine lwp_op (by kernel_rfl) (owp_pure ((.bool true)) (pr_bool (by kernel_rfl) (decide_eq_true c12)) ?_)
        refine lwp_nil ?_
        refine cwp_true (by kernel_rfl) ?_
        refine cwp_skip ?_
        refine cwp_seq ?_
        refine cwp_block ?_
        refine cwp_seq ?_
        refine cwp_region ?_
        refine lwp_run 1 (by kernel_rfl) ?_
        obtain ⟨t13, m14, H⟩ := bind_some H
        refine lwp_op (by kernel_rfl) (owp_callF (by kernel_rfl) (shutterref03_Put.calls hB m14) ?_)
        rintro v15 h16 ⟨_, rfl, rfl⟩
        refine lwp_run 1 (by kernel_rfl) ?_
        by_cases c19 : t13 = x0
        · rw [if_pos c19] at H
          refine lwp_op (by kernel_rfl) (owp_pure ((.bool true)) (pr_bool (by kernel_rfl) (eqT c19)) ?_)
          refine lwp_nil ?_
          refine cwp_true (by kernel_rfl) ?_
          refine cwp_seq ?_
          refine cwp_region ?_
          refine lwp_run 2 (by kernel_rfl) ?_
          refine lwp_nil ?_
          refine cwp_ret ?_
          obtain rfl := Option.some.inj H
          obtain rfl := Option.some.inj HR11
          show Exists _
          exact ⟨.int .i64 x4, by kernel_rfl, (), rfl, rfl⟩
        · rw [if_neg c19] at H
          refine lwp_op (by kernel_rfl) (owp_pure ((.bool false)) (pr_bool (by kernel_rfl) (eqF c19)) ?_)
          refine lwp_nil ?_
          refine cwp_false (by kernel_rfl) ?_
          refine cwp_skip ?_
          refine cwp_region ?_
          refine lwp_run 3 (by kernel_rfl) ?_
          refine lwp_nil ?_
          show Exists _
          exact ⟨k, Nat.lt_succ_self _, (w64 (x4 + 1)), (), H, ⟨by kernel_rfl, by kernel_rfl, trivial⟩, rfl⟩
      · rw [if_neg c12] at H
        refine lwp_op (by kernel_rfl) (owp_pure ((.bool false)) (pr_bool (by kernel_rfl) (decide_eq_false c12)) ?_)
        refine lwp_nil ?_
        refine cwp_false (by kernel_rfl) ?_
        refine cwp_exit ?_
        obtain rfl := Option.some.inj H
        show Exists _
        exact ⟨(), rfl, trivial, rfl⟩
  · rintro ρ' h7 ⟨_, rfl, hf, rfl⟩
    have H := HR11
    try dsimp only at H
    refine cwp_fits _ hf ?_
    refine cwp_seq ?_
    refine cwp_region ?_
    refine lwp_run 1 (by kernel_rfl) ?_
    refine lwp_nil ?_
    refine cwp_ret ?_
    obtain rfl := Option.some.inj H
    show Exists _
    exact ⟨.int .i64 (-1), by kernel_rfl, (), rfl, rfl⟩

end Go.Proofs.YtenlbpcfilmgpaaDoor.Sx
