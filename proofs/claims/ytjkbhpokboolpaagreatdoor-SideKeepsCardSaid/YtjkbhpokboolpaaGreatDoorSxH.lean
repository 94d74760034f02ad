import Derived.Test.YtjkbhpokboolpaaGreatDoorSx6
import Derived.Laws.IdiomStrings
namespace Go.Proofs.YtjkbhpokboolpaaGreatDoor.Sx
open Go
def bsub (s : ByteArray) (lo hi : Int) : ByteArray := s.extract lo.toNat hi.toNat
def strL (s : ByteArray) : List Int := s.data.toList.map (fun b => (b.toNat : Int))
theorem strL_length (s : ByteArray) : (strL s).length = s.size := by unfold strL; rw [List.length_map]; rfl
section
variable {P : Program} {N : Nat} {Q : Post} {ρ : Env} {h : Heap} {ops : Array Oper} {K : Env → Heap → Prop}
variable {dst : Option Tmp} {ty : TypeId} {pos : String} {aft : Array Edge} {g : Option (Nat × Bool)}
theorem pr_sliceStr_lh {t : TypeId} {x xl xh : Operand} {s : ByteArray} {k1 k2 : IntKind} {lo hi : Int} (hx : ev N ρ x = .string s) (hl : ev N ρ xl = .int k1 lo) (hh : ev N ρ xh = .int k2 hi)
    (hu : P.underlying t = some .string) (h0 : 0 ≤ lo) (h1 : lo ≤ hi) (h2 : hi ≤ (s.size : Int)) :
    pureRun P (execOp (ev N ρ) ⟨dst, .slice t x (some xl) (some xh) none, ty, pos, aft, g⟩) = some (.value (.string (bsub s lo hi))) := by
  simp only [execOp, hx, Option.map_some, hl, hh, Option.map_none]
  refine (pureRun_bind' (x := .string (bsub s lo hi)) ?_).trans rfl
  unfold Instr.sliceAt
  refine (pureRun_bind' (pureRun_underlying hu)).trans ?_
  simp only
  unfold Instr.slice
  refine (pureRun_bind' (pureRun_underlying hu)).trans ?_
  simp only
  refine (pureRun_bind' (x := (lo.toNat, hi.toNat, s.size)) ?_).trans rfl
  unfold Instr.sliceBounds
  refine (pureRun_bind' (x := s.size) rfl).trans ?_
  refine (pureRun_bind' (pr_bound (by omega) h2)).trans ?_
  refine (pureRun_bind' (pr_bound h0 (by omega))).trans ?_
  rfl
theorem owp_bytes {I : Gh} {src d2 e : TypeId} {x : Operand} {s : ByteArray} (hB : Bd I h) (hs : P.underlying src = some .string) (hd : P.underlying d2 = some (.slice e)) (he : P.underlying e = some (.int .u8))
    (hx : ev N ρ x = .string s)
    (k : ∀ c cap h', h.size ≤ c → Pst No I h (Fz I (some ⟨c, 0, none⟩)) h' → Rd (tInt .u8) (Fz I (some ⟨c, 0, none⟩)) h' (some ⟨c, 0, none⟩) cap (strL s) → K (put N ρ dst (.slice (some ⟨c, 0, none⟩) (strL s).length cap)) h') :
    owp P N ⟨dst, .convert src d2 x, ty, pos, aft, g⟩ ρ h K := by
  intro w a ha hh K' hK
  subst hh
  have hr := run_bytes_of_string (P := P) w src d2 e s hs hd he
  unfold xwp
  have hrun : (execOp a.eval ⟨dst, .convert src d2 x, ty, pos, aft, g⟩).run P w = .ok (.value (.slice (some ⟨w.heap.size, 0, none⟩) (strL s).length (grownCap w s.size 0 e))) (w.drew.alloc (.cells (bytesRow s (grownCap w s.size 0 e)) e ((bytesRow s (grownCap w s.size 0 e)).size, (bytesRow s (grownCap w s.size 0 e)).size + 1))) := by
    rw [ha.eval]
    simp only [execOp, hx]
    simp [hr, strL_length]
  rw [hrun]
  have hge := grownCap_ge w s.size 0 e
  have hsz : (bytesRow s (grownCap w s.size 0 e)).size = grownCap w s.size 0 e := by
    unfold bytesRow
    rw [Array.size_append, Array.size_map, Array.size_replicate]
    have : s.data.size = s.size := rfl
    omega
  generalize hrow : bytesRow s (grownCap w s.size 0 e) = row at *
  have hh : ∀ o, (w.drew.alloc o).heap = w.heap.push o := fun o => rfl
  refine hK _ _ _ (ha.put _ _) (put_defers _ _ _) ⟨rfl, rfl, rfl⟩ (k w.heap.size (grownCap w s.size 0 e) _ (Nat.le_refl _) ?_ ?_)
  · rw [hh]
    refine ⟨fun b x => .inl x, fun b x => x.elim .inl (fun y => .inr (.inr ?_)), fun b x => ?_, by simp, fun b hb _ => by rw [Array.getElem?_push, if_neg (by omega)], fun b x o e => ?_⟩
    · obtain rfl := inA_some y; exact Nat.le_refl _
    · rcases x with x | x
      · have := hB b x; simp; omega
      · obtain rfl := inA_some x; simp
    · rw [Array.getElem?_push] at e
      split at e
      · obtain rfl := Option.some.inj e; exact fun i hi y => absurd y.1 (Nat.not_le_of_lt hi)
      · exact un_refl b x o e
  · rw [hh]
    have hb : (w.heap.push (.cells row e (row.size, row.size + 1)))[w.heap.size]? = some (.cells row e (row.size, row.size + 1)) := by simp
    refine ⟨sl_of hb (by simp [tInt, hsz]) (by rw [strL_length]; exact hge) ?_, fun ad e' _ => by obtain rfl := Option.some.inj e'; exact .inr ⟨_, rfl, rfl⟩⟩
    have : Sx.seg row 0 ((strL s).length * (tInt .u8).size) = (strL s).map (Value.int .u8) := by
      subst hrow
      unfold Sx.seg bytesRow strL
      simp only [tInt, Nat.mul_one, List.drop_zero, Array.toList_append, Array.toList_map, List.length_map, List.map_map]
      rw [List.take_left' (by simp)]
      rfl
    rw [this]
    exact Reps.int
end
theorem Reps.take {α : Type} {T : Ty α} {I : Gh} {h : Heap} {cs : List Value} {l : List α} (r : Reps T I h cs l) (k : Nat) : Reps T I h (cs.take (k * T.size)) (l.take k) := by
  induction r generalizing k with
  | nil => simp only [List.take_nil]; exact .nil
  | @cons c cs x l hx hr ih =>
    cases k with
    | zero => simp only [Nat.zero_mul, List.take_zero]; exact .nil
    | succ k =>
      have hc := T.len hx
      rw [List.take_succ_cons, Nat.succ_mul, Nat.add_comm (k * T.size), ← hc, List.take_length_add_append]
      rw [hc]
      exact .cons hx (ih k)
theorem Reps.drop {α : Type} {T : Ty α} {I : Gh} {h : Heap} {cs : List Value} {l : List α} (r : Reps T I h cs l) (k : Nat) : Reps T I h (cs.drop (k * T.size)) (l.drop k) := by
  induction r generalizing k with
  | nil => simp only [List.drop_nil]; exact .nil
  | @cons c cs x l hx hr ih =>
    cases k with
    | zero => simp only [Nat.zero_mul, List.drop_zero]; exact .cons hx hr
    | succ k =>
      have hc := T.len hx
      rw [List.drop_succ_cons, Nat.succ_mul, Nat.add_comm (k * T.size), ← hc, List.drop_length_add_append]
      rw [hc]
      exact ih k
def cpy {α : Type} (l m : List α) : List α := m.take l.length ++ l.drop m.length
theorem cpy_len {α : Type} {l m : List α} : (cpy l m).length = l.length := by
  unfold cpy; rw [List.length_append, List.length_take, List.length_drop]; omega
section
variable {P : Program} {N : Nat} {Q : Post} {ρ : Env} {h : Heap} {ops : Array Oper} {K : Env → Heap → Prop}
variable {dst : Option Tmp} {ty : TypeId} {pos : String} {aft : Array Edge} {g : Option (Nat × Bool)}
theorem run_copy {α : Type} {T : Ty α} {G I : Gh} {w : World} {dT sT e : TypeId} {a a2 : Option Addr} {cap cap2 : Nat} {l l2 : List α} (hu : P.underlying dT = some (.slice e)) (hs1 : (P.info? e).map (·.size) = some 1) (hT : T.size = 1)
    (hB : Bd I w.heap) (hGB : Bd G w.heap) (s : OwnX T G I w.heap a cap l) (hG : ∀ b, InA a b → ¬ G b) (s2 : Sl T G w.heap a2 cap2 l2) :
    ∃ w', (Builtin.copy_ #[dT, sT] ty #[.slice a l.length cap, .slice a2 l2.length cap2]).run P w = .ok (goInt ((min l2.length l.length : Nat) : Int)) w' ∧ Same w w' ∧ Pst (InA a) I w.heap I w'.heap ∧ OwnX T G I w'.heap a cap (cpy l l2) := by
  obtain ⟨i, hi, hi1⟩ : ∃ i, P.info? e = some i ∧ i.size = 1 := by
    cases hq : P.info? e with
    | none => rw [hq] at hs1; cases hs1
    | some i => rw [hq] at hs1; exact ⟨i, rfl, Option.some.inj hs1⟩
  cases a with
  | none =>
    obtain ⟨rfl, rfl⟩ := s.nil rfl
    refine ⟨w, ?_, Same.refl w, Pst.refl hB, by simpa [cpy] using s⟩
    cases a2 <;> simp [Builtin.copy_, run_underlying hu, Builtin.lenOf, Builtin.firstCells, sizeOf, typeInfo, hi, hi1, loadCells, loadCellsFrom]
  | some ad =>
    rcases Nat.eq_zero_or_pos l2.length with h0 | h0
    · have : l2 = [] := List.eq_nil_of_length_eq_zero h0
      subst this
      refine ⟨w, ?_, Same.refl w, Pst.refl hB, by simpa [cpy] using s⟩
      cases a2 <;> simp [Builtin.copy_, run_underlying hu, Builtin.lenOf, Builtin.firstCells, sizeOf, typeInfo, hi, hi1, loadCells, loadCellsFrom, storeCells]
    · cases a2 with
      | none => have := (s2.nil rfl).1; subst this; simp at h0
      | some ad2 =>
        have hle2 := s2.le
        obtain ⟨c2, t2, fr2, hb2, hsp2, hf2, hl2, r2⟩ := s2.reps ad2 rfl (by omega)
        obtain ⟨c, t1, hb1, hsp, hno, hf1, hl1, r1⟩ := s.reps ad rfl
        obtain ⟨b, o, sp⟩ := ad
        obtain rfl : sp = none := hsp
        obtain ⟨b2, o2, sp2⟩ := ad2
        obtain rfl : sp2 = none := hsp2
        simp only at hb1 hb2 hf1 hf2 hno r1 r2
        simp only [hT, Nat.mul_one] at r1 r2 hf1 hf2
        have hn : ((seg c2 o2 l2.length).take l.length).length = Nat.min l2.length l.length := by rw [List.length_take, seg_length (by omega), Nat.min_comm]
        have hnl : ((seg c2 o2 l2.length).take l.length).length ≤ l.length := by rw [List.length_take]; exact Nat.min_le_left ..
        have hone := (r2.take l.length).one
        rw [hT, Nat.mul_one] at hone
        have hrun := run_copy_row (P := P) w dT sT ty e b o l.length cap ⟨b2, o2, none⟩ l2.length cap2 c t1 ((seg c2 o2 l2.length).take l.length) hu hs1 hb1 hn
          (fun j v hv => cells_at (o := o2) (m := l2.length) hb2 j v (by
            rw [List.getElem?_take] at hv
            split at hv
            · exact hv
            · cases hv)) (by omega) hone
        have e1 : goInt ((seg c2 o2 l2.length).take l.length).length = goInt ((min l2.length l.length : Nat) : Int) := by rw [hn]
        rw [e1] at hrun
        generalize hcs : (seg c2 o2 l2.length).take l.length = cs at *
        have hpst := post_setRow (w := w) (I := I) (b := b) (c := (c.toList.take o ++ cs ++ c.toList.drop (o + cs.length)).toArray) hB hb1
        have hup : Up G w.heap G _ := (post_setRow (w := w) (I := G) (b := b) (c := (c.toList.take o ++ cs ++ c.toList.drop (o + cs.length)).toArray) hGB hb1).up hGB (fun y hy => hG y ⟨⟨b, o, none⟩, rfl, hy.symm⟩)
        have hb' := heap_setRow (c' := (c.toList.take o ++ cs ++ c.toList.drop (o + cs.length)).toArray) hb1
        have hsize : (c.toList.take o ++ cs ++ c.toList.drop (o + cs.length)).toArray.size = c.size := by
          simp only [List.size_toArray, List.length_append, List.length_take, List.length_drop, Array.length_toList]; omega
        have hrep : Reps T G w.heap (cs ++ (seg c o l.length).drop cs.length) (cpy l l2) := by
          unfold cpy
          have q1 := r2.take l.length
          rw [hT, Nat.mul_one, hcs] at q1
          have q2 := r1.drop l2.length
          rw [hT, Nat.mul_one] at q2
          refine q1.append ?_
          have : (seg c o l.length).drop cs.length = (seg c o l.length).drop l2.length := by
            rcases Nat.le_total l2.length l.length with h | h
            · rw [hn]; congr 1; exact Nat.min_eq_left h
            · have e2 : cs.length = l.length := by rw [hn]; exact Nat.min_eq_right h
              rw [e2, List.drop_eq_nil_of_le (Nat.le_of_eq (seg_length (by omega))), List.drop_eq_nil_of_le (by rw [seg_length (by omega)]; exact h)]
          rw [this]; exact q2
        refine ⟨_, hrun, same_setRow _ _ _, hpst.weaken (fun y hy => .inl ⟨⟨b, o, none⟩, rfl, hy.symm⟩), ⟨sl_of hb' (by rw [hsize, hT, Nat.mul_one]; exact hf1) (by rw [cpy_len]; exact hl1) ?_, fun ad' e' => ?_⟩⟩
        · rw [cpy_len, hT, Nat.mul_one]
          have hsg := seg_in (c := c) (vs := cs) (p := o) (o := o) (m := l.length) (f := 0) (by omega) rfl (by omega)
          rw [hsg, List.take_zero, List.nil_append, Nat.zero_add]
          exact hrep.up hup
        · obtain rfl := Option.some.inj e'
          exact ⟨rfl, hno, _, t1, hb', by rw [hsize, hT, Nat.mul_one]; exact hf1⟩
theorem owp_copy {α : Type} (T : Ty α) {G I : Gh} {dT sT e : TypeId} {x y : Operand} {a a2 : Option Addr} {cap cap2 : Nat} {l l2 : List α} (hu : P.underlying dT = some (.slice e)) (hs1 : (P.info? e).map (·.size) = some 1) (hT : T.size = 1)
    (hB : Bd I h) (hGB : Bd G h) (s : OwnX T G I h a cap l) (hG : ∀ b, InA a b → ¬ G b) (s2 : Sl T G h a2 cap2 l2) (hx : ev N ρ x = .slice a l.length cap) (hy : ev N ρ y = .slice a2 l2.length cap2)
    (k : ∀ h', Pst (InA a) I h I h' → OwnX T G I h' a cap (cpy l l2) → K (put N ρ dst (goInt ((min l2.length l.length : Nat) : Int))) h') :
    owp P N ⟨dst, .call ⟨.builtin .copy, #[x, y], #[dT, sT]⟩, ty, pos, aft, g⟩ ρ h K := by
  intro w ac ha hh K' hK
  subst hh
  obtain ⟨w', hr, hs, hp, ho⟩ := run_copy (P := P) (ty := ty) (sT := sT) hu hs1 hT hB hGB s hG s2
  unfold xwp
  have hx' : ac.eval x = .slice a l.length cap := by rw [ha.eval]; exact hx
  have hy' : ac.eval y = .slice a2 l2.length cap2 := by rw [ha.eval]; exact hy
  have : (execOp ac.eval ⟨dst, .call ⟨.builtin .copy, #[x, y], #[dT, sT]⟩, ty, pos, aft, g⟩).run P w = .ok (.value (goInt ((min l2.length l.length : Nat) : Int))) w' := by
    simp only [execOp, resolve]
    simp [invoke, builtin, hx', hy', hr]
  rw [this]
  exact hK _ _ _ (ha.put _ _) (put_defers _ _ _) hs (k _ hp ho)
end
theorem arr_expand {l : List Int} {n : Nat} (f : Int → Value) (hl : l.length = n) : l.map f = (List.range n).map (fun (j : Nat) => f (at_ l (j : Int))) := by
  apply List.ext_getElem?
  intro j
  rw [List.getElem?_map, List.getElem?_map]
  by_cases h : j < n
  · rw [List.getElem?_range h, List.getElem?_eq_getElem (by omega)]
    simp only [Option.map_some]
    rw [at_eq (hi := by omega)]
    simp
  · rw [List.getElem?_eq_none (by omega), List.getElem?_eq_none (by rw [List.length_range]; omega)]; rfl
theorem arr_mid {pre post : List Value} {l : List Int} {f : Int → Value} {i : Int} (h0 : 0 ≤ i) (h1 : i < (l.length : Int)) : (pre ++ (l.map f ++ post))[pre.length + i.toNat]? = some (f (at_ l i)) := by
  rw [List.getElem?_append_right (by omega), Nat.add_sub_cancel_left, List.getElem?_append_left (by rw [List.length_map]; omega), List.getElem?_map, List.getElem?_eq_getElem (by omega), at_eq (hi := by omega)]; rfl
theorem arr_set {pre post : List Value} {l : List Int} {k : IntKind} {i : Int} {v : Int} (h0 : 0 ≤ i) (h1 : i < (l.length : Int)) : (pre ++ (l.map (Value.int k) ++ post)).set (pre.length + i.toNat) (.int k v) = pre ++ ((l.set i.toNat v).map (Value.int k) ++ post) := by
  rw [List.set_append_right _ _ (by omega), Nat.add_sub_cancel_left, List.set_append_left _ _ (by rw [List.length_map]; omega), List.map_set]
section
variable {P : Program} {N : Nat} {ρ : Env} {h : Heap} {K : Env → Heap → Prop} {I : Gh}
variable {dst : Option Tmp} {ty : TypeId} {pos : String} {aft : Array Edge} {g : Option (Nat × Bool)} {k : IntKind} {l : List Int} {b n o0 : Nat} {T : TypeId} {i : Int} {cs pre post : List Value}
theorem OwnB.arrCellO (pre : List Value) (l : List Int) (post : List Value) (o : OwnB I h b cs T) (e : cs = pre ++ (l.map (Value.int k) ++ post)) (ho : pre.length = o0) (h0 : 0 ≤ i) (h1 : i < (l.length : Int)) :
    cellAt h (some ⟨b, o0, none⟩) (i.toNat * 1) = some (.int k (Sx.at_ l i)) := by
  subst ho
  have hc := arr_mid (pre := pre) (post := post) (f := Value.int k) h0 h1
  rw [← e] at hc
  unfold cellAt
  simp only
  rw [o.at_]
  simp only [Nat.mul_one]
  simpa using hc
theorem ImB.arrCellO (pre : List Value) (l : List Int) (post : List Value) (o : ImB I h b cs T) (e : cs = pre ++ (l.map (Value.int k) ++ post)) (ho : pre.length = o0) (h0 : 0 ≤ i) (h1 : i < (l.length : Int)) :
    cellAt h (some ⟨b, o0, none⟩) (i.toNat * 1) = some (.int k (Sx.at_ l i)) := by
  subst ho
  have hc := arr_mid (pre := pre) (post := post) (f := Value.int k) h0 h1
  rw [← e] at hc
  unfold cellAt
  simp only
  rw [o.at_]
  simp only [Nat.mul_one]
  simpa using hc
theorem pr_indexArrO {t e : TypeId} {x ix : Operand} {kk : IntKind} {sz : Nat} (hx : ev N ρ x = .pointer (some ⟨b, o0, none⟩)) (hix : ev N ρ ix = .int kk i) (hu : P.underlying t = some (.array n e)) (hsz : pureRun P (sizeOf e) = some sz)
    (h0 : 0 ≤ i) (h1 : i < (n : Int)) : pureRun P (execOp (ev N ρ) ⟨dst, .indexAddr t x ix, ty, pos, aft, g⟩) = some (.value (elemPtr (some ⟨b, o0, none⟩) (i.toNat * sz))) := by
  simp only [execOp, hx, hix]
  refine (pureRun_bind' (x := elemPtr (some ⟨b, o0, none⟩) (i.toNat * sz)) ?_).trans rfl
  unfold Instr.indexAt
  refine (pureRun_bind' (x := (kk, i)) rfl).trans ?_
  dsimp only
  rw [pureRun_bind' (pureRun_underlying hu)]
  dsimp only
  rw [pureRun_bind' (x := (⟨b, o0, none⟩ : Addr)) rfl]
  rw [pureRun_bind' (pureRun_pure _)]
  dsimp only
  rw [pureRun_bind' (pureRun_underlying hu)]
  dsimp only
  rw [if_pos ⟨h0, h1⟩, pureRun_bind' hsz, Addr.add_lit]
  rfl
theorem owp_storeArrO (pre : List Value) (l : List Int) (post : List Value) {t : TypeId} {x vx : Operand} (v : Int) (hB : Bd I h) (o : OwnB I h b cs T) (e : cs = pre ++ (l.map (Value.int k) ++ post)) (ho : pre.length = o0) (h0 : 0 ≤ i) (h1 : i < (l.length : Int))
    (hx : ev N ρ x = elemPtr (some ⟨b, o0, none⟩) (i.toNat * 1)) (hv : ev N ρ vx = .int k v) (hm : pureRun P (sizeOf t) = some 1)
    (kk : ∀ h', Pst (One b) I h I h' → OwnB I h' b (pre ++ ((l.set i.toNat v).map (Value.int k) ++ post)) T → K (put N ρ dst undef) h') : owp P N ⟨dst, .store t x vx, ty, pos, aft, g⟩ ρ h K := by
  subst ho
  have hx' : ev N ρ x = .pointer (some ⟨b, pre.length + i.toNat, none⟩) := by rw [hx]; simp [elemPtr]
  refine owp_store1 (pre.length + i.toNat) (.int k v) hB o hx' hv rfl hm (by rw [e]; simp; omega) (fun h' p o' => kk h' p ?_)
  rw [e, arr_set h0 h1] at o'
  exact o'
end
end Go.Proofs.YtjkbhpokboolpaaGreatDoor.Sx
