import Derived.Test.YtjkbhpokboolpaaGreatDoorProg
import Derived.Test.YtjkbhpokboolpaaGreatDoorV3
import Derived.Lib.AppendZerosOnto
import Derived.Lib.Overlaps
import Derived.Laws.CopyRow
import Derived.Laws.Externs
namespace Go.Proofs.YtjkbhpokboolpaaGreatDoor.Sx
open Go
set_option maxRecDepth 100000
section
variable {α : Type} {T : Ty α} {G I : Gh} {h : Heap} {P : Program} {N : Nat} {ρ : Env} {K : Env → Heap → Prop}
variable {dst : Option Tmp} {ty : TypeId} {pos : String} {aft : Array Edge} {g : Option (Nat × Bool)}
theorem run_copyAt {w : World} {dT sT e : TypeId} {b o b2 o2 cap dn dc sn sc p : Nat} {l m : List α} {cs : List Value} (hu : P.underlying dT = some (.slice e)) (hs1 : (P.info? e).map (·.size) = some 1) (hT : T.size = 1)
    (hB : Bd I w.heap) (hGB : Bd G w.heap) (s : OwnX T G I w.heap (some ⟨b, o, none⟩) cap l) (hG : ¬ G b) (r : Reps T G w.heap cs m)
    (hsrc : ∀ j v, cs[j]? = some v → w.cell? ((⟨b2, o2, none⟩ : Addr).add j) = some v) (hp : p ≤ l.length) (hpc : p + m.length ≤ cap) (hn : m.length = Nat.min sn dn) :
    ∃ w', (Builtin.copy_ #[dT, sT] ty #[.slice (some ⟨b, o + p, none⟩) dn dc, .slice (some ⟨b2, o2, none⟩) sn sc]).run P w = .ok (goInt m.length) w' ∧ Same w w' ∧ Pst (InA (some ⟨b, o, none⟩)) I w.heap I w'.heap ∧
      OwnX T G I w'.heap (some ⟨b, o, none⟩) cap (l.take p ++ m ++ l.drop (p + m.length)) := by
  obtain ⟨c, t1, hb1, _, hno, hf1, hl1, r1⟩ := s.reps _ rfl
  simp only [hT, Nat.mul_one] at r1 hf1
  simp only at hb1 hf1 hno r1
  have hcl : cs.length = m.length := by have := r.len; rwa [hT, Nat.mul_one] at this
  have hrun := run_copy_row (P := P) w dT sT ty e b (o + p) dn dc ⟨b2, o2, none⟩ sn sc c t1 cs hu hs1 hb1 (by rw [hcl]; exact hn) hsrc (by rw [hcl]; omega) r.one
  rw [hcl] at hrun
  have hpst := post_setRow (w := w) (I := I) (b := b) (c := (c.toList.take (o + p) ++ cs ++ c.toList.drop (o + p + m.length)).toArray) hB hb1
  have hup : Up G w.heap G _ := (post_setRow (w := w) (I := G) (b := b) (c := (c.toList.take (o + p) ++ cs ++ c.toList.drop (o + p + m.length)).toArray) hGB hb1).up hGB (fun y hy => by cases hy; exact hG)
  have hb' := heap_setRow (c' := (c.toList.take (o + p) ++ cs ++ c.toList.drop (o + p + m.length)).toArray) hb1
  have hsize : (c.toList.take (o + p) ++ cs ++ c.toList.drop (o + p + m.length)).toArray.size = c.size := by
    simp only [List.size_toArray, List.length_append, List.length_take, List.length_drop, Array.length_toList]; omega
  have hll : (l.take p ++ m ++ l.drop (p + m.length)).length ≤ cap := by simp only [List.length_append, List.length_take, List.length_drop]; omega
  have hrep : Reps T G w.heap ((seg c o l.length).take p ++ cs ++ (seg c o l.length).drop (p + m.length)) (l.take p ++ m ++ l.drop (p + m.length)) := by
    have q1 := r1.take p
    have q2 := r1.drop (p + m.length)
    rw [hT, Nat.mul_one] at q1 q2
    exact (q1.append r).append q2
  refine ⟨_, hrun, same_setRow _ _ _, hpst.weaken (fun y hy => .inl ⟨⟨b, o, none⟩, rfl, hy.symm⟩), ⟨sl_of hb' (by rw [hsize, hT, Nat.mul_one]; exact hf1) hll ?_, fun ad' e' => ?_⟩⟩
  · have hx : seg (c.toList.take (o + p) ++ cs ++ c.toList.drop (o + p + m.length)).toArray o ((l.take p ++ m ++ l.drop (p + m.length)).length * T.size) = (seg c o l.length).take p ++ cs ++ (seg c o l.length).drop (p + m.length) := by
      rw [hT, Nat.mul_one]
      have hlen := hrep.len
      rw [hT, Nat.mul_one] at hlen
      have hcs : c.toList.length = c.size := Array.length_toList
      have e1 : (c.toList.take (o + p)).length = o + p := by rw [List.length_take]; omega
      have e0 : (seg c o l.length).length = l.length := seg_length (by omega)
      have e2 : ((seg c o l.length).take p).length = p := by rw [List.length_take, e0]; omega
      have e3 : (l.take p ++ m ++ l.drop (p + m.length)).length = p + m.length + (l.length - (p + m.length)) := by simp only [List.length_append, List.length_take, List.length_drop]; omega
      have e4 : (c.toList.take (o + p) ++ cs).length = o + p + m.length := by rw [List.length_append, e1, hcl]
      have e5 : ((seg c o l.length).take p ++ cs).length = p + m.length := by rw [List.length_append, e2, hcl]
      rw [e3] at hlen ⊢
      unfold Sx.seg at hlen e0 e2 e5 ⊢
      apply List.ext_getElem?
      intro j
      by_cases hj : j < p + m.length + (l.length - (p + m.length))
      · rw [List.getElem?_take, if_pos hj, List.getElem?_drop]
        simp only [List.getElem?_append, List.length_append, e1, e2, hcl]
        by_cases h2 : j < p + m.length
        · by_cases h1 : j < p
          · rw [if_pos (by omega), if_pos (by omega), if_pos h2, if_pos h1]
            simp only [List.getElem?_take, List.getElem?_drop]
            rw [if_pos (by omega), if_pos h1, if_pos (by omega)]
          · rw [if_pos (by omega), if_neg (by omega), if_pos h2, if_neg h1]
            congr 1
            omega
        · rw [if_neg (by omega), if_neg h2]
          simp only [List.getElem?_take, List.getElem?_drop]
          rw [if_pos (by omega)]
          congr 1
          omega
      · rw [List.getElem?_eq_none (by rw [List.length_take]; omega), List.getElem?_eq_none (by rw [hlen]; omega)]
    rw [hx]; exact hrep.up hup
  · obtain rfl := Option.some.inj e'
    exact ⟨rfl, hno, _, t1, hb', by rw [hsize, hT, Nat.mul_one]; exact hf1⟩
theorem owp_copyAt {dT sT e : TypeId} {x y : Operand} {b o b2 o2 cap dn dc sn sc p : Nat} {l m : List α} {cs : List Value} (hu : P.underlying dT = some (.slice e)) (hs1 : (P.info? e).map (·.size) = some 1) (hT : T.size = 1)
    (hB : Bd I h) (hGB : Bd G h) (s : OwnX T G I h (some ⟨b, o, none⟩) cap l) (hG : ¬ G b) (r : Reps T G h cs m)
    (hsrc : ∀ w : World, w.heap = h → ∀ j v, cs[j]? = some v → w.cell? ((⟨b2, o2, none⟩ : Addr).add j) = some v) (hp : p ≤ l.length) (hpc : p + m.length ≤ cap) (hn : m.length = Nat.min sn dn)
    (hx : ev N ρ x = .slice (some ⟨b, o + p, none⟩) dn dc) (hy : ev N ρ y = .slice (some ⟨b2, o2, none⟩) sn sc)
    (k : ∀ h', Pst (InA (some ⟨b, o, none⟩)) I h I h' → OwnX T G I h' (some ⟨b, o, none⟩) cap (l.take p ++ m ++ l.drop (p + m.length)) → K (put N ρ dst (goInt m.length)) h') :
    owp P N ⟨dst, .call ⟨.builtin .copy, #[x, y], #[dT, sT]⟩, ty, pos, aft, g⟩ ρ h K := by
  intro w ac ha hh K' hK
  have hsrc' := hsrc w hh
  subst hh
  obtain ⟨w', hr, hs, hp, ho⟩ := run_copyAt (P := P) (ty := ty) (sT := sT) (dc := dc) (sc := sc) hu hs1 hT hB hGB s hG r hsrc' hp hpc hn
  unfold xwp
  have hx' : ac.eval x = .slice (some ⟨b, o + p, none⟩) dn dc := by rw [ha.eval]; exact hx
  have hy' : ac.eval y = .slice (some ⟨b2, o2, none⟩) sn sc := by rw [ha.eval]; exact hy
  have : (execOp ac.eval ⟨dst, .call ⟨.builtin .copy, #[x, y], #[dT, sT]⟩, ty, pos, aft, g⟩).run P w = .ok (.value (goInt m.length)) w' := by
    simp only [execOp, resolve]
    simp [invoke, builtin, hx', hy', hr]
  rw [this]
  exact hK _ _ _ (ha.put _ _) (put_defers _ _ _) hs (k _ hp ho)
theorem zeroCells1 (v : Value) (k : Nat) : Builtin.zeroCells #[v] k = (List.replicate k v).toArray := by
  apply Array.ext (by simp [Builtin.zeroCells])
  intro i h1 h2
  simp [Builtin.zeroCells, Nat.mod_one]
theorem Reps.zeros {v : Value} {z : α} (r : T.rep G h [v] z) : ∀ k, Reps T G h (List.replicate k v) (List.replicate k z)
  | 0 => .nil
  | k + 1 => by rw [List.replicate_succ, List.replicate_succ]; exact Reps.cons (c := [v]) r (Reps.zeros r k)
theorem owp_appendZ {t tn e : TypeId} {x y : Operand} {b o cap k bytes : Nat} {kn : IntKind} (z : α) (v : Value) (hu : P.underlying t = some (.slice e)) (htn : P.underlying tn = some (.int kn)) (he : ElemOk P e 1 bytes) (hz : ((P.info? e).bind (·.zero)).map (·.cells) = some #[v])
    (hT : T.size = 1) (hB : Bd I h) (hGB : Bd G h) (hrep : T.rep G h [v] z) (hk : cap < k) (hby : Builtin.nextslicecap (0 + k) cap * bytes ≤ 281474976710656) (hby2 : k * bytes ≤ 281474976710656) (h63 : k ≤ 9223372036854775807)
    (hx : ev N ρ x = .slice (some ⟨b, o, none⟩) 0 cap) (hy : ev N ρ y = .int kn k)
    (q : ∀ b' cap' h', h.size ≤ b' → Pst No I h I h' → OwnX T G I h' (some ⟨b', 0, none⟩) cap' (List.replicate k z) → K (put N ρ dst (.slice (some ⟨b', 0, none⟩) k cap')) h') :
    owp P N ⟨dst, .call ⟨.builtin .append, #[x, y], #[t, tn]⟩, ty, pos, aft, g⟩ ρ h K := by
  intro w ac ha hh K' hK
  subst hh
  obtain ⟨i, zz, hi, hzz, hsz, hbt, hzs⟩ := he.ok
  subst hbt
  have hold : (Builtin.firstCells i.size 0 (.slice (some ⟨b, o, none⟩) 0 cap)).run P w.drew = .ok ([] : List Value).toArray w.drew := by
    simp [Builtin.firstCells, loadCells, loadCellsFrom]
  have hzc : zz.cells = #[v] := by rw [hi] at hz; simp only [Option.bind_some, hzz, Option.map_some] at hz; exact Option.some.inj hz
  have hrun := Go.Lib.run_append_grow_zeros (P := P) w t tn ty e i zz kn kn hu htn hi hzz (some ⟨b, o, none⟩) 0 cap [] hold k (by omega) (by omega) (by omega) (by omega) hby2 hby
  have hge := grownCap_ge w (0 + k) cap e
  rw [hzc, zeroCells1, zeroCells1, Nat.zero_add] at hrun
  rw [Nat.zero_add] at hge
  generalize hgc : grownCap w k cap e = gc at *
  have hcells : ([] : List Value).toArray ++ (List.replicate k v).toArray ++ (List.replicate (gc - k) v).toArray = (List.replicate gc v).toArray := by
    apply Array.ext' ; simp
    omega
  rw [hcells] at hrun
  unfold xwp
  have hx' : ac.eval x = .slice (some ⟨b, o, none⟩) 0 cap := by rw [ha.eval]; exact hx
  have hy' : ac.eval y = .int kn k := by rw [ha.eval]; exact hy
  have hr : (execOp ac.eval ⟨dst, .call ⟨.builtin .append, #[x, y], #[t, tn]⟩, ty, pos, aft, g⟩).run P w = .ok (.value (.slice (some ⟨w.heap.size, 0, none⟩) k gc)) (w.drew.alloc (.cells (List.replicate gc v).toArray e)) := by
    simp only [execOp, resolve]
    simp [invoke, builtin, hx', hy', hrun]
  rw [hr]
  have hh : (w.drew.alloc (.cells (List.replicate gc v).toArray e)).heap = w.heap.push (.cells (List.replicate gc v).toArray e) := rfl
  have hb' : (w.heap.push (Obj.cells (List.replicate gc v).toArray e))[w.heap.size]? = some (.cells (List.replicate gc v).toArray e) := by simp
  refine hK _ _ _ (ha.put _ _) (put_defers _ _ _) ⟨rfl, rfl, rfl⟩ (q w.heap.size gc _ (Nat.le_refl _) (hh ▸ post_push hB _) ?_)
  rw [hh]
  have u : Up G w.heap G (w.heap.push (.cells (List.replicate gc v).toArray e)) := (post_push hGB _).up hGB (fun _ x => x.elim)
  refine ⟨sl_of hb' (by simp [hT]) (by simpa using hge) ?_, fun ad e' => ?_⟩
  · have : seg (List.replicate gc v).toArray 0 ((List.replicate k z).length * T.size) = List.replicate k v := by
      simp only [seg, List.drop_zero, List.length_replicate, hT, Nat.mul_one, List.take_replicate]
      congr 1; omega
    rw [this]; exact (Reps.zeros hrep k).up u
  · obtain rfl := Option.some.inj e'
    exact ⟨rfl, fun x => absurd (hB _ x) (by simp), _, _, hb', by simp [hT]⟩
theorem owp_ovl {f : FuncId} {fn : Func} {tS tR e : TypeId} {ats : Array TypeId} {x y : Operand} {a b : Addr} {la ca lb cb size : Nat} {cA cB : Array Value} {tA tB : TypeId} {fr : Nat × Nat} (hf : P.funcs[f]? = some fn)
    (hname : (fn.name == "runtime.NumGoroutine") = false) (hb : fn.body.isNone = true) (hn : Extern.findNext fn = none) (he : Extern.find fn = some (Extern.SlicesOverlaps.overlaps #[tS, tS] #[tR]))
    (hu : P.underlying tS = some (.slice e)) (hz : pureRun P (sizeOf e) = some size) (hne : a.block ≠ b.block) (hA : h[a.block]? = some (.cells cA tA (0, 0))) (hB : h[b.block]? = some (.cells cB tB fr)) (hkB : cB.size ≠ 0)
    (hx : ev N ρ x = .slice (some a) la ca) (hy : ev N ρ y = .slice (some b) lb cb) (q : K (put N ρ dst (.bool false)) h) :
    owp P N ⟨dst, .call ⟨.value (.func f), #[x, y], ats⟩, ty, pos, aft, g⟩ ρ h K := by
  refine owp_val (v := .bool false) (fun w hw => ⟨w, ?_, Same.refl w, hw⟩) q
  have hov := Go.Lib.run_overlaps_apart w tS tR e hu size (fun w => pureRun_run hz w) a b la ca lb cb hne tA tB cA.size cB.size (by unfold World.shape?; rw [hw, hA]) (by unfold World.shape?; rw [hw, hB]) hkB
    (by unfold World.frozen?; rw [hw, hA]; simp) (by unfold World.frozen?; rw [hw]; simp only; rw [hA]; simp)
  have hc := run_callFunc_extern hf hname hb hn he #[.slice (some a) la ca, .slice (some b) lb cb] w
  rw [hov] at hc
  have hfo : ev N ρ (.func f) = .func (.func f) #[] #[] := rfl
  simp only [execOp, resolve, Deferred.ofValue, hfo]
  simp [invoke, hx, hy, hc, Result.andThen]
theorem pXl {t e : TypeId} {x xl : Operand} {b o n c : Nat} {k1 : IntKind} (lo : Nat) (h1 : lo ≤ n) (h2 : n ≤ c) (h3 : lo < c) (hx : ev N ρ x = .slice (some ⟨b, o, none⟩) n c := by kernel_rfl) (hl : ev N ρ xl = .int k1 (lo : Int) := by kernel_rfl)
    (hu : P.underlying t = some (.slice e) := by kernel_rfl) (hsz : pureRun P (sizeOf e) = some 1 := by kernel_rfl) :
    pureRun P (execOp (ev N ρ) ⟨dst, .slice t x (some xl) none none, ty, pos, aft, g⟩) = some (.value (.slice (some ⟨b, o + lo, none⟩) (n - lo) (c - lo))) := by
  refine pr_slice_any (T := tInt .u8) (a := some ⟨b, o, none⟩) (l := List.replicate n (0 : Int)) (cap := c) (low := some (.int k1 (lo : Int))) (high := none) (L := lo) (H := n) ?_ hu hsz (by simp only [execOp, hx, Option.map_some, hl, Option.map_none, List.length_replicate]) ?_
  · unfold Instr.sliceBounds
    refine (pureRun_bind' (x := c) rfl).trans ?_
    refine (pureRun_bind' (x := n) (by rw [List.length_replicate]; rfl)).trans ?_
    refine (pureRun_bind' (pr_bound (by omega) (by omega))).trans ?_
    rfl
  · unfold slA
    rw [if_neg (by omega)]
    simp [tInt, Addr.add]
theorem pXh {t e : TypeId} {x xh : Operand} {b o n c : Nat} {k2 : IntKind} (H : Nat) (h2 : H ≤ c) (h3 : 0 < c) (hx : ev N ρ x = .slice (some ⟨b, o, none⟩) n c := by kernel_rfl) (hh : ev N ρ xh = .int k2 (H : Int) := by kernel_rfl)
    (hu : P.underlying t = some (.slice e) := by kernel_rfl) (hsz : pureRun P (sizeOf e) = some 1 := by kernel_rfl) :
    pureRun P (execOp (ev N ρ) ⟨dst, .slice t x none (some xh) none, ty, pos, aft, g⟩) = some (.value (.slice (some ⟨b, o, none⟩) H c)) := by
  refine pr_slice_any (T := tInt .u8) (a := some ⟨b, o, none⟩) (l := List.replicate n (0 : Int)) (cap := c) (low := none) (high := some (.int k2 (H : Int))) (L := 0) (H := H) ?_ hu hsz (by simp only [execOp, hx, Option.map_some, hh, Option.map_none, List.length_replicate]) ?_
  · unfold Instr.sliceBounds
    refine (pureRun_bind' (x := c) rfl).trans ?_
    refine (pureRun_bind' (pr_bound (by omega) (by omega))).trans ?_
    refine (pureRun_bind' (x := 0) rfl).trans ?_
    rfl
  · unfold slA
    rw [if_neg (by omega)]
    simp [tInt, Addr.add]
theorem pr_eq {s : Sem Next} {v v' : Value} (hr : pureRun P s = some (.value v)) (e : v = v') : pureRun P s = some (.value v') := e ▸ hr
end
def ins0 (x0 : List (List Int)) (i : Int) (x2 : List (List Int)) : Option (List (List Int)) := if i = 0 then (if x2.length = 1 then app x2 x0 else none) else none
end Go.Proofs.YtjkbhpokboolpaaGreatDoor.Sx
