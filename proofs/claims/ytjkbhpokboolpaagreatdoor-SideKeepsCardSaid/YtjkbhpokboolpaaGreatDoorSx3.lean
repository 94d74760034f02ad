import Derived.Test.YtjkbhpokboolpaaGreatDoorSx2
namespace Go.Proofs.YtjkbhpokboolpaaGreatDoor.Sx
open Go
inductive Reps {α : Type} (T : Ty α) (I : Gh) (h : Heap) : List Value → List α → Prop where
  | nil : Reps T I h [] []
  | cons {c cs x l} : T.rep I h c x → Reps T I h cs l → Reps T I h (c ++ cs) (x :: l)
section
variable {α : Type} {T : Ty α} {I I' M : Gh} {h h' : Heap} {a : Option Addr} {cap : Nat} {l : List α}
theorem Reps.len {cs : List Value} (r : Reps T I h cs l) : cs.length = l.length * T.size := by
  induction r with
  | nil => simp
  | cons hx _ ih => simp [T.len hx, ih, Nat.add_mul]; omega
theorem Reps.get {cs : List Value} (r : Reps T I h cs l) : ∀ i (hi : i < l.length), T.rep I h ((cs.drop (i * T.size)).take T.size) l[i] := by
  induction r with
  | nil => intro i hi; simp at hi
  | @cons c cs x l hx hr ih =>
    have hc := T.len hx
    intro i hi
    cases i with
    | zero => simp only [Nat.zero_mul, List.drop_zero, List.getElem_cons_zero]; rw [← hc, List.take_left]; exact hx
    | succ i =>
      have e : (i + 1) * T.size = c.length + i * T.size := by rw [Nat.add_mul, hc]; omega
      rw [e, ← List.drop_drop, List.drop_left]
      simpa using ih i (by simpa using hi)
theorem Reps.int {k : IntKind} {l : List Int} : Reps (tInt k) I h (l.map (Value.int k)) l := by
  induction l with
  | nil => exact .nil
  | cons x l ih => exact .cons (c := [.int k x]) rfl ih
theorem Reps.bool {l : List Bool} : Reps tBool I h (l.map Value.bool) l := by
  induction l with
  | nil => exact .nil
  | cons x l ih => exact .cons (c := [.bool x]) rfl ih
theorem Reps.single {c : List Value} {x : α} (r : T.rep I h c x) : Reps T I h c [x] := by
  have := Reps.cons r (Reps.nil (T := T) (I := I) (h := h))
  rwa [List.append_nil] at this
theorem Reps.append {cs ds : List Value} {l m : List α} (r : Reps T I h cs l) (s : Reps T I h ds m) : Reps T I h (cs ++ ds) (l ++ m) := by
  induction r with
  | nil => exact s
  | cons hx _ ih => rw [List.append_assoc]; exact .cons hx ih
theorem Reps.one {cs : List Value} (r : Reps T I h cs l) : ∀ v ∈ cs, v.oneCell' = true := by
  induction r with
  | nil => intro v hv; simp at hv
  | cons hx _ ih => intro v hv; exact (List.mem_append.1 hv).elim (fun hv => T.one hx v hv) (fun hv => ih v hv)
theorem Reps.up {cs : List Value} (u : Up I h I' h') (r : Reps T I h cs l) : Reps T I' h' cs l := by
  induction r with
  | nil => exact .nil
  | cons hx _ ih => exact .cons (T.up u hx) ih
theorem Sl.reps (s : Sl T I h a cap l) : ∀ ad, a = some ad → 0 < cap → ∃ c t fr, h[ad.block]? = some (.cells c t fr) ∧ ad.spot = none ∧ ad.off + cap * T.size ≤ c.size ∧ l.length ≤ cap ∧
    Reps T I h (Sx.seg c ad.off (l.length * T.size)) l := by
  intro ad e hc0
  have h2 := s.le
  obtain ⟨h1, c, t, fr, hb, hf, hr⟩ := s.some_ ad e hc0
  refine ⟨c, t, fr, hb, h1, hf, h2, ?_⟩
  have hsz : ad.off + l.length * T.size ≤ c.size := Nat.le_trans (Nat.add_le_add_left (Nat.mul_le_mul_right _ h2) _) hf
  clear hf h2 e s hb hc0
  generalize ad.off = o at *
  induction l generalizing o with
  | nil => simp only [List.length_nil, Nat.zero_mul, Sx.seg, List.take_zero]; exact .nil
  | cons x l ih =>
    have e : Sx.seg c o ((x :: l).length * T.size) = Sx.seg c o T.size ++ Sx.seg c (o + T.size) (l.length * T.size) := by
      simp only [Sx.seg, List.length_cons, Nat.add_mul, Nat.one_mul]
      rw [Nat.add_comm (l.length * T.size), List.take_add, List.drop_drop]
    rw [e]
    refine .cons ?_ (ih (o + T.size) ?_ ?_)
    · have := hr 0 (by simp); simpa using this
    · intro i hi
      have := hr (i + 1) (by simpa using hi)
      simp only [List.getElem_cons_succ] at this
      have e2 : o + (i + 1) * T.size = o + T.size + i * T.size := by rw [Nat.add_mul]; omega
      rwa [e2] at this
    · simp only [List.length_cons, Nat.add_mul, Nat.one_mul] at hsz; omega
theorem sl_of {b o : Nat} {c : Array Value} {t : TypeId} {fr : Nat × Nat} (hb : h[b]? = some (.cells c t fr)) (hf : o + cap * T.size ≤ c.size) (hc : l.length ≤ cap)
    (r : Reps T I h (Sx.seg c o (l.length * T.size)) l) : Sl T I h (some ⟨b, o, none⟩) cap l where
  nil e := by cases e
  le := hc
  some_ ad e _ := by
    obtain rfl := Option.some.inj e
    refine ⟨rfl, c, t, fr, hb, hf, fun i hi => ?_⟩
    have := r.get i hi
    have e : ((Sx.seg c o (l.length * T.size)).drop (i * T.size)).take T.size = Sx.seg c (o + i * T.size) T.size := by
      simp only [Sx.seg, List.drop_take, List.drop_drop, List.take_take]
      congr 1
      have : (i + 1) * T.size ≤ l.length * T.size := Nat.mul_le_mul_right _ hi
      rw [Nat.add_mul, Nat.one_mul] at this
      omega
    rwa [e] at this
theorem OwnB.own {G : Gh} {b : Nat} {cs : List Value} {t : TypeId} (o : OwnB I h b cs t) (r : Reps T G h cs l) : OwnX T G I h (some ⟨b, 0, none⟩) l.length l where
  toSl := sl_of o.at_ (by simp [r.len]) (Nat.le_refl _) (by
    have : Sx.seg cs.toArray 0 (l.length * T.size) = cs := by rw [← r.len]; simp [Sx.seg]
    rwa [this])
  ow ad e := by obtain rfl := Option.some.inj e; exact ⟨rfl, o.no, _, t, o.at_, by simp [r.len]⟩
theorem OwnX.reps {G : Gh} (s : OwnX T G I h a cap l) : ∀ ad, a = some ad → ∃ c t, h[ad.block]? = some (.cells c t (0, 0)) ∧ ad.spot = none ∧ ¬ I ad.block ∧ ad.off + cap * T.size ≤ c.size ∧ l.length ≤ cap ∧
    Reps T G h (Sx.seg c ad.off (l.length * T.size)) l := by
  intro ad e
  obtain ⟨h0, h1, c, t, h2, h3⟩ := s.ow ad e
  have hle := s.le
  refine ⟨c, t, h2, h0, h1, h3, hle, ?_⟩
  rcases Nat.eq_zero_or_pos cap with hc | hc
  · have : l = [] := List.eq_nil_of_length_eq_zero (by omega)
    subst this
    simp only [List.length_nil, Nat.zero_mul, Sx.seg, List.take_zero]
    exact .nil
  · obtain ⟨c', t', fr', h2', _, _, _, r⟩ := s.toSl.reps ad e hc
    have hcc : Obj.cells c' t' fr' = Obj.cells c t (0, 0) := Option.some.inj (h2'.symm.trans h2)
    injection hcc with e1 e2 e3
    subst e1
    exact r
end
theorem elem_splice {c : List Value} {p : Nat} {news : List Value} (hp : p ≤ c.length) (o m : Nat) :
    (o + m ≤ p → ((c.take p ++ news ++ c.drop (p + news.length)).drop o).take m = (c.drop o).take m) := by
  intro h
  apply List.ext_getElem?
  intro j
  simp only [List.getElem?_take, List.getElem?_drop]
  split
  · rw [List.append_assoc, List.getElem?_append_left (by simp; omega), List.getElem?_take, if_pos (by omega)]
  · rfl
theorem seg_splice_left {c : Array Value} {p : Nat} {news : List Value} (hp : p ≤ c.size) {o m : Nat} (h : o + m ≤ p) :
    seg (c.toList.take p ++ news ++ c.toList.drop (p + news.length)).toArray o m = seg c o m := by
  simp only [seg]
  exact elem_splice (by simpa using hp) o m h
theorem seg_splice_mid {c : Array Value} {p : Nat} {news : List Value} (hp : p ≤ c.size) :
    seg (c.toList.take p ++ news ++ c.toList.drop (p + news.length)).toArray p news.length = news := by
  simp only [seg, List.append_assoc]
  have : (c.toList.take p).length = p := by simp; omega
  rw [List.drop_append, this]
  simp
theorem seg_add {c : Array Value} {o m n : Nat} : seg c o (m + n) = seg c o m ++ seg c (o + m) n := by
  simp only [seg]
  rw [List.take_add, List.drop_drop]
section
variable {P : Program} {N : Nat} {Q : Post} {ρ : Env} {h : Heap} {ops : Array Oper} {K : Env → Heap → Prop}
variable {dst : Option Tmp} {ty : TypeId} {pos : String} {aft : Array Edge} {g : Option (Nat × Bool)}
variable {α : Type} {T : Ty α} {G I I' M : Gh}
structure ElemOk (P : Program) (e : TypeId) (n bytes : Nat) : Prop where
  ok : ∃ i z, P.info? e = some i ∧ i.zero = some z ∧ i.size = n ∧ i.bytes = bytes ∧ z.cells.size = n
theorem cells_at {w : World} {b o : Nat} {c : Array Value} {t : TypeId} {fr : Nat × Nat} {m : Nat} (hb : w.heap[b]? = some (.cells c t fr)) :
    ∀ j v, (seg c o m)[j]? = some v → w.cell? ((⟨b, o, none⟩ : Addr).add j) = some v := by
  intro j v hv
  rw [Addr.add_lit]
  simp only [seg, List.getElem?_take, List.getElem?_drop] at hv
  split at hv
  · simp only [World.cell?, hb]; simpa using hv
  · cases hv
theorem seg_length {c : Array Value} {o m : Nat} (h : o + m ≤ c.size) : (seg c o m).length = m := by simp [seg]; omega
theorem run_append {w : World} {t e : TypeId} {bytes : Nat} {a a2 : Option Addr} {cap cap2 : Nat} {l l2 : List α} (hu : P.underlying t = some (.slice e)) (he : ElemOk P e T.size bytes) (_hpos : 0 < T.size)
    (hB : Bd I w.heap) (hGB : Bd G w.heap) (s : OwnX T G I w.heap a cap l) (hG : ∀ b, InA a b → ¬ G b) (s2 : Sl T G w.heap a2 cap2 l2) (hby : (l.length + l2.length) * bytes ≤ 140737488355328) (hmx : l.length + l2.length ≤ 4611686018427387904) :
    ∃ a' cap' w', (Builtin.append_ #[t, t] ty #[.slice a l.length cap, .slice a2 l2.length cap2]).run P w = .ok (.slice a' (l ++ l2).length cap') w' ∧ Same w w' ∧
      Pst (InA a) I w.heap I w'.heap ∧ OwnX T G I w'.heap a' cap' (l ++ l2) ∧ (∀ b, InA a' b → InA a b ∨ w.heap.size ≤ b) := by
  obtain ⟨i, z, hi, hz, hsz, hb, hzs⟩ := he.ok
  subst hb
  have hzs' : z.cells.size = i.size := by rw [hzs, hsz]
  have hin : P.info? e = some i := hi
  have hnilz : a = none → l = [] ∧ cap = 0 := s.toSl.nil
  have grow : ∀ (olds news : List Value) (old : Nat), Reps T G w.heap olds l → Reps T G w.heap news l2 → l.length + l2.length ≤ grownCap w (l.length + l2.length) old e →
      let o := Obj.cells (olds.toArray ++ news.toArray ++ Builtin.zeroCells z.cells (grownCap w (l.length + l2.length) old e - (l.length + l2.length))) e
      Pst (InA a) I w.heap I (w.drew.alloc o).heap ∧ OwnX T G I (w.drew.alloc o).heap (some ⟨w.heap.size, 0, none⟩) (grownCap w (l.length + l2.length) old e) (l ++ l2) := by
    intro olds news old r1 r2 hge o
    have hh : (w.drew.alloc o).heap = w.heap.push o := rfl
    have hp : Pst No I w.heap I (w.heap.push o) := post_push hB o
    have u : Up G w.heap G (w.heap.push o) := (post_push hGB o).up hGB (fun _ x => x.elim)
    have hb' : (w.heap.push o)[w.heap.size]? = some o := by simp
    have r := (r1.append r2).up u
    have hl : (olds ++ news).length = (l ++ l2).length * T.size := (r1.append r2).len
    refine ⟨hh ▸ hp.weaken (fun _ x => x.elim), ?_⟩
    rw [hh]
    have hbound : 0 + grownCap w (l.length + l2.length) old e * T.size ≤ (olds.toArray ++ news.toArray ++ Builtin.zeroCells z.cells (grownCap w (l.length + l2.length) old e - (l.length + l2.length))).size := by
      simp only [Array.size_append, List.size_toArray, size_zeroCells, hzs]
      have := r1.len; have := r2.len
      rw [r1.len, r2.len, ← Nat.add_mul, ← Nat.add_mul]
      rw [Nat.zero_add]
      apply Nat.mul_le_mul_right
      omega
    refine ⟨sl_of hb' hbound (by simpa using hge) ?_, ?_⟩
    · have : seg (olds.toArray ++ news.toArray ++ Builtin.zeroCells z.cells (grownCap w (l.length + l2.length) old e - (l.length + l2.length))) 0 ((l ++ l2).length * T.size) = olds ++ news := by
        rw [← hl]
        simp only [seg, List.drop_zero, Array.toList_append, List.append_assoc]
        rw [← List.append_assoc, List.take_left]
      rw [this]; exact r
    · intro ad e'
      obtain rfl := Option.some.inj e'
      exact ⟨rfl, fun x => absurd (hB _ x) (by simp), _, _, hb', hbound⟩
  have fresh : ∀ b, InA (some (⟨w.heap.size, 0, none⟩ : Addr)) b → InA a b ∨ w.heap.size ≤ b := by
    rintro b ⟨ad, e', rfl⟩; obtain rfl := Option.some.inj e'; exact .inr (Nat.le_refl _)
  have hs2e : cap2 = 0 → l2 = [] := fun e => List.eq_nil_of_length_eq_zero (by have := s2.le; omega)
  have none_case : l2 = [] → ∃ a' cap' w', (Builtin.append_ #[t, t] ty #[.slice a l.length cap, .slice a2 l2.length cap2]).run P w = .ok (.slice a' (l ++ l2).length cap') w' ∧ Same w w' ∧
      Pst (InA a) I w.heap I w'.heap ∧ OwnX T G I w'.heap a' cap' (l ++ l2) ∧ (∀ b, InA a' b → InA a b ∨ w.heap.size ≤ b) := by
    rintro rfl
    have hle : l.length ≤ cap := s.le
    refine ⟨a, cap, w, ?_, Same.refl w, Pst.refl hB, by simpa using s, fun _ x => .inl x⟩
    cases a with
    | none => cases a2 <;> simp [Builtin.append_, run_underlying hu, sizeOf, typeInfo, hi, Builtin.lenOf, Builtin.firstCells, hle, loadCells, loadCellsFrom]
    | some ad => cases a2 <;> simp [Builtin.append_, run_underlying hu, sizeOf, typeInfo, hi, Builtin.lenOf, Builtin.firstCells, hle, storeCells, loadCells, loadCellsFrom]
  cases a2 with
  | none =>
    obtain ⟨rfl, rfl⟩ := s2.nil rfl
    exact none_case rfl
  | some ad2 =>
    rcases Nat.eq_zero_or_pos cap2 with hc2 | hc2
    · exact none_case (hs2e hc2)
    obtain ⟨c2, t2, fr2, hb2, hsp2, hf2, hl2, r2⟩ := s2.reps ad2 rfl hc2
    obtain ⟨b2, o2, sp2⟩ := ad2
    obtain rfl : sp2 = none := hsp2
    have hlen2 : (seg c2 o2 (l2.length * T.size)).length = l2.length * T.size := by
      refine seg_length (Nat.le_trans (Nat.add_le_add_left (Nat.mul_le_mul_right _ hl2) _) hf2)
    have hcells2 := cells_at (w := w) (o := o2) (m := l2.length * T.size) hb2
    have hlen2' : (seg c2 o2 (l2.length * T.size)).length = l2.length * i.size := by rw [hlen2, hsz]
    cases a with
    | none =>
      obtain ⟨rfl, rfl⟩ := hnilz rfl
      by_cases h0 : l2.length = 0
      · have : l2 = [] := List.eq_nil_of_length_eq_zero h0
        subst this
        refine ⟨none, 0, w, ?_, Same.refl w, Pst.refl hB, own_nil _ _ _ _, fun _ x => .inl x⟩
        simp [Builtin.append_, run_underlying hu, sizeOf, typeInfo, hi, Builtin.lenOf, Builtin.firstCells, loadCells, loadCellsFrom]
      · simp only [List.length_nil, Nat.zero_add] at hby hmx
        have hr := run_append_nil (P := P) w t ty e i z hu hi hz ⟨b2, o2, none⟩ l2.length cap2 (seg c2 o2 (l2.length * T.size)) hlen2' hcells2 (by omega) (by omega) (by omega)
        have hge := grownCap_ge w l2.length 0 e
        have hg := grow [] _ 0 .nil r2 (by simpa using hge)
        simp only [List.length_nil, Nat.zero_add, List.nil_append] at hg ⊢
        have e0 : (#[] : Array Value) ++ (seg c2 o2 (l2.length * T.size)).toArray = (seg c2 o2 (l2.length * T.size)).toArray := by simp
        have e1 : ([] : List Value).toArray = #[] := rfl
        rw [e1, e0] at hg
        exact ⟨_, _, _, hr, ⟨rfl, rfl, rfl⟩, hg.1, hg.2, fresh⟩
    | some ad =>
      obtain ⟨c, t1, hb1, hsp, hno, hf1, hl1, r1⟩ := s.reps ad rfl
      obtain ⟨b, o, sp⟩ := ad
      obtain rfl : sp = none := hsp
      have hlen1 : (seg c o (l.length * T.size)).length = l.length * T.size := seg_length (Nat.le_trans (Nat.add_le_add_left (Nat.mul_le_mul_right _ hl1) _) hf1)
      by_cases hroom : l.length + l2.length ≤ cap
      · have hfit : o + l.length * T.size + (seg c2 o2 (l2.length * T.size)).length ≤ c.size := by
          rw [hlen2]
          have := Nat.mul_le_mul_right T.size hroom
          rw [Nat.add_mul] at this
          simp only at hf1
          omega
        have hf := run_firstCells_some (P := P) w i.size l2.length ⟨b2, o2, none⟩ l2.length cap2 (seg c2 o2 (l2.length * T.size)) hlen2' hcells2
        have hst := run_storeCells_at P b (o + l.length * T.size) t1 (seg c2 o2 (l2.length * T.size)) 0 c w hb1 (by simpa using hfit) r2.one
        simp only [Nat.add_zero] at hst
        have hB' := hB
        have hpst := post_setRow (w := w) (I := I) (b := b) (c := (c.toList.take (o + l.length * T.size) ++ seg c2 o2 (l2.length * T.size) ++ c.toList.drop (o + l.length * T.size + (seg c2 o2 (l2.length * T.size)).length)).toArray) hB hb1
        have u : Up G w.heap G _ := (post_setRow (w := w) (I := G) (b := b) (c := (c.toList.take (o + l.length * T.size) ++ seg c2 o2 (l2.length * T.size) ++ c.toList.drop (o + l.length * T.size + (seg c2 o2 (l2.length * T.size)).length)).toArray) hGB hb1).up hGB (fun x hx => hG x ⟨⟨b, o, none⟩, rfl, hx.symm⟩)
        refine ⟨some ⟨b, o, none⟩, cap, _, ?_, same_setRow w b _, hpst.weaken (fun x hx => .inl ⟨⟨b, o, none⟩, rfl, hx.symm⟩), ?_, fun _ x => .inl x⟩
        · rw [hsz] at hf
          simp [Builtin.append_, run_underlying hu, sizeOf, typeInfo, hi, Builtin.lenOf, hroom, hsz, hf, Addr.add_lit, hst]
        · have hp : o + l.length * T.size ≤ c.size := by omega
          have hbound : o + cap * T.size ≤ ((c.toList.take (o + l.length * T.size) ++ seg c2 o2 (l2.length * T.size) ++ c.toList.drop (o + l.length * T.size + (seg c2 o2 (l2.length * T.size)).length)).toArray).size := by
            simp only [List.size_toArray, List.length_append, List.length_take, List.length_drop, Array.length_toList]
            simp only at hf1
            omega
          refine ⟨sl_of (setRow_heap w b c _ t1 (0, 0) hb1) hbound (by simpa using hroom) ?_, ?_⟩
          · have e : (l ++ l2).length * T.size = l.length * T.size + (seg c2 o2 (l2.length * T.size)).length := by
              rw [hlen2, List.length_append, Nat.add_mul]
            rw [e, seg_add, seg_splice_left hp (Nat.le_refl _), seg_splice_mid hp]
            exact (r1.append r2).up u
          · intro ad e'
            obtain rfl := Option.some.inj e'
            exact ⟨rfl, hno, _, _, setRow_heap w b c _ t1 (0, 0) hb1, hbound⟩
      · have hcells1 := cells_at (w := w) (o := o) (m := l.length * T.size) hb1
        have hr := run_append_grow (P := P) w t ty e i z hu hi hz ⟨b, o, none⟩ l.length cap (seg c o (l.length * T.size)) (by rw [hsz]; exact hlen1) hcells1
          ⟨b2, o2, none⟩ l2.length cap2 (seg c2 o2 (l2.length * T.size)) hlen2' hcells2 (by omega) (by omega) (growslice_fits (by omega) hby)
        have hge := grownCap_ge w (l.length + l2.length) cap e
        have hg := grow _ _ cap r1 r2 hge
        rw [← List.length_append] at hr hg
        exact ⟨_, _, _, hr, ⟨rfl, rfl, rfl⟩, hg.1, hg.2, fresh⟩
theorem owp_append {t e : TypeId} {bytes : Nat} {x y : Operand} {a a2 : Option Addr} {cap cap2 : Nat} {l l2 : List α} (T : Ty α) (hu : P.underlying t = some (.slice e)) (he : ElemOk P e T.size bytes) (hpos : 0 < T.size)
    (hB : Bd I h) (hGB : Bd G h) (s : OwnX T G I h a cap l) (hG : ∀ b, InA a b → ¬ G b) (s2 : Sl T G h a2 cap2 l2) (hby : (l.length + l2.length) * bytes ≤ 140737488355328) (hmx : l.length + l2.length ≤ 4611686018427387904)
    (hx : ev N ρ x = .slice a l.length cap) (hy : ev N ρ y = .slice a2 l2.length cap2)
    (k : ∀ a' cap' h', Pst (InA a) I h I h' → OwnX T G I h' a' cap' (l ++ l2) → (∀ b, InA a' b → InA a b ∨ h.size ≤ b) → K (put N ρ dst (.slice a' (l ++ l2).length cap')) h') :
    owp P N ⟨dst, .call ⟨.builtin .append, #[x, y], #[t, t]⟩, ty, pos, aft, g⟩ ρ h K := by
  intro w ac ha hh K' hK
  subst hh
  obtain ⟨a', cap', w', hr, hs, hp, ho, hf⟩ := run_append (P := P) (ty := ty) hu he hpos hB hGB s hG s2 hby hmx
  unfold xwp
  have hx' : ac.eval x = .slice a l.length cap := by rw [ha.eval]; exact hx
  have hy' : ac.eval y = .slice a2 l2.length cap2 := by rw [ha.eval]; exact hy
  have : (execOp ac.eval ⟨dst, .call ⟨.builtin .append, #[x, y], #[t, t]⟩, ty, pos, aft, g⟩).run P w = .ok (.value (.slice a' (l ++ l2).length cap')) w' := by
    simp only [execOp, resolve]
    simp [invoke, builtin, hx', hy', hr]
  rw [this]
  exact hK _ _ _ (ha.put _ _) (put_defers _ _ _) hs (k a' cap' _ hp ho hf)
end
end Go.Proofs.YtjkbhpokboolpaaGreatDoor.Sx
