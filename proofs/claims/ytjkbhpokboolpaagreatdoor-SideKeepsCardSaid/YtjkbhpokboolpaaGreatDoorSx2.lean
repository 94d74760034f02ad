import Derived.Test.YtjkbhpokboolpaaGreatDoorSx1
namespace Go.Proofs.YtjkbhpokboolpaaGreatDoor.Sx
open Go
def cellAt (h : Heap) (a : Option Addr) (n : Nat) : Option Value :=
  match a with
  | some ad => match h[ad.block]? with
    | some (.cells c _ _) => c[ad.off + n]?
    | _ => none
  | none => none
def segAt (h : Heap) (a : Option Addr) (n m : Nat) : Option (List Value) :=
  match a with
  | some ad => match h[ad.block]? with
    | some (.cells c _ _) => if ad.off + n + m ≤ c.size then some (seg c (ad.off + n) m) else none
    | _ => none
  | none => none
theorem cell_of {w : World} {b o n : Nat} {v : Value} (hc : cellAt w.heap (some ⟨b, o, none⟩) n = some v) : w.cell? ⟨b, o + n, none⟩ = some v := by
  unfold cellAt at hc
  unfold World.cell?
  simp only at hc ⊢
  split at hc <;> rename_i heq
  · rw [heq]; simpa using hc
  · cases hc
theorem seg_cell {h : Heap} {a : Option Addr} {n m f : Nat} {cs : List Value} {v : Value} (hc : segAt h a n m = some cs) (hv : cs[f]? = some v) : cellAt h a (n + f) = some v := by
  unfold segAt at hc
  unfold cellAt
  cases a with
  | none => cases hc
  | some ad =>
    simp only at hc ⊢
    split at hc <;> rename_i heq
    · split at hc
      · obtain rfl := Option.some.inj hc
        unfold seg at hv
        simp only [List.getElem?_take, List.getElem?_drop] at hv
        split at hv
        · rw [← Nat.add_assoc]; simpa using hv
        · cases hv
      · cases hc
    · cases hc
theorem seg_len {h : Heap} {a : Option Addr} {n m : Nat} {cs : List Value} (hc : segAt h a n m = some cs) : cs.length = m := by
  unfold segAt at hc
  cases a with
  | none => cases hc
  | some ad =>
    simp only at hc
    split at hc <;> rename_i heq
    · split at hc
      · rename_i hle
        obtain rfl := Option.some.inj hc
        simp [seg]; omega
      · cases hc
    · cases hc
section
variable {P : Program} {N : Nat} {Q : Post} {ρ : Env} {h : Heap} {ops : Array Oper} {K : Env → Heap → Prop}
variable {dst : Option Tmp} {ty : TypeId} {pos : String} {aft : Array Edge} {g : Option (Nat × Bool)}
theorem OwnB.cell {I : Gh} {b : Nat} {cs : List Value} {T : TypeId} (o : OwnB I h b cs T) {off : Nat} {v : Value} (hv : cs[off]? = some v) : cellAt h (some ⟨b, 0, none⟩) off = some v := by
  unfold cellAt; simp only; rw [o.at_]; simpa using hv
theorem OwnB.seg_ {I : Gh} {b : Nat} {cs : List Value} {T : TypeId} (o : OwnB I h b cs T) (off m : Nat) (hl : off + m ≤ cs.length) : segAt h (some ⟨b, 0, none⟩) off m = some ((cs.drop off).take m) := by
  unfold segAt; simp only; rw [o.at_]; simp [hl, seg]
theorem Sl.seg {α : Type} [Inhabited α] {T : Ty α} {I : Gh} {a : Option Addr} {cap : Nat} {l : List α} (s : Sl T I h a cap l) {i : Int} (h0 : 0 ≤ i) (h1 : i < (l.length : Int)) :
    ∃ cs, segAt h a (i.toNat * T.size) T.size = some cs ∧ T.rep I h cs (at_ l i) := by
  obtain ⟨b, o, c, t, fr, rfl, hb, hsz, hr⟩ := s.elem h0 h1
  refine ⟨_, ?_, hr⟩
  unfold segAt; simp only; rw [hb]; simp only; rw [if_pos hsz]
theorem Sl.int {k : IntKind} {I : Gh} {a : Option Addr} {cap : Nat} {l : List Int} (s : Sl (tInt k) I h a cap l) {i : Int} (h0 : 0 ≤ i) (h1 : i < (l.length : Int)) :
    cellAt h a i.toNat = some (.int k (at_ l i)) := by
  obtain ⟨cs, hs, rfl⟩ := s.seg h0 h1
  have := seg_cell (f := 0) (v := .int k (at_ l i)) hs rfl
  simpa [tInt] using this
theorem Sl.isSome {α : Type} {T : Ty α} {I : Gh} {a : Option Addr} {cap : Nat} {l : List α} (s : Sl T I h a cap l) {i : Int} (h0 : 0 ≤ i) (h1 : i < (l.length : Int)) : a.isSome = true := by
  cases a with
  | none => have := (s.nil rfl).1; subst this; simp at h1; omega
  | some _ => rfl
theorem run_loadPtr' {t : TypeId} {x : Operand} {a : Option Addr} {n : Nat} {v : Value} {w : World} (hx : ev N ρ x = elemPtr a n) (ht : pureRun P (isAgg t) = some false)
    (hc : cellAt w.heap a n = some v) : (execOp (ev N ρ) ⟨dst, .load t x, ty, pos, aft, g⟩).run P w = .ok (.value v) w := by
  cases a with
  | none => cases hc
  | some ad =>
    obtain ⟨b, o, sp⟩ := ad
    have h1 := pureRun_run ht w
    have h2 : w.cell? ⟨b, o + n, none⟩ = some v := by
      unfold cellAt at hc
      unfold World.cell?
      simp only at hc ⊢
      split at hc <;> rename_i heq
      · rw [heq]; simpa using hc
      · cases hc
    simp only [execOp, Instr.loadAt, loadVar, Instr.sureAddr, hx, elemPtr]
    simp [h1, h2, load, Sem.run]
theorem run_loadSeg {t : TypeId} {x : Operand} {a : Option Addr} {n m : Nat} {cs : List Value} {w : World} (hx : ev N ρ x = elemPtr a n) (ht : pureRun P (isAgg t) = some true)
    (hm : pureRun P (sizeOf t) = some m) (hc : segAt w.heap a n m = some cs) : (execOp (ev N ρ) ⟨dst, .load t x, ty, pos, aft, g⟩).run P w = .ok (.value (.agg cs.toArray)) w := by
  cases a with
  | none => cases hc
  | some ad =>
    obtain ⟨b, o, sp⟩ := ad
    have h1 := pureRun_run ht w
    have h3 := pureRun_run hm w
    have hl := seg_len hc
    have h2 : (loadCells ⟨b, o + n, none⟩ m).run P w = .ok cs.toArray w := by
      rw [← hl]
      refine run_loadCells_list w _ cs fun j v hv => ?_
      rw [Addr.add_lit]
      have := seg_cell hc hv
      unfold cellAt at this
      unfold World.cell?
      simp only at this ⊢
      split at this <;> rename_i heq
      · rw [heq]; rw [← Nat.add_assoc] at this; simpa using this
      · cases this
    simp only [execOp, Instr.loadAt, loadVar, Instr.sureAddr, hx, elemPtr]
    simp [h1, h3, h2]
theorem owp_load {t : TypeId} {x : Operand} {a : Option Addr} {n : Nat} {v : Value} (hx : ev N ρ x = elemPtr a n) (ht : pureRun P (isAgg t) = some false)
    (hc : cellAt h a n = some v) (k : K (put N ρ dst v) h) : owp P N ⟨dst, .load t x, ty, pos, aft, g⟩ ρ h K :=
  owp_val (fun w hw => ⟨w, run_loadPtr' hx ht (hw ▸ hc), Same.refl w, hw⟩) k
theorem owp_loadN {t : TypeId} {x : Operand} {a : Option Addr} {n m : Nat} {cs : List Value} (hx : ev N ρ x = elemPtr a n) (ht : pureRun P (isAgg t) = some true)
    (hm : pureRun P (sizeOf t) = some m) (hc : segAt h a n m = some cs) (k : K (put N ρ dst (.agg cs.toArray)) h) : owp P N ⟨dst, .load t x, ty, pos, aft, g⟩ ρ h K :=
  owp_val (fun w hw => ⟨w, run_loadSeg hx ht hm (hw ▸ hc), Same.refl w, hw⟩) k
def Keep (M : Gh) (h0 : Heap) : Heap → Prop := fun h' => ∀ b, b < h0.size → ¬ M b → h'[b]? = h0[b]?
theorem Keep.refl {M : Gh} {h0 : Heap} : Keep M h0 h0 := fun _ _ _ => rfl
theorem Keep.post {M M' I I' : Gh} {h0 h1 h2 : Heap} (k : Keep M h0 h1) (hs : h0.size ≤ h1.size) (p : Pst M' I h1 I' h2) (hm : ∀ b, M' b → M b ∨ h0.size ≤ b) : Keep M h0 h2 :=
  fun b hb hn => by rw [p.keep b (Nat.lt_of_lt_of_le hb hs) (fun x => (hm b x).elim hn (by omega))]; exact k b hb hn
theorem Keep.cell {M : Gh} {h0 h' : Heap} (k : Keep M h0 h') {a : Option Addr} {n : Nat} {v : Value} (hc : cellAt h0 a n = some v) (hm : ∀ b, InA a b → ¬ M b) : cellAt h' a n = some v := by
  unfold cellAt at *
  cases a with
  | none => cases hc
  | some ad =>
    simp only at hc ⊢
    split at hc <;> rename_i heq
    · rw [k _ (lt_of_some heq) (hm _ ⟨ad, rfl, rfl⟩), heq]; exact hc
    · cases hc
theorem Keep.seg {M : Gh} {h0 h' : Heap} (k : Keep M h0 h') {a : Option Addr} {n m : Nat} {cs : List Value} (hc : segAt h0 a n m = some cs) (hm : ∀ b, InA a b → ¬ M b) : segAt h' a n m = some cs := by
  unfold segAt at *
  cases a with
  | none => cases hc
  | some ad =>
    simp only at hc ⊢
    split at hc <;> rename_i heq
    · rw [k _ (lt_of_some heq) (hm _ ⟨ad, rfl, rfl⟩), heq]; exact hc
    · cases hc
theorem awp_load {M : Gh} {h0 : Heap} {L fuel : Nat} {listed : Array Bool} (i : Nat) {t : TypeId} {x : Operand} {a : Option Addr} {n : Nat} {v : Value}
    (hi : ops[i]? = some ⟨dst, .load t x, ty, pos, aft, g⟩) (hf : mayTake ops L listed i = true) (hw : Region.wanted ⟨dst, .load t x, ty, pos, aft, g⟩ (yd N ops ρ) = true)
    (hx : ev N ρ x = elemPtr a n) (ht : pureRun P (isAgg t) = some false) (hS : Keep M h0 h) (hc : cellAt h0 a n = some v) (hm : ∀ b, InA a b → ¬ M b)
    (k : awp P N ops Q (Keep M h0) L fuel (listed.setIfInBounds i true) (put N ρ dst v) h) : awp P N ops Q (Keep M h0) L (fuel + 1) listed ρ h :=
  awp_take i hi hf hS (.inl ⟨hw, fun _ hk => run_loadPtr' hx ht (hk.cell hc hm)⟩) k
theorem awp_loadN {M : Gh} {h0 : Heap} {L fuel : Nat} {listed : Array Bool} (i : Nat) {t : TypeId} {x : Operand} {a : Option Addr} {n m : Nat} {cs : List Value}
    (hi : ops[i]? = some ⟨dst, .load t x, ty, pos, aft, g⟩) (hf : mayTake ops L listed i = true) (hw : Region.wanted ⟨dst, .load t x, ty, pos, aft, g⟩ (yd N ops ρ) = true)
    (hx : ev N ρ x = elemPtr a n) (ht : pureRun P (isAgg t) = some true) (hm : pureRun P (sizeOf t) = some m) (hS : Keep M h0 h) (hc : segAt h0 a n m = some cs) (hM : ∀ b, InA a b → ¬ M b)
    (k : awp P N ops Q (Keep M h0) L fuel (listed.setIfInBounds i true) (put N ρ dst (.agg cs.toArray)) h) : awp P N ops Q (Keep M h0) L (fuel + 1) listed ρ h :=
  awp_take i hi hf hS (.inl ⟨hw, fun _ hk => run_loadSeg hx ht hm (hk.seg hc hM)⟩) k
theorem awp_pure {S : Heap → Prop} {L fuel : Nat} {listed : Array Bool} (i : Nat) {o : Oper} (v : Value) (hi : ops[i]? = some o) (hf : mayTake ops L listed i = true)
    (hw : Region.wanted o (yd N ops ρ) = true) (hr : pureRun P (execOp (ev N ρ) o) = some (.value v)) (hS : S h)
    (k : awp P N ops Q S L fuel (listed.setIfInBounds i true) (put N ρ o.dst v) h) : awp P N ops Q S L (fuel + 1) listed ρ h :=
  awp_take i hi hf hS (.inl ⟨hw, fun w _ => pureRun_run hr w⟩) k
theorem pureRun_bind {α β : Type} {s : Sem α} {f : α → Sem β} {x : α} (hs : pureRun P s = some x) : pureRun P (s.bind f) = pureRun P (f x) := by
  induction s with
  | pure a => simp only [pureRun, Option.some.injEq] at hs; subst hs; rfl
  | program k ih => simp only [pureRun] at hs; simp only [Sem.bind, pureRun]; exact ih P hs
  | mark m k ih => simp only [pureRun] at hs; simp only [Sem.bind, pureRun]; exact ih hs
  | _ => simp only [pureRun] at hs; cases hs
theorem pureRun_bind' {α β : Type} {s : Sem α} {f : α → Sem β} {x : α} (hs : pureRun P s = some x) : pureRun P (s >>= f) = pureRun P (f x) := pureRun_bind hs
theorem pureRun_pure {α : Type} (x : α) : pureRun P (pure x : Sem α) = some x := rfl
theorem pureRun_underlying {t : TypeId} {d : TypeDesc} (h : P.underlying t = some d) : pureRun P (underlying t) = some d := by
  unfold underlying program
  show pureRun P (match P.underlying t with | some d => pure d | none => stuck "no such type") = some d
  rw [h]; rfl
theorem pr_indexAddr {t e : TypeId} {x ix : Operand} {a : Option Addr} {n cap sz : Nat} {k : IntKind} {i : Int} (hx : ev N ρ x = .slice a n cap) (hix : ev N ρ ix = .int k i)
    (hu : P.underlying t = some (.slice e)) (hsz : pureRun P (sizeOf e) = some sz) (ha : a.isSome = true) (h0 : 0 ≤ i) (h1 : i < (n : Int)) (hsp : ∀ ad, a = some ad → ad.spot = none) :
    pureRun P (execOp (ev N ρ) ⟨dst, .indexAddr t x ix, ty, pos, aft, g⟩) = some (.value (elemPtr a (i.toNat * sz))) := by
  cases a with
  | none => cases ha
  | some ad =>
    obtain ⟨b, o, sp⟩ := ad
    obtain rfl : sp = none := hsp _ rfl
    simp only [execOp, hx, hix]
    refine (pureRun_bind' (x := elemPtr (some ⟨b, o, none⟩) (i.toNat * sz)) ?_).trans rfl
    unfold Instr.indexAt
    refine (pureRun_bind' (x := (k, i)) rfl).trans ?_
    dsimp only
    rw [pureRun_bind' (pureRun_underlying hu)]
    dsimp only
    rw [pureRun_bind' (pureRun_pure _)]
    dsimp only
    rw [pureRun_bind' (pureRun_underlying hu)]
    dsimp only
    rw [if_pos ⟨h0, h1⟩, pureRun_bind' hsz, Addr.add_lit]
    rfl
theorem pr_fieldAddr {s : TypeId} {x : Operand} {f : Nat} {a : Option Addr} {n off : Nat} (hx : ev N ρ x = elemPtr a n) (ha : a.isSome = true)
    (hf : ∀ ad : Addr, ad.spot = none → pureRun P (Instr.fieldAt s (.pointer (some ad)) f) = some (.pointer (some (ad.add off)))) :
    pureRun P (execOp (ev N ρ) ⟨dst, .fieldAddr s x f, ty, pos, aft, g⟩) = some (.value (elemPtr a (n + off))) := by
  cases a with
  | none => cases ha
  | some ad =>
    obtain ⟨b, o, sp⟩ := ad
    simp only [execOp, hx, elemPtr]
    refine (pureRun_bind' (hf ⟨b, o + n, none⟩ rfl)).trans ?_
    rw [Addr.add_lit, Nat.add_assoc]
    rfl
theorem pr_shl {t yt : TypeId} {x y : Operand} {k yk : IntKind} {a b : Int} (hx : ev N ρ x = .int k a) (hy : ev N ρ y = .int yk b) (h0 : 0 ≤ b) :
    pureRun P (execOp (ev N ρ) ⟨dst, .binOp .shl t x y yt, ty, pos, aft, g⟩) = some (.value (.int k (k.wrap (a * 2 ^ (min b.toNat k.bits))))) := by
  simp only [execOp, hx, hy, eqGuard, binOp, Op.shift]
  rw [if_neg (show ¬ b < 0 by omega)]
  rfl
theorem pr_shr {t yt : TypeId} {x y : Operand} {k yk : IntKind} {a b : Int} (hx : ev N ρ x = .int k a) (hy : ev N ρ y = .int yk b) (h0 : 0 ≤ b) :
    pureRun P (execOp (ev N ρ) ⟨dst, .binOp .shr t x y yt, ty, pos, aft, g⟩) = some (.value (.int k (a.fdiv (2 ^ (min b.toNat k.bits))))) := by
  simp only [execOp, hx, hy, eqGuard, binOp, Op.shift]
  rw [if_neg (show ¬ b < 0 by omega)]
  rfl
theorem pr_quo {t yt : TypeId} {x y : Operand} {k : IntKind} {a b : Int} (hx : ev N ρ x = .int k a) (hy : ev N ρ y = .int k b) (h0 : b ≠ 0) :
    pureRun P (execOp (ev N ρ) ⟨dst, .binOp .quo t x y yt, ty, pos, aft, g⟩) = some (.value (.int k (k.wrap (a.tdiv b)))) := by
  simp only [execOp, hx, hy, eqGuard, binOp, Op.intDiv]
  simp only [ne_eq, not_true_eq_false, if_false]
  rw [if_neg h0]
  rfl
theorem pr_rem {t yt : TypeId} {x y : Operand} {k : IntKind} {a b : Int} (hx : ev N ρ x = .int k a) (hy : ev N ρ y = .int k b) (h0 : b ≠ 0) :
    pureRun P (execOp (ev N ρ) ⟨dst, .binOp .rem t x y yt, ty, pos, aft, g⟩) = some (.value (.int k (a.tmod b))) := by
  simp only [execOp, hx, hy, eqGuard, binOp, Op.intDiv]
  simp only [ne_eq, not_true_eq_false, if_false]
  rw [if_neg h0]
  rfl
def bt (s : ByteArray) (i : Int) : Int := ((s[i.toNat]?).getD 0).toNat
theorem pr_indexStr {t : TypeId} {x ix : Operand} {s : ByteArray} {k : IntKind} {i : Int} (hx : ev N ρ x = .string s) (hix : ev N ρ ix = .int k i)
    (hu : P.underlying t = some .string) (h0 : 0 ≤ i) (h1 : i < (s.size : Int)) :
    pureRun P (execOp (ev N ρ) ⟨dst, .index t x ix, ty, pos, aft, g⟩) = some (.value (.int .u8 (bt s i))) := by
  simp only [execOp, hx, hix]
  refine (pureRun_bind' (x := .int .u8 (bt s i)) ?_).trans rfl
  unfold Instr.index
  refine (pureRun_bind' (x := (k, i)) rfl).trans ?_
  refine (pureRun_bind' (pureRun_underlying hu)).trans ?_
  have hlt : i.toNat < s.size := by omega
  simp only [if_pos h0, bt]
  rw [getElem?_pos s i.toNat hlt]
  rfl
theorem run_store1 {t : TypeId} {x vx : Operand} {b off : Nat} {c : Array Value} {T : TypeId} {v : Value} {w : World} (hx : ev N ρ x = .pointer (some ⟨b, off, none⟩)) (hv : ev N ρ vx = v)
    (hone : v.oneCell' = true) (hm : pureRun P (sizeOf t) = some 1) (hb : w.heap[b]? = some (.cells c T (0, 0))) (hoff : off < c.size) :
    (execOp (ev N ρ) ⟨dst, .store t x vx, ty, pos, aft, g⟩).run P w = .ok .skip (w.setRow b (c.setIfInBounds off v)) := by
  have h3 := pureRun_run hm w
  have hcs : v.cells = #[v] := by cases v <;> first | rfl | (cases hone; done)
  have hst := run_storeCells_at P b off T [v] 0 c w hb (by simp; omega) (by simpa using hone)
  have e : (c.toList.take (off + 0) ++ [v] ++ c.toList.drop (off + 0 + [v].length)).toArray = c.setIfInBounds off v := by
    apply Array.ext'
    simp only [Nat.add_zero, List.length_singleton, List.append_assoc, List.singleton_append, Array.toList_setIfInBounds]
    rw [List.set_eq_take_append_cons_drop, if_pos (by simpa using hoff)]
  rw [e] at hst
  simp only [execOp, Instr.storeAt, storeVar, Instr.sureAddr, hx, hv]
  simp [h3, hcs, hst]
theorem heap_setRow {w : World} {b : Nat} {c c' : Array Value} {T : TypeId} {fr : Nat × Nat} (hb : w.heap[b]? = some (.cells c T fr)) : (w.setRow b c').heap[b]? = some (.cells c' T fr) := setRow_heap w b c c' T fr hb
theorem same_setRow (w : World) (b : Nat) (c : Array Value) : Same w (w.setRow b c) := ⟨rfl, rfl, rfl⟩
theorem post_setRow {w : World} {I : Gh} {b : Nat} {c c0 : Array Value} {T0 : TypeId} (hB : Bd I w.heap) (hb : w.heap[b]? = some (.cells c0 T0 (0, 0))) : Pst (One b) I w.heap I (w.setRow b c).heap where
  sub _ x := x
  new _ x := .inl x
  bd x hx := by have := hB x hx; simpa [World.setRow] using this
  size := by simp [World.setRow]
  keep x _ hm := by
    simp only [World.setRow, Array.getElem?_modify]
    rw [if_neg (fun e => hm e.symm)]
  un x hx o e := by
    by_cases hxb : x = b
    · subst hxb
      rw [heap_setRow hb] at e
      obtain rfl := Option.some.inj e
      exact fun _ _ y => Nat.not_lt_zero _ y.2
    · simp only [World.setRow, Array.getElem?_modify] at e
      rw [if_neg (fun e => hxb e.symm)] at e
      exact un_refl x hx o e
theorem owp_store1 {I : Gh} {t : TypeId} {x vx : Operand} {b : Nat} (off : Nat) {cs : List Value} {T : TypeId} (v : Value) (hB : Bd I h) (o : OwnB I h b cs T)
    (hx : ev N ρ x = .pointer (some ⟨b, off, none⟩)) (hv : ev N ρ vx = v) (hone : v.oneCell' = true) (hm : pureRun P (sizeOf t) = some 1) (hoff : off < cs.length)
    (k : ∀ h', Pst (One b) I h I h' → OwnB I h' b (cs.set off v) T → K (put N ρ dst undef) h') : owp P N ⟨dst, .store t x vx, ty, pos, aft, g⟩ ρ h K := by
  intro w a ha hh K' hK
  subst hh
  have hr := run_store1 (P := P) (dst := dst) (ty := ty) (pos := pos) (aft := aft) (g := g) hx hv hone hm o.at_ (by simpa using hoff)
  unfold xwp
  rw [ha.eval, hr]
  refine hK _ _ _ (ha.put _ _) (put_defers _ _ _) (same_setRow _ _ _) (k _ (post_setRow hB o.at_) ⟨?_, o.no⟩)
  rw [heap_setRow o.at_]
  simp
theorem run_storeN {t : TypeId} {x vx : Operand} {b off : Nat} {c : Array Value} {T : TypeId} {vs : List Value} {w : World} (hx : ev N ρ x = .pointer (some ⟨b, off, none⟩)) (hv : ev N ρ vx = .agg vs.toArray)
    (hone : ∀ v ∈ vs, v.oneCell' = true) (hm : pureRun P (sizeOf t) = some vs.length) (hb : w.heap[b]? = some (.cells c T (0, 0))) (hoff : off + vs.length ≤ c.size) :
    (execOp (ev N ρ) ⟨dst, .store t x vx, ty, pos, aft, g⟩).run P w = .ok .skip (w.setRow b (c.toList.take off ++ vs ++ c.toList.drop (off + vs.length)).toArray) := by
  have h3 := pureRun_run hm w
  have hst := run_storeCells_at P b off T vs 0 c w hb (by simpa using hoff) hone
  simp only [Nat.add_zero] at hst
  simp only [execOp, Instr.storeAt, storeVar, Instr.sureAddr, hx, hv, Value.cells]
  simp [h3, hst]
theorem owp_storeN {I : Gh} {t : TypeId} {x vx : Operand} {b : Nat} (off : Nat) {cs : List Value} {T : TypeId} (vs : List Value) (hB : Bd I h) (o : OwnB I h b cs T)
    (hx : ev N ρ x = .pointer (some ⟨b, off, none⟩)) (hv : ev N ρ vx = .agg vs.toArray) (hone : ∀ v ∈ vs, v.oneCell' = true) (hm : pureRun P (sizeOf t) = some vs.length) (hoff : off + vs.length ≤ cs.length)
    (k : ∀ h', Pst (One b) I h I h' → OwnB I h' b (cs.take off ++ vs ++ cs.drop (off + vs.length)) T → K (put N ρ dst undef) h') : owp P N ⟨dst, .store t x vx, ty, pos, aft, g⟩ ρ h K := by
  intro w a ha hh K' hK
  subst hh
  have hr := run_storeN (P := P) (dst := dst) (ty := ty) (pos := pos) (aft := aft) (g := g) hx hv hone hm o.at_ (by simpa using hoff)
  unfold xwp
  rw [ha.eval, hr]
  refine hK _ _ _ (ha.put _ _) (put_defers _ _ _) (same_setRow _ _ _) (k _ (post_setRow hB o.at_) ⟨?_, o.no⟩)
  rw [heap_setRow o.at_]
theorem owp_new {o : Oper} {I : Gh} {cs : List Value} {T : TypeId} (hB : Bd I h)
    (f : Nat → Value) (hr : ∀ w : World, (execOp (ev N ρ) o).run P w = .ok (.value (f w.heap.size)) (w.alloc (.cells cs.toArray T)))
    (k : ∀ c h', h.size ≤ c → Pst No I h I h' → OwnB I h' c cs T → K (put N ρ o.dst (f c)) h') : owp P N o ρ h K := by
  intro w a ha hh K' hK
  subst hh
  unfold xwp
  rw [ha.eval, hr]
  exact hK _ _ _ (ha.put _ _) (put_defers _ _ _) ⟨rfl, rfl, rfl⟩ (k _ _ (Nat.le_refl _) (post_push hB _) (own_push hB cs T))
theorem owp_box {I : Gh} {e : TypeId} {x : Operand} (cs : List Value) (hB : Bd I h) (hx : (ev N ρ x).cells = cs.toArray)
    (k : ∀ c h', h.size ≤ c → Pst No I h I h' → OwnB I h' c cs e → K (put N ρ dst (.pointer (some ⟨c, 0, none⟩))) h') : owp P N ⟨dst, .box e x, ty, pos, aft, g⟩ ρ h K :=
  owp_new (o := ⟨dst, .box e x, ty, pos, aft, g⟩) hB (fun c => .pointer (some ⟨c, 0, none⟩)) (fun w => by
    simp only [execOp, Instr.box, newVar, newRow, hx]
    simp) k
theorem owp_alloc {I : Gh} {e : TypeId} (cs : List Value) (z : Value) (hB : Bd I h) (hz : pureRun P (zeroValue e) = some z) (hcs : z.cells = cs.toArray)
    (k : ∀ c h', h.size ≤ c → Pst No I h I h' → OwnB I h' c cs e → K (put N ρ dst (.pointer (some ⟨c, 0, none⟩))) h') : owp P N ⟨dst, .alloc e, ty, pos, aft, g⟩ ρ h K :=
  owp_new (o := ⟨dst, .alloc e, ty, pos, aft, g⟩) hB (fun c => .pointer (some ⟨c, 0, none⟩)) (fun w => by
    have h1 := pureRun_run hz w
    simp only [execOp, Instr.alloc, newVar, newRow]
    simp [h1, hcs]) k
theorem owp_buildSlice {I : Gh} {t e : TypeId} {len : Nat} {parts : Array (Nat × Operand)} (cs : List Value) (sz : Nat) (z : Value) (hB : Bd I h)
    (hu : P.underlying t = some (.slice e)) (hsz : pureRun P (sizeOf e) = some sz) (hlim : Nat.ble (len * sz) (2 ^ 24) = true) (hz : pureRun P (zeroValue e) = some z)
    (hf : Instr.fill (fun i => some (i * sz, sz)) ((Array.range (len * sz)).map (fun j => z.cells[j % z.cells.size]!)) (parts.toList.map fun p => (p.1, ev N ρ p.2)) = some cs.toArray)
    (k : ∀ c h', h.size ≤ c → Pst No I h I h' → OwnB I h' c cs e → K (put N ρ dst (.slice (some ⟨c, 0, none⟩) len len)) h') : owp P N ⟨dst, .buildSlice t len parts, ty, pos, aft, g⟩ ρ h K :=
  owp_new (o := ⟨dst, .buildSlice t len parts, ty, pos, aft, g⟩) hB (fun c => .slice (some ⟨c, 0, none⟩) len len) (fun w => by
    have h1 := pureRun_run hsz w
    have h2 := pureRun_run hz w
    have h3 := pureRun_run (pureRun_underlying hu) w
    have h4 : ¬ (2 ^ 24 < len * sz) := by have := Nat.le_of_ble_eq_true hlim; omega
    simp only [execOp, Instr.buildSlice, newRow]
    by_cases h0 : len * sz = 0
    · rw [h0] at hf
      simp only [Array.range_zero', Array.map_empty] at hf
      simp [h1, h3, h0, Array.range_zero', hf]
    · have h4' : ¬ (16777216 < len * sz) := by simpa using h4
      simp [h1, h2, h3, h0, h4', hf]) k
end
end Go.Proofs.YtjkbhpokboolpaaGreatDoor.Sx
