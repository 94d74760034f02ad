import Derived.Test.YtjkbhpokboolpaaGreatDoorSx4
namespace Go.Proofs.YtjkbhpokboolpaaGreatDoor.Sx
open Go
theorem rep_int {k : IntKind} {I : Gh} {h : Heap} {cs : List Value} {x : Int} (r : (tInt k).rep I h cs x) : cs = [.int k x] := r
theorem rep_sl {α : Type} {T : Ty α} {I : Gh} {h : Heap} {cs : List Value} {x : List α} (r : (tSl T).rep I h cs x) : ∃ a n cap, cs = [.slice a n cap] ∧ (Rd T I h a cap x ∧ x.length = n) := r
section
variable {I : Gh} {h : Heap} {b : Nat} {cs : List Value} {t : TypeId}
end
def letJ {α β : Type} (j : α) (f : α → β) : β := f j
theorem letJ_some {α β : Type} {j : α} {f : α → Option β} {r : β} (h : letJ j f = some r) : ∃ g, g = j ∧ f g = some r := ⟨j, rfl, h⟩
def elemChk (P : Program) (e : TypeId) (n bytes : Nat) : Bool :=
  match P.info? e with
  | some i => match i.zero with
    | some z => Nat.beq i.size n && (Nat.beq i.bytes bytes && Nat.beq z.cells.size n)
    | none => false
  | none => false
theorem elemOk_of {P : Program} {e : TypeId} {n bytes : Nat} (h : elemChk P e n bytes = true) : ElemOk P e n bytes := by
  unfold elemChk at h
  split at h
  · rename_i i hi
    split at h
    · rename_i z hz
      simp only [Bool.and_eq_true] at h
      exact ⟨i, z, hi, hz, Nat.eq_of_beq_eq_true h.1, Nat.eq_of_beq_eq_true h.2.1, Nat.eq_of_beq_eq_true h.2.2⟩
    · cases h
  · cases h
def exitQ (id : Nat) (J : Env → Heap → Prop) (Q : Post) : Post
  | .exit i, ρ, h => bif Nat.beq i id then J ρ h else Q (.exit i) ρ h
  | .ret, ρ, h => Q .ret ρ h
  | .normal, _, _ => False
section
variable {P : Program} {N : Nat} {Q : Post} {ρ : Env} {h : Heap} {K : Env → Heap → Prop}
variable {dst : Option Tmp} {ty : TypeId} {pos : String} {aft : Array Edge} {g : Option (Nat × Bool)}
theorem pr_indexElem {α : Type} {T : Ty α} {I : Gh} {a : Option Addr} {cap sz : Nat} {l : List α} (s : Sl T I h a cap l) {t e : TypeId} {x ix : Operand} {k : IntKind} {i : Int}
    (hx : ev N ρ x = .slice a l.length cap) (hix : ev N ρ ix = .int k i) (hu : P.underlying t = some (.slice e)) (hsz : pureRun P (sizeOf e) = some sz) (h0 : 0 ≤ i) (h1 : i < (l.length : Int)) :
    pureRun P (execOp (ev N ρ) ⟨dst, .indexAddr t x ix, ty, pos, aft, g⟩) = some (.value (elemPtr a (i.toNat * sz))) :=
  pr_indexAddr hx hix hu hsz (s.isSome h0 h1) h0 h1 (fun ad e => (s.some_ ad e (by have := s.le; omega)).1)
theorem owp_app {α : Type} (T : Ty α) {G I : Gh} {t e : TypeId} {bytes : Nat} {x y : Operand} {a a2 : Option Addr} {cap cap2 : Nat} {l l2 r : List α} (hu : P.underlying t = some (.slice e)) (he : ElemOk P e T.size bytes)
    (hpos : Nat.ble 1 T.size = true) (hby : Nat.ble bytes 128 = true) (hB : Bd I h) (hGB : Bd G h) (s : OwnX T G I h a cap l) (hG : ∀ b, InA a b → ¬ G b) (s2 : Sl T G h a2 cap2 l2) (m : app l l2 = some r)
    (hx : ev N ρ x = .slice a l.length cap) (hy : ev N ρ y = .slice a2 l2.length cap2)
    (k : ∀ a' cap' h', Pst (InA a) I h I h' → OwnX T G I h' a' cap' r → (∀ b, InA a' b → InA a b ∨ h.size ≤ b) → K (put N ρ dst (.slice a' r.length cap')) h') :
    owp P N ⟨dst, .call ⟨.builtin .append, #[x, y], #[t, t]⟩, ty, pos, aft, g⟩ ρ h K := by
  obtain ⟨hl, rfl⟩ := app_some m
  have h1 := Nat.le_of_ble_eq_true hby
  have h2 : (l.length + l2.length) * bytes ≤ Lim * 128 := Nat.mul_le_mul hl h1
  unfold Lim at h2 hl
  exact owp_append T hu he (Nat.le_of_ble_eq_true hpos) hB hGB s hG s2 (by omega) (by omega) hx hy k
def slA (a : Option Addr) (cap lo sz : Nat) : Option Addr := if cap = lo then a else a.map (·.add (lo * sz))
end
theorem sub_length {α : Type} {l : List α} {lo hi : Int} (h2 : hi ≤ (l.length : Int)) : (sub l lo hi).length = hi.toNat - lo.toNat := by
  unfold sub; rw [List.length_take, List.length_drop]; omega
theorem Sl.part {α : Type} {T : Ty α} {I : Gh} {h : Heap} {a : Option Addr} {cap : Nat} {l : List α} (s : Sl T I h a cap l) {lo hi : Int} (_h0 : 0 ≤ lo) (h1 : lo ≤ hi) (h2 : hi ≤ (l.length : Int)) :
    Sl T I h (slA a cap lo.toNat T.size) (cap - lo.toNat) (sub l lo hi) where
  nil e := by
    cases a with
    | none => obtain ⟨rfl, rfl⟩ := s.nil rfl; simp [sub]
    | some ad => unfold slA at e; split at e <;> cases e
  le := by have := s.le; rw [sub_length h2]; omega
  some_ ad e hc0 := by
    cases a with
    | none => unfold slA at e; split at e <;> cases e
    | some ad0 =>
      have hl := s.le
      obtain ⟨hs, c, t, fr, hb, hf, hr⟩ := s.some_ ad0 rfl (by omega)
      obtain ⟨b, o, sp⟩ := ad0
      obtain rfl : sp = none := hs
      unfold slA at e
      rw [if_neg (by omega)] at e
      simp only [Option.map_some, Addr.add_lit] at e
      obtain rfl := Option.some.inj e
      refine ⟨rfl, c, t, fr, hb, ?_, fun i hi' => ?_⟩
      · simp only at hf ⊢
        have : cap * T.size = lo.toNat * T.size + (cap - lo.toNat) * T.size := by rw [← Nat.add_mul]; congr 1; omega
        omega
      · rw [sub_length h2] at hi'
        have := hr (lo.toNat + i) (by omega)
        simp only [sub, List.getElem_take, List.getElem_drop]
        rw [Nat.add_mul, ← Nat.add_assoc] at this
        exact this
theorem OwnX.part {α : Type} {T : Ty α} {G I : Gh} {h : Heap} {a : Option Addr} {cap : Nat} {l : List α} (s : OwnX T G I h a cap l) {lo hi : Int} (h0 : 0 ≤ lo) (h1 : lo ≤ hi) (h2 : hi ≤ (l.length : Int)) :
    OwnX T G I h (slA a cap lo.toNat T.size) (cap - lo.toNat) (sub l lo hi) where
  toSl := s.toSl.part h0 h1 h2
  ow ad e := by
    cases a with
    | none => unfold slA at e; split at e <;> cases e
    | some ad0 =>
      have hl := s.le
      obtain ⟨g0, g1, c, t, g2, g3⟩ := s.ow ad0 rfl
      obtain ⟨b, o, sp⟩ := ad0
      obtain rfl : sp = none := g0
      unfold slA at e
      have : cap * T.size = lo.toNat * T.size + (cap - lo.toNat) * T.size := by rw [← Nat.add_mul]; congr 1; omega
      split at e
      · rename_i hc
        obtain rfl := Option.some.inj e
        refine ⟨rfl, g1, c, t, g2, ?_⟩
        simp only at g3 ⊢
        rw [hc, Nat.sub_self, Nat.zero_mul]; omega
      · simp only [Option.map_some, Addr.add_lit] at e
        obtain rfl := Option.some.inj e
        refine ⟨rfl, g1, c, t, g2, ?_⟩
        simp only at g3 ⊢
        omega
theorem inA_slA {a : Option Addr} {cap lo sz b : Nat} (x : InA (slA a cap lo sz) b) : InA a b := by
  obtain ⟨ad, e, rfl⟩ := x
  unfold slA at e
  split at e
  · exact ⟨ad, e, rfl⟩
  · cases a with
    | none => cases e
    | some ad0 =>
      simp only [Option.map_some] at e
      obtain rfl := Option.some.inj e
      refine ⟨ad0, rfl, ?_⟩
      unfold Addr.add
      split <;> rfl
theorem Rd.part {α : Type} {T : Ty α} {I : Gh} {h : Heap} {a : Option Addr} {cap : Nat} {l : List α} (s : Rd T I h a cap l) {lo hi : Int} (h0 : 0 ≤ lo) (h1 : lo ≤ hi) (h2 : hi ≤ (l.length : Int)) :
    ∃ a' c', Rd T I h a' c' (sub l lo hi) ∧ (a' = slA a cap lo.toNat T.size ∧ c' = cap - lo.toNat) := by
  refine ⟨_, _, ⟨s.toSl.part h0 h1 h2, fun ad e hc => ?_⟩, rfl, rfl⟩
  have hl := s.le
  obtain ⟨ad0, e0, hb⟩ := inA_slA ⟨ad, e, rfl⟩
  have := s.im ad0 e0 (by omega)
  rwa [hb] at this
section
variable {P : Program} {N : Nat} {ρ : Env} {h : Heap}
variable {dst : Option Tmp} {ty : TypeId} {pos : String} {aft : Array Edge} {g : Option (Nat × Bool)}
variable {α : Type} {T : Ty α} {I : Gh} {a a' : Option Addr} {cap c' : Nat} {l : List α} {lo hi : Int} {t e : TypeId} {x xl xh : Operand} {k1 k2 : IntKind}
theorem pr_bound {k : IntKind} {i : Int} {y : Nat} {code : BoundsCode} (h0 : 0 ≤ i) (h1 : i ≤ (y : Int)) : pureRun P (Instr.sliceBound (.int k i) y code) = some i.toNat := by
  unfold Instr.sliceBound
  refine (pureRun_bind' (x := (k, i)) rfl).trans ?_
  simp only
  rw [if_pos ⟨h0, h1⟩]; rfl
theorem sl_cap (s : Sl T I h a cap l) : l.length ≤ cap := s.le
theorem pr_slice_any {low high : Option Value} {v : Value} {s : Sem Next} {L H : Nat} (hb : pureRun P (Instr.sliceBounds true l.length cap low high none) = some (L, H, cap)) (hu : P.underlying t = some (.slice e)) (hsz : pureRun P (sizeOf e) = some T.size)
    (hs : s = (do pure (Next.value (← Instr.sliceAt t (.slice a l.length cap) low high none)))) (hv : v = .slice (slA a cap L T.size) (H - L) (cap - L)) : pureRun P s = some (.value v) := by
  subst hs hv
  refine (pureRun_bind' (x := .slice (slA a cap L T.size) (H - L) (cap - L)) ?_).trans rfl
  unfold Instr.sliceAt
  refine (pureRun_bind' (pureRun_underlying hu)).trans ?_
  simp only
  unfold Instr.slice
  refine (pureRun_bind' (pureRun_underlying hu)).trans ?_
  simp only
  refine (pureRun_bind' hb).trans ?_
  simp only
  refine (pureRun_bind' hsz).trans ?_
  rfl
theorem pr_slice_lh (s : Sl T I h a cap l) (ha : a' = slA a cap lo.toNat T.size ∧ c' = cap - lo.toNat) (hx : ev N ρ x = .slice a l.length cap) (hl : ev N ρ xl = .int k1 lo) (hh : ev N ρ xh = .int k2 hi)
    (hu : P.underlying t = some (.slice e)) (hsz : pureRun P (sizeOf e) = some T.size) (h0 : 0 ≤ lo) (h1 : lo ≤ hi) (h2 : hi ≤ (l.length : Int)) :
    pureRun P (execOp (ev N ρ) ⟨dst, .slice t x (some xl) (some xh) none, ty, pos, aft, g⟩) = some (.value (.slice a' (sub l lo hi).length c')) := by
  have hc := sl_cap s
  refine pr_slice_any (T := T) (a := a) (l := l) (cap := cap) (low := some (.int k1 lo)) (high := some (.int k2 hi)) (L := lo.toNat) (H := hi.toNat) ?_ hu hsz (by simp only [execOp, hx, Option.map_some, hl, hh, Option.map_none]) (by rw [ha.1, ha.2, sub_length h2])
  unfold Instr.sliceBounds
  refine (pureRun_bind' (x := cap) rfl).trans ?_
  refine (pureRun_bind' (pr_bound (by omega) (by omega))).trans ?_
  refine (pureRun_bind' (pr_bound h0 (by omega))).trans ?_
  rfl
theorem pr_slice_l (s : Sl T I h a cap l) (ha : a' = slA a cap lo.toNat T.size ∧ c' = cap - lo.toNat) (hx : ev N ρ x = .slice a l.length cap) (hl : ev N ρ xl = .int k1 lo)
    (hu : P.underlying t = some (.slice e)) (hsz : pureRun P (sizeOf e) = some T.size) (h0 : 0 ≤ lo) (h1 : lo ≤ (l.length : Int)) (_h2 : (l.length : Int) ≤ (l.length : Int)) :
    pureRun P (execOp (ev N ρ) ⟨dst, .slice t x (some xl) none none, ty, pos, aft, g⟩) = some (.value (.slice a' (sub l lo (l.length : Int)).length c')) := by
  have hc := sl_cap s
  refine pr_slice_any (T := T) (a := a) (l := l) (cap := cap) (low := some (.int k1 lo)) (high := none) (L := lo.toNat) (H := l.length) ?_ hu hsz (by simp only [execOp, hx, Option.map_some, hl, Option.map_none]) (by rw [ha.1, ha.2, sub_length (Int.le_refl _)]; simp)
  unfold Instr.sliceBounds
  refine (pureRun_bind' (x := cap) rfl).trans ?_
  refine (pureRun_bind' (x := l.length) rfl).trans ?_
  refine (pureRun_bind' (pr_bound h0 h1)).trans ?_
  rfl
theorem pr_slice_h (s : Sl T I h a cap l) (ha : a' = slA a cap (0 : Int).toNat T.size ∧ c' = cap - (0 : Int).toNat) (hx : ev N ρ x = .slice a l.length cap) (hh : ev N ρ xh = .int k2 hi)
    (hu : P.underlying t = some (.slice e)) (hsz : pureRun P (sizeOf e) = some T.size) (_h0 : (0 : Int) ≤ 0) (h1 : 0 ≤ hi) (h2 : hi ≤ (l.length : Int)) :
    pureRun P (execOp (ev N ρ) ⟨dst, .slice t x none (some xh) none, ty, pos, aft, g⟩) = some (.value (.slice a' (sub l 0 hi).length c')) := by
  have hc := sl_cap s
  refine pr_slice_any (T := T) (a := a) (l := l) (cap := cap) (low := none) (high := some (.int k2 hi)) (L := 0) (H := hi.toNat) ?_ hu hsz (by simp only [execOp, hx, Option.map_some, hh, Option.map_none]) (by rw [ha.1, ha.2, sub_length h2]; rfl)
  unfold Instr.sliceBounds
  refine (pureRun_bind' (x := cap) rfl).trans ?_
  refine (pureRun_bind' (pr_bound h1 (by omega))).trans ?_
  refine (pureRun_bind' (x := 0) rfl).trans ?_
  rfl
end
theorem inA_none {b : Nat} : ¬ InA none b := by rintro ⟨ad, e, _⟩; cases e
theorem inA_some {c b : Nat} (h : InA (some ⟨c, 0, none⟩) b) : c = b := by obtain ⟨ad, e, rfl⟩ := h; obtain rfl := Option.some.inj e; rfl
def Flat {α : Type} (T : Ty α) : Prop := ∀ {I I' : Gh} {h h' : Heap} {cs : List Value} {x : α}, T.rep I h cs x → T.rep I' h' cs x
theorem flat_int {k : IntKind} : Flat (tInt k) := fun r => r
theorem Sl.flat {α : Type} {T : Ty α} {G I' : Gh} {h : Heap} {a : Option Addr} {cap : Nat} {l : List α} (s : Sl T G h a cap l) (hf : Flat T) : Sl T I' h a cap l where
  nil := s.nil
  le := s.le
  some_ ad e hc := by
    obtain ⟨h1, c, t, fr, h2, h3, h4⟩ := s.some_ ad e hc
    exact ⟨h1, c, t, fr, h2, h3, fun i hi => hf (h4 i hi)⟩
theorem OwnX.flat {α : Type} {T : Ty α} {G G' I : Gh} {h : Heap} {a : Option Addr} {cap : Nat} {l : List α} (s : OwnX T G I h a cap l) (hf : Flat T) : OwnX T G' I h a cap l := ⟨s.toSl.flat hf, s.ow⟩
theorem Rd.partX {α : Type} {T : Ty α} {I : Gh} {h : Heap} {a : Option Addr} {cap : Nat} {l : List α} (s : Rd T I h a cap l) {lo hi : Int} (h0 : 0 ≤ lo) (h1 : lo ≤ hi) (h2 : hi ≤ (l.length : Int)) :
    Rd T I h (slA a cap lo.toNat T.size) (cap - lo.toNat) (sub l lo hi) := by
  obtain ⟨_, _, r, rfl, rfl⟩ := s.part h0 h1 h2
  exact r
theorem bool_or (b : Bool) : b = false ∨ b = true := by cases b <;> simp
theorem bif_f {α : Type} {b : Bool} {x y r : α} (c : b = false) (H : (bif b then x else y) = r) : y = r := by subst c; exact H
theorem bif_t {α : Type} {b : Bool} {x y r : α} (c : b = true) (H : (bif b then x else y) = r) : x = r := by subst c; exact H
end Go.Proofs.YtjkbhpokboolpaaGreatDoor.Sx
