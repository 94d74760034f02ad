import Derived.Test.YtjkbhpokboolpaaGreatDoorV6
namespace Go.Proofs.YtjkbhpokboolpaaGreatDoor.Sx
open Go
def tRaw (n : Nat) : Ty (List Value) where
  size := n
  rep _ _ cs x := cs = x ∧ x.length = n ∧ ∀ v ∈ x, v.oneCell' = true
  len := by rintro _ _ _ _ ⟨rfl, l, _⟩; exact l
  one := by rintro _ _ _ _ ⟨rfl, _, o⟩; exact o
  up := fun _ r => r
def rA {α : Type} (T : Ty α) (raws : List (List Value)) (l : List α) : Rs :=
  ⟨No, fun _ I h => raws.length = l.length ∧ ∀ i (h1 : i < raws.length) (h2 : i < l.length), T.rep I h raws[i] l[i], fun u _ _ e => ⟨e.1, fun i a b => T.up u (e.2 i a b)⟩, fun _ e => e, true, fun _ _ _ _ _ e => e⟩
section
variable {α : Type} {T : Ty α} {E : En} {L L' : List Rs} {I : Gh} {h : Heap} {a : Option Addr} {c n : Nat} {raws : List (List Value)} {l : List α} {cs : List Value} {x : α} {k : Cl}
theorem St.rA0 (hs : St E L I h) : St E (rA T [] [] :: L) I h := hs.pers (r := rA T [] []) ⟨rfl, fun i h1 => by cases h1⟩ noF
theorem St.rA1 (hs : St E (rA T raws l :: L) I h) (r : T.rep I h cs x) : St E (rA T (raws ++ [cs]) (l ++ [x]) :: L) I h := by
  have g := hs.g d0
  refine hs.imp ⟨by rw [List.length_append, List.length_append, g.1]; rfl, fun i h1 h2 => ?_⟩ fun _ y => y
  by_cases e : i < raws.length
  · rw [List.getElem_append_left e, List.getElem_append_left (by rw [← g.1]; exact e)]; exact g.2 i e (by rw [← g.1]; exact e)
  · have e1 : i = raws.length := by rw [List.length_append] at h1; simp at h1; omega
    subst e1
    rw [List.getElem_append_right (by omega), List.getElem_append_right (by rw [g.1]; exact Nat.le_refl _)]
    simpa [g.1] using r
theorem St.unraw (hs : St E (rO (tRaw T.size) .i a c n raws :: rA T raws l :: L) I h) : St E (rO T .i a c n l :: L) I h := by
  have g := hs.g d0
  have f := hs.g d1
  have s : Sl (tRaw T.size) I h a c raws := g.1.1
  have hl : l.length = n := by rw [← f.1]; exact g.2
  have ok : (rO T .i a c n l).ok E.B I h := by
    refine ⟨⟨⟨fun e => ?_, by rw [hl, ← g.2]; exact s.le, fun ad e hc => ?_⟩, ⟨g.1.2.ow⟩⟩, hl⟩
    · obtain ⟨e1, e2⟩ := s.nil e
      exact ⟨List.eq_nil_of_length_eq_zero (by rw [← f.1, e1]; rfl), e2⟩
    · obtain ⟨s1, cc, t, fr, s2, s3, s4⟩ := s.some_ ad e hc
      refine ⟨s1, cc, t, fr, s2, s3, fun i hi => ?_⟩
      have hi' : i < raws.length := by rw [f.1]; exact hi
      obtain ⟨e1, _, _⟩ := s4 i hi'
      have e1 : seg cc (ad.off + i * T.size) T.size = raws[i] := e1
      rw [e1]; exact f.2 i hi' hi
  exact ((hs.imp ok fun _ y => y).f d1).drop
theorem raw_seg {m : Nat} (hs : St E L I h) (d : Del L (rO (tRaw n) k a c m raws) L') {i : Int} (h0 : 0 ≤ i) (h1 : i < (raws.length : Int)) : segAt h a (i.toNat * n) n = some (at_ raws i) := by
  obtain ⟨cs, h2, rfl, _⟩ := (hs.sO d).toSl.seg h0 h1
  exact h2
theorem at_last {α : Type} [Inhabited α] {l : List α} {x : α} {i : Int} (h : i = (l.length : Int)) : at_ (l ++ [x]) i = x := by
  unfold at_
  rw [h, Int.toNat_natCast, List.getD_eq_getElem?_getD, List.getElem?_append_right (Nat.le_refl _)]
  simp
theorem set_last {α : Type} {l : List α} {x y : α} {i : Int} (h : i = (l.length : Int)) : (l ++ [x]).set i.toNat y = l ++ [y] := by
  rw [h, Int.toNat_natCast, List.set_append_right _ _ (Nat.le_refl _), Nat.sub_self]; rfl
theorem raw_segR {m : Nat} (hs : St E L I h) (d : Del L (rR (tRaw n) k a c m raws) L') {i : Int} (h0 : 0 ≤ i) (h1 : i < (raws.length : Int)) : segAt h a (i.toNat * n) n = some (at_ raws i) := by
  obtain ⟨cs, h2, rfl, _⟩ := (hs.sR d).toSl.seg h0 h1
  exact h2
theorem rawR {G : Gh} (cs : List Value) (hn : cs.length = n) (ho : cs.all Value.oneCell' = true) : Reps (tRaw n) G h cs [cs] := by
  have := Reps.cons (T := tRaw n) (I := G) (h := h) (c := cs) (x := cs) ⟨rfl, hn, by simpa using ho⟩ .nil
  rwa [List.append_nil] at this
theorem app_len {α β : Type} {l m r : List α} {l' m' : List β} (h : app l m = some r) (e1 : l'.length = l.length) (e2 : m'.length = m.length) : r = l ++ m ∧ app l' m' = some (l' ++ m') := by
  have := app_some h
  refine ⟨this.2, ?_⟩
  unfold app
  rw [if_pos (by omega)]
end
end Go.Proofs.YtjkbhpokboolpaaGreatDoor.Sx
