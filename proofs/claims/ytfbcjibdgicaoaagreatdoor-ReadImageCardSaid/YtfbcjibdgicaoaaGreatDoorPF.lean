/- Plain facts: what order.Put writes, order.Get reads as it was; what it reads, order.Put writes as it stood. -/
import Derived.Test.YtfbcjibdgicaoaaGreatDoorPE
namespace Go.Proofs.YtfbcjibdgicaoaaGreatDoor.Sx
open Go

/-- An order at the head of a list: it, how many bytes it takes, what is wrong. -/
def gS (s : List Int) (n : Int) : api_Order × Nat × GoErr :=
  match s with
  | [] => (zO, 0, .no 2)
  | x :: r =>
    if chr x then (⟨1, x :: r.takeWhile chr, zAt, 0, 0⟩, 1 + cnt r, .nil)
    else if x = 19 then (⟨4, [], zAt, 0, 0⟩, 1, .nil)
    else if x = 5 then (⟨5, [], zAt, 0, 0⟩, 1, .nil)
    else if x = 29 then
      match r with
      | [] => (zO, 1, .no 2)
      | y :: _ => if (getA y).2 = .nil then (⟨2, [], (getA y).1, 0, 0⟩, 2, .nil) else (zO, 1, .no 3)
    else if x = 17 ∨ x = 18 ∨ x = 60 then
      if (getOf r n).2 = .nil then
        if x = 17 then (⟨3, [], zAt, (getOf r n).1, 0⟩, 3, .nil)
        else if x = 18 then (⟨7, [], zAt, (getOf r n).1, 0⟩, 3, .nil)
        else match r.drop 2 with
          | [] => (zO, 3, .no 2)
          | z :: _ => if chr z then (⟨6, [], zAt, (getOf r n).1, z⟩, 4, .nil) else (zO, 3, .no 3)
      else (zO, 1, (getOf r n).2)
    else (zO, 0, .no 5)

theorem take_cnt (l : List Int) : l.take (cnt l) = l.takeWhile chr := by
  unfold cnt
  induction l with
  | nil => rfl
  | cons x l ih =>
    rw [List.takeWhile_cons]
    split
    · rw [List.length_cons, List.take_succ_cons, ih]
    · rfl
theorem sub_take {b : List Int} {p : Int} {k : Nat} (h0 : 0 ≤ p) : sub b p (p + (k : Int)) = (b.drop p.toNat).take k := by
  unfold sub
  congr 1; omega
theorem drop_nil {b : List Int} {p : Int} (h : p = (b.length : Int)) : b.drop p.toNat = [] := List.drop_eq_nil_of_le (by omega)
theorem drop3 {b : List Int} {p : Int} (h0 : 0 ≤ p) : (b.drop (p + 1).toNat).drop 2 = b.drop (p + 3).toNat := by rw [List.drop_drop]; congr 1; omega

theorem gO_gS {b : List Int} {p n : Int} (h0 : 0 ≤ p) (h1 : p ≤ (b.length : Int)) : gO b p n = ((gS (b.drop p.toNat) n).1, p + ((gS (b.drop p.toNat) n).2.1 : Int), (gS (b.drop p.toNat) n).2.2) := by
  by_cases hp : p = (b.length : Int)
  · rw [drop_nil hp]
    unfold gO gS
    simp [hp]
  · have hlt : p < (b.length : Int) := by omega
    have hsub : sub b p (p + (cnt (b.drop p.toNat) : Int)) = (b.drop p.toNat).takeWhile chr := by rw [sub_take h0, take_cnt]
    have hd := drop_at h0 hlt
    unfold gO
    rw [hsub, hd, if_neg hp]
    unfold gS
    generalize at_ b p = x
    cases hc : chr x with
    | true => simp only [hc, if_true, cnt_cons, List.takeWhile_cons]; simp only [Nat.add_comm]
    | false =>
      simp only [hc, Bool.false_eq_true, if_false]
      by_cases x19 : x = 19
      · simp [x19]
      by_cases x5 : x = 5
      · simp [x5]
      by_cases x29 : x = 29
      · simp only [x29, if_true, show ¬ (29 : Int) = 19 from by decide, show ¬ (29 : Int) = 5 from by decide, if_false]
        by_cases hl : p + 1 = (b.length : Int)
        · rw [drop_nil hl]; simp [hl]
        · rw [drop_at (by omega) (show p + 1 < (b.length : Int) by omega), if_neg hl]
          simp only
          split <;> rfl
      simp only [x19, x5, x29, if_false]
      by_cases h3 : x = 17 ∨ x = 18 ∨ x = 60
      · simp only [h3, if_true]
        by_cases hg : (getOf (b.drop (p + 1).toNat) n).2 = .nil
        · simp only [hg, if_true]
          by_cases x17 : x = 17
          · simp [x17]
          by_cases x18 : x = 18
          · simp [x18]
          simp only [x17, x18, if_false, drop3 h0]
          have hl3 := getOf_good hg
          rw [List.length_drop] at hl3
          by_cases hl : p + 3 = (b.length : Int)
          · rw [drop_nil hl]; simp [hl]
          · rw [drop_at (by omega) (show p + 3 < (b.length : Int) by omega), if_neg hl]
            simp only
            split <;> rfl
        · simp only [hg, if_false]; rfl
      · simp only [h3, if_false]; simp

theorem gS_put {o : api_Order} {n : Int} (r : RightO o n) (n1 : 1 ≤ n) (n2 : n ≤ 16383) (rest : List Int) (hr : o.Kind = 1 → cnt rest = 0) : gS (putO o n ++ rest) n = (o, (putO o n).length, .nil) := by
  obtain ⟨k, t, a, ad, ch⟩ := o
  have h1 := r.lo; have h2 := r.hi
  have rt := r.text; have ra := r.attr; have rp := r.addr; have rc := r.char; have rna := r.noattr; have rnc := r.nochar; have rnp := r.noaddr; have rch := r.chars
  simp only at h1 h2 rt ra rp rc rna rnc rnp rch hr
  unfold putO
  simp only
  rcases kinds (k := k) (by omega) (by omega) with rfl | rfl | rfl | rfl | rfl | rfl | rfl
  · obtain rfl := rna (by decide); obtain rfl := rnc (by decide); obtain rfl := rnp (by decide)
    cases t with
    | nil => exact absurd rfl (rt.1 rfl)
    | cons x t =>
      simp only [List.all_cons, Bool.and_eq_true] at rch
      have ht : (t ++ rest).takeWhile chr = t := by
        rw [List.takeWhile_append_of_pos (by simpa using rch.2)]
        have : rest.takeWhile chr = [] := by
          have := hr rfl
          unfold cnt at this
          exact List.eq_nil_of_length_eq_zero this
        rw [this, List.append_nil]
      have hc : cnt (t ++ rest) = t.length := by unfold cnt; rw [ht]
      simp only [if_true, List.cons_append, gS, rch.1, ht, hc, List.length_cons, Nat.add_comm]
  · have e : t = [] := Classical.byContradiction (fun h => absurd (rt.2 h) (by decide))
    subst e
    obtain rfl := rnc (by decide); obtain rfl := rnp (by decide)
    have hg := getA_put (ra rfl)
    simp only [show ¬ (2 : Int) = 1 from by decide, if_false, if_true, List.cons_append, List.nil_append, gS, show chr 29 = false from rfl, Bool.false_eq_true, show ¬ (29 : Int) = 19 from by decide, show ¬ (29 : Int) = 5 from by decide, hg]
    rfl
  · have e : t = [] := Classical.byContradiction (fun h => absurd (rt.2 h) (by decide))
    subst e
    obtain rfl := rna (by decide); obtain rfl := rnc (by decide)
    obtain ⟨p1, p2⟩ := rp (by simp)
    simp [gS, get_put n1 n2 p1 p2, show chr 17 = false from rfl, put_len]
  · have e : t = [] := Classical.byContradiction (fun h => absurd (rt.2 h) (by decide))
    subst e
    obtain rfl := rna (by decide); obtain rfl := rnc (by decide); obtain rfl := rnp (by decide)
    simp [gS, show chr 19 = false from rfl]
  · have e : t = [] := Classical.byContradiction (fun h => absurd (rt.2 h) (by decide))
    subst e
    obtain rfl := rna (by decide); obtain rfl := rnc (by decide); obtain rfl := rnp (by decide)
    simp [gS, show chr 5 = false from rfl]
  · have e : t = [] := Classical.byContradiction (fun h => absurd (rt.2 h) (by decide))
    subst e
    obtain rfl := rna (by decide)
    obtain ⟨p1, p2⟩ := rp (by simp)
    have hd : List.drop 2 (putOf ad n ++ (ch :: rest)) = ch :: rest := by
      rw [List.drop_append, put_len, List.drop_of_length_le (by rw [put_len]; exact Nat.le_refl 2)]; rfl
    simp [gS, get_put n1 n2 p1 p2, show chr 60 = false from rfl, put_len, rc rfl, hd]
  · have e : t = [] := Classical.byContradiction (fun h => absurd (rt.2 h) (by decide))
    subst e
    obtain rfl := rna (by decide); obtain rfl := rnc (by decide)
    obtain ⟨p1, p2⟩ := rp (by simp)
    simp [gS, get_put n1 n2 p1 p2, show chr 18 = false from rfl, put_len]

theorem getOf_take {l : List Int} {n : Int} (h : 2 ≤ l.length) : getOf (l.take 2) n = getOf l n := by
  match l, h with
  | a :: b :: r, _ =>
    unfold getOf
    simp only [List.take_succ_cons, List.take_zero, List.length_cons, List.length_nil, show at_ (a :: b :: r) 0 = a from rfl, show at_ (a :: b :: r) 1 = b from rfl, show at_ [a, b] 0 = a from rfl, show at_ [a, b] 1 = b from rfl]
    rw [if_neg (show ¬ (((0 + 1 + 1 : Nat) : Int) < 2) by omega), if_neg (show ¬ (((r.length + 1 + 1 : Nat) : Int) < 2) by omega)]
theorem putOf_get {l : List Int} {n : Int} (w : ∀ y ∈ l, Wf .u8 y) (n1 : 1 ≤ n) (n2 : n ≤ 16383) (h : (getOf l n).2 = .nil) : 2 ≤ l.length ∧ 0 ≤ (getOf l n).1 ∧ (getOf l n).1 < n ∧ putOf (getOf l n).1 n = l.take 2 := by
  have hl := getOf_good h
  have hl2 : 2 ≤ l.length := by omega
  refine ⟨hl2, ?_⟩
  rcases put_get (l := l.take 2) (by simp; omega) (fun y hy => w y (List.mem_of_mem_take hy)) n1 n2 with ⟨_, e2, e3, e4⟩ | ⟨e1, _⟩
  · rw [getOf_take hl2] at e2 e3 e4
    exact ⟨e2, e3, e4⟩
  · rw [getOf_take hl2] at e1
    exact absurd h e1

structure GotO (s : List Int) (n : Int) (o : api_Order) (k : Nat) : Prop where
  right : RightO o n
  put : putO o n = s.take k
  pos : 1 ≤ k
  le : k ≤ s.length
  last : o.Kind = 1 → cnt (s.drop k) = 0

theorem all_takeWhile (l : List Int) : (l.takeWhile chr).all chr = true := by
  induction l with
  | nil => rfl
  | cons x l ih =>
    rw [List.takeWhile_cons]
    split
    · rename_i h; simp [h, ih]
    · rfl
theorem cnt_drop (l : List Int) : cnt (l.drop (cnt l)) = 0 := by
  induction l with
  | nil => rfl
  | cons x l ih =>
    rw [cnt_cons]
    split
    · exact ih
    · rename_i h; rw [List.drop_zero, cnt_cons, if_neg h]

theorem gS_get {s : List Int} {n : Int} (w : ∀ y ∈ s, Wf .u8 y) (n1 : 1 ≤ n) (n2 : n ≤ 16383) (h : (gS s n).2.2 = .nil) : GotO s n (gS s n).1 (gS s n).2.1 := by
  cases s with
  | nil => simp [gS] at h
  | cons x r =>
    have wr : ∀ y ∈ r, Wf .u8 y := fun y hy => w y (List.mem_cons_of_mem _ hy)
    unfold gS at h ⊢
    simp only at h ⊢
    cases hc : chr x with
    | true =>
      simp only [if_true]
      have hl := cnt_le r
      refine ⟨⟨by simp, by simp, by simp, ?_, by simp, by simp, by simp, by simp, by simp, by simp⟩, ?_, by omega, by simp; omega, fun _ => ?_⟩
      · simp only [List.all_cons, hc, Bool.true_and]; exact all_takeWhile r
      · simp only [putO, if_true, Nat.add_comm 1, List.take_succ_cons, take_cnt]
      · rw [Nat.add_comm 1, List.drop_succ_cons]; exact cnt_drop r
    | false =>
      simp only [hc, Bool.false_eq_true, if_false] at h ⊢
      by_cases x19 : x = 19
      · subst x19
        simp only [if_true]
        exact ⟨⟨by simp, by simp, by simp, by simp, by simp, by simp, by simp, by simp, by simp, by simp⟩, by simp [putO], by simp, by simp, by simp⟩
      simp only [x19, if_false] at h ⊢
      by_cases x5 : x = 5
      · subst x5
        simp only [if_true]
        exact ⟨⟨by simp, by simp, by simp, by simp, by simp, by simp, by simp, by simp, by simp, by simp⟩, by simp [putO], by simp, by simp, by simp⟩
      simp only [x5, if_false] at h ⊢
      by_cases x29 : x = 29
      · subst x29
        simp only [if_true] at h ⊢
        cases r with
        | nil => simp at h
        | cons y r =>
          simp only at h ⊢
          have u := b_u8 (wr y (by simp))
          rcases (getA_facts u.1 u.2).2.2 with ⟨e1, e2, e3⟩ | ⟨e1, _⟩
          · simp only [e1, if_true]
            exact ⟨⟨by simp, by simp, by simp, by simp, fun _ => e2, by simp, by simp, by simp, by simp, by simp⟩, by simp [putO, e3], by simp, by simp, by simp⟩
          · rw [e1, if_neg (by simp)] at h
            simp at h
      simp only [x29, if_false] at h ⊢
      by_cases h3 : x = 17 ∨ x = 18 ∨ x = 60
      · simp only [h3, if_true] at h ⊢
        by_cases hg : (getOf r n).2 = .nil
        · obtain ⟨g1, g2, g3, g4⟩ := putOf_get wr n1 n2 hg
          simp only [hg, if_true] at h ⊢
          by_cases x17 : x = 17
          · subst x17
            simp only [if_true]
            exact ⟨⟨by simp, by simp, by simp, by simp, by simp, by simp, by simp, by simp, fun _ => ⟨g2, g3⟩, by simp⟩, by simp [putO, g4], by simp, by simp; omega, by simp⟩
          simp only [x17, if_false] at h ⊢
          by_cases x18 : x = 18
          · subst x18
            simp only [if_true]
            exact ⟨⟨by simp, by simp, by simp, by simp, by simp, by simp, by simp, by simp, fun _ => ⟨g2, g3⟩, by simp⟩, by simp [putO, g4], by simp, by simp; omega, by simp⟩
          simp only [x18, if_false] at h ⊢
          have x60 : x = 60 := by rcases h3 with h3 | h3 | h3 <;> first | exact absurd h3 x17 | exact absurd h3 x18 | exact h3
          subst x60
          match r, g1 with
          | a :: b :: r, _ =>
            simp only [List.drop_succ_cons, List.drop_zero] at h ⊢
            cases r with
            | nil => simp at h
            | cons z r =>
              simp only at h ⊢
              cases hz : chr z with
              | false => rw [hz] at h; simp at h
              | true =>
                simp only [if_true]
                refine ⟨⟨by simp, by simp, by simp, by simp, by simp, by simp, fun _ => hz, by simp, fun _ => ⟨g2, g3⟩, by simp⟩, ?_, by simp, by simp, by simp⟩
                simp only [putO, show ¬ (6 : Int) = 1 from by decide, show ¬ (6 : Int) = 2 from by decide, show ¬ (6 : Int) = 4 from by decide, show ¬ (6 : Int) = 5 from by decide, show ¬ (6 : Int) = 3 from by decide, show ¬ (6 : Int) = 7 from by decide, if_false, g4]
                rfl
        · rw [if_neg hg] at h
          exact absurd h hg
      · simp only [h3, if_false] at h
        simp at h

theorem putO_pos {o : api_Order} {n : Int} (r : RightO o n) : 1 ≤ (putO o n).length := by
  unfold putO
  have := r.text
  repeat' split
  all_goals first | (simp; done) | (rename_i h; have := this.1 h; cases ht : o.Text with | nil => exact absurd ht this | cons a b => simp) | (simp [put_len])
theorem putO_le {o : api_Order} {n : Int} : (putO o n).length ≤ o.Text.length + 4 := by
  unfold putO
  repeat' split
  all_goals first | omega | (simp [put_len]) | (simp [put_len]; omega)
theorem putO_head {o : api_Order} {n : Int} (r : RightO o n) (h : o.Kind ≠ 1) (rest : List Int) : cnt (putO o n ++ rest) = 0 := by
  unfold putO
  rw [if_neg h]
  repeat' split
  all_goals (simp only [List.cons_append, cnt_cons]; rfl)
end Go.Proofs.YtfbcjibdgicaoaaGreatDoor.Sx

