/- Plain facts: submissions as bytes (package input): closed forms, there and back. -/
import Derived.Test.YtfbcjibdgicaoaaGreatDoorPF
namespace Go.Proofs.YtfbcjibdgicaoaaGreatDoor.Sx
open Go

def ltr (b : Int) : Bool := b != 0 && chr b
def cntL (l : List Int) : Nat := (l.takeWhile ltr).length
theorem ltr17 : ltr 17 = false := by decide
theorem cntL_cons (x : Int) (l : List Int) : cntL (x :: l) = if ltr x = true then cntL l + 1 else 0 := by
  unfold cntL
  rw [List.takeWhile_cons]
  split <;> simp
theorem cntL_le (l : List Int) : cntL l ≤ l.length := by
  induction l with
  | nil => simp [cntL]
  | cons x l ih => rw [cntL_cons, List.length_cons]; split <;> omega
theorem takeL (l : List Int) : l.take (cntL l) = l.takeWhile ltr := by
  induction l with
  | nil => rfl
  | cons x l ih =>
    rw [cntL_cons, List.takeWhile_cons]
    split
    · rw [List.take_succ_cons, ih]
    · rfl
theorem allL (l : List Int) : (l.takeWhile ltr).all ltr = true := by
  induction l with
  | nil => rfl
  | cons x l ih =>
    rw [List.takeWhile_cons]
    split
    · rename_i h; simp [h, ih]
    · rfl
theorem cntL_app {t s : List Int} (h : t.all ltr = true) (hs : cntL s = 0) : cntL (t ++ s) = t.length := by
  induction t with
  | nil => simpa using hs
  | cons x t ih =>
    simp only [List.all_cons, Bool.and_eq_true] at h
    rw [List.cons_append, cntL_cons, if_pos h.1, ih h.2, List.length_cons]
theorem cntL_drop (l : List Int) : cntL (l.drop (cntL l)) = 0 := by
  induction l with
  | nil => rfl
  | cons x l ih =>
    rw [cntL_cons]
    split
    · exact ih
    · rename_i h; rw [List.drop_zero, cntL_cons, if_neg h]

/-- Fields with addresses, to the end: they, the place where it stopped, what is wrong. -/
def fdS (n : Int) : Nat → List Int → List api_Entry × Nat × GoErr
  | 0, _ => ([], 0, .nil)
  | k + 1, s => match s with
    | [] => ([], 0, .nil)
    | x :: r => if x = 17 then
        if (getOf r n).2 = .nil then
          (⟨(getOf r n).1, (r.drop 2).takeWhile ltr⟩ :: (fdS n k ((r.drop 2).drop (cntL (r.drop 2)))).1,
            3 + cntL (r.drop 2) + (fdS n k ((r.drop 2).drop (cntL (r.drop 2)))).2.1, (fdS n k ((r.drop 2).drop (cntL (r.drop 2)))).2.2)
        else ([], 1, (getOf r n).2)
      else ([], 0, .no 3)
def fd (n : Int) (s : List Int) : List api_Entry × Nat × GoErr := fdS n s.length s

theorem fdS_fuel {n : Int} : ∀ (k m : Nat) (s : List Int), s.length ≤ k → s.length ≤ m → fdS n k s = fdS n m s := by
  intro k
  induction k with
  | zero =>
    intro m s h _
    have : s = [] := List.eq_nil_of_length_eq_zero (by omega)
    subst this
    cases m <;> rfl
  | succ k ih =>
    intro m s h h'
    cases s with
    | nil => cases m <;> rfl
    | cons x r =>
      simp only [List.length_cons] at h h'
      cases m with
      | zero => omega
      | succ m =>
        unfold fdS
        simp only
        rw [ih m ((r.drop 2).drop (cntL (r.drop 2))) (by rw [List.length_drop, List.length_drop]; omega) (by rw [List.length_drop, List.length_drop]; omega)]
theorem fd_nil (n : Int) : fd n [] = ([], 0, .nil) := rfl
theorem fd_cons (n x : Int) (r : List Int) : fd n (x :: r) = if x = 17 then
        if (getOf r n).2 = .nil then
          (⟨(getOf r n).1, (r.drop 2).takeWhile ltr⟩ :: (fd n ((r.drop 2).drop (cntL (r.drop 2)))).1,
            3 + cntL (r.drop 2) + (fd n ((r.drop 2).drop (cntL (r.drop 2)))).2.1, (fd n ((r.drop 2).drop (cntL (r.drop 2)))).2.2)
        else ([], 1, (getOf r n).2)
      else ([], 0, .no 3) := by
  unfold fd
  rw [List.length_cons, fdS]
  rw [fdS_fuel r.length ((r.drop 2).drop (cntL (r.drop 2))).length ((r.drop 2).drop (cntL (r.drop 2))) (by rw [List.length_drop, List.length_drop]; omega) (Nat.le_refl _)]

/-- A field's bytes. -/
def putF (f : api_Entry) (n : Int) : List Int := (if f.Addr = -1 then [] else 17 :: putOf f.Addr n) ++ f.Text
def flatF (l : List api_Entry) (n : Int) : List Int := (l.map (fun f => putF f n)).flatten
theorem flatF_cons (f : api_Entry) (l : List api_Entry) (n : Int) : flatF (f :: l) n = putF f n ++ flatF l n := by unfold flatF; rw [List.map_cons, List.flatten_cons]
structure RightF (f : api_Entry) (n : Int) : Prop where
  lo : 0 ≤ f.Addr
  hi : f.Addr < n
  text : f.Text.all ltr = true

theorem flatF_head {l : List api_Entry} {n : Int} (h : ∀ f ∈ l, RightF f n) : cntL (flatF l n) = 0 := by
  cases l with
  | nil => rfl
  | cons f l =>
    have r := h f (by simp)
    have := r.lo
    rw [flatF_cons]
    unfold putF
    rw [if_neg (by omega), List.cons_append, List.cons_append, cntL_cons, if_neg (by decide)]

theorem takeWhile_app {t s : List Int} (h : t.all ltr = true) (hs : cntL s = 0) : (t ++ s).takeWhile ltr = t := by
  rw [← takeL, cntL_app h hs, List.take_left']
  rfl

theorem fd_flat {n : Int} (n1 : 1 ≤ n) (n2 : n ≤ 16383) : ∀ (l : List api_Entry), (∀ f ∈ l, RightF f n) → fd n (flatF l n) = (l, (flatF l n).length, .nil) := by
  intro l
  induction l with
  | nil => intro _; rfl
  | cons f l ih =>
    intro h
    have r := h f (by simp)
    have hlo := r.lo
    have hl : ∀ f ∈ l, RightF f n := fun g hg => h g (by simp [hg])
    have e : flatF (f :: l) n = 17 :: (putOf f.Addr n ++ (f.Text ++ flatF l n)) := by
      rw [flatF_cons]
      unfold putF
      rw [if_neg (by omega)]
      simp
    have d : (putOf f.Addr n ++ (f.Text ++ flatF l n)).drop 2 = f.Text ++ flatF l n := by
      rw [List.drop_left' (put_len _ _)]
    rw [e, fd_cons, if_pos rfl, get_put n1 n2 hlo r.hi, if_pos rfl, d, cntL_app r.text (flatF_head hl), List.drop_left' rfl, takeWhile_app r.text (flatF_head hl), ih hl]
    simp only [List.length_cons, List.length_append, put_len]
    congr 2
    omega

theorem fd_got {n : Int} (n1 : 1 ≤ n) (n2 : n ≤ 16383) : ∀ (m : Nat) (s : List Int), s.length ≤ m → (∀ y ∈ s, Wf .u8 y) → (fd n s).2.2 = .nil →
    flatF (fd n s).1 n = s ∧ (∀ f ∈ (fd n s).1, RightF f n) ∧ 3 * (fd n s).1.length ≤ s.length := by
  intro m
  induction m with
  | zero =>
    intro s hs _ _
    have : s = [] := List.eq_nil_of_length_eq_zero (by omega)
    subst this
    exact ⟨rfl, by simp [fd_nil], by simp [fd_nil]⟩
  | succ m ih =>
    intro s hs w h
    cases s with
    | nil => exact ⟨rfl, by simp [fd_nil], by simp [fd_nil]⟩
    | cons x r =>
      rw [fd_cons] at h ⊢
      by_cases hx : x = 17
      · rw [if_pos hx] at h ⊢
        by_cases hg : (getOf r n).2 = .nil
        · rw [if_pos hg] at h ⊢
          simp only [List.length_cons] at h hs ⊢
          have wr : ∀ y ∈ r, Wf .u8 y := fun y hy => w y (by simp [hy])
          obtain ⟨g1, g2, g3, g4⟩ := putOf_get wr n1 n2 hg
          have wd : ∀ y ∈ (r.drop 2).drop (cntL (r.drop 2)), Wf .u8 y := fun y hy => wr y (List.mem_of_mem_drop (List.mem_of_mem_drop hy))
          have hle : ((r.drop 2).drop (cntL (r.drop 2))).length ≤ r.length - 2 := by rw [List.length_drop, List.length_drop]; omega
          obtain ⟨i1, i2, i3⟩ := ih _ (by omega) wd h
          refine ⟨?_, ?_, ?_⟩
          · rw [flatF_cons, i1]
            unfold putF
            simp only
            rw [if_neg (by omega), g4, hx, ← takeL]
            rw [List.cons_append, List.cons_append, List.append_assoc, List.take_append_drop, List.take_append_drop]
          · intro f hf
            rcases List.mem_cons.1 hf with rfl | hf
            · exact ⟨g2, g3, allL _⟩
            · exact i2 f hf
          · omega
        · rw [if_neg hg] at h; exact absurd h hg
      · rw [if_neg hx] at h; simp at h
end Go.Proofs.YtfbcjibdgicaoaaGreatDoor.Sx

