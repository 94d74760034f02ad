/- Plain facts: submissions: alike just if their bytes are; places of errors; lengths. -/
import Derived.Test.YtfbcjibdgicaoaaGreatDoorPN
namespace Go.Proofs.YtfbcjibdgicaoaaGreatDoor.Sx
open Go

theorem writeI_inj {o p : api_In} {n : Int} (n1 : 1 ≤ n) (n2 : n ≤ 16383) (h : (writeI o n).2 = .nil) (g : (writeI p n).2 = .nil) : ((writeI o n).1 == (writeI p n).1) = (o == p) := by
  have a := readI_write n1 n2 h
  have b := readI_write n1 n2 g
  by_cases e : (writeI o n).1 = (writeI p n).1
  · rw [e, b] at a
    simp only [Prod.mk.injEq, and_true] at a
    rw [e, a]; simp
  · have : o ≠ p := fun q => e (by rw [q])
    have h1 : ((writeI o n).1 == (writeI p n).1) = false := by simpa using e
    have h2 : (o == p) = false := by simpa using this
    rw [h1, h2]

theorem fd_place {n : Int} : ∀ (m : Nat) (s : List Int), s.length ≤ m → (fd n s).2.1 ≤ s.length := by
  intro m
  induction m with
  | zero =>
    intro s hs
    have : s = [] := List.eq_nil_of_length_eq_zero (by omega)
    subst this
    simp [fd_nil]
  | succ m ih =>
    intro s hs
    cases s with
    | nil => simp [fd_nil]
    | cons x r =>
      rw [fd_cons]
      simp only [List.length_cons] at hs ⊢
      by_cases hx : x = 17
      · rw [if_pos hx]
        by_cases hg : (getOf r n).2 = .nil
        · rw [if_pos hg]
          have h2 := getOf_good hg
          have i := ih ((r.drop 2).drop (cntL (r.drop 2))) (by rw [List.length_drop, List.length_drop]; omega)
          have c := cntL_le (r.drop 2)
          rw [List.length_drop, List.length_drop] at i
          rw [List.length_drop] at c
          simp only
          omega
        · rw [if_neg hg]; simp
      · rw [if_neg hx]; simp

theorem readI_where {b : List Int} {n : Int} (h : (readI b n).2 ≠ .nil) : ∃ a k, (readI b n).2 = .spot a k ∧ 0 ≤ a ∧ a ≤ (b.length : Int) := by
  have fin : ∀ {a : Int} {k : GoErr}, 0 ≤ a → a ≤ (b.length : Int) → ∃ a' k', GoErr.spot a k = .spot a' k' ∧ 0 ≤ a' ∧ a' ≤ (b.length : Int) := fun h1 h2 => ⟨_, _, rfl, h1, h2⟩
  revert h
  unfold readI
  split
  · intro _; exact fin (by omega) (by omega)
  cases b with
  | nil => intro _; exact fin (by omega) (by simp)
  | cons c r =>
    simp only
    split
    · split
      · split
        · intro h; exact absurd rfl h
        · intro _; exact fin (by omega) (by simp only [List.length_cons]; omega)
      · split
        · rename_i hg
          have h2 := getOf_good hg
          split
          · split
            · intro h; exact absurd rfl h
            · intro _
              have := fd_place (n := n) (r.drop 2).length (r.drop 2) (Nat.le_refl _)
              rw [List.length_drop] at this
              exact fin (by omega) (by simp only [List.length_cons]; omega)
          · split
            · rename_i hk
              intro _
              rw [List.length_drop] at hk
              exact fin (by omega) (by simp only [List.length_cons]; omega)
            · intro h; exact absurd rfl h
        · intro _; exact fin (by omega) (by simp only [List.length_cons]; omega)
    · intro _; exact fin (by omega) (by simp only [List.length_cons]; omega)

theorem putF_len (f : api_Entry) (n : Int) : (putF f n).length = f.Text.length + if f.Addr = -1 then 0 else 3 := by
  unfold putF
  split
  · simp
  · simp only [List.length_append, List.length_cons, put_len]; omega
theorem flatF_le {n : Int} (l : List api_Entry) (h : ∀ f ∈ l, f.Text.length ≤ 9000) : (flatF l n).length ≤ l.length * 9003 := by
  induction l with
  | nil => simp [flatF]
  | cons f l ih =>
    rw [flatF_cons, List.length_append, putF_len, List.length_cons, Nat.add_mul, Nat.one_mul]
    have := ih (fun g hg => h g (by simp [hg]))
    have := h f (by simp)
    split <;> omega
theorem writeI_len {o : api_In} {n : Int} : (writeI o n).1.length ≤ 8192 := by
  unfold writeI
  split
  · split
    · simp
    · split
      · simp
      · simp only [List.length_cons, List.length_append, put_len]; omega
  · simp
theorem readI_texts {b : List Int} {n : Int} (w : ∀ y ∈ b, Wf .u8 y) (n1 : 1 ≤ n) (n2 : n ≤ 16383) (hb : b.length ≤ 100000) : (readI b n).1.Fields.length ≤ 100000 ∧ ∀ f ∈ (readI b n).1.Fields, f.Text.length ≤ 100000 := by
  have Pz : ∀ e : GoErr, ((zIn, e) : api_In × GoErr).1.Fields.length ≤ 100000 ∧ ∀ f ∈ ((zIn, e) : api_In × GoErr).1.Fields, f.Text.length ≤ 100000 := by intro e; simp [zIn]
  unfold readI
  split
  · exact Pz _
  cases b with
  | nil => exact Pz _
  | cons c r =>
    simp only [List.length_cons] at hb ⊢
    split
    · split
      · split
        · simp
        · exact Pz _
      · split
        · split
          · split
            · rename_i hd
              obtain ⟨g1, _, g3⟩ := fd_got n1 n2 (r.drop 2).length (r.drop 2) (Nat.le_refl _) (fun y hy => w y (List.mem_cons_of_mem _ (List.mem_of_mem_drop hy))) hd
              rw [List.length_drop] at g3
              refine ⟨by simp only; omega, ?_⟩
              have mem : ∀ (l : List api_Entry) (f : api_Entry), f ∈ l → f.Text.length ≤ (flatF l n).length := by
                intro l
                induction l with
                | nil => intro f hf; simp at hf
                | cons g l ih =>
                  intro f hf
                  rw [flatF_cons, List.length_append, putF_len]
                  rcases List.mem_cons.1 hf with rfl | hf
                  · omega
                  · have := ih f hf; omega
              intro f hf
              have := mem _ f hf
              rw [g1, List.length_drop] at this
              omega
            · exact Pz _
          · split
            · exact Pz _
            · simp; omega
        · exact Pz _
    · exact Pz _
end Go.Proofs.YtfbcjibdgicaoaaGreatDoor.Sx

