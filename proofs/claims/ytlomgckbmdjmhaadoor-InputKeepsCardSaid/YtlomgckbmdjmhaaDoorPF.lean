/- Plain facts: what order.Put writes, order.Get reads as it was; what it reads, order.Put writes as it stood. -/
import Derived.Test.YtlomgckbmdjmhaaDoorPE
namespace Go.Proofs.YtlomgckbmdjmhaaDoor.Sx
open Go

theorem take_cnt (l : List Int) : l.take (cnt l) = l.takeWhile chr := by
  unfold cnt
  induction l with
  | nil => rfl
  | cons x l ih =>
    rw [List.takeWhile_cons]
    split
    · rw [List.length_cons, List.take_succ_cons, ih]
    · rfl
theorem sub_take {b : List Int} {p : Int} {k : Nat} (h0 : 0 ≤ p) : sub b p (p + (k : Int)) = (b.drop p.toNat).take k := by
  unfold sub
  congr 1; omega
theorem drop_nil {b : List Int} {p : Int} (h : p = (b.length : Int)) : b.drop p.toNat = [] := List.drop_eq_nil_of_le (by omega)
theorem drop3 {b : List Int} {p : Int} (h0 : 0 ≤ p) : (b.drop (p + 1).toNat).drop 2 = b.drop (p + 3).toNat := by rw [List.drop_drop]; congr 1; omega

theorem getOf_take {l : List Int} {n : Int} (h : 2 ≤ l.length) : getOf (l.take 2) n = getOf l n := by
  match l, h with
  | a :: b :: r, _ =>
    unfold getOf
    simp only [List.take_succ_cons, List.take_zero, List.length_cons, List.length_nil, show at_ (a :: b :: r) 0 = a from rfl, show at_ (a :: b :: r) 1 = b from rfl, show at_ [a, b] 0 = a from rfl, show at_ [a, b] 1 = b from rfl]
    rw [if_neg (show ¬ (((0 + 1 + 1 : Nat) : Int) < 2) by omega), if_neg (show ¬ (((r.length + 1 + 1 : Nat) : Int) < 2) by omega)]
theorem putOf_get {l : List Int} {n : Int} (w : ∀ y ∈ l, Wf .u8 y) (n1 : 1 ≤ n) (n2 : n ≤ 16383) (h : (getOf l n).2 = .nil) : 2 ≤ l.length ∧ 0 ≤ (getOf l n).1 ∧ (getOf l n).1 < n ∧ putOf (getOf l n).1 n = l.take 2 := by
  have hl := getOf_good h
  have hl2 : 2 ≤ l.length := by omega
  refine ⟨hl2, ?_⟩
  rcases put_get (l := l.take 2) (by simp; omega) (fun y hy => w y (List.mem_of_mem_take hy)) n1 n2 with ⟨_, e2, e3, e4⟩ | ⟨e1, _⟩
  · rw [getOf_take hl2] at e2 e3 e4
    exact ⟨e2, e3, e4⟩
  · rw [getOf_take hl2] at e1
    exact absurd h e1

theorem all_takeWhile (l : List Int) : (l.takeWhile chr).all chr = true := by
  induction l with
  | nil => rfl
  | cons x l ih =>
    rw [List.takeWhile_cons]
    split
    · rename_i h; simp [h, ih]
    · rfl
theorem cnt_drop (l : List Int) : cnt (l.drop (cnt l)) = 0 := by
  induction l with
  | nil => rfl
  | cons x l ih =>
    rw [cnt_cons]
    split
    · exact ih
    · rename_i h; rw [List.drop_zero, cnt_cons, if_neg h]

end Go.Proofs.YtlomgckbmdjmhaaDoor.Sx

