/- Plain facts: attributes and orders (packages attr, order): what their printed models answer, and the references'. -/
import Derived.Test.YtlomgckbmdjmhaaDoorPB
namespace Go.Proofs.YtlomgckbmdjmhaaDoor.Sx
open Go

/-! ### Attributes -/
def b2i (b : Bool) (n : Int) : Int := if b then n else 0
theorem show4 {x : Int} (h0 : 0 ≤ x) (h1 : x ≤ 3) : x = 0 ∨ x = 1 ∨ x = 2 ∨ x = 3 := by omega
theorem cnt_all {l : List Int} : cnt l < l.length ↔ l.all chr = false := by
  unfold cnt
  induction l with
  | nil => simp
  | cons x l ih =>
    rw [List.takeWhile_cons, List.all_cons]
    cases hc : chr x with
    | false => simp
    | true => simp only [if_true, List.length_cons, Nat.add_lt_add_iff_right, Bool.true_and]; exact ih
/-! ### What is wrong with an order -/
def addrW (a n : Int) : Int := if a < 0 ∨ a ≥ n then 4 else 0
def errOf (k : Int) : GoErr := if k = 0 then .nil else .no k

theorem kinds {k : Int} (h1 : ¬ k < 1) (h2 : ¬ k > 7) : k = 1 ∨ k = 2 ∨ k = 3 ∨ k = 4 ∨ k = 5 ∨ k = 6 ∨ k = 7 := by omega
theorem len_pos {l : List Int} : decide ((l.length : Int) > 0) = decide (l ≠ []) := by
  cases l <;> simp
end Go.Proofs.YtlomgckbmdjmhaaDoor.Sx

