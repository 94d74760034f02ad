import Derived.Test.YtjkbhpokboolpaaGreatDoorPA
namespace Go.Proofs.YtjkbhpokboolpaaGreatDoor.Sx
open Go
def failC (c : bytes_Cursor) (e : GoErr) : bytes_Cursor := if c.err' = .nil ∧ e ≠ .nil then ⟨c.b', c.at', .spot c.at' e⟩ else c
def takeC (c : bytes_Cursor) (n : Int) : List Int × bytes_Cursor :=
  if n < 0 ∨ n > (c.b'.length : Int) - c.at' then ([], failC c (.no 2))
  else if c.err' = .nil then (sub c.b' c.at' (c.at' + n), ⟨c.b', c.at' + n, .nil⟩) else ([], c)
def chr (b : Int) : Bool := b == 0 || b == 28 || b == 30 || (decide (b ≥ 64) && b != 255)
theorem char_eq (b : Int) : attr_Char.m b = some (chr b) := by
  unfold attr_Char.m chr
  by_cases h1 : b = 0
  · simp [h1]
  · by_cases h2 : b = 28
    · simp [h2]
    · by_cases h3 : b = 30
      · simp [h3]
      · by_cases h4 : b ≥ 64 <;> simp [h1, h2, h3, h4]
def cnt (l : List Int) : Nat := (l.takeWhile chr).length
theorem drop_at {l : List Int} {i : Int} (h0 : 0 ≤ i) (h1 : i < (l.length : Int)) : l.drop i.toNat = at_ l i :: l.drop (i + 1).toNat := by
  have hi : i.toNat < l.length := by omega
  rw [List.drop_eq_getElem_cons hi, at_eq (hi := hi)]
  congr 2
  omega
def charsC (c : bytes_Cursor) : List Int × bytes_Cursor :=
  if c.err' = .nil then (sub c.b' c.at' (c.at' + cnt (c.b'.drop c.at'.toNat)), ⟨c.b', c.at' + cnt (c.b'.drop c.at'.toNat), .nil⟩) else ([], c)
theorem sub_end {l : List Int} {i : Int} : sub l i (l.length : Int) = l.drop i.toNat := by
  unfold sub
  rw [List.take_of_length_le (by rw [List.length_drop]; omega)]
def addrC (c : bytes_Cursor) (n : Int) : Int × bytes_Cursor :=
  if c.err' = .nil then
    (if (getOf (c.b'.drop c.at'.toNat) n).2 = .nil then ((getOf (c.b'.drop c.at'.toNat) n).1, ⟨c.b', c.at' + 2, .nil⟩) else (0, ⟨c.b', c.at', .spot c.at' (getOf (c.b'.drop c.at'.toNat) n).2⟩))
  else (0, c)
theorem same_eq {a b : List Int} (ha : a.length ≤ 100000) : shutterref01_Same.m KK a b = some (a == b) := by
  unfold shutterref01_Same.m
  by_cases hl : (a.length : Int) = (b.length : Int)
  · rw [if_pos hl]
    have step : ∀ (k : Nat) (i : Int), 0 ≤ i → i ≤ (a.length : Int) → (a.length : Int) - i < k →
        shutterref01_Same.l1.m KK a b k i = some (if a.drop i.toNat = b.drop i.toNat then .inr () else .inl false) := by
      intro k
      induction k with
      | zero => intro i h0 h1 h2; omega
      | succ k ih =>
        intro i h0 h1 h2
        rw [shutterref01_Same.l1.m]
        by_cases h3 : i < (a.length : Int)
        · rw [if_pos h3, if_pos h0, if_pos (by omega), drop_at h0 h3, drop_at (l := b) h0 (by omega)]
          by_cases he : at_ a i = at_ b i
          · rw [if_pos he, w64_id (n := i + 1) (by omega) (by omega), ih (i + 1) (by omega) (by omega) (by omega), he]
            simp only [List.cons.injEq, true_and]
          · rw [if_neg he, if_neg (by simp [he])]
        · rw [if_neg h3, if_pos]
          rw [List.drop_eq_nil_of_le (by omega), List.drop_eq_nil_of_le (by omega)]
    rw [step KK 0 (by omega) (by omega) (by unfold KK; omega), Option.bind_some]
    simp only [Int.toNat_zero, List.drop_zero]
    by_cases h : a = b
    · rw [if_pos h]; simp [h]
    · rw [if_neg h]; simp [h]
  · rw [if_neg hl]
    have : a ≠ b := fun e => hl (by rw [e])
    simp [this]
def Inv (e : GoErr) (code wh : Int) : Prop := (e = .nil ∧ code = 0 ∧ wh = -1) ∨ (∃ a k, e = .spot a k ∧ codeOf k = code ∧ code ≠ 0 ∧ wh = a)
end Go.Proofs.YtjkbhpokboolpaaGreatDoor.Sx
