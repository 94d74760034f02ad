import Derived.Test.YtjkbhpokboolpaaGreatDoorPA
namespace Go.Proofs.YtjkbhpokboolpaaGreatDoor.Sx
open Go
def failC (c : bytes_Cursor) (e : GoErr) : bytes_Cursor := if c.err' = .nil ∧ e ≠ .nil then ⟨c.b', c.at', .spot c.at' e⟩ else c
def takeC (c : bytes_Cursor) (n : Int) : List Int × bytes_Cursor :=
  if n < 0 ∨ n > (c.b'.length : Int) - c.at' then ([], failC c (.no 2))
  else if c.err' = .nil then (sub c.b' c.at' (c.at' + n), ⟨c.b', c.at' + n, .nil⟩) else ([], c)
def chr (b : Int) : Bool := b == 0 || b == 28 || b == 30 || (decide (b ≥ 64) && b != 255)
theorem char_eq (b : Int) : attr_Char.m b = some (chr b) := by
  unfold attr_Char.m chr
  by_cases h1 : b = 0
  · simp [h1]
  · by_cases h2 : b = 28
    · simp [h2]
    · by_cases h3 : b = 30
      · simp [h3]
      · by_cases h4 : b ≥ 64 <;> simp [h1, h2, h3, h4]
def cnt (l : List Int) : Nat := (l.takeWhile chr).length
theorem drop_at {l : List Int} {i : Int} (h0 : 0 ≤ i) (h1 : i < (l.length : Int)) : l.drop i.toNat = at_ l i :: l.drop (i + 1).toNat := by
  have hi : i.toNat < l.length := by omega
  rw [List.drop_eq_getElem_cons hi, at_eq (hi := hi)]
  congr 2
  omega
def charsC (c : bytes_Cursor) : List Int × bytes_Cursor :=
  if c.err' = .nil then (sub c.b' c.at' (c.at' + cnt (c.b'.drop c.at'.toNat)), ⟨c.b', c.at' + cnt (c.b'.drop c.at'.toNat), .nil⟩) else ([], c)
theorem sub_end {l : List Int} {i : Int} : sub l i (l.length : Int) = l.drop i.toNat := by
  unfold sub
  rw [List.take_of_length_le (by rw [List.length_drop]; omega)]
def addrC (c : bytes_Cursor) (n : Int) : Int × bytes_Cursor :=
  if c.err' = .nil then
    (if (getOf (c.b'.drop c.at'.toNat) n).2 = .nil then ((getOf (c.b'.drop c.at'.toNat) n).1, ⟨c.b', c.at' + 2, .nil⟩) else (0, ⟨c.b', c.at', .spot c.at' (getOf (c.b'.drop c.at'.toNat) n).2⟩))
  else (0, c)
def Inv (e : GoErr) (code wh : Int) : Prop := (e = .nil ∧ code = 0 ∧ wh = -1) ∨ (∃ a k, e = .spot a k ∧ codeOf k = code ∧ code ≠ 0 ∧ wh = a)
end Go.Proofs.YtjkbhpokboolpaaGreatDoor.Sx
