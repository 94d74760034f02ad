/- Plain facts: an order read (order.Get), and the reference's; OrderGets. -/
import Derived.Test.YtlomgckbmdjmhaaDoorPD
namespace Go.Proofs.YtlomgckbmdjmhaaDoor.Sx
open Go

def kindOf (b : Int) : Int := if b = 29 then 2 else if b = 17 then 3 else if b = 19 then 4 else if b = 5 then 5 else if b = 60 then 6 else if b = 18 then 7 else 0
theorem taken_end {b : List Int} {p : Int} (e : GoErr) (h : p = (b.length : Int)) : (takeC (failC ⟨b, p, .nil⟩ (if (b.length : Int) - p = 0 then .no 2 else e)) 1).2 = ⟨b, p, .spot p (.no 2)⟩ := by
  rw [if_pos (by omega)]
  have : failC ⟨b, p, .nil⟩ (.no 2) = ⟨b, p, .spot p (.no 2)⟩ := by unfold failC; rw [if_pos (by simp)]
  rw [this, takeC_set (by simp)]
theorem taken_ok {b : List Int} {p : Int} (h : p < (b.length : Int)) : (takeC (failC ⟨b, p, .nil⟩ (if (b.length : Int) - p = 0 then .no 2 else .nil)) 1).2 = ⟨b, p + 1, .nil⟩ := by
  rw [if_neg (by omega)]
  have : failC ⟨b, p, .nil⟩ .nil = ⟨b, p, .nil⟩ := by unfold failC; rw [if_neg (by simp)]
  rw [this]
  unfold takeC
  rw [if_neg (by simp only; omega), if_pos rfl]
theorem taken_bad {b : List Int} {p : Int} {e : GoErr} (h : p < (b.length : Int)) (he : e ≠ .nil) : (takeC (failC ⟨b, p, .nil⟩ (if (b.length : Int) - p = 0 then .no 2 else e)) 1).2 = ⟨b, p, .spot p e⟩ := by
  rw [if_neg (by omega)]
  have : failC ⟨b, p, .nil⟩ e = ⟨b, p, .spot p e⟩ := by unfold failC; rw [if_pos ⟨rfl, he⟩]
  rw [this, takeC_set (by simp)]

theorem byte_ok {b : List Int} {p : Int} (k : CurOk ⟨b, p, .nil⟩) (h : p < (b.length : Int)) : bytes_Cursor_Byte.m ⟨b, p, .nil⟩ = some (at_ b p, ⟨b, p + 1, .nil⟩) := by
  have h0 := k.h0
  simp only at h0
  rw [byte_eq k]
  have : takeC ⟨b, p, .nil⟩ 1 = (sub b p (p + 1), ⟨b, p + 1, .nil⟩) := by unfold takeC; rw [if_neg (by simp only; omega), if_pos rfl]
  rw [this, sub1 h0 h]
  rfl

theorem cnt_cons (x : Int) (l : List Int) : cnt (x :: l) = if chr x = true then cnt l + 1 else 0 := by
  unfold cnt
  rw [List.takeWhile_cons]
  split <;> rfl
theorem ite_P {α : Type} {P : α → Prop} {c : Prop} [Decidable c] {x y : α} (h1 : P x) (h2 : P y) : P (if c then x else y) := by split <;> assumption
end Go.Proofs.YtlomgckbmdjmhaaDoor.Sx

