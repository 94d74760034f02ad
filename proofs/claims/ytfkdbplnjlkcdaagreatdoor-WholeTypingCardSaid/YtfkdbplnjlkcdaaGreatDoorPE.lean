import Derived.Test.YtfkdbplnjlkcdaaGreatDoorPD
namespace Go.Proofs.YtfkdbplnjlkcdaaGreatDoor.Sx
open Go
def kindOf (b : Int) : Int := if b = 29 then 2 else if b = 17 then 3 else if b = 19 then 4 else if b = 5 then 5 else if b = 60 then 6 else if b = 18 then 7 else 0
def curOf (b : List Int) (g : api_Order × Int × GoErr) : bytes_Cursor := ⟨b, g.2.1, if g.2.2 = .nil then .nil else .spot g.2.1 g.2.2⟩
theorem byte_ok {b : List Int} {p : Int} (k : CurOk ⟨b, p, .nil⟩) (h : p < (b.length : Int)) : bytes_Cursor_Byte.m ⟨b, p, .nil⟩ = some (at_ b p, ⟨b, p + 1, .nil⟩) := by
  have h0 := k.h0
  simp only at h0
  rw [byte_eq k]
  have : takeC ⟨b, p, .nil⟩ 1 = (sub b p (p + 1), ⟨b, p + 1, .nil⟩) := by unfold takeC; rw [if_neg (by simp only; omega), if_pos rfl]
  rw [this, sub1 h0 h]
  rfl
def whereO (g : api_Order × Int × GoErr) : Int := if g.2.2 = .nil then -1 else g.2.1
end Go.Proofs.YtfkdbplnjlkcdaaGreatDoor.Sx

namespace Go.Proofs.YtfkdbplnjlkcdaaGreatDoor.Sx
open Go
theorem drop_nil {b : List Int} {p : Int} (h : p = (b.length : Int)) : b.drop p.toNat = [] := List.drop_eq_nil_of_le (by omega)
theorem getOf_take {l : List Int} {n : Int} (h : 2 ≤ l.length) : getOf (l.take 2) n = getOf l n := by
  match l, h with
  | a :: b :: r, _ =>
    unfold getOf
    simp only [List.take_succ_cons, List.take_zero, List.length_cons, List.length_nil, show at_ (a :: b :: r) 0 = a from rfl, show at_ (a :: b :: r) 1 = b from rfl, show at_ [a, b] 0 = a from rfl, show at_ [a, b] 1 = b from rfl]
    rw [if_neg (show ¬ (((0 + 1 + 1 : Nat) : Int) < 2) by omega), if_neg (show ¬ (((r.length + 1 + 1 : Nat) : Int) < 2) by omega)]
theorem putOf_get {l : List Int} {n : Int} (w : ∀ y ∈ l, Wf .u8 y) (n1 : 1 ≤ n) (n2 : n ≤ 16383) (h : (getOf l n).2 = .nil) : 2 ≤ l.length ∧ 0 ≤ (getOf l n).1 ∧ (getOf l n).1 < n ∧ putOf (getOf l n).1 n = l.take 2 := by
  have hl := getOf_good h
  have hl2 : 2 ≤ l.length := by omega
  refine ⟨hl2, ?_⟩
  rcases put_get (l := l.take 2) (by simp; omega) (fun y hy => w y (List.mem_of_mem_take hy)) n1 n2 with ⟨_, e2, e3, e4⟩ | ⟨e1, _⟩
  · rw [getOf_take hl2] at e2 e3 e4
    exact ⟨e2, e3, e4⟩
  · rw [getOf_take hl2] at e1
    exact absurd h e1
end Go.Proofs.YtfkdbplnjlkcdaaGreatDoor.Sx
