import Derived.Test.YtjkbhpokboolpaaGreatDoorPF
namespace Go.Proofs.YtjkbhpokboolpaaGreatDoor.Sx
open Go
theorem at_cons {α : Type} [Inhabited α] {l : List α} {i : Int} (h0 : 0 ≤ i) (h1 : i < (l.length : Int)) : l.drop i.toNat = at_ l i :: l.drop (i + 1).toNat := by
  have hi : i.toNat < l.length := by omega
  rw [List.drop_eq_getElem_cons hi, at_eq (hi := hi)]
  congr 2; omega
theorem at_in {α : Type} [Inhabited α] {l : List α} {i : Int} (h0 : 0 ≤ i) (h1 : i < (l.length : Int)) : at_ l i ∈ l := by
  rw [at_eq (hi := by omega)]; exact List.getElem_mem _
def numW (w : api_Wcc) : Int := b2i w.Alarm 4 + b2i w.Unlock 2 + b2i w.Reset 1
def putW (w : api_Wcc) : Int := tab (numW w)
def zW : api_Wcc := ⟨false, false, false⟩
def knownC (c : Int) : Bool := c == 241 || c == 245 || c == 111 || c == 242 || c == 246
def writesC (c : Int) : Bool := c == 241 || c == 245
def ordW (n : Int) : Bool → Int → List api_Order → Option (Int × Int)
  | _, _, [] => none
  | pv, i, o :: l => if wrongOf o n ≠ 0 then some (i, wrongOf o n) else if pv && (o.Kind == 1) then some (i, 1) else ordW n (o.Kind == 1) (i + 1) l
def flatO (l : List api_Order) (n : Int) : List Int := (l.map (fun o => putO o n)).flatten
def tot (l : List api_Order) : Nat := (l.map (fun o => o.Text.length + 4)).sum
def prevT (l : List api_Order) (i : Int) : Bool := decide (0 < i) && ((at_ l (i - 1)).Kind == 1)
def zOut : api_Out := ⟨0, zW, []⟩
def writeOf (o : api_Out) (n : Int) : List Int × GoErr :=
  if knownC o.Cmd then
    if writesC o.Cmd then
      match ordW n false 0 o.Orders with
      | some (j, c) => ([], .spot j (.no c))
      | none => if 2 + (flatO o.Orders n).length > 8192 then ([], .no 6) else (o.Cmd :: putW o.Wcc :: flatO o.Orders n, .nil)
    else if o.Wcc = zW ∧ o.Orders = [] then ([o.Cmd], .nil) else ([], .no 1)
  else ([], .no 5)
structure FewO (o : api_Out) : Prop where
  n : o.Orders.length ≤ 1000
  t : ∀ x ∈ o.Orders, x.Text.length ≤ 9000
  s : tot o.Orders ≤ 600000
theorem FewO.tot {o : api_Out} (f : FewO o) : tot o.Orders ≤ 600000 := f.s
end Go.Proofs.YtjkbhpokboolpaaGreatDoor.Sx
