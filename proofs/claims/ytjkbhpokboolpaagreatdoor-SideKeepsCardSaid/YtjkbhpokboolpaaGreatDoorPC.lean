import Derived.Test.YtjkbhpokboolpaaGreatDoorPB
namespace Go.Proofs.YtjkbhpokboolpaaGreatDoor.Sx
open Go
def b2i (b : Bool) (n : Int) : Int := if b then n else 0
def numA (a : api_Attr) : Int := b2i a.Protected 32 + b2i a.Numeric 16 + 4 * a.Show + b2i a.Modified 1
def putA (a : api_Attr) : Int := tab (numA a)
def zAt : api_Attr := ⟨false, false, 0, false⟩
def okA (a : api_Attr) : Bool := decide (0 ≤ a.Show) && decide (a.Show ≤ 3)
def addrW (a n : Int) : Int := if a < 0 ∨ a ≥ n then 4 else 0
def wrongOf (o : api_Order) (n : Int) : Int :=
  if o.Kind < 1 ∨ o.Kind > 7 then 5
  else if (decide (o.Kind = 1) != decide (o.Text ≠ [])) || !o.Text.all chr then 1
  else if (if o.Kind = 2 then !okA o.Attr else o.Attr != zAt) then 1
  else if (if o.Kind = 6 then !chr o.Char else o.Char != 0) then 1
  else if o.Kind = 3 ∨ o.Kind = 6 ∨ o.Kind = 7 then addrW o.Addr n
  else if o.Addr = 0 then 0 else 1
def errOf (k : Int) : GoErr := if k = 0 then .nil else .no k
end Go.Proofs.YtjkbhpokboolpaaGreatDoor.Sx
