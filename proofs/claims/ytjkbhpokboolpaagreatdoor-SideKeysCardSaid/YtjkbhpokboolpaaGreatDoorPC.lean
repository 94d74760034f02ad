import Derived.Test.YtjkbhpokboolpaaGreatDoorPB
import Derived.Test.YtjkbhpokboolpaaGreatDoorGE
namespace Go.Proofs.YtjkbhpokboolpaaGreatDoor.Sx
open Go
def b2i (b : Bool) (n : Int) : Int := if b then n else 0
def numA (a : api_Attr) : Int := b2i a.Protected 32 + b2i a.Numeric 16 + 4 * a.Show + b2i a.Modified 1
def putA (a : api_Attr) : Int := tab (numA a)
def zAt : api_Attr := ⟨false, false, 0, false⟩
def okA (a : api_Attr) : Bool := decide (0 ≤ a.Show) && decide (a.Show ≤ 3)
def addrW (a n : Int) : Int := if a < 0 ∨ a ≥ n then 4 else 0
def wrongOf (o : api_Order) (n : Int) : Int :=
  if o.Kind < 1 ∨ o.Kind > 7 then 5
  else if (decide (o.Kind = 1) != decide (o.Text ≠ [])) || !o.Text.all chr then 1
  else if (if o.Kind = 2 then !okA o.Attr else o.Attr != zAt) then 1
  else if (if o.Kind = 6 then !chr o.Char else o.Char != 0) then 1
  else if o.Kind = 3 ∨ o.Kind = 6 ∨ o.Kind = 7 then addrW o.Addr n
  else if o.Addr = 0 then 0 else 1
def errOf (k : Int) : GoErr := if k = 0 then .nil else .no k
end Go.Proofs.YtjkbhpokboolpaaGreatDoor.Sx

namespace Go.Proofs.YtjkbhpokboolpaaGreatDoor.Sx
open Go
def zO : api_Order := ⟨0, [], ⟨false, false, 0, false⟩, 0, 0⟩
def putO (o : api_Order) (n : Int) : List Int :=
  if o.Kind = 1 then o.Text else if o.Kind = 2 then [29, putA o.Attr] else if o.Kind = 4 then [19] else if o.Kind = 5 then [5]
  else if o.Kind = 3 then 17 :: putOf o.Addr n else if o.Kind = 7 then 18 :: putOf o.Addr n else 60 :: (putOf o.Addr n ++ [o.Char])
theorem app_ok {α : Type} {l m : List α} (h : l.length + m.length ≤ 1000000) : app l m = some (l ++ m) := by unfold app Lim; rw [if_pos (by omega)]
end Go.Proofs.YtjkbhpokboolpaaGreatDoor.Sx

namespace Go.Proofs.YtjkbhpokboolpaaGreatDoor.Sx
open Go
def kindOf (b : Int) : Int := if b = 29 then 2 else if b = 17 then 3 else if b = 19 then 4 else if b = 5 then 5 else if b = 60 then 6 else if b = 18 then 7 else 0
def curOf (b : List Int) (g : api_Order × Int × GoErr) : bytes_Cursor := ⟨b, g.2.1, if g.2.2 = .nil then .nil else .spot g.2.1 g.2.2⟩
def whereO (g : api_Order × Int × GoErr) : Int := if g.2.2 = .nil then -1 else g.2.1
end Go.Proofs.YtjkbhpokboolpaaGreatDoor.Sx

namespace Go.Proofs.YtjkbhpokboolpaaGreatDoor.Sx
open Go
theorem drop_nil {b : List Int} {p : Int} (h : p = (b.length : Int)) : b.drop p.toNat = [] := List.drop_eq_nil_of_le (by omega)
end Go.Proofs.YtjkbhpokboolpaaGreatDoor.Sx
