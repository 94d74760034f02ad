import Derived.Test.YtjkbhpokboolpaaGreatDoorV6
namespace Go.Proofs.YtjkbhpokboolpaaGreatDoor.Sx
open Go
def tRaw (n : Nat) : Ty (List Value) where
  size := n
  rep _ _ cs x := cs = x ∧ x.length = n ∧ ∀ v ∈ x, v.oneCell' = true
  len := by rintro _ _ _ _ ⟨rfl, l, _⟩; exact l
  one := by rintro _ _ _ _ ⟨rfl, _, o⟩; exact o
  up := fun _ r => r
def rA {α : Type} (T : Ty α) (raws : List (List Value)) (l : List α) : Rs :=
  ⟨No, fun _ I h => raws.length = l.length ∧ ∀ i (h1 : i < raws.length) (h2 : i < l.length), T.rep I h raws[i] l[i], fun u _ _ e => ⟨e.1, fun i a b => T.up u (e.2 i a b)⟩, fun _ e => e, true, fun _ _ _ _ _ e => e⟩
section
variable {α : Type} {T : Ty α} {E : En} {L L' : List Rs} {I : Gh} {h : Heap} {a : Option Addr} {c n : Nat} {raws : List (List Value)} {l : List α} {cs : List Value} {x : α} {k : Cl}
end
end Go.Proofs.YtjkbhpokboolpaaGreatDoor.Sx
