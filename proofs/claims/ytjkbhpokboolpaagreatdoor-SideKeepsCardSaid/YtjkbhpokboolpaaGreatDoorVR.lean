import Derived.Test.YtjkbhpokboolpaaGreatDoorV3
import Derived.Test.YtjkbhpokboolpaaGreatDoorSxR
namespace Go.Proofs.YtjkbhpokboolpaaGreatDoor.Sx
open Go
inductive Pl (I : Gh) (h : Heap) : List Rs → Prop where
  | n : Pl I h []
  | c {r : Rs} {L : List Rs} : r.ok No I h → (∀ b, ¬ r.F b) → Pl I h L → Pl I h (r :: L)
theorem Pl.no {I : Gh} {h : Heap} {L : List Rs} (p : Pl I h L) : ∀ b, SF L b → No b := by
  induction p with
  | n => exact fun _ x => x
  | c _ hF _ ih => exact fun b x => x.elim (fun y => absurd y (hF b)) (ih b)
theorem Pl.sep {I : Gh} {h : Heap} {L : List Rs} (p : Pl I h L) : Sep No I h L := by
  induction p with
  | n => trivial
  | c ok hF _ ih => exact ⟨⟨ok, fun b x => absurd x (hF b), fun b x => absurd x (hF b)⟩, ih⟩
theorem Pl.st {I : Gh} {h : Heap} {L : List Rs} (p : Pl I h L) (hB : Bd I h) : St (en L No I h) L I h :=
  ⟨Pst.refl hB, fun _ x => x.elim, fun _ _ x => x, p.sep, fun _ x => .inl x⟩
theorem pl_no : ∀ b, ¬ No b := fun _ x => x
end Go.Proofs.YtjkbhpokboolpaaGreatDoor.Sx
