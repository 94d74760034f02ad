import Derived.Test.YtjkbhpokboolpaaGreatDoorKU
namespace Go.Proofs.YtjkbhpokboolpaaGreatDoor.Sx
open Go
set_option maxRecDepth 100000
set_option maxHeartbeats 4000000
def okD (p : api_Pack) : Prop := (∀ y ∈ p.Data, Wf .u8 y) ∧ (p.Data.length = 64 ∨ (p.Last = true ∧ 1 ≤ p.Data.length ∧ p.Data.length < 64))
def okP (p : api_Pack) : Prop := 1 ≤ p.Num ∧ p.Num ≤ 1000 ∧ okD p
theorem clone_b {l : List Int} (h : l.length ≤ 100000) : slices_Clone_bytes.m l = some l := by
  unfold slices_Clone_bytes.m
  rw [appk (by simp; omega)]; rfl
end Go.Proofs.YtjkbhpokboolpaaGreatDoor.Sx
