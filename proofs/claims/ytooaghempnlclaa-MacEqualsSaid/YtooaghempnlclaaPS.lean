/- Package 02: bytes compared. -/
import Derived.Test.YtooaghempnlclaaPRa
namespace Go.Proofs.Ytooaghempnlclaa.Sx
open Go

theorem MacEquals_true (x0 : (List Int)) (x1 : (List Int)) (w0 : ∀ y ∈ x0, Wf .u8 y) (_ : x0.length ≤ maxLen) (w1 : ∀ y ∈ x1, Wf .u8 y) (_ : x1.length ≤ maxLen) : shutterlaw02_MacEquals.m KK x0 x1 = some true := by
  unfold shutterlaw02_MacEquals.m
  rw [awake_eq, Option.bind_some, cond_true]
  by_cases h0 : (x0.length : Int) > 300
  · rw [if_pos h0, Option.bind_some]
  · rw [if_neg h0]
    by_cases h1 : (x1.length : Int) > 300
    · rw [if_pos h1, Option.bind_some]
    · rw [if_neg h1, equal_eq (by omega) w0 w1, Option.bind_some, same_eq (by omega), Option.bind_some, equal_eq (by omega) w0 w0, Option.bind_some]
      simp
end Go.Proofs.Ytooaghempnlclaa.Sx
