/- Package frame: FrameSeals. -/
import Derived.Test.YtooaghempnlclaaDoorFAa
import Derived.Test.YtooaghempnlclaaDoorGE
namespace Go.Proofs.YtooaghempnlclaaDoor.Sx
open Go
set_option maxRecDepth 100000

theorem code_no (n : Int) : api_Code.m (.no n) = some n := rfl
theorem FrameSeals_true (x0 : (List Int)) (x1 : api_Frame) (w0 : ∀ y ∈ x0, Wf .u8 y) (_ : x0.length ≤ maxLen) (k1 : ok_api_Frame x1) : shutterlaw19_FrameSeals.m KK x0 x1 = some true := by
  obtain ⟨_, _, w1, _⟩ := k1
  unfold shutterlaw19_FrameSeals.m
  rw [awake19, Option.bind_some, cond_true]
  by_cases h0 : (x0.length : Int) > 200
  · rw [if_pos h0, Option.bind_some]
  · rw [if_neg h0]
    by_cases h1 : (x1.Body.length : Int) > 1000
    · rw [if_pos h1, Option.bind_some]
    · rw [if_neg h1, seal_eq (by omega) w0 w1, Option.bind_some, wrong_eq, Option.bind_some]
      unfold wrongOf sealF
      by_cases ok : okF x1
      · rw [if_pos ok, if_pos ok]
        by_cases hb : x1.Body.length > 486
        · rw [if_pos hb, if_pos hb, if_neg (by omega)]
          simp only
          rw [code_no, Option.bind_some, if_pos rfl]; rfl
        · rw [if_neg hb, if_neg hb, if_pos rfl]
          simp only
          rw [if_pos trivial, sealref_eq (by omega) w0 w1 ok (by omega), Option.bind_some, same_eq (by have := (sealT_ok w0 w1).1; omega), Option.bind_some, beq_self_eq_true]
      · rw [if_neg ok, if_neg ok, if_neg (by omega)]
        simp only
        rw [code_no, Option.bind_some, if_pos rfl]; rfl
end Go.Proofs.YtooaghempnlclaaDoor.Sx
