import Derived.Test.YtjkbhpokboolpaaGreatDoorCards
import Derived.Test.YtjkbhpokboolpaaGreatDoorTie
import Derived.Test.YtjkbhpokboolpaaGreatDoorSx7
import Derived.Test.YtjkbhpokboolpaaGreatDoorSxR
import Derived.WalkKit
import Derived.ProofKit
import Derived.LaidHandle
import Derived.Deep.DeepHandedRow
namespace Go.Proofs.YtjkbhpokboolpaaGreatDoor.Sx
open Go Go.ChangeShapes Go.WideShapes Go.RowKit
theorem own : ownKnob Tryz.prog.godebug = none := by kernel_rfl
theorem laidOut : laidOutB Tryz.prog = true := by kernel_rfl
theorem rowedMaps : mapsRowed Tryz.prog = true := by kernel_rfl
theorem slicesPos : (List.range Tryz.prog.types.size).all (fun t => match Tryz.prog.underlying t with | some (.slice e) => Nat.blt 0 (Tryz.prog.cellsOf e) | _ => true) = true := by kernel_rfl
theorem etNo : Tryz.prog.globalNamed "errors.errorType" = some 0 := by kernel_rfl
theorem rtNo : (Tryz.prog.cutTypes.find? (fun x => x.1 == "internal/reflectlite.rtype")).map (fun x => x.2) = some 289 := by kernel_rfl
theorem oneRow : ((List.range Tryz.prog.types.size).filter fun t => Tryz.prog.rowNamed t [101, 114, 114, 111, 114]) = [36] := by kernel_rfl
theorem glob_of {W : World} (h : laidMetH Tryz.prog [("errors.errorType", Rows.laid_errors_errorType)] W) : Glob (I0 W) W.heap := by
  have h' : laidMet Tryz.prog [] W ∧ handlesMet Tryz.prog [("errors.errorType", Rows.laid_errors_errorType)] W := h
  obtain ⟨name, u, ty, e1, e2, e3, e4, e5⟩ := h'.2 _ (List.mem_singleton.2 rfl)
  have en : name = [101, 114, 114, 111, 114] := (Option.some.inj e1).symm
  subst en
  obtain rfl := Option.some.inj (rtNo.symm.trans e2)
  have hm : ty ∈ (List.range Tryz.prog.types.size).filter fun t => Tryz.prog.rowNamed t [101, 114, 114, 111, 114] := List.mem_filter.2 ⟨List.mem_range.2 e3, e4⟩
  rw [oneRow] at hm
  obtain rfl := List.mem_singleton.1 hm
  have hh : typeHandle Tryz.prog 36 = .pointer (some ⟨1, 36, none⟩) := by kernel_rfl
  rw [hh] at e5
  have hc : W.cell? ⟨0, 0, none⟩ = some (.iface 289 (.agg #[.pointer (some ⟨1, 36, none⟩)])) := by simpa using World.var?_cell etNo e5 0
  have h0 : cellAt W.heap (some ⟨0, 0, none⟩) 0 = some (.iface 289 (.agg #[.pointer (some ⟨1, 36, none⟩)])) := by
    unfold World.cell? at hc
    unfold cellAt
    simp only at hc ⊢
    split at hc <;> rename_i heq
    · rw [heq]; simpa using hc
    · cases hc
  refine ⟨?_, h0⟩
  unfold cellAt at h0
  simp only at h0
  split at h0 <;> rename_i heq
  · exact lt_of_some heq
  · cases h0
noncomputable def laidWorld (os : Os) : World :=
  { World.holding Tryz.prog os ⟨#[], #[], []⟩ with heap := (World.holding Tryz.prog os ⟨#[], #[], []⟩).heap.modify 0 fun
      | .cells _ t frozen => .cells #[.iface 289 (.agg #[.pointer (some ⟨1, 36, none⟩)])] t frozen
      | o => o }
theorem laidWorld_met (os : Os) (args : Array Value) : laidMetH Tryz.prog [("errors.errorType", Rows.laid_errors_errorType)] ((laidWorld os).forCall (fun _ _ => 0) ⟨#[], args, []⟩).memory :=
  laidMetH_of_parts (laidMet_nil _ _) (by kernel_rfl)
end Go.Proofs.YtjkbhpokboolpaaGreatDoor.Sx
