/- Plain facts: orders written and read (package order), and the references'. -/
import Derived.Test.YtlomgckbmdjmhaaDoorPC
import Derived.Test.YtlomgckbmdjmhaaDoorGE
namespace Go.Proofs.YtlomgckbmdjmhaaDoor.Sx
open Go

theorem app_ok {α : Type} {l m : List α} (h : l.length + m.length ≤ 1000000) : app l m = some (l ++ m) := by unfold app Lim; rw [if_pos (by omega)]

set_option maxRecDepth 100000 in
theorem refput3_all : (List.range 64).all (fun k => shutterref03_Put.m (k : Int) == some (tab (k : Int))) = true := by kernel_rfl
theorem refput3 {k : Int} (h0 : 0 ≤ k) (h1 : k < 64) : shutterref03_Put.m k = some (tab k) := by
  have := allN (N := 64) (p := fun k => shutterref03_Put.m k == some (tab k)) refput3_all h0 h1
  simpa using this
theorem codeOf_no (k : Int) : codeOf (.no k) = k := rfl
theorem code_errOf (k : Int) : codeOf (errOf k) = k := by
  unfold errOf; split
  · rename_i h; rw [h]; rfl
  · rfl

end Go.Proofs.YtlomgckbmdjmhaaDoor.Sx

