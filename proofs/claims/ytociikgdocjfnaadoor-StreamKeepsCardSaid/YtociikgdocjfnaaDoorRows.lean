/-
  NARROWER THAN 'FOR EVERY INPUT', by the rows' own cells (each row's printed sentence says how): OrderPuts: laid · OrderGets: laid · StreamBack: laid · StreamKeeps: laid · StreamLengths: laid · StreamWrites: laid · StreamReads: laid · StreamAgain: laid.
  DERIVED. THE GIVEN ROWS OF THIS SEAT. 8 by the template 'for every input the law returns true; each argument reads behind the call as it read before'; 0 by the template 'total and deterministic' (their statements: YtociikgdocjfnaaDoorTotals.lean).
  GIVEN WITH THE SEED: the statements are not yours to turn. If you find one false, say at which input.
  Laid BY PROGRAM, IN A SANDBOX (cutbox-rows.mjs): the forced cells as the released guide's own fill.sh prints them over the translation 06768be35bda8537… (all of the seat's roots in one cut). By AI agents, Wed Nov 11 2026. No macro, syntax, notation, axiom, sorry.
-/
import Derived.Test.YtociikgdocjfnaaDoorChecked
import GoSem.Claim
import GoSem.ClaimJoined
import GoSem.ClaimMapViews
import Derived.JoinedTies
import Derived.KernelRfl
namespace Go.Proofs.YtociikgdocjfnaaDoor
/- THE CELL 'sum', in the pinned program and in every row, IS THE sha256 OF THE DUMP (.gsa) THAT YtociikgdocjfnaaDoorProg.lean LOADS. Nothing in Lean hashes anything: it is a label: what it is worth is what the hold of that sum in a sandbox is worth. -/
noncomputable def Tryd.pinned : Pinned := { name := "ytociikgdocjfnaadoor", sum := "06768be35bda85375ed24a87dd9c2d1f205714a4f20d7927610bc575184e7e6b", checked := Tryd.checked }
namespace Rows
def none {H : Type} : Left H := { results := [], args := [] }

/- WHAT THE LISTED PACKAGE-LEVEL VARIABLES READ AS WHEN THE CALL BEGINS. Each datum BY PROGRAM (the guide's laid-datum.mjs) off the statement by which the dump's own 'gosem.cut.vars' lays the variable. In a bare row this is a premise. The card (YtociikgdocjfnaaDoorCards.lean) ties it to the program's text. -/
def laid_errors_errorType {H : Type} : DataW H := .iface "internal/reflectlite.rtype" (.agg [.ptr (.lit (.string [101, 114, 114, 111, 114]))])

/-- 'shutterlaw07.OrderPuts': WHATEVER THE INPUT: true; the input reads as it did. -/
def orderPutsSpec : ChangeSpec := { name := "orderPuts", fn := fun _ => fun
  | [d1, d2] => { results := [.lit (.bool true)], args := [d1, d2] }
  | _ => none }
def orderPutsRow : OpenClaim := { program := "ytociikgdocjfnaadoor", sum := "06768be35bda85375ed24a87dd9c2d1f205714a4f20d7927610bc575184e7e6b", func := "shutter/shutterlaw07.OrderPuts", spec := "orderPuts", inPlace := ["internal/reflectlite.ValueOf", "(internal/reflectlite.Value).Type", "(internal/reflectlite.Value).IsNil", "internal/reflectlite.TypeOf", "(internal/reflectlite.Value).Elem", "(internal/reflectlite.Value).Set"], unfollowed := true, recurses := true, named := ["errors.errorType"], apart := false, laid := [("errors.errorType", laid_errors_errorType)] }
def OrderPutsSaid : Prop := orderPutsRow.holds Tryd.pinned (OpenSpec.ofChange orderPutsSpec)

/-- ITS FALSE NEIGHBOUR: 'it returns false'. Refute it at one input. -/
def orderPutsWrong : ChangeSpec := { name := "orderPuts", fn := fun _ => fun
  | [d1, d2] => { results := [.lit (.bool false)], args := [d1, d2] }
  | _ => none }
def OrderPutsWrongFalsely : Prop := orderPutsRow.holds Tryd.pinned (OpenSpec.ofChange orderPutsWrong)

/-- 'shutterlaw07.OrderGets': WHATEVER THE INPUT: true; the input reads as it did. -/
def orderGetsSpec : ChangeSpec := { name := "orderGets", fn := fun _ => fun
  | [d1, d2, d3] => { results := [.lit (.bool true)], args := [d1, d2, d3] }
  | _ => none }
def orderGetsRow : OpenClaim := { program := "ytociikgdocjfnaadoor", sum := "06768be35bda85375ed24a87dd9c2d1f205714a4f20d7927610bc575184e7e6b", func := "shutter/shutterlaw07.OrderGets", spec := "orderGets", inPlace := ["internal/reflectlite.ValueOf", "(internal/reflectlite.Value).Type", "(internal/reflectlite.Value).IsNil", "internal/reflectlite.TypeOf", "(internal/reflectlite.Value).Elem", "(internal/reflectlite.Value).Set"], unfollowed := true, recurses := true, named := ["errors.errorType"], apart := false, laid := [("errors.errorType", laid_errors_errorType)] }
def OrderGetsSaid : Prop := orderGetsRow.holds Tryd.pinned (OpenSpec.ofChange orderGetsSpec)

/-- ITS FALSE NEIGHBOUR: 'it returns false'. Refute it at one input. -/
def orderGetsWrong : ChangeSpec := { name := "orderGets", fn := fun _ => fun
  | [d1, d2, d3] => { results := [.lit (.bool false)], args := [d1, d2, d3] }
  | _ => none }
def OrderGetsWrongFalsely : Prop := orderGetsRow.holds Tryd.pinned (OpenSpec.ofChange orderGetsWrong)

/-- 'shutterlaw08.StreamBack': WHATEVER THE INPUT: true; the input reads as it did. -/
def streamBackSpec : ChangeSpec := { name := "streamBack", fn := fun _ => fun
  | [d1, d2, d3] => { results := [.lit (.bool true)], args := [d1, d2, d3] }
  | _ => none }
def streamBackRow : OpenClaim := { program := "ytociikgdocjfnaadoor", sum := "06768be35bda85375ed24a87dd9c2d1f205714a4f20d7927610bc575184e7e6b", func := "shutter/shutterlaw08.StreamBack", spec := "streamBack", inPlace := ["internal/reflectlite.ValueOf", "(internal/reflectlite.Value).Type", "(internal/reflectlite.Value).IsNil", "internal/reflectlite.TypeOf", "(internal/reflectlite.Value).Elem", "(internal/reflectlite.Value).Set"], unfollowed := true, recurses := true, named := ["errors.errorType"], apart := false, laid := [("errors.errorType", laid_errors_errorType)] }
def StreamBackSaid : Prop := streamBackRow.holds Tryd.pinned (OpenSpec.ofChange streamBackSpec)

/-- ITS FALSE NEIGHBOUR: 'it returns false'. Refute it at one input. -/
def streamBackWrong : ChangeSpec := { name := "streamBack", fn := fun _ => fun
  | [d1, d2, d3] => { results := [.lit (.bool false)], args := [d1, d2, d3] }
  | _ => none }
def StreamBackWrongFalsely : Prop := streamBackRow.holds Tryd.pinned (OpenSpec.ofChange streamBackWrong)

/-- 'shutterlaw08.StreamKeeps': WHATEVER THE INPUT: true; the input reads as it did. -/
def streamKeepsSpec : ChangeSpec := { name := "streamKeeps", fn := fun _ => fun
  | [d] => { results := [.lit (.bool true)], args := [d] }
  | _ => none }
def streamKeepsRow : OpenClaim := { program := "ytociikgdocjfnaadoor", sum := "06768be35bda85375ed24a87dd9c2d1f205714a4f20d7927610bc575184e7e6b", func := "shutter/shutterlaw08.StreamKeeps", spec := "streamKeeps", inPlace := ["internal/reflectlite.ValueOf", "(internal/reflectlite.Value).Type", "(internal/reflectlite.Value).IsNil", "internal/reflectlite.TypeOf", "(internal/reflectlite.Value).Elem", "(internal/reflectlite.Value).Set"], unfollowed := true, recurses := true, named := ["errors.errorType"], apart := false, laid := [("errors.errorType", laid_errors_errorType)] }
def StreamKeepsSaid : Prop := streamKeepsRow.holds Tryd.pinned (OpenSpec.ofChange streamKeepsSpec)

/-- ITS FALSE NEIGHBOUR: 'it returns false'. Refute it at one input. -/
def streamKeepsWrong : ChangeSpec := { name := "streamKeeps", fn := fun _ => fun
  | [d] => { results := [.lit (.bool false)], args := [d] }
  | _ => none }
def StreamKeepsWrongFalsely : Prop := streamKeepsRow.holds Tryd.pinned (OpenSpec.ofChange streamKeepsWrong)

/-- 'shutterlaw08.StreamLengths': WHATEVER THE INPUT: true; the input reads as it did. -/
def streamLengthsSpec : ChangeSpec := { name := "streamLengths", fn := fun _ => fun
  | [d1, d2] => { results := [.lit (.bool true)], args := [d1, d2] }
  | _ => none }
def streamLengthsRow : OpenClaim := { program := "ytociikgdocjfnaadoor", sum := "06768be35bda85375ed24a87dd9c2d1f205714a4f20d7927610bc575184e7e6b", func := "shutter/shutterlaw08.StreamLengths", spec := "streamLengths", inPlace := ["internal/reflectlite.ValueOf", "(internal/reflectlite.Value).Type", "(internal/reflectlite.Value).IsNil", "internal/reflectlite.TypeOf", "(internal/reflectlite.Value).Elem", "(internal/reflectlite.Value).Set"], unfollowed := true, recurses := true, named := ["errors.errorType"], apart := false, laid := [("errors.errorType", laid_errors_errorType)] }
def StreamLengthsSaid : Prop := streamLengthsRow.holds Tryd.pinned (OpenSpec.ofChange streamLengthsSpec)

/-- ITS FALSE NEIGHBOUR: 'it returns false'. Refute it at one input. -/
def streamLengthsWrong : ChangeSpec := { name := "streamLengths", fn := fun _ => fun
  | [d1, d2] => { results := [.lit (.bool false)], args := [d1, d2] }
  | _ => none }
def StreamLengthsWrongFalsely : Prop := streamLengthsRow.holds Tryd.pinned (OpenSpec.ofChange streamLengthsWrong)

/-- 'shutterlaw08.StreamWrites': WHATEVER THE INPUT: true; the input reads as it did. -/
def streamWritesSpec : ChangeSpec := { name := "streamWrites", fn := fun _ => fun
  | [d1, d2] => { results := [.lit (.bool true)], args := [d1, d2] }
  | _ => none }
def streamWritesRow : OpenClaim := { program := "ytociikgdocjfnaadoor", sum := "06768be35bda85375ed24a87dd9c2d1f205714a4f20d7927610bc575184e7e6b", func := "shutter/shutterlaw08.StreamWrites", spec := "streamWrites", inPlace := ["internal/reflectlite.ValueOf", "(internal/reflectlite.Value).Type", "(internal/reflectlite.Value).IsNil", "internal/reflectlite.TypeOf", "(internal/reflectlite.Value).Elem", "(internal/reflectlite.Value).Set"], unfollowed := true, recurses := true, named := ["errors.errorType"], apart := false, laid := [("errors.errorType", laid_errors_errorType)] }
def StreamWritesSaid : Prop := streamWritesRow.holds Tryd.pinned (OpenSpec.ofChange streamWritesSpec)

/-- ITS FALSE NEIGHBOUR: 'it returns false'. Refute it at one input. -/
def streamWritesWrong : ChangeSpec := { name := "streamWrites", fn := fun _ => fun
  | [d1, d2] => { results := [.lit (.bool false)], args := [d1, d2] }
  | _ => none }
def StreamWritesWrongFalsely : Prop := streamWritesRow.holds Tryd.pinned (OpenSpec.ofChange streamWritesWrong)

/-- 'shutterlaw08.StreamReads': WHATEVER THE INPUT: true; the input reads as it did. -/
def streamReadsSpec : ChangeSpec := { name := "streamReads", fn := fun _ => fun
  | [d1, d2] => { results := [.lit (.bool true)], args := [d1, d2] }
  | _ => none }
def streamReadsRow : OpenClaim := { program := "ytociikgdocjfnaadoor", sum := "06768be35bda85375ed24a87dd9c2d1f205714a4f20d7927610bc575184e7e6b", func := "shutter/shutterlaw08.StreamReads", spec := "streamReads", inPlace := ["internal/reflectlite.ValueOf", "(internal/reflectlite.Value).Type", "(internal/reflectlite.Value).IsNil", "internal/reflectlite.TypeOf", "(internal/reflectlite.Value).Elem", "(internal/reflectlite.Value).Set"], unfollowed := true, recurses := true, named := ["errors.errorType"], apart := false, laid := [("errors.errorType", laid_errors_errorType)] }
def StreamReadsSaid : Prop := streamReadsRow.holds Tryd.pinned (OpenSpec.ofChange streamReadsSpec)

/-- ITS FALSE NEIGHBOUR: 'it returns false'. Refute it at one input. -/
def streamReadsWrong : ChangeSpec := { name := "streamReads", fn := fun _ => fun
  | [d1, d2] => { results := [.lit (.bool false)], args := [d1, d2] }
  | _ => none }
def StreamReadsWrongFalsely : Prop := streamReadsRow.holds Tryd.pinned (OpenSpec.ofChange streamReadsWrong)

/-- 'shutterlaw08.StreamAgain': WHATEVER THE INPUT: true; the input reads as it did. -/
def streamAgainSpec : ChangeSpec := { name := "streamAgain", fn := fun _ => fun
  | [d1, d2, d3] => { results := [.lit (.bool true)], args := [d1, d2, d3] }
  | _ => none }
def streamAgainRow : OpenClaim := { program := "ytociikgdocjfnaadoor", sum := "06768be35bda85375ed24a87dd9c2d1f205714a4f20d7927610bc575184e7e6b", func := "shutter/shutterlaw08.StreamAgain", spec := "streamAgain", inPlace := ["internal/reflectlite.ValueOf", "(internal/reflectlite.Value).Type", "(internal/reflectlite.Value).IsNil", "internal/reflectlite.TypeOf", "(internal/reflectlite.Value).Elem", "(internal/reflectlite.Value).Set"], unfollowed := true, recurses := true, named := ["errors.errorType"], apart := false, laid := [("errors.errorType", laid_errors_errorType)] }
def StreamAgainSaid : Prop := streamAgainRow.holds Tryd.pinned (OpenSpec.ofChange streamAgainSpec)

/-- ITS FALSE NEIGHBOUR: 'it returns false'. Refute it at one input. -/
def streamAgainWrong : ChangeSpec := { name := "streamAgain", fn := fun _ => fun
  | [d1, d2, d3] => { results := [.lit (.bool false)], args := [d1, d2, d3] }
  | _ => none }
def StreamAgainWrongFalsely : Prop := streamAgainRow.holds Tryd.pinned (OpenSpec.ofChange streamAgainWrong)

/- THE SECOND FORM. 'bulk': how many values and letters a reading holds, each counted each time it is reached (what is shared counts as often as it is met; a slice's spare places count too). A statement '..UptoSaid' is the law's where the arguments, and the package variables that the reading takes, are together of bulk at most 1048576: NARROWER than '..Said'. Prove '..Said' where nothing that the law and all that it calls make is longer than what came in: it says more and counts as full. Else prove '..UptoSaid'. A law counts once. -/
mutual
def uptoBulk {H : Type} : DataW H → Nat
  | .lit (.string bytes) => bytes.length + 1
  | .lit _ => 1
  | .nil => 1
  | .ptr d => uptoBulk d + 1
  | .slice elems spare => uptoBulkAll elems + uptoBulkAll spare + 1
  | .agg parts => uptoBulkAll parts + 1
  | .iface _ d => uptoBulk d + 1
  | .map entries => uptoBulkEntries entries + 1
  | .held _ => 1
def uptoBulkAll {H : Type} : List (DataW H) → Nat
  | [] => 0
  | d :: r => uptoBulk d + uptoBulkAll r
def uptoBulkEntries {H : Type} : List (Lit × DataW H) → Nat
  | [] => 0
  | x :: r => uptoBulkEntry x + uptoBulkEntries r
def uptoBulkEntry {H : Type} : Lit × DataW H → Nat
  | (.string bytes, d) => bytes.length + uptoBulk d + 1
  | (_, d) => uptoBulk d + 1
 end
def uptoSmall : (H : Type) → List (DataW H) → Bool := fun _ ds => decide (uptoBulkAll ds ≤ 1048576)
def OpenSpec.upto (s : _root_.Go.ChangeSpec) : _root_.Go.OpenSpec := { _root_.Go.OpenSpec.ofChange s with cond := some uptoSmall }

/-- 'shutterlaw07.OrderPuts', WHERE WHAT IT READS IS OF BULK AT MOST 1048576: true; the input reads as it did. -/
def orderPutsUptoRow : OpenClaim := { program := "ytociikgdocjfnaadoor", sum := "06768be35bda85375ed24a87dd9c2d1f205714a4f20d7927610bc575184e7e6b", func := "shutter/shutterlaw07.OrderPuts", spec := "orderPuts", inPlace := ["internal/reflectlite.ValueOf", "(internal/reflectlite.Value).Type", "(internal/reflectlite.Value).IsNil", "internal/reflectlite.TypeOf", "(internal/reflectlite.Value).Elem", "(internal/reflectlite.Value).Set"], unfollowed := true, recurses := true, named := ["errors.errorType"], apart := false, laid := [("errors.errorType", laid_errors_errorType)], narrowed := true }
def OrderPutsUptoSaid : Prop := orderPutsUptoRow.holds Tryd.pinned (OpenSpec.upto orderPutsSpec)

/-- 'shutterlaw07.OrderGets', WHERE WHAT IT READS IS OF BULK AT MOST 1048576: true; the input reads as it did. -/
def orderGetsUptoRow : OpenClaim := { program := "ytociikgdocjfnaadoor", sum := "06768be35bda85375ed24a87dd9c2d1f205714a4f20d7927610bc575184e7e6b", func := "shutter/shutterlaw07.OrderGets", spec := "orderGets", inPlace := ["internal/reflectlite.ValueOf", "(internal/reflectlite.Value).Type", "(internal/reflectlite.Value).IsNil", "internal/reflectlite.TypeOf", "(internal/reflectlite.Value).Elem", "(internal/reflectlite.Value).Set"], unfollowed := true, recurses := true, named := ["errors.errorType"], apart := false, laid := [("errors.errorType", laid_errors_errorType)], narrowed := true }
def OrderGetsUptoSaid : Prop := orderGetsUptoRow.holds Tryd.pinned (OpenSpec.upto orderGetsSpec)

/-- 'shutterlaw08.StreamBack', WHERE WHAT IT READS IS OF BULK AT MOST 1048576: true; the input reads as it did. -/
def streamBackUptoRow : OpenClaim := { program := "ytociikgdocjfnaadoor", sum := "06768be35bda85375ed24a87dd9c2d1f205714a4f20d7927610bc575184e7e6b", func := "shutter/shutterlaw08.StreamBack", spec := "streamBack", inPlace := ["internal/reflectlite.ValueOf", "(internal/reflectlite.Value).Type", "(internal/reflectlite.Value).IsNil", "internal/reflectlite.TypeOf", "(internal/reflectlite.Value).Elem", "(internal/reflectlite.Value).Set"], unfollowed := true, recurses := true, named := ["errors.errorType"], apart := false, laid := [("errors.errorType", laid_errors_errorType)], narrowed := true }
def StreamBackUptoSaid : Prop := streamBackUptoRow.holds Tryd.pinned (OpenSpec.upto streamBackSpec)

/-- 'shutterlaw08.StreamKeeps', WHERE WHAT IT READS IS OF BULK AT MOST 1048576: true; the input reads as it did. -/
def streamKeepsUptoRow : OpenClaim := { program := "ytociikgdocjfnaadoor", sum := "06768be35bda85375ed24a87dd9c2d1f205714a4f20d7927610bc575184e7e6b", func := "shutter/shutterlaw08.StreamKeeps", spec := "streamKeeps", inPlace := ["internal/reflectlite.ValueOf", "(internal/reflectlite.Value).Type", "(internal/reflectlite.Value).IsNil", "internal/reflectlite.TypeOf", "(internal/reflectlite.Value).Elem", "(internal/reflectlite.Value).Set"], unfollowed := true, recurses := true, named := ["errors.errorType"], apart := false, laid := [("errors.errorType", laid_errors_errorType)], narrowed := true }
def StreamKeepsUptoSaid : Prop := streamKeepsUptoRow.holds Tryd.pinned (OpenSpec.upto streamKeepsSpec)

/-- 'shutterlaw08.StreamLengths', WHERE WHAT IT READS IS OF BULK AT MOST 1048576: true; the input reads as it did. -/
def streamLengthsUptoRow : OpenClaim := { program := "ytociikgdocjfnaadoor", sum := "06768be35bda85375ed24a87dd9c2d1f205714a4f20d7927610bc575184e7e6b", func := "shutter/shutterlaw08.StreamLengths", spec := "streamLengths", inPlace := ["internal/reflectlite.ValueOf", "(internal/reflectlite.Value).Type", "(internal/reflectlite.Value).IsNil", "internal/reflectlite.TypeOf", "(internal/reflectlite.Value).Elem", "(internal/reflectlite.Value).Set"], unfollowed := true, recurses := true, named := ["errors.errorType"], apart := false, laid := [("errors.errorType", laid_errors_errorType)], narrowed := true }
def StreamLengthsUptoSaid : Prop := streamLengthsUptoRow.holds Tryd.pinned (OpenSpec.upto streamLengthsSpec)

/-- 'shutterlaw08.StreamWrites', WHERE WHAT IT READS IS OF BULK AT MOST 1048576: true; the input reads as it did. -/
def streamWritesUptoRow : OpenClaim := { program := "ytociikgdocjfnaadoor", sum := "06768be35bda85375ed24a87dd9c2d1f205714a4f20d7927610bc575184e7e6b", func := "shutter/shutterlaw08.StreamWrites", spec := "streamWrites", inPlace := ["internal/reflectlite.ValueOf", "(internal/reflectlite.Value).Type", "(internal/reflectlite.Value).IsNil", "internal/reflectlite.TypeOf", "(internal/reflectlite.Value).Elem", "(internal/reflectlite.Value).Set"], unfollowed := true, recurses := true, named := ["errors.errorType"], apart := false, laid := [("errors.errorType", laid_errors_errorType)], narrowed := true }
def StreamWritesUptoSaid : Prop := streamWritesUptoRow.holds Tryd.pinned (OpenSpec.upto streamWritesSpec)

/-- 'shutterlaw08.StreamReads', WHERE WHAT IT READS IS OF BULK AT MOST 1048576: true; the input reads as it did. -/
def streamReadsUptoRow : OpenClaim := { program := "ytociikgdocjfnaadoor", sum := "06768be35bda85375ed24a87dd9c2d1f205714a4f20d7927610bc575184e7e6b", func := "shutter/shutterlaw08.StreamReads", spec := "streamReads", inPlace := ["internal/reflectlite.ValueOf", "(internal/reflectlite.Value).Type", "(internal/reflectlite.Value).IsNil", "internal/reflectlite.TypeOf", "(internal/reflectlite.Value).Elem", "(internal/reflectlite.Value).Set"], unfollowed := true, recurses := true, named := ["errors.errorType"], apart := false, laid := [("errors.errorType", laid_errors_errorType)], narrowed := true }
def StreamReadsUptoSaid : Prop := streamReadsUptoRow.holds Tryd.pinned (OpenSpec.upto streamReadsSpec)

/-- 'shutterlaw08.StreamAgain', WHERE WHAT IT READS IS OF BULK AT MOST 1048576: true; the input reads as it did. -/
def streamAgainUptoRow : OpenClaim := { program := "ytociikgdocjfnaadoor", sum := "06768be35bda85375ed24a87dd9c2d1f205714a4f20d7927610bc575184e7e6b", func := "shutter/shutterlaw08.StreamAgain", spec := "streamAgain", inPlace := ["internal/reflectlite.ValueOf", "(internal/reflectlite.Value).Type", "(internal/reflectlite.Value).IsNil", "internal/reflectlite.TypeOf", "(internal/reflectlite.Value).Elem", "(internal/reflectlite.Value).Set"], unfollowed := true, recurses := true, named := ["errors.errorType"], apart := false, laid := [("errors.errorType", laid_errors_errorType)], narrowed := true }
def StreamAgainUptoSaid : Prop := streamAgainUptoRow.holds Tryd.pinned (OpenSpec.upto streamAgainSpec)

end Rows
end Go.Proofs.YtociikgdocjfnaaDoor
