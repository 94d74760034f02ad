/-
  NARROWER THAN 'FOR EVERY INPUT', by the rows' own cells (each row's printed sentence says how): ReadReplies: laid · ReadTells: laid · ReadImage: laid.
  DERIVED. THE GIVEN ROWS OF THIS SEAT. 3 by the template 'for every input the law returns true; each argument reads behind the call as it read before'; 0 by the template 'total and deterministic' (their statements: YtfbcjibdgicaoaaGreatDoorTotals.lean).
  GIVEN WITH THE SEED: the statements are not yours to turn. If you find one false, say at which input.
  Laid BY PROGRAM, IN A SANDBOX (cutbox-rows.mjs): the forced cells as the released guide's own fill.sh prints them over the translation c814d7dcfe4c3306… (all of the seat's roots in one cut). By AI agents, Wed Nov 11 2026. No macro, syntax, notation, axiom, sorry.
-/
import Derived.Test.YtfbcjibdgicaoaaGreatDoorChecked
import GoSem.Claim
import GoSem.ClaimJoined
import GoSem.ClaimMapViews
import Derived.JoinedTies
import Derived.KernelRfl
namespace Go.Proofs.YtfbcjibdgicaoaaGreatDoor
/- THE CELL 'sum', in the pinned program and in every row, IS THE sha256 OF THE DUMP (.gsa) THAT YtfbcjibdgicaoaaGreatDoorProg.lean LOADS. Nothing in Lean hashes anything: it is a label: what it is worth is what the hold of that sum in a sandbox is worth. -/
noncomputable def Tryz.pinned : Pinned := { name := "ytfbcjibdgicaoaagreatdoor", sum := "c814d7dcfe4c3306673e3f154b3ecb6fe14ca451e48e9350c08325cce2208ade", checked := Tryz.checked }
namespace Rows
def none {H : Type} : Left H := { results := [], args := [] }

/- WHAT THE LISTED PACKAGE-LEVEL VARIABLES READ AS WHEN THE CALL BEGINS. Each datum BY PROGRAM (the guide's laid-datum.mjs) off the statement by which the dump's own 'gosem.cut.vars' lays the variable. In a bare row this is a premise. The card (YtfbcjibdgicaoaaGreatDoorCards.lean) ties it to the program's text. -/
def laid_errors_errorType {H : Type} : DataW H := .iface "internal/reflectlite.rtype" (.agg [.ptr (.lit (.string [101, 114, 114, 111, 114]))])

/-- 'shutterlaw18.ReadReplies': WHATEVER THE INPUT: true; the input reads as it did. -/
def readRepliesSpec : ChangeSpec := { name := "readReplies", fn := fun _ => fun
  | [d1, d2, d3] => { results := [.lit (.bool true)], args := [d1, d2, d3] }
  | _ => none }
def readRepliesRow : OpenClaim := { program := "ytfbcjibdgicaoaagreatdoor", sum := "c814d7dcfe4c3306673e3f154b3ecb6fe14ca451e48e9350c08325cce2208ade", func := "shutter/shutterlaw18.ReadReplies", spec := "readReplies", inPlace := ["internal/reflectlite.ValueOf", "(internal/reflectlite.Value).Type", "(internal/reflectlite.Value).IsNil", "internal/reflectlite.TypeOf", "(internal/reflectlite.Value).Elem", "(internal/reflectlite.Value).Set"], unfollowed := true, recurses := true, named := ["errors.errorType"], apart := false, laid := [("errors.errorType", laid_errors_errorType)] }
def ReadRepliesSaid : Prop := readRepliesRow.holds Tryz.pinned (OpenSpec.ofChange readRepliesSpec)

/-- ITS FALSE NEIGHBOUR: 'it returns false'. Refute it at one input. -/
def readRepliesWrong : ChangeSpec := { name := "readReplies", fn := fun _ => fun
  | [d1, d2, d3] => { results := [.lit (.bool false)], args := [d1, d2, d3] }
  | _ => none }
def ReadRepliesWrongFalsely : Prop := readRepliesRow.holds Tryz.pinned (OpenSpec.ofChange readRepliesWrong)

/-- 'shutterlaw18.ReadTells': WHATEVER THE INPUT: true; the input reads as it did. -/
def readTellsSpec : ChangeSpec := { name := "readTells", fn := fun _ => fun
  | [d1, d2] => { results := [.lit (.bool true)], args := [d1, d2] }
  | _ => none }
def readTellsRow : OpenClaim := { program := "ytfbcjibdgicaoaagreatdoor", sum := "c814d7dcfe4c3306673e3f154b3ecb6fe14ca451e48e9350c08325cce2208ade", func := "shutter/shutterlaw18.ReadTells", spec := "readTells", inPlace := ["internal/reflectlite.ValueOf", "(internal/reflectlite.Value).Type", "(internal/reflectlite.Value).IsNil", "internal/reflectlite.TypeOf", "(internal/reflectlite.Value).Elem", "(internal/reflectlite.Value).Set"], unfollowed := true, recurses := true, named := ["errors.errorType"], apart := false, laid := [("errors.errorType", laid_errors_errorType)] }
def ReadTellsSaid : Prop := readTellsRow.holds Tryz.pinned (OpenSpec.ofChange readTellsSpec)

/-- ITS FALSE NEIGHBOUR: 'it returns false'. Refute it at one input. -/
def readTellsWrong : ChangeSpec := { name := "readTells", fn := fun _ => fun
  | [d1, d2] => { results := [.lit (.bool false)], args := [d1, d2] }
  | _ => none }
def ReadTellsWrongFalsely : Prop := readTellsRow.holds Tryz.pinned (OpenSpec.ofChange readTellsWrong)

/-- 'shutterlaw18.ReadImage': WHATEVER THE INPUT: true; the input reads as it did. -/
def readImageSpec : ChangeSpec := { name := "readImage", fn := fun _ => fun
  | [d] => { results := [.lit (.bool true)], args := [d] }
  | _ => none }
def readImageRow : OpenClaim := { program := "ytfbcjibdgicaoaagreatdoor", sum := "c814d7dcfe4c3306673e3f154b3ecb6fe14ca451e48e9350c08325cce2208ade", func := "shutter/shutterlaw18.ReadImage", spec := "readImage", inPlace := ["internal/reflectlite.ValueOf", "(internal/reflectlite.Value).Type", "(internal/reflectlite.Value).IsNil", "internal/reflectlite.TypeOf", "(internal/reflectlite.Value).Elem", "(internal/reflectlite.Value).Set"], unfollowed := true, recurses := true, named := ["errors.errorType"], apart := false, laid := [("errors.errorType", laid_errors_errorType)] }
def ReadImageSaid : Prop := readImageRow.holds Tryz.pinned (OpenSpec.ofChange readImageSpec)

/-- ITS FALSE NEIGHBOUR: 'it returns false'. Refute it at one input. -/
def readImageWrong : ChangeSpec := { name := "readImage", fn := fun _ => fun
  | [d] => { results := [.lit (.bool false)], args := [d] }
  | _ => none }
def ReadImageWrongFalsely : Prop := readImageRow.holds Tryz.pinned (OpenSpec.ofChange readImageWrong)

/- THE SECOND FORM. 'bulk': how many values and letters a reading holds, each counted each time it is reached (what is shared counts as often as it is met; a slice's spare places count too). A statement '..UptoSaid' is the law's where the arguments, and the package variables that the reading takes, are together of bulk at most 1048576: NARROWER than '..Said'. Prove '..Said' where nothing that the law and all that it calls make is longer than what came in: it says more and counts as full. Else prove '..UptoSaid'. A law counts once. -/
mutual
def uptoBulk {H : Type} : DataW H → Nat
  | .lit (.string bytes) => bytes.length + 1
  | .lit _ => 1
  | .nil => 1
  | .ptr d => uptoBulk d + 1
  | .slice elems spare => uptoBulkAll elems + uptoBulkAll spare + 1
  | .agg parts => uptoBulkAll parts + 1
  | .iface _ d => uptoBulk d + 1
  | .map entries => uptoBulkEntries entries + 1
  | .held _ => 1
def uptoBulkAll {H : Type} : List (DataW H) → Nat
  | [] => 0
  | d :: r => uptoBulk d + uptoBulkAll r
def uptoBulkEntries {H : Type} : List (Lit × DataW H) → Nat
  | [] => 0
  | x :: r => uptoBulkEntry x + uptoBulkEntries r
def uptoBulkEntry {H : Type} : Lit × DataW H → Nat
  | (.string bytes, d) => bytes.length + uptoBulk d + 1
  | (_, d) => uptoBulk d + 1
 end
def uptoSmall : (H : Type) → List (DataW H) → Bool := fun _ ds => decide (uptoBulkAll ds ≤ 1048576)
def OpenSpec.upto (s : _root_.Go.ChangeSpec) : _root_.Go.OpenSpec := { _root_.Go.OpenSpec.ofChange s with cond := some uptoSmall }

/-- 'shutterlaw18.ReadReplies', WHERE WHAT IT READS IS OF BULK AT MOST 1048576: true; the input reads as it did. -/
def readRepliesUptoRow : OpenClaim := { program := "ytfbcjibdgicaoaagreatdoor", sum := "c814d7dcfe4c3306673e3f154b3ecb6fe14ca451e48e9350c08325cce2208ade", func := "shutter/shutterlaw18.ReadReplies", spec := "readReplies", inPlace := ["internal/reflectlite.ValueOf", "(internal/reflectlite.Value).Type", "(internal/reflectlite.Value).IsNil", "internal/reflectlite.TypeOf", "(internal/reflectlite.Value).Elem", "(internal/reflectlite.Value).Set"], unfollowed := true, recurses := true, named := ["errors.errorType"], apart := false, laid := [("errors.errorType", laid_errors_errorType)], narrowed := true }
def ReadRepliesUptoSaid : Prop := readRepliesUptoRow.holds Tryz.pinned (OpenSpec.upto readRepliesSpec)

/-- 'shutterlaw18.ReadTells', WHERE WHAT IT READS IS OF BULK AT MOST 1048576: true; the input reads as it did. -/
def readTellsUptoRow : OpenClaim := { program := "ytfbcjibdgicaoaagreatdoor", sum := "c814d7dcfe4c3306673e3f154b3ecb6fe14ca451e48e9350c08325cce2208ade", func := "shutter/shutterlaw18.ReadTells", spec := "readTells", inPlace := ["internal/reflectlite.ValueOf", "(internal/reflectlite.Value).Type", "(internal/reflectlite.Value).IsNil", "internal/reflectlite.TypeOf", "(internal/reflectlite.Value).Elem", "(internal/reflectlite.Value).Set"], unfollowed := true, recurses := true, named := ["errors.errorType"], apart := false, laid := [("errors.errorType", laid_errors_errorType)], narrowed := true }
def ReadTellsUptoSaid : Prop := readTellsUptoRow.holds Tryz.pinned (OpenSpec.upto readTellsSpec)

/-- 'shutterlaw18.ReadImage', WHERE WHAT IT READS IS OF BULK AT MOST 1048576: true; the input reads as it did. -/
def readImageUptoRow : OpenClaim := { program := "ytfbcjibdgicaoaagreatdoor", sum := "c814d7dcfe4c3306673e3f154b3ecb6fe14ca451e48e9350c08325cce2208ade", func := "shutter/shutterlaw18.ReadImage", spec := "readImage", inPlace := ["internal/reflectlite.ValueOf", "(internal/reflectlite.Value).Type", "(internal/reflectlite.Value).IsNil", "internal/reflectlite.TypeOf", "(internal/reflectlite.Value).Elem", "(internal/reflectlite.Value).Set"], unfollowed := true, recurses := true, named := ["errors.errorType"], apart := false, laid := [("errors.errorType", laid_errors_errorType)], narrowed := true }
def ReadImageUptoSaid : Prop := readImageUptoRow.holds Tryz.pinned (OpenSpec.upto readImageSpec)

end Rows
end Go.Proofs.YtfbcjibdgicaoaaGreatDoor
