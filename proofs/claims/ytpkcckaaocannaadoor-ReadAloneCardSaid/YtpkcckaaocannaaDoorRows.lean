/-
  NARROWER THAN 'FOR EVERY INPUT', by the rows' own cells (each row's printed sentence says how): ReadModified: laid · ReadImages: laid · ReadKeeps: laid · ReadAlone: laid · RoamNewest: laid · RoamKeeps: laid · RoamAgain: laid · BytesKeeps: laid.
  DERIVED. THE GIVEN ROWS OF THIS SEAT. 8 by the template 'for every input the law returns true; each argument reads behind the call as it read before'; 0 by the template 'total and deterministic' (their statements: YtpkcckaaocannaaDoorTotals.lean).
  GIVEN WITH THE SEED: the statements are not yours to turn. If you find one false, say at which input.
  Laid BY PROGRAM, IN A SANDBOX (cutbox-rows.mjs): the forced cells as the released guide's own fill.sh prints them over the translation 87a7e079fab45502… (all of the seat's roots in one cut). By AI agents, Wed Nov 11 2026. No macro, syntax, notation, axiom, sorry.
-/
import Derived.Test.YtpkcckaaocannaaDoorChecked
import GoSem.Claim
import GoSem.ClaimJoined
import GoSem.ClaimMapViews
import Derived.JoinedTies
import Derived.KernelRfl
namespace Go.Proofs.YtpkcckaaocannaaDoor
/- THE CELL 'sum', in the pinned program and in every row, IS THE sha256 OF THE DUMP (.gsa) THAT YtpkcckaaocannaaDoorProg.lean LOADS. Nothing in Lean hashes anything: it is a label: what it is worth is what the hold of that sum in a sandbox is worth. -/
noncomputable def Tryd.pinned : Pinned := { name := "ytpkcckaaocannaadoor", sum := "87a7e079fab455026d99a7eac14e6711edf4e04f03756681e0e88f048e8c96e1", checked := Tryd.checked }
namespace Rows
def none {H : Type} : Left H := { results := [], args := [] }

/- WHAT THE LISTED PACKAGE-LEVEL VARIABLES READ AS WHEN THE CALL BEGINS. Each datum BY PROGRAM (the guide's laid-datum.mjs) off the statement by which the dump's own 'gosem.cut.vars' lays the variable. In a bare row this is a premise. The card (YtpkcckaaocannaaDoorCards.lean) ties it to the program's text. -/
def laid_errors_errorType {H : Type} : DataW H := .iface "internal/reflectlite.rtype" (.agg [.ptr (.lit (.string [101, 114, 114, 111, 114]))])

/-- 'shutterlaw18.ReadModified': WHATEVER THE INPUT: true; the input reads as it did. -/
def readModifiedSpec : ChangeSpec := { name := "readModified", fn := fun _ => fun
  | [d1, d2] => { results := [.lit (.bool true)], args := [d1, d2] }
  | _ => none }
def readModifiedRow : OpenClaim := { program := "ytpkcckaaocannaadoor", sum := "87a7e079fab455026d99a7eac14e6711edf4e04f03756681e0e88f048e8c96e1", func := "shutter/shutterlaw18.ReadModified", spec := "readModified", inPlace := ["internal/reflectlite.ValueOf", "(internal/reflectlite.Value).Type", "(internal/reflectlite.Value).IsNil", "internal/reflectlite.TypeOf", "(internal/reflectlite.Value).Elem", "(internal/reflectlite.Value).Set"], unfollowed := true, recurses := true, named := ["errors.errorType"], apart := false, laid := [("errors.errorType", laid_errors_errorType)] }
def ReadModifiedSaid : Prop := readModifiedRow.holds Tryd.pinned (OpenSpec.ofChange readModifiedSpec)

/-- ITS FALSE NEIGHBOUR: 'it returns false'. Refute it at one input. -/
def readModifiedWrong : ChangeSpec := { name := "readModified", fn := fun _ => fun
  | [d1, d2] => { results := [.lit (.bool false)], args := [d1, d2] }
  | _ => none }
def ReadModifiedWrongFalsely : Prop := readModifiedRow.holds Tryd.pinned (OpenSpec.ofChange readModifiedWrong)

/-- 'shutterlaw18.ReadImages': WHATEVER THE INPUT: true; the input reads as it did. -/
def readImagesSpec : ChangeSpec := { name := "readImages", fn := fun _ => fun
  | [d] => { results := [.lit (.bool true)], args := [d] }
  | _ => none }
def readImagesRow : OpenClaim := { program := "ytpkcckaaocannaadoor", sum := "87a7e079fab455026d99a7eac14e6711edf4e04f03756681e0e88f048e8c96e1", func := "shutter/shutterlaw18.ReadImages", spec := "readImages", inPlace := ["internal/reflectlite.ValueOf", "(internal/reflectlite.Value).Type", "(internal/reflectlite.Value).IsNil", "internal/reflectlite.TypeOf", "(internal/reflectlite.Value).Elem", "(internal/reflectlite.Value).Set"], unfollowed := true, recurses := true, named := ["errors.errorType"], apart := false, laid := [("errors.errorType", laid_errors_errorType)] }
def ReadImagesSaid : Prop := readImagesRow.holds Tryd.pinned (OpenSpec.ofChange readImagesSpec)

/-- ITS FALSE NEIGHBOUR: 'it returns false'. Refute it at one input. -/
def readImagesWrong : ChangeSpec := { name := "readImages", fn := fun _ => fun
  | [d] => { results := [.lit (.bool false)], args := [d] }
  | _ => none }
def ReadImagesWrongFalsely : Prop := readImagesRow.holds Tryd.pinned (OpenSpec.ofChange readImagesWrong)

/-- 'shutterlaw18.ReadKeeps': WHATEVER THE INPUT: true; the input reads as it did. -/
def readKeepsSpec : ChangeSpec := { name := "readKeeps", fn := fun _ => fun
  | [d] => { results := [.lit (.bool true)], args := [d] }
  | _ => none }
def readKeepsRow : OpenClaim := { program := "ytpkcckaaocannaadoor", sum := "87a7e079fab455026d99a7eac14e6711edf4e04f03756681e0e88f048e8c96e1", func := "shutter/shutterlaw18.ReadKeeps", spec := "readKeeps", inPlace := ["internal/reflectlite.ValueOf", "(internal/reflectlite.Value).Type", "(internal/reflectlite.Value).IsNil", "internal/reflectlite.TypeOf", "(internal/reflectlite.Value).Elem", "(internal/reflectlite.Value).Set"], unfollowed := true, recurses := true, named := ["errors.errorType"], apart := false, laid := [("errors.errorType", laid_errors_errorType)] }
def ReadKeepsSaid : Prop := readKeepsRow.holds Tryd.pinned (OpenSpec.ofChange readKeepsSpec)

/-- ITS FALSE NEIGHBOUR: 'it returns false'. Refute it at one input. -/
def readKeepsWrong : ChangeSpec := { name := "readKeeps", fn := fun _ => fun
  | [d] => { results := [.lit (.bool false)], args := [d] }
  | _ => none }
def ReadKeepsWrongFalsely : Prop := readKeepsRow.holds Tryd.pinned (OpenSpec.ofChange readKeepsWrong)

/-- 'shutterlaw18.ReadAlone': WHATEVER THE INPUT: true; the input reads as it did. -/
def readAloneSpec : ChangeSpec := { name := "readAlone", fn := fun _ => fun
  | [d1, d2, d3, d4] => { results := [.lit (.bool true)], args := [d1, d2, d3, d4] }
  | _ => none }
def readAloneRow : OpenClaim := { program := "ytpkcckaaocannaadoor", sum := "87a7e079fab455026d99a7eac14e6711edf4e04f03756681e0e88f048e8c96e1", func := "shutter/shutterlaw18.ReadAlone", spec := "readAlone", inPlace := ["internal/reflectlite.ValueOf", "(internal/reflectlite.Value).Type", "(internal/reflectlite.Value).IsNil", "internal/reflectlite.TypeOf", "(internal/reflectlite.Value).Elem", "(internal/reflectlite.Value).Set"], unfollowed := true, recurses := true, named := ["errors.errorType"], apart := false, laid := [("errors.errorType", laid_errors_errorType)] }
def ReadAloneSaid : Prop := readAloneRow.holds Tryd.pinned (OpenSpec.ofChange readAloneSpec)

/-- ITS FALSE NEIGHBOUR: 'it returns false'. Refute it at one input. -/
def readAloneWrong : ChangeSpec := { name := "readAlone", fn := fun _ => fun
  | [d1, d2, d3, d4] => { results := [.lit (.bool false)], args := [d1, d2, d3, d4] }
  | _ => none }
def ReadAloneWrongFalsely : Prop := readAloneRow.holds Tryd.pinned (OpenSpec.ofChange readAloneWrong)

/-- 'shutterlaw21.RoamNewest': WHATEVER THE INPUT: true; the input reads as it did. -/
def roamNewestSpec : ChangeSpec := { name := "roamNewest", fn := fun _ => fun
  | [d1, d2] => { results := [.lit (.bool true)], args := [d1, d2] }
  | _ => none }
def roamNewestRow : OpenClaim := { program := "ytpkcckaaocannaadoor", sum := "87a7e079fab455026d99a7eac14e6711edf4e04f03756681e0e88f048e8c96e1", func := "shutter/shutterlaw21.RoamNewest", spec := "roamNewest", inPlace := ["slices.overlaps[[]byte]", "internal/reflectlite.ValueOf", "(internal/reflectlite.Value).Type", "(internal/reflectlite.Value).IsNil", "internal/reflectlite.TypeOf", "(internal/reflectlite.Value).Elem", "(internal/reflectlite.Value).Set"], unfollowed := true, recurses := true, named := ["errors.errorType"], apart := false, laid := [("errors.errorType", laid_errors_errorType)] }
def RoamNewestSaid : Prop := roamNewestRow.holds Tryd.pinned (OpenSpec.ofChange roamNewestSpec)

/-- ITS FALSE NEIGHBOUR: 'it returns false'. Refute it at one input. -/
def roamNewestWrong : ChangeSpec := { name := "roamNewest", fn := fun _ => fun
  | [d1, d2] => { results := [.lit (.bool false)], args := [d1, d2] }
  | _ => none }
def RoamNewestWrongFalsely : Prop := roamNewestRow.holds Tryd.pinned (OpenSpec.ofChange roamNewestWrong)

/-- 'shutterlaw21.RoamKeeps': WHATEVER THE INPUT: true; the input reads as it did. -/
def roamKeepsSpec : ChangeSpec := { name := "roamKeeps", fn := fun _ => fun
  | [d1, d2] => { results := [.lit (.bool true)], args := [d1, d2] }
  | _ => none }
def roamKeepsRow : OpenClaim := { program := "ytpkcckaaocannaadoor", sum := "87a7e079fab455026d99a7eac14e6711edf4e04f03756681e0e88f048e8c96e1", func := "shutter/shutterlaw21.RoamKeeps", spec := "roamKeeps", inPlace := ["slices.overlaps[[]byte]", "internal/reflectlite.ValueOf", "(internal/reflectlite.Value).Type", "(internal/reflectlite.Value).IsNil", "internal/reflectlite.TypeOf", "(internal/reflectlite.Value).Elem", "(internal/reflectlite.Value).Set"], unfollowed := true, recurses := true, named := ["errors.errorType"], apart := false, laid := [("errors.errorType", laid_errors_errorType)] }
def RoamKeepsSaid : Prop := roamKeepsRow.holds Tryd.pinned (OpenSpec.ofChange roamKeepsSpec)

/-- ITS FALSE NEIGHBOUR: 'it returns false'. Refute it at one input. -/
def roamKeepsWrong : ChangeSpec := { name := "roamKeeps", fn := fun _ => fun
  | [d1, d2] => { results := [.lit (.bool false)], args := [d1, d2] }
  | _ => none }
def RoamKeepsWrongFalsely : Prop := roamKeepsRow.holds Tryd.pinned (OpenSpec.ofChange roamKeepsWrong)

/-- 'shutterlaw21.RoamAgain': WHATEVER THE INPUT: true; the input reads as it did. -/
def roamAgainSpec : ChangeSpec := { name := "roamAgain", fn := fun _ => fun
  | [d1, d2, d3, d4, d5] => { results := [.lit (.bool true)], args := [d1, d2, d3, d4, d5] }
  | _ => none }
def roamAgainRow : OpenClaim := { program := "ytpkcckaaocannaadoor", sum := "87a7e079fab455026d99a7eac14e6711edf4e04f03756681e0e88f048e8c96e1", func := "shutter/shutterlaw21.RoamAgain", spec := "roamAgain", inPlace := ["slices.overlaps[[]byte]", "internal/reflectlite.ValueOf", "(internal/reflectlite.Value).Type", "(internal/reflectlite.Value).IsNil", "internal/reflectlite.TypeOf", "(internal/reflectlite.Value).Elem", "(internal/reflectlite.Value).Set"], unfollowed := true, recurses := true, named := ["errors.errorType"], apart := false, laid := [("errors.errorType", laid_errors_errorType)] }
def RoamAgainSaid : Prop := roamAgainRow.holds Tryd.pinned (OpenSpec.ofChange roamAgainSpec)

/-- ITS FALSE NEIGHBOUR: 'it returns false'. Refute it at one input. -/
def roamAgainWrong : ChangeSpec := { name := "roamAgain", fn := fun _ => fun
  | [d1, d2, d3, d4, d5] => { results := [.lit (.bool false)], args := [d1, d2, d3, d4, d5] }
  | _ => none }
def RoamAgainWrongFalsely : Prop := roamAgainRow.holds Tryd.pinned (OpenSpec.ofChange roamAgainWrong)

/-- 'shutterlaw06.BytesKeeps': WHATEVER THE INPUT: true; the input reads as it did. -/
def bytesKeepsSpec : ChangeSpec := { name := "bytesKeeps", fn := fun _ => fun
  | [d] => { results := [.lit (.bool true)], args := [d] }
  | _ => none }
def bytesKeepsRow : OpenClaim := { program := "ytpkcckaaocannaadoor", sum := "87a7e079fab455026d99a7eac14e6711edf4e04f03756681e0e88f048e8c96e1", func := "shutter/shutterlaw06.BytesKeeps", spec := "bytesKeeps", inPlace := ["internal/reflectlite.ValueOf", "(internal/reflectlite.Value).Type", "(internal/reflectlite.Value).IsNil", "internal/reflectlite.TypeOf", "(internal/reflectlite.Value).Elem", "(internal/reflectlite.Value).Set"], unfollowed := true, recurses := true, named := ["errors.errorType"], apart := false, laid := [("errors.errorType", laid_errors_errorType)] }
def BytesKeepsSaid : Prop := bytesKeepsRow.holds Tryd.pinned (OpenSpec.ofChange bytesKeepsSpec)

/-- ITS FALSE NEIGHBOUR: 'it returns false'. Refute it at one input. -/
def bytesKeepsWrong : ChangeSpec := { name := "bytesKeeps", fn := fun _ => fun
  | [d] => { results := [.lit (.bool false)], args := [d] }
  | _ => none }
def BytesKeepsWrongFalsely : Prop := bytesKeepsRow.holds Tryd.pinned (OpenSpec.ofChange bytesKeepsWrong)

/- THE SECOND FORM. 'bulk': how many values and letters a reading holds, each counted each time it is reached (what is shared counts as often as it is met; a slice's spare places count too). A statement '..UptoSaid' is the law's where the arguments, and the package variables that the reading takes, are together of bulk at most 1048576: NARROWER than '..Said'. Prove '..Said' where nothing that the law and all that it calls make is longer than what came in: it says more and counts as full. Else prove '..UptoSaid'. A law counts once. -/
mutual
def uptoBulk {H : Type} : DataW H → Nat
  | .lit (.string bytes) => bytes.length + 1
  | .lit _ => 1
  | .nil => 1
  | .ptr d => uptoBulk d + 1
  | .slice elems spare => uptoBulkAll elems + uptoBulkAll spare + 1
  | .agg parts => uptoBulkAll parts + 1
  | .iface _ d => uptoBulk d + 1
  | .map entries => uptoBulkEntries entries + 1
  | .held _ => 1
def uptoBulkAll {H : Type} : List (DataW H) → Nat
  | [] => 0
  | d :: r => uptoBulk d + uptoBulkAll r
def uptoBulkEntries {H : Type} : List (Lit × DataW H) → Nat
  | [] => 0
  | x :: r => uptoBulkEntry x + uptoBulkEntries r
def uptoBulkEntry {H : Type} : Lit × DataW H → Nat
  | (.string bytes, d) => bytes.length + uptoBulk d + 1
  | (_, d) => uptoBulk d + 1
 end
def uptoSmall : (H : Type) → List (DataW H) → Bool := fun _ ds => decide (uptoBulkAll ds ≤ 1048576)
def OpenSpec.upto (s : _root_.Go.ChangeSpec) : _root_.Go.OpenSpec := { _root_.Go.OpenSpec.ofChange s with cond := some uptoSmall }

/-- 'shutterlaw18.ReadModified', WHERE WHAT IT READS IS OF BULK AT MOST 1048576: true; the input reads as it did. -/
def readModifiedUptoRow : OpenClaim := { program := "ytpkcckaaocannaadoor", sum := "87a7e079fab455026d99a7eac14e6711edf4e04f03756681e0e88f048e8c96e1", func := "shutter/shutterlaw18.ReadModified", spec := "readModified", inPlace := ["internal/reflectlite.ValueOf", "(internal/reflectlite.Value).Type", "(internal/reflectlite.Value).IsNil", "internal/reflectlite.TypeOf", "(internal/reflectlite.Value).Elem", "(internal/reflectlite.Value).Set"], unfollowed := true, recurses := true, named := ["errors.errorType"], apart := false, laid := [("errors.errorType", laid_errors_errorType)], narrowed := true }
def ReadModifiedUptoSaid : Prop := readModifiedUptoRow.holds Tryd.pinned (OpenSpec.upto readModifiedSpec)

/-- 'shutterlaw18.ReadImages', WHERE WHAT IT READS IS OF BULK AT MOST 1048576: true; the input reads as it did. -/
def readImagesUptoRow : OpenClaim := { program := "ytpkcckaaocannaadoor", sum := "87a7e079fab455026d99a7eac14e6711edf4e04f03756681e0e88f048e8c96e1", func := "shutter/shutterlaw18.ReadImages", spec := "readImages", inPlace := ["internal/reflectlite.ValueOf", "(internal/reflectlite.Value).Type", "(internal/reflectlite.Value).IsNil", "internal/reflectlite.TypeOf", "(internal/reflectlite.Value).Elem", "(internal/reflectlite.Value).Set"], unfollowed := true, recurses := true, named := ["errors.errorType"], apart := false, laid := [("errors.errorType", laid_errors_errorType)], narrowed := true }
def ReadImagesUptoSaid : Prop := readImagesUptoRow.holds Tryd.pinned (OpenSpec.upto readImagesSpec)

/-- 'shutterlaw18.ReadKeeps', WHERE WHAT IT READS IS OF BULK AT MOST 1048576: true; the input reads as it did. -/
def readKeepsUptoRow : OpenClaim := { program := "ytpkcckaaocannaadoor", sum := "87a7e079fab455026d99a7eac14e6711edf4e04f03756681e0e88f048e8c96e1", func := "shutter/shutterlaw18.ReadKeeps", spec := "readKeeps", inPlace := ["internal/reflectlite.ValueOf", "(internal/reflectlite.Value).Type", "(internal/reflectlite.Value).IsNil", "internal/reflectlite.TypeOf", "(internal/reflectlite.Value).Elem", "(internal/reflectlite.Value).Set"], unfollowed := true, recurses := true, named := ["errors.errorType"], apart := false, laid := [("errors.errorType", laid_errors_errorType)], narrowed := true }
def ReadKeepsUptoSaid : Prop := readKeepsUptoRow.holds Tryd.pinned (OpenSpec.upto readKeepsSpec)

/-- 'shutterlaw18.ReadAlone', WHERE WHAT IT READS IS OF BULK AT MOST 1048576: true; the input reads as it did. -/
def readAloneUptoRow : OpenClaim := { program := "ytpkcckaaocannaadoor", sum := "87a7e079fab455026d99a7eac14e6711edf4e04f03756681e0e88f048e8c96e1", func := "shutter/shutterlaw18.ReadAlone", spec := "readAlone", inPlace := ["internal/reflectlite.ValueOf", "(internal/reflectlite.Value).Type", "(internal/reflectlite.Value).IsNil", "internal/reflectlite.TypeOf", "(internal/reflectlite.Value).Elem", "(internal/reflectlite.Value).Set"], unfollowed := true, recurses := true, named := ["errors.errorType"], apart := false, laid := [("errors.errorType", laid_errors_errorType)], narrowed := true }
def ReadAloneUptoSaid : Prop := readAloneUptoRow.holds Tryd.pinned (OpenSpec.upto readAloneSpec)

/-- 'shutterlaw21.RoamNewest', WHERE WHAT IT READS IS OF BULK AT MOST 1048576: true; the input reads as it did. -/
def roamNewestUptoRow : OpenClaim := { program := "ytpkcckaaocannaadoor", sum := "87a7e079fab455026d99a7eac14e6711edf4e04f03756681e0e88f048e8c96e1", func := "shutter/shutterlaw21.RoamNewest", spec := "roamNewest", inPlace := ["slices.overlaps[[]byte]", "internal/reflectlite.ValueOf", "(internal/reflectlite.Value).Type", "(internal/reflectlite.Value).IsNil", "internal/reflectlite.TypeOf", "(internal/reflectlite.Value).Elem", "(internal/reflectlite.Value).Set"], unfollowed := true, recurses := true, named := ["errors.errorType"], apart := false, laid := [("errors.errorType", laid_errors_errorType)], narrowed := true }
def RoamNewestUptoSaid : Prop := roamNewestUptoRow.holds Tryd.pinned (OpenSpec.upto roamNewestSpec)

/-- 'shutterlaw21.RoamKeeps', WHERE WHAT IT READS IS OF BULK AT MOST 1048576: true; the input reads as it did. -/
def roamKeepsUptoRow : OpenClaim := { program := "ytpkcckaaocannaadoor", sum := "87a7e079fab455026d99a7eac14e6711edf4e04f03756681e0e88f048e8c96e1", func := "shutter/shutterlaw21.RoamKeeps", spec := "roamKeeps", inPlace := ["slices.overlaps[[]byte]", "internal/reflectlite.ValueOf", "(internal/reflectlite.Value).Type", "(internal/reflectlite.Value).IsNil", "internal/reflectlite.TypeOf", "(internal/reflectlite.Value).Elem", "(internal/reflectlite.Value).Set"], unfollowed := true, recurses := true, named := ["errors.errorType"], apart := false, laid := [("errors.errorType", laid_errors_errorType)], narrowed := true }
def RoamKeepsUptoSaid : Prop := roamKeepsUptoRow.holds Tryd.pinned (OpenSpec.upto roamKeepsSpec)

/-- 'shutterlaw21.RoamAgain', WHERE WHAT IT READS IS OF BULK AT MOST 1048576: true; the input reads as it did. -/
def roamAgainUptoRow : OpenClaim := { program := "ytpkcckaaocannaadoor", sum := "87a7e079fab455026d99a7eac14e6711edf4e04f03756681e0e88f048e8c96e1", func := "shutter/shutterlaw21.RoamAgain", spec := "roamAgain", inPlace := ["slices.overlaps[[]byte]", "internal/reflectlite.ValueOf", "(internal/reflectlite.Value).Type", "(internal/reflectlite.Value).IsNil", "internal/reflectlite.TypeOf", "(internal/reflectlite.Value).Elem", "(internal/reflectlite.Value).Set"], unfollowed := true, recurses := true, named := ["errors.errorType"], apart := false, laid := [("errors.errorType", laid_errors_errorType)], narrowed := true }
def RoamAgainUptoSaid : Prop := roamAgainUptoRow.holds Tryd.pinned (OpenSpec.upto roamAgainSpec)

/-- 'shutterlaw06.BytesKeeps', WHERE WHAT IT READS IS OF BULK AT MOST 1048576: true; the input reads as it did. -/
def bytesKeepsUptoRow : OpenClaim := { program := "ytpkcckaaocannaadoor", sum := "87a7e079fab455026d99a7eac14e6711edf4e04f03756681e0e88f048e8c96e1", func := "shutter/shutterlaw06.BytesKeeps", spec := "bytesKeeps", inPlace := ["internal/reflectlite.ValueOf", "(internal/reflectlite.Value).Type", "(internal/reflectlite.Value).IsNil", "internal/reflectlite.TypeOf", "(internal/reflectlite.Value).Elem", "(internal/reflectlite.Value).Set"], unfollowed := true, recurses := true, named := ["errors.errorType"], apart := false, laid := [("errors.errorType", laid_errors_errorType)], narrowed := true }
def BytesKeepsUptoSaid : Prop := bytesKeepsUptoRow.holds Tryd.pinned (OpenSpec.upto bytesKeepsSpec)

end Rows
end Go.Proofs.YtpkcckaaocannaaDoor
