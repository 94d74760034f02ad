/-
  NARROWER THAN 'FOR EVERY INPUT', by the rows' own cells (each row's printed sentence says how): BytesTake: laid · BytesKeeps: laid · AddrBack: laid · AddrApart: laid · AddrWays: laid · AddrGets: laid · BytesActs: laid · BytesSticks: laid.
  DERIVED. THE GIVEN ROWS OF THIS SEAT. 8 by the template 'for every input the law returns true; each argument reads behind the call as it read before'; 0 by the template 'total and deterministic' (their statements: YtenlbpcfilmgpaaDoorTotals.lean).
  GIVEN WITH THE SEED: the statements are not yours to turn. If you find one false, say at which input.
  Laid BY PROGRAM, IN A SANDBOX (cutbox-rows.mjs): the forced cells as the released guide's own fill.sh prints them over the translation d3b735de5606775f… (all of the seat's roots in one cut). By AI agents, Wed Nov 11 2026. No macro, syntax, notation, axiom, sorry.
-/
import Derived.Test.YtenlbpcfilmgpaaDoorChecked
import GoSem.Claim
import GoSem.ClaimJoined
import GoSem.ClaimMapViews
import Derived.JoinedTies
import Derived.KernelRfl
namespace Go.Proofs.YtenlbpcfilmgpaaDoor
/- THE CELL 'sum', in the pinned program and in every row, IS THE sha256 OF THE DUMP (.gsa) THAT YtenlbpcfilmgpaaDoorProg.lean LOADS. Nothing in Lean hashes anything: it is a label: what it is worth is what the hold of that sum in a sandbox is worth. -/
noncomputable def Tryd.pinned : Pinned := { name := "ytenlbpcfilmgpaadoor", sum := "d3b735de5606775f47bbd2a63f2713983608cf437453b0a0dc00404f534bc57c", checked := Tryd.checked }
namespace Rows
def none {H : Type} : Left H := { results := [], args := [] }

/- WHAT THE LISTED PACKAGE-LEVEL VARIABLES READ AS WHEN THE CALL BEGINS. Each datum BY PROGRAM (the guide's laid-datum.mjs) off the statement by which the dump's own 'gosem.cut.vars' lays the variable. In a bare row this is a premise. The card (YtenlbpcfilmgpaaDoorCards.lean) ties it to the program's text. -/
def laid_errors_errorType {H : Type} : DataW H := .iface "internal/reflectlite.rtype" (.agg [.ptr (.lit (.string [101, 114, 114, 111, 114]))])

/-- 'shutterlaw06.BytesTake': WHATEVER THE INPUT: true; the input reads as it did. -/
def bytesTakeSpec : ChangeSpec := { name := "bytesTake", fn := fun _ => fun
  | [d1, d2] => { results := [.lit (.bool true)], args := [d1, d2] }
  | _ => none }
def bytesTakeRow : OpenClaim := { program := "ytenlbpcfilmgpaadoor", sum := "d3b735de5606775f47bbd2a63f2713983608cf437453b0a0dc00404f534bc57c", func := "shutter/shutterlaw06.BytesTake", spec := "bytesTake", inPlace := ["internal/reflectlite.ValueOf", "(internal/reflectlite.Value).Type", "(internal/reflectlite.Value).IsNil", "internal/reflectlite.TypeOf", "(internal/reflectlite.Value).Elem", "(internal/reflectlite.Value).Set"], unfollowed := true, recurses := true, named := ["errors.errorType"], apart := false, laid := [("errors.errorType", laid_errors_errorType)] }
def BytesTakeSaid : Prop := bytesTakeRow.holds Tryd.pinned (OpenSpec.ofChange bytesTakeSpec)

/-- ITS FALSE NEIGHBOUR: 'it returns false'. Refute it at one input. -/
def bytesTakeWrong : ChangeSpec := { name := "bytesTake", fn := fun _ => fun
  | [d1, d2] => { results := [.lit (.bool false)], args := [d1, d2] }
  | _ => none }
def BytesTakeWrongFalsely : Prop := bytesTakeRow.holds Tryd.pinned (OpenSpec.ofChange bytesTakeWrong)

/-- 'shutterlaw06.BytesKeeps': WHATEVER THE INPUT: true; the input reads as it did. -/
def bytesKeepsSpec : ChangeSpec := { name := "bytesKeeps", fn := fun _ => fun
  | [d] => { results := [.lit (.bool true)], args := [d] }
  | _ => none }
def bytesKeepsRow : OpenClaim := { program := "ytenlbpcfilmgpaadoor", sum := "d3b735de5606775f47bbd2a63f2713983608cf437453b0a0dc00404f534bc57c", func := "shutter/shutterlaw06.BytesKeeps", spec := "bytesKeeps", inPlace := ["internal/reflectlite.ValueOf", "(internal/reflectlite.Value).Type", "(internal/reflectlite.Value).IsNil", "internal/reflectlite.TypeOf", "(internal/reflectlite.Value).Elem", "(internal/reflectlite.Value).Set"], unfollowed := true, recurses := true, named := ["errors.errorType"], apart := false, laid := [("errors.errorType", laid_errors_errorType)] }
def BytesKeepsSaid : Prop := bytesKeepsRow.holds Tryd.pinned (OpenSpec.ofChange bytesKeepsSpec)

/-- ITS FALSE NEIGHBOUR: 'it returns false'. Refute it at one input. -/
def bytesKeepsWrong : ChangeSpec := { name := "bytesKeeps", fn := fun _ => fun
  | [d] => { results := [.lit (.bool false)], args := [d] }
  | _ => none }
def BytesKeepsWrongFalsely : Prop := bytesKeepsRow.holds Tryd.pinned (OpenSpec.ofChange bytesKeepsWrong)

/-- 'shutterlaw04.AddrBack': WHATEVER THE INPUT: true; the input reads as it did. -/
def addrBackSpec : ChangeSpec := { name := "addrBack", fn := fun _ => fun
  | [d1, d2, d3, d4] => { results := [.lit (.bool true)], args := [d1, d2, d3, d4] }
  | _ => none }
def addrBackRow : OpenClaim := { program := "ytenlbpcfilmgpaadoor", sum := "d3b735de5606775f47bbd2a63f2713983608cf437453b0a0dc00404f534bc57c", func := "shutter/shutterlaw04.AddrBack", spec := "addrBack", inPlace := ["internal/reflectlite.ValueOf", "(internal/reflectlite.Value).Type", "(internal/reflectlite.Value).IsNil", "internal/reflectlite.TypeOf", "(internal/reflectlite.Value).Elem", "(internal/reflectlite.Value).Set"], unfollowed := true, recurses := true, named := ["errors.errorType"], apart := false, laid := [("errors.errorType", laid_errors_errorType)] }
def AddrBackSaid : Prop := addrBackRow.holds Tryd.pinned (OpenSpec.ofChange addrBackSpec)

/-- ITS FALSE NEIGHBOUR: 'it returns false'. Refute it at one input. -/
def addrBackWrong : ChangeSpec := { name := "addrBack", fn := fun _ => fun
  | [d1, d2, d3, d4] => { results := [.lit (.bool false)], args := [d1, d2, d3, d4] }
  | _ => none }
def AddrBackWrongFalsely : Prop := addrBackRow.holds Tryd.pinned (OpenSpec.ofChange addrBackWrong)

/-- 'shutterlaw04.AddrApart': WHATEVER THE INPUT: true; the input reads as it did. -/
def addrApartSpec : ChangeSpec := { name := "addrApart", fn := fun _ => fun
  | [d1, d2, d3] => { results := [.lit (.bool true)], args := [d1, d2, d3] }
  | _ => none }
def addrApartRow : OpenClaim := { program := "ytenlbpcfilmgpaadoor", sum := "d3b735de5606775f47bbd2a63f2713983608cf437453b0a0dc00404f534bc57c", func := "shutter/shutterlaw04.AddrApart", spec := "addrApart", inPlace := ["internal/reflectlite.ValueOf", "(internal/reflectlite.Value).Type", "(internal/reflectlite.Value).IsNil", "internal/reflectlite.TypeOf", "(internal/reflectlite.Value).Elem", "(internal/reflectlite.Value).Set"], unfollowed := true, recurses := true, named := ["errors.errorType"], apart := false, laid := [("errors.errorType", laid_errors_errorType)] }
def AddrApartSaid : Prop := addrApartRow.holds Tryd.pinned (OpenSpec.ofChange addrApartSpec)

/-- ITS FALSE NEIGHBOUR: 'it returns false'. Refute it at one input. -/
def addrApartWrong : ChangeSpec := { name := "addrApart", fn := fun _ => fun
  | [d1, d2, d3] => { results := [.lit (.bool false)], args := [d1, d2, d3] }
  | _ => none }
def AddrApartWrongFalsely : Prop := addrApartRow.holds Tryd.pinned (OpenSpec.ofChange addrApartWrong)

/-- 'shutterlaw04.AddrWays': WHATEVER THE INPUT: true; the input reads as it did. -/
def addrWaysSpec : ChangeSpec := { name := "addrWays", fn := fun _ => fun
  | [d1, d2] => { results := [.lit (.bool true)], args := [d1, d2] }
  | _ => none }
def addrWaysRow : OpenClaim := { program := "ytenlbpcfilmgpaadoor", sum := "d3b735de5606775f47bbd2a63f2713983608cf437453b0a0dc00404f534bc57c", func := "shutter/shutterlaw04.AddrWays", spec := "addrWays", inPlace := ["internal/reflectlite.ValueOf", "(internal/reflectlite.Value).Type", "(internal/reflectlite.Value).IsNil", "internal/reflectlite.TypeOf", "(internal/reflectlite.Value).Elem", "(internal/reflectlite.Value).Set"], unfollowed := true, recurses := true, named := ["errors.errorType"], apart := false, laid := [("errors.errorType", laid_errors_errorType)] }
def AddrWaysSaid : Prop := addrWaysRow.holds Tryd.pinned (OpenSpec.ofChange addrWaysSpec)

/-- ITS FALSE NEIGHBOUR: 'it returns false'. Refute it at one input. -/
def addrWaysWrong : ChangeSpec := { name := "addrWays", fn := fun _ => fun
  | [d1, d2] => { results := [.lit (.bool false)], args := [d1, d2] }
  | _ => none }
def AddrWaysWrongFalsely : Prop := addrWaysRow.holds Tryd.pinned (OpenSpec.ofChange addrWaysWrong)

/-- 'shutterlaw04.AddrGets': WHATEVER THE INPUT: true; the input reads as it did. -/
def addrGetsSpec : ChangeSpec := { name := "addrGets", fn := fun _ => fun
  | [d1, d2] => { results := [.lit (.bool true)], args := [d1, d2] }
  | _ => none }
def addrGetsRow : OpenClaim := { program := "ytenlbpcfilmgpaadoor", sum := "d3b735de5606775f47bbd2a63f2713983608cf437453b0a0dc00404f534bc57c", func := "shutter/shutterlaw04.AddrGets", spec := "addrGets", inPlace := ["internal/reflectlite.ValueOf", "(internal/reflectlite.Value).Type", "(internal/reflectlite.Value).IsNil", "internal/reflectlite.TypeOf", "(internal/reflectlite.Value).Elem", "(internal/reflectlite.Value).Set"], unfollowed := true, recurses := true, named := ["errors.errorType"], apart := false, laid := [("errors.errorType", laid_errors_errorType)] }
def AddrGetsSaid : Prop := addrGetsRow.holds Tryd.pinned (OpenSpec.ofChange addrGetsSpec)

/-- ITS FALSE NEIGHBOUR: 'it returns false'. Refute it at one input. -/
def addrGetsWrong : ChangeSpec := { name := "addrGets", fn := fun _ => fun
  | [d1, d2] => { results := [.lit (.bool false)], args := [d1, d2] }
  | _ => none }
def AddrGetsWrongFalsely : Prop := addrGetsRow.holds Tryd.pinned (OpenSpec.ofChange addrGetsWrong)

/-- 'shutterlaw06.BytesActs': WHATEVER THE INPUT: true; the input reads as it did. -/
def bytesActsSpec : ChangeSpec := { name := "bytesActs", fn := fun _ => fun
  | [d1, d2, d3] => { results := [.lit (.bool true)], args := [d1, d2, d3] }
  | _ => none }
def bytesActsRow : OpenClaim := { program := "ytenlbpcfilmgpaadoor", sum := "d3b735de5606775f47bbd2a63f2713983608cf437453b0a0dc00404f534bc57c", func := "shutter/shutterlaw06.BytesActs", spec := "bytesActs", inPlace := ["internal/reflectlite.ValueOf", "(internal/reflectlite.Value).Type", "(internal/reflectlite.Value).IsNil", "internal/reflectlite.TypeOf", "(internal/reflectlite.Value).Elem", "(internal/reflectlite.Value).Set"], unfollowed := true, recurses := true, named := ["errors.errorType"], apart := false, laid := [("errors.errorType", laid_errors_errorType)] }
def BytesActsSaid : Prop := bytesActsRow.holds Tryd.pinned (OpenSpec.ofChange bytesActsSpec)

/-- ITS FALSE NEIGHBOUR: 'it returns false'. Refute it at one input. -/
def bytesActsWrong : ChangeSpec := { name := "bytesActs", fn := fun _ => fun
  | [d1, d2, d3] => { results := [.lit (.bool false)], args := [d1, d2, d3] }
  | _ => none }
def BytesActsWrongFalsely : Prop := bytesActsRow.holds Tryd.pinned (OpenSpec.ofChange bytesActsWrong)

/-- 'shutterlaw06.BytesSticks': WHATEVER THE INPUT: true; the input reads as it did. -/
def bytesSticksSpec : ChangeSpec := { name := "bytesSticks", fn := fun _ => fun
  | [d1, d2, d3] => { results := [.lit (.bool true)], args := [d1, d2, d3] }
  | _ => none }
def bytesSticksRow : OpenClaim := { program := "ytenlbpcfilmgpaadoor", sum := "d3b735de5606775f47bbd2a63f2713983608cf437453b0a0dc00404f534bc57c", func := "shutter/shutterlaw06.BytesSticks", spec := "bytesSticks", inPlace := ["internal/reflectlite.ValueOf", "(internal/reflectlite.Value).Type", "(internal/reflectlite.Value).IsNil", "internal/reflectlite.TypeOf", "(internal/reflectlite.Value).Elem", "(internal/reflectlite.Value).Set"], unfollowed := true, recurses := true, named := ["errors.errorType"], apart := false, laid := [("errors.errorType", laid_errors_errorType)] }
def BytesSticksSaid : Prop := bytesSticksRow.holds Tryd.pinned (OpenSpec.ofChange bytesSticksSpec)

/-- ITS FALSE NEIGHBOUR: 'it returns false'. Refute it at one input. -/
def bytesSticksWrong : ChangeSpec := { name := "bytesSticks", fn := fun _ => fun
  | [d1, d2, d3] => { results := [.lit (.bool false)], args := [d1, d2, d3] }
  | _ => none }
def BytesSticksWrongFalsely : Prop := bytesSticksRow.holds Tryd.pinned (OpenSpec.ofChange bytesSticksWrong)

/- THE SECOND FORM. 'bulk': how many values and letters a reading holds, each counted each time it is reached (what is shared counts as often as it is met; a slice's spare places count too). A statement '..UptoSaid' is the law's where the arguments, and the package variables that the reading takes, are together of bulk at most 1048576: NARROWER than '..Said'. Prove '..Said' where nothing that the law and all that it calls make is longer than what came in: it says more and counts as full. Else prove '..UptoSaid'. A law counts once. -/
mutual
def uptoBulk {H : Type} : DataW H → Nat
  | .lit (.string bytes) => bytes.length + 1
  | .lit _ => 1
  | .nil => 1
  | .ptr d => uptoBulk d + 1
  | .slice elems spare => uptoBulkAll elems + uptoBulkAll spare + 1
  | .agg parts => uptoBulkAll parts + 1
  | .iface _ d => uptoBulk d + 1
  | .map entries => uptoBulkEntries entries + 1
  | .held _ => 1
def uptoBulkAll {H : Type} : List (DataW H) → Nat
  | [] => 0
  | d :: r => uptoBulk d + uptoBulkAll r
def uptoBulkEntries {H : Type} : List (Lit × DataW H) → Nat
  | [] => 0
  | x :: r => uptoBulkEntry x + uptoBulkEntries r
def uptoBulkEntry {H : Type} : Lit × DataW H → Nat
  | (.string bytes, d) => bytes.length + uptoBulk d + 1
  | (_, d) => uptoBulk d + 1
 end
def uptoSmall : (H : Type) → List (DataW H) → Bool := fun _ ds => decide (uptoBulkAll ds ≤ 1048576)
def OpenSpec.upto (s : _root_.Go.ChangeSpec) : _root_.Go.OpenSpec := { _root_.Go.OpenSpec.ofChange s with cond := some uptoSmall }

/-- 'shutterlaw06.BytesTake', WHERE WHAT IT READS IS OF BULK AT MOST 1048576: true; the input reads as it did. -/
def bytesTakeUptoRow : OpenClaim := { program := "ytenlbpcfilmgpaadoor", sum := "d3b735de5606775f47bbd2a63f2713983608cf437453b0a0dc00404f534bc57c", func := "shutter/shutterlaw06.BytesTake", spec := "bytesTake", inPlace := ["internal/reflectlite.ValueOf", "(internal/reflectlite.Value).Type", "(internal/reflectlite.Value).IsNil", "internal/reflectlite.TypeOf", "(internal/reflectlite.Value).Elem", "(internal/reflectlite.Value).Set"], unfollowed := true, recurses := true, named := ["errors.errorType"], apart := false, laid := [("errors.errorType", laid_errors_errorType)], narrowed := true }
def BytesTakeUptoSaid : Prop := bytesTakeUptoRow.holds Tryd.pinned (OpenSpec.upto bytesTakeSpec)

/-- 'shutterlaw06.BytesKeeps', WHERE WHAT IT READS IS OF BULK AT MOST 1048576: true; the input reads as it did. -/
def bytesKeepsUptoRow : OpenClaim := { program := "ytenlbpcfilmgpaadoor", sum := "d3b735de5606775f47bbd2a63f2713983608cf437453b0a0dc00404f534bc57c", func := "shutter/shutterlaw06.BytesKeeps", spec := "bytesKeeps", inPlace := ["internal/reflectlite.ValueOf", "(internal/reflectlite.Value).Type", "(internal/reflectlite.Value).IsNil", "internal/reflectlite.TypeOf", "(internal/reflectlite.Value).Elem", "(internal/reflectlite.Value).Set"], unfollowed := true, recurses := true, named := ["errors.errorType"], apart := false, laid := [("errors.errorType", laid_errors_errorType)], narrowed := true }
def BytesKeepsUptoSaid : Prop := bytesKeepsUptoRow.holds Tryd.pinned (OpenSpec.upto bytesKeepsSpec)

/-- 'shutterlaw04.AddrBack', WHERE WHAT IT READS IS OF BULK AT MOST 1048576: true; the input reads as it did. -/
def addrBackUptoRow : OpenClaim := { program := "ytenlbpcfilmgpaadoor", sum := "d3b735de5606775f47bbd2a63f2713983608cf437453b0a0dc00404f534bc57c", func := "shutter/shutterlaw04.AddrBack", spec := "addrBack", inPlace := ["internal/reflectlite.ValueOf", "(internal/reflectlite.Value).Type", "(internal/reflectlite.Value).IsNil", "internal/reflectlite.TypeOf", "(internal/reflectlite.Value).Elem", "(internal/reflectlite.Value).Set"], unfollowed := true, recurses := true, named := ["errors.errorType"], apart := false, laid := [("errors.errorType", laid_errors_errorType)], narrowed := true }
def AddrBackUptoSaid : Prop := addrBackUptoRow.holds Tryd.pinned (OpenSpec.upto addrBackSpec)

/-- 'shutterlaw04.AddrApart', WHERE WHAT IT READS IS OF BULK AT MOST 1048576: true; the input reads as it did. -/
def addrApartUptoRow : OpenClaim := { program := "ytenlbpcfilmgpaadoor", sum := "d3b735de5606775f47bbd2a63f2713983608cf437453b0a0dc00404f534bc57c", func := "shutter/shutterlaw04.AddrApart", spec := "addrApart", inPlace := ["internal/reflectlite.ValueOf", "(internal/reflectlite.Value).Type", "(internal/reflectlite.Value).IsNil", "internal/reflectlite.TypeOf", "(internal/reflectlite.Value).Elem", "(internal/reflectlite.Value).Set"], unfollowed := true, recurses := true, named := ["errors.errorType"], apart := false, laid := [("errors.errorType", laid_errors_errorType)], narrowed := true }
def AddrApartUptoSaid : Prop := addrApartUptoRow.holds Tryd.pinned (OpenSpec.upto addrApartSpec)

/-- 'shutterlaw04.AddrWays', WHERE WHAT IT READS IS OF BULK AT MOST 1048576: true; the input reads as it did. -/
def addrWaysUptoRow : OpenClaim := { program := "ytenlbpcfilmgpaadoor", sum := "d3b735de5606775f47bbd2a63f2713983608cf437453b0a0dc00404f534bc57c", func := "shutter/shutterlaw04.AddrWays", spec := "addrWays", inPlace := ["internal/reflectlite.ValueOf", "(internal/reflectlite.Value).Type", "(internal/reflectlite.Value).IsNil", "internal/reflectlite.TypeOf", "(internal/reflectlite.Value).Elem", "(internal/reflectlite.Value).Set"], unfollowed := true, recurses := true, named := ["errors.errorType"], apart := false, laid := [("errors.errorType", laid_errors_errorType)], narrowed := true }
def AddrWaysUptoSaid : Prop := addrWaysUptoRow.holds Tryd.pinned (OpenSpec.upto addrWaysSpec)

/-- 'shutterlaw04.AddrGets', WHERE WHAT IT READS IS OF BULK AT MOST 1048576: true; the input reads as it did. -/
def addrGetsUptoRow : OpenClaim := { program := "ytenlbpcfilmgpaadoor", sum := "d3b735de5606775f47bbd2a63f2713983608cf437453b0a0dc00404f534bc57c", func := "shutter/shutterlaw04.AddrGets", spec := "addrGets", inPlace := ["internal/reflectlite.ValueOf", "(internal/reflectlite.Value).Type", "(internal/reflectlite.Value).IsNil", "internal/reflectlite.TypeOf", "(internal/reflectlite.Value).Elem", "(internal/reflectlite.Value).Set"], unfollowed := true, recurses := true, named := ["errors.errorType"], apart := false, laid := [("errors.errorType", laid_errors_errorType)], narrowed := true }
def AddrGetsUptoSaid : Prop := addrGetsUptoRow.holds Tryd.pinned (OpenSpec.upto addrGetsSpec)

/-- 'shutterlaw06.BytesActs', WHERE WHAT IT READS IS OF BULK AT MOST 1048576: true; the input reads as it did. -/
def bytesActsUptoRow : OpenClaim := { program := "ytenlbpcfilmgpaadoor", sum := "d3b735de5606775f47bbd2a63f2713983608cf437453b0a0dc00404f534bc57c", func := "shutter/shutterlaw06.BytesActs", spec := "bytesActs", inPlace := ["internal/reflectlite.ValueOf", "(internal/reflectlite.Value).Type", "(internal/reflectlite.Value).IsNil", "internal/reflectlite.TypeOf", "(internal/reflectlite.Value).Elem", "(internal/reflectlite.Value).Set"], unfollowed := true, recurses := true, named := ["errors.errorType"], apart := false, laid := [("errors.errorType", laid_errors_errorType)], narrowed := true }
def BytesActsUptoSaid : Prop := bytesActsUptoRow.holds Tryd.pinned (OpenSpec.upto bytesActsSpec)

/-- 'shutterlaw06.BytesSticks', WHERE WHAT IT READS IS OF BULK AT MOST 1048576: true; the input reads as it did. -/
def bytesSticksUptoRow : OpenClaim := { program := "ytenlbpcfilmgpaadoor", sum := "d3b735de5606775f47bbd2a63f2713983608cf437453b0a0dc00404f534bc57c", func := "shutter/shutterlaw06.BytesSticks", spec := "bytesSticks", inPlace := ["internal/reflectlite.ValueOf", "(internal/reflectlite.Value).Type", "(internal/reflectlite.Value).IsNil", "internal/reflectlite.TypeOf", "(internal/reflectlite.Value).Elem", "(internal/reflectlite.Value).Set"], unfollowed := true, recurses := true, named := ["errors.errorType"], apart := false, laid := [("errors.errorType", laid_errors_errorType)], narrowed := true }
def BytesSticksUptoSaid : Prop := bytesSticksUptoRow.holds Tryd.pinned (OpenSpec.upto bytesSticksSpec)

end Rows
end Go.Proofs.YtenlbpcfilmgpaaDoor
