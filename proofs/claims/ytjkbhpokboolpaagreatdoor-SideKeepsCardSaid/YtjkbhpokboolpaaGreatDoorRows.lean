/-
  NARROWER THAN 'FOR EVERY INPUT', by the rows' own cells (each row's printed sentence says how): WholeFormats: laid · SideNews: laid · SideKeeps: laid · SideKeys: laid · SideSeals: laid · SideReplay: laid · SideTalk: laid · SideRefuses: laid.
  DERIVED. THE GIVEN ROWS OF THIS SEAT. 8 by the template 'for every input the law returns true; each argument reads behind the call as it read before'; 0 by the template 'total and deterministic' (their statements: YtjkbhpokboolpaaGreatDoorTotals.lean).
  GIVEN WITH THE SEED: the statements are not yours to turn. If you find one false, say at which input.
  Laid BY PROGRAM, IN A SANDBOX (cutbox-rows.mjs): the forced cells as the released guide's own fill.sh prints them over the translation fe0a6ea7a165f6ce… (all of the seat's roots in one cut). By AI agents, Wed Nov 11 2026. No macro, syntax, notation, axiom, sorry.
-/
import Derived.Test.YtjkbhpokboolpaaGreatDoorChecked
import GoSem.Claim
import GoSem.ClaimJoined
import GoSem.ClaimMapViews
import Derived.JoinedTies
import Derived.KernelRfl
namespace Go.Proofs.YtjkbhpokboolpaaGreatDoor
/- THE CELL 'sum', in the pinned program and in every row, IS THE sha256 OF THE DUMP (.gsa) THAT YtjkbhpokboolpaaGreatDoorProg.lean LOADS. Nothing in Lean hashes anything: it is a label: what it is worth is what the hold of that sum in a sandbox is worth. -/
noncomputable def Tryz.pinned : Pinned := { name := "ytjkbhpokboolpaagreatdoor", sum := "fe0a6ea7a165f6ce00481cac251cc372a8cf3523707f5eafaed8e0598f8b6a35", checked := Tryz.checked }
namespace Rows
def none {H : Type} : Left H := { results := [], args := [] }

/- WHAT THE LISTED PACKAGE-LEVEL VARIABLES READ AS WHEN THE CALL BEGINS. Each datum BY PROGRAM (the guide's laid-datum.mjs) off the statement by which the dump's own 'gosem.cut.vars' lays the variable. In a bare row this is a premise. The card (YtjkbhpokboolpaaGreatDoorCards.lean) ties it to the program's text. -/
def laid_errors_errorType {H : Type} : DataW H := .iface "internal/reflectlite.rtype" (.agg [.ptr (.lit (.string [101, 114, 114, 111, 114]))])

/-- 'shuttertop.WholeFormats': WHATEVER THE INPUT: true; the input reads as it did. -/
def wholeFormatsSpec : ChangeSpec := { name := "wholeFormats", fn := fun _ => fun
  | [d1, d2, d3, d4] => { results := [.lit (.bool true)], args := [d1, d2, d3, d4] }
  | _ => none }
def wholeFormatsRow : OpenClaim := { program := "ytjkbhpokboolpaagreatdoor", sum := "fe0a6ea7a165f6ce00481cac251cc372a8cf3523707f5eafaed8e0598f8b6a35", func := "shutter/shuttertop.WholeFormats", spec := "wholeFormats", inPlace := ["slices.overlaps[[]byte]", "internal/reflectlite.ValueOf", "(internal/reflectlite.Value).Type", "(internal/reflectlite.Value).IsNil", "internal/reflectlite.TypeOf", "(internal/reflectlite.Value).Elem", "(internal/reflectlite.Value).Set"], unfollowed := true, recurses := true, named := ["errors.errorType"], apart := false, laid := [("errors.errorType", laid_errors_errorType)] }
def WholeFormatsSaid : Prop := wholeFormatsRow.holds Tryz.pinned (OpenSpec.ofChange wholeFormatsSpec)

/-- ITS FALSE NEIGHBOUR: 'it returns false'. Refute it at one input. -/
def wholeFormatsWrong : ChangeSpec := { name := "wholeFormats", fn := fun _ => fun
  | [d1, d2, d3, d4] => { results := [.lit (.bool false)], args := [d1, d2, d3, d4] }
  | _ => none }
def WholeFormatsWrongFalsely : Prop := wholeFormatsRow.holds Tryz.pinned (OpenSpec.ofChange wholeFormatsWrong)

/-- 'shutterlaw25.SideNews': WHATEVER THE INPUT: true; the input reads as it did. -/
def sideNewsSpec : ChangeSpec := { name := "sideNews", fn := fun _ => fun
  | [d1, d2] => { results := [.lit (.bool true)], args := [d1, d2] }
  | _ => none }
def sideNewsRow : OpenClaim := { program := "ytjkbhpokboolpaagreatdoor", sum := "fe0a6ea7a165f6ce00481cac251cc372a8cf3523707f5eafaed8e0598f8b6a35", func := "shutter/shutterlaw25.SideNews", spec := "sideNews", inPlace := ["internal/reflectlite.ValueOf", "(internal/reflectlite.Value).Type", "(internal/reflectlite.Value).IsNil", "internal/reflectlite.TypeOf", "(internal/reflectlite.Value).Elem", "(internal/reflectlite.Value).Set", "slices.overlaps[[]byte]"], unfollowed := true, recurses := true, named := ["errors.errorType"], apart := false, laid := [("errors.errorType", laid_errors_errorType)] }
def SideNewsSaid : Prop := sideNewsRow.holds Tryz.pinned (OpenSpec.ofChange sideNewsSpec)

/-- ITS FALSE NEIGHBOUR: 'it returns false'. Refute it at one input. -/
def sideNewsWrong : ChangeSpec := { name := "sideNews", fn := fun _ => fun
  | [d1, d2] => { results := [.lit (.bool false)], args := [d1, d2] }
  | _ => none }
def SideNewsWrongFalsely : Prop := sideNewsRow.holds Tryz.pinned (OpenSpec.ofChange sideNewsWrong)

/-- 'shutterlaw25.SideKeeps': WHATEVER THE INPUT: true; the input reads as it did. -/
def sideKeepsSpec : ChangeSpec := { name := "sideKeeps", fn := fun _ => fun
  | [d1, d2] => { results := [.lit (.bool true)], args := [d1, d2] }
  | _ => none }
def sideKeepsRow : OpenClaim := { program := "ytjkbhpokboolpaagreatdoor", sum := "fe0a6ea7a165f6ce00481cac251cc372a8cf3523707f5eafaed8e0598f8b6a35", func := "shutter/shutterlaw25.SideKeeps", spec := "sideKeeps", inPlace := ["internal/reflectlite.ValueOf", "(internal/reflectlite.Value).Type", "(internal/reflectlite.Value).IsNil", "internal/reflectlite.TypeOf", "(internal/reflectlite.Value).Elem", "(internal/reflectlite.Value).Set", "slices.overlaps[[]byte]"], unfollowed := true, recurses := true, named := ["errors.errorType"], apart := false, laid := [("errors.errorType", laid_errors_errorType)] }
def SideKeepsSaid : Prop := sideKeepsRow.holds Tryz.pinned (OpenSpec.ofChange sideKeepsSpec)

/-- ITS FALSE NEIGHBOUR: 'it returns false'. Refute it at one input. -/
def sideKeepsWrong : ChangeSpec := { name := "sideKeeps", fn := fun _ => fun
  | [d1, d2] => { results := [.lit (.bool false)], args := [d1, d2] }
  | _ => none }
def SideKeepsWrongFalsely : Prop := sideKeepsRow.holds Tryz.pinned (OpenSpec.ofChange sideKeepsWrong)

/-- 'shutterlaw25.SideKeys': WHATEVER THE INPUT: true; the input reads as it did. -/
def sideKeysSpec : ChangeSpec := { name := "sideKeys", fn := fun _ => fun
  | [d1, d2] => { results := [.lit (.bool true)], args := [d1, d2] }
  | _ => none }
def sideKeysRow : OpenClaim := { program := "ytjkbhpokboolpaagreatdoor", sum := "fe0a6ea7a165f6ce00481cac251cc372a8cf3523707f5eafaed8e0598f8b6a35", func := "shutter/shutterlaw25.SideKeys", spec := "sideKeys", inPlace := ["internal/reflectlite.ValueOf", "(internal/reflectlite.Value).Type", "(internal/reflectlite.Value).IsNil", "internal/reflectlite.TypeOf", "(internal/reflectlite.Value).Elem", "(internal/reflectlite.Value).Set", "slices.overlaps[[]byte]"], unfollowed := true, recurses := true, named := ["errors.errorType"], apart := false, laid := [("errors.errorType", laid_errors_errorType)] }
def SideKeysSaid : Prop := sideKeysRow.holds Tryz.pinned (OpenSpec.ofChange sideKeysSpec)

/-- ITS FALSE NEIGHBOUR: 'it returns false'. Refute it at one input. -/
def sideKeysWrong : ChangeSpec := { name := "sideKeys", fn := fun _ => fun
  | [d1, d2] => { results := [.lit (.bool false)], args := [d1, d2] }
  | _ => none }
def SideKeysWrongFalsely : Prop := sideKeysRow.holds Tryz.pinned (OpenSpec.ofChange sideKeysWrong)

/-- 'shutterlaw25.SideSeals': WHATEVER THE INPUT: true; the input reads as it did. -/
def sideSealsSpec : ChangeSpec := { name := "sideSeals", fn := fun _ => fun
  | [d1, d2] => { results := [.lit (.bool true)], args := [d1, d2] }
  | _ => none }
def sideSealsRow : OpenClaim := { program := "ytjkbhpokboolpaagreatdoor", sum := "fe0a6ea7a165f6ce00481cac251cc372a8cf3523707f5eafaed8e0598f8b6a35", func := "shutter/shutterlaw25.SideSeals", spec := "sideSeals", inPlace := ["internal/reflectlite.ValueOf", "(internal/reflectlite.Value).Type", "(internal/reflectlite.Value).IsNil", "internal/reflectlite.TypeOf", "(internal/reflectlite.Value).Elem", "(internal/reflectlite.Value).Set", "slices.overlaps[[]byte]"], unfollowed := true, recurses := true, named := ["errors.errorType"], apart := false, laid := [("errors.errorType", laid_errors_errorType)] }
def SideSealsSaid : Prop := sideSealsRow.holds Tryz.pinned (OpenSpec.ofChange sideSealsSpec)

/-- ITS FALSE NEIGHBOUR: 'it returns false'. Refute it at one input. -/
def sideSealsWrong : ChangeSpec := { name := "sideSeals", fn := fun _ => fun
  | [d1, d2] => { results := [.lit (.bool false)], args := [d1, d2] }
  | _ => none }
def SideSealsWrongFalsely : Prop := sideSealsRow.holds Tryz.pinned (OpenSpec.ofChange sideSealsWrong)

/-- 'shutterlaw25.SideReplay': WHATEVER THE INPUT: true; the input reads as it did. -/
def sideReplaySpec : ChangeSpec := { name := "sideReplay", fn := fun _ => fun
  | [d1, d2] => { results := [.lit (.bool true)], args := [d1, d2] }
  | _ => none }
def sideReplayRow : OpenClaim := { program := "ytjkbhpokboolpaagreatdoor", sum := "fe0a6ea7a165f6ce00481cac251cc372a8cf3523707f5eafaed8e0598f8b6a35", func := "shutter/shutterlaw25.SideReplay", spec := "sideReplay", inPlace := ["internal/reflectlite.ValueOf", "(internal/reflectlite.Value).Type", "(internal/reflectlite.Value).IsNil", "internal/reflectlite.TypeOf", "(internal/reflectlite.Value).Elem", "(internal/reflectlite.Value).Set", "slices.overlaps[[]byte]"], unfollowed := true, recurses := true, named := ["errors.errorType"], apart := false, laid := [("errors.errorType", laid_errors_errorType)] }
def SideReplaySaid : Prop := sideReplayRow.holds Tryz.pinned (OpenSpec.ofChange sideReplaySpec)

/-- ITS FALSE NEIGHBOUR: 'it returns false'. Refute it at one input. -/
def sideReplayWrong : ChangeSpec := { name := "sideReplay", fn := fun _ => fun
  | [d1, d2] => { results := [.lit (.bool false)], args := [d1, d2] }
  | _ => none }
def SideReplayWrongFalsely : Prop := sideReplayRow.holds Tryz.pinned (OpenSpec.ofChange sideReplayWrong)

/-- 'shutterlaw25.SideTalk': WHATEVER THE INPUT: true; the input reads as it did. -/
def sideTalkSpec : ChangeSpec := { name := "sideTalk", fn := fun _ => fun
  | [d1, d2] => { results := [.lit (.bool true)], args := [d1, d2] }
  | _ => none }
def sideTalkRow : OpenClaim := { program := "ytjkbhpokboolpaagreatdoor", sum := "fe0a6ea7a165f6ce00481cac251cc372a8cf3523707f5eafaed8e0598f8b6a35", func := "shutter/shutterlaw25.SideTalk", spec := "sideTalk", inPlace := ["internal/reflectlite.ValueOf", "(internal/reflectlite.Value).Type", "(internal/reflectlite.Value).IsNil", "internal/reflectlite.TypeOf", "(internal/reflectlite.Value).Elem", "(internal/reflectlite.Value).Set", "slices.overlaps[[]byte]"], unfollowed := true, recurses := true, named := ["errors.errorType"], apart := false, laid := [("errors.errorType", laid_errors_errorType)] }
def SideTalkSaid : Prop := sideTalkRow.holds Tryz.pinned (OpenSpec.ofChange sideTalkSpec)

/-- ITS FALSE NEIGHBOUR: 'it returns false'. Refute it at one input. -/
def sideTalkWrong : ChangeSpec := { name := "sideTalk", fn := fun _ => fun
  | [d1, d2] => { results := [.lit (.bool false)], args := [d1, d2] }
  | _ => none }
def SideTalkWrongFalsely : Prop := sideTalkRow.holds Tryz.pinned (OpenSpec.ofChange sideTalkWrong)

/-- 'shutterlaw25.SideRefuses': WHATEVER THE INPUT: true; the input reads as it did. -/
def sideRefusesSpec : ChangeSpec := { name := "sideRefuses", fn := fun _ => fun
  | [d1, d2, d3, d4] => { results := [.lit (.bool true)], args := [d1, d2, d3, d4] }
  | _ => none }
def sideRefusesRow : OpenClaim := { program := "ytjkbhpokboolpaagreatdoor", sum := "fe0a6ea7a165f6ce00481cac251cc372a8cf3523707f5eafaed8e0598f8b6a35", func := "shutter/shutterlaw25.SideRefuses", spec := "sideRefuses", inPlace := ["internal/reflectlite.ValueOf", "(internal/reflectlite.Value).Type", "(internal/reflectlite.Value).IsNil", "internal/reflectlite.TypeOf", "(internal/reflectlite.Value).Elem", "(internal/reflectlite.Value).Set", "slices.overlaps[[]byte]"], unfollowed := true, recurses := true, named := ["errors.errorType"], apart := false, laid := [("errors.errorType", laid_errors_errorType)] }
def SideRefusesSaid : Prop := sideRefusesRow.holds Tryz.pinned (OpenSpec.ofChange sideRefusesSpec)

/-- ITS FALSE NEIGHBOUR: 'it returns false'. Refute it at one input. -/
def sideRefusesWrong : ChangeSpec := { name := "sideRefuses", fn := fun _ => fun
  | [d1, d2, d3, d4] => { results := [.lit (.bool false)], args := [d1, d2, d3, d4] }
  | _ => none }
def SideRefusesWrongFalsely : Prop := sideRefusesRow.holds Tryz.pinned (OpenSpec.ofChange sideRefusesWrong)

/- THE SECOND FORM. 'bulk': how many values and letters a reading holds, each counted each time it is reached (what is shared counts as often as it is met; a slice's spare places count too). A statement '..UptoSaid' is the law's where the arguments, and the package variables that the reading takes, are together of bulk at most 1048576: NARROWER than '..Said'. Prove '..Said' where nothing that the law and all that it calls make is longer than what came in: it says more and counts as full. Else prove '..UptoSaid'. A law counts once. -/
mutual
def uptoBulk {H : Type} : DataW H → Nat
  | .lit (.string bytes) => bytes.length + 1
  | .lit _ => 1
  | .nil => 1
  | .ptr d => uptoBulk d + 1
  | .slice elems spare => uptoBulkAll elems + uptoBulkAll spare + 1
  | .agg parts => uptoBulkAll parts + 1
  | .iface _ d => uptoBulk d + 1
  | .map entries => uptoBulkEntries entries + 1
  | .held _ => 1
def uptoBulkAll {H : Type} : List (DataW H) → Nat
  | [] => 0
  | d :: r => uptoBulk d + uptoBulkAll r
def uptoBulkEntries {H : Type} : List (Lit × DataW H) → Nat
  | [] => 0
  | x :: r => uptoBulkEntry x + uptoBulkEntries r
def uptoBulkEntry {H : Type} : Lit × DataW H → Nat
  | (.string bytes, d) => bytes.length + uptoBulk d + 1
  | (_, d) => uptoBulk d + 1
 end
def uptoSmall : (H : Type) → List (DataW H) → Bool := fun _ ds => decide (uptoBulkAll ds ≤ 1048576)
def OpenSpec.upto (s : _root_.Go.ChangeSpec) : _root_.Go.OpenSpec := { _root_.Go.OpenSpec.ofChange s with cond := some uptoSmall }

/-- 'shuttertop.WholeFormats', WHERE WHAT IT READS IS OF BULK AT MOST 1048576: true; the input reads as it did. -/
def wholeFormatsUptoRow : OpenClaim := { program := "ytjkbhpokboolpaagreatdoor", sum := "fe0a6ea7a165f6ce00481cac251cc372a8cf3523707f5eafaed8e0598f8b6a35", func := "shutter/shuttertop.WholeFormats", spec := "wholeFormats", inPlace := ["slices.overlaps[[]byte]", "internal/reflectlite.ValueOf", "(internal/reflectlite.Value).Type", "(internal/reflectlite.Value).IsNil", "internal/reflectlite.TypeOf", "(internal/reflectlite.Value).Elem", "(internal/reflectlite.Value).Set"], unfollowed := true, recurses := true, named := ["errors.errorType"], apart := false, laid := [("errors.errorType", laid_errors_errorType)], narrowed := true }
def WholeFormatsUptoSaid : Prop := wholeFormatsUptoRow.holds Tryz.pinned (OpenSpec.upto wholeFormatsSpec)

/-- 'shutterlaw25.SideNews', WHERE WHAT IT READS IS OF BULK AT MOST 1048576: true; the input reads as it did. -/
def sideNewsUptoRow : OpenClaim := { program := "ytjkbhpokboolpaagreatdoor", sum := "fe0a6ea7a165f6ce00481cac251cc372a8cf3523707f5eafaed8e0598f8b6a35", func := "shutter/shutterlaw25.SideNews", spec := "sideNews", inPlace := ["internal/reflectlite.ValueOf", "(internal/reflectlite.Value).Type", "(internal/reflectlite.Value).IsNil", "internal/reflectlite.TypeOf", "(internal/reflectlite.Value).Elem", "(internal/reflectlite.Value).Set", "slices.overlaps[[]byte]"], unfollowed := true, recurses := true, named := ["errors.errorType"], apart := false, laid := [("errors.errorType", laid_errors_errorType)], narrowed := true }
def SideNewsUptoSaid : Prop := sideNewsUptoRow.holds Tryz.pinned (OpenSpec.upto sideNewsSpec)

/-- 'shutterlaw25.SideKeeps', WHERE WHAT IT READS IS OF BULK AT MOST 1048576: true; the input reads as it did. -/
def sideKeepsUptoRow : OpenClaim := { program := "ytjkbhpokboolpaagreatdoor", sum := "fe0a6ea7a165f6ce00481cac251cc372a8cf3523707f5eafaed8e0598f8b6a35", func := "shutter/shutterlaw25.SideKeeps", spec := "sideKeeps", inPlace := ["internal/reflectlite.ValueOf", "(internal/reflectlite.Value).Type", "(internal/reflectlite.Value).IsNil", "internal/reflectlite.TypeOf", "(internal/reflectlite.Value).Elem", "(internal/reflectlite.Value).Set", "slices.overlaps[[]byte]"], unfollowed := true, recurses := true, named := ["errors.errorType"], apart := false, laid := [("errors.errorType", laid_errors_errorType)], narrowed := true }
def SideKeepsUptoSaid : Prop := sideKeepsUptoRow.holds Tryz.pinned (OpenSpec.upto sideKeepsSpec)

/-- 'shutterlaw25.SideKeys', WHERE WHAT IT READS IS OF BULK AT MOST 1048576: true; the input reads as it did. -/
def sideKeysUptoRow : OpenClaim := { program := "ytjkbhpokboolpaagreatdoor", sum := "fe0a6ea7a165f6ce00481cac251cc372a8cf3523707f5eafaed8e0598f8b6a35", func := "shutter/shutterlaw25.SideKeys", spec := "sideKeys", inPlace := ["internal/reflectlite.ValueOf", "(internal/reflectlite.Value).Type", "(internal/reflectlite.Value).IsNil", "internal/reflectlite.TypeOf", "(internal/reflectlite.Value).Elem", "(internal/reflectlite.Value).Set", "slices.overlaps[[]byte]"], unfollowed := true, recurses := true, named := ["errors.errorType"], apart := false, laid := [("errors.errorType", laid_errors_errorType)], narrowed := true }
def SideKeysUptoSaid : Prop := sideKeysUptoRow.holds Tryz.pinned (OpenSpec.upto sideKeysSpec)

/-- 'shutterlaw25.SideSeals', WHERE WHAT IT READS IS OF BULK AT MOST 1048576: true; the input reads as it did. -/
def sideSealsUptoRow : OpenClaim := { program := "ytjkbhpokboolpaagreatdoor", sum := "fe0a6ea7a165f6ce00481cac251cc372a8cf3523707f5eafaed8e0598f8b6a35", func := "shutter/shutterlaw25.SideSeals", spec := "sideSeals", inPlace := ["internal/reflectlite.ValueOf", "(internal/reflectlite.Value).Type", "(internal/reflectlite.Value).IsNil", "internal/reflectlite.TypeOf", "(internal/reflectlite.Value).Elem", "(internal/reflectlite.Value).Set", "slices.overlaps[[]byte]"], unfollowed := true, recurses := true, named := ["errors.errorType"], apart := false, laid := [("errors.errorType", laid_errors_errorType)], narrowed := true }
def SideSealsUptoSaid : Prop := sideSealsUptoRow.holds Tryz.pinned (OpenSpec.upto sideSealsSpec)

/-- 'shutterlaw25.SideReplay', WHERE WHAT IT READS IS OF BULK AT MOST 1048576: true; the input reads as it did. -/
def sideReplayUptoRow : OpenClaim := { program := "ytjkbhpokboolpaagreatdoor", sum := "fe0a6ea7a165f6ce00481cac251cc372a8cf3523707f5eafaed8e0598f8b6a35", func := "shutter/shutterlaw25.SideReplay", spec := "sideReplay", inPlace := ["internal/reflectlite.ValueOf", "(internal/reflectlite.Value).Type", "(internal/reflectlite.Value).IsNil", "internal/reflectlite.TypeOf", "(internal/reflectlite.Value).Elem", "(internal/reflectlite.Value).Set", "slices.overlaps[[]byte]"], unfollowed := true, recurses := true, named := ["errors.errorType"], apart := false, laid := [("errors.errorType", laid_errors_errorType)], narrowed := true }
def SideReplayUptoSaid : Prop := sideReplayUptoRow.holds Tryz.pinned (OpenSpec.upto sideReplaySpec)

/-- 'shutterlaw25.SideTalk', WHERE WHAT IT READS IS OF BULK AT MOST 1048576: true; the input reads as it did. -/
def sideTalkUptoRow : OpenClaim := { program := "ytjkbhpokboolpaagreatdoor", sum := "fe0a6ea7a165f6ce00481cac251cc372a8cf3523707f5eafaed8e0598f8b6a35", func := "shutter/shutterlaw25.SideTalk", spec := "sideTalk", inPlace := ["internal/reflectlite.ValueOf", "(internal/reflectlite.Value).Type", "(internal/reflectlite.Value).IsNil", "internal/reflectlite.TypeOf", "(internal/reflectlite.Value).Elem", "(internal/reflectlite.Value).Set", "slices.overlaps[[]byte]"], unfollowed := true, recurses := true, named := ["errors.errorType"], apart := false, laid := [("errors.errorType", laid_errors_errorType)], narrowed := true }
def SideTalkUptoSaid : Prop := sideTalkUptoRow.holds Tryz.pinned (OpenSpec.upto sideTalkSpec)

/-- 'shutterlaw25.SideRefuses', WHERE WHAT IT READS IS OF BULK AT MOST 1048576: true; the input reads as it did. -/
def sideRefusesUptoRow : OpenClaim := { program := "ytjkbhpokboolpaagreatdoor", sum := "fe0a6ea7a165f6ce00481cac251cc372a8cf3523707f5eafaed8e0598f8b6a35", func := "shutter/shutterlaw25.SideRefuses", spec := "sideRefuses", inPlace := ["internal/reflectlite.ValueOf", "(internal/reflectlite.Value).Type", "(internal/reflectlite.Value).IsNil", "internal/reflectlite.TypeOf", "(internal/reflectlite.Value).Elem", "(internal/reflectlite.Value).Set", "slices.overlaps[[]byte]"], unfollowed := true, recurses := true, named := ["errors.errorType"], apart := false, laid := [("errors.errorType", laid_errors_errorType)], narrowed := true }
def SideRefusesUptoSaid : Prop := sideRefusesUptoRow.holds Tryz.pinned (OpenSpec.upto sideRefusesSpec)

end Rows
end Go.Proofs.YtjkbhpokboolpaaGreatDoor
