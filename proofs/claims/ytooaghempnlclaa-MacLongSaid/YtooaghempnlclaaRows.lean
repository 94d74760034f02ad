/-
  No cell of these rows narrows 'for every input' (looked for: loops, veiled, ifaces, maps, wideKeys, modest, calm, conditions, laid).
  DERIVED. THE GIVEN ROWS OF THIS SEAT. 5 by the template 'for every input the law returns true; each argument reads behind the call as it read before'; 0 by the template 'total and deterministic' (their statements: YtooaghempnlclaaTotals.lean).
  GIVEN WITH THE SEED: the statements are not yours to turn. If you find one false, say at which input.
  Laid BY PROGRAM, IN A SANDBOX (cutbox-rows.mjs): the forced cells as the released guide's own fill.sh prints them over the translation f23393caab7b5611… (all of the seat's roots in one cut). By AI agents, Wed Nov 11 2026. No macro, syntax, notation, axiom, sorry.
-/
import Derived.Test.YtooaghempnlclaaChecked
import GoSem.Claim
import GoSem.ClaimJoined
import GoSem.ClaimMapViews
import Derived.JoinedTies
import Derived.KernelRfl
namespace Go.Proofs.Ytooaghempnlclaa
/- THE CELL 'sum', in the pinned program and in every row, IS THE sha256 OF THE DUMP (.gsa) THAT YtooaghempnlclaaProg.lean LOADS. Nothing in Lean hashes anything: it is a label: what it is worth is what the hold of that sum in a sandbox is worth. -/
noncomputable def Try.pinned : Pinned := { name := "ytooaghempnlclaa", sum := "f23393caab7b56118bd8e539c473be336e844ab0cc5a2b3f6f2cb1806b03ec6e", checked := Try.checked }
namespace Rows
def none {H : Type} : Left H := { results := [], args := [] }

/-- 'shutterlaw02.MacCodes': WHATEVER THE INPUT: true; the input reads as it did. -/
def macCodesSpec : ChangeSpec := { name := "macCodes", fn := fun _ => fun
  | [d1, d2, d3] => { results := [.lit (.bool true)], args := [d1, d2, d3] }
  | _ => none }
def macCodesRow : OpenClaim := { program := "ytooaghempnlclaa", sum := "f23393caab7b56118bd8e539c473be336e844ab0cc5a2b3f6f2cb1806b03ec6e", func := "shutter/shutterlaw02.MacCodes", spec := "macCodes", inPlace := ["slices.overlaps[[]byte]"], apart := false }
def MacCodesSaid : Prop := macCodesRow.holds Try.pinned (OpenSpec.ofChange macCodesSpec)

/-- ITS FALSE NEIGHBOUR: 'it returns false'. Refute it at one input. -/
def macCodesWrong : ChangeSpec := { name := "macCodes", fn := fun _ => fun
  | [d1, d2, d3] => { results := [.lit (.bool false)], args := [d1, d2, d3] }
  | _ => none }
def MacCodesWrongFalsely : Prop := macCodesRow.holds Try.pinned (OpenSpec.ofChange macCodesWrong)

/-- 'shutterlaw02.MacEquals': WHATEVER THE INPUT: true; the input reads as it did. -/
def macEqualsSpec : ChangeSpec := { name := "macEquals", fn := fun _ => fun
  | [d1, d2] => { results := [.lit (.bool true)], args := [d1, d2] }
  | _ => none }
def macEqualsRow : OpenClaim := { program := "ytooaghempnlclaa", sum := "f23393caab7b56118bd8e539c473be336e844ab0cc5a2b3f6f2cb1806b03ec6e", func := "shutter/shutterlaw02.MacEquals", spec := "macEquals", inPlace := ["slices.overlaps[[]byte]"], apart := false }
def MacEqualsSaid : Prop := macEqualsRow.holds Try.pinned (OpenSpec.ofChange macEqualsSpec)

/-- ITS FALSE NEIGHBOUR: 'it returns false'. Refute it at one input. -/
def macEqualsWrong : ChangeSpec := { name := "macEquals", fn := fun _ => fun
  | [d1, d2] => { results := [.lit (.bool false)], args := [d1, d2] }
  | _ => none }
def MacEqualsWrongFalsely : Prop := macEqualsRow.holds Try.pinned (OpenSpec.ofChange macEqualsWrong)

/-- 'shutterlaw02.MacKeys': WHATEVER THE INPUT: true; the input reads as it did. -/
def macKeysSpec : ChangeSpec := { name := "macKeys", fn := fun _ => fun
  | [d1, d2] => { results := [.lit (.bool true)], args := [d1, d2] }
  | _ => none }
def macKeysRow : OpenClaim := { program := "ytooaghempnlclaa", sum := "f23393caab7b56118bd8e539c473be336e844ab0cc5a2b3f6f2cb1806b03ec6e", func := "shutter/shutterlaw02.MacKeys", spec := "macKeys", inPlace := ["slices.overlaps[[]byte]"], apart := false }
def MacKeysSaid : Prop := macKeysRow.holds Try.pinned (OpenSpec.ofChange macKeysSpec)

/-- ITS FALSE NEIGHBOUR: 'it returns false'. Refute it at one input. -/
def macKeysWrong : ChangeSpec := { name := "macKeys", fn := fun _ => fun
  | [d1, d2] => { results := [.lit (.bool false)], args := [d1, d2] }
  | _ => none }
def MacKeysWrongFalsely : Prop := macKeysRow.holds Try.pinned (OpenSpec.ofChange macKeysWrong)

/-- 'shutterlaw02.MacKeeps': WHATEVER THE INPUT: true; the input reads as it did. -/
def macKeepsSpec : ChangeSpec := { name := "macKeeps", fn := fun _ => fun
  | [d1, d2] => { results := [.lit (.bool true)], args := [d1, d2] }
  | _ => none }
def macKeepsRow : OpenClaim := { program := "ytooaghempnlclaa", sum := "f23393caab7b56118bd8e539c473be336e844ab0cc5a2b3f6f2cb1806b03ec6e", func := "shutter/shutterlaw02.MacKeeps", spec := "macKeeps", inPlace := ["slices.overlaps[[]byte]"], apart := false }
def MacKeepsSaid : Prop := macKeepsRow.holds Try.pinned (OpenSpec.ofChange macKeepsSpec)

/-- ITS FALSE NEIGHBOUR: 'it returns false'. Refute it at one input. -/
def macKeepsWrong : ChangeSpec := { name := "macKeeps", fn := fun _ => fun
  | [d1, d2] => { results := [.lit (.bool false)], args := [d1, d2] }
  | _ => none }
def MacKeepsWrongFalsely : Prop := macKeepsRow.holds Try.pinned (OpenSpec.ofChange macKeepsWrong)

/-- 'shutterlaw02.MacLong': WHATEVER THE INPUT: true; the input reads as it did. -/
def macLongSpec : ChangeSpec := { name := "macLong", fn := fun _ => fun
  | [d1, d2, d3] => { results := [.lit (.bool true)], args := [d1, d2, d3] }
  | _ => none }
def macLongRow : OpenClaim := { program := "ytooaghempnlclaa", sum := "f23393caab7b56118bd8e539c473be336e844ab0cc5a2b3f6f2cb1806b03ec6e", func := "shutter/shutterlaw02.MacLong", spec := "macLong", inPlace := ["slices.overlaps[[]byte]"], apart := false }
def MacLongSaid : Prop := macLongRow.holds Try.pinned (OpenSpec.ofChange macLongSpec)

/-- ITS FALSE NEIGHBOUR: 'it returns false'. Refute it at one input. -/
def macLongWrong : ChangeSpec := { name := "macLong", fn := fun _ => fun
  | [d1, d2, d3] => { results := [.lit (.bool false)], args := [d1, d2, d3] }
  | _ => none }
def MacLongWrongFalsely : Prop := macLongRow.holds Try.pinned (OpenSpec.ofChange macLongWrong)

/- THE SECOND FORM. 'bulk': how many values and letters a reading holds, each counted each time it is reached (what is shared counts as often as it is met; a slice's spare places count too). A statement '..UptoSaid' is the law's where the arguments, and the package variables that the reading takes, are together of bulk at most 1048576: NARROWER than '..Said'. Prove '..Said' where nothing that the law and all that it calls make is longer than what came in: it says more and counts as full. Else prove '..UptoSaid'. A law counts once. -/
mutual
def uptoBulk {H : Type} : DataW H → Nat
  | .lit (.string bytes) => bytes.length + 1
  | .lit _ => 1
  | .nil => 1
  | .ptr d => uptoBulk d + 1
  | .slice elems spare => uptoBulkAll elems + uptoBulkAll spare + 1
  | .agg parts => uptoBulkAll parts + 1
  | .iface _ d => uptoBulk d + 1
  | .map entries => uptoBulkEntries entries + 1
  | .held _ => 1
def uptoBulkAll {H : Type} : List (DataW H) → Nat
  | [] => 0
  | d :: r => uptoBulk d + uptoBulkAll r
def uptoBulkEntries {H : Type} : List (Lit × DataW H) → Nat
  | [] => 0
  | x :: r => uptoBulkEntry x + uptoBulkEntries r
def uptoBulkEntry {H : Type} : Lit × DataW H → Nat
  | (.string bytes, d) => bytes.length + uptoBulk d + 1
  | (_, d) => uptoBulk d + 1
 end
def uptoSmall : (H : Type) → List (DataW H) → Bool := fun _ ds => decide (uptoBulkAll ds ≤ 1048576)
def OpenSpec.upto (s : _root_.Go.ChangeSpec) : _root_.Go.OpenSpec := { _root_.Go.OpenSpec.ofChange s with cond := some uptoSmall }

/-- 'shutterlaw02.MacCodes', WHERE WHAT IT READS IS OF BULK AT MOST 1048576: true; the input reads as it did. -/
def macCodesUptoRow : OpenClaim := { program := "ytooaghempnlclaa", sum := "f23393caab7b56118bd8e539c473be336e844ab0cc5a2b3f6f2cb1806b03ec6e", func := "shutter/shutterlaw02.MacCodes", spec := "macCodes", inPlace := ["slices.overlaps[[]byte]"], apart := false, narrowed := true }
def MacCodesUptoSaid : Prop := macCodesUptoRow.holds Try.pinned (OpenSpec.upto macCodesSpec)

/-- 'shutterlaw02.MacEquals', WHERE WHAT IT READS IS OF BULK AT MOST 1048576: true; the input reads as it did. -/
def macEqualsUptoRow : OpenClaim := { program := "ytooaghempnlclaa", sum := "f23393caab7b56118bd8e539c473be336e844ab0cc5a2b3f6f2cb1806b03ec6e", func := "shutter/shutterlaw02.MacEquals", spec := "macEquals", inPlace := ["slices.overlaps[[]byte]"], apart := false, narrowed := true }
def MacEqualsUptoSaid : Prop := macEqualsUptoRow.holds Try.pinned (OpenSpec.upto macEqualsSpec)

/-- 'shutterlaw02.MacKeys', WHERE WHAT IT READS IS OF BULK AT MOST 1048576: true; the input reads as it did. -/
def macKeysUptoRow : OpenClaim := { program := "ytooaghempnlclaa", sum := "f23393caab7b56118bd8e539c473be336e844ab0cc5a2b3f6f2cb1806b03ec6e", func := "shutter/shutterlaw02.MacKeys", spec := "macKeys", inPlace := ["slices.overlaps[[]byte]"], apart := false, narrowed := true }
def MacKeysUptoSaid : Prop := macKeysUptoRow.holds Try.pinned (OpenSpec.upto macKeysSpec)

/-- 'shutterlaw02.MacKeeps', WHERE WHAT IT READS IS OF BULK AT MOST 1048576: true; the input reads as it did. -/
def macKeepsUptoRow : OpenClaim := { program := "ytooaghempnlclaa", sum := "f23393caab7b56118bd8e539c473be336e844ab0cc5a2b3f6f2cb1806b03ec6e", func := "shutter/shutterlaw02.MacKeeps", spec := "macKeeps", inPlace := ["slices.overlaps[[]byte]"], apart := false, narrowed := true }
def MacKeepsUptoSaid : Prop := macKeepsUptoRow.holds Try.pinned (OpenSpec.upto macKeepsSpec)

/-- 'shutterlaw02.MacLong', WHERE WHAT IT READS IS OF BULK AT MOST 1048576: true; the input reads as it did. -/
def macLongUptoRow : OpenClaim := { program := "ytooaghempnlclaa", sum := "f23393caab7b56118bd8e539c473be336e844ab0cc5a2b3f6f2cb1806b03ec6e", func := "shutter/shutterlaw02.MacLong", spec := "macLong", inPlace := ["slices.overlaps[[]byte]"], apart := false, narrowed := true }
def MacLongUptoSaid : Prop := macLongUptoRow.holds Try.pinned (OpenSpec.upto macLongSpec)

end Rows
end Go.Proofs.Ytooaghempnlclaa
