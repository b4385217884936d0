/-
  No cell of these rows narrows 'for every input' (looked for: loops, veiled, ifaces, maps, wideKeys, modest, calm, conditions, laid).
  DERIVED. THE GIVEN ROWS OF THIS SEAT. 6 by the template 'for every input the law returns true; each argument reads behind the call as it read before'; 0 by the template 'total and deterministic' (their statements: YtkebdgbjgbcneaaTotals.lean).
  GIVEN WITH THE SEED: the statements are not yours to turn. If you find one false, say at which input.
  Laid BY PROGRAM, IN A SANDBOX (cutbox-rows.mjs): the forced cells as the released guide's own fill.sh prints them over the translation 273744feb3b1cf7c… (all of the seat's roots in one cut). By AI agents, Wed Nov 11 2026. No macro, syntax, notation, axiom, sorry.
-/
import Derived.Test.YtkebdgbjgbcneaaChecked
import GoSem.Claim
import GoSem.ClaimJoined
import GoSem.ClaimMapViews
import Derived.JoinedTies
import Derived.KernelRfl
namespace Go.Proofs.Ytkebdgbjgbcneaa
/- THE CELL 'sum', in the pinned program and in every row, IS THE sha256 OF THE DUMP (.gsa) THAT YtkebdgbjgbcneaaProg.lean LOADS. Nothing in Lean hashes anything: it is a label: what it is worth is what the hold of that sum in a sandbox is worth. -/
noncomputable def Try.pinned : Pinned := { name := "ytkebdgbjgbcneaa", sum := "273744feb3b1cf7c7e8525a559ebe84bfccd0635d453f4b6fd480b8ef01b7c0e", checked := Try.checked }
namespace Rows
def none {H : Type} : Left H := { results := [], args := [] }

/-- 'cspchecklaw35.DiskFiles': WHATEVER THE INPUT: true; the input reads as it did. -/
def diskFilesSpec : ChangeSpec := { name := "diskFiles", fn := fun _ => fun
  | [] => { results := [.lit (.bool true)], args := [] }
  | _ => none }
def diskFilesRow : OpenClaim := { program := "ytkebdgbjgbcneaa", sum := "273744feb3b1cf7c7e8525a559ebe84bfccd0635d453f4b6fd480b8ef01b7c0e", func := "cspcheck/cspchecklaw35.DiskFiles", spec := "diskFiles", inPlace := ["maps.clone"], unfollowed := true, recurses := true, apart := false }
def DiskFilesSaid : Prop := diskFilesRow.holds Try.pinned (OpenSpec.ofChange diskFilesSpec)

/-- ITS FALSE NEIGHBOUR: 'it returns false'. Refute it at one input. -/
def diskFilesWrong : ChangeSpec := { name := "diskFiles", fn := fun _ => fun
  | [] => { results := [.lit (.bool false)], args := [] }
  | _ => none }
def DiskFilesWrongFalsely : Prop := diskFilesRow.holds Try.pinned (OpenSpec.ofChange diskFilesWrong)

/-- 'cspchecklaw35.DiskReplace': WHATEVER THE INPUT: true; the input reads as it did. -/
def diskReplaceSpec : ChangeSpec := { name := "diskReplace", fn := fun _ => fun
  | [d1, d2, d3] => { results := [.lit (.bool true)], args := [d1, d2, d3] }
  | _ => none }
def diskReplaceRow : OpenClaim := { program := "ytkebdgbjgbcneaa", sum := "273744feb3b1cf7c7e8525a559ebe84bfccd0635d453f4b6fd480b8ef01b7c0e", func := "cspcheck/cspchecklaw35.DiskReplace", spec := "diskReplace", inPlace := ["maps.clone"], unfollowed := true, recurses := true, apart := false }
def DiskReplaceSaid : Prop := diskReplaceRow.holds Try.pinned (OpenSpec.ofChange diskReplaceSpec)

/-- ITS FALSE NEIGHBOUR: 'it returns false'. Refute it at one input. -/
def diskReplaceWrong : ChangeSpec := { name := "diskReplace", fn := fun _ => fun
  | [d1, d2, d3] => { results := [.lit (.bool false)], args := [d1, d2, d3] }
  | _ => none }
def DiskReplaceWrongFalsely : Prop := diskReplaceRow.holds Try.pinned (OpenSpec.ofChange diskReplaceWrong)

/-- 'cspchecklaw35.DiskExamples': WHATEVER THE INPUT: true; the input reads as it did. -/
def diskExamplesSpec : ChangeSpec := { name := "diskExamples", fn := fun _ => fun
  | [] => { results := [.lit (.bool true)], args := [] }
  | _ => none }
def diskExamplesRow : OpenClaim := { program := "ytkebdgbjgbcneaa", sum := "273744feb3b1cf7c7e8525a559ebe84bfccd0635d453f4b6fd480b8ef01b7c0e", func := "cspcheck/cspchecklaw35.DiskExamples", spec := "diskExamples", inPlace := ["maps.clone"], unfollowed := true, recurses := true, apart := false }
def DiskExamplesSaid : Prop := diskExamplesRow.holds Try.pinned (OpenSpec.ofChange diskExamplesSpec)

/-- ITS FALSE NEIGHBOUR: 'it returns false'. Refute it at one input. -/
def diskExamplesWrong : ChangeSpec := { name := "diskExamples", fn := fun _ => fun
  | [] => { results := [.lit (.bool false)], args := [] }
  | _ => none }
def DiskExamplesWrongFalsely : Prop := diskExamplesRow.holds Try.pinned (OpenSpec.ofChange diskExamplesWrong)

/-- 'cspchecklaw35.DiskScript': WHATEVER THE INPUT: true; the input reads as it did. -/
def diskScriptSpec : ChangeSpec := { name := "diskScript", fn := fun _ => fun
  | [d1, d2] => { results := [.lit (.bool true)], args := [d1, d2] }
  | _ => none }
def diskScriptRow : OpenClaim := { program := "ytkebdgbjgbcneaa", sum := "273744feb3b1cf7c7e8525a559ebe84bfccd0635d453f4b6fd480b8ef01b7c0e", func := "cspcheck/cspchecklaw35.DiskScript", spec := "diskScript", inPlace := ["maps.clone"], unfollowed := true, recurses := true, apart := false }
def DiskScriptSaid : Prop := diskScriptRow.holds Try.pinned (OpenSpec.ofChange diskScriptSpec)

/-- ITS FALSE NEIGHBOUR: 'it returns false'. Refute it at one input. -/
def diskScriptWrong : ChangeSpec := { name := "diskScript", fn := fun _ => fun
  | [d1, d2] => { results := [.lit (.bool false)], args := [d1, d2] }
  | _ => none }
def DiskScriptWrongFalsely : Prop := diskScriptRow.holds Try.pinned (OpenSpec.ofChange diskScriptWrong)

/-- 'cspchecklaw35.DiskDurable': WHATEVER THE INPUT: true; the input reads as it did. -/
def diskDurableSpec : ChangeSpec := { name := "diskDurable", fn := fun _ => fun
  | [d1, d2] => { results := [.lit (.bool true)], args := [d1, d2] }
  | _ => none }
def diskDurableRow : OpenClaim := { program := "ytkebdgbjgbcneaa", sum := "273744feb3b1cf7c7e8525a559ebe84bfccd0635d453f4b6fd480b8ef01b7c0e", func := "cspcheck/cspchecklaw35.DiskDurable", spec := "diskDurable", inPlace := ["maps.clone"], unfollowed := true, recurses := true, apart := false }
def DiskDurableSaid : Prop := diskDurableRow.holds Try.pinned (OpenSpec.ofChange diskDurableSpec)

/-- ITS FALSE NEIGHBOUR: 'it returns false'. Refute it at one input. -/
def diskDurableWrong : ChangeSpec := { name := "diskDurable", fn := fun _ => fun
  | [d1, d2] => { results := [.lit (.bool false)], args := [d1, d2] }
  | _ => none }
def DiskDurableWrongFalsely : Prop := diskDurableRow.holds Try.pinned (OpenSpec.ofChange diskDurableWrong)

/-- 'cspchecklaw35.DiskCopy': WHATEVER THE INPUT: true; the input reads as it did. -/
def diskCopySpec : ChangeSpec := { name := "diskCopy", fn := fun _ => fun
  | [d] => { results := [.lit (.bool true)], args := [d] }
  | _ => none }
def diskCopyRow : OpenClaim := { program := "ytkebdgbjgbcneaa", sum := "273744feb3b1cf7c7e8525a559ebe84bfccd0635d453f4b6fd480b8ef01b7c0e", func := "cspcheck/cspchecklaw35.DiskCopy", spec := "diskCopy", inPlace := ["maps.clone"], unfollowed := true, recurses := true, apart := false }
def DiskCopySaid : Prop := diskCopyRow.holds Try.pinned (OpenSpec.ofChange diskCopySpec)

/-- ITS FALSE NEIGHBOUR: 'it returns false'. Refute it at one input. -/
def diskCopyWrong : ChangeSpec := { name := "diskCopy", fn := fun _ => fun
  | [d] => { results := [.lit (.bool false)], args := [d] }
  | _ => none }
def DiskCopyWrongFalsely : Prop := diskCopyRow.holds Try.pinned (OpenSpec.ofChange diskCopyWrong)

/- THE SECOND FORM. 'bulk': how many values and letters a reading holds, each counted each time it is reached (what is shared counts as often as it is met; a slice's spare places count too). A statement '..UptoSaid' is the law's where the arguments, and the package variables that the reading takes, are together of bulk at most 1048576: NARROWER than '..Said'. Prove '..Said' where nothing that the law and all that it calls make is longer than what came in: it says more and counts as full. Else prove '..UptoSaid'. A law counts once. -/
mutual
def uptoBulk {H : Type} : DataW H → Nat
  | .lit (.string bytes) => bytes.length + 1
  | .lit _ => 1
  | .nil => 1
  | .ptr d => uptoBulk d + 1
  | .slice elems spare => uptoBulkAll elems + uptoBulkAll spare + 1
  | .agg parts => uptoBulkAll parts + 1
  | .iface _ d => uptoBulk d + 1
  | .map entries => uptoBulkEntries entries + 1
  | .held _ => 1
def uptoBulkAll {H : Type} : List (DataW H) → Nat
  | [] => 0
  | d :: r => uptoBulk d + uptoBulkAll r
def uptoBulkEntries {H : Type} : List (Lit × DataW H) → Nat
  | [] => 0
  | x :: r => uptoBulkEntry x + uptoBulkEntries r
def uptoBulkEntry {H : Type} : Lit × DataW H → Nat
  | (.string bytes, d) => bytes.length + uptoBulk d + 1
  | (_, d) => uptoBulk d + 1
 end
def uptoSmall : (H : Type) → List (DataW H) → Bool := fun _ ds => decide (uptoBulkAll ds ≤ 1048576)
def OpenSpec.upto (s : _root_.Go.ChangeSpec) : _root_.Go.OpenSpec := { _root_.Go.OpenSpec.ofChange s with cond := some uptoSmall }

/-- 'cspchecklaw35.DiskFiles', WHERE WHAT IT READS IS OF BULK AT MOST 1048576: true; the input reads as it did. -/
def diskFilesUptoRow : OpenClaim := { program := "ytkebdgbjgbcneaa", sum := "273744feb3b1cf7c7e8525a559ebe84bfccd0635d453f4b6fd480b8ef01b7c0e", func := "cspcheck/cspchecklaw35.DiskFiles", spec := "diskFiles", inPlace := ["maps.clone"], unfollowed := true, recurses := true, apart := false, narrowed := true }
def DiskFilesUptoSaid : Prop := diskFilesUptoRow.holds Try.pinned (OpenSpec.upto diskFilesSpec)

/-- 'cspchecklaw35.DiskReplace', WHERE WHAT IT READS IS OF BULK AT MOST 1048576: true; the input reads as it did. -/
def diskReplaceUptoRow : OpenClaim := { program := "ytkebdgbjgbcneaa", sum := "273744feb3b1cf7c7e8525a559ebe84bfccd0635d453f4b6fd480b8ef01b7c0e", func := "cspcheck/cspchecklaw35.DiskReplace", spec := "diskReplace", inPlace := ["maps.clone"], unfollowed := true, recurses := true, apart := false, narrowed := true }
def DiskReplaceUptoSaid : Prop := diskReplaceUptoRow.holds Try.pinned (OpenSpec.upto diskReplaceSpec)

/-- 'cspchecklaw35.DiskExamples', WHERE WHAT IT READS IS OF BULK AT MOST 1048576: true; the input reads as it did. -/
def diskExamplesUptoRow : OpenClaim := { program := "ytkebdgbjgbcneaa", sum := "273744feb3b1cf7c7e8525a559ebe84bfccd0635d453f4b6fd480b8ef01b7c0e", func := "cspcheck/cspchecklaw35.DiskExamples", spec := "diskExamples", inPlace := ["maps.clone"], unfollowed := true, recurses := true, apart := false, narrowed := true }
def DiskExamplesUptoSaid : Prop := diskExamplesUptoRow.holds Try.pinned (OpenSpec.upto diskExamplesSpec)

/-- 'cspchecklaw35.DiskScript', WHERE WHAT IT READS IS OF BULK AT MOST 1048576: true; the input reads as it did. -/
def diskScriptUptoRow : OpenClaim := { program := "ytkebdgbjgbcneaa", sum := "273744feb3b1cf7c7e8525a559ebe84bfccd0635d453f4b6fd480b8ef01b7c0e", func := "cspcheck/cspchecklaw35.DiskScript", spec := "diskScript", inPlace := ["maps.clone"], unfollowed := true, recurses := true, apart := false, narrowed := true }
def DiskScriptUptoSaid : Prop := diskScriptUptoRow.holds Try.pinned (OpenSpec.upto diskScriptSpec)

/-- 'cspchecklaw35.DiskDurable', WHERE WHAT IT READS IS OF BULK AT MOST 1048576: true; the input reads as it did. -/
def diskDurableUptoRow : OpenClaim := { program := "ytkebdgbjgbcneaa", sum := "273744feb3b1cf7c7e8525a559ebe84bfccd0635d453f4b6fd480b8ef01b7c0e", func := "cspcheck/cspchecklaw35.DiskDurable", spec := "diskDurable", inPlace := ["maps.clone"], unfollowed := true, recurses := true, apart := false, narrowed := true }
def DiskDurableUptoSaid : Prop := diskDurableUptoRow.holds Try.pinned (OpenSpec.upto diskDurableSpec)

/-- 'cspchecklaw35.DiskCopy', WHERE WHAT IT READS IS OF BULK AT MOST 1048576: true; the input reads as it did. -/
def diskCopyUptoRow : OpenClaim := { program := "ytkebdgbjgbcneaa", sum := "273744feb3b1cf7c7e8525a559ebe84bfccd0635d453f4b6fd480b8ef01b7c0e", func := "cspcheck/cspchecklaw35.DiskCopy", spec := "diskCopy", inPlace := ["maps.clone"], unfollowed := true, recurses := true, apart := false, narrowed := true }
def DiskCopyUptoSaid : Prop := diskCopyUptoRow.holds Try.pinned (OpenSpec.upto diskCopySpec)

end Rows
end Go.Proofs.Ytkebdgbjgbcneaa
