/-
  No cell of these rows narrows 'for every input' (looked for: loops, veiled, ifaces, maps, wideKeys, modest, calm, conditions, laid).
  DERIVED. THE GIVEN ROWS OF THIS SEAT. 5 by the template 'for every input the law returns true; each argument reads behind the call as it read before'; 0 by the template 'total and deterministic' (their statements: YtlpgonnionbkfaaTotals.lean).
  GIVEN WITH THE SEED: the statements are not yours to turn. If you find one false, say at which input.
  Laid BY PROGRAM, IN A SANDBOX (cutbox-rows.mjs): the forced cells as the released guide's own fill.sh prints them over the translation 74c02e9a12568c11… (all of the seat's roots in one cut). By AI agents, Wed Nov 11 2026. No macro, syntax, notation, axiom, sorry.
-/
import Derived.Test.YtlpgonnionbkfaaChecked
import GoSem.Claim
import GoSem.ClaimJoined
import GoSem.ClaimMapViews
import Derived.JoinedTies
import Derived.KernelRfl
namespace Go.Proofs.Ytlpgonnionbkfaa
/- THE CELL 'sum', in the pinned program and in every row, IS THE sha256 OF THE DUMP (.gsa) THAT YtlpgonnionbkfaaProg.lean LOADS. Nothing in Lean hashes anything: it is a label: what it is worth is what the hold of that sum in a sandbox is worth. -/
noncomputable def Try.pinned : Pinned := { name := "ytlpgonnionbkfaa", sum := "74c02e9a12568c111bd4fd18344f6aa8d7d726604cf4051b2281cf69809ee5b6", checked := Try.checked }
namespace Rows
def none {H : Type} : Left H := { results := [], args := [] }

/-- 'cspchecklaw14.HeapOnce': WHATEVER THE INPUT: true; the input reads as it did. -/
def heapOnceSpec : ChangeSpec := { name := "heapOnce", fn := fun _ => fun
  | [d1, d2] => { results := [.lit (.bool true)], args := [d1, d2] }
  | _ => none }
def heapOnceRow : OpenClaim := { program := "ytlpgonnionbkfaa", sum := "74c02e9a12568c111bd4fd18344f6aa8d7d726604cf4051b2281cf69809ee5b6", func := "cspcheck/cspchecklaw14.HeapOnce", spec := "heapOnce", unfollowed := true, recurses := true, apart := false }
def HeapOnceSaid : Prop := heapOnceRow.holds Try.pinned (OpenSpec.ofChange heapOnceSpec)

/-- ITS FALSE NEIGHBOUR: 'it returns false'. Refute it at one input. -/
def heapOnceWrong : ChangeSpec := { name := "heapOnce", fn := fun _ => fun
  | [d1, d2] => { results := [.lit (.bool false)], args := [d1, d2] }
  | _ => none }
def HeapOnceWrongFalsely : Prop := heapOnceRow.holds Try.pinned (OpenSpec.ofChange heapOnceWrong)

/-- 'cspchecklaw14.HeapLinks': WHATEVER THE INPUT: true; the input reads as it did. -/
def heapLinksSpec : ChangeSpec := { name := "heapLinks", fn := fun _ => fun
  | [d] => { results := [.lit (.bool true)], args := [d] }
  | _ => none }
def heapLinksRow : OpenClaim := { program := "ytlpgonnionbkfaa", sum := "74c02e9a12568c111bd4fd18344f6aa8d7d726604cf4051b2281cf69809ee5b6", func := "cspcheck/cspchecklaw14.HeapLinks", spec := "heapLinks", unfollowed := true, recurses := true, apart := false }
def HeapLinksSaid : Prop := heapLinksRow.holds Try.pinned (OpenSpec.ofChange heapLinksSpec)

/-- ITS FALSE NEIGHBOUR: 'it returns false'. Refute it at one input. -/
def heapLinksWrong : ChangeSpec := { name := "heapLinks", fn := fun _ => fun
  | [d] => { results := [.lit (.bool false)], args := [d] }
  | _ => none }
def HeapLinksWrongFalsely : Prop := heapLinksRow.holds Try.pinned (OpenSpec.ofChange heapLinksWrong)

/-- 'cspchecklaw14.HeapDoesNotAlias': WHATEVER THE INPUT: true; the input reads as it did. -/
def heapDoesNotAliasSpec : ChangeSpec := { name := "heapDoesNotAlias", fn := fun _ => fun
  | [d] => { results := [.lit (.bool true)], args := [d] }
  | _ => none }
def heapDoesNotAliasRow : OpenClaim := { program := "ytlpgonnionbkfaa", sum := "74c02e9a12568c111bd4fd18344f6aa8d7d726604cf4051b2281cf69809ee5b6", func := "cspcheck/cspchecklaw14.HeapDoesNotAlias", spec := "heapDoesNotAlias", unfollowed := true, recurses := true, apart := false }
def HeapDoesNotAliasSaid : Prop := heapDoesNotAliasRow.holds Try.pinned (OpenSpec.ofChange heapDoesNotAliasSpec)

/-- ITS FALSE NEIGHBOUR: 'it returns false'. Refute it at one input. -/
def heapDoesNotAliasWrong : ChangeSpec := { name := "heapDoesNotAlias", fn := fun _ => fun
  | [d] => { results := [.lit (.bool false)], args := [d] }
  | _ => none }
def HeapDoesNotAliasWrongFalsely : Prop := heapDoesNotAliasRow.holds Try.pinned (OpenSpec.ofChange heapDoesNotAliasWrong)

/-- 'cspchecklaw14.HeapAgrees': WHATEVER THE INPUT: true; the input reads as it did. -/
def heapAgreesSpec : ChangeSpec := { name := "heapAgrees", fn := fun _ => fun
  | [d1, d2] => { results := [.lit (.bool true)], args := [d1, d2] }
  | _ => none }
def heapAgreesRow : OpenClaim := { program := "ytlpgonnionbkfaa", sum := "74c02e9a12568c111bd4fd18344f6aa8d7d726604cf4051b2281cf69809ee5b6", func := "cspcheck/cspchecklaw14.HeapAgrees", spec := "heapAgrees", unfollowed := true, recurses := true, apart := false }
def HeapAgreesSaid : Prop := heapAgreesRow.holds Try.pinned (OpenSpec.ofChange heapAgreesSpec)

/-- ITS FALSE NEIGHBOUR: 'it returns false'. Refute it at one input. -/
def heapAgreesWrong : ChangeSpec := { name := "heapAgrees", fn := fun _ => fun
  | [d1, d2] => { results := [.lit (.bool false)], args := [d1, d2] }
  | _ => none }
def HeapAgreesWrongFalsely : Prop := heapAgreesRow.holds Try.pinned (OpenSpec.ofChange heapAgreesWrong)

/-- 'cspchecklaw14.HeapCompacts': WHATEVER THE INPUT: true; the input reads as it did. -/
def heapCompactsSpec : ChangeSpec := { name := "heapCompacts", fn := fun _ => fun
  | [d1, d2] => { results := [.lit (.bool true)], args := [d1, d2] }
  | _ => none }
def heapCompactsRow : OpenClaim := { program := "ytlpgonnionbkfaa", sum := "74c02e9a12568c111bd4fd18344f6aa8d7d726604cf4051b2281cf69809ee5b6", func := "cspcheck/cspchecklaw14.HeapCompacts", spec := "heapCompacts", unfollowed := true, recurses := true, apart := false }
def HeapCompactsSaid : Prop := heapCompactsRow.holds Try.pinned (OpenSpec.ofChange heapCompactsSpec)

/-- ITS FALSE NEIGHBOUR: 'it returns false'. Refute it at one input. -/
def heapCompactsWrong : ChangeSpec := { name := "heapCompacts", fn := fun _ => fun
  | [d1, d2] => { results := [.lit (.bool false)], args := [d1, d2] }
  | _ => none }
def HeapCompactsWrongFalsely : Prop := heapCompactsRow.holds Try.pinned (OpenSpec.ofChange heapCompactsWrong)

/- THE SECOND FORM. 'bulk': how many values and letters a reading holds, each counted each time it is reached (what is shared counts as often as it is met; a slice's spare places count too). A statement '..UptoSaid' is the law's where the arguments, and the package variables that the reading takes, are together of bulk at most 1048576: NARROWER than '..Said'. Prove '..Said' where nothing that the law and all that it calls make is longer than what came in: it says more and counts as full. Else prove '..UptoSaid'. A law counts once. -/
mutual
def uptoBulk {H : Type} : DataW H → Nat
  | .lit (.string bytes) => bytes.length + 1
  | .lit _ => 1
  | .nil => 1
  | .ptr d => uptoBulk d + 1
  | .slice elems spare => uptoBulkAll elems + uptoBulkAll spare + 1
  | .agg parts => uptoBulkAll parts + 1
  | .iface _ d => uptoBulk d + 1
  | .map entries => uptoBulkEntries entries + 1
  | .held _ => 1
def uptoBulkAll {H : Type} : List (DataW H) → Nat
  | [] => 0
  | d :: r => uptoBulk d + uptoBulkAll r
def uptoBulkEntries {H : Type} : List (Lit × DataW H) → Nat
  | [] => 0
  | x :: r => uptoBulkEntry x + uptoBulkEntries r
def uptoBulkEntry {H : Type} : Lit × DataW H → Nat
  | (.string bytes, d) => bytes.length + uptoBulk d + 1
  | (_, d) => uptoBulk d + 1
 end
def uptoSmall : (H : Type) → List (DataW H) → Bool := fun _ ds => decide (uptoBulkAll ds ≤ 1048576)
def OpenSpec.upto (s : _root_.Go.ChangeSpec) : _root_.Go.OpenSpec := { _root_.Go.OpenSpec.ofChange s with cond := some uptoSmall }

/-- 'cspchecklaw14.HeapOnce', WHERE WHAT IT READS IS OF BULK AT MOST 1048576: true; the input reads as it did. -/
def heapOnceUptoRow : OpenClaim := { program := "ytlpgonnionbkfaa", sum := "74c02e9a12568c111bd4fd18344f6aa8d7d726604cf4051b2281cf69809ee5b6", func := "cspcheck/cspchecklaw14.HeapOnce", spec := "heapOnce", unfollowed := true, recurses := true, apart := false, narrowed := true }
def HeapOnceUptoSaid : Prop := heapOnceUptoRow.holds Try.pinned (OpenSpec.upto heapOnceSpec)

/-- 'cspchecklaw14.HeapLinks', WHERE WHAT IT READS IS OF BULK AT MOST 1048576: true; the input reads as it did. -/
def heapLinksUptoRow : OpenClaim := { program := "ytlpgonnionbkfaa", sum := "74c02e9a12568c111bd4fd18344f6aa8d7d726604cf4051b2281cf69809ee5b6", func := "cspcheck/cspchecklaw14.HeapLinks", spec := "heapLinks", unfollowed := true, recurses := true, apart := false, narrowed := true }
def HeapLinksUptoSaid : Prop := heapLinksUptoRow.holds Try.pinned (OpenSpec.upto heapLinksSpec)

/-- 'cspchecklaw14.HeapDoesNotAlias', WHERE WHAT IT READS IS OF BULK AT MOST 1048576: true; the input reads as it did. -/
def heapDoesNotAliasUptoRow : OpenClaim := { program := "ytlpgonnionbkfaa", sum := "74c02e9a12568c111bd4fd18344f6aa8d7d726604cf4051b2281cf69809ee5b6", func := "cspcheck/cspchecklaw14.HeapDoesNotAlias", spec := "heapDoesNotAlias", unfollowed := true, recurses := true, apart := false, narrowed := true }
def HeapDoesNotAliasUptoSaid : Prop := heapDoesNotAliasUptoRow.holds Try.pinned (OpenSpec.upto heapDoesNotAliasSpec)

/-- 'cspchecklaw14.HeapAgrees', WHERE WHAT IT READS IS OF BULK AT MOST 1048576: true; the input reads as it did. -/
def heapAgreesUptoRow : OpenClaim := { program := "ytlpgonnionbkfaa", sum := "74c02e9a12568c111bd4fd18344f6aa8d7d726604cf4051b2281cf69809ee5b6", func := "cspcheck/cspchecklaw14.HeapAgrees", spec := "heapAgrees", unfollowed := true, recurses := true, apart := false, narrowed := true }
def HeapAgreesUptoSaid : Prop := heapAgreesUptoRow.holds Try.pinned (OpenSpec.upto heapAgreesSpec)

/-- 'cspchecklaw14.HeapCompacts', WHERE WHAT IT READS IS OF BULK AT MOST 1048576: true; the input reads as it did. -/
def heapCompactsUptoRow : OpenClaim := { program := "ytlpgonnionbkfaa", sum := "74c02e9a12568c111bd4fd18344f6aa8d7d726604cf4051b2281cf69809ee5b6", func := "cspcheck/cspchecklaw14.HeapCompacts", spec := "heapCompacts", unfollowed := true, recurses := true, apart := false, narrowed := true }
def HeapCompactsUptoSaid : Prop := heapCompactsUptoRow.holds Try.pinned (OpenSpec.upto heapCompactsSpec)

end Rows
end Go.Proofs.Ytlpgonnionbkfaa
