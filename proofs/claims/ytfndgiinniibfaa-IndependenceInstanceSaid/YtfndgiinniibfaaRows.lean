/-
  No cell of these rows narrows 'for every input' (looked for: loops, veiled, ifaces, maps, wideKeys, modest, calm, conditions, laid).
  DERIVED. THE GIVEN ROWS OF THIS SEAT. 4 by the template 'for every input the law returns true; each argument reads behind the call as it read before'; 0 by the template 'total and deterministic' (their statements: YtfndgiinniibfaaTotals.lean).
  GIVEN WITH THE SEED: the statements are not yours to turn. If you find one false, say at which input.
  Laid BY PROGRAM, IN A SANDBOX (cutbox-rows.mjs): the forced cells as the released guide's own fill.sh prints them over the translation 13f88281cb3442b8… (all of the seat's roots in one cut). By AI agents, Wed Nov 11 2026. No macro, syntax, notation, axiom, sorry.
-/
import Derived.Test.YtfndgiinniibfaaChecked
import GoSem.Claim
import GoSem.ClaimJoined
import GoSem.ClaimMapViews
import Derived.JoinedTies
import Derived.KernelRfl
namespace Go.Proofs.Ytfndgiinniibfaa
/- THE CELL 'sum', in the pinned program and in every row, IS THE sha256 OF THE DUMP (.gsa) THAT YtfndgiinniibfaaProg.lean LOADS. Nothing in Lean hashes anything: it is a label: what it is worth is what the hold of that sum in a sandbox is worth. -/
noncomputable def Try.pinned : Pinned := { name := "ytfndgiinniibfaa", sum := "13f88281cb3442b8936ee1d7ccaaede3b88406be899fb24ae7242970b7971b34", checked := Try.checked }
namespace Rows
def none {H : Type} : Left H := { results := [], args := [] }

/-- 'cspchecklaw43.IndependenceExamples': WHATEVER THE INPUT: true; the input reads as it did. -/
def independenceExamplesSpec : ChangeSpec := { name := "independenceExamples", fn := fun _ => fun
  | [] => { results := [.lit (.bool true)], args := [] }
  | _ => none }
def independenceExamplesRow : OpenClaim := { program := "ytfndgiinniibfaa", sum := "13f88281cb3442b8936ee1d7ccaaede3b88406be899fb24ae7242970b7971b34", func := "cspcheck/cspchecklaw43.IndependenceExamples", spec := "independenceExamples", unfollowed := true, recurses := true, plainKeys := false, apart := false }
def IndependenceExamplesSaid : Prop := independenceExamplesRow.holds Try.pinned (OpenSpec.ofChange independenceExamplesSpec)

/-- ITS FALSE NEIGHBOUR: 'it returns false'. Refute it at one input. -/
def independenceExamplesWrong : ChangeSpec := { name := "independenceExamples", fn := fun _ => fun
  | [] => { results := [.lit (.bool false)], args := [] }
  | _ => none }
def IndependenceExamplesWrongFalsely : Prop := independenceExamplesRow.holds Try.pinned (OpenSpec.ofChange independenceExamplesWrong)

/-- 'cspchecklaw43.IndependenceValid': WHATEVER THE INPUT: true; the input reads as it did. -/
def independenceValidSpec : ChangeSpec := { name := "independenceValid", fn := fun _ => fun
  | [d1, d2] => { results := [.lit (.bool true)], args := [d1, d2] }
  | _ => none }
def independenceValidRow : OpenClaim := { program := "ytfndgiinniibfaa", sum := "13f88281cb3442b8936ee1d7ccaaede3b88406be899fb24ae7242970b7971b34", func := "cspcheck/cspchecklaw43.IndependenceValid", spec := "independenceValid", unfollowed := true, recurses := true, plainKeys := false, apart := false }
def IndependenceValidSaid : Prop := independenceValidRow.holds Try.pinned (OpenSpec.ofChange independenceValidSpec)

/-- ITS FALSE NEIGHBOUR: 'it returns false'. Refute it at one input. -/
def independenceValidWrong : ChangeSpec := { name := "independenceValid", fn := fun _ => fun
  | [d1, d2] => { results := [.lit (.bool false)], args := [d1, d2] }
  | _ => none }
def IndependenceValidWrongFalsely : Prop := independenceValidRow.holds Try.pinned (OpenSpec.ofChange independenceValidWrong)

/-- 'cspchecklaw43.IndependenceInstance': WHATEVER THE INPUT: true; the input reads as it did. -/
def independenceInstanceSpec : ChangeSpec := { name := "independenceInstance", fn := fun _ => fun
  | [d1, d2, d3] => { results := [.lit (.bool true)], args := [d1, d2, d3] }
  | _ => none }
def independenceInstanceRow : OpenClaim := { program := "ytfndgiinniibfaa", sum := "13f88281cb3442b8936ee1d7ccaaede3b88406be899fb24ae7242970b7971b34", func := "cspcheck/cspchecklaw43.IndependenceInstance", spec := "independenceInstance", unfollowed := true, recurses := true, plainKeys := false, apart := false }
def IndependenceInstanceSaid : Prop := independenceInstanceRow.holds Try.pinned (OpenSpec.ofChange independenceInstanceSpec)

/-- ITS FALSE NEIGHBOUR: 'it returns false'. Refute it at one input. -/
def independenceInstanceWrong : ChangeSpec := { name := "independenceInstance", fn := fun _ => fun
  | [d1, d2, d3] => { results := [.lit (.bool false)], args := [d1, d2, d3] }
  | _ => none }
def IndependenceInstanceWrongFalsely : Prop := independenceInstanceRow.holds Try.pinned (OpenSpec.ofChange independenceInstanceWrong)

/-- 'cspchecklaw43.IndependenceEvent': WHATEVER THE INPUT: true; the input reads as it did. -/
def independenceEventSpec : ChangeSpec := { name := "independenceEvent", fn := fun _ => fun
  | [d1, d2, d3, d4] => { results := [.lit (.bool true)], args := [d1, d2, d3, d4] }
  | _ => none }
def independenceEventRow : OpenClaim := { program := "ytfndgiinniibfaa", sum := "13f88281cb3442b8936ee1d7ccaaede3b88406be899fb24ae7242970b7971b34", func := "cspcheck/cspchecklaw43.IndependenceEvent", spec := "independenceEvent", unfollowed := true, recurses := true, plainKeys := false, apart := false }
def IndependenceEventSaid : Prop := independenceEventRow.holds Try.pinned (OpenSpec.ofChange independenceEventSpec)

/-- ITS FALSE NEIGHBOUR: 'it returns false'. Refute it at one input. -/
def independenceEventWrong : ChangeSpec := { name := "independenceEvent", fn := fun _ => fun
  | [d1, d2, d3, d4] => { results := [.lit (.bool false)], args := [d1, d2, d3, d4] }
  | _ => none }
def IndependenceEventWrongFalsely : Prop := independenceEventRow.holds Try.pinned (OpenSpec.ofChange independenceEventWrong)

/- THE SECOND FORM. 'bulk': how many values and letters a reading holds, each counted each time it is reached (what is shared counts as often as it is met; a slice's spare places count too). A statement '..UptoSaid' is the law's where the arguments, and the package variables that the reading takes, are together of bulk at most 1048576: NARROWER than '..Said'. Prove '..Said' where nothing that the law and all that it calls make is longer than what came in: it says more and counts as full. Else prove '..UptoSaid'. A law counts once. -/
mutual
def uptoBulk {H : Type} : DataW H → Nat
  | .lit (.string bytes) => bytes.length + 1
  | .lit _ => 1
  | .nil => 1
  | .ptr d => uptoBulk d + 1
  | .slice elems spare => uptoBulkAll elems + uptoBulkAll spare + 1
  | .agg parts => uptoBulkAll parts + 1
  | .iface _ d => uptoBulk d + 1
  | .map entries => uptoBulkEntries entries + 1
  | .held _ => 1
def uptoBulkAll {H : Type} : List (DataW H) → Nat
  | [] => 0
  | d :: r => uptoBulk d + uptoBulkAll r
def uptoBulkEntries {H : Type} : List (Lit × DataW H) → Nat
  | [] => 0
  | x :: r => uptoBulkEntry x + uptoBulkEntries r
def uptoBulkEntry {H : Type} : Lit × DataW H → Nat
  | (.string bytes, d) => bytes.length + uptoBulk d + 1
  | (_, d) => uptoBulk d + 1
 end
def uptoSmall : (H : Type) → List (DataW H) → Bool := fun _ ds => decide (uptoBulkAll ds ≤ 1048576)
def OpenSpec.upto (s : _root_.Go.ChangeSpec) : _root_.Go.OpenSpec := { _root_.Go.OpenSpec.ofChange s with cond := some uptoSmall }

/-- 'cspchecklaw43.IndependenceExamples', WHERE WHAT IT READS IS OF BULK AT MOST 1048576: true; the input reads as it did. -/
def independenceExamplesUptoRow : OpenClaim := { program := "ytfndgiinniibfaa", sum := "13f88281cb3442b8936ee1d7ccaaede3b88406be899fb24ae7242970b7971b34", func := "cspcheck/cspchecklaw43.IndependenceExamples", spec := "independenceExamples", unfollowed := true, recurses := true, plainKeys := false, apart := false, narrowed := true }
def IndependenceExamplesUptoSaid : Prop := independenceExamplesUptoRow.holds Try.pinned (OpenSpec.upto independenceExamplesSpec)

/-- 'cspchecklaw43.IndependenceValid', WHERE WHAT IT READS IS OF BULK AT MOST 1048576: true; the input reads as it did. -/
def independenceValidUptoRow : OpenClaim := { program := "ytfndgiinniibfaa", sum := "13f88281cb3442b8936ee1d7ccaaede3b88406be899fb24ae7242970b7971b34", func := "cspcheck/cspchecklaw43.IndependenceValid", spec := "independenceValid", unfollowed := true, recurses := true, plainKeys := false, apart := false, narrowed := true }
def IndependenceValidUptoSaid : Prop := independenceValidUptoRow.holds Try.pinned (OpenSpec.upto independenceValidSpec)

/-- 'cspchecklaw43.IndependenceInstance', WHERE WHAT IT READS IS OF BULK AT MOST 1048576: true; the input reads as it did. -/
def independenceInstanceUptoRow : OpenClaim := { program := "ytfndgiinniibfaa", sum := "13f88281cb3442b8936ee1d7ccaaede3b88406be899fb24ae7242970b7971b34", func := "cspcheck/cspchecklaw43.IndependenceInstance", spec := "independenceInstance", unfollowed := true, recurses := true, plainKeys := false, apart := false, narrowed := true }
def IndependenceInstanceUptoSaid : Prop := independenceInstanceUptoRow.holds Try.pinned (OpenSpec.upto independenceInstanceSpec)

/-- 'cspchecklaw43.IndependenceEvent', WHERE WHAT IT READS IS OF BULK AT MOST 1048576: true; the input reads as it did. -/
def independenceEventUptoRow : OpenClaim := { program := "ytfndgiinniibfaa", sum := "13f88281cb3442b8936ee1d7ccaaede3b88406be899fb24ae7242970b7971b34", func := "cspcheck/cspchecklaw43.IndependenceEvent", spec := "independenceEvent", unfollowed := true, recurses := true, plainKeys := false, apart := false, narrowed := true }
def IndependenceEventUptoSaid : Prop := independenceEventUptoRow.holds Try.pinned (OpenSpec.upto independenceEventSpec)

end Rows
end Go.Proofs.Ytfndgiinniibfaa
