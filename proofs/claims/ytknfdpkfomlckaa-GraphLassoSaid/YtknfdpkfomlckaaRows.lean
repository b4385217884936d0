/-
  No cell of these rows narrows 'for every input' (looked for: loops, veiled, ifaces, maps, wideKeys, modest, calm, conditions, laid).
  DERIVED. THE GIVEN ROWS OF THIS SEAT. 10 by the template 'for every input the law returns true; each argument reads behind the call as it read before'; 0 by the template 'total and deterministic' (their statements: YtknfdpkfomlckaaTotals.lean).
  GIVEN WITH THE SEED: the statements are not yours to turn. If you find one false, say at which input.
  Laid BY PROGRAM, IN A SANDBOX (cutbox-rows.mjs): the forced cells as the released guide's own fill.sh prints them over the translation 36d081007fea4cc3… (all of the seat's roots in one cut). By AI agents, Wed Nov 11 2026. No macro, syntax, notation, axiom, sorry.
-/
import Derived.Test.YtknfdpkfomlckaaChecked
import GoSem.Claim
import GoSem.ClaimJoined
import GoSem.ClaimMapViews
import Derived.JoinedTies
import Derived.KernelRfl
namespace Go.Proofs.Ytknfdpkfomlckaa
/- THE CELL 'sum', in the pinned program and in every row, IS THE sha256 OF THE DUMP (.gsa) THAT YtknfdpkfomlckaaProg.lean LOADS. Nothing in Lean hashes anything: it is a label: what it is worth is what the hold of that sum in a sandbox is worth. -/
noncomputable def Try.pinned : Pinned := { name := "ytknfdpkfomlckaa", sum := "36d081007fea4cc3f37daabd76434cc99b73d99d3dce0101de6a2a28bf5521ad", checked := Try.checked }
namespace Rows
def none {H : Type} : Left H := { results := [], args := [] }

/-- 'cspchecklaw24.GraphComponents': WHATEVER THE INPUT: true; the input reads as it did. -/
def graphComponentsSpec : ChangeSpec := { name := "graphComponents", fn := fun _ => fun
  | [d1, d2] => { results := [.lit (.bool true)], args := [d1, d2] }
  | _ => none }
def graphComponentsRow : OpenClaim := { program := "ytknfdpkfomlckaa", sum := "36d081007fea4cc3f37daabd76434cc99b73d99d3dce0101de6a2a28bf5521ad", func := "cspcheck/cspchecklaw24.GraphComponents", spec := "graphComponents", unfollowed := true, recurses := true, apart := false }
def GraphComponentsSaid : Prop := graphComponentsRow.holds Try.pinned (OpenSpec.ofChange graphComponentsSpec)

/-- ITS FALSE NEIGHBOUR: 'it returns false'. Refute it at one input. -/
def graphComponentsWrong : ChangeSpec := { name := "graphComponents", fn := fun _ => fun
  | [d1, d2] => { results := [.lit (.bool false)], args := [d1, d2] }
  | _ => none }
def GraphComponentsWrongFalsely : Prop := graphComponentsRow.holds Try.pinned (OpenSpec.ofChange graphComponentsWrong)

/-- 'cspchecklaw24.GraphDivergent': WHATEVER THE INPUT: true; the input reads as it did. -/
def graphDivergentSpec : ChangeSpec := { name := "graphDivergent", fn := fun _ => fun
  | [d1, d2] => { results := [.lit (.bool true)], args := [d1, d2] }
  | _ => none }
def graphDivergentRow : OpenClaim := { program := "ytknfdpkfomlckaa", sum := "36d081007fea4cc3f37daabd76434cc99b73d99d3dce0101de6a2a28bf5521ad", func := "cspcheck/cspchecklaw24.GraphDivergent", spec := "graphDivergent", unfollowed := true, recurses := true, apart := false }
def GraphDivergentSaid : Prop := graphDivergentRow.holds Try.pinned (OpenSpec.ofChange graphDivergentSpec)

/-- ITS FALSE NEIGHBOUR: 'it returns false'. Refute it at one input. -/
def graphDivergentWrong : ChangeSpec := { name := "graphDivergent", fn := fun _ => fun
  | [d1, d2] => { results := [.lit (.bool false)], args := [d1, d2] }
  | _ => none }
def GraphDivergentWrongFalsely : Prop := graphDivergentRow.holds Try.pinned (OpenSpec.ofChange graphDivergentWrong)

/-- 'cspchecklaw24.GraphLasso': WHATEVER THE INPUT: true; the input reads as it did. -/
def graphLassoSpec : ChangeSpec := { name := "graphLasso", fn := fun _ => fun
  | [d1, d2, d3] => { results := [.lit (.bool true)], args := [d1, d2, d3] }
  | _ => none }
def graphLassoRow : OpenClaim := { program := "ytknfdpkfomlckaa", sum := "36d081007fea4cc3f37daabd76434cc99b73d99d3dce0101de6a2a28bf5521ad", func := "cspcheck/cspchecklaw24.GraphLasso", spec := "graphLasso", unfollowed := true, recurses := true, apart := false }
def GraphLassoSaid : Prop := graphLassoRow.holds Try.pinned (OpenSpec.ofChange graphLassoSpec)

/-- ITS FALSE NEIGHBOUR: 'it returns false'. Refute it at one input. -/
def graphLassoWrong : ChangeSpec := { name := "graphLasso", fn := fun _ => fun
  | [d1, d2, d3] => { results := [.lit (.bool false)], args := [d1, d2, d3] }
  | _ => none }
def GraphLassoWrongFalsely : Prop := graphLassoRow.holds Try.pinned (OpenSpec.ofChange graphLassoWrong)

/-- 'cspchecklaw24.GraphAgrees': WHATEVER THE INPUT: true; the input reads as it did. -/
def graphAgreesSpec : ChangeSpec := { name := "graphAgrees", fn := fun _ => fun
  | [d] => { results := [.lit (.bool true)], args := [d] }
  | _ => none }
def graphAgreesRow : OpenClaim := { program := "ytknfdpkfomlckaa", sum := "36d081007fea4cc3f37daabd76434cc99b73d99d3dce0101de6a2a28bf5521ad", func := "cspcheck/cspchecklaw24.GraphAgrees", spec := "graphAgrees", unfollowed := true, recurses := true, apart := false }
def GraphAgreesSaid : Prop := graphAgreesRow.holds Try.pinned (OpenSpec.ofChange graphAgreesSpec)

/-- ITS FALSE NEIGHBOUR: 'it returns false'. Refute it at one input. -/
def graphAgreesWrong : ChangeSpec := { name := "graphAgrees", fn := fun _ => fun
  | [d] => { results := [.lit (.bool false)], args := [d] }
  | _ => none }
def GraphAgreesWrongFalsely : Prop := graphAgreesRow.holds Try.pinned (OpenSpec.ofChange graphAgreesWrong)

/-- 'cspchecklaw24.GraphAcceptance': WHATEVER THE INPUT: true; the input reads as it did. -/
def graphAcceptanceSpec : ChangeSpec := { name := "graphAcceptance", fn := fun _ => fun
  | [d1, d2, d3] => { results := [.lit (.bool true)], args := [d1, d2, d3] }
  | _ => none }
def graphAcceptanceRow : OpenClaim := { program := "ytknfdpkfomlckaa", sum := "36d081007fea4cc3f37daabd76434cc99b73d99d3dce0101de6a2a28bf5521ad", func := "cspcheck/cspchecklaw24.GraphAcceptance", spec := "graphAcceptance", unfollowed := true, recurses := true, apart := false }
def GraphAcceptanceSaid : Prop := graphAcceptanceRow.holds Try.pinned (OpenSpec.ofChange graphAcceptanceSpec)

/-- ITS FALSE NEIGHBOUR: 'it returns false'. Refute it at one input. -/
def graphAcceptanceWrong : ChangeSpec := { name := "graphAcceptance", fn := fun _ => fun
  | [d1, d2, d3] => { results := [.lit (.bool false)], args := [d1, d2, d3] }
  | _ => none }
def GraphAcceptanceWrongFalsely : Prop := graphAcceptanceRow.holds Try.pinned (OpenSpec.ofChange graphAcceptanceWrong)

/-- 'cspchecklaw24.GraphReach': WHATEVER THE INPUT: true; the input reads as it did. -/
def graphReachSpec : ChangeSpec := { name := "graphReach", fn := fun _ => fun
  | [d1, d2, d3, d4] => { results := [.lit (.bool true)], args := [d1, d2, d3, d4] }
  | _ => none }
def graphReachRow : OpenClaim := { program := "ytknfdpkfomlckaa", sum := "36d081007fea4cc3f37daabd76434cc99b73d99d3dce0101de6a2a28bf5521ad", func := "cspcheck/cspchecklaw24.GraphReach", spec := "graphReach", unfollowed := true, recurses := true, apart := false }
def GraphReachSaid : Prop := graphReachRow.holds Try.pinned (OpenSpec.ofChange graphReachSpec)

/-- ITS FALSE NEIGHBOUR: 'it returns false'. Refute it at one input. -/
def graphReachWrong : ChangeSpec := { name := "graphReach", fn := fun _ => fun
  | [d1, d2, d3, d4] => { results := [.lit (.bool false)], args := [d1, d2, d3, d4] }
  | _ => none }
def GraphReachWrongFalsely : Prop := graphReachRow.holds Try.pinned (OpenSpec.ofChange graphReachWrong)

/-- 'cspchecklaw24.GraphExamples': WHATEVER THE INPUT: true; the input reads as it did. -/
def graphExamplesSpec : ChangeSpec := { name := "graphExamples", fn := fun _ => fun
  | [] => { results := [.lit (.bool true)], args := [] }
  | _ => none }
def graphExamplesRow : OpenClaim := { program := "ytknfdpkfomlckaa", sum := "36d081007fea4cc3f37daabd76434cc99b73d99d3dce0101de6a2a28bf5521ad", func := "cspcheck/cspchecklaw24.GraphExamples", spec := "graphExamples", unfollowed := true, recurses := true, apart := false }
def GraphExamplesSaid : Prop := graphExamplesRow.holds Try.pinned (OpenSpec.ofChange graphExamplesSpec)

/-- ITS FALSE NEIGHBOUR: 'it returns false'. Refute it at one input. -/
def graphExamplesWrong : ChangeSpec := { name := "graphExamples", fn := fun _ => fun
  | [] => { results := [.lit (.bool false)], args := [] }
  | _ => none }
def GraphExamplesWrongFalsely : Prop := graphExamplesRow.holds Try.pinned (OpenSpec.ofChange graphExamplesWrong)

/-- 'cspchecklaw24.GraphDistances': WHATEVER THE INPUT: true; the input reads as it did. -/
def graphDistancesSpec : ChangeSpec := { name := "graphDistances", fn := fun _ => fun
  | [d1, d2] => { results := [.lit (.bool true)], args := [d1, d2] }
  | _ => none }
def graphDistancesRow : OpenClaim := { program := "ytknfdpkfomlckaa", sum := "36d081007fea4cc3f37daabd76434cc99b73d99d3dce0101de6a2a28bf5521ad", func := "cspcheck/cspchecklaw24.GraphDistances", spec := "graphDistances", unfollowed := true, recurses := true, apart := false }
def GraphDistancesSaid : Prop := graphDistancesRow.holds Try.pinned (OpenSpec.ofChange graphDistancesSpec)

/-- ITS FALSE NEIGHBOUR: 'it returns false'. Refute it at one input. -/
def graphDistancesWrong : ChangeSpec := { name := "graphDistances", fn := fun _ => fun
  | [d1, d2] => { results := [.lit (.bool false)], args := [d1, d2] }
  | _ => none }
def GraphDistancesWrongFalsely : Prop := graphDistancesRow.holds Try.pinned (OpenSpec.ofChange graphDistancesWrong)

/-- 'cspchecklaw24.GraphSteps': WHATEVER THE INPUT: true; the input reads as it did. -/
def graphStepsSpec : ChangeSpec := { name := "graphSteps", fn := fun _ => fun
  | [d] => { results := [.lit (.bool true)], args := [d] }
  | _ => none }
def graphStepsRow : OpenClaim := { program := "ytknfdpkfomlckaa", sum := "36d081007fea4cc3f37daabd76434cc99b73d99d3dce0101de6a2a28bf5521ad", func := "cspcheck/cspchecklaw24.GraphSteps", spec := "graphSteps", unfollowed := true, recurses := true, apart := false }
def GraphStepsSaid : Prop := graphStepsRow.holds Try.pinned (OpenSpec.ofChange graphStepsSpec)

/-- ITS FALSE NEIGHBOUR: 'it returns false'. Refute it at one input. -/
def graphStepsWrong : ChangeSpec := { name := "graphSteps", fn := fun _ => fun
  | [d] => { results := [.lit (.bool false)], args := [d] }
  | _ => none }
def GraphStepsWrongFalsely : Prop := graphStepsRow.holds Try.pinned (OpenSpec.ofChange graphStepsWrong)

/-- 'cspchecklaw24.GraphAfter': WHATEVER THE INPUT: true; the input reads as it did. -/
def graphAfterSpec : ChangeSpec := { name := "graphAfter", fn := fun _ => fun
  | [d1, d2, d3, d4] => { results := [.lit (.bool true)], args := [d1, d2, d3, d4] }
  | _ => none }
def graphAfterRow : OpenClaim := { program := "ytknfdpkfomlckaa", sum := "36d081007fea4cc3f37daabd76434cc99b73d99d3dce0101de6a2a28bf5521ad", func := "cspcheck/cspchecklaw24.GraphAfter", spec := "graphAfter", unfollowed := true, recurses := true, apart := false }
def GraphAfterSaid : Prop := graphAfterRow.holds Try.pinned (OpenSpec.ofChange graphAfterSpec)

/-- ITS FALSE NEIGHBOUR: 'it returns false'. Refute it at one input. -/
def graphAfterWrong : ChangeSpec := { name := "graphAfter", fn := fun _ => fun
  | [d1, d2, d3, d4] => { results := [.lit (.bool false)], args := [d1, d2, d3, d4] }
  | _ => none }
def GraphAfterWrongFalsely : Prop := graphAfterRow.holds Try.pinned (OpenSpec.ofChange graphAfterWrong)

/- THE SECOND FORM. 'bulk': how many values and letters a reading holds, each counted each time it is reached (what is shared counts as often as it is met; a slice's spare places count too). A statement '..UptoSaid' is the law's where the arguments, and the package variables that the reading takes, are together of bulk at most 1048576: NARROWER than '..Said'. Prove '..Said' where nothing that the law and all that it calls make is longer than what came in: it says more and counts as full. Else prove '..UptoSaid'. A law counts once. -/
mutual
def uptoBulk {H : Type} : DataW H → Nat
  | .lit (.string bytes) => bytes.length + 1
  | .lit _ => 1
  | .nil => 1
  | .ptr d => uptoBulk d + 1
  | .slice elems spare => uptoBulkAll elems + uptoBulkAll spare + 1
  | .agg parts => uptoBulkAll parts + 1
  | .iface _ d => uptoBulk d + 1
  | .map entries => uptoBulkEntries entries + 1
  | .held _ => 1
def uptoBulkAll {H : Type} : List (DataW H) → Nat
  | [] => 0
  | d :: r => uptoBulk d + uptoBulkAll r
def uptoBulkEntries {H : Type} : List (Lit × DataW H) → Nat
  | [] => 0
  | x :: r => uptoBulkEntry x + uptoBulkEntries r
def uptoBulkEntry {H : Type} : Lit × DataW H → Nat
  | (.string bytes, d) => bytes.length + uptoBulk d + 1
  | (_, d) => uptoBulk d + 1
 end
def uptoSmall : (H : Type) → List (DataW H) → Bool := fun _ ds => decide (uptoBulkAll ds ≤ 1048576)
def OpenSpec.upto (s : _root_.Go.ChangeSpec) : _root_.Go.OpenSpec := { _root_.Go.OpenSpec.ofChange s with cond := some uptoSmall }

/-- 'cspchecklaw24.GraphComponents', WHERE WHAT IT READS IS OF BULK AT MOST 1048576: true; the input reads as it did. -/
def graphComponentsUptoRow : OpenClaim := { program := "ytknfdpkfomlckaa", sum := "36d081007fea4cc3f37daabd76434cc99b73d99d3dce0101de6a2a28bf5521ad", func := "cspcheck/cspchecklaw24.GraphComponents", spec := "graphComponents", unfollowed := true, recurses := true, apart := false, narrowed := true }
def GraphComponentsUptoSaid : Prop := graphComponentsUptoRow.holds Try.pinned (OpenSpec.upto graphComponentsSpec)

/-- 'cspchecklaw24.GraphDivergent', WHERE WHAT IT READS IS OF BULK AT MOST 1048576: true; the input reads as it did. -/
def graphDivergentUptoRow : OpenClaim := { program := "ytknfdpkfomlckaa", sum := "36d081007fea4cc3f37daabd76434cc99b73d99d3dce0101de6a2a28bf5521ad", func := "cspcheck/cspchecklaw24.GraphDivergent", spec := "graphDivergent", unfollowed := true, recurses := true, apart := false, narrowed := true }
def GraphDivergentUptoSaid : Prop := graphDivergentUptoRow.holds Try.pinned (OpenSpec.upto graphDivergentSpec)

/-- 'cspchecklaw24.GraphLasso', WHERE WHAT IT READS IS OF BULK AT MOST 1048576: true; the input reads as it did. -/
def graphLassoUptoRow : OpenClaim := { program := "ytknfdpkfomlckaa", sum := "36d081007fea4cc3f37daabd76434cc99b73d99d3dce0101de6a2a28bf5521ad", func := "cspcheck/cspchecklaw24.GraphLasso", spec := "graphLasso", unfollowed := true, recurses := true, apart := false, narrowed := true }
def GraphLassoUptoSaid : Prop := graphLassoUptoRow.holds Try.pinned (OpenSpec.upto graphLassoSpec)

/-- 'cspchecklaw24.GraphAgrees', WHERE WHAT IT READS IS OF BULK AT MOST 1048576: true; the input reads as it did. -/
def graphAgreesUptoRow : OpenClaim := { program := "ytknfdpkfomlckaa", sum := "36d081007fea4cc3f37daabd76434cc99b73d99d3dce0101de6a2a28bf5521ad", func := "cspcheck/cspchecklaw24.GraphAgrees", spec := "graphAgrees", unfollowed := true, recurses := true, apart := false, narrowed := true }
def GraphAgreesUptoSaid : Prop := graphAgreesUptoRow.holds Try.pinned (OpenSpec.upto graphAgreesSpec)

/-- 'cspchecklaw24.GraphAcceptance', WHERE WHAT IT READS IS OF BULK AT MOST 1048576: true; the input reads as it did. -/
def graphAcceptanceUptoRow : OpenClaim := { program := "ytknfdpkfomlckaa", sum := "36d081007fea4cc3f37daabd76434cc99b73d99d3dce0101de6a2a28bf5521ad", func := "cspcheck/cspchecklaw24.GraphAcceptance", spec := "graphAcceptance", unfollowed := true, recurses := true, apart := false, narrowed := true }
def GraphAcceptanceUptoSaid : Prop := graphAcceptanceUptoRow.holds Try.pinned (OpenSpec.upto graphAcceptanceSpec)

/-- 'cspchecklaw24.GraphReach', WHERE WHAT IT READS IS OF BULK AT MOST 1048576: true; the input reads as it did. -/
def graphReachUptoRow : OpenClaim := { program := "ytknfdpkfomlckaa", sum := "36d081007fea4cc3f37daabd76434cc99b73d99d3dce0101de6a2a28bf5521ad", func := "cspcheck/cspchecklaw24.GraphReach", spec := "graphReach", unfollowed := true, recurses := true, apart := false, narrowed := true }
def GraphReachUptoSaid : Prop := graphReachUptoRow.holds Try.pinned (OpenSpec.upto graphReachSpec)

/-- 'cspchecklaw24.GraphExamples', WHERE WHAT IT READS IS OF BULK AT MOST 1048576: true; the input reads as it did. -/
def graphExamplesUptoRow : OpenClaim := { program := "ytknfdpkfomlckaa", sum := "36d081007fea4cc3f37daabd76434cc99b73d99d3dce0101de6a2a28bf5521ad", func := "cspcheck/cspchecklaw24.GraphExamples", spec := "graphExamples", unfollowed := true, recurses := true, apart := false, narrowed := true }
def GraphExamplesUptoSaid : Prop := graphExamplesUptoRow.holds Try.pinned (OpenSpec.upto graphExamplesSpec)

/-- 'cspchecklaw24.GraphDistances', WHERE WHAT IT READS IS OF BULK AT MOST 1048576: true; the input reads as it did. -/
def graphDistancesUptoRow : OpenClaim := { program := "ytknfdpkfomlckaa", sum := "36d081007fea4cc3f37daabd76434cc99b73d99d3dce0101de6a2a28bf5521ad", func := "cspcheck/cspchecklaw24.GraphDistances", spec := "graphDistances", unfollowed := true, recurses := true, apart := false, narrowed := true }
def GraphDistancesUptoSaid : Prop := graphDistancesUptoRow.holds Try.pinned (OpenSpec.upto graphDistancesSpec)

/-- 'cspchecklaw24.GraphSteps', WHERE WHAT IT READS IS OF BULK AT MOST 1048576: true; the input reads as it did. -/
def graphStepsUptoRow : OpenClaim := { program := "ytknfdpkfomlckaa", sum := "36d081007fea4cc3f37daabd76434cc99b73d99d3dce0101de6a2a28bf5521ad", func := "cspcheck/cspchecklaw24.GraphSteps", spec := "graphSteps", unfollowed := true, recurses := true, apart := false, narrowed := true }
def GraphStepsUptoSaid : Prop := graphStepsUptoRow.holds Try.pinned (OpenSpec.upto graphStepsSpec)

/-- 'cspchecklaw24.GraphAfter', WHERE WHAT IT READS IS OF BULK AT MOST 1048576: true; the input reads as it did. -/
def graphAfterUptoRow : OpenClaim := { program := "ytknfdpkfomlckaa", sum := "36d081007fea4cc3f37daabd76434cc99b73d99d3dce0101de6a2a28bf5521ad", func := "cspcheck/cspchecklaw24.GraphAfter", spec := "graphAfter", unfollowed := true, recurses := true, apart := false, narrowed := true }
def GraphAfterUptoSaid : Prop := graphAfterUptoRow.holds Try.pinned (OpenSpec.upto graphAfterSpec)

end Rows
end Go.Proofs.Ytknfdpkfomlckaa
