/-
  No cell of these rows narrows 'for every input' (looked for: loops, veiled, ifaces, maps, wideKeys, modest, calm, conditions, laid).
  DERIVED. THE GIVEN ROWS OF THIS SEAT. 6 by the template 'for every input the law returns true; each argument reads behind the call as it read before'; 0 by the template 'total and deterministic' (their statements: YtikpcipkkhmcfaaGreatTotals.lean).
  GIVEN WITH THE SEED: the statements are not yours to turn. If you find one false, say at which input.
  Laid BY PROGRAM, IN A SANDBOX (cutbox-rows.mjs): the forced cells as the released guide's own fill.sh prints them over the translation 7b572bca5a205779… (all of the seat's roots in one cut). By AI agents, Wed Nov 11 2026. No macro, syntax, notation, axiom, sorry.
-/
import Derived.Test.YtikpcipkkhmcfaaGreatChecked
import GoSem.Claim
import GoSem.ClaimJoined
import GoSem.ClaimMapViews
import Derived.JoinedTies
import Derived.KernelRfl
namespace Go.Proofs.YtikpcipkkhmcfaaGreat
/- THE CELL 'sum', in the pinned program and in every row, IS THE sha256 OF THE DUMP (.gsa) THAT YtikpcipkkhmcfaaGreatProg.lean LOADS. Nothing in Lean hashes anything: it is a label: what it is worth is what the hold of that sum in a sandbox is worth. -/
noncomputable def Tryz.pinned : Pinned := { name := "ytikpcipkkhmcfaagreat", sum := "7b572bca5a205779034af1f13cb44fac05d623a2d7dea44083d8618c903092ef", checked := Tryz.checked }
namespace Rows
def none {H : Type} : Left H := { results := [], args := [] }

/-- 'cspchecklaw32.BehaviorOf': WHATEVER THE INPUT: true; the input reads as it did. -/
def behaviorOfSpec : ChangeSpec := { name := "behaviorOf", fn := fun _ => fun
  | [d1, d2, d3] => { results := [.lit (.bool true)], args := [d1, d2, d3] }
  | _ => none }
def behaviorOfRow : OpenClaim := { program := "ytikpcipkkhmcfaagreat", sum := "7b572bca5a205779034af1f13cb44fac05d623a2d7dea44083d8618c903092ef", func := "cspcheck/cspchecklaw32.BehaviorOf", spec := "behaviorOf", unfollowed := true, recurses := true, apart := false }
def BehaviorOfSaid : Prop := behaviorOfRow.holds Tryz.pinned (OpenSpec.ofChange behaviorOfSpec)

/-- ITS FALSE NEIGHBOUR: 'it returns false'. Refute it at one input. -/
def behaviorOfWrong : ChangeSpec := { name := "behaviorOf", fn := fun _ => fun
  | [d1, d2, d3] => { results := [.lit (.bool false)], args := [d1, d2, d3] }
  | _ => none }
def BehaviorOfWrongFalsely : Prop := behaviorOfRow.holds Tryz.pinned (OpenSpec.ofChange behaviorOfWrong)

/-- 'cspchecklaw32.BehaviorFind': WHATEVER THE INPUT: true; the input reads as it did. -/
def behaviorFindSpec : ChangeSpec := { name := "behaviorFind", fn := fun _ => fun
  | [d1, d2, d3] => { results := [.lit (.bool true)], args := [d1, d2, d3] }
  | _ => none }
def behaviorFindRow : OpenClaim := { program := "ytikpcipkkhmcfaagreat", sum := "7b572bca5a205779034af1f13cb44fac05d623a2d7dea44083d8618c903092ef", func := "cspcheck/cspchecklaw32.BehaviorFind", spec := "behaviorFind", unfollowed := true, recurses := true, apart := false }
def BehaviorFindSaid : Prop := behaviorFindRow.holds Tryz.pinned (OpenSpec.ofChange behaviorFindSpec)

/-- ITS FALSE NEIGHBOUR: 'it returns false'. Refute it at one input. -/
def behaviorFindWrong : ChangeSpec := { name := "behaviorFind", fn := fun _ => fun
  | [d1, d2, d3] => { results := [.lit (.bool false)], args := [d1, d2, d3] }
  | _ => none }
def BehaviorFindWrongFalsely : Prop := behaviorFindRow.holds Tryz.pinned (OpenSpec.ofChange behaviorFindWrong)

/-- 'cspchecklaw32.BehaviorValid': WHATEVER THE INPUT: true; the input reads as it did. -/
def behaviorValidSpec : ChangeSpec := { name := "behaviorValid", fn := fun _ => fun
  | [d1, d2, d3, d4] => { results := [.lit (.bool true)], args := [d1, d2, d3, d4] }
  | _ => none }
def behaviorValidRow : OpenClaim := { program := "ytikpcipkkhmcfaagreat", sum := "7b572bca5a205779034af1f13cb44fac05d623a2d7dea44083d8618c903092ef", func := "cspcheck/cspchecklaw32.BehaviorValid", spec := "behaviorValid", unfollowed := true, recurses := true, apart := false }
def BehaviorValidSaid : Prop := behaviorValidRow.holds Tryz.pinned (OpenSpec.ofChange behaviorValidSpec)

/-- ITS FALSE NEIGHBOUR: 'it returns false'. Refute it at one input. -/
def behaviorValidWrong : ChangeSpec := { name := "behaviorValid", fn := fun _ => fun
  | [d1, d2, d3, d4] => { results := [.lit (.bool false)], args := [d1, d2, d3, d4] }
  | _ => none }
def BehaviorValidWrongFalsely : Prop := behaviorValidRow.holds Tryz.pinned (OpenSpec.ofChange behaviorValidWrong)

/-- 'cspchecklaw32.BehaviorProject': WHATEVER THE INPUT: true; the input reads as it did. -/
def behaviorProjectSpec : ChangeSpec := { name := "behaviorProject", fn := fun _ => fun
  | [d1, d2, d3] => { results := [.lit (.bool true)], args := [d1, d2, d3] }
  | _ => none }
def behaviorProjectRow : OpenClaim := { program := "ytikpcipkkhmcfaagreat", sum := "7b572bca5a205779034af1f13cb44fac05d623a2d7dea44083d8618c903092ef", func := "cspcheck/cspchecklaw32.BehaviorProject", spec := "behaviorProject", unfollowed := true, recurses := true, apart := false }
def BehaviorProjectSaid : Prop := behaviorProjectRow.holds Tryz.pinned (OpenSpec.ofChange behaviorProjectSpec)

/-- ITS FALSE NEIGHBOUR: 'it returns false'. Refute it at one input. -/
def behaviorProjectWrong : ChangeSpec := { name := "behaviorProject", fn := fun _ => fun
  | [d1, d2, d3] => { results := [.lit (.bool false)], args := [d1, d2, d3] }
  | _ => none }
def BehaviorProjectWrongFalsely : Prop := behaviorProjectRow.holds Tryz.pinned (OpenSpec.ofChange behaviorProjectWrong)

/-- 'cspchecklaw32.BehaviorRefines': WHATEVER THE INPUT: true; the input reads as it did. -/
def behaviorRefinesSpec : ChangeSpec := { name := "behaviorRefines", fn := fun _ => fun
  | [d1, d2, d3, d4] => { results := [.lit (.bool true)], args := [d1, d2, d3, d4] }
  | _ => none }
def behaviorRefinesRow : OpenClaim := { program := "ytikpcipkkhmcfaagreat", sum := "7b572bca5a205779034af1f13cb44fac05d623a2d7dea44083d8618c903092ef", func := "cspcheck/cspchecklaw32.BehaviorRefines", spec := "behaviorRefines", unfollowed := true, recurses := true, apart := false }
def BehaviorRefinesSaid : Prop := behaviorRefinesRow.holds Tryz.pinned (OpenSpec.ofChange behaviorRefinesSpec)

/-- ITS FALSE NEIGHBOUR: 'it returns false'. Refute it at one input. -/
def behaviorRefinesWrong : ChangeSpec := { name := "behaviorRefines", fn := fun _ => fun
  | [d1, d2, d3, d4] => { results := [.lit (.bool false)], args := [d1, d2, d3, d4] }
  | _ => none }
def BehaviorRefinesWrongFalsely : Prop := behaviorRefinesRow.holds Tryz.pinned (OpenSpec.ofChange behaviorRefinesWrong)

/-- 'cspchecklaw32.BehaviorOrder': WHATEVER THE INPUT: true; the input reads as it did. -/
def behaviorOrderSpec : ChangeSpec := { name := "behaviorOrder", fn := fun _ => fun
  | [d] => { results := [.lit (.bool true)], args := [d] }
  | _ => none }
def behaviorOrderRow : OpenClaim := { program := "ytikpcipkkhmcfaagreat", sum := "7b572bca5a205779034af1f13cb44fac05d623a2d7dea44083d8618c903092ef", func := "cspcheck/cspchecklaw32.BehaviorOrder", spec := "behaviorOrder", unfollowed := true, recurses := true, apart := false }
def BehaviorOrderSaid : Prop := behaviorOrderRow.holds Tryz.pinned (OpenSpec.ofChange behaviorOrderSpec)

/-- ITS FALSE NEIGHBOUR: 'it returns false'. Refute it at one input. -/
def behaviorOrderWrong : ChangeSpec := { name := "behaviorOrder", fn := fun _ => fun
  | [d] => { results := [.lit (.bool false)], args := [d] }
  | _ => none }
def BehaviorOrderWrongFalsely : Prop := behaviorOrderRow.holds Tryz.pinned (OpenSpec.ofChange behaviorOrderWrong)

/- THE SECOND FORM. 'bulk': how many values and letters a reading holds, each counted each time it is reached (what is shared counts as often as it is met; a slice's spare places count too). A statement '..UptoSaid' is the law's where the arguments, and the package variables that the reading takes, are together of bulk at most 1048576: NARROWER than '..Said'. Prove '..Said' where nothing that the law and all that it calls make is longer than what came in: it says more and counts as full. Else prove '..UptoSaid'. A law counts once. -/
mutual
def uptoBulk {H : Type} : DataW H → Nat
  | .lit (.string bytes) => bytes.length + 1
  | .lit _ => 1
  | .nil => 1
  | .ptr d => uptoBulk d + 1
  | .slice elems spare => uptoBulkAll elems + uptoBulkAll spare + 1
  | .agg parts => uptoBulkAll parts + 1
  | .iface _ d => uptoBulk d + 1
  | .map entries => uptoBulkEntries entries + 1
  | .held _ => 1
def uptoBulkAll {H : Type} : List (DataW H) → Nat
  | [] => 0
  | d :: r => uptoBulk d + uptoBulkAll r
def uptoBulkEntries {H : Type} : List (Lit × DataW H) → Nat
  | [] => 0
  | x :: r => uptoBulkEntry x + uptoBulkEntries r
def uptoBulkEntry {H : Type} : Lit × DataW H → Nat
  | (.string bytes, d) => bytes.length + uptoBulk d + 1
  | (_, d) => uptoBulk d + 1
 end
def uptoSmall : (H : Type) → List (DataW H) → Bool := fun _ ds => decide (uptoBulkAll ds ≤ 1048576)
def OpenSpec.upto (s : _root_.Go.ChangeSpec) : _root_.Go.OpenSpec := { _root_.Go.OpenSpec.ofChange s with cond := some uptoSmall }

/-- 'cspchecklaw32.BehaviorOf', WHERE WHAT IT READS IS OF BULK AT MOST 1048576: true; the input reads as it did. -/
def behaviorOfUptoRow : OpenClaim := { program := "ytikpcipkkhmcfaagreat", sum := "7b572bca5a205779034af1f13cb44fac05d623a2d7dea44083d8618c903092ef", func := "cspcheck/cspchecklaw32.BehaviorOf", spec := "behaviorOf", unfollowed := true, recurses := true, apart := false, narrowed := true }
def BehaviorOfUptoSaid : Prop := behaviorOfUptoRow.holds Tryz.pinned (OpenSpec.upto behaviorOfSpec)

/-- 'cspchecklaw32.BehaviorFind', WHERE WHAT IT READS IS OF BULK AT MOST 1048576: true; the input reads as it did. -/
def behaviorFindUptoRow : OpenClaim := { program := "ytikpcipkkhmcfaagreat", sum := "7b572bca5a205779034af1f13cb44fac05d623a2d7dea44083d8618c903092ef", func := "cspcheck/cspchecklaw32.BehaviorFind", spec := "behaviorFind", unfollowed := true, recurses := true, apart := false, narrowed := true }
def BehaviorFindUptoSaid : Prop := behaviorFindUptoRow.holds Tryz.pinned (OpenSpec.upto behaviorFindSpec)

/-- 'cspchecklaw32.BehaviorValid', WHERE WHAT IT READS IS OF BULK AT MOST 1048576: true; the input reads as it did. -/
def behaviorValidUptoRow : OpenClaim := { program := "ytikpcipkkhmcfaagreat", sum := "7b572bca5a205779034af1f13cb44fac05d623a2d7dea44083d8618c903092ef", func := "cspcheck/cspchecklaw32.BehaviorValid", spec := "behaviorValid", unfollowed := true, recurses := true, apart := false, narrowed := true }
def BehaviorValidUptoSaid : Prop := behaviorValidUptoRow.holds Tryz.pinned (OpenSpec.upto behaviorValidSpec)

/-- 'cspchecklaw32.BehaviorProject', WHERE WHAT IT READS IS OF BULK AT MOST 1048576: true; the input reads as it did. -/
def behaviorProjectUptoRow : OpenClaim := { program := "ytikpcipkkhmcfaagreat", sum := "7b572bca5a205779034af1f13cb44fac05d623a2d7dea44083d8618c903092ef", func := "cspcheck/cspchecklaw32.BehaviorProject", spec := "behaviorProject", unfollowed := true, recurses := true, apart := false, narrowed := true }
def BehaviorProjectUptoSaid : Prop := behaviorProjectUptoRow.holds Tryz.pinned (OpenSpec.upto behaviorProjectSpec)

/-- 'cspchecklaw32.BehaviorRefines', WHERE WHAT IT READS IS OF BULK AT MOST 1048576: true; the input reads as it did. -/
def behaviorRefinesUptoRow : OpenClaim := { program := "ytikpcipkkhmcfaagreat", sum := "7b572bca5a205779034af1f13cb44fac05d623a2d7dea44083d8618c903092ef", func := "cspcheck/cspchecklaw32.BehaviorRefines", spec := "behaviorRefines", unfollowed := true, recurses := true, apart := false, narrowed := true }
def BehaviorRefinesUptoSaid : Prop := behaviorRefinesUptoRow.holds Tryz.pinned (OpenSpec.upto behaviorRefinesSpec)

/-- 'cspchecklaw32.BehaviorOrder', WHERE WHAT IT READS IS OF BULK AT MOST 1048576: true; the input reads as it did. -/
def behaviorOrderUptoRow : OpenClaim := { program := "ytikpcipkkhmcfaagreat", sum := "7b572bca5a205779034af1f13cb44fac05d623a2d7dea44083d8618c903092ef", func := "cspcheck/cspchecklaw32.BehaviorOrder", spec := "behaviorOrder", unfollowed := true, recurses := true, apart := false, narrowed := true }
def BehaviorOrderUptoSaid : Prop := behaviorOrderUptoRow.holds Tryz.pinned (OpenSpec.upto behaviorOrderSpec)

end Rows
end Go.Proofs.YtikpcipkkhmcfaaGreat
