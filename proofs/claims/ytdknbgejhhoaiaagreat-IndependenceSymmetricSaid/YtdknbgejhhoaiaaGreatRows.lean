/-
  No cell of these rows narrows 'for every input' (looked for: loops, veiled, ifaces, maps, wideKeys, modest, calm, conditions, laid).
  DERIVED. THE GIVEN ROWS OF THIS SEAT. 2 by the template 'for every input the law returns true; each argument reads behind the call as it read before'; 0 by the template 'total and deterministic' (their statements: YtdknbgejhhoaiaaGreatTotals.lean).
  GIVEN WITH THE SEED: the statements are not yours to turn. If you find one false, say at which input.
  Laid BY PROGRAM, IN A SANDBOX (cutbox-rows.mjs): the forced cells as the released guide's own fill.sh prints them over the translation 57d31f99ce6be775… (all of the seat's roots in one cut). By AI agents, Wed Nov 11 2026. No macro, syntax, notation, axiom, sorry.
-/
import Derived.Test.YtdknbgejhhoaiaaGreatChecked
import GoSem.Claim
import GoSem.ClaimJoined
import GoSem.ClaimMapViews
import Derived.JoinedTies
import Derived.KernelRfl
namespace Go.Proofs.YtdknbgejhhoaiaaGreat
/- THE CELL 'sum', in the pinned program and in every row, IS THE sha256 OF THE DUMP (.gsa) THAT YtdknbgejhhoaiaaGreatProg.lean LOADS. Nothing in Lean hashes anything: it is a label: what it is worth is what the hold of that sum in a sandbox is worth. -/
noncomputable def Tryz.pinned : Pinned := { name := "ytdknbgejhhoaiaagreat", sum := "57d31f99ce6be77590c4e35a4bf9aae1d2dbec9b31008338f09c38aac6fe8abd", checked := Tryz.checked }
namespace Rows
def none {H : Type} : Left H := { results := [], args := [] }

/-- 'cspchecklaw43.IndependencePermute': WHATEVER THE INPUT: true; the input reads as it did. -/
def independencePermuteSpec : ChangeSpec := { name := "independencePermute", fn := fun _ => fun
  | [d1, d2, d3] => { results := [.lit (.bool true)], args := [d1, d2, d3] }
  | _ => none }
def independencePermuteRow : OpenClaim := { program := "ytdknbgejhhoaiaagreat", sum := "57d31f99ce6be77590c4e35a4bf9aae1d2dbec9b31008338f09c38aac6fe8abd", func := "cspcheck/cspchecklaw43.IndependencePermute", spec := "independencePermute", unfollowed := true, recurses := true, plainKeys := false, apart := false }
def IndependencePermuteSaid : Prop := independencePermuteRow.holds Tryz.pinned (OpenSpec.ofChange independencePermuteSpec)

/-- ITS FALSE NEIGHBOUR: 'it returns false'. Refute it at one input. -/
def independencePermuteWrong : ChangeSpec := { name := "independencePermute", fn := fun _ => fun
  | [d1, d2, d3] => { results := [.lit (.bool false)], args := [d1, d2, d3] }
  | _ => none }
def IndependencePermuteWrongFalsely : Prop := independencePermuteRow.holds Tryz.pinned (OpenSpec.ofChange independencePermuteWrong)

/-- 'cspchecklaw43.IndependenceSymmetric': WHATEVER THE INPUT: true; the input reads as it did. -/
def independenceSymmetricSpec : ChangeSpec := { name := "independenceSymmetric", fn := fun _ => fun
  | [d] => { results := [.lit (.bool true)], args := [d] }
  | _ => none }
def independenceSymmetricRow : OpenClaim := { program := "ytdknbgejhhoaiaagreat", sum := "57d31f99ce6be77590c4e35a4bf9aae1d2dbec9b31008338f09c38aac6fe8abd", func := "cspcheck/cspchecklaw43.IndependenceSymmetric", spec := "independenceSymmetric", unfollowed := true, recurses := true, plainKeys := false, apart := false }
def IndependenceSymmetricSaid : Prop := independenceSymmetricRow.holds Tryz.pinned (OpenSpec.ofChange independenceSymmetricSpec)

/-- ITS FALSE NEIGHBOUR: 'it returns false'. Refute it at one input. -/
def independenceSymmetricWrong : ChangeSpec := { name := "independenceSymmetric", fn := fun _ => fun
  | [d] => { results := [.lit (.bool false)], args := [d] }
  | _ => none }
def IndependenceSymmetricWrongFalsely : Prop := independenceSymmetricRow.holds Tryz.pinned (OpenSpec.ofChange independenceSymmetricWrong)

/- THE SECOND FORM. 'bulk': how many values and letters a reading holds, each counted each time it is reached (what is shared counts as often as it is met; a slice's spare places count too). A statement '..UptoSaid' is the law's where the arguments, and the package variables that the reading takes, are together of bulk at most 1048576: NARROWER than '..Said'. Prove '..Said' where nothing that the law and all that it calls make is longer than what came in: it says more and counts as full. Else prove '..UptoSaid'. A law counts once. -/
mutual
def uptoBulk {H : Type} : DataW H → Nat
  | .lit (.string bytes) => bytes.length + 1
  | .lit _ => 1
  | .nil => 1
  | .ptr d => uptoBulk d + 1
  | .slice elems spare => uptoBulkAll elems + uptoBulkAll spare + 1
  | .agg parts => uptoBulkAll parts + 1
  | .iface _ d => uptoBulk d + 1
  | .map entries => uptoBulkEntries entries + 1
  | .held _ => 1
def uptoBulkAll {H : Type} : List (DataW H) → Nat
  | [] => 0
  | d :: r => uptoBulk d + uptoBulkAll r
def uptoBulkEntries {H : Type} : List (Lit × DataW H) → Nat
  | [] => 0
  | x :: r => uptoBulkEntry x + uptoBulkEntries r
def uptoBulkEntry {H : Type} : Lit × DataW H → Nat
  | (.string bytes, d) => bytes.length + uptoBulk d + 1
  | (_, d) => uptoBulk d + 1
 end
def uptoSmall : (H : Type) → List (DataW H) → Bool := fun _ ds => decide (uptoBulkAll ds ≤ 1048576)
def OpenSpec.upto (s : _root_.Go.ChangeSpec) : _root_.Go.OpenSpec := { _root_.Go.OpenSpec.ofChange s with cond := some uptoSmall }

/-- 'cspchecklaw43.IndependencePermute', WHERE WHAT IT READS IS OF BULK AT MOST 1048576: true; the input reads as it did. -/
def independencePermuteUptoRow : OpenClaim := { program := "ytdknbgejhhoaiaagreat", sum := "57d31f99ce6be77590c4e35a4bf9aae1d2dbec9b31008338f09c38aac6fe8abd", func := "cspcheck/cspchecklaw43.IndependencePermute", spec := "independencePermute", unfollowed := true, recurses := true, plainKeys := false, apart := false, narrowed := true }
def IndependencePermuteUptoSaid : Prop := independencePermuteUptoRow.holds Tryz.pinned (OpenSpec.upto independencePermuteSpec)

/-- 'cspchecklaw43.IndependenceSymmetric', WHERE WHAT IT READS IS OF BULK AT MOST 1048576: true; the input reads as it did. -/
def independenceSymmetricUptoRow : OpenClaim := { program := "ytdknbgejhhoaiaagreat", sum := "57d31f99ce6be77590c4e35a4bf9aae1d2dbec9b31008338f09c38aac6fe8abd", func := "cspcheck/cspchecklaw43.IndependenceSymmetric", spec := "independenceSymmetric", unfollowed := true, recurses := true, plainKeys := false, apart := false, narrowed := true }
def IndependenceSymmetricUptoSaid : Prop := independenceSymmetricUptoRow.holds Tryz.pinned (OpenSpec.upto independenceSymmetricSpec)

end Rows
end Go.Proofs.YtdknbgejhhoaiaaGreat
