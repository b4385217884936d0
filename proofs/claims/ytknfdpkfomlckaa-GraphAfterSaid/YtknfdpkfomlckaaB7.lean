/- A slice of integers opened; nil has no capacity. -/
import Derived.Test.YtknfdpkfomlckaaPA
namespace Go.Proofs.Ytknfdpkfomlckaa
open Go.RowKit Go.WideShapes Go.ChangeShapes Go.Deep

set_option maxRecDepth 100000 in
theorem ints_open2 {H : Type} {enc : TypeId × Value → H} {W : World} {base : Nat} {v : Value} {d : DataW H} {ps : List MemPlace} (hv : Value.okWide Try.prog W .any base 22 v) (h : DataW.Trod enc Try.prog W 0 (fun _ => true) true 22 v d ps) :
    ∃ a cap xs, v = .slice a (List.length xs) cap ∧ Rd W.heap.size W a xs.length cap 1 (ints xs) ∧ (a = none → cap = 0) := by
  obtain ⟨a, cap, xs, rfl, h1, h2⟩ := ints_open hv h
  refine ⟨a, cap, xs, rfl, h1, fun ha => ?_⟩
  subst ha
  obtain ⟨fuel, hf⟩ := h
  rcases open_ints Try.underlying22 Try.underlying3 cellsInt hf with ⟨hcs, -⟩ | ⟨a, len', cap', zs, hcs, _⟩
  · simp [Value.cells] at hcs
    exact hcs.2
  · simp [Value.cells] at hcs

end Go.Proofs.Ytknfdpkfomlckaa
