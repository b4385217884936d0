/- Plain: behaviors that refine each other have the same projections. No program in sight. -/
import Derived.Test.YtikpcipkkhmcfaaGreatQ08
namespace Go.Proofs.YtikpcipkkhmcfaaGreat.Beh
open Go.Proofs.YtikpcipkkhmcfaaGreat.Ind

theorem VB.pair {b : List En} (h : VB b) : b.Pairwise fun x y => ltT x.1 y.1 = true := by
 rw [List.pairwise_iff_getElem]
 intro i j hi hj hij
 exact h.lt hij (List.getElem?_eq_getElem hi) (List.getElem?_eq_getElem hj)
end Go.Proofs.YtikpcipkkhmcfaaGreat.Beh
