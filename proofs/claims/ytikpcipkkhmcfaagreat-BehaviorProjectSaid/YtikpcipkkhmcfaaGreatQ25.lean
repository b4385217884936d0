/- Plain: a list cut behind one more element. (Cut from K6.) -/
import Derived.Test.YtikpcipkkhmcfaaGreatQ00
namespace Go.Proofs.YtikpcipkkhmcfaaGreat.Ind
theorem take_snoc {α : Type} {l : List α} {k : Nat} {x : α} (h : l[k]? = some x) : l.take (k + 1) = l.take k ++ [x] := by
 rw [List.take_add_one, h]; rfl
end Go.Proofs.YtikpcipkkhmcfaaGreat.Ind
