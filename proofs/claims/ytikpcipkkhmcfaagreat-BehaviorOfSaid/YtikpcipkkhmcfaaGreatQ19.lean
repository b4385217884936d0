/- slices.ContainsFunc of a closure that holds nothing; behavior.visible. (Cut from B4.) -/
import Derived.Test.YtikpcipkkhmcfaaGreatQ18
import Derived.Test.YtikpcipkkhmcfaaGreatQ05
namespace Go.Proofs.YtikpcipkkhmcfaaGreat.Beh
open Go.RowKit Go.Lib Go.Proofs.YtikpcipkkhmcfaaGreat

end Go.Proofs.YtikpcipkkhmcfaaGreat.Beh
