/- The reference's beyond. -/
import Derived.Test.YtikpcipkkhmcfaaGreatQ09
namespace Go.Proofs.YtikpcipkkhmcfaaGreat.Beh
open Go.RowKit Go.Lib Go.Proofs.YtikpcipkkhmcfaaGreat Go.Proofs.YtikpcipkkhmcfaaGreat.Ind

end Go.Proofs.YtikpcipkkhmcfaaGreat.Beh
