/- Contracts of the reference's Months. -/
import Derived.Test.YtfifbcniilaehaaDoorCivE
namespace Go.Proofs.YtfifbcniilaehaaDoor
open Go.RowKit

end Go.Proofs.YtfifbcniilaehaaDoor
