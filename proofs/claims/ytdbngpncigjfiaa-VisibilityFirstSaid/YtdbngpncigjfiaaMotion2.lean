/- The reference's Motion. -/
import Derived.Test.YtdbngpncigjfiaaMotion
namespace Go.Proofs.Ytdbngpncigjfiaa
open Go.RowKit

end Go.Proofs.Ytdbngpncigjfiaa
