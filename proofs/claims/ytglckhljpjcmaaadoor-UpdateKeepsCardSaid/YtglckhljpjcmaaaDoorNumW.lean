/- The walks of the two readers of decimal digits (1.3). -/
import Derived.Test.YtglckhljpjcmaaaDoorStrP
import Derived.Test.YtglckhljpjcmaaaDoorProg
import Derived.WalkKit
import Derived.WalkSpells
import Derived.WalkLawsBesides
namespace Go.Proofs.YtglckhljpjcmaaaDoor
open Go.RowKit

end Go.Proofs.YtglckhljpjcmaaaDoor
