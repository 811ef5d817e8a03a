/- The walks that read a date: the names, index, Parse, and the reference's ParseDate. -/
import Derived.Test.YtglckhljpjcmaaaDoorDateQ
import Derived.Test.YtglckhljpjcmaaaDoorDateW1
import Derived.Test.YtglckhljpjcmaaaDoorNumW
import Derived.Test.YtglckhljpjcmaaaDoorLib
namespace Go.Proofs.YtglckhljpjcmaaaDoor
open Go.RowKit

theorem isAggStr : ∀ w, (isAgg 9).run Tryd.prog w = .ok false w := fun _ => by kernel_rfl
theorem sizeOfStr : ∀ w, (sizeOf 9).run Tryd.prog w = .ok 1 w := fun _ => by kernel_rfl
end Go.Proofs.YtglckhljpjcmaaaDoor
