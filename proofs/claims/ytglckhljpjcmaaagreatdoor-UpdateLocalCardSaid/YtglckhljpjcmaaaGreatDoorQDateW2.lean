/- The walks that read a date: the names, index, Parse, and the reference's ParseDate. -/
import Derived.Test.YtglckhljpjcmaaaGreatDoorQDateQ
import Derived.Test.YtglckhljpjcmaaaGreatDoorQDateW1
import Derived.Test.YtglckhljpjcmaaaGreatDoorQNumW
import Derived.Test.YtglckhljpjcmaaaGreatDoorQPre
namespace Go.Proofs.YtglckhljpjcmaaaGreatDoor
open Go.RowKit

theorem isAggStr : ∀ w, (isAgg 9).run Tryz.prog w = .ok false w := fun _ => by kernel_rfl
theorem sizeOfStr : ∀ w, (sizeOf 9).run Tryz.prog w = .ok 1 w := fun _ => by kernel_rfl
end Go.Proofs.YtglckhljpjcmaaaGreatDoor
