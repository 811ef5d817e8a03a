/- The walks of the calendar functions: leap, length, before, Days, and the reference's. -/
import Derived.Test.YtglckhljpjcmaaaGreatDoorQDateP
import Derived.Test.YtglckhljpjcmaaaGreatDoorProg
import Derived.Test.YtglckhljpjcmaaaGreatDoorQPre
import Derived.WalkKit
import Derived.WalkSpells
import Derived.WalkLawsBesides
import Derived.Lib.Hide
namespace Go.Proofs.YtglckhljpjcmaaaGreatDoor
open Go.RowKit

theorem twelve {m : Int} (hm : 1 ≤ m) (hm' : m ≤ 12) : m = 1 ∨ m = 2 ∨ m = 3 ∨ m = 4 ∨ m = 5 ∨ m = 6 ∨ m = 7 ∨ m = 8 ∨ m = 9 ∨ m = 10 ∨ m = 11 ∨ m = 12 := by omega
theorem isAggInt : ∀ w, (isAgg 3).run Tryz.prog w = .ok false w := fun _ => by kernel_rfl
theorem sizeOfInt : ∀ w, (sizeOf 3).run Tryz.prog w = .ok 1 w := fun _ => by kernel_rfl
def lenv (m : Int) : Int := if m = 2 then 28 else if m = 4 ∨ m = 6 ∨ m = 9 ∨ m = 11 then 30 else 31
end Go.Proofs.YtglckhljpjcmaaaGreatDoor
