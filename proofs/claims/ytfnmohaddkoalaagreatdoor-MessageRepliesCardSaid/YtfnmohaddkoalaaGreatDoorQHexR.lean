/- The walk of the reference's hexadecimal digit: lines of TargV1. -/
import Derived.Test.YtfnmohaddkoalaaGreatDoorQPre
import Derived.Test.YtfnmohaddkoalaaGreatDoorQNumW
import Derived.Test.YtfnmohaddkoalaaGreatDoorQLineW
import Derived.Deep.RegionHeld3
import Derived.IntWalk
namespace Go.Proofs.YtfnmohaddkoalaaGreatDoor
open Go.RowKit

theorem hdigit_any (c : UInt8) (w : World) :
    Calls Tryz.prog 88 #[.int .u8 c.toNat] w fun e w' => e = .returned (.bool (digB c)) ∧ w = w' := by
  go_enter Tryz.func88, Tryz.ntmps88
  go_wp2
  all_goals (go_ret; exact ⟨ret_bool (by rw [Bool.eq_iff_iff]; simp [digB]; omega), rfl⟩)
end Go.Proofs.YtfnmohaddkoalaaGreatDoor
