/- The walk of the sanity check of the statements on dates. -/
import Derived.Test.YtijifhkadkefaaaDoorDateW3
namespace Go.Proofs.YtijifhkadkefaaaDoor
open Go.RowKit

abbrev sunday : ByteArray := ⟨#[83, 117, 110, 44, 32, 48, 54, 32, 78, 111, 118, 32, 49, 57, 57, 52, 32, 48, 56, 58, 52, 57, 58, 51, 55, 32, 71, 77, 84]⟩
theorem awake_v : dateV (parseD (bs sunday)) = .tuple #[.int .i64 784111777, .bool true] := by
  rw [show bs sunday = [83, 117, 110, 44, 32, 48, 54, 32, 78, 111, 118, 32, 49, 57, 57, 52, 32, 48, 56, 58, 52, 57, 58, 51, 55, 32, 71, 77, 84] from rfl, awake_parse]; rfl
set_option maxHeartbeats 400000 in
theorem awake_any (w : World) :
    Calls Tryd.prog 8 #[] w fun e w' => e = .returned (.bool true) ∧ Below w.heap.size w w' := by
  have H := Lib.hid awake_v
  have hd := awake_days
  go_enter Tryd.func8, Tryd.ntmps8
  go_wp2_with fail
  refine (parse_any sunday _ (by decide)).mono ?_
  rintro e w1 ⟨rfl, hb⟩
  rw [H.out]
  go_wp2_with (go_at_call 10; refine (days_any _ _ _ _).mono ?_; rintro e w' ⟨rfl, rfl⟩)
  go_ret
  exact ⟨rfl, hb⟩
end Go.Proofs.YtijifhkadkefaaaDoor
