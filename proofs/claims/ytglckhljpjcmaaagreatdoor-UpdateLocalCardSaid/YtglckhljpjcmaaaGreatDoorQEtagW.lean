/- The walks of the program's entity tags (layer 21): permitted, Parse, Format, Of. -/
import Derived.Test.YtglckhljpjcmaaaGreatDoorQEtagP
import Derived.Test.YtglckhljpjcmaaaGreatDoorQPre
import Derived.Test.YtglckhljpjcmaaaGreatDoorShelf
namespace Go.Proofs.YtglckhljpjcmaaaGreatDoor
open Go.RowKit Go.Shelf

abbrev etC (b : Bool) (t : ByteArray) : List Value := [.bool b, .string t]
theorem et_one (b : Bool) (t : ByteArray) : ∀ v ∈ etC b t, v.oneCell' = true := by intro v hv; simp at hv; rcases hv with rfl | rfl <;> rfl
end Go.Proofs.YtglckhljpjcmaaaGreatDoor
