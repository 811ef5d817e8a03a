/- The walk of variantproxykeep.Strings. -/
import Derived.Test.YtglckhljpjcmaaaGreatDoorQPre
import Derived.WalkKit
import Derived.WalkSpells
import Derived.WalkLawsBesides
namespace Go.Proofs.YtglckhljpjcmaaaGreatDoor
open Go.RowKit

/-- It answers; and true says that the list is short. -/
def KeepOf (xs : List ByteArray) (w : World) (e : Ending) (w' : World) : Prop := ∃ b : Bool, e = .returned (.bool b) ∧ w = w' ∧ (b = true → xs.length ≤ 20 ∧ ∀ x ∈ xs, x.size ≤ 100)
end Go.Proofs.YtglckhljpjcmaaaGreatDoor
