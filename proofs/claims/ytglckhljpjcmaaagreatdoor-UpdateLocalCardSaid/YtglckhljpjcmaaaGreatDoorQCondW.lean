/- The walk of condition.one (layer 31). -/
import Derived.Test.YtglckhljpjcmaaaGreatDoorQPre
namespace Go.Proofs.YtglckhljpjcmaaaGreatDoor
open Go.RowKit

/-- The name equals one of these. -/
def oneB (n : List UInt8) : List (List UInt8) → Bool
  | [] => false
  | x :: t => foldB n x || oneB n t
theorem oneB_at {n : List UInt8} {xs : List ByteArray} {k : Nat} {x : ByteArray} (h : xs[k]? = some x) : oneB n ((xs.map bs).drop k) = (foldB n (bs x) || oneB n ((xs.map bs).drop (k + 1))) := by
  have hk : k < xs.length := (List.getElem?_eq_some_iff.1 h).1
  have hx : xs[k] = x := (List.getElem?_eq_some_iff.1 h).2
  rw [List.drop_eq_getElem_cons (show k < (xs.map bs).length by simpa using hk), oneB]
  simp [hx]
theorem oneB_end {n : List UInt8} (k : Nat) {xs : List ByteArray} (h : xs.length ≤ k) : oneB n ((xs.map bs).drop k) = false := by
  rw [List.drop_of_length_le (show (xs.map bs).length ≤ k by simpa using h)]; rfl
end Go.Proofs.YtglckhljpjcmaaaGreatDoor
