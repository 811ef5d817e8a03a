/- The walks of the program's etag.Format and etag.Of (layer 21). -/
import Derived.Test.YtglckhljpjcmaaaGreatDoorQEtagW
namespace Go.Proofs.YtglckhljpjcmaaaGreatDoor
open Go.RowKit Go.Shelf

theorem cat_bs (a b : ByteArray) : a ++ b = ⟨(bs a ++ bs b).toArray⟩ := by
  apply ByteArray.ext
  simp [bs]
theorem etagV_form (o : Option (Bool × List UInt8)) : ∃ (b : Bool) (l : ByteArray) (ok : Bool), etagV o = .tuple #[.agg #[.bool b, .string l], .bool ok] := by
  cases o with
  | none => exact ⟨false, ⟨#[]⟩, false, rfl⟩
  | some p => exact ⟨p.1, ⟨p.2.toArray⟩, true, rfl⟩
abbrev nETag : ByteArray := ⟨#[69, 84, 97, 103]⟩
/-- The tag of a list of fields. -/
def ofE (xs : List Fd) : Option (Bool × List UInt8) := match getF (bs nETag) xs with | [] => none | x :: _ => etagL (bs x)
theorem getF_mem {n : List UInt8} {xs : List Fd} {x : ByteArray} {b : Nat} (hz : FldZ xs b) (h : x ∈ getF n xs) : x.size ≤ b := by
  unfold getF at h
  obtain ⟨f, hf, rfl⟩ := List.mem_map.1 h
  exact (hz f (List.mem_filter.1 hf).1).2
end Go.Proofs.YtglckhljpjcmaaaGreatDoor
