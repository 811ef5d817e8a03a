/- The walks of the reference's entity tags (layer 21): tagText, ParseETag, ETagOf; firstDate, Validator. -/
import Derived.Test.YtglckhljpjcmaaaGreatDoorQRFld
import Derived.Test.YtglckhljpjcmaaaGreatDoorQEtagX
import Derived.Test.YtglckhljpjcmaaaGreatDoorQCondV
import Derived.Test.YtglckhljpjcmaaaGreatDoorQDateW4
import Derived.RegionTactic
namespace Go.Proofs.YtglckhljpjcmaaaGreatDoor
open Go.RowKit Go.Shelf

theorem weak_yes {s : ByteArray} (h : (s.extract 0 2).toList = [87, 47]) : weakL (bs s) = (bs (s.extract 2 s.size), true) := by
  have e : bs (s.extract 0 2) = [87, 47] := by rw [← h, Lib.toList_data]
  have e1 : bs (s.extract 0 2) = (bs s).take 2 := by unfold bs; rw [Lib.extract_data]; simp
  have hp : Lib.hasPrefix (bs s) [87, 47] = true := by
    unfold Lib.hasPrefix
    rw [List.isPrefixOf_iff_prefix, ← e, e1]
    exact List.take_prefix 2 _
  unfold weakL
  rw [hp, if_pos rfl]
  congr 1
  unfold bs
  rw [Lib.extract_data]
  exact (List.take_of_length_le (by rw [List.length_drop, ← Lib.size_eq]; omega)).symm
theorem weak_no {s : ByteArray} (h : s.size < 2 ∨ ¬ (s.extract 0 2).toList = [87, 47]) : weakL (bs s) = (bs s, false) := by
  have hp : Lib.hasPrefix (bs s) [87, 47] = false := by
    cases hq : Lib.hasPrefix (bs s) [87, 47] with
    | false => rfl
    | true =>
      unfold Lib.hasPrefix at hq
      rw [List.isPrefixOf_iff_prefix] at hq
      exfalso
      have hl := hq.length_le
      rw [bs_length] at hl
      rcases h with h | h
      · simp at hl; omega
      · apply h
        rw [Lib.toList_data]
        show bs (s.extract 0 2) = _
        have e1 : bs (s.extract 0 2) = (bs s).take 2 := by unfold bs; rw [Lib.extract_data]; simp
        rw [e1]
        exact (List.prefix_iff_eq_take.1 hq).symm
  unfold weakL
  rw [hp]; rfl
-- generated below
theorem rows2 (w : World) (X : List Value) (TX : TypeId) (Y : List Value) (TY : TypeId) :
    RowAt ((w.alloc (.cells X.toArray TX)).alloc (.cells Y.toArray TY)) w.heap.size TX X ∧ RowAt ((w.alloc (.cells X.toArray TX)).alloc (.cells Y.toArray TY)) (w.heap.size + 1) TY Y ∧ Below w.heap.size w ((w.alloc (.cells X.toArray TX)).alloc (.cells Y.toArray TY)) := by
  have h1 := RowAt.new w X TX
  have h2 := RowAt.new (w.alloc (.cells X.toArray TX)) Y TY
  have s1 : (w.alloc (.cells X.toArray TX)).heap.size = w.heap.size + 1 := Array.size_push _
  rw [s1] at h2
  exact ⟨h1.alloc _, h2, step_b (alloc_b w _) (alloc_b _ _)⟩
theorem below_drew {B : Nat} {a w : World} (h : Below B a w) : Below B a w.drew := ⟨h.os, h.tape, h.output, h.size, h.block⟩
end Go.Proofs.YtglckhljpjcmaaaGreatDoor
