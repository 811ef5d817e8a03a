/- The walks of Trim (1.2), of the program and of the reference. -/
import Derived.Test.YtglckhljpjcmaaaGreatDoorQTrimP
import Derived.Test.YtglckhljpjcmaaaGreatDoorTrim
import Derived.Test.YtglckhljpjcmaaaGreatDoorQPre
import Derived.Lib.Hide
namespace Go.Proofs.YtglckhljpjcmaaaGreatDoor
open Go.RowKit

theorem str_of {s : ByteArray} {l : List UInt8} (h : bs s = l) : s = ⟨l.toArray⟩ := by rw [← h]
set_option maxHeartbeats 400000 in
theorem trim_any (s : ByteArray) (w : World) (hs : s.size ≤ 9223372036854775807) :
    Calls Tryz.prog 92 #[.string s] w fun e w' => e = .returned (.string ⟨(trimL (bs s)).toArray⟩) ∧ Below w.heap.size w w' := by
  have hcon : Calls Tryz.prog 101 #[.string s, .string ⟨#[32, 9]⟩] w fun e w' => e = .returned (.string ⟨(trimL (bs s)).toArray⟩) ∧ Below w.heap.size w w' := Tryz.strings_Trim s ⟨#[32, 9]⟩ w hs (by decide) (ascii_of_all (by decide))
  have HC := Lib.hid hcon
  clear hcon
  go_enter Tryz.func92, Tryz.ntmps92
  go_wp2_with fail
  refine HC.out.mono ?_
  rintro e w1 ⟨rfl, hb1⟩
  go_wp2_with fail
  go_ret
  exact ⟨rfl, hb1⟩
end Go.Proofs.YtglckhljpjcmaaaGreatDoor
