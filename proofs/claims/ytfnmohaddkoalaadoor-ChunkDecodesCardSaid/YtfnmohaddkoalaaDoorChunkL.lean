/- The walk of ChunkDecodes (law 5). Printed by gen_chunkl.py. -/
import Derived.Test.YtfnmohaddkoalaaDoorChunkA
import Derived.Test.YtfnmohaddkoalaaDoorRDecW
namespace Go.Proofs.YtfnmohaddkoalaaDoor
open Go.RowKit Go.Shelf
set_option linter.unusedSimpArgs false

set_option maxHeartbeats 1600000 in
theorem decodes_walk (s : ByteArray) (w : World) (_ : s.size ≤ 9223372036854775807) (hM : MaxOf w) :
    Calls Tryd.prog 3 #[.string s] w fun e w' => e = .returned (.bool true) ∧ Below w.heap.size w w' := by
  by_cases hl : 6000 < (s.size : Int)
  · go_enter Tryd.func3, Tryd.ntmps3
    go_wp2_with fail
    go_ret
    exact ⟨rfl, Below.refl _ _⟩
  have HM := Lib.hid hM
  obtain ⟨B, n, er, _, hv⟩ := dec_words (decL (bs s))
  have HV := Lib.hid hv
  clear hv hM
  go_enter Tryd.func3, Tryd.ntmps3
  go_wp2_with fail
  refine (decode_any s w (by omega) HM.out).mono ?_
  rintro e w1 ⟨rfl, hb1⟩
  rw [HV.out]
  go_wp2_with fail
  refine (rdec_any s w1 (by omega)).mono ?_
  rintro e w2 ⟨rfl, hb2⟩
  rw [HV.out]
  have b2 := step_b hb1 hb2
  go_wp2_with fail
  refine (awake5_any w2 (HM.out.below b2)).mono ?_
  rintro e w3 ⟨rfl, hb3⟩
  go_wp2_with fail
  go_ret
  exact ⟨rfl, step_b b2 hb3⟩
end Go.Proofs.YtfnmohaddkoalaaDoor
