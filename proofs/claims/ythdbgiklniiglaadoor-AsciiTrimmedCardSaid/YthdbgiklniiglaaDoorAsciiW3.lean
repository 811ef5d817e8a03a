/- The walks of layer 1: numbers as digits (1.3), and the reference's lower case and fold. -/
import Derived.Test.YthdbgiklniiglaaDoorAsciiW2
import Derived.Test.YthdbgiklniiglaaDoorDecR
import Derived.Lib.ItoaLen
namespace Go.Proofs.YthdbgiklniiglaaDoor
open Go.RowKit

abbrev PowTab (w : World) : Prop := Lib.TabIs Tryd.prog w "internal/strconv.uint64pow10" .u64 Lib.pow10Tab
set_option maxHeartbeats 400000 in
theorem decimal_any (n : Int) (w : World) (h0 : -9223372036854775808 ≤ n) (h1 : n ≤ 9223372036854775807) (htab : PowTab w) :
    Calls Tryd.prog 28 #[.int .i64 n] w fun e w' => e = .returned (.string ⟨(Lib.itoa n).toArray⟩) ∧ Below w.heap.size w w' := by
  have H := Lib.hid htab
  clear htab
  go_enter Tryd.func28, Tryd.ntmps28
  go_wp2_with fail
  refine (Tryd.strconv_Itoa n h0 h1 w H.out).mono ?_
  rintro e w' ⟨rfl, k, os, hw⟩
  have hb : Below w.heap.size w w' := by rw [hw]; exact Lib.below_grow _ _ (Nat.le_refl _) _ _
  have Hw := Lib.hid hw
  clear hw
  go_wp2_with fail
  go_ret
  exact ⟨rfl, hb⟩
end Go.Proofs.YthdbgiklniiglaaDoor
