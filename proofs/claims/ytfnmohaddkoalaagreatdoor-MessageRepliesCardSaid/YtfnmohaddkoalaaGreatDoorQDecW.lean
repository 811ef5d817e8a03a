/- The walks of decimal numbers (1.3), of the program and of the reference. -/
import Derived.Test.YtfnmohaddkoalaaGreatDoorQDecR
import Derived.Test.YtfnmohaddkoalaaGreatDoorShelf
import Derived.Lib.ItoaLen
namespace Go.Proofs.YtfnmohaddkoalaaGreatDoor
open Go.RowKit

abbrev PowTab (w : World) : Prop := Lib.TabIs Tryz.prog w "internal/strconv.uint64pow10" .u64 Lib.pow10Tab
set_option maxHeartbeats 400000 in
theorem decimal_any (n : Int) (w : World) (h0 : -9223372036854775808 ≤ n) (h1 : n ≤ 9223372036854775807) (htab : PowTab w) :
    Calls Tryz.prog 57 #[.int .i64 n] w fun e w' => e = .returned (.string ⟨(Lib.itoa n).toArray⟩) ∧ Below w.heap.size w w' := by
  have H := Lib.hid htab
  clear htab
  go_enter Tryz.func57, Tryz.ntmps57
  go_wp2_with fail
  refine (Tryz.strconv_Itoa n h0 h1 w H.out).mono ?_
  rintro e w' ⟨rfl, k, os, hw⟩
  have hb : Below w.heap.size w w' := by rw [hw]; exact Lib.below_grow _ _ (Nat.le_refl _) _ _
  have Hw := Lib.hid hw
  clear hw
  go_wp2_with fail
  go_ret
  exact ⟨rfl, hb⟩
theorem rdecimal_any (n : Int) (w : World) (h0 : -9223372036854775808 ≤ n) (h1 : n ≤ 9223372036854775807) :
    Calls Tryz.prog 44 #[.int .i64 n] w fun e w' => e = .returned (.string ⟨(Lib.itoa n).toArray⟩) ∧ Below w.heap.size w w' := by
  by_cases hn : n < 0
  · obtain ⟨m, rfl⟩ : ∃ m : Nat, n = -(m : Int) := ⟨n.natAbs, by omega⟩
    rw [Lib.itoa_neg m (by omega)]
    exact rdecimal_neg m w (by omega) (by omega)
  · obtain ⟨m, rfl⟩ : ∃ m : Nat, n = (m : Int) := ⟨n.toNat, by omega⟩
    rw [Lib.itoa_nonneg]
    exact rdecimal_pos m w (by omega)
/-- The table of powers of ten stands behind a call. -/
theorem PowTab.below {w w' : World} (h : PowTab w) (hb : Below w.heap.size w w') : PowTab w' := by
  have hg : Tryz.prog.globalNamed "internal/strconv.uint64pow10" = some 3 := by kernel_rfl
  exact var?_below hb hg (World.block_lt_of_cell? _ _ (Lib.TabIs.cell h hg 0 (by decide))) h
theorem itoa_len {n : Int} (h0 : -9223372036854775808 ≤ n) (h1 : n ≤ 9223372036854775807) : (Lib.itoa n).length ≤ 40 := by
  have := Lib.itoa_length_le n h0 h1
  omega
end Go.Proofs.YtfnmohaddkoalaaGreatDoor
