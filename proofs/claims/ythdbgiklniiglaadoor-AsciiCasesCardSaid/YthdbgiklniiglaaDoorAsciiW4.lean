/- The walks of layer 1: the reference's lower case and fold, and numbers whole. -/
import Derived.Test.YthdbgiklniiglaaDoorAsciiW3
namespace Go.Proofs.YthdbgiklniiglaaDoor
open Go.RowKit

theorem rdecimal_any (n : Int) (w : World) (h0 : -9223372036854775808 ≤ n) (h1 : n ≤ 9223372036854775807) :
    Calls Tryd.prog 29 #[.int .i64 n] w fun e w' => e = .returned (.string ⟨(Lib.itoa n).toArray⟩) ∧ Below w.heap.size w w' := by
  by_cases hn : n < 0
  · obtain ⟨m, rfl⟩ : ∃ m : Nat, n = -(m : Int) := ⟨n.natAbs, by omega⟩
    rw [Lib.itoa_neg m (by omega)]
    exact rdecimal_neg m w (by omega) (by omega)
  · obtain ⟨m, rfl⟩ : ∃ m : Nat, n = (m : Int) := ⟨n.toNat, by omega⟩
    rw [Lib.itoa_nonneg]
    exact rdecimal_pos m w (by omega)
/-- The table of powers of ten stands behind a call. -/
theorem PowTab.below {w w' : World} (h : PowTab w) (hb : Below w.heap.size w w') : PowTab w' := by
  have hg : Tryd.prog.globalNamed "internal/strconv.uint64pow10" = some 3 := by kernel_rfl
  exact var?_below hb hg (World.block_lt_of_cell? _ _ (Lib.TabIs.cell h hg 0 (by decide))) h
end Go.Proofs.YthdbgiklniiglaaDoor
