/- What the listed variables give the walks of layer 1: the table of powers of ten. -/
import Derived.Test.YthdbgiklniiglaaDoorAsciiW4
import Derived.Test.YthdbgiklniiglaaDoorPost
namespace Go.Proofs.YthdbgiklniiglaaDoor
open Go.RowKit
theorem pow_of_laid {W : World} (h : laidMetH Tryd.prog Rows.asciiTokensRow.laid W) : PowTab W := by
  rw [MakeChecks.laidMetH_plain _ _ _ (by kernel_rfl)] at h
  obtain ⟨ps, hv, _⟩ := h
  obtain ⟨q1, hv1⟩ := laid_rest hv
  obtain ⟨q2, hv2⟩ := laid_rest hv1
  exact laid_tab (rest := []) (g := 3) (t := 101) (e := 91) (n := 20) (by kernel_rfl) (by kernel_rfl) Tryd.underlying101 Tryd.underlying91 (by kernel_rfl) (by kernel_rfl) hv2
end Go.Proofs.YthdbgiklniiglaaDoor
