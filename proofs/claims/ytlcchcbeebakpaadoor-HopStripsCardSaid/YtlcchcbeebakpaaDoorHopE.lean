/- What the listed variables give the walks of law 25: the table of powers of ten. -/
import Derived.Test.YtlcchcbeebakpaaDoorDecW
import Derived.Test.YtlcchcbeebakpaaDoorPost
namespace Go.Proofs.YtlcchcbeebakpaaDoor
open Go.RowKit
theorem pow_of_laidH {W : World} (h : laidMetH Tryd.prog Rows.hopOnceRow.laid W) : PowTab W := by
  rw [MakeChecks.laidMetH_plain _ _ _ (by kernel_rfl)] at h
  obtain ⟨ps, hv, _⟩ := h
  obtain ⟨q1, hv1⟩ := laid_rest hv
  obtain ⟨q2, hv2⟩ := laid_rest hv1
  exact laid_tab (g := 3) (t := 149) (e := 138) (n := 20) (by kernel_rfl) (by kernel_rfl) Tryd.underlying149 Tryd.underlying138 (by kernel_rfl) (by kernel_rfl) hv2
end Go.Proofs.YtlcchcbeebakpaaDoor
