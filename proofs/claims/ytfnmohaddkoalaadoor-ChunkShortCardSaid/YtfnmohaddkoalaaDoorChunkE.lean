/- What the listed variables give the walks of law 5: the table behind TrailingZeros64. Printed by gen_chunke.py. -/
import Derived.Test.YtfnmohaddkoalaaDoorFmtW
import Derived.Test.YtfnmohaddkoalaaDoorPost
namespace Go.Proofs.YtfnmohaddkoalaaDoor
open Go.RowKit
def deTab : List Int := [0, 1, 56, 2, 57, 49, 28, 3, 61, 58, 42, 50, 38, 29, 17, 4, 62, 47, 59, 36, 45, 43, 51, 22, 53, 39, 33, 30, 24, 18, 12, 5, 63, 55, 48, 27, 60, 41, 37, 16, 46, 35, 44, 21, 52, 32, 23, 11, 54, 26, 40, 15, 34, 20, 31, 10, 25, 14, 19, 9, 13, 8, 7, 6]
theorem deb_of_laid {W : World} (h : laidMetH Tryd.prog Rows.chunkEncodesRow.laid W) : DeB W := by
  rw [MakeChecks.laidMetH_plain _ _ _ (by kernel_rfl)] at h
  obtain ⟨ps, hv, _⟩ := h
  obtain ⟨q1, hv1⟩ := laid_rest hv
  have ht := laid_tab (zs := deTab) (g := 5) (t := 130) (e := 5) (n := 64) (by kernel_rfl) (by kernel_rfl) Tryd.underlying130 Tryd.underlying5 (by kernel_rfl) (by kernel_rfl) hv1
  exact Lib.TabIs.cell ht (by kernel_rfl) 15 (by decide)
end Go.Proofs.YtfnmohaddkoalaaDoor
