/- The walk of the reference's ParseField (3.2). Printed by gen_rdec.py. -/
import Derived.Test.YtfnmohaddkoalaaGreatDoorQFieldX
import Derived.Test.YtfnmohaddkoalaaGreatDoorQDecodeW
import Derived.Deep.RegionWith
import Derived.IntWalk
namespace Go.Proofs.YtfnmohaddkoalaaGreatDoor
open Go.RowKit Go.Shelf
set_option linter.unusedSimpArgs false

theorem run_to2 (s : ByteArray) (k : Nat) (i : Int) (hi : i = k) (h : k ≤ s.size) (wx : World) : (Instr.slice 9 (.string s) none (some (.int .i64 i)) none).run Tryz.prog wx = .ok (.string (s.extract 0 k)) wx := by
  subst hi
  exact run_slice_string_h wx 9 s Tryz.underlying9 .i64 k (by omega) (by omega)
theorem fidx_cut (s : ByteArray) : (idxFrom 58 (bs s) 0 = -1 ∧ cutB 58 (bs s) = (bs s, [], false)) ∨ ∃ i : Nat, idxFrom 58 (bs s) 0 = i ∧ i < s.size ∧ cutB 58 (bs s) = (bs (s.extract 0 i), bs (s.extract (i + 1) s.size), true) := by
  rcases idxFrom_bd 58 (bs s) 0 with ⟨h1, h2⟩ | ⟨i, h1, _, h3, h4⟩
  · left; rw [List.drop_zero] at h2; exact ⟨h1, h2⟩
  · right
    rw [bs_length] at h3
    rw [List.drop_zero, Nat.sub_zero] at h4
    exact ⟨i, h1, h3, by rw [h4, ext_take, ext_from]⟩
end Go.Proofs.YtfnmohaddkoalaaGreatDoor
