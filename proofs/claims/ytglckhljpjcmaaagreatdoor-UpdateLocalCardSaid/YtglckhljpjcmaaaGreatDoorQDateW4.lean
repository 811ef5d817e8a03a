/- The walk of the reference's ParseDate (20.2). -/
import Derived.Test.YtglckhljpjcmaaaGreatDoorQDateW3
namespace Go.Proofs.YtglckhljpjcmaaaGreatDoor
open Go.RowKit

theorem months_test (s : ByteArray) (k : Nat) (hk : k < 12) : (((⟨#[74, 97, 110, 70, 101, 98, 77, 97, 114, 65, 112, 114, 77, 97, 121, 74, 117, 110, 74, 117, 108, 65, 117, 103, 83, 101, 112, 79, 99, 116, 78, 111, 118, 68, 101, 99]⟩ : ByteArray).extract (3 * k) (3 * k + 3)).toList == (s.extract 8 11).toList) = decide (nameFrom monthS (bs (s.extract 8 11)) 12 0 = k) := by
  rw [Lib.toList_data, Lib.toList_data]
  exact (congrArg (fun l => l == bs (s.extract 8 11)) (monthsT_at k hk)).trans (month_iff _ k hk)
theorem wdays_test (s : ByteArray) (k : Nat) (hk : k < 7) : (((⟨#[84, 104, 117, 70, 114, 105, 83, 97, 116, 83, 117, 110, 77, 111, 110, 84, 117, 101, 87, 101, 100]⟩ : ByteArray).extract (3 * k) (3 * k + 3)).toList == (s.extract 0 3).toList) = decide (nameFrom wdayS (bs (s.extract 0 3)) 7 0 = ((k + 3) % 7 : Nat)) := by
  rw [Lib.toList_data, Lib.toList_data]
  exact (congrArg (fun l => l == bs (s.extract 0 3)) (wdaysT_at k hk)).trans (wday_iff _ _ (by omega))

theorem num_of' (s : ByteArray) (i j : Nat) (hij : i < j) (hj : j ≤ s.size) : ∃ (a : Int) (b : Bool), (0 ≤ a ∧ a ≤ 2147483647) ∧ numV (bs (s.extract i j)) = .tuple #[.int .i64 a, .bool b] ∧ numAt (bs s) i j = if b then some a else none := by
  rcases num_of s i j hij hj with ⟨a, l, m, h1, h2⟩ | ⟨h1, h2⟩
  · exact ⟨a, true, ⟨l, m⟩, h2, h1⟩
  · exact ⟨0, false, ⟨by omega, by omega⟩, h2, h1⟩
end Go.Proofs.YtglckhljpjcmaaaGreatDoor
