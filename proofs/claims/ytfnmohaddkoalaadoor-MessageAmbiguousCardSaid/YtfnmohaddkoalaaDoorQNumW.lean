/- The walks of the two readers of decimal digits (1.3). -/
import Derived.Test.YtfnmohaddkoalaaDoorQPre
import Derived.Test.YtfnmohaddkoalaaDoorProg
import Derived.WalkKit
import Derived.WalkSpells
import Derived.WalkLawsBesides
namespace Go.Proofs.YtfnmohaddkoalaaDoor
open Go.RowKit

set_option maxHeartbeats 400000 in
theorem number_any (s : ByteArray) (w : World) (hs : s.size ≤ 140737488355328) :
    Calls Tryd.prog 58 #[.string s] w fun e w' => e = .returned (numV (bs s)) ∧ w = w' := by
  go_enter Tryd.func58, Tryd.ntmps58
  go_wp2
  go_loop [4, 8] (fun n j => ∃ (k : Nat) (a : Int), k ≤ s.size ∧ j = .int .i64 k ∧ n = .int .i64 a ∧ 0 ≤ a ∧ a ≤ 2147483647 ∧ Hid (numGo (bs s) 0 = numGo ((bs s).drop k) a)) (fun _ j => s.size - (intOf j).toNat)
  case atStart => exact ⟨0, 0, by omega, rfl, rfl, by omega, by omega, Lib.hid rfl⟩
  case round =>
    obtain ⟨k, a, hk, rfl, rfl, ha, ha', H⟩ := hrel
    by_cases hlt : k < s.size
    · have Hs := Lib.hid (numGo_step s a hlt)
      go_wp2
      · go_ret2
        exact ⟨by rw [numV_none (by rw [H.out, Hs.out, if_neg (by rw [digB_false (by omega)]; decide)])]; rfl, rfl⟩
      · go_round
        case rel =>
          exact ⟨k + 1, min (10 * a + ((s[k].toNat : Int) - 48)) 2147483647, by omega, by go_num, by go_num, by omega, by omega, Lib.hid (by rw [H.out, Hs.out, if_pos (digB_true (by omega))])⟩
        case measure => simp [intOf]; omega
      · go_ret2
        exact ⟨by rw [numV_none (by rw [H.out, Hs.out, if_neg (by rw [digB_false (by omega)]; decide)])]; rfl, rfl⟩
    · have He := Lib.hid (numGo_end s a (k := k) (by omega))
      go_wp2
      go_ret2
      exact ⟨by rw [numV_some (H.out.trans He.out)]; simp [Lib.toList_data], rfl⟩
end Go.Proofs.YtfnmohaddkoalaaDoor
