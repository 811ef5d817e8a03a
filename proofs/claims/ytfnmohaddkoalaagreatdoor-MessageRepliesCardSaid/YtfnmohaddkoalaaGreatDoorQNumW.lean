/- The walks of the two readers of decimal digits (1.3). -/
import Derived.Test.YtfnmohaddkoalaaGreatDoorQPre
import Derived.Test.YtfnmohaddkoalaaGreatDoorProg
import Derived.WalkKit
import Derived.WalkSpells
import Derived.WalkLawsBesides
namespace Go.Proofs.YtfnmohaddkoalaaGreatDoor
open Go.RowKit

set_option maxHeartbeats 400000 in
theorem number_any (s : ByteArray) (w : World) (hs : s.size ≤ 140737488355328) :
    Calls Tryz.prog 50 #[.string s] w fun e w' => e = .returned (numV (bs s)) ∧ w = w' := by
  go_enter Tryz.func50, Tryz.ntmps50
  go_wp2
  go_loop [4, 8] (fun n j => ∃ (k : Nat) (a : Int), k ≤ s.size ∧ j = .int .i64 k ∧ n = .int .i64 a ∧ 0 ≤ a ∧ a ≤ 2147483647 ∧ Hid (numGo (bs s) 0 = numGo ((bs s).drop k) a)) (fun _ j => s.size - (intOf j).toNat)
  case atStart => exact ⟨0, 0, by omega, rfl, rfl, by omega, by omega, Lib.hid rfl⟩
  case round =>
    obtain ⟨k, a, hk, rfl, rfl, ha, ha', H⟩ := hrel
    by_cases hlt : k < s.size
    · have Hs := Lib.hid (numGo_step s a hlt)
      go_wp2
      · go_ret2
        exact ⟨by rw [numV_none (by rw [H.out, Hs.out, if_neg (by rw [digB_false (by omega)]; decide)])]; rfl, rfl⟩
      · go_round
        case rel =>
          exact ⟨k + 1, min (10 * a + ((s[k].toNat : Int) - 48)) 2147483647, by omega, by go_num, by go_num, by omega, by omega, Lib.hid (by rw [H.out, Hs.out, if_pos (digB_true (by omega))])⟩
        case measure => simp [intOf]; omega
      · go_ret2
        exact ⟨by rw [numV_none (by rw [H.out, Hs.out, if_neg (by rw [digB_false (by omega)]; decide)])]; rfl, rfl⟩
    · have He := Lib.hid (numGo_end s a (k := k) (by omega))
      go_wp2
      go_ret2
      exact ⟨by rw [numV_some (H.out.trans He.out)]; simp [Lib.toList_data], rfl⟩
set_option maxHeartbeats 400000 in
theorem digit_any (c : UInt8) (w : World) :
    Calls Tryz.prog 88 #[.int .u8 c.toNat] w fun e w' => e = .returned (.bool (digB c)) ∧ w = w' := by
  go_enter Tryz.func88, Tryz.ntmps88
  go_wp2
  all_goals (go_ret; exact ⟨ret_bool (by rw [Bool.eq_iff_iff]; simp [digB]; omega), rfl⟩)
set_option maxHeartbeats 400000 in
theorem rnumber_any (s : ByteArray) (w : World) (hs : s.size ≤ 140737488355328) :
    Calls Tryz.prog 89 #[.string s] w fun e w' => e = .returned (numV (bs s)) ∧ w = w' := by
  go_enter Tryz.func89, Tryz.ntmps89
  go_wp2
  go_loop [4, 5] (fun n j => ∃ (k : Nat) (a : Int), k ≤ s.size ∧ j = .int .i64 k ∧ n = .int .i64 a ∧ 0 ≤ a ∧ a ≤ 2147483647 ∧ Hid (numGo (bs s) 0 = numGo ((bs s).drop k) a)) (fun _ j => s.size - (intOf j).toNat)
  case atStart => exact ⟨0, 0, by omega, rfl, rfl, by omega, by omega, Lib.hid rfl⟩
  case round =>
    obtain ⟨k, a, hk, rfl, rfl, ha, ha', H⟩ := hrel
    by_cases hlt : k < s.size
    · have Hs := Lib.hid (numGo_step s a hlt)
      cases hd : digB s[k] with
      | false =>
        go_wp2_with (go_at_call 88; refine (digit_any _ _).mono ?_; rintro e w' ⟨rfl, rfl⟩)
        go_ret2
        exact ⟨by rw [numV_none (by rw [H.out, Hs.out, hd]; rfl)]; rfl, rfl⟩
      | true =>
        have hb := of_digB hd
        go_wp2_with (go_at_call 88; refine (digit_any _ _).mono ?_; rintro e w' ⟨rfl, rfl⟩)
        all_goals
          go_round
          case rel =>
            exact ⟨k + 1, min (10 * a + ((s[k].toNat : Int) - 48)) 2147483647, by omega, by go_num, by go_num, by omega, by omega, Lib.hid (by rw [H.out, Hs.out, if_pos hd])⟩
          case measure => simp [intOf]; omega
    · have He := Lib.hid (numGo_end s a (k := k) (by omega))
      go_wp2
      go_ret2
      exact ⟨by rw [numV_some (H.out.trans He.out)]; simp [Lib.toList_data], rfl⟩
end Go.Proofs.YtfnmohaddkoalaaGreatDoor
