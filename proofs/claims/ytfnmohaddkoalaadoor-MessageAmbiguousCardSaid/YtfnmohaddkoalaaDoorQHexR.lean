/- The walk of the reference's hexadecimal digit: lines of TargV1. -/
import Derived.Test.YtfnmohaddkoalaaDoorQPre
import Derived.Test.YtfnmohaddkoalaaDoorQNumW
import Derived.Test.YtfnmohaddkoalaaDoorQLineW
import Derived.Deep.RegionHeld3
import Derived.IntWalk
namespace Go.Proofs.YtfnmohaddkoalaaDoor
open Go.RowKit

theorem hdigit_any (c : UInt8) (w : World) :
    Calls Tryd.prog 72 #[.int .u8 c.toNat] w fun e w' => e = .returned (.bool (digB c)) ∧ w = w' := by
  go_enter Tryd.func72, Tryd.ntmps72
  go_wp2
  all_goals (go_ret; exact ⟨ret_bool (by rw [Bool.eq_iff_iff]; simp [digB]; omega), rfl⟩)
set_option maxHeartbeats 800000 in
theorem rhex_any (c : UInt8) (w : World) :
    Calls Tryd.prog 51 #[.int .u8 c.toNat] w fun e w' => e = .returned (.int .i64 (hexV c)) ∧ w = w' := by
  cases hd : digB c with
  | true =>
    obtain ⟨b1, b2⟩ := of_digB hd
    have HF : Hid (hexV c = (c.toNat : Int) - 48) := Lib.hid (by unfold hexV; rw [if_pos ⟨b1, b2⟩])
    have HD := Lib.hid hd
    clear hd
    go_enter Tryd.func51, Tryd.ntmps51
    go_wp2_with fail
    refine (hdigit_any c w).mono ?_
    rintro e w1 ⟨he, rfl⟩
    rw [HD.out] at he
    subst he
    go_wp2_with fail
    go_ret
    exact ⟨ret_int (by rw [HF.out]), rfl⟩
  | false =>
    have hn := of_digB_false hd
    have HD := Lib.hid hd
    clear hd
    rcases (show (97 ≤ (c.toNat : Int) ∧ (c.toNat : Int) ≤ 102) ∨ (¬ 97 ≤ (c.toNat : Int) ∧ 65 ≤ (c.toNat : Int) ∧ (c.toNat : Int) ≤ 70) ∨ (97 ≤ (c.toNat : Int) ∧ ¬ (c.toNat : Int) ≤ 102 ∧ ¬ (c.toNat : Int) ≤ 70 ∧ 65 ≤ (c.toNat : Int)) ∨ (¬ 97 ≤ (c.toNat : Int) ∧ 65 ≤ (c.toNat : Int) ∧ ¬ (c.toNat : Int) ≤ 70) ∨ (¬ 97 ≤ (c.toNat : Int) ∧ ¬ 65 ≤ (c.toNat : Int)) from by omega) with ⟨h1, h2⟩ | ⟨h1, h2, h3⟩ | ⟨h1, h2, h3, h4⟩ | ⟨h1, h2, h3⟩ | ⟨h1, h2⟩
    · have HF : Hid (hexV c = (c.toNat : Int) - 97 + 10) := Lib.hid (by unfold hexV; rw [if_neg hn, if_pos (by omega)]; omega)
      clear hn
      go_enter Tryd.func51, Tryd.ntmps51
      go_wp2_with fail
      refine (hdigit_any c w).mono ?_
      rintro e w1 ⟨he, rfl⟩
      rw [HD.out] at he
      subst he
      go_wp2_with fail
      go_ret
      exact ⟨ret_int (by rw [HF.out]), rfl⟩
    · have HF : Hid (hexV c = (c.toNat : Int) - 65 + 10) := Lib.hid (by unfold hexV; rw [if_neg hn, if_neg (by omega), if_pos (by omega)]; omega)
      clear hn
      go_enter Tryd.func51, Tryd.ntmps51
      go_wp2_with fail
      refine (hdigit_any c w).mono ?_
      rintro e w1 ⟨he, rfl⟩
      rw [HD.out] at he
      subst he
      go_wp2_with fail
      go_ret
      exact ⟨ret_int (by rw [HF.out]), rfl⟩
    all_goals
      have HF : Hid (hexV c = -1) := Lib.hid (by unfold hexV; rw [if_neg hn, if_neg (by omega), if_neg (by omega)])
      clear hn
      go_enter Tryd.func51, Tryd.ntmps51
      go_wp2_with fail
      refine (hdigit_any c w).mono ?_
      rintro e w1 ⟨he, rfl⟩
      rw [HD.out] at he
      subst he
      go_wp2_with fail
      go_ret
      exact ⟨ret_int (by rw [HF.out]), rfl⟩
end Go.Proofs.YtfnmohaddkoalaaDoor
