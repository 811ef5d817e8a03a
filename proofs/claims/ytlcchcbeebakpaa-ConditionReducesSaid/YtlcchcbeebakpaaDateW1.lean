/- The walks of the calendar functions: leap, length, before, Days, and the reference's. -/
import Derived.Test.YtlcchcbeebakpaaDateP
import Derived.Test.YtlcchcbeebakpaaProg
import Derived.Test.YtlcchcbeebakpaaLib
import Derived.WalkKit
import Derived.WalkSpells
import Derived.WalkLawsBesides
import Derived.Lib.Hide
namespace Go.Proofs.Ytlcchcbeebakpaa
open Go.RowKit

set_option maxHeartbeats 400000 in
theorem leap_any (y : Int) (w : World) (h0 : 0 ≤ y) (h1 : y ≤ 100000) :
    Calls Try.prog 40 #[.int .i64 y] w fun e w' => e = .returned (.bool (leapB y)) ∧ w = w' := by
  go_enter Try.func40, Try.ntmps40
  go_wp2
  all_goals (go_ret; exact ⟨by simp [leapB, *], rfl⟩)
theorem twelve {m : Int} (hm : 1 ≤ m) (hm' : m ≤ 12) : m = 1 ∨ m = 2 ∨ m = 3 ∨ m = 4 ∨ m = 5 ∨ m = 6 ∨ m = 7 ∨ m = 8 ∨ m = 9 ∨ m = 10 ∨ m = 11 ∨ m = 12 := by omega
theorem isAggInt : ∀ w, (isAgg 3).run Try.prog w = .ok false w := fun _ => by kernel_rfl
theorem sizeOfInt : ∀ w, (sizeOf 3).run Try.prog w = .ok 1 w := fun _ => by kernel_rfl
def lenv (m : Int) : Int := if m = 2 then 28 else if m = 4 ∨ m = 6 ∨ m = 9 ∨ m = 11 then 30 else 31
theorem run_len (m : Int) (hm : 1 ≤ m) (hm' : m ≤ 12) (w : World) : (Instr.index 78 (.agg #[.int .i64 31, .int .i64 28, .int .i64 31, .int .i64 30, .int .i64 31, .int .i64 30, .int .i64 31, .int .i64 31, .int .i64 30, .int .i64 31, .int .i64 30, .int .i64 31]) (.int .i64 (m - 1))).run Try.prog w = .ok (.int .i64 (lenv m)) w := by
  refine run_index_agg 78 3 12 _ _ _ _ Try.underlying78 isAggInt sizeOfInt (by omega) (by omega) ?_ w
  rcases twelve hm hm' with rfl | rfl | rfl | rfl | rfl | rfl | rfl | rfl | rfl | rfl | rfl | rfl <;> rfl

theorem run_len2 (w : World) : (Instr.index 78 (.agg #[.int .i64 31, .int .i64 28, .int .i64 31, .int .i64 30, .int .i64 31, .int .i64 30, .int .i64 31, .int .i64 31, .int .i64 30, .int .i64 31, .int .i64 30, .int .i64 31]) (.int .i64 1)).run Try.prog w = .ok (.int .i64 28) w := run_len 2 (by omega) (by omega) w

set_option maxHeartbeats 400000 in
theorem length_any (y m : Int) (w : World) (h0 : 0 ≤ y) (h1 : y ≤ 100000) (hm : 1 ≤ m) (hm' : m ≤ 12) :
    Calls Try.prog 37 #[.int .i64 y, .int .i64 m] w fun e w' => e = .returned (.int .i64 (mlen y m)) ∧ w = w' := by
  by_cases h2 : m = 2
  · subst h2
    have hi := run_len2
    go_enter Try.func37, Try.ntmps37
    go_wp2_with (go_at_call 40; refine (leap_any _ _ h0 h1).mono ?_; rintro e w' ⟨rfl, rfl⟩)
    all_goals (go_ret; exact ⟨by simp [mlen, *], rfl⟩)
  · have hi := run_len m hm hm'
    go_enter Try.func37, Try.ntmps37
    go_wp2_with (go_at_call 40; refine (leap_any _ _ h0 h1).mono ?_; rintro e w' ⟨rfl, rfl⟩)
    all_goals (go_ret; exact ⟨by simp [mlen, lenv, *], rfl⟩)
set_option maxHeartbeats 400000 in
theorem before_any (y : Int) (w : World) (h0 : 1 ≤ y) (h1 : y ≤ 100000) :
    Calls Try.prog 38 #[.int .i64 y] w fun e w' => e = .returned (.int .i64 (bef y)) ∧ w = w' := by
  go_enter Try.func38, Try.ntmps38
  go_wp2
  go_ret
  exact ⟨by simp [bef], rfl⟩

set_option maxHeartbeats 800000 in
theorem days_any (y m d : Int) (w : World) :
    Calls Try.prog 33 #[.int .i64 y, .int .i64 m, .int .i64 d] w fun e w' => e = .returned (.int .i64 (days y m d)) ∧ w = w' := by
  by_cases hv : 1970 ≤ y ∧ y ≤ 9999 ∧ 1 ≤ m ∧ m ≤ 12 ∧ 1 ≤ d ∧ d ≤ mlen y m
  · have Hd := Lib.hid (days_valid hv)
    obtain ⟨h1, h2, h3, h4, h5, h6⟩ := hv
    have hb := mlen_bd y m
    have hbf := bef_bd y h1 (by omega)
    have hb0 := bef_bd 1970 (by omega) (by omega)
    go_enter Try.func33, Try.ntmps33
    go_wp2_with (first | (go_at_call 37; refine (length_any _ _ _ (by omega) (by omega) (by omega) (by omega)).mono ?_; rintro e w' ⟨rfl, rfl⟩) | (go_at_call 38; refine (before_any _ _ (by omega) (by omega)).mono ?_; rintro e w' ⟨rfl, rfl⟩))
    go_loop [7, 8] (fun n i => ∃ k : Nat, (k : Int) + 1 ≤ m ∧ i = .int .i64 ((k : Int) + 1) ∧ n = .int .i64 (bef y - bef 1970 + d - 1 + cumN y k)) (fun _ i => (m - intOf i).toNat)
    case atStart => exact ⟨0, by omega, rfl, by simp [cumN]⟩
    case round =>
      obtain ⟨k, hk, rfl, rfl⟩ := hrel
      have hc := cumN_bd y k
      have hml := mlen_bd y ((k : Int) + 1)
      by_cases hlt : (k : Int) + 1 < m
      · go_wp2_with (go_at_call 37; refine (length_any _ _ _ (by omega) (by omega) (by omega) (by omega)).mono ?_; rintro e w' ⟨rfl, rfl⟩)
        go_round
        case rel => exact ⟨k + 1, by omega, by go_num, by rw [cumN]; go_num⟩
        case measure => simp [intOf]; omega
      · go_wp2
        go_ret
        refine ⟨?_, rfl⟩
        rw [Hd.out]
        have e1 : (m - 1).toNat = k := by omega
        rw [e1]; rfl
  · have Hd := Lib.hid (validB_false hv)
    by_cases h1 : y < 1970
    · go_enter Try.func33, Try.ntmps33
      go_wp2_with (fail)
      all_goals (go_ret; exact ⟨by rw [Hd.out]; rfl, rfl⟩)
    by_cases h2 : 9999 < y
    · go_enter Try.func33, Try.ntmps33
      go_wp2_with (fail)
      all_goals (go_ret; exact ⟨by rw [Hd.out]; rfl, rfl⟩)
    by_cases h3 : m < 1
    · go_enter Try.func33, Try.ntmps33
      go_wp2_with (fail)
      all_goals (go_ret; exact ⟨by rw [Hd.out]; rfl, rfl⟩)
    by_cases h4 : 12 < m
    · go_enter Try.func33, Try.ntmps33
      go_wp2_with (fail)
      all_goals (go_ret; exact ⟨by rw [Hd.out]; rfl, rfl⟩)
    by_cases h5 : d < 1
    · go_enter Try.func33, Try.ntmps33
      go_wp2_with (fail)
      all_goals (go_ret; exact ⟨by rw [Hd.out]; rfl, rfl⟩)
    have h6 : mlen y m < d := by
      rcases Int.lt_or_le (mlen y m) d with h | h
      · exact h
      · exact absurd ⟨by omega, by omega, by omega, by omega, by omega, h⟩ hv
    have hb := mlen_bd y m
    clear hv
    go_enter Try.func33, Try.ntmps33
    go_wp2_with (go_at_call 37; refine (length_any _ _ _ (by omega) (by omega) (by omega) (by omega)).mono ?_; rintro e w' ⟨rfl, rfl⟩)
    all_goals (go_ret; exact ⟨by rw [Hd.out]; rfl, rfl⟩)

end Go.Proofs.Ytlcchcbeebakpaa
