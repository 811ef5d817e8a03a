/- The walks of the calendar functions: leap, length, before, Days, and the reference's. -/
import Derived.Test.YtjafkpedocdfjaaGreatDoorDateP
import Derived.Test.YtjafkpedocdfjaaGreatDoorProg
import Derived.Test.YtjafkpedocdfjaaGreatDoorLib
import Derived.WalkKit
import Derived.WalkSpells
import Derived.WalkLawsBesides
import Derived.Lib.Hide
namespace Go.Proofs.YtjafkpedocdfjaaGreatDoor
open Go.RowKit

set_option maxHeartbeats 400000 in
theorem leap_any (y : Int) (w : World) (h0 : 0 ≤ y) (h1 : y ≤ 100000) :
    Calls Tryz.prog 149 #[.int .i64 y] w fun e w' => e = .returned (.bool (leapB y)) ∧ w = w' := by
  go_enter Tryz.func149, Tryz.ntmps149
  go_wp2
  all_goals (go_ret; exact ⟨by simp [leapB, *], rfl⟩)
set_option maxHeartbeats 400000 in
theorem rleap_any (y : Int) (w : World) (h0 : 0 ≤ y) (h1 : y ≤ 100000) :
    Calls Tryz.prog 114 #[.int .i64 y] w fun e w' => e = .returned (.bool (leapB y)) ∧ w = w' := by
  go_enter Tryz.func114, Tryz.ntmps114
  go_wp2
  all_goals (go_ret; exact ⟨by simp [leapB, *], rfl⟩)

theorem twelve {m : Int} (hm : 1 ≤ m) (hm' : m ≤ 12) : m = 1 ∨ m = 2 ∨ m = 3 ∨ m = 4 ∨ m = 5 ∨ m = 6 ∨ m = 7 ∨ m = 8 ∨ m = 9 ∨ m = 10 ∨ m = 11 ∨ m = 12 := by omega
theorem isAggInt : ∀ w, (isAgg 3).run Tryz.prog w = .ok false w := fun _ => by kernel_rfl
theorem sizeOfInt : ∀ w, (sizeOf 3).run Tryz.prog w = .ok 1 w := fun _ => by kernel_rfl
def lenv (m : Int) : Int := if m = 2 then 28 else if m = 4 ∨ m = 6 ∨ m = 9 ∨ m = 11 then 30 else 31
theorem run_len (m : Int) (hm : 1 ≤ m) (hm' : m ≤ 12) (w : World) : (Instr.index 146 (.agg #[.int .i64 31, .int .i64 28, .int .i64 31, .int .i64 30, .int .i64 31, .int .i64 30, .int .i64 31, .int .i64 31, .int .i64 30, .int .i64 31, .int .i64 30, .int .i64 31]) (.int .i64 (m - 1))).run Tryz.prog w = .ok (.int .i64 (lenv m)) w := by
  refine run_index_agg 146 3 12 _ _ _ _ Tryz.underlying146 isAggInt sizeOfInt (by omega) (by omega) ?_ w
  rcases twelve hm hm' with rfl | rfl | rfl | rfl | rfl | rfl | rfl | rfl | rfl | rfl | rfl | rfl <;> rfl

theorem run_len2 (w : World) : (Instr.index 146 (.agg #[.int .i64 31, .int .i64 28, .int .i64 31, .int .i64 30, .int .i64 31, .int .i64 30, .int .i64 31, .int .i64 31, .int .i64 30, .int .i64 31, .int .i64 30, .int .i64 31]) (.int .i64 1)).run Tryz.prog w = .ok (.int .i64 28) w := run_len 2 (by omega) (by omega) w

set_option maxHeartbeats 400000 in
theorem length_any (y m : Int) (w : World) (h0 : 0 ≤ y) (h1 : y ≤ 100000) (hm : 1 ≤ m) (hm' : m ≤ 12) :
    Calls Tryz.prog 135 #[.int .i64 y, .int .i64 m] w fun e w' => e = .returned (.int .i64 (mlen y m)) ∧ w = w' := by
  by_cases h2 : m = 2
  · subst h2
    have hi := run_len2
    go_enter Tryz.func135, Tryz.ntmps135
    go_wp2_with (go_at_call 149; refine (leap_any _ _ h0 h1).mono ?_; rintro e w' ⟨rfl, rfl⟩)
    all_goals (go_ret; exact ⟨by simp [mlen, *], rfl⟩)
  · have hi := run_len m hm hm'
    go_enter Tryz.func135, Tryz.ntmps135
    go_wp2_with (go_at_call 149; refine (leap_any _ _ h0 h1).mono ?_; rintro e w' ⟨rfl, rfl⟩)
    all_goals (go_ret; exact ⟨by simp [mlen, lenv, *], rfl⟩)
set_option maxHeartbeats 400000 in
theorem rlength_any (y m : Int) (w : World) (h0 : 0 ≤ y) (h1 : y ≤ 100000) (hm : 1 ≤ m) (hm' : m ≤ 12) :
    Calls Tryz.prog 113 #[.int .i64 y, .int .i64 m] w fun e w' => e = .returned (.int .i64 (mlen y m)) ∧ w = w' := by
  rcases twelve hm hm' with rfl | rfl | rfl | rfl | rfl | rfl | rfl | rfl | rfl | rfl | rfl | rfl
  all_goals
    go_enter Tryz.func113, Tryz.ntmps113
    go_wp2_with (go_at_call 114; refine (rleap_any _ _ h0 h1).mono ?_; rintro e w' ⟨rfl, rfl⟩)
    all_goals (go_ret; exact ⟨by simp [mlen, *], rfl⟩)
set_option maxHeartbeats 400000 in
theorem before_any (y : Int) (w : World) (h0 : 1 ≤ y) (h1 : y ≤ 100000) :
    Calls Tryz.prog 136 #[.int .i64 y] w fun e w' => e = .returned (.int .i64 (bef y)) ∧ w = w' := by
  go_enter Tryz.func136, Tryz.ntmps136
  go_wp2
  go_ret
  exact ⟨by simp [bef], rfl⟩

set_option maxHeartbeats 800000 in
theorem days_any (y m d : Int) (w : World) :
    Calls Tryz.prog 111 #[.int .i64 y, .int .i64 m, .int .i64 d] w fun e w' => e = .returned (.int .i64 (days y m d)) ∧ w = w' := by
  by_cases hv : 1970 ≤ y ∧ y ≤ 9999 ∧ 1 ≤ m ∧ m ≤ 12 ∧ 1 ≤ d ∧ d ≤ mlen y m
  · have Hd := Lib.hid (days_valid hv)
    obtain ⟨h1, h2, h3, h4, h5, h6⟩ := hv
    have hb := mlen_bd y m
    have hbf := bef_bd y h1 (by omega)
    have hb0 := bef_bd 1970 (by omega) (by omega)
    go_enter Tryz.func111, Tryz.ntmps111
    go_wp2_with (first | (go_at_call 135; refine (length_any _ _ _ (by omega) (by omega) (by omega) (by omega)).mono ?_; rintro e w' ⟨rfl, rfl⟩) | (go_at_call 136; refine (before_any _ _ (by omega) (by omega)).mono ?_; rintro e w' ⟨rfl, rfl⟩))
    go_loop [7, 8] (fun n i => ∃ k : Nat, (k : Int) + 1 ≤ m ∧ i = .int .i64 ((k : Int) + 1) ∧ n = .int .i64 (bef y - bef 1970 + d - 1 + cumN y k)) (fun _ i => (m - intOf i).toNat)
    case atStart => exact ⟨0, by omega, rfl, by simp [cumN]⟩
    case round =>
      obtain ⟨k, hk, rfl, rfl⟩ := hrel
      have hc := cumN_bd y k
      have hml := mlen_bd y ((k : Int) + 1)
      by_cases hlt : (k : Int) + 1 < m
      · go_wp2_with (go_at_call 135; refine (length_any _ _ _ (by omega) (by omega) (by omega) (by omega)).mono ?_; rintro e w' ⟨rfl, rfl⟩)
        go_round
        case rel => exact ⟨k + 1, by omega, by go_num, by rw [cumN]; go_num⟩
        case measure => simp [intOf]; omega
      · go_wp2
        go_ret
        refine ⟨?_, rfl⟩
        rw [Hd.out]
        have e1 : (m - 1).toNat = k := by omega
        rw [e1]; rfl
  · have Hd := Lib.hid (validB_false hv)
    by_cases h1 : y < 1970
    · go_enter Tryz.func111, Tryz.ntmps111
      go_wp2_with (fail)
      all_goals (go_ret; exact ⟨by rw [Hd.out]; rfl, rfl⟩)
    by_cases h2 : 9999 < y
    · go_enter Tryz.func111, Tryz.ntmps111
      go_wp2_with (fail)
      all_goals (go_ret; exact ⟨by rw [Hd.out]; rfl, rfl⟩)
    by_cases h3 : m < 1
    · go_enter Tryz.func111, Tryz.ntmps111
      go_wp2_with (fail)
      all_goals (go_ret; exact ⟨by rw [Hd.out]; rfl, rfl⟩)
    by_cases h4 : 12 < m
    · go_enter Tryz.func111, Tryz.ntmps111
      go_wp2_with (fail)
      all_goals (go_ret; exact ⟨by rw [Hd.out]; rfl, rfl⟩)
    by_cases h5 : d < 1
    · go_enter Tryz.func111, Tryz.ntmps111
      go_wp2_with (fail)
      all_goals (go_ret; exact ⟨by rw [Hd.out]; rfl, rfl⟩)
    have h6 : mlen y m < d := by
      rcases Int.lt_or_le (mlen y m) d with h | h
      · exact h
      · exact absurd ⟨by omega, by omega, by omega, by omega, by omega, h⟩ hv
    have hb := mlen_bd y m
    clear hv
    go_enter Tryz.func111, Tryz.ntmps111
    go_wp2_with (go_at_call 135; refine (length_any _ _ _ (by omega) (by omega) (by omega) (by omega)).mono ?_; rintro e w' ⟨rfl, rfl⟩)
    all_goals (go_ret; exact ⟨by rw [Hd.out]; rfl, rfl⟩)

-- the reference's Days
set_option maxHeartbeats 800000 in
theorem rdays_any (y m d : Int) (w : World) :
    Calls Tryz.prog 89 #[.int .i64 y, .int .i64 m, .int .i64 d] w fun e w' => e = .returned (.int .i64 (days y m d)) ∧ w = w' := by
  by_cases hv : 1970 ≤ y ∧ y ≤ 9999 ∧ 1 ≤ m ∧ m ≤ 12 ∧ 1 ≤ d ∧ d ≤ mlen y m
  · have Hd := Lib.hid (days_valid hv)
    obtain ⟨h1, h2, h3, h4, h5, h6⟩ := hv
    have hb := mlen_bd y m
    have hb0 := bef_bd 1970 (by omega) (by omega)
    go_enter Tryz.func89, Tryz.ntmps89
    go_wp2_with (go_at_call 113; refine (rlength_any _ _ _ (by omega) (by omega) (by omega) (by omega)).mono ?_; rintro e w' ⟨rfl, rfl⟩)
    go_loop [7, 8] (fun n i => ∃ k : Nat, 1970 + (k : Int) ≤ y ∧ i = .int .i64 (1970 + (k : Int)) ∧ n = .int .i64 (bef (1970 + (k : Int)) - bef 1970 + d - 1)) (fun _ i => (y - intOf i).toNat)
    case atStart => exact ⟨0, by omega, rfl, by simp⟩
    case round =>
      obtain ⟨k, hk, rfl, rfl⟩ := hrel
      have hbf := bef_bd (1970 + (k : Int)) (by omega) (by omega)
      have Hs := Lib.hid (bef_succ (1970 + (k : Int)))
      by_cases hlt : 1970 + (k : Int) < y
      · cases hl : leapB (1970 + (k : Int)) with
        | true =>
          go_wp2_with (go_at_call 114; refine (rleap_any _ _ (by omega) (by omega)).mono ?_; rintro e w' ⟨rfl, rfl⟩)
          go_round
          case rel =>
            have e := Hs.out
            rw [hl, if_pos rfl] at e
            have e2 : 1970 + ((k + 1 : Nat) : Int) = 1970 + (k : Int) + 1 := by omega
            exact ⟨k + 1, by omega, by rw [e2], by rw [e2, e]; go_num⟩
          case measure => simp [intOf]; omega
        | false =>
          go_wp2_with (go_at_call 114; refine (rleap_any _ _ (by omega) (by omega)).mono ?_; rintro e w' ⟨rfl, rfl⟩)
          go_round
          case rel =>
            have e := Hs.out
            rw [hl] at e
            simp only [Bool.false_eq_true, if_false] at e
            have e2 : 1970 + ((k + 1 : Nat) : Int) = 1970 + (k : Int) + 1 := by omega
            exact ⟨k + 1, by omega, by rw [e2], by rw [e2, e]; go_num⟩
          case measure => simp [intOf]; omega
      · obtain rfl : y = 1970 + (k : Int) := by omega
        clear Hs
        go_wp2
        go_loop [7, 9] (fun n i => ∃ j : Nat, (j : Int) + 1 ≤ m ∧ i = .int .i64 ((j : Int) + 1) ∧ n = .int .i64 (bef (1970 + (k : Int)) - bef 1970 + d - 1 + cumN (1970 + (k : Int)) j)) (fun _ i => (m - intOf i).toNat)
        case atStart => exact ⟨0, by omega, rfl, by simp [cumN]⟩
        case round =>
          obtain ⟨j, hj, rfl, rfl⟩ := hrel
          have hc := cumN_bd (1970 + (k : Int)) j
          have hml := mlen_bd (1970 + (k : Int)) ((j : Int) + 1)
          by_cases hlt2 : (j : Int) + 1 < m
          · go_wp2_with (go_at_call 113; refine (rlength_any _ _ _ (by omega) (by omega) (by omega) (by omega)).mono ?_; rintro e w' ⟨rfl, rfl⟩)
            go_round
            case rel => exact ⟨j + 1, by omega, by go_num, by rw [cumN]; go_num⟩
            case measure => simp [intOf]; omega
          · go_wp2
            go_ret
            refine ⟨?_, rfl⟩
            rw [Hd.out]
            have e1 : (m - 1).toNat = j := by omega
            rw [e1]; rfl
  · have Hd := Lib.hid (validB_false hv)
    by_cases h1 : y < 1970
    · go_enter Tryz.func89, Tryz.ntmps89
      go_wp2_with (fail)
      all_goals (go_ret; exact ⟨by rw [Hd.out]; rfl, rfl⟩)
    by_cases h2 : 9999 < y
    · go_enter Tryz.func89, Tryz.ntmps89
      go_wp2_with (fail)
      all_goals (go_ret; exact ⟨by rw [Hd.out]; rfl, rfl⟩)
    by_cases h3 : m < 1
    · go_enter Tryz.func89, Tryz.ntmps89
      go_wp2_with (fail)
      all_goals (go_ret; exact ⟨by rw [Hd.out]; rfl, rfl⟩)
    by_cases h4 : 12 < m
    · go_enter Tryz.func89, Tryz.ntmps89
      go_wp2_with (fail)
      all_goals (go_ret; exact ⟨by rw [Hd.out]; rfl, rfl⟩)
    by_cases h5 : d < 1
    · go_enter Tryz.func89, Tryz.ntmps89
      go_wp2_with (fail)
      all_goals (go_ret; exact ⟨by rw [Hd.out]; rfl, rfl⟩)
    have h6 : mlen y m < d := by
      rcases Int.lt_or_le (mlen y m) d with h | h
      · exact h
      · exact absurd ⟨by omega, by omega, by omega, by omega, by omega, h⟩ hv
    have hb := mlen_bd y m
    clear hv
    go_enter Tryz.func89, Tryz.ntmps89
    go_wp2_with (go_at_call 113; refine (rlength_any _ _ _ (by omega) (by omega) (by omega) (by omega)).mono ?_; rintro e w' ⟨rfl, rfl⟩)
    all_goals (go_ret; exact ⟨by rw [Hd.out]; rfl, rfl⟩)
end Go.Proofs.YtjafkpedocdfjaaGreatDoor
