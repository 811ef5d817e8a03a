/- The walks of the statements on dates and of their sanity check: each returns true. -/
import Derived.Test.YtijifhkadkefaaaDateW4
namespace Go.Proofs.Ytijifhkadkefaaa
open Go.RowKit

abbrev sunday : ByteArray := ⟨#[83, 117, 110, 44, 32, 48, 54, 32, 78, 111, 118, 32, 49, 57, 57, 52, 32, 48, 56, 58, 52, 57, 58, 51, 55, 32, 71, 77, 84]⟩
theorem awake_v : dateV (parseD (bs sunday)) = .tuple #[.int .i64 784111777, .bool true] := by
  rw [show bs sunday = [83, 117, 110, 44, 32, 48, 54, 32, 78, 111, 118, 32, 49, 57, 57, 52, 32, 48, 56, 58, 52, 57, 58, 51, 55, 32, 71, 77, 84] from rfl, awake_parse]; rfl
set_option maxHeartbeats 400000 in
theorem awake_any (w : World) :
    Calls Try.prog 8 #[] w fun e w' => e = .returned (.bool true) ∧ Below w.heap.size w w' := by
  have H := Lib.hid awake_v
  have hd := awake_days
  go_enter Try.func8, Try.ntmps8
  go_wp2_with fail
  refine (parse_any sunday _ (by decide)).mono ?_
  rintro e w1 ⟨rfl, hb⟩
  rw [H.out]
  go_wp2_with (go_at_call 9; refine (days_any _ _ _ _).mono ?_; rintro e w' ⟨rfl, rfl⟩)
  go_ret
  exact ⟨rfl, hb⟩
set_option maxHeartbeats 400000 in
theorem dateDays_walk (y m d : Int) (w : World) (_ : (Lit.int .i64 y).wf = true) (_ : (Lit.int .i64 m).wf = true) (_ : (Lit.int .i64 d).wf = true) :
    Calls Try.prog 4 #[.int .i64 y, .int .i64 m, .int .i64 d] w fun e w' => e = .returned (.bool true) ∧ Below w.heap.size w w' := by
  go_enter Try.func4, Try.ntmps4
  go_wp2_with fail
  refine (days_any _ _ _ _).mono ?_
  rintro e w' ⟨rfl, rfl⟩
  go_wp2_with fail
  refine (rdays_any _ _ _ _).mono ?_
  rintro e w' ⟨rfl, rfl⟩
  go_wp2_with fail
  refine (awake_any _).mono ?_
  rintro e w1 ⟨rfl, hb⟩
  go_wp2_with fail
  go_ret
  exact ⟨rfl, hb⟩
set_option maxHeartbeats 400000 in
theorem dateParses_walk (s : ByteArray) (w : World) (hs : s.size ≤ 9223372036854775807) :
    Calls Try.prog 3 #[.string s] w fun e w' => e = .returned (.bool true) ∧ Below w.heap.size w w' := by
  by_cases hl : 1000 < s.size
  · have hl' : (1000 : Int) < (s.size : Int) := by omega
    go_enter Try.func3, Try.ntmps3
    go_wp2_with fail
    go_ret
    exact ⟨rfl, Below.refl _ _⟩
  · obtain ⟨t, b, hv⟩ : ∃ t b, dateV (parseD (bs s)) = .tuple #[.int .i64 t, .bool b] := by
      cases parseD (bs s) with
      | none => exact ⟨_, _, rfl⟩
      | some t => exact ⟨_, _, rfl⟩
    go_enter Try.func3, Try.ntmps3
    go_wp2_with fail
    refine (parse_any s _ (by omega)).mono ?_
    rintro e w1 ⟨rfl, hb⟩
    go_wp2_with fail
    refine (rparse_any s _).mono ?_
    rintro e w2 ⟨rfl, hb2⟩
    cases b
    all_goals
      go_wp2_with fail
      refine (awake_any _).mono ?_
      rintro e w3 ⟨rfl, hb3⟩
      go_wp2_with fail
      go_ret
      exact ⟨rfl, (hb.trans (hb2.mono hb.size)).trans (hb3.mono (Nat.le_trans hb.size hb2.size))⟩
set_option maxHeartbeats 800000 in
theorem dateNext_walk (y m d : Int) (w : World) (_ : (Lit.int .i64 y).wf = true) (_ : (Lit.int .i64 m).wf = true) (_ : (Lit.int .i64 d).wf = true) :
    Calls Try.prog 5 #[.int .i64 y, .int .i64 m, .int .i64 d] w fun e w' => e = .returned (.bool true) ∧ Below w.heap.size w w' := by
  by_cases h0 : days y m d < 0
  · have e0 : days y m d = -1 := by have := days_bd y m d; omega
    have H0 := Lib.hid e0
    clear h0 e0
    go_enter Try.func5, Try.ntmps5
    go_wp2_with fail
    refine (days_any _ _ _ _).mono ?_
    rintro e w' ⟨rfl, rfl⟩
    rw [H0.out]
    go_wp2_with fail
    refine (awake_any _).mono ?_
    rintro e w1 ⟨rfl, hb⟩
    go_wp2_with fail
    go_ret
    exact ⟨rfl, hb⟩
  · have hv : 1970 ≤ y ∧ y ≤ 9999 ∧ 1 ≤ m ∧ m ≤ 12 ∧ 1 ≤ d ∧ d ≤ mlen y m := by
      rcases Decidable.em (1970 ≤ y ∧ y ≤ 9999 ∧ 1 ≤ m ∧ m ≤ 12 ∧ 1 ≤ d ∧ d ≤ mlen y m) with h | h
      · exact h
      · exact absurd (by rw [validB_false h]; decide) h0
    have hml := mlen_bd y m
    obtain ⟨v1, v2, v3, v4, v5, v6⟩ := hv
    have hn := days_next h0
    have hb0 := days_bd y m d
    obtain ⟨n, hN⟩ : ∃ n, days y m d = n := ⟨_, rfl⟩
    rw [hN] at hn hb0 h0
    have H0 := Lib.hid hN
    clear hN
    have g0 : ¬ n < 0 := h0
    rcases hn with hn | ⟨hn, hm, hk⟩ | ⟨hn, hm, hk⟩ | ⟨hn, hk, rfl, rfl, rfl⟩
    · have H1 := Lib.hid hn
      clear hn
      go_enter Try.func5, Try.ntmps5
      go_wp2_with fail
      refine (days_any _ _ _ _).mono ?_
      rintro e w' ⟨rfl, rfl⟩
      rw [H0.out]
      go_wp2_with fail
      refine (days_any _ _ _ _).mono ?_
      rintro e w' ⟨rfl, rfl⟩
      rw [H1.out]
      go_wp2_with fail
      refine (awake_any _).mono ?_
      rintro e w1 ⟨rfl, hb⟩
      go_wp2_with fail
      go_ret
      exact ⟨rfl, hb⟩
    · have H1 := Lib.hid hn
      have H2 := Lib.hid hk
      clear hn hk
      go_enter Try.func5, Try.ntmps5
      go_wp2_with fail
      refine (days_any _ _ _ _).mono ?_
      rintro e w' ⟨rfl, rfl⟩
      rw [H0.out]
      go_wp2_with fail
      refine (days_any _ _ _ _).mono ?_
      rintro e w' ⟨rfl, rfl⟩
      rw [H1.out]
      go_wp2_with fail
      refine (days_any _ _ _ _).mono ?_
      rintro e w' ⟨rfl, rfl⟩
      rw [H2.out]
      go_wp2_with fail
      refine (awake_any _).mono ?_
      rintro e w1 ⟨rfl, hb⟩
      go_wp2_with fail
      go_ret
      exact ⟨rfl, hb⟩
    · have H1 := Lib.hid hn
      have H2 := Lib.hid hk
      clear hn hk
      go_enter Try.func5, Try.ntmps5
      go_wp2_with fail
      refine (days_any _ _ _ _).mono ?_
      rintro e w' ⟨rfl, rfl⟩
      rw [H0.out]
      go_wp2_with fail
      refine (days_any _ _ _ _).mono ?_
      rintro e w' ⟨rfl, rfl⟩
      rw [H1.out]
      go_wp2_with fail
      refine (days_any _ _ _ _).mono ?_
      rintro e w' ⟨rfl, rfl⟩
      rw [H2.out]
      go_wp2_with fail
      refine (awake_any _).mono ?_
      rintro e w1 ⟨rfl, hb⟩
      go_wp2_with fail
      go_ret
      exact ⟨rfl, hb⟩
    · have H1 : Hid (days 9999 12 32 = -1) := Lib.hid hn
      have H2 : Hid (days 10000 1 1 = -1) := Lib.hid hk
      clear hn hk
      go_enter Try.func5, Try.ntmps5
      go_wp2_with fail
      refine (days_any _ _ _ _).mono ?_
      rintro e w' ⟨rfl, rfl⟩
      rw [H0.out]
      go_wp2_with fail
      refine (days_any _ _ _ _).mono ?_
      rintro e w' ⟨rfl, rfl⟩
      rw [H1.out]
      go_wp2_with fail
      refine (days_any _ _ _ _).mono ?_
      rintro e w' ⟨rfl, rfl⟩
      rw [H2.out]
      go_wp2_with fail
      refine (awake_any _).mono ?_
      rintro e w1 ⟨rfl, hb⟩
      go_wp2_with fail
      go_ret
      exact ⟨rfl, hb⟩
end Go.Proofs.Ytijifhkadkefaaa
