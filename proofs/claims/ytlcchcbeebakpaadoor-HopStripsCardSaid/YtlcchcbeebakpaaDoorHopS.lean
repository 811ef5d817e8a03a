/- The walk of HopStrips. -/
import Derived.Test.YtlcchcbeebakpaaDoorHopL
namespace Go.Proofs.YtlcchcbeebakpaaDoor
open Go.RowKit Go.Shelf
attribute [local go_sem] Oper.semAt_some

theorem viaL_len (n : Int) (s : ByteArray) (xs : List Fd) : (viaL n s xs).length = xs.length + 1 := by unfold viaL; rw [List.length_append]; rfl
theorem i64_bounds {n : Int} (h : (Lit.int .i64 n).wf = true) : -9223372036854775808 ≤ n ∧ n ≤ 9223372036854775807 := by
  have h2 : decide (-9223372036854775808 ≤ n) && decide (n ≤ 9223372036854775807) := h
  simpa using h2
set_option maxHeartbeats 3200000 in
set_option maxRecDepth 100000 in
theorem strips_walk (oa : Option Addr) (xs : List Fd) (cap : Nat) (n : Int) (s : ByteArray) (w : World) (hn : xs.length ≤ 9223372036854775807) (hc : FldO w oa xs) (hnw : (Lit.int .i64 n).wf = true) (_ : s.size ≤ 9223372036854775807) (htab : PowTab w) :
    Calls Tryd.prog 3 #[.slice oa xs.length cap, .int .i64 n, .string s] w fun e w' => e = .returned (.bool true) ∧ Below w.heap.size w w' := by
  have HC := Lib.hid hc
  have HT := Lib.hid htab
  obtain ⟨h0, h1⟩ : -9223372036854775808 ≤ n ∧ n ≤ 9223372036854775807 := i64_bounds hnw
  clear hc htab hnw
  cases hk : fieldsB xs with
  | false =>
    have HK := Lib.hid hk
    clear hk
    go_enter Tryd.func3, Tryd.ntmps3
    go_wp2_with fail
    refine (keepF_any oa xs cap w hn HC.out).mono ?_
    rintro e w1 ⟨rfl, hw1⟩
    cases hw1
    rw [HK.out]
    go_wp2_with fail
    go_ret
    exact ⟨rfl, Below.refl _ _⟩
  | true =>
    obtain ⟨hn70, hz⟩ := fieldsB_true hk
    have HK := Lib.hid hk
    have HZ := Lib.hid (hz.up (m := 100000) (by omega))
    clear hk hz
    by_cases hs : s.size ≤ 100
    · go_enter Tryd.func3, Tryd.ntmps3
      go_wp2_with fail
      refine (keepF_any oa xs cap w hn HC.out).mono ?_
      rintro e w1 ⟨rfl, hw1⟩
      cases hw1
      rw [HK.out]
      go_wp2_with fail
      refine (strip_any oa xs cap w (by omega) HZ.out HC.out).mono ?_
      rintro e w2 ⟨v2, rfl, FB2, hb2⟩
      rw [hop_stripL] at FB2
      obtain ⟨o2, c2, rfl, FO2⟩ := FB2.shape
      have F2 := Lib.hid FO2
      clear FB2 FO2
      go_wp2_with fail
      refine (rstrip_any oa xs cap w2 (by omega) HZ.out (HC.out.down hb2)).mono ?_
      rintro e w3 ⟨v3, rfl, FB3, hb3⟩
      obtain ⟨o3, c3, rfl, FO3⟩ := FB3.shape
      have F3 := Lib.hid FO3
      have F23 := Lib.hid (F2.out.down hb3)
      have b3 := step_b hb2 hb3
      have hl := strip_len xs
      obtain ⟨zs, hzs⟩ : ∃ zs, zs = stripL xs := ⟨_, rfl⟩
      rw [← hzs] at F3 F23 hl ⊢
      clear hzs
      clear FB3 FO3 hb2 hb3 F2
      go_wp2_with fail
      refine (sameFields_any o2 o3 zs c2 c3 w3 (by omega) F23.out F3.out).mono ?_
      rintro e w4 ⟨rfl, hb4⟩
      have b4 := step_b b3 hb4
      clear b3 hb4 F23 F3
      go_wp2_with fail
      refine (via_any oa xs cap n s w4 (by omega) (HC.out.down b4) h0 h1 (by omega) (HT.out.below b4)).mono ?_
      rintro e w5 ⟨v5, rfl, FB5, hb5⟩
      obtain ⟨o5, c5, rfl, FO5⟩ := FB5.shape
      have F5 := Lib.hid FO5
      have b5 := step_b b4 hb5
      clear FB5 FO5 hb5 b4
      go_wp2_with fail
      refine (rvia_any oa xs cap n s w5 (by omega) (HC.out.down b5) h0 h1 (by omega)).mono ?_
      rintro e w6 ⟨v6, rfl, FB6, hb6⟩
      obtain ⟨o6, c6, rfl, FO6⟩ := FB6.shape
      have F6 := Lib.hid FO6
      have F56 := Lib.hid (F5.out.down hb6)
      have b6 := step_b b5 hb6
      have hlv := viaL_len n s xs
      obtain ⟨us, hus⟩ : ∃ us, us = viaL n s xs := ⟨_, rfl⟩
      rw [← hus] at F6 F56 hlv ⊢
      have HLV : us.length ≤ 1000000 := by omega
      clear hus hlv
      clear FB6 FO6 hb6 b5 F5
      go_wp2_with fail
      refine (sameFields_any o5 o6 us c5 c6 w6 HLV F56.out F6.out).mono ?_
      rintro e w7 ⟨rfl, hb7⟩
      have b7 := step_b b6 hb7
      clear b6 hb7 F56 F6
      go_wp2_with fail
      refine (awake25_any w7 (HT.out.below b7)).mono ?_
      rintro e w8 ⟨rfl, hb8⟩
      go_wp2_with fail
      go_ret
      exact ⟨rfl, step_b b7 hb8⟩
    · go_enter Tryd.func3, Tryd.ntmps3
      go_wp2_with fail
      refine (keepF_any oa xs cap w hn HC.out).mono ?_
      rintro e w1 ⟨rfl, hw1⟩
      cases hw1
      rw [HK.out]
      go_wp2_with fail
      go_ret
      exact ⟨rfl, Below.refl _ _⟩
end Go.Proofs.YtlcchcbeebakpaaDoor
