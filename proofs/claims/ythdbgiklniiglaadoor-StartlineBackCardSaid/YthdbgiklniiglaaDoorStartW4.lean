/- The walk of the reference's ParseStatusLine (2.2). -/
import Derived.Test.YthdbgiklniiglaaDoorStartW3
import Derived.Test.YthdbgiklniiglaaDoorStartQ
namespace Go.Proofs.YthdbgiklniiglaaDoor
open Go.RowKit

theorem statAt_at (s : ByteArray) (h : 13 ≤ s.size) : statAt (bs s) = (s[8] == 32 && (decide (49 ≤ s[9].toNat) && (decide (s[9].toNat ≤ 53) && (digB s[10] && (digB s[11] && (s[12] == 32 && textB ((bs s).drop 13))))))) := by
  unfold statAt
  rw [bs_length, getD_bs s (by omega), getD_bs s (by omega), getD_bs s (by omega), getD_bs s (by omega), getD_bs s (by omega)]
  simp [h]
theorem statAt_short (s : ByteArray) (h : s.size < 13) : statAt (bs s) = false := by
  unfold statAt
  rw [bs_length]
  simp; omega
set_option maxHeartbeats 3200000 in
theorem rparseStat_any (s : ByteArray) (w : World) (hs : s.size ≤ 100000000) :
    Calls Tryd.prog 25 #[.string s] w fun e w' => e = .returned (statV (statL (bs s))) ∧ Below w.heap.size w w' := by
  by_cases hl : 2000 < s.size
  · have HF := Lib.hid (statL_long (l := bs s) (by rw [bs_length]; exact hl))
    have hl' : 2000 < (s.size : Int) := by omega
    go_enter Tryd.func25, Tryd.ntmps25
    go_wp2_with fail
    refine bodyPost_ret (results_tmp4 rfl _ _ _) rfl ?_
    exact ⟨by rw [HF.out]; rfl, Below.refl _ _⟩
  have HL := Lib.hid (show ¬ 2000 < (bs s).length by rw [bs_length]; exact hl)
  have hl' : ¬ 2000 < (s.size : Int) := by omega
  by_cases h13 : s.size < 13
  · have HF := Lib.hid (stat_err HL.out fun h => by have := h.1; rw [statAt_short s h13] at this; cases this)
    have h13' : (s.size : Int) < 13 := by omega
    go_enter Tryd.func25, Tryd.ntmps25
    go_wp2_with fail
    refine bodyPost_ret (results_tmp4 rfl _ _ _) rfl ?_
    exact ⟨by rw [HF.out]; rfl, Below.refl _ _⟩
  have h13' : ¬ (s.size : Int) < 13 := by omega
  have HA := Lib.hid (statAt_at s (by omega))
  have z8 : 8 < s.size := by omega
  have z9 : 9 < s.size := by omega
  have z10 : 10 < s.size := by omega
  have z11 : 11 < s.size := by omega
  have z12 : 12 < s.size := by omega
  obtain ⟨x, HX⟩ : ∃ x, Hid (x = s.extract 13 s.size) := ⟨_, Lib.hid rfl⟩
  have hx : bs x = (bs s).drop 13 := by rw [HX.out, bs_from]
  have zx : x.size ≤ s.size := by rw [HX.out, ByteArray.size_extract]; omega
  have HXB := Lib.hid hx
  clear hx
  have sx : ∀ wx, (Instr.slice 9 (.string s) (some (.int .i64 13)) none none).run Tryd.prog wx = .ok (.string x) wx := fun wx => by
    rw [HX.out]; exact run_slice_string_l wx 9 s Tryd.underlying9 .i64 13 (by omega) (by omega)
  by_cases k8 : s[8] = 32
  · have f8 : ((s[8].toNat : Int) != 32) = false := u8_bf (n := 32) (by decide) k8
    by_cases k9 : 49 ≤ s[9].toNat
    · have f9 : ¬ (s[9].toNat : Int) < 49 := by omega
      by_cases k9' : s[9].toNat ≤ 53
      · have f9' : ¬ 53 < (s[9].toNat : Int) := by omega
        cases d10 : digB s[10] with
        | false =>
          have HF := Lib.hid (stat_err HL.out fun h => by have := h.1; rw [HA.out, d10] at this; simp at this)
          clear k8 k9 k9'
          go_enter Tryd.func25, Tryd.ntmps25
          go_wp2_with (first | (go_at_call 55; refine (digit_any _ _).mono ?_; rintro e w' ⟨rfl, rfl⟩))
          refine bodyPost_ret (results_tmp4 rfl _ _ _) rfl ?_
          exact ⟨by rw [HF.out]; rfl, Below.refl _ _⟩
        | true =>
          cases d11 : digB s[11] with
          | false =>
            have HF := Lib.hid (stat_err HL.out fun h => by have := h.1; rw [HA.out, d11] at this; simp at this)
            clear k8 k9 k9'
            go_enter Tryd.func25, Tryd.ntmps25
            go_wp2_with (first | (go_at_call 55; refine (digit_any _ _).mono ?_; rintro e w' ⟨rfl, rfl⟩))
            refine bodyPost_ret (results_tmp4 rfl _ _ _) rfl ?_
            exact ⟨by rw [HF.out]; rfl, Below.refl _ _⟩
          | true =>
            by_cases k12 : s[12] = 32
            · have f12 : ((s[12].toNat : Int) != 32) = false := u8_bf (n := 32) (by decide) k12
              cases ht : textB (bs x) with
              | false =>
                have HT := Lib.hid ht
                have ht' : textB ((bs s).drop 13) = false := by rw [← HXB.out]; exact ht
                have HF := Lib.hid (stat_err HL.out fun h => by have := h.1; rw [HA.out, ht'] at this; simp at this)
                clear k8 k9 k9' k12 ht ht'
                go_enter Tryd.func25, Tryd.ntmps25
                go_wp2_with (first | (go_at_call 55; refine (digit_any _ _).mono ?_; rintro e w' ⟨rfl, rfl⟩))
                refine (rtext_any x _ (by omega)).mono ?_
                rintro e w' ⟨rfl, rfl⟩
                rw [HT.out]
                go_wp2_with fail
                refine bodyPost_ret (results_tmp4 rfl _ _ _) rfl ?_
                exact ⟨by rw [HF.out]; rfl, Below.refl _ _⟩
              | true =>
                have HT := Lib.hid ht
                have HS : Hid (statAt (bs s) = true) := Lib.hid (by rw [HA.out, d10, d11, k8, k12, ← HXB.out, ht]; simp; omega)
                obtain ⟨y, HY⟩ : ∃ y, Hid (y = s.extract 0 8) := ⟨_, Lib.hid rfl⟩
                have HYB : Hid (bs y = (bs s).take 8) := Lib.hid (by rw [HY.out, bs_take])
                have sy : ∀ wx, (Instr.slice 9 (.string s) none (some (.int .i64 8)) none).run Tryd.prog wx = .ok (.string y) wx := fun wx => by
                  rw [HY.out]; exact run_slice_string_h wx 9 s Tryd.underlying9 .i64 8 (by omega) (by omega)
                clear k8 k9 k9' k12 ht
                by_cases h0 : verE (bs y) = 0
                · have hf : verForm ((bs s).take 8) = true := by
                    cases hh : verForm ((bs s).take 8) with
                    | true => rfl
                    | false => rw [HYB.out] at h0; unfold verE at h0; rw [hh] at h0; cases h0
                  have HF := Lib.hid (stat_ok HL.out HS.out hf (by rw [← HYB.out]; exact h0))
                  have HR : Hid (rverV (bs y) = .tuple #[.int .i64 (verN (bs y)), .int .i64 0]) := Lib.hid (by unfold rverV; rw [h0])
                  obtain ⟨n, HN⟩ : ∃ n, Hid (n = s.extract 9 12) := ⟨_, Lib.hid rfl⟩
                  have zn : n.size ≤ s.size := by rw [HN.out, ByteArray.size_extract]; omega
                  have HNB : Hid (bs n = ((bs s).drop 9).take 3) := Lib.hid (by rw [HN.out, bs_mid])
                  obtain ⟨nb, hnv⟩ := numV_stat (bs n)
                  have HNV := Lib.hid hnv
                  have sn : ∀ wx, (Instr.slice 9 (.string s) (some (.int .i64 9)) (some (.int .i64 12)) none).run Tryd.prog wx = .ok (.string n) wx := fun wx => by
                    rw [HN.out, run_slice_string_if (h := Tryd.underlying9), if_pos ⟨by omega, by omega⟩, if_pos ⟨by omega, by omega⟩]; rfl
                  clear h0 hf hnv
                  go_enter Tryd.func25, Tryd.ntmps25
                  go_wp2_with (first | (go_at_call 55; refine (digit_any _ _).mono ?_; rintro e w' ⟨rfl, rfl⟩))
                  refine (rtext_any x _ (by omega)).mono ?_
                  rintro e w' ⟨rfl, rfl⟩
                  rw [HT.out]
                  go_wp2_with fail
                  refine (rversion_any y _).mono ?_
                  rintro e w' ⟨rfl, rfl⟩
                  rw [HR.out]
                  go_wp2_with fail
                  refine (rnumber_any n _ (by omega)).mono ?_
                  rintro e w' ⟨rfl, rfl⟩
                  rw [HNV.out]
                  go_wp2_with fail
                  go_quiet (fail)
                  go_wp2_with fail
                  refine bodyPost_ret (results_tmp4 rfl _ _ _) rfl ?_
                  exact ⟨by rw [HF.out]; show _ = Ending.returned (Value.tuple #[_, _, .string ⟨((bs s).drop 13).toArray⟩, _]); rw [← HXB.out, ← HYB.out, ← HNB.out, ← of_bs (s := x) rfl]; rfl, below_draws w _⟩
                · obtain ⟨ve, hve⟩ : ∃ v, verE (bs y) = v := ⟨_, rfl⟩
                  have HF : Hid (statL (bs s) = (0, 0, [], ve)) := Lib.hid (by
                    rw [← hve, HYB.out]
                    cases hh : verForm ((bs s).take 8) with
                    | true => exact stat_ver HL.out HS.out hh (by rw [← HYB.out]; exact h0)
                    | false => rw [stat_err HL.out (fun h => by have := h.2; rw [hh] at this; cases this)]; unfold verE; rw [hh]; rfl)
                  have HR : Hid (rverV (bs y) = .tuple #[.int .i64 0, .int .i64 ve]) := Lib.hid (by unfold rverV verN; rw [if_neg h0, hve])
                  have kn : (ve != 0) = true := bne_iff_ne.2 (by rw [← hve]; exact h0)
                  clear h0 hve
                  go_enter Tryd.func25, Tryd.ntmps25
                  go_wp2_with (first | (go_at_call 55; refine (digit_any _ _).mono ?_; rintro e w' ⟨rfl, rfl⟩))
                  refine (rtext_any x _ (by omega)).mono ?_
                  rintro e w' ⟨rfl, rfl⟩
                  rw [HT.out]
                  go_wp2_with fail
                  refine (rversion_any y _).mono ?_
                  rintro e w' ⟨rfl, rfl⟩
                  rw [HR.out]
                  go_wp2_with fail
                  refine bodyPost_ret (results_tmp4 rfl _ _ _) rfl ?_
                  exact ⟨by rw [HF.out]; rfl, Below.refl _ _⟩
            · have f12 : ((s[12].toNat : Int) != 32) = true := u8_bt (n := 32) (by decide) k12
              have HF := Lib.hid (stat_err HL.out fun h => by have := h.1; rw [HA.out, beq_eq_false_iff_ne.2 k12] at this; simp at this)
              clear k8 k9 k9' k12
              go_enter Tryd.func25, Tryd.ntmps25
              go_wp2_with (first | (go_at_call 55; refine (digit_any _ _).mono ?_; rintro e w' ⟨rfl, rfl⟩))
              refine bodyPost_ret (results_tmp4 rfl _ _ _) rfl ?_
              exact ⟨by rw [HF.out]; rfl, Below.refl _ _⟩
      · have f9' : 53 < (s[9].toNat : Int) := by omega
        have HF := Lib.hid (stat_err HL.out fun h => by have := h.1; rw [HA.out, decide_eq_false k9'] at this; simp at this)
        clear k8 k9 k9'
        go_enter Tryd.func25, Tryd.ntmps25
        go_wp2_with (first | (go_at_call 55; refine (digit_any _ _).mono ?_; rintro e w' ⟨rfl, rfl⟩))
        refine bodyPost_ret (results_tmp4 rfl _ _ _) rfl ?_
        exact ⟨by rw [HF.out]; rfl, Below.refl _ _⟩
    · have f9 : (s[9].toNat : Int) < 49 := by omega
      have HF := Lib.hid (stat_err HL.out fun h => by have := h.1; rw [HA.out, decide_eq_false k9] at this; simp at this)
      clear k8 k9
      go_enter Tryd.func25, Tryd.ntmps25
      go_wp2_with (first | (go_at_call 55; refine (digit_any _ _).mono ?_; rintro e w' ⟨rfl, rfl⟩))
      refine bodyPost_ret (results_tmp4 rfl _ _ _) rfl ?_
      exact ⟨by rw [HF.out]; rfl, Below.refl _ _⟩
  · have f8 : ((s[8].toNat : Int) != 32) = true := u8_bt (n := 32) (by decide) k8
    have HF := Lib.hid (stat_err HL.out fun h => by have := h.1; rw [HA.out, beq_eq_false_iff_ne.2 k8] at this; simp at this)
    clear k8
    go_enter Tryd.func25, Tryd.ntmps25
    go_wp2_with (first | (go_at_call 55; refine (digit_any _ _).mono ?_; rintro e w' ⟨rfl, rfl⟩))
    refine bodyPost_ret (results_tmp4 rfl _ _ _) rfl ?_
    exact ⟨by rw [HF.out]; rfl, Below.refl _ _⟩
end Go.Proofs.YthdbgiklniiglaaDoor
