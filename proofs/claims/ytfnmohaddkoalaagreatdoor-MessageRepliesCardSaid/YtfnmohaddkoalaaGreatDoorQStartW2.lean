/- The walks of layer 2 (startline): request lines, statuses, status lines. -/
import Derived.Test.YtfnmohaddkoalaaGreatDoorQStartW1
import Derived.Test.YtfnmohaddkoalaaGreatDoorQPre
namespace Go.Proofs.YtfnmohaddkoalaaGreatDoor
open Go.RowKit

theorem three {α β γ : Type} (x : α × β × γ) : ∃ a b c, x = (a, b, c) := ⟨_, _, _, rfl⟩
theorem verV_cases (a b : Addr) (l : List UInt8) : (verE l = 0 ∧ verV a b l = .tuple #[.int .i64 (verN l), .nilIface]) ∨ (verE l = 1 ∧ verV a b l = .tuple #[.int .i64 0, faultV a]) ∨ (verE l = 3 ∧ verV a b l = .tuple #[.int .i64 0, faultV b]) := by
  unfold verV
  rcases verE_cases l with h | h | h <;> rw [h] <;> simp
set_option maxHeartbeats 1600000 in
theorem parseReq_any (s : ByteArray) (w : World) (a b : Addr) (m : Int) (hE : StartEnv w a b m) (hs : s.size ≤ 100000000) :
    Calls Tryz.prog 48 #[.string s] w fun e w' => e = .returned (reqV (reqL (bs s))) ∧ Below w.heap.size w w' := by
  have HE := Lib.hid hE
  clear hE
  by_cases hl : 2000 < s.size
  · have HF := Lib.hid (reqL_long (l := bs s) (by rw [bs_length]; exact hl))
    have hl' : 2000 < (s.size : Int) := by omega
    go_enter Tryz.func48, Tryz.ntmps48
    go_wp2_with fail
    refine bodyPost_ret (results_tmp4 rfl _ _ _) rfl ?_
    exact ⟨by rw [HF.out]; rfl, Below.refl _ _⟩
  have hl1 : ¬ 2000 < (bs s).length := by rw [bs_length]; exact hl
  have hl' : ¬ 2000 < (s.size : Int) := by omega
  obtain ⟨p1, p2, p3, hp⟩ := three (cutB 32 (bs s))
  obtain ⟨q1, q2, q3, hq⟩ := three (cutB 32 p2)
  have z1 := cutB_len 32 (bs s)
  have z2 := cutB_len 32 p2
  rw [hp, bs_length] at z1
  rw [hq] at z2
  simp only at z1 z2
  have zp1 : p1.length ≤ 2000 := by omega
  have zp2 : p2.length ≤ 2000 := by omega
  have zq1 : q1.length ≤ 2000 := by omega
  have zq2 : q2.length ≤ 2000 := by omega
  clear z1 z2
  have HP := Lib.hid hp
  have HQ := Lib.hid hq
  have HL := Lib.hid hl1
  clear hp hq hl1
  cases ht : tokenB p1 with
  | false =>
    have HT := Lib.hid ht
    have HF := Lib.hid (reqL_bad HL.out HP.out HQ.out (by rw [ht]; rfl))
    clear ht
    go_enter Tryz.func48, Tryz.ntmps48
    go_wp2_with fail
    refine (scut_any s 32 m _ (by omega) HE.out.max).mono ?_
    rintro e w1 ⟨rfl, hb1⟩
    rw [HP.out]
    have E1 := Lib.hid (HE.out.below hb1)
    go_wp2_with fail
    refine (scut_any ⟨p2.toArray⟩ 32 m _ (by rw [size_of_list]; omega) E1.out.max).mono ?_
    rintro e w2 ⟨rfl, hb2⟩
    rw [bs_mk, HQ.out]
    have E2 := Lib.hid (E1.out.below hb2)
    have b2 := below_step hb1 hb2
    clear hb1 hb2
    go_wp2_with fail
    refine (token_any ⟨p1.toArray⟩ _ (by rw [size_of_list]; omega)).mono ?_
    rintro e w' ⟨rfl, rfl⟩
    rw [bs_mk, HT.out]
    go_wp2_with fail
    refine bodyPost_ret (results_tmp4 rfl _ _ _) rfl ?_
    exact ⟨by rw [HF.out]; rfl, b2⟩
  | true =>
    have HT := Lib.hid ht
    cases hv : visB q1 with
    | false =>
      have HV := Lib.hid hv
      have HF := Lib.hid (reqL_bad HL.out HP.out HQ.out (by rw [ht, hv]; rfl))
      clear ht hv
      go_enter Tryz.func48, Tryz.ntmps48
      go_wp2_with fail
      refine (scut_any s 32 m _ (by omega) HE.out.max).mono ?_
      rintro e w1 ⟨rfl, hb1⟩
      rw [HP.out]
      have E1 := Lib.hid (HE.out.below hb1)
      go_wp2_with fail
      refine (scut_any ⟨p2.toArray⟩ 32 m _ (by rw [size_of_list]; omega) E1.out.max).mono ?_
      rintro e w2 ⟨rfl, hb2⟩
      rw [bs_mk, HQ.out]
      have E2 := Lib.hid (E1.out.below hb2)
      have b2 := below_step hb1 hb2
      clear hb1 hb2
      go_wp2_with fail
      refine (token_any ⟨p1.toArray⟩ _ (by rw [size_of_list]; omega)).mono ?_
      rintro e w' ⟨rfl, rfl⟩
      rw [bs_mk, HT.out]
      go_wp2_with fail
      refine (visible_any ⟨q1.toArray⟩ _ (by rw [size_of_list]; omega)).mono ?_
      rintro e w' ⟨rfl, rfl⟩
      rw [bs_mk, HV.out]
      go_wp2_with fail
      refine bodyPost_ret (results_tmp4 rfl _ _ _) rfl ?_
      exact ⟨by rw [HF.out]; rfl, b2⟩
    | true =>
      have HV := Lib.hid hv
      have HB : Hid ((tokenB p1 && visB q1) = true) := Lib.hid (by rw [ht, hv]; rfl)
      clear ht hv
      rcases verV_cases a b q2 with ⟨h0, hr⟩ | ⟨h0, hr⟩ | ⟨h0, hr⟩
      · have HR := Lib.hid hr
        have HF := Lib.hid (reqL_ok HL.out HP.out HQ.out HB.out h0)
        clear h0 hr
        go_enter Tryz.func48, Tryz.ntmps48
        go_wp2_with fail
        refine (scut_any s 32 m _ (by omega) HE.out.max).mono ?_
        rintro e w1 ⟨rfl, hb1⟩
        rw [HP.out]
        have E1 := Lib.hid (HE.out.below hb1)
        go_wp2_with fail
        refine (scut_any ⟨p2.toArray⟩ 32 m _ (by rw [size_of_list]; omega) E1.out.max).mono ?_
        rintro e w2 ⟨rfl, hb2⟩
        rw [bs_mk, HQ.out]
        have E2 := Lib.hid (E1.out.below hb2)
        have b2 := below_step hb1 hb2
        clear hb1 hb2
        go_wp2_with fail
        refine (token_any ⟨p1.toArray⟩ _ (by rw [size_of_list]; omega)).mono ?_
        rintro e w' ⟨rfl, rfl⟩
        rw [bs_mk, HT.out]
        go_wp2_with fail
        refine (visible_any ⟨q1.toArray⟩ _ (by rw [size_of_list]; omega)).mono ?_
        rintro e w' ⟨rfl, rfl⟩
        rw [bs_mk, HV.out]
        go_wp2_with fail
        refine (version_any ⟨q2.toArray⟩ _ a b m E2.out).mono ?_
        rintro e w3 ⟨rfl, hb3⟩
        rw [bs_mk, HR.out]
        have b3 := below_step b2 hb3
        have E3 := Lib.hid (E2.out.below hb3)
        clear b2 hb3
        go_wp2_with fail
        refine bodyPost_ret (results_tmp4 rfl _ _ _) rfl ?_
        exact ⟨by rw [HF.out]; rfl, b3⟩
      · have HR := Lib.hid hr
        have HF := Lib.hid ((reqL_ver HL.out HP.out HQ.out HB.out (by rw [h0]; decide)).trans (by rw [h0]))
        clear h0 hr
        go_enter Tryz.func48, Tryz.ntmps48
        go_wp2_with fail
        refine (scut_any s 32 m _ (by omega) HE.out.max).mono ?_
        rintro e w1 ⟨rfl, hb1⟩
        rw [HP.out]
        have E1 := Lib.hid (HE.out.below hb1)
        go_wp2_with fail
        refine (scut_any ⟨p2.toArray⟩ 32 m _ (by rw [size_of_list]; omega) E1.out.max).mono ?_
        rintro e w2 ⟨rfl, hb2⟩
        rw [bs_mk, HQ.out]
        have E2 := Lib.hid (E1.out.below hb2)
        have b2 := below_step hb1 hb2
        clear hb1 hb2
        go_wp2_with fail
        refine (token_any ⟨p1.toArray⟩ _ (by rw [size_of_list]; omega)).mono ?_
        rintro e w' ⟨rfl, rfl⟩
        rw [bs_mk, HT.out]
        go_wp2_with fail
        refine (visible_any ⟨q1.toArray⟩ _ (by rw [size_of_list]; omega)).mono ?_
        rintro e w' ⟨rfl, rfl⟩
        rw [bs_mk, HV.out]
        go_wp2_with fail
        refine (version_any ⟨q2.toArray⟩ _ a b m E2.out).mono ?_
        rintro e w3 ⟨rfl, hb3⟩
        rw [bs_mk, HR.out]
        have b3 := below_step b2 hb3
        have E3 := Lib.hid (E2.out.below hb3)
        clear b2 hb3
        go_wp2_with fail
        refine (code_syn a b m _ E3.out).mono ?_
        rintro e w4 ⟨rfl, hb4⟩
        have b4 := below_step b3 hb4
        clear b3 hb4
        go_wp2_with fail
        refine bodyPost_ret (results_tmp4 rfl _ _ _) rfl ?_
        exact ⟨by rw [HF.out]; rfl, b4⟩
      · have HR := Lib.hid hr
        have HF := Lib.hid ((reqL_ver HL.out HP.out HQ.out HB.out (by rw [h0]; decide)).trans (by rw [h0]))
        clear h0 hr
        go_enter Tryz.func48, Tryz.ntmps48
        go_wp2_with fail
        refine (scut_any s 32 m _ (by omega) HE.out.max).mono ?_
        rintro e w1 ⟨rfl, hb1⟩
        rw [HP.out]
        have E1 := Lib.hid (HE.out.below hb1)
        go_wp2_with fail
        refine (scut_any ⟨p2.toArray⟩ 32 m _ (by rw [size_of_list]; omega) E1.out.max).mono ?_
        rintro e w2 ⟨rfl, hb2⟩
        rw [bs_mk, HQ.out]
        have E2 := Lib.hid (E1.out.below hb2)
        have b2 := below_step hb1 hb2
        clear hb1 hb2
        go_wp2_with fail
        refine (token_any ⟨p1.toArray⟩ _ (by rw [size_of_list]; omega)).mono ?_
        rintro e w' ⟨rfl, rfl⟩
        rw [bs_mk, HT.out]
        go_wp2_with fail
        refine (visible_any ⟨q1.toArray⟩ _ (by rw [size_of_list]; omega)).mono ?_
        rintro e w' ⟨rfl, rfl⟩
        rw [bs_mk, HV.out]
        go_wp2_with fail
        refine (version_any ⟨q2.toArray⟩ _ a b m E2.out).mono ?_
        rintro e w3 ⟨rfl, hb3⟩
        rw [bs_mk, HR.out]
        have b3 := below_step b2 hb3
        have E3 := Lib.hid (E2.out.below hb3)
        clear b2 hb3
        go_wp2_with fail
        refine (code_ver a b m _ E3.out).mono ?_
        rintro e w4 ⟨rfl, hb4⟩
        have b4 := below_step b3 hb4
        clear b3 hb4
        go_wp2_with fail
        refine bodyPost_ret (results_tmp4 rfl _ _ _) rfl ?_
        exact ⟨by rw [HF.out]; rfl, b4⟩
/-- What status hands back. -/
def stV (l : List UInt8) : Value := if statForm l then .tuple #[.int .i64 (statN l), .bool true] else .tuple #[.int .i64 0, .bool false]
theorem stV_no {l : List UInt8} (h : statForm l = false) : stV l = .tuple #[.int .i64 0, .bool false] := by unfold stV; rw [h]; rfl
theorem stV_yes {l : List UInt8} (h : statForm l = true) : stV l = .tuple #[.int .i64 (statN l), .bool true] := by unfold stV; rw [h]; rfl
theorem statForm_at (s : ByteArray) (h : s.size = 3) : statForm (bs s) = (decide (49 ≤ s[0].toNat) && (decide (s[0].toNat ≤ 53) && (digB s[1] && digB s[2]))) := by
  unfold statForm
  rw [bs_length, getD_bs s (by omega), getD_bs s (by omega), getD_bs s (by omega), show (s.size == 3) = true by rw [h]; rfl]
  simp
theorem statForm_size (s : ByteArray) (h : s.size ≠ 3) : statForm (bs s) = false := by
  unfold statForm; rw [bs_length]; simp [h]
theorem numV_stat (l : List UInt8) : ∃ b, numV l = .tuple #[.int .i64 (statN l), .bool b] := by
  unfold numV statN
  cases numGo l 0 with
  | none => exact ⟨_, rfl⟩
  | some n => exact ⟨_, rfl⟩
set_option maxHeartbeats 1600000 in
theorem status_any (s : ByteArray) (w : World) :
    Calls Tryz.prog 86 #[.string s] w fun e w' => e = .returned (stV (bs s)) ∧ w = w' := by
  by_cases h3 : s.size = 3
  · have HA := Lib.hid (statForm_at s h3)
    by_cases k0 : 49 ≤ s[0].toNat
    · have g0 : ¬ (s[0].toNat : Int) < 49 := by omega
      by_cases k1 : s[0].toNat ≤ 53
      · have g1 : ¬ 53 < (s[0].toNat : Int) := by omega
        cases d1 : digB s[1] with
        | false =>
          have HF := Lib.hid (stV_no (l := bs s) (by rw [HA.out, d1]; simp))
          clear k0 k1
          go_enter Tryz.func86, Tryz.ntmps86
          go_wp2_with (go_at_call 100; refine (sdigit_any _ _).mono ?_; rintro e w' ⟨rfl, rfl⟩)
          go_ret2
          exact ⟨by rw [HF.out]; rfl, rfl⟩
        | true =>
          cases d2 : digB s[2] with
          | false =>
            have HF := Lib.hid (stV_no (l := bs s) (by rw [HA.out, d2]; simp))
            clear k0 k1
            go_enter Tryz.func86, Tryz.ntmps86
            go_wp2_with (go_at_call 100; refine (sdigit_any _ _).mono ?_; rintro e w' ⟨rfl, rfl⟩)
            go_ret2
            exact ⟨by rw [HF.out]; rfl, rfl⟩
          | true =>
            have HF := Lib.hid (stV_yes (l := bs s) (by rw [HA.out, d1, d2]; simp; omega))
            obtain ⟨nb, hnv⟩ := numV_stat (bs s)
            have HN := Lib.hid hnv
            clear k0 k1 hnv
            go_enter Tryz.func86, Tryz.ntmps86
            go_wp2_with (go_at_call 100; refine (sdigit_any _ _).mono ?_; rintro e w' ⟨rfl, rfl⟩)
            refine (number_any s _ (by omega)).mono ?_
            rintro e w' ⟨rfl, rfl⟩
            rw [HN.out]
            go_wp2_with fail
            go_ret2
            exact ⟨by rw [HF.out]; rfl, rfl⟩
      · have HF := Lib.hid (stV_no (l := bs s) (by rw [HA.out]; simp [k1]))
        have g1 : 53 < (s[0].toNat : Int) := by omega
        clear k0 k1
        go_enter Tryz.func86, Tryz.ntmps86
        go_wp2_with (go_at_call 100; refine (sdigit_any _ _).mono ?_; rintro e w' ⟨rfl, rfl⟩)
        go_ret2
        exact ⟨by rw [HF.out]; rfl, rfl⟩
    · have HF := Lib.hid (stV_no (l := bs s) (by rw [HA.out]; simp [k0]))
      have g0 : (s[0].toNat : Int) < 49 := by omega
      clear k0
      go_enter Tryz.func86, Tryz.ntmps86
      go_wp2_with (go_at_call 100; refine (sdigit_any _ _).mono ?_; rintro e w' ⟨rfl, rfl⟩)
      go_ret2
      exact ⟨by rw [HF.out]; rfl, rfl⟩
  · have HF := Lib.hid (stV_no (statForm_size s h3))
    have h3' : ((s.size : Int) != 3) = true := by simp; omega
    clear h3
    go_enter Tryz.func86, Tryz.ntmps86
    go_wp2_with (go_at_call 100; refine (sdigit_any _ _).mono ?_; rintro e w' ⟨rfl, rfl⟩)
    go_ret2
    exact ⟨by rw [HF.out]; rfl, rfl⟩
set_option maxHeartbeats 1600000 in
theorem parseStat_any (s : ByteArray) (w : World) (a b : Addr) (m : Int) (hE : StartEnv w a b m) (hs : s.size ≤ 100000000) :
    Calls Tryz.prog 61 #[.string s] w fun e w' => e = .returned (statV (statL (bs s))) ∧ Below w.heap.size w w' := by
  have HE := Lib.hid hE
  clear hE
  by_cases hl : 2000 < s.size
  · have HF := Lib.hid (statL_long (l := bs s) (by rw [bs_length]; exact hl))
    have hl' : 2000 < (s.size : Int) := by omega
    go_enter Tryz.func61, Tryz.ntmps61
    go_wp2_with fail
    refine bodyPost_ret (results_tmp4 rfl _ _ _) rfl ?_
    exact ⟨by rw [HF.out]; rfl, Below.refl _ _⟩
  have hl1 : ¬ 2000 < (bs s).length := by rw [bs_length]; exact hl
  have hl' : ¬ 2000 < (s.size : Int) := by omega
  obtain ⟨p1, p2, p3, hp⟩ := three (cutB 32 (bs s))
  obtain ⟨q1, q2, q3, hq⟩ := three (cutB 32 p2)
  have z1 := cutB_len 32 (bs s)
  have z2 := cutB_len 32 p2
  rw [hp, bs_length] at z1
  rw [hq] at z2
  simp only at z1 z2
  have zp1 : p1.length ≤ 2000 := by omega
  have zp2 : p2.length ≤ 2000 := by omega
  have zq1 : q1.length ≤ 2000 := by omega
  have zq2 : q2.length ≤ 2000 := by omega
  clear z1 z2
  have HP := Lib.hid hp
  have HQ := Lib.hid hq
  have HL := Lib.hid hl1
  clear hp hq hl1
  cases hf : statForm q1 with
  | false =>
    have HS := Lib.hid (stV_no hf)
    have HF := Lib.hid (statL_bad HL.out HP.out HQ.out (by rw [hf]; simp))
    clear hf
    cases q3
    all_goals
      go_enter Tryz.func61, Tryz.ntmps61
      go_wp2_with fail
      refine (scut_any s 32 m _ (by omega) HE.out.max).mono ?_
      rintro e w1 ⟨rfl, hb1⟩
      rw [HP.out]
      have E1 := Lib.hid (HE.out.below hb1)
      go_wp2_with fail
      refine (scut_any ⟨p2.toArray⟩ 32 m _ (by rw [size_of_list]; omega) E1.out.max).mono ?_
      rintro e w2 ⟨rfl, hb2⟩
      rw [bs_mk, HQ.out]
      have E2 := Lib.hid (E1.out.below hb2)
      have b2 := below_step hb1 hb2
      clear hb1 hb2
      go_wp2_with fail
      refine (status_any ⟨q1.toArray⟩ _).mono ?_
      rintro e w' ⟨rfl, rfl⟩
      rw [bs_mk, HS.out]
      go_wp2_with fail
      refine bodyPost_ret (results_tmp4 rfl _ _ _) rfl ?_
      exact ⟨by rw [HF.out]; rfl, b2⟩
  | true =>
    have HS := Lib.hid (stV_yes hf)
    cases q3 with
    | false =>
      have HF := Lib.hid (statL_bad HL.out HP.out HQ.out rfl)
      clear hf
      go_enter Tryz.func61, Tryz.ntmps61
      go_wp2_with fail
      refine (scut_any s 32 m _ (by omega) HE.out.max).mono ?_
      rintro e w1 ⟨rfl, hb1⟩
      rw [HP.out]
      have E1 := Lib.hid (HE.out.below hb1)
      go_wp2_with fail
      refine (scut_any ⟨p2.toArray⟩ 32 m _ (by rw [size_of_list]; omega) E1.out.max).mono ?_
      rintro e w2 ⟨rfl, hb2⟩
      rw [bs_mk, HQ.out]
      have E2 := Lib.hid (E1.out.below hb2)
      have b2 := below_step hb1 hb2
      clear hb1 hb2
      go_wp2_with fail
      refine (status_any ⟨q1.toArray⟩ _).mono ?_
      rintro e w' ⟨rfl, rfl⟩
      rw [bs_mk, HS.out]
      go_wp2_with fail
      refine bodyPost_ret (results_tmp4 rfl _ _ _) rfl ?_
      exact ⟨by rw [HF.out]; rfl, b2⟩
    | true =>
      cases ht : textB q2 with
      | false =>
        have HT := Lib.hid ht
        have HF := Lib.hid (statL_bad HL.out HP.out HQ.out (by rw [ht]; simp))
        clear ht hf
        go_enter Tryz.func61, Tryz.ntmps61
        go_wp2_with fail
        refine (scut_any s 32 m _ (by omega) HE.out.max).mono ?_
        rintro e w1 ⟨rfl, hb1⟩
        rw [HP.out]
        have E1 := Lib.hid (HE.out.below hb1)
        go_wp2_with fail
        refine (scut_any ⟨p2.toArray⟩ 32 m _ (by rw [size_of_list]; omega) E1.out.max).mono ?_
        rintro e w2 ⟨rfl, hb2⟩
        rw [bs_mk, HQ.out]
        have E2 := Lib.hid (E1.out.below hb2)
        have b2 := below_step hb1 hb2
        clear hb1 hb2
        go_wp2_with fail
        refine (status_any ⟨q1.toArray⟩ _).mono ?_
        rintro e w' ⟨rfl, rfl⟩
        rw [bs_mk, HS.out]
        go_wp2_with fail
        refine (text_any ⟨q2.toArray⟩ _ (by rw [size_of_list]; omega)).mono ?_
        rintro e w' ⟨rfl, rfl⟩
        rw [bs_mk, HT.out]
        go_wp2_with fail
        refine bodyPost_ret (results_tmp4 rfl _ _ _) rfl ?_
        exact ⟨by rw [HF.out]; rfl, b2⟩
      | true =>
        have HT := Lib.hid ht
        have HB : Hid ((true && (statForm q1 && textB q2)) = true) := Lib.hid (by rw [ht, hf]; rfl)
        clear ht hf
        rcases verV_cases a b p1 with ⟨h0, hr⟩ | ⟨h0, hr⟩ | ⟨h0, hr⟩
        · have HR := Lib.hid hr
          have HF := Lib.hid (statL_ok HL.out HP.out HQ.out HB.out h0)
          clear h0 hr
          go_enter Tryz.func61, Tryz.ntmps61
          go_wp2_with fail
          refine (scut_any s 32 m _ (by omega) HE.out.max).mono ?_
          rintro e w1 ⟨rfl, hb1⟩
          rw [HP.out]
          have E1 := Lib.hid (HE.out.below hb1)
          go_wp2_with fail
          refine (scut_any ⟨p2.toArray⟩ 32 m _ (by rw [size_of_list]; omega) E1.out.max).mono ?_
          rintro e w2 ⟨rfl, hb2⟩
          rw [bs_mk, HQ.out]
          have E2 := Lib.hid (E1.out.below hb2)
          have b2 := below_step hb1 hb2
          clear hb1 hb2
          go_wp2_with fail
          refine (status_any ⟨q1.toArray⟩ _).mono ?_
          rintro e w' ⟨rfl, rfl⟩
          rw [bs_mk, HS.out]
          go_wp2_with fail
          refine (text_any ⟨q2.toArray⟩ _ (by rw [size_of_list]; omega)).mono ?_
          rintro e w' ⟨rfl, rfl⟩
          rw [bs_mk, HT.out]
          go_wp2_with fail
          refine (version_any ⟨p1.toArray⟩ _ a b m E2.out).mono ?_
          rintro e w3 ⟨rfl, hb3⟩
          rw [bs_mk, HR.out]
          have b3 := below_step b2 hb3
          have E3 := Lib.hid (E2.out.below hb3)
          clear b2 hb3
          go_wp2_with fail
          refine bodyPost_ret (results_tmp4 rfl _ _ _) rfl ?_
          exact ⟨by rw [HF.out]; rfl, b3⟩
        · have HR := Lib.hid hr
          have HF := Lib.hid ((statL_ver HL.out HP.out HQ.out HB.out (by rw [h0]; decide)).trans (by rw [h0]))
          clear h0 hr
          go_enter Tryz.func61, Tryz.ntmps61
          go_wp2_with fail
          refine (scut_any s 32 m _ (by omega) HE.out.max).mono ?_
          rintro e w1 ⟨rfl, hb1⟩
          rw [HP.out]
          have E1 := Lib.hid (HE.out.below hb1)
          go_wp2_with fail
          refine (scut_any ⟨p2.toArray⟩ 32 m _ (by rw [size_of_list]; omega) E1.out.max).mono ?_
          rintro e w2 ⟨rfl, hb2⟩
          rw [bs_mk, HQ.out]
          have E2 := Lib.hid (E1.out.below hb2)
          have b2 := below_step hb1 hb2
          clear hb1 hb2
          go_wp2_with fail
          refine (status_any ⟨q1.toArray⟩ _).mono ?_
          rintro e w' ⟨rfl, rfl⟩
          rw [bs_mk, HS.out]
          go_wp2_with fail
          refine (text_any ⟨q2.toArray⟩ _ (by rw [size_of_list]; omega)).mono ?_
          rintro e w' ⟨rfl, rfl⟩
          rw [bs_mk, HT.out]
          go_wp2_with fail
          refine (version_any ⟨p1.toArray⟩ _ a b m E2.out).mono ?_
          rintro e w3 ⟨rfl, hb3⟩
          rw [bs_mk, HR.out]
          have b3 := below_step b2 hb3
          have E3 := Lib.hid (E2.out.below hb3)
          clear b2 hb3
          go_wp2_with fail
          refine (code_syn a b m _ E3.out).mono ?_
          rintro e w4 ⟨rfl, hb4⟩
          have b4 := below_step b3 hb4
          clear b3 hb4
          go_wp2_with fail
          refine bodyPost_ret (results_tmp4 rfl _ _ _) rfl ?_
          exact ⟨by rw [HF.out]; rfl, b4⟩
        · have HR := Lib.hid hr
          have HF := Lib.hid ((statL_ver HL.out HP.out HQ.out HB.out (by rw [h0]; decide)).trans (by rw [h0]))
          clear h0 hr
          go_enter Tryz.func61, Tryz.ntmps61
          go_wp2_with fail
          refine (scut_any s 32 m _ (by omega) HE.out.max).mono ?_
          rintro e w1 ⟨rfl, hb1⟩
          rw [HP.out]
          have E1 := Lib.hid (HE.out.below hb1)
          go_wp2_with fail
          refine (scut_any ⟨p2.toArray⟩ 32 m _ (by rw [size_of_list]; omega) E1.out.max).mono ?_
          rintro e w2 ⟨rfl, hb2⟩
          rw [bs_mk, HQ.out]
          have E2 := Lib.hid (E1.out.below hb2)
          have b2 := below_step hb1 hb2
          clear hb1 hb2
          go_wp2_with fail
          refine (status_any ⟨q1.toArray⟩ _).mono ?_
          rintro e w' ⟨rfl, rfl⟩
          rw [bs_mk, HS.out]
          go_wp2_with fail
          refine (text_any ⟨q2.toArray⟩ _ (by rw [size_of_list]; omega)).mono ?_
          rintro e w' ⟨rfl, rfl⟩
          rw [bs_mk, HT.out]
          go_wp2_with fail
          refine (version_any ⟨p1.toArray⟩ _ a b m E2.out).mono ?_
          rintro e w3 ⟨rfl, hb3⟩
          rw [bs_mk, HR.out]
          have b3 := below_step b2 hb3
          have E3 := Lib.hid (E2.out.below hb3)
          clear b2 hb3
          go_wp2_with fail
          refine (code_ver a b m _ E3.out).mono ?_
          rintro e w4 ⟨rfl, hb4⟩
          have b4 := below_step b3 hb4
          clear b3 hb4
          go_wp2_with fail
          refine bodyPost_ret (results_tmp4 rfl _ _ _) rfl ?_
          exact ⟨by rw [HF.out]; rfl, b4⟩
end Go.Proofs.YtfnmohaddkoalaaGreatDoor
