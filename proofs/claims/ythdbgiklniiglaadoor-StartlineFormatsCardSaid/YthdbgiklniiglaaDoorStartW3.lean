/- The walks of layer 2 in the reference: versions, request lines, status lines. -/
import Derived.Test.YthdbgiklniiglaaDoorStartW2
import Derived.Test.YthdbgiklniiglaaDoorRefIdx
namespace Go.Proofs.YthdbgiklniiglaaDoor
open Go.RowKit

def rverV (l : List UInt8) : Value := .tuple #[.int .i64 (verN l), .int .i64 (verE l)]
theorem rverV_one {l : List UInt8} (h : verForm l = false) : rverV l = .tuple #[.int .i64 0, .int .i64 1] := by
  have e : verE l = 1 := by unfold verE; rw [h]; rfl
  unfold rverV verN; rw [e]; rfl
theorem rverV_three {l : List UInt8} (h : verForm l = true) (h' : ¬ (l.getD 5 0 = 49 ∧ (l.getD 7 0).toNat ≤ 49)) : rverV l = .tuple #[.int .i64 0, .int .i64 3] := by
  have e : verE l = 3 := by unfold verE; rw [if_pos h, if_neg h']
  unfold rverV verN; rw [e]; rfl
theorem rverV_zero {l : List UInt8} (h : verForm l = true) (h' : l.getD 5 0 = 49 ∧ (l.getD 7 0).toNat ≤ 49) : rverV l = .tuple #[.int .i64 (((l.getD 7 0).toNat : Int) - 48), .int .i64 0] := by
  have e : verE l = 0 := by unfold verE; rw [if_pos h, if_pos h']
  unfold rverV verN; rw [e]; rfl
set_option maxHeartbeats 1600000 in
theorem rversion_any (s : ByteArray) (w : World) :
    Calls Tryd.prog 50 #[.string s] w fun e w' => e = .returned (rverV (bs s)) ∧ w = w' := by
  by_cases h8 : s.size = 8
  · have HA := Lib.hid (verForm_at s h8)
    by_cases h5 : (s.extract 0 5).toList = httpL
    · have h5' : (s.extract 0 5).toList = [72, 84, 84, 80, 47] := h5
      cases d5 : digB s[5] with
      | false =>
        have HF := Lib.hid (rverV_one (l := bs s) (by rw [HA.out, d5]; simp))
        clear h5
        go_enter Tryd.func50, Tryd.ntmps50
        go_wp2_with (go_at_call 55; refine (digit_any _ _).mono ?_; rintro e w' ⟨rfl, rfl⟩)
        go_ret2
        exact ⟨by rw [HF.out]; rfl, rfl⟩
      | true =>
        by_cases h6 : s[6] = 46
        · have k6 : ((s[6].toNat : Int) != 46) = false := u8_bf (n := 46) (by decide) h6
          cases d7 : digB s[7] with
          | false =>
            have HF := Lib.hid (rverV_one (l := bs s) (by rw [HA.out, d7]; simp))
            clear h5 h6
            go_enter Tryd.func50, Tryd.ntmps50
            go_wp2_with (go_at_call 55; refine (digit_any _ _).mono ?_; rintro e w' ⟨rfl, rfl⟩)
            go_ret2
            exact ⟨by rw [HF.out]; rfl, rfl⟩
          | true =>
            have HT : Hid (verForm (bs s) = true) := Lib.hid (by rw [HA.out, h5, d5, d7, h6]; rfl)
            have G5 := Lib.hid (getD_bs s (k := 5) (by omega))
            have G7 := Lib.hid (getD_bs s (k := 7) (by omega))
            obtain ⟨b7, b7'⟩ := of_digB d7
            clear h5 h6
            by_cases h49 : s[5] = 49
            · have k5 : ((s[5].toNat : Int) != 49) = false := u8_bf (n := 49) (by decide) h49
              by_cases h7 : s[7].toNat ≤ 49
              · have HF := Lib.hid (rverV_zero (l := bs s) HT.out ⟨by rw [G5.out]; exact h49, by rw [G7.out]; exact h7⟩)
                have k7 : ¬ 49 < (s[7].toNat : Int) := by omega
                clear h49
                go_enter Tryd.func50, Tryd.ntmps50
                go_wp2_with (go_at_call 55; refine (digit_any _ _).mono ?_; rintro e w' ⟨rfl, rfl⟩)
                go_ret2
                exact ⟨by rw [HF.out, G7.out]; rfl, rfl⟩
              · have HF := Lib.hid (rverV_three (l := bs s) HT.out fun h => h7 (by have := h.2; rw [G7.out] at this; exact this))
                have k7 : 49 < (s[7].toNat : Int) := by omega
                clear h49 h7
                go_enter Tryd.func50, Tryd.ntmps50
                go_wp2_with (go_at_call 55; refine (digit_any _ _).mono ?_; rintro e w' ⟨rfl, rfl⟩)
                go_ret2
                exact ⟨by rw [HF.out]; rfl, rfl⟩
            · have HF := Lib.hid (rverV_three (l := bs s) HT.out fun h => h49 (by have := h.1; rw [G5.out] at this; exact this))
              have k5 : ((s[5].toNat : Int) != 49) = true := u8_bt (n := 49) (by decide) h49
              clear h49
              go_enter Tryd.func50, Tryd.ntmps50
              go_wp2_with (go_at_call 55; refine (digit_any _ _).mono ?_; rintro e w' ⟨rfl, rfl⟩)
              go_ret2
              exact ⟨by rw [HF.out]; rfl, rfl⟩
        · have HF := Lib.hid (rverV_one (l := bs s) (by rw [HA.out, beq_eq_false_iff_ne.2 h6]; simp))
          have k6 : ((s[6].toNat : Int) != 46) = true := u8_bt (n := 46) (by decide) h6
          clear h5 h6
          go_enter Tryd.func50, Tryd.ntmps50
          go_wp2_with (go_at_call 55; refine (digit_any _ _).mono ?_; rintro e w' ⟨rfl, rfl⟩)
          go_ret2
          exact ⟨by rw [HF.out]; rfl, rfl⟩
    · have HF := Lib.hid (rverV_one (l := bs s) (by rw [HA.out, beq_eq_false_iff_ne.2 h5]; simp))
      have h5' : ¬ (s.extract 0 5).toList = [72, 84, 84, 80, 47] := h5
      clear h5
      go_enter Tryd.func50, Tryd.ntmps50
      go_wp2_with (go_at_call 55; refine (digit_any _ _).mono ?_; rintro e w' ⟨rfl, rfl⟩)
      go_ret2
      exact ⟨by rw [HF.out]; rfl, rfl⟩
  · have HF := Lib.hid (rverV_one (verForm_size s h8))
    have h8' : ((s.size : Int) != 8) = true := by simp; omega
    clear h8
    go_enter Tryd.func50, Tryd.ntmps50
    go_wp2_with (go_at_call 55; refine (digit_any _ _).mono ?_; rintro e w' ⟨rfl, rfl⟩)
    go_ret2
    exact ⟨by rw [HF.out]; rfl, rfl⟩
theorem reqL_noline {l : List UInt8} (h : ¬ 2000 < l.length) (hp : cutB 32 l = (l, [], false)) : reqL l = ([], [], 0, 1) :=
  reqL_bad h hp (cutB_nil 32) (by simp [visB])
theorem reqL_noend {l p1 p2 : List UInt8} {p3 : Bool} (h : ¬ 2000 < l.length) (hp : cutB 32 l = (p1, p2, p3)) (hq : cutB 32 p2 = (p2, [], false)) : reqL l = ([], [], 0, 1) := by
  cases hb : tokenB p1 && visB p2 with
  | false => exact reqL_bad h hp hq hb
  | true => exact reqL_ver h hp hq hb (by decide)
set_option maxHeartbeats 1600000 in
theorem rparseReq_any (s : ByteArray) (w : World) (hs : s.size ≤ 100000000) :
    Calls Tryd.prog 17 #[.string s] w fun e w' => e = .returned (reqV (reqL (bs s))) ∧ Below w.heap.size w w' := by
  by_cases hl : 2000 < s.size
  · have HF := Lib.hid (reqL_long (l := bs s) (by rw [bs_length]; exact hl))
    have hl' : 2000 < (s.size : Int) := by omega
    go_enter Tryd.func17, Tryd.ntmps17
    go_wp2_with fail
    refine bodyPost_ret (results_tmp4 rfl _ _ _) rfl ?_
    exact ⟨by rw [HF.out]; rfl, Below.refl _ _⟩
  have HL := Lib.hid (show ¬ 2000 < (bs s).length by rw [bs_length]; exact hl)
  have hl' : ¬ 2000 < (s.size : Int) := by omega
  rcases idxFrom_bd 32 (bs s) 0 with ⟨hi, hc⟩ | ⟨i, hi, _, hi2, hc⟩
  · have HI := Lib.hid hi
    have HF := Lib.hid (reqL_noline HL.out hc)
    clear hi hc
    go_enter Tryd.func17, Tryd.ntmps17
    go_wp2_with fail
    refine (index_any s 32 0 _ _ _ rfl rfl (by omega) (by omega)).mono ?_
    rintro e w' ⟨rfl, rfl⟩
    rw [HI.out]
    go_wp2_with fail
    refine bodyPost_ret (results_tmp4 rfl _ _ _) rfl ?_
    exact ⟨by rw [HF.out]; rfl, Below.refl _ _⟩
  rw [bs_length] at hi2
  rw [List.drop_zero] at hc
  simp only [Nat.sub_zero] at hc
  have HI := Lib.hid hi
  have HP := Lib.hid hc
  clear hi hc
  rcases idxFrom_bd 32 (bs s) (i + 1) with ⟨hj, hd⟩ | ⟨j, hj, hj1, hj2, hd⟩
  · have HJ := Lib.hid hj
    have HF := Lib.hid (reqL_noend HL.out HP.out hd)
    clear hj hd
    go_enter Tryd.func17, Tryd.ntmps17
    go_wp2_with fail
    refine (index_any s 32 0 _ _ _ rfl rfl (by omega) (by omega)).mono ?_
    rintro e w' ⟨rfl, rfl⟩
    rw [HI.out]
    go_wp2_with fail
    refine (index_any s 32 (i + 1) _ _ _ rfl (by omega) (by omega) (by omega)).mono ?_
    rintro e w' ⟨rfl, rfl⟩
    rw [HJ.out]
    go_wp2_with fail
    refine bodyPost_ret (results_tmp4 rfl _ _ _) rfl ?_
    exact ⟨by rw [HF.out]; rfl, Below.refl _ _⟩
  rw [bs_length] at hj2
  have HJ := Lib.hid hj
  have HQ := Lib.hid hd
  clear hj hd
  obtain ⟨x1, HX1⟩ : ∃ x, Hid (x = s.extract 0 i) := ⟨_, Lib.hid rfl⟩
  obtain ⟨x2, HX2⟩ : ∃ x, Hid (x = s.extract (i + 1) j) := ⟨_, Lib.hid rfl⟩
  obtain ⟨x3, HX3⟩ : ∃ x, Hid (x = s.extract (j + 1) s.size) := ⟨_, Lib.hid rfl⟩
  have z1 : x1.size ≤ s.size := by rw [HX1.out, ByteArray.size_extract]; omega
  have z2 : x2.size ≤ s.size := by rw [HX2.out, ByteArray.size_extract]; omega
  have hx1 : bs x1 = (bs s).take i := by rw [HX1.out, bs_take]
  have hx2 : bs x2 = ((bs s).drop (i + 1)).take (j - (i + 1)) := by rw [HX2.out, bs_mid]
  have hx3 : bs x3 = (bs s).drop (j + 1) := by rw [HX3.out, bs_from]
  have HP' : Hid (cutB 32 (bs s) = (bs x1, (bs s).drop (i + 1), true)) := Lib.hid (by rw [hx1]; exact HP.out)
  have HQ' : Hid (cutB 32 ((bs s).drop (i + 1)) = (bs x2, bs x3, true)) := Lib.hid (by rw [hx2, hx3]; exact HQ.out)
  clear hx1 hx2 hx3 HP HQ
  have s1 : ∀ wx, (Instr.slice 9 (.string s) none (some (.int .i64 (i : Int))) none).run Tryd.prog wx = .ok (.string x1) wx := fun wx => by
    rw [HX1.out]; exact run_slice_string_h wx 9 s Tryd.underlying9 .i64 i (by omega) (by omega)
  have s2 : ∀ wx, (Instr.slice 9 (.string s) (some (.int .i64 ((i : Int) + 1))) (some (.int .i64 (j : Int))) none).run Tryd.prog wx = .ok (.string x2) wx := fun wx => by
    rw [HX2.out, run_slice_string_if (h := Tryd.underlying9), if_pos ⟨by omega, by omega⟩, if_pos ⟨by omega, by omega⟩]
    rw [show ((i : Int) + 1).toNat = i + 1 from by omega, Int.toNat_natCast]
  have s3 : ∀ wx, (Instr.slice 9 (.string s) (some (.int .i64 ((j : Int) + 1))) none none).run Tryd.prog wx = .ok (.string x3) wx := fun wx => by
    rw [HX3.out, run_slice_string_l wx 9 s Tryd.underlying9 .i64 ((j : Int) + 1) (by omega) (by omega)]
    rw [show ((j : Int) + 1).toNat = j + 1 from by omega]
  cases ht : tokenB (bs x1) with
  | false =>
    have HT := Lib.hid ht
    have HF := Lib.hid (reqL_bad HL.out HP'.out HQ'.out (by rw [ht]; rfl))
    clear ht
    go_enter Tryd.func17, Tryd.ntmps17
    go_wp2_with fail
    refine (index_any s 32 0 _ _ _ rfl rfl (by omega) (by omega)).mono ?_
    rintro e w' ⟨rfl, rfl⟩
    rw [HI.out]
    go_wp2_with fail
    refine (index_any s 32 (i + 1) _ _ _ rfl (by omega) (by omega) (by omega)).mono ?_
    rintro e w' ⟨rfl, rfl⟩
    rw [HJ.out]
    go_wp2_with fail
    refine (rtoken_any x1 _ (by omega)).mono ?_
    rintro e w' ⟨rfl, rfl⟩
    rw [HT.out]
    go_wp2_with fail
    refine bodyPost_ret (results_tmp4 rfl _ _ _) rfl ?_
    exact ⟨by rw [HF.out]; rfl, Below.refl _ _⟩
  | true =>
    have HT := Lib.hid ht
    cases hv : visB (bs x2) with
    | false =>
      have HV := Lib.hid hv
      have HF := Lib.hid (reqL_bad HL.out HP'.out HQ'.out (by rw [ht, hv]; rfl))
      clear ht hv
      go_enter Tryd.func17, Tryd.ntmps17
      go_wp2_with fail
      refine (index_any s 32 0 _ _ _ rfl rfl (by omega) (by omega)).mono ?_
      rintro e w' ⟨rfl, rfl⟩
      rw [HI.out]
      go_wp2_with fail
      refine (index_any s 32 (i + 1) _ _ _ rfl (by omega) (by omega) (by omega)).mono ?_
      rintro e w' ⟨rfl, rfl⟩
      rw [HJ.out]
      go_wp2_with fail
      refine (rtoken_any x1 _ (by omega)).mono ?_
      rintro e w' ⟨rfl, rfl⟩
      rw [HT.out]
      go_wp2_with fail
      refine (rvisible_any x2 _ (by omega)).mono ?_
      rintro e w' ⟨rfl, rfl⟩
      rw [HV.out]
      go_wp2_with fail
      refine bodyPost_ret (results_tmp4 rfl _ _ _) rfl ?_
      exact ⟨by rw [HF.out]; rfl, Below.refl _ _⟩
    | true =>
      have HV := Lib.hid hv
      have HB : Hid ((tokenB (bs x1) && visB (bs x2)) = true) := Lib.hid (by rw [ht, hv]; rfl)
      clear ht hv
      by_cases h0 : verE (bs x3) = 0
      · have HR : Hid (rverV (bs x3) = .tuple #[.int .i64 (verN (bs x3)), .int .i64 0]) := Lib.hid (by unfold rverV; rw [h0])
        have HF := Lib.hid (reqL_ok HL.out HP'.out HQ'.out HB.out h0)
        clear h0
        go_enter Tryd.func17, Tryd.ntmps17
        go_wp2_with fail
        refine (index_any s 32 0 _ _ _ rfl rfl (by omega) (by omega)).mono ?_
        rintro e w' ⟨rfl, rfl⟩
        rw [HI.out]
        go_wp2_with fail
        refine (index_any s 32 (i + 1) _ _ _ rfl (by omega) (by omega) (by omega)).mono ?_
        rintro e w' ⟨rfl, rfl⟩
        rw [HJ.out]
        go_wp2_with fail
        refine (rtoken_any x1 _ (by omega)).mono ?_
        rintro e w' ⟨rfl, rfl⟩
        rw [HT.out]
        go_wp2_with fail
        refine (rvisible_any x2 _ (by omega)).mono ?_
        rintro e w' ⟨rfl, rfl⟩
        rw [HV.out]
        go_wp2_with fail
        refine (rversion_any x3 _).mono ?_
        rintro e w' ⟨rfl, rfl⟩
        rw [HR.out]
        go_wp2_with fail
        go_quiet (fail)
        go_wp2_with fail
        refine bodyPost_ret (results_tmp4 rfl _ _ _) rfl ?_
        exact ⟨by rw [HF.out]; show _ = Ending.returned (Value.tuple #[.string ⟨(bs x1).toArray⟩, .string ⟨(bs x2).toArray⟩, _, _]); rw [← of_bs (s := x1) rfl, ← of_bs (s := x2) rfl]; rfl, below_draws w _⟩
      · obtain ⟨ve, hve⟩ : ∃ v, verE (bs x3) = v := ⟨_, rfl⟩
        have hn : ve ≠ 0 := by rw [← hve]; exact h0
        have HR : Hid (rverV (bs x3) = .tuple #[.int .i64 0, .int .i64 ve]) := Lib.hid (by unfold rverV verN; rw [if_neg h0, hve])
        have HF := Lib.hid ((reqL_ver HL.out HP'.out HQ'.out HB.out h0).trans (by rw [hve]))
        have kn : (ve != 0) = true := bne_iff_ne.2 hn
        clear h0 hve hn
        go_enter Tryd.func17, Tryd.ntmps17
        go_wp2_with fail
        refine (index_any s 32 0 _ _ _ rfl rfl (by omega) (by omega)).mono ?_
        rintro e w' ⟨rfl, rfl⟩
        rw [HI.out]
        go_wp2_with fail
        refine (index_any s 32 (i + 1) _ _ _ rfl (by omega) (by omega) (by omega)).mono ?_
        rintro e w' ⟨rfl, rfl⟩
        rw [HJ.out]
        go_wp2_with fail
        refine (rtoken_any x1 _ (by omega)).mono ?_
        rintro e w' ⟨rfl, rfl⟩
        rw [HT.out]
        go_wp2_with fail
        refine (rvisible_any x2 _ (by omega)).mono ?_
        rintro e w' ⟨rfl, rfl⟩
        rw [HV.out]
        go_wp2_with fail
        refine (rversion_any x3 _).mono ?_
        rintro e w' ⟨rfl, rfl⟩
        rw [HR.out]
        go_wp2_with fail
        refine bodyPost_ret (results_tmp4 rfl _ _ _) rfl ?_
        exact ⟨by rw [HF.out]; rfl, Below.refl _ _⟩
end Go.Proofs.YthdbgiklniiglaaDoor
