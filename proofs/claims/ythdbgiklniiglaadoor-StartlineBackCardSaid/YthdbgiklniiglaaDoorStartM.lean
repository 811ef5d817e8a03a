/- The walks of the statements on the writing of lines (layer 2): each returns true. -/
import Derived.Test.YthdbgiklniiglaaDoorStartW5
import Derived.Test.YthdbgiklniiglaaDoorStartL
namespace Go.Proofs.YthdbgiklniiglaaDoor
open Go.RowKit

theorem laid_five {W : World} (h : laidMetH Tryd.prog Rows.startlineFormatsRow.laid W) : PowTab W ∧ SentOf W := by
  rw [MakeChecks.laidMetH_plain _ _ _ (by kernel_rfl)] at h
  refine ⟨?_, sent_of_two (r := []) h.tail.tail.tail⟩
  obtain ⟨ps, hv, _⟩ := h
  obtain ⟨q1, hv1⟩ := laid_rest hv
  obtain ⟨q2, hv2⟩ := laid_rest hv1
  exact laid_tab (g := 3) (t := 101) (e := 91) (n := 20) (by kernel_rfl) (by kernel_rfl) Tryd.underlying101 Tryd.underlying91 (by kernel_rfl) (by kernel_rfl) hv2
theorem pow_of_five {W : World} (h : laidMetH Tryd.prog Rows.startlineFormatsRow.laid W) : PowTab W := (laid_five h).1
theorem sent_of_five {W : World} (h : laidMetH Tryd.prog Rows.startlineFormatsRow.laid W) : SentOf W := (laid_five h).2
set_option maxHeartbeats 800000 in
theorem startlineFormats_walk (a b : ByteArray) (v s : Int) (r : ByteArray) (w : World) (_ : a.size ≤ 9223372036854775807) (_ : b.size ≤ 9223372036854775807) (hv : (Lit.int .i64 v).wf = true) (hs : (Lit.int .i64 s).wf = true) (_ : r.size ≤ 9223372036854775807)
    (hT : PowTab w) (hS : SentOf w) (hM : MaxOf w) :
    Calls Tryd.prog 12 #[.string a, .string b, .int .i64 v, .int .i64 s, .string r] w fun e w' => e = .returned (.bool true) ∧ Below w.heap.size w w' := by
  obtain ⟨p, q, m, hE⟩ := startEnv hS hM
  have HE := Lib.hid hE
  have HT := Lib.hid hT
  obtain ⟨v0, v1⟩ := bounds_i64 hv
  obtain ⟨s0, s1⟩ := bounds_i64 hs
  clear hS hM hE hT hv hs
  by_cases k1 : 3000 < (a.size : Int)
  · go_enter Tryd.func12, Tryd.ntmps12
    go_wp2_with fail
    go_ret
    exact ⟨rfl, Below.refl _ _⟩
  by_cases k2 : 3000 < (b.size : Int)
  · go_enter Tryd.func12, Tryd.ntmps12
    go_wp2_with fail
    go_ret
    exact ⟨rfl, Below.refl _ _⟩
  by_cases k3 : 3000 < (r.size : Int)
  · go_enter Tryd.func12, Tryd.ntmps12
    go_wp2_with fail
    go_ret
    exact ⟨rfl, Below.refl _ _⟩
  obtain ⟨x, HX⟩ : ∃ x : ByteArray, Hid (x = ⟨(reqF (bs a) (bs b) v).toArray⟩) := ⟨_, Lib.hid rfl⟩
  obtain ⟨y, HY⟩ : ∃ y : ByteArray, Hid (y = ⟨(statF v s (bs r)).toArray⟩) := ⟨_, Lib.hid rfl⟩
  go_enter Tryd.func12, Tryd.ntmps12
  go_wp2_with fail
  refine (fmtReq_any a b v _ p q m HE.out HT.out (by omega) (by omega) v0 v1).mono ?_
  rintro e w1 ⟨rfl, hb1⟩
  rw [← HX.out]
  have E1 := Lib.hid (HE.out.below hb1)
  have T1 := Lib.hid (HT.out.below hb1)
  go_wp2_with fail
  refine (rfmtReq_any a b v _ (by omega) (by omega) v0 v1).mono ?_
  rintro e w2 ⟨rfl, hb2⟩
  rw [← HX.out]
  have E2 := Lib.hid (E1.out.below hb2)
  have T2 := Lib.hid (T1.out.below hb2)
  have b2 := below_step hb1 hb2
  clear hb1 hb2
  go_wp2_with fail
  refine (fmtStat_any v s r _ p q m E2.out T2.out (by omega) v0 v1 s0 s1).mono ?_
  rintro e w3 ⟨rfl, hb3⟩
  rw [← HY.out]
  have E3 := Lib.hid (E2.out.below hb3)
  have b3 := below_step b2 hb3
  clear b2 hb3
  go_wp2_with fail
  refine (rfmtStat_any v s r _ (by omega) v0 v1 s0 s1).mono ?_
  rintro e w4 ⟨rfl, hb4⟩
  rw [← HY.out]
  have E4 := Lib.hid (E3.out.below hb4)
  have b4 := below_step b3 hb4
  clear b3 hb4
  go_wp2_with fail
  refine (awake2_any _ p q m E4.out).mono ?_
  rintro e w5 ⟨rfl, hb5⟩
  go_wp2_with fail
  go_ret
  exact ⟨rfl, below_step b4 hb5⟩
theorem verN_i64 (l : List UInt8) : -9223372036854775808 ≤ verN l ∧ verN l ≤ 9223372036854775807 := by have := verN_bd l; omega
set_option maxHeartbeats 1600000 in
theorem startlineBack_walk (s : ByteArray) (w : World) (_ : s.size ≤ 9223372036854775807) (hT : PowTab w) (hS : SentOf w) (hM : MaxOf w) :
    Calls Tryd.prog 13 #[.string s] w fun e w' => e = .returned (.bool true) ∧ Below w.heap.size w w' := by
  obtain ⟨p, q, m, hE⟩ := startEnv hS hM
  have HE := Lib.hid hE
  have HT := Lib.hid hT
  clear hS hM hE hT
  by_cases hl : 3000 < (s.size : Int)
  · go_enter Tryd.func13, Tryd.ntmps13
    go_wp2_with fail
    go_ret
    exact ⟨rfl, Below.refl _ _⟩
  obtain ⟨x1, x2, n, e, hv, hr⟩ := req_split (bs s)
  obtain ⟨n', u, y1, f, hv', hr'⟩ := stat_split (bs s)
  have HV := Lib.hid hv
  have HV' := Lib.hid hv'
  clear hv hv'
  by_cases c0 : e = 0
  · subst c0
    have hz := (reqL_inv hr).1
    have hf : f ≠ 0 := fun h => by subst h; exact not_both hr hr'
    have kf : (f == 0) = false := beq_eq_false_iff_ne.2 hf
    have kf' : (f != 0) = true := bne_iff_ne.2 hf
    obtain ⟨hlen, q2, p2, q3, hp, hq, _, _, _, _, hn⟩ := reqL_inv hr
    have nb := verN_bd q2
    rw [hn] at nb
    have z1 := cutB_len 32 (bs s)
    have z2 := cutB_len 32 p2
    rw [hp, bs_length] at z1
    rw [hq] at z2
    simp only [bs_length] at z1 z2
    have zx1 : x1.size ≤ 3000 := by omega
    have zx2 : x2.size ≤ 3000 := by omega
    have nb0 : -9223372036854775808 ≤ n := by omega
    have nb1 : n ≤ 9223372036854775807 := by omega
    have HF : Hid ((⟨(reqF (bs x1) (bs x2) n).toArray⟩ : ByteArray) = s) := Lib.hid (by rw [(req_back hr).2])
    clear hr hr' hf hz hn hp hq z1 z2 nb hlen
    go_enter Tryd.func13, Tryd.ntmps13
    go_wp2_with fail
    refine (parseReq_any s _ p q m HE.out (by omega)).mono ?_
    rintro e1 w1 ⟨rfl, hb1⟩
    rw [HV.out]
    have E1 := Lib.hid (HE.out.below hb1)
    have T1 := Lib.hid (HT.out.below hb1)
    go_wp2_with fail
    refine (parseStat_any s _ p q m E1.out (by omega)).mono ?_
    rintro e2 w2 ⟨rfl, hb2⟩
    rw [HV'.out]
    have E2 := Lib.hid (E1.out.below hb2)
    have T2 := Lib.hid (T1.out.below hb2)
    have b2 := below_step hb1 hb2
    clear hb1 hb2
    go_wp2_with fail
    refine (fmtReq_any x1 x2 n _ p q m E2.out T2.out (by omega) (by omega) nb0 nb1).mono ?_
    rintro e3 w3 ⟨rfl, hb3⟩
    rw [HF.out]
    have E3 := Lib.hid (E2.out.below hb3)
    have b3 := below_step b2 hb3
    clear b2 hb3
    go_wp2_with fail
    refine (awake2_any _ p q m E3.out).mono ?_
    rintro e4 w4 ⟨rfl, hb4⟩
    go_wp2_with fail
    go_ret
    exact ⟨rfl, below_step b3 hb4⟩
  · have ke : (e == 0) = false := beq_eq_false_iff_ne.2 c0
    have ke' : (e != 0) = true := bne_iff_ne.2 c0
    by_cases d0 : f = 0
    · subst d0
      obtain ⟨hlen, p1, p2, q1, hp, hq, hs, _, _, hn, hm⟩ := statL_inv hr'
      have nb := verN_bd p1
      rw [hn] at nb
      have sb := statN_itoa hs
      rw [hm] at sb
      have z1 := cutB_len 32 (bs s)
      have z2 := cutB_len 32 p2
      rw [hp, bs_length] at z1
      rw [hq] at z2
      simp only [bs_length] at z1 z2
      have zy1 : y1.size ≤ 3000 := by omega
      have nb0 : -9223372036854775808 ≤ n' := by omega
      have nb1 : n' ≤ 9223372036854775807 := by omega
      have sb0 : -9223372036854775808 ≤ u := by omega
      have sb1 : u ≤ 9223372036854775807 := by omega
      have HF : Hid ((⟨(statF n' u (bs y1)).toArray⟩ : ByteArray) = s) := Lib.hid (by rw [(stat_back hr').2])
      clear hr hr' hs hn hm hp hq z1 z2 nb sb hlen c0
      go_enter Tryd.func13, Tryd.ntmps13
      go_wp2_with fail
      refine (parseReq_any s _ p q m HE.out (by omega)).mono ?_
      rintro e1 w1 ⟨rfl, hb1⟩
      rw [HV.out]
      have E1 := Lib.hid (HE.out.below hb1)
      have T1 := Lib.hid (HT.out.below hb1)
      go_wp2_with fail
      refine (parseStat_any s _ p q m E1.out (by omega)).mono ?_
      rintro e2 w2 ⟨rfl, hb2⟩
      rw [HV'.out]
      have E2 := Lib.hid (E1.out.below hb2)
      have T2 := Lib.hid (T1.out.below hb2)
      have b2 := below_step hb1 hb2
      clear hb1 hb2
      go_wp2_with fail
      refine (fmtStat_any n' u y1 _ p q m E2.out T2.out (by omega) nb0 nb1 sb0 sb1).mono ?_
      rintro e3 w3 ⟨rfl, hb3⟩
      rw [HF.out]
      have E3 := Lib.hid (E2.out.below hb3)
      have b3 := below_step b2 hb3
      clear b2 hb3
      go_wp2_with fail
      refine (awake2_any _ p q m E3.out).mono ?_
      rintro e4 w4 ⟨rfl, hb4⟩
      go_wp2_with fail
      go_ret
      exact ⟨rfl, below_step b3 hb4⟩
    · have kf : (f == 0) = false := beq_eq_false_iff_ne.2 d0
      have kf' : (f != 0) = true := bne_iff_ne.2 d0
      clear hr hr' c0 d0
      go_enter Tryd.func13, Tryd.ntmps13
      go_wp2_with fail
      refine (parseReq_any s _ p q m HE.out (by omega)).mono ?_
      rintro e1 w1 ⟨rfl, hb1⟩
      rw [HV.out]
      have E1 := Lib.hid (HE.out.below hb1)
      have T1 := Lib.hid (HT.out.below hb1)
      go_wp2_with fail
      refine (parseStat_any s _ p q m E1.out (by omega)).mono ?_
      rintro e2 w2 ⟨rfl, hb2⟩
      rw [HV'.out]
      have E2 := Lib.hid (E1.out.below hb2)
      have T2 := Lib.hid (T1.out.below hb2)
      have b2 := below_step hb1 hb2
      clear hb1 hb2
      go_wp2_with fail
      refine (awake2_any _ p q m E2.out).mono ?_
      rintro e4 w4 ⟨rfl, hb4⟩
      go_wp2_with fail
      go_ret
      exact ⟨rfl, below_step b2 hb4⟩
end Go.Proofs.YthdbgiklniiglaaDoor
