/- The walks of layer 2 that write lines, of the program and of the reference. -/
import Derived.Test.YthdbgiklniiglaaDoorStartW4
import Derived.Test.YthdbgiklniiglaaDoorStartR
import Derived.Test.YthdbgiklniiglaaDoorAsciiW4
namespace Go.Proofs.YthdbgiklniiglaaDoor
open Go.RowKit

theorem itoa_any (n : Int) (w : World) (h0 : -9223372036854775808 ≤ n) (h1 : n ≤ 9223372036854775807) (htab : PowTab w) :
    Calls Tryd.prog 56 #[.int .i64 n] w fun e w' => e = .returned (.string ⟨(Lib.itoa n).toArray⟩) ∧ Below w.heap.size w w' :=
  (Tryd.strconv_Itoa n h0 h1 w htab).mono fun _ _ ⟨he, _, _, hw⟩ => ⟨he, by rw [hw]; exact Lib.below_grow _ _ (Nat.le_refl _) _ _⟩
theorem req_split (l : List UInt8) : ∃ x1 x2 n e, reqV (reqL l) = .tuple #[.string x1, .string x2, .int .i64 n, .int .i64 e] ∧ reqL l = (bs x1, bs x2, n, e) := ⟨⟨(reqL l).1.toArray⟩, ⟨(reqL l).2.1.toArray⟩, _, _, rfl, rfl⟩
theorem stat_split (l : List UInt8) : ∃ n e x r, statV (statL l) = .tuple #[.int .i64 n, .int .i64 e, .string x, .int .i64 r] ∧ statL l = (n, e, bs x, r) := ⟨_, _, ⟨(statL l).2.2.1.toArray⟩, _, rfl, rfl⟩
theorem req_text (a b : ByteArray) (v : Int) : bs (a ++ ⟨#[32]⟩ ++ b ++ ⟨#[32, 72, 84, 84, 80, 47, 49, 46]⟩ ++ ⟨(Lib.itoa v).toArray⟩) = reqLine (bs a) (bs b) v := by
  simp [bs, reqLine]
theorem stat_text (a : ByteArray) (v s : Int) : bs ((⟨#[72, 84, 84, 80, 47, 49, 46]⟩ : ByteArray) ++ ⟨(Lib.itoa v).toArray⟩ ++ ⟨#[32]⟩ ++ ⟨(Lib.itoa s).toArray⟩ ++ ⟨#[32]⟩ ++ a) = statLine v s (bs a) := by
  simp [bs, statLine]
theorem req_len (a b : ByteArray) (v : Int) : (reqLine (bs a) (bs b) v).length = a.size + b.size + (Lib.itoa v).length + 9 := by
  unfold reqLine
  simp only [List.length_append, bs_length, List.length_cons, List.length_nil]; omega
theorem stat_len (a : ByteArray) (v s : Int) : (statLine v s (bs a)).length = a.size + (Lib.itoa v).length + (Lib.itoa s).length + 9 := by
  unfold statLine
  simp only [List.length_append, bs_length, List.length_cons, List.length_nil]; omega
theorem str_ne {a b : ByteArray} (h : ¬ bs a = bs b) : ¬ a.toList = b.toList := by rw [Lib.toList_data, Lib.toList_data]; exact h
theorem str_eq {a b : ByteArray} (h : bs a = bs b) : a = b := ByteArray.ext (Array.toList_inj.1 h)
set_option maxHeartbeats 1600000 in
theorem fmtReq_any (a b : ByteArray) (v : Int) (w : World) (p q : Addr) (m : Int) (hE : StartEnv w p q m) (hT : PowTab w) (ha : a.size ≤ 10000000) (hb : b.size ≤ 10000000) (h0 : -9223372036854775808 ≤ v) (h1 : v ≤ 9223372036854775807) :
    Calls Tryd.prog 36 #[.string a, .string b, .int .i64 v] w fun e w' => e = .returned (.string ⟨(reqF (bs a) (bs b) v).toArray⟩) ∧ Below w.heap.size w w' := by
  have HE := Lib.hid hE
  have HT := Lib.hid hT
  clear hE hT
  have hz : (Lib.itoa v).length ≤ 21 := Lib.itoa_length_le _ h0 h1
  obtain ⟨x1, x2, n, e, hv, hr⟩ := req_split (reqLine (bs a) (bs b) v)
  have HV := Lib.hid hv
  clear hv
  by_cases hall : reqL (reqLine (bs a) (bs b) v) = (bs a, bs b, v, 0)
  · have HF : Hid (reqF (bs a) (bs b) v = reqLine (bs a) (bs b) v) := Lib.hid (by unfold reqF; rw [if_pos hall])
    rw [hr] at hall
    simp only [Prod.mk.injEq] at hall
    obtain ⟨e1, e2, rfl, rfl⟩ := hall
    obtain rfl := str_eq e1
    obtain rfl := str_eq e2
    clear hr e1 e2
    go_enter Tryd.func36, Tryd.ntmps36
    go_wp2_with fail
    refine (itoa_any n _ h0 h1 HT.out).mono ?_
    rintro e1 w1 ⟨rfl, hb1⟩
    go_wp2_with fail
    generalize hX : x1 ++ ⟨#[32]⟩ ++ x2 ++ ⟨#[32, 72, 84, 84, 80, 47, 49, 46]⟩ ++ ⟨(Lib.itoa n).toArray⟩ = X
    have HX : Hid (bs X = reqLine (bs x1) (bs x2) n) := Lib.hid (by rw [← hX]; exact req_text x1 x2 n)
    have zX : X.size ≤ 100000000 := by rw [← bs_length, HX.out, req_len x1 x2 n]; omega
    clear hX
    refine (parseReq_any X _ p q m (HE.out.below hb1) zX).mono ?_
    rintro e2 w2 ⟨rfl, hb2⟩
    rw [HX.out, HV.out]
    have b2 := below_step hb1 hb2
    clear hb1 hb2
    go_wp2_with fail
    go_ret
    exact ⟨by rw [HF.out, ← HX.out, ← of_bs (s := X) rfl]; rfl, b2⟩
  · have HF : Hid (reqF (bs a) (bs b) v = []) := Lib.hid (by unfold reqF; rw [if_neg hall])
    by_cases c0 : e = 0
    · subst c0
      by_cases c1 : bs x1 = bs a
      · obtain rfl := str_eq c1
        by_cases c2 : bs x2 = bs b
        · obtain rfl := str_eq c2
          have c3 : (n != v) = true := bne_iff_ne.2 fun e => hall (by rw [hr, e])
          clear hall hr c1 c2
          go_enter Tryd.func36, Tryd.ntmps36
          go_wp2_with fail
          refine (itoa_any v _ h0 h1 HT.out).mono ?_
          rintro e1 w1 ⟨rfl, hb1⟩
          go_wp2_with fail
          generalize hX : x1 ++ ⟨#[32]⟩ ++ x2 ++ ⟨#[32, 72, 84, 84, 80, 47, 49, 46]⟩ ++ ⟨(Lib.itoa v).toArray⟩ = X
          have HX : Hid (bs X = reqLine (bs x1) (bs x2) v) := Lib.hid (by rw [← hX]; exact req_text x1 x2 v)
          have zX : X.size ≤ 100000000 := by rw [← bs_length, HX.out, req_len x1 x2 v]; omega
          clear hX
          refine (parseReq_any X _ p q m (HE.out.below hb1) zX).mono ?_
          rintro e2 w2 ⟨rfl, hb2⟩
          rw [HX.out, HV.out]
          have b2 := below_step hb1 hb2
          clear hb1 hb2
          go_wp2_with fail
          go_ret
          exact ⟨by rw [HF.out]; rfl, b2⟩
        · have k2 := str_ne c2
          clear hall hr c1 c2
          go_enter Tryd.func36, Tryd.ntmps36
          go_wp2_with fail
          refine (itoa_any v _ h0 h1 HT.out).mono ?_
          rintro e1 w1 ⟨rfl, hb1⟩
          go_wp2_with fail
          generalize hX : x1 ++ ⟨#[32]⟩ ++ b ++ ⟨#[32, 72, 84, 84, 80, 47, 49, 46]⟩ ++ ⟨(Lib.itoa v).toArray⟩ = X
          have HX : Hid (bs X = reqLine (bs x1) (bs b) v) := Lib.hid (by rw [← hX]; exact req_text x1 b v)
          have zX : X.size ≤ 100000000 := by rw [← bs_length, HX.out, req_len x1 b v]; omega
          clear hX
          refine (parseReq_any X _ p q m (HE.out.below hb1) zX).mono ?_
          rintro e2 w2 ⟨rfl, hb2⟩
          rw [HX.out, HV.out]
          have b2 := below_step hb1 hb2
          clear hb1 hb2
          go_wp2_with fail
          go_ret
          exact ⟨by rw [HF.out]; rfl, b2⟩
      · have k1 := str_ne c1
        clear hall hr c1
        go_enter Tryd.func36, Tryd.ntmps36
        go_wp2_with fail
        refine (itoa_any v _ h0 h1 HT.out).mono ?_
        rintro e1 w1 ⟨rfl, hb1⟩
        go_wp2_with fail
        generalize hX : a ++ ⟨#[32]⟩ ++ b ++ ⟨#[32, 72, 84, 84, 80, 47, 49, 46]⟩ ++ ⟨(Lib.itoa v).toArray⟩ = X
        have HX : Hid (bs X = reqLine (bs a) (bs b) v) := Lib.hid (by rw [← hX]; exact req_text a b v)
        have zX : X.size ≤ 100000000 := by rw [← bs_length, HX.out, req_len a b v]; omega
        clear hX
        refine (parseReq_any X _ p q m (HE.out.below hb1) zX).mono ?_
        rintro e2 w2 ⟨rfl, hb2⟩
        rw [HX.out, HV.out]
        have b2 := below_step hb1 hb2
        clear hb1 hb2
        go_wp2_with fail
        go_ret
        exact ⟨by rw [HF.out]; rfl, b2⟩
    · have k0 : (e != 0) = true := bne_iff_ne.2 c0
      clear hall hr c0
      go_enter Tryd.func36, Tryd.ntmps36
      go_wp2_with fail
      refine (itoa_any v _ h0 h1 HT.out).mono ?_
      rintro e1 w1 ⟨rfl, hb1⟩
      go_wp2_with fail
      generalize hX : a ++ ⟨#[32]⟩ ++ b ++ ⟨#[32, 72, 84, 84, 80, 47, 49, 46]⟩ ++ ⟨(Lib.itoa v).toArray⟩ = X
      have HX : Hid (bs X = reqLine (bs a) (bs b) v) := Lib.hid (by rw [← hX]; exact req_text a b v)
      have zX : X.size ≤ 100000000 := by rw [← bs_length, HX.out, req_len a b v]; omega
      clear hX
      refine (parseReq_any X _ p q m (HE.out.below hb1) zX).mono ?_
      rintro e2 w2 ⟨rfl, hb2⟩
      rw [HX.out, HV.out]
      have b2 := below_step hb1 hb2
      clear hb1 hb2
      go_wp2_with fail
      go_ret
      exact ⟨by rw [HF.out]; rfl, b2⟩
set_option maxHeartbeats 1600000 in
theorem fmtStat_any (v s : Int) (a : ByteArray) (w : World) (p q : Addr) (m : Int) (hE : StartEnv w p q m) (hT : PowTab w) (ha : a.size ≤ 10000000) (h0 : -9223372036854775808 ≤ v) (h1 : v ≤ 9223372036854775807) (g0 : -9223372036854775808 ≤ s) (g1 : s ≤ 9223372036854775807) :
    Calls Tryd.prog 38 #[.int .i64 v, .int .i64 s, .string a] w fun e w' => e = .returned (.string ⟨(statF v s (bs a)).toArray⟩) ∧ Below w.heap.size w w' := by
  have HE := Lib.hid hE
  have HT := Lib.hid hT
  clear hE hT
  have hz : (Lib.itoa v).length ≤ 21 := Lib.itoa_length_le _ h0 h1
  have hy : (Lib.itoa s).length ≤ 21 := Lib.itoa_length_le _ g0 g1
  obtain ⟨n, u, x1, e, hv, hr⟩ := stat_split (statLine v s (bs a))
  have HV := Lib.hid hv
  clear hv
  by_cases hall : statL (statLine v s (bs a)) = (v, s, bs a, 0)
  · have HF : Hid (statF v s (bs a) = statLine v s (bs a)) := Lib.hid (by unfold statF; rw [if_pos hall])
    rw [hr] at hall
    simp only [Prod.mk.injEq] at hall
    obtain ⟨rfl, rfl, e1, rfl⟩ := hall
    obtain rfl := str_eq e1
    clear hr e1
    go_enter Tryd.func38, Tryd.ntmps38
    go_wp2_with fail
    refine (itoa_any n _ h0 h1 HT.out).mono ?_
    rintro e1 w1 ⟨rfl, hb1⟩
    go_wp2_with fail
    refine (itoa_any u _ g0 g1 (HT.out.below hb1)).mono ?_
    rintro e2 w2 ⟨rfl, hb2⟩
    have b2 := below_step hb1 hb2
    clear hb1 hb2
    go_wp2_with fail
    generalize hX : (⟨#[72, 84, 84, 80, 47, 49, 46]⟩ : ByteArray) ++ ⟨(Lib.itoa n).toArray⟩ ++ ⟨#[32]⟩ ++ ⟨(Lib.itoa u).toArray⟩ ++ ⟨#[32]⟩ ++ x1 = X
    have HX : Hid (bs X = statLine n u (bs x1)) := Lib.hid (by rw [← hX]; exact stat_text x1 n u)
    have zX : X.size ≤ 100000000 := by rw [← bs_length, HX.out, stat_len x1 n u]; omega
    clear hX
    refine (parseStat_any X _ p q m (HE.out.below b2) zX).mono ?_
    rintro e3 w3 ⟨rfl, hb3⟩
    rw [HX.out, HV.out]
    have b3 := below_step b2 hb3
    clear b2 hb3
    go_wp2_with fail
    go_ret
    exact ⟨by rw [HF.out, ← HX.out, ← of_bs (s := X) rfl]; rfl, b3⟩
  · have HF : Hid (statF v s (bs a) = []) := Lib.hid (by unfold statF; rw [if_neg hall])
    by_cases c0 : e = 0
    · subst c0
      by_cases c1 : n = v
      · subst c1
        by_cases c2 : u = s
        · subst c2
          have k3 : (x1.toList == a.toList) = false := beq_eq_false_iff_ne.2 (str_ne (a := x1) (b := a) (fun e => hall (by rw [hr, e])))
          clear hall hr
          go_enter Tryd.func38, Tryd.ntmps38
          go_wp2_with fail
          refine (itoa_any n _ h0 h1 HT.out).mono ?_
          rintro e1 w1 ⟨rfl, hb1⟩
          go_wp2_with fail
          refine (itoa_any u _ g0 g1 (HT.out.below hb1)).mono ?_
          rintro e2 w2 ⟨rfl, hb2⟩
          have b2 := below_step hb1 hb2
          clear hb1 hb2
          go_wp2_with fail
          generalize hX : (⟨#[72, 84, 84, 80, 47, 49, 46]⟩ : ByteArray) ++ ⟨(Lib.itoa n).toArray⟩ ++ ⟨#[32]⟩ ++ ⟨(Lib.itoa u).toArray⟩ ++ ⟨#[32]⟩ ++ a = X
          have HX : Hid (bs X = statLine n u (bs a)) := Lib.hid (by rw [← hX]; exact stat_text a n u)
          have zX : X.size ≤ 100000000 := by rw [← bs_length, HX.out, stat_len a n u]; omega
          clear hX
          refine (parseStat_any X _ p q m (HE.out.below b2) zX).mono ?_
          rintro e3 w3 ⟨rfl, hb3⟩
          rw [HX.out, HV.out]
          have b3 := below_step b2 hb3
          clear b2 hb3
          go_wp2_with fail
          go_ret
          exact ⟨by rw [HF.out]; rfl, b3⟩
        · have k2 : (u != s) = true := bne_iff_ne.2 c2
          clear hall hr c2
          go_enter Tryd.func38, Tryd.ntmps38
          go_wp2_with fail
          refine (itoa_any n _ h0 h1 HT.out).mono ?_
          rintro e1 w1 ⟨rfl, hb1⟩
          go_wp2_with fail
          refine (itoa_any s _ g0 g1 (HT.out.below hb1)).mono ?_
          rintro e2 w2 ⟨rfl, hb2⟩
          have b2 := below_step hb1 hb2
          clear hb1 hb2
          go_wp2_with fail
          generalize hX : (⟨#[72, 84, 84, 80, 47, 49, 46]⟩ : ByteArray) ++ ⟨(Lib.itoa n).toArray⟩ ++ ⟨#[32]⟩ ++ ⟨(Lib.itoa s).toArray⟩ ++ ⟨#[32]⟩ ++ a = X
          have HX : Hid (bs X = statLine n s (bs a)) := Lib.hid (by rw [← hX]; exact stat_text a n s)
          have zX : X.size ≤ 100000000 := by rw [← bs_length, HX.out, stat_len a n s]; omega
          clear hX
          refine (parseStat_any X _ p q m (HE.out.below b2) zX).mono ?_
          rintro e3 w3 ⟨rfl, hb3⟩
          rw [HX.out, HV.out]
          have b3 := below_step b2 hb3
          clear b2 hb3
          go_wp2_with fail
          go_ret
          exact ⟨by rw [HF.out]; rfl, b3⟩
      · have k1 : (n != v) = true := bne_iff_ne.2 c1
        clear hall hr c1
        go_enter Tryd.func38, Tryd.ntmps38
        go_wp2_with fail
        refine (itoa_any v _ h0 h1 HT.out).mono ?_
        rintro e1 w1 ⟨rfl, hb1⟩
        go_wp2_with fail
        refine (itoa_any s _ g0 g1 (HT.out.below hb1)).mono ?_
        rintro e2 w2 ⟨rfl, hb2⟩
        have b2 := below_step hb1 hb2
        clear hb1 hb2
        go_wp2_with fail
        generalize hX : (⟨#[72, 84, 84, 80, 47, 49, 46]⟩ : ByteArray) ++ ⟨(Lib.itoa v).toArray⟩ ++ ⟨#[32]⟩ ++ ⟨(Lib.itoa s).toArray⟩ ++ ⟨#[32]⟩ ++ a = X
        have HX : Hid (bs X = statLine v s (bs a)) := Lib.hid (by rw [← hX]; exact stat_text a v s)
        have zX : X.size ≤ 100000000 := by rw [← bs_length, HX.out, stat_len a v s]; omega
        clear hX
        refine (parseStat_any X _ p q m (HE.out.below b2) zX).mono ?_
        rintro e3 w3 ⟨rfl, hb3⟩
        rw [HX.out, HV.out]
        have b3 := below_step b2 hb3
        clear b2 hb3
        go_wp2_with fail
        go_ret
        exact ⟨by rw [HF.out]; rfl, b3⟩
    · have k0 : (e != 0) = true := bne_iff_ne.2 c0
      clear hall hr c0
      go_enter Tryd.func38, Tryd.ntmps38
      go_wp2_with fail
      refine (itoa_any v _ h0 h1 HT.out).mono ?_
      rintro e1 w1 ⟨rfl, hb1⟩
      go_wp2_with fail
      refine (itoa_any s _ g0 g1 (HT.out.below hb1)).mono ?_
      rintro e2 w2 ⟨rfl, hb2⟩
      have b2 := below_step hb1 hb2
      clear hb1 hb2
      go_wp2_with fail
      generalize hX : (⟨#[72, 84, 84, 80, 47, 49, 46]⟩ : ByteArray) ++ ⟨(Lib.itoa v).toArray⟩ ++ ⟨#[32]⟩ ++ ⟨(Lib.itoa s).toArray⟩ ++ ⟨#[32]⟩ ++ a = X
      have HX : Hid (bs X = statLine v s (bs a)) := Lib.hid (by rw [← hX]; exact stat_text a v s)
      have zX : X.size ≤ 100000000 := by rw [← bs_length, HX.out, stat_len a v s]; omega
      clear hX
      refine (parseStat_any X _ p q m (HE.out.below b2) zX).mono ?_
      rintro e3 w3 ⟨rfl, hb3⟩
      rw [HX.out, HV.out]
      have b3 := below_step b2 hb3
      clear b2 hb3
      go_wp2_with fail
      go_ret
      exact ⟨by rw [HF.out]; rfl, b3⟩
set_option maxHeartbeats 1600000 in
theorem rfmtReq_any (a b : ByteArray) (v : Int) (w : World)  (ha : a.size ≤ 10000000) (hb : b.size ≤ 10000000) (h0 : -9223372036854775808 ≤ v) (h1 : v ≤ 9223372036854775807) :
    Calls Tryd.prog 37 #[.string a, .string b, .int .i64 v] w fun e w' => e = .returned (.string ⟨(reqF (bs a) (bs b) v).toArray⟩) ∧ Below w.heap.size w w' := by
  by_cases hbad : v < 0 ∨ 1 < v ∨ 2000 < a.size ∨ 2000 < b.size
  · have HF : Hid (reqF (bs a) (bs b) v = []) := Lib.hid (reqF_no (by rw [bs_length, bs_length]; exact hbad))
    have hcase : v < 0 ∨ ¬ v < 0 ∧ 1 < v ∨ ¬ v < 0 ∧ ¬ 1 < v ∧ 2000 < (a.size : Int) ∨ ¬ v < 0 ∧ ¬ 1 < v ∧ ¬ 2000 < (a.size : Int) ∧ 2000 < (b.size : Int) := by omega
    clear hbad
    rcases hcase with k1 | ⟨k1, k2⟩ | ⟨k1, k2, k3⟩ | ⟨k1, k2, k3, k4⟩
    all_goals
      go_enter Tryd.func37, Tryd.ntmps37
      go_wp2_with fail
      go_ret
      exact ⟨by rw [HF.out]; rfl, Below.refl _ _⟩
  have k1 : ¬ v < 0 := by omega
  have k2 : ¬ 1 < v := by omega
  have k3 : ¬ 2000 < (a.size : Int) := by omega
  have k4 : ¬ 2000 < (b.size : Int) := by omega
  clear hbad
  have hz : (Lib.itoa v).length ≤ 21 := Lib.itoa_length_le _ h0 h1
  obtain ⟨x1, x2, n, e, hv, hr⟩ := req_split (reqLine (bs a) (bs b) v)
  have HV := Lib.hid hv
  clear hv
  by_cases hall : reqL (reqLine (bs a) (bs b) v) = (bs a, bs b, v, 0)
  · have HF : Hid (reqF (bs a) (bs b) v = reqLine (bs a) (bs b) v) := Lib.hid (by unfold reqF; rw [if_pos hall])
    rw [hr] at hall
    simp only [Prod.mk.injEq] at hall
    obtain ⟨e1, e2, rfl, rfl⟩ := hall
    obtain rfl := str_eq e1
    obtain rfl := str_eq e2
    clear hr e1 e2
    go_enter Tryd.func37, Tryd.ntmps37
    go_wp2_with fail
    refine (rdecimal_any n _ h0 h1).mono ?_
    rintro e1 w1 ⟨rfl, hb1⟩
    go_wp2_with fail
    generalize hX : x1 ++ ⟨#[32]⟩ ++ x2 ++ ⟨#[32, 72, 84, 84, 80, 47, 49, 46]⟩ ++ ⟨(Lib.itoa n).toArray⟩ = X
    have HX : Hid (bs X = reqLine (bs x1) (bs x2) n) := Lib.hid (by rw [← hX]; exact req_text x1 x2 n)
    have zX : X.size ≤ 100000000 := by rw [← bs_length, HX.out, req_len x1 x2 n]; omega
    clear hX
    refine (rparseReq_any X _ zX).mono ?_
    rintro e2 w2 ⟨rfl, hb2⟩
    rw [HX.out, HV.out]
    have b2 := below_step hb1 hb2
    clear hb1 hb2
    go_wp2_with fail
    go_ret
    exact ⟨by rw [HF.out, ← HX.out, ← of_bs (s := X) rfl]; rfl, b2⟩
  · have HF : Hid (reqF (bs a) (bs b) v = []) := Lib.hid (by unfold reqF; rw [if_neg hall])
    by_cases c0 : e = 0
    · subst c0
      by_cases c1 : bs x1 = bs a
      · obtain rfl := str_eq c1
        by_cases c2 : bs x2 = bs b
        · obtain rfl := str_eq c2
          have c3 : (n != v) = true := bne_iff_ne.2 fun e => hall (by rw [hr, e])
          clear hall hr c1 c2
          go_enter Tryd.func37, Tryd.ntmps37
          go_wp2_with fail
          refine (rdecimal_any v _ h0 h1).mono ?_
          rintro e1 w1 ⟨rfl, hb1⟩
          go_wp2_with fail
          generalize hX : x1 ++ ⟨#[32]⟩ ++ x2 ++ ⟨#[32, 72, 84, 84, 80, 47, 49, 46]⟩ ++ ⟨(Lib.itoa v).toArray⟩ = X
          have HX : Hid (bs X = reqLine (bs x1) (bs x2) v) := Lib.hid (by rw [← hX]; exact req_text x1 x2 v)
          have zX : X.size ≤ 100000000 := by rw [← bs_length, HX.out, req_len x1 x2 v]; omega
          clear hX
          refine (rparseReq_any X _ zX).mono ?_
          rintro e2 w2 ⟨rfl, hb2⟩
          rw [HX.out, HV.out]
          have b2 := below_step hb1 hb2
          clear hb1 hb2
          go_wp2_with fail
          go_ret
          exact ⟨by rw [HF.out]; rfl, b2⟩
        · have k2 := str_ne c2
          clear hall hr c1 c2
          go_enter Tryd.func37, Tryd.ntmps37
          go_wp2_with fail
          refine (rdecimal_any v _ h0 h1).mono ?_
          rintro e1 w1 ⟨rfl, hb1⟩
          go_wp2_with fail
          generalize hX : x1 ++ ⟨#[32]⟩ ++ b ++ ⟨#[32, 72, 84, 84, 80, 47, 49, 46]⟩ ++ ⟨(Lib.itoa v).toArray⟩ = X
          have HX : Hid (bs X = reqLine (bs x1) (bs b) v) := Lib.hid (by rw [← hX]; exact req_text x1 b v)
          have zX : X.size ≤ 100000000 := by rw [← bs_length, HX.out, req_len x1 b v]; omega
          clear hX
          refine (rparseReq_any X _ zX).mono ?_
          rintro e2 w2 ⟨rfl, hb2⟩
          rw [HX.out, HV.out]
          have b2 := below_step hb1 hb2
          clear hb1 hb2
          go_wp2_with fail
          go_ret
          exact ⟨by rw [HF.out]; rfl, b2⟩
      · have k1 := str_ne c1
        clear hall hr c1
        go_enter Tryd.func37, Tryd.ntmps37
        go_wp2_with fail
        refine (rdecimal_any v _ h0 h1).mono ?_
        rintro e1 w1 ⟨rfl, hb1⟩
        go_wp2_with fail
        generalize hX : a ++ ⟨#[32]⟩ ++ b ++ ⟨#[32, 72, 84, 84, 80, 47, 49, 46]⟩ ++ ⟨(Lib.itoa v).toArray⟩ = X
        have HX : Hid (bs X = reqLine (bs a) (bs b) v) := Lib.hid (by rw [← hX]; exact req_text a b v)
        have zX : X.size ≤ 100000000 := by rw [← bs_length, HX.out, req_len a b v]; omega
        clear hX
        refine (rparseReq_any X _ zX).mono ?_
        rintro e2 w2 ⟨rfl, hb2⟩
        rw [HX.out, HV.out]
        have b2 := below_step hb1 hb2
        clear hb1 hb2
        go_wp2_with fail
        go_ret
        exact ⟨by rw [HF.out]; rfl, b2⟩
    · have k0 : (e != 0) = true := bne_iff_ne.2 c0
      clear hall hr c0
      go_enter Tryd.func37, Tryd.ntmps37
      go_wp2_with fail
      refine (rdecimal_any v _ h0 h1).mono ?_
      rintro e1 w1 ⟨rfl, hb1⟩
      go_wp2_with fail
      generalize hX : a ++ ⟨#[32]⟩ ++ b ++ ⟨#[32, 72, 84, 84, 80, 47, 49, 46]⟩ ++ ⟨(Lib.itoa v).toArray⟩ = X
      have HX : Hid (bs X = reqLine (bs a) (bs b) v) := Lib.hid (by rw [← hX]; exact req_text a b v)
      have zX : X.size ≤ 100000000 := by rw [← bs_length, HX.out, req_len a b v]; omega
      clear hX
      refine (rparseReq_any X _ zX).mono ?_
      rintro e2 w2 ⟨rfl, hb2⟩
      rw [HX.out, HV.out]
      have b2 := below_step hb1 hb2
      clear hb1 hb2
      go_wp2_with fail
      go_ret
      exact ⟨by rw [HF.out]; rfl, b2⟩
set_option maxHeartbeats 1600000 in
theorem rfmtStat_any (v s : Int) (a : ByteArray) (w : World) (ha : a.size ≤ 10000000) (h0 : -9223372036854775808 ≤ v) (h1 : v ≤ 9223372036854775807) (g0 : -9223372036854775808 ≤ s) (g1 : s ≤ 9223372036854775807) :
    Calls Tryd.prog 39 #[.int .i64 v, .int .i64 s, .string a] w fun e w' => e = .returned (.string ⟨(statF v s (bs a)).toArray⟩) ∧ Below w.heap.size w w' := by
  by_cases hbad : v < 0 ∨ 1 < v ∨ s < 100 ∨ 599 < s ∨ 2000 < a.size
  · have HF : Hid (statF v s (bs a) = []) := Lib.hid (statF_no (by rw [bs_length]; exact hbad))
    have hcase : v < 0 ∨ ¬ v < 0 ∧ 1 < v ∨ ¬ v < 0 ∧ ¬ 1 < v ∧ s < 100 ∨ ¬ v < 0 ∧ ¬ 1 < v ∧ ¬ s < 100 ∧ 599 < s ∨ ¬ v < 0 ∧ ¬ 1 < v ∧ ¬ s < 100 ∧ ¬ 599 < s ∧ 2000 < (a.size : Int) := by omega
    clear hbad
    rcases hcase with k1 | ⟨k1, k2⟩ | ⟨k1, k2, k3⟩ | ⟨k1, k2, k3, k4⟩ | ⟨k1, k2, k3, k4, k5⟩
    all_goals
      go_enter Tryd.func39, Tryd.ntmps39
      go_wp2_with fail
      go_ret
      exact ⟨by rw [HF.out]; rfl, Below.refl _ _⟩
  have k1 : ¬ v < 0 := by omega
  have k2 : ¬ 1 < v := by omega
  have k3 : ¬ s < 100 := by omega
  have k4 : ¬ 599 < s := by omega
  have k5 : ¬ 2000 < (a.size : Int) := by omega
  have hin := statF_in (r := bs a) (v := v) (s := s) (by omega) (by omega) (by omega)
  clear hbad
  have hz : (Lib.itoa v).length ≤ 21 := Lib.itoa_length_le _ h0 h1
  have hy : (Lib.itoa s).length ≤ 21 := Lib.itoa_length_le _ g0 g1
  obtain ⟨n, u, x1, e, hv, hr⟩ := stat_split (statLine v s (bs a))
  have HV := Lib.hid hv
  rw [hr] at hin
  simp only at hin
  clear hv hr
  by_cases c0 : e = 0
  · subst c0
    rw [if_pos rfl] at hin
    have HF := Lib.hid hin
    clear hin
    go_enter Tryd.func39, Tryd.ntmps39
    go_wp2_with fail
    refine (rdecimal_any v _ h0 h1).mono ?_
    rintro e1 w1 ⟨rfl, hb1⟩
    go_wp2_with fail
    refine (rdecimal_any s _ g0 g1).mono ?_
    rintro e2 w2 ⟨rfl, hb2⟩
    have b2 := below_step hb1 hb2
    clear hb1 hb2
    go_wp2_with fail
    generalize hX : (⟨#[72, 84, 84, 80, 47, 49, 46]⟩ : ByteArray) ++ ⟨(Lib.itoa v).toArray⟩ ++ ⟨#[32]⟩ ++ ⟨(Lib.itoa s).toArray⟩ ++ ⟨#[32]⟩ ++ a = X
    have HX : Hid (bs X = statLine v s (bs a)) := Lib.hid (by rw [← hX]; exact stat_text a v s)
    have zX : X.size ≤ 100000000 := by rw [← bs_length, HX.out, stat_len a v s]; omega
    clear hX
    refine (rparseStat_any X _ zX).mono ?_
    rintro e3 w3 ⟨rfl, hb3⟩
    rw [HX.out, HV.out]
    have b3 := below_step b2 hb3
    clear b2 hb3
    go_wp2_with fail
    go_ret
    exact ⟨by rw [HF.out, ← HX.out, ← of_bs (s := X) rfl]; rfl, b3⟩
  · have k0 : (e != 0) = true := bne_iff_ne.2 c0
    rw [if_neg c0] at hin
    have HF := Lib.hid hin
    clear hin c0
    go_enter Tryd.func39, Tryd.ntmps39
    go_wp2_with fail
    refine (rdecimal_any v _ h0 h1).mono ?_
    rintro e1 w1 ⟨rfl, hb1⟩
    go_wp2_with fail
    refine (rdecimal_any s _ g0 g1).mono ?_
    rintro e2 w2 ⟨rfl, hb2⟩
    have b2 := below_step hb1 hb2
    clear hb1 hb2
    go_wp2_with fail
    generalize hX : (⟨#[72, 84, 84, 80, 47, 49, 46]⟩ : ByteArray) ++ ⟨(Lib.itoa v).toArray⟩ ++ ⟨#[32]⟩ ++ ⟨(Lib.itoa s).toArray⟩ ++ ⟨#[32]⟩ ++ a = X
    have HX : Hid (bs X = statLine v s (bs a)) := Lib.hid (by rw [← hX]; exact stat_text a v s)
    have zX : X.size ≤ 100000000 := by rw [← bs_length, HX.out, stat_len a v s]; omega
    clear hX
    refine (rparseStat_any X _ zX).mono ?_
    rintro e3 w3 ⟨rfl, hb3⟩
    rw [HX.out, HV.out]
    have b3 := below_step b2 hb3
    clear b2 hb3
    go_wp2_with fail
    go_ret
    exact ⟨by rw [HF.out]; rfl, b3⟩
end Go.Proofs.YthdbgiklniiglaaDoor
