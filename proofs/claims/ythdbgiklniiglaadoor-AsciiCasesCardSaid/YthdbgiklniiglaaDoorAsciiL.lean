/- The walks of the statements on layer 1 and of their sanity check: each returns true. -/
import Derived.Test.YthdbgiklniiglaaDoorAsciiQ
import Derived.Test.YthdbgiklniiglaaDoorAsciiW4
import Derived.OpenShut
namespace Go.Proofs.YthdbgiklniiglaaDoor
open Go.RowKit

theorem awake_unq : unqV (unquoteL (bs ⟨#[34, 97, 92, 34, 98, 34]⟩)) = .tuple #[.string ⟨#[97, 34, 98]⟩, .bool true] := by
  have : unquoteL (bs ⟨#[34, 97, 92, 34, 98, 34]⟩) = some [97, 34, 98] := by decide +kernel
  rw [this]; rfl
theorem awake_tok : tokenB (bs ⟨#[103, 122, 105, 112]⟩) = true := by decide +kernel
theorem awake_dec : Lib.itoa (-7) = [45, 55] := by
  rw [show (-7 : Int) = -((7 : Nat) : Int) from rfl, Lib.itoa_neg 7 (by omega), Lib.decDigits_one (by omega)]; rfl
set_option maxHeartbeats 400000 in
theorem awake_any (w : World) (htab : PowTab w) :
    Calls Tryd.prog 23 #[] w fun e w' => e = .returned (.bool true) ∧ Below w.heap.size w w' := by
  have H1 := Lib.hid awake_unq
  have H2 := Lib.hid awake_tok
  have H3 := Lib.hid awake_dec
  have HT := Lib.hid htab
  clear htab
  go_enter Tryd.func23, Tryd.ntmps23
  go_wp2_with fail
  refine (unquote_any _ _ (by decide)).mono ?_
  rintro e w1 ⟨rfl, hb1⟩
  rw [H1.out]
  go_wp2_with fail
  refine (token_any _ _ (by decide)).mono ?_
  rintro e w' ⟨rfl, rfl⟩
  rw [H2.out]
  go_wp2_with fail
  refine (decimal_any (-7) _ (by omega) (by omega) (HT.out.below hb1)).mono ?_
  rintro e w2 ⟨rfl, hb2⟩
  rw [H3.out]
  go_wp2_with fail
  go_ret
  exact ⟨rfl, hb1.trans (hb2.mono hb1.size)⟩
set_option maxHeartbeats 400000 in
theorem asciiTokens_walk (s : ByteArray) (w : World) (_ : s.size ≤ 9223372036854775807) (htab : PowTab w) :
    Calls Tryd.prog 4 #[.string s] w fun e w' => e = .returned (.bool true) ∧ Below w.heap.size w w' := by
  have HT := Lib.hid htab
  clear htab
  by_cases hl : 3000 < (s.size : Int)
  · go_enter Tryd.func4, Tryd.ntmps4
    go_wp2_with fail
    go_ret
    exact ⟨rfl, Below.refl _ _⟩
  · go_enter Tryd.func4, Tryd.ntmps4
    go_wp2_with fail
    refine (token_any _ _ (by omega)).mono ?_
    rintro e w' ⟨rfl, rfl⟩
    go_wp2_with fail
    refine (rtoken_any _ _ (by omega)).mono ?_
    rintro e w' ⟨rfl, rfl⟩
    generalize tokenB (bs s) = b1
    go_wp2_with fail
    refine (text_any _ _ (by omega)).mono ?_
    rintro e w' ⟨rfl, rfl⟩
    go_wp2_with fail
    refine (rtext_any _ _ (by omega)).mono ?_
    rintro e w' ⟨rfl, rfl⟩
    generalize textB (bs s) = b2
    go_wp2_with fail
    refine (awake_any _ HT.out).mono ?_
    rintro e w1 ⟨rfl, hb1⟩
    go_wp2_with fail
    go_ret
    exact ⟨rfl, hb1⟩
-- the other statements on layer 1
theorem numV_pair (l : List UInt8) : ∃ a b, numV l = .tuple #[.int .i64 a, .bool b] := by
  unfold numV
  cases numGo l 0 with
  | none => exact ⟨_, _, rfl⟩
  | some a => exact ⟨_, _, rfl⟩
theorem unqV_pair (o : Option (List UInt8)) : ∃ t b, unqV o = .tuple #[.string t, .bool b] := by
  cases o with
  | none => exact ⟨_, _, rfl⟩
  | some a => exact ⟨_, _, rfl⟩
set_option maxHeartbeats 400000 in
theorem asciiNumbers_walk (s : ByteArray) (n : Int) (w : World) (_ : s.size ≤ 9223372036854775807) (hn : (Lit.int .i64 n).wf = true) (htab : PowTab w) :
    Calls Tryd.prog 7 #[.string s, .int .i64 n] w fun e w' => e = .returned (.bool true) ∧ Below w.heap.size w w' := by
  have HT := Lib.hid htab
  have hnb := bounds_i64 hn
  clear htab hn
  by_cases hl : 3000 < (s.size : Int)
  · go_enter Tryd.func7, Tryd.ntmps7
    go_wp2_with fail
    go_ret
    exact ⟨rfl, Below.refl _ _⟩
  obtain ⟨a, b, hv⟩ := numV_pair (bs s)
  obtain ⟨ds, hds⟩ : ∃ ds, Lib.itoa n = ds := ⟨_, rfl⟩
  have HV := Lib.hid hv
  clear hv
  go_enter Tryd.func7, Tryd.ntmps7
  go_wp2_with fail
  refine (number_any s _ (by omega)).mono ?_
  rintro e w' ⟨rfl, rfl⟩
  rw [HV.out]
  go_wp2_with fail
  refine (rnumber_any s _ (by omega)).mono ?_
  rintro e w' ⟨rfl, rfl⟩
  rw [HV.out]
  go_wp2_with fail
  all_goals
    refine (decimal_any n _ (by omega) (by omega) HT.out).mono ?_
    rintro e w1 ⟨rfl, hb1⟩
    rw [hds]
    go_wp2_with fail
    refine (rdecimal_any n _ (by omega) (by omega)).mono ?_
    rintro e w2 ⟨rfl, hb2⟩
    rw [hds]
    have hb12 := hb1.trans (hb2.mono hb1.size)
    go_wp2_with fail
    refine (awake_any _ (HT.out.below hb12)).mono ?_
    rintro e w9 ⟨rfl, hb9⟩
    go_wp2_with fail
    go_ret
    exact ⟨rfl, (hb12).trans (hb9.mono (hb12).size)⟩
set_option maxHeartbeats 400000 in
theorem asciiQuotes_walk (s : ByteArray) (w : World) (_ : s.size ≤ 9223372036854775807) (htab : PowTab w) :
    Calls Tryd.prog 8 #[.string s] w fun e w' => e = .returned (.bool true) ∧ Below w.heap.size w w' := by
  have HT := Lib.hid htab
  clear htab
  by_cases hl : 3000 < (s.size : Int)
  · go_enter Tryd.func8, Tryd.ntmps8
    go_wp2_with fail
    go_ret
    exact ⟨rfl, Below.refl _ _⟩
  obtain ⟨ql, hql⟩ : ∃ ql, quoteL (bs s) = ql := ⟨_, rfl⟩
  obtain ⟨a, b, hv⟩ := unqV_pair (unquoteL (bs s))
  have HV := Lib.hid hv
  clear hv
  go_enter Tryd.func8, Tryd.ntmps8
  go_wp2_with fail
  refine (unquote_any s _ (by omega)).mono ?_
  rintro e w1 ⟨rfl, hb1⟩
  rw [HV.out]
  go_wp2_with fail
  refine (runquote_any s _ (by omega)).mono ?_
  rintro e w2 ⟨rfl, hb2⟩
  rw [HV.out]
  have hb12 := hb1.trans (hb2.mono hb1.size)
  clear hb1 hb2
  go_wp2_with fail
  all_goals
    refine (quote_any s _ (by omega)).mono ?_
    rintro e w3 ⟨rfl, hb3⟩
    have hb13 := hb12.trans (hb3.mono hb12.size)
    rw [hql]
    go_wp2_with fail
    refine (rquote_any s _ (by omega)).mono ?_
    rintro e w4 ⟨rfl, hb4⟩
    have hb14 := hb13.trans (hb4.mono hb13.size)
    rw [hql]
    go_wp2_with fail
    refine (awake_any _ (HT.out.below hb14)).mono ?_
    rintro e w9 ⟨rfl, hb9⟩
    go_wp2_with fail
    go_ret
    exact ⟨rfl, (hb14).trans (hb9.mono (hb14).size)⟩
theorem quoted_v (s : ByteArray) : unqV (unquoteL (bs ⟨(quoteL (bs s)).toArray⟩)) = if textB (bs s) then .tuple #[.string s, .bool true] else .tuple #[.string ⟨#[]⟩, .bool false] := by
  rw [bs_mk, unquote_quote]
  cases textB (bs s) with
  | false => rfl
  | true => simp only [if_true, unqV, bs, Lib.mk_data]
theorem quoteL_le (s : ByteArray) (h : s.size ≤ 3000) : (⟨(quoteL (bs s)).toArray⟩ : ByteArray).size ≤ 1000000 := by
  have h1 := escL_length_le (bs s)
  have h2 := bs_length s
  have h3 : (⟨(quoteL (bs s)).toArray⟩ : ByteArray).size = (quoteL (bs s)).length := rfl
  rw [h3]; simp [quoteL]; omega
set_option maxHeartbeats 400000 in
theorem asciiQuoted_walk (s : ByteArray) (w : World) (_ : s.size ≤ 9223372036854775807) (htab : PowTab w) :
    Calls Tryd.prog 9 #[.string s] w fun e w' => e = .returned (.bool true) ∧ Below w.heap.size w w' := by
  have HT := Lib.hid htab
  clear htab
  by_cases hl : 3000 < (s.size : Int)
  · go_enter Tryd.func9, Tryd.ntmps9
    go_wp2_with fail
    go_ret
    exact ⟨rfl, Below.refl _ _⟩
  have hv := quoted_v s
  have hqs := quoteL_le s (by omega)
  cases htb : textB (bs s)
  all_goals
    rw [htb] at hv
    have HV := Lib.hid hv
    have HQ := Lib.hid hqs
    have HX := Lib.hid htb
    clear hv hqs htb
    go_enter Tryd.func9, Tryd.ntmps9
    go_wp2_with fail
    refine (quote_any s _ (by omega)).mono ?_
    rintro e w1 ⟨rfl, hb1⟩
    go_wp2_with fail
    refine (unquote_any _ _ HQ.out).mono ?_
    rintro e w2 ⟨rfl, hb2⟩
    rw [HV.out]
    have hb12 := hb1.trans (hb2.mono hb1.size)
    go_wp2_with fail
    refine (text_any s _ (by omega)).mono ?_
    rintro e w' ⟨rfl, rfl⟩
    rw [HX.out]
    go_wp2_with fail
    refine (awake_any _ (HT.out.below hb12)).mono ?_
    rintro e w9 ⟨rfl, hb9⟩
    go_wp2_with fail
    go_ret
    exact ⟨rfl, (hb12).trans (hb9.mono (hb12).size)⟩
set_option maxRecDepth 100000 in
set_option maxHeartbeats 400000 in
theorem asciiDecimals_walk (n : Int) (w : World) (hn : (Lit.int .i64 n).wf = true) (htab : PowTab w) :
    Calls Tryd.prog 10 #[.int .i64 n] w fun e w' => e = .returned (.bool true) ∧ Below w.heap.size w w' := by
  have HT := Lib.hid htab
  have hnb := bounds_i64 hn
  have hlen : (⟨(Lib.itoa n).toArray⟩ : ByteArray).size ≤ 140737488355328 := by
    have := Lib.itoa_length_le n hnb.1 hnb.2
    show (Lib.itoa n).length ≤ _
    omega
  clear htab hn
  have HL := Lib.hid hlen
  clear hlen
  by_cases hneg : n < 0
  · have HV := Lib.hid (numV_itoa_neg n hneg)
    go_enter Tryd.func10, Tryd.ntmps10
    go_wp2_with fail
    refine (decimal_any n _ (by omega) (by omega) HT.out).mono ?_
    rintro e w1 ⟨rfl, hb1⟩
    go_wp2_with fail
    refine (number_any _ _ HL.out).mono ?_
    rintro e w' ⟨rfl, rfl⟩
    rw [bs_mk, HV.out]
    go_wp2_with fail
    refine (awake_any _ (HT.out.below hb1)).mono ?_
    rintro e w9 ⟨rfl, hb9⟩
    go_wp2_with fail
    go_ret
    exact ⟨rfl, (hb1).trans (hb9.mono (hb1).size)⟩
  · have hv := numV_itoa n hneg
    obtain ⟨mm, hmm⟩ : ∃ mm, min n 2147483647 = mm := ⟨_, rfl⟩
    rw [hmm] at hv
    have HV := Lib.hid hv
    clear hv
    go_enter Tryd.func10, Tryd.ntmps10
    go_wp2_with fail
    refine (decimal_any n _ (by omega) (by omega) HT.out).mono ?_
    rintro e w1 ⟨rfl, hb1⟩
    go_wp2_with fail
    refine (number_any _ _ HL.out).mono ?_
    rintro e w' ⟨rfl, rfl⟩
    rw [bs_mk, HV.out]
    generalize (Lib.itoa n) = it
    clear HL HV hnb
    go_wp2_with fail
    refine (awake_any _ (HT.out.below hb1)).mono ?_
    rintro e w9 ⟨rfl, hb9⟩
    go_wp2_with fail
    go_ret
    exact ⟨rfl, (hb1).trans (hb9.mono (hb1).size)⟩
set_option maxHeartbeats 800000 in
theorem asciiFolds_walk (a b c : ByteArray) (w : World) (_ : a.size ≤ 9223372036854775807) (_ : b.size ≤ 9223372036854775807) (_ : c.size ≤ 9223372036854775807) (htab : PowTab w) :
    Calls Tryd.prog 11 #[.string a, .string b, .string c] w fun e w' => e = .returned (.bool true) ∧ Below w.heap.size w w' := by
  have HT := Lib.hid htab
  clear htab
  by_cases ha : 1000 < (a.size : Int)
  · go_enter Tryd.func11, Tryd.ntmps11
    go_wp2_with fail
    go_ret
    exact ⟨rfl, Below.refl _ _⟩
  by_cases hb : 1000 < (b.size : Int)
  · go_enter Tryd.func11, Tryd.ntmps11
    go_wp2_with fail
    go_ret
    exact ⟨rfl, Below.refl _ _⟩
  by_cases hc : 1000 < (c.size : Int)
  · go_enter Tryd.func11, Tryd.ntmps11
    go_wp2_with fail
    go_ret
    exact ⟨rfl, Below.refl _ _⟩
  have ka : a.size ≤ 9223372036854775807 := by omega
  have kb : b.size ≤ 9223372036854775807 := by omega
  have kc : c.size ≤ 9223372036854775807 := by omega
  have kl : (⟨(lowL (bs a)).toArray⟩ : ByteArray).size ≤ 9223372036854775807 := by
    show (lowL (bs a)).length ≤ _
    rw [lowL_length, bs_length]; exact ka
  have KL := Lib.hid kl
  clear kl
  cases hab : foldB (bs a) (bs b) with
  | false =>
    have HAB := Lib.hid hab
    clear hab
    go_enter Tryd.func11, Tryd.ntmps11
    go_wp2_with fail
    refine (fold_any a b _ ka kb).mono ?_
    rintro e w1 ⟨rfl, b1⟩
    rw [HAB.out]
    have c1 := b1
    clear b1
    go_wp2_with fail
    refine (fold_any b a _ kb ka).mono ?_
    rintro e w2 ⟨rfl, b2⟩
    rw [foldB_symm, HAB.out]
    have c2 := c1.trans (b2.mono c1.size)
    clear b2
    go_wp2_with fail
    refine (fold_any a a _ ka ka).mono ?_
    rintro e w3 ⟨rfl, b3⟩
    rw [foldB_refl]
    have c3 := c2.trans (b3.mono c2.size)
    clear b3
    go_wp2_with fail
    refine (lower_any a _ ka).mono ?_
    rintro e w4 ⟨rfl, b4⟩
    have c4 := c3.trans (b4.mono c3.size)
    clear b4
    go_wp2_with fail
    refine (fold_any a _ _ ka KL.out).mono ?_
    rintro e w5 ⟨rfl, b5⟩
    rw [bs_mk, foldB_low]
    have c5 := c4.trans (b5.mono c4.size)
    clear b5
    go_wp2_with fail
    refine (fold_any a b _ ka kb).mono ?_
    rintro e w6 ⟨rfl, b6⟩
    rw [HAB.out]
    have c6 := c5.trans (b6.mono c5.size)
    clear b6
    go_wp2_with fail
    refine (awake_any _ (HT.out.below c6)).mono ?_
    rintro e w9 ⟨rfl, hb9⟩
    go_wp2_with fail
    go_ret
    exact ⟨rfl, (c6).trans (hb9.mono (c6).size)⟩
  | true =>
    cases hbc : foldB (bs b) (bs c) with
    | false =>
      have HAB := Lib.hid hab
      have HBC := Lib.hid hbc
      clear hab hbc
      go_enter Tryd.func11, Tryd.ntmps11
      go_wp2_with fail
      refine (fold_any a b _ ka kb).mono ?_
      rintro e w1 ⟨rfl, b1⟩
      rw [HAB.out]
      have c1 := b1
      clear b1
      go_wp2_with fail
      refine (fold_any b a _ kb ka).mono ?_
      rintro e w2 ⟨rfl, b2⟩
      rw [foldB_symm, HAB.out]
      have c2 := c1.trans (b2.mono c1.size)
      clear b2
      go_wp2_with fail
      refine (fold_any a a _ ka ka).mono ?_
      rintro e w3 ⟨rfl, b3⟩
      rw [foldB_refl]
      have c3 := c2.trans (b3.mono c2.size)
      clear b3
      go_wp2_with fail
      refine (lower_any a _ ka).mono ?_
      rintro e w4 ⟨rfl, b4⟩
      have c4 := c3.trans (b4.mono c3.size)
      clear b4
      go_wp2_with fail
      refine (fold_any a _ _ ka KL.out).mono ?_
      rintro e w5 ⟨rfl, b5⟩
      rw [bs_mk, foldB_low]
      have c5 := c4.trans (b5.mono c4.size)
      clear b5
      go_wp2_with fail
      refine (fold_any a b _ ka kb).mono ?_
      rintro e w6 ⟨rfl, b6⟩
      rw [HAB.out]
      have c6 := c5.trans (b6.mono c5.size)
      clear b6
      go_wp2_with fail
      refine (fold_any b c _ kb kc).mono ?_
      rintro e w7 ⟨rfl, b7⟩
      rw [HBC.out]
      have c7 := c6.trans (b7.mono c6.size)
      clear b7
      go_wp2_with fail
      refine (awake_any _ (HT.out.below c7)).mono ?_
      rintro e w9 ⟨rfl, hb9⟩
      go_wp2_with fail
      go_ret
      exact ⟨rfl, (c7).trans (hb9.mono (c7).size)⟩
    | true =>
      have HAC := Lib.hid (foldB_trans hab hbc)
      have HAB := Lib.hid hab
      have HBC := Lib.hid hbc
      clear hab hbc
      go_enter Tryd.func11, Tryd.ntmps11
      go_wp2_with fail
      refine (fold_any a b _ ka kb).mono ?_
      rintro e w1 ⟨rfl, b1⟩
      rw [HAB.out]
      have c1 := b1
      clear b1
      go_wp2_with fail
      refine (fold_any b a _ kb ka).mono ?_
      rintro e w2 ⟨rfl, b2⟩
      rw [foldB_symm, HAB.out]
      have c2 := c1.trans (b2.mono c1.size)
      clear b2
      go_wp2_with fail
      refine (fold_any a a _ ka ka).mono ?_
      rintro e w3 ⟨rfl, b3⟩
      rw [foldB_refl]
      have c3 := c2.trans (b3.mono c2.size)
      clear b3
      go_wp2_with fail
      refine (lower_any a _ ka).mono ?_
      rintro e w4 ⟨rfl, b4⟩
      have c4 := c3.trans (b4.mono c3.size)
      clear b4
      go_wp2_with fail
      refine (fold_any a _ _ ka KL.out).mono ?_
      rintro e w5 ⟨rfl, b5⟩
      rw [bs_mk, foldB_low]
      have c5 := c4.trans (b5.mono c4.size)
      clear b5
      go_wp2_with fail
      refine (fold_any a b _ ka kb).mono ?_
      rintro e w6 ⟨rfl, b6⟩
      rw [HAB.out]
      have c6 := c5.trans (b6.mono c5.size)
      clear b6
      go_wp2_with fail
      refine (fold_any b c _ kb kc).mono ?_
      rintro e w7 ⟨rfl, b7⟩
      rw [HBC.out]
      have c7 := c6.trans (b7.mono c6.size)
      clear b7
      go_wp2_with fail
      refine (fold_any a c _ ka kc).mono ?_
      rintro e w8 ⟨rfl, b8⟩
      rw [HAC.out]
      have c8 := c7.trans (b8.mono c7.size)
      clear b8
      go_wp2_with fail
      refine (awake_any _ (HT.out.below c8)).mono ?_
      rintro e w9 ⟨rfl, hb9⟩
      go_wp2_with fail
      go_ret
      exact ⟨rfl, (c8).trans (hb9.mono (c8).size)⟩
end Go.Proofs.YthdbgiklniiglaaDoor
