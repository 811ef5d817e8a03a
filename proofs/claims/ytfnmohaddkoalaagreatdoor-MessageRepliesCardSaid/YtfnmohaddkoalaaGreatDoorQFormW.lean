/- The walk of message.format (6.5). Printed by gen_formw.py. -/
import Derived.Test.YtfnmohaddkoalaaGreatDoorQMsgG
import Derived.Test.YtfnmohaddkoalaaGreatDoorQFieldX
import Derived.Test.YtfnmohaddkoalaaGreatDoorQDecW
import Derived.Test.YtfnmohaddkoalaaGreatDoorQBldW
import Derived.Test.YtfnmohaddkoalaaGreatDoorQMsgW2
namespace Go.Proofs.YtfnmohaddkoalaaGreatDoor
open Go.RowKit Go.Shelf
set_option linter.unusedSimpArgs false
set_option linter.unusedVariables false

theorem cat7 (a b : ByteArray) : bs (a ++ b) = bs a ++ bs b := by unfold bs; rw [ByteArray.data_append, Array.toList_append]
theorem formF_no {n v : List UInt8} (h : validF n v = false) : formF n v = [] := by unfold formF; rw [h]; rfl
theorem formF_yes {n v : List UInt8} (h : validF n v = true) : formF n v = formL n v := by unfold formF; rw [if_pos h]
set_option maxHeartbeats 6400000 in
set_option maxRecDepth 100000 in
theorem format_any (st : ByteArray) (oa : Option Addr) (xs : List Fd) (cap : Nat) (n : Int) (b : ByteArray) (w : World) (hs : st.size ≤ 10000) (hb : b.size ≤ 100000) (hn0 : -1 ≤ n) (hn1 : n ≤ 100000) (hn : xs.length ≤ 100) (hz : FldZ xs 300) (hc : FldO w oa xs) (hT : PowTab w) :
    Calls Tryz.prog 36 #[.string st, .slice oa xs.length cap, .int .i64 n, .string b] w fun e w' => e = .returned (.string ⟨(msgL (bs st) xs n (bs b)).toArray⟩) ∧ Below w.heap.size w w' := by
  obtain ⟨R, hR⟩ : ∃ R, R = msgL (bs st) xs n (bs b) := ⟨_, rfl⟩
  rw [← hR]
  have HR := Lib.hid hR
  have HZ := Lib.hid hz
  have HC := Lib.hid hc
  have HT := Lib.hid hT
  clear hR hz hc hT
  by_cases h0 : st.size = 0
  · obtain ⟨e1, e2⟩ := femp_yes h0
    have HF : Hid (R = []) := Lib.hid (by rw [HR.out]; exact msg_none (.inl e2))
    clear e2
    go_enter Tryz.func36, Tryz.ntmps36
    go_wp2_with fail
    go_ret
    exact ⟨by rw [HF.out]; rfl, Below.refl _ _⟩
  obtain ⟨e1, e2⟩ := femp_no h0
  have HST := Lib.hid e2
  clear e2
  obtain ⟨O0, hO0⟩ : ∃ E : ByteArray, E = st ++ ⟨#[13, 10]⟩ := ⟨_, rfl⟩
  have zO0 : O0.size = st.size + 2 := by rw [hO0, ByteArray.size_append]; rfl
  have sO0 : ∀ wx, (Op.stringOp .add st ⟨#[13, 10]⟩).run Tryz.prog wx = .ok (.string O0) wx := fun wx => by rw [hO0]; exact run_string_add_sum wx _ _ (by have e0 : (⟨#[13, 10]⟩ : ByteArray).size = 2 := rfl; omega)
  have HO0 : Hid ([] ++ bs O0 = linesB (bs st :: (unfrL (xs.take 0)).map fmtF)) := Lib.hid (by rw [hO0, cat7]; simp [linesB, bs, unfrL])
  have hO0l : ([] : List UInt8).length + O0.size ≤ 1000000 := by show 0 + _ ≤ _; omega
  clear hO0
  go_enter Tryz.func36, Tryz.ntmps36
  go_wp2_with fail
  refine (wrs_any w.heap.size w.heap.size [] O0 (w.alloc (.cells #[.pointer none, .slice none 0 0] 87)) (BldAt.fresh w) hO0l (by rw [World.size_alloc]; omega)).mono ?_
  rintro e w2 ⟨rfl, B2, hb2, z2, _⟩
  have b2 : Below w.heap.size w w2 := ((Below.refl _ _).alloc (Nat.le_refl _) _).trans hb2
  rw [World.size_alloc] at z2
  clear hb2
  go_wp2_with fail
  go_loopw [10, 21] (fun c j wr => ∃ (i k : Nat) (l : List UInt8), i ≤ xs.length ∧ j = .int .i64 i ∧ c = .int .i64 k ∧ k ≤ 63 ∧ Hid (k = (unfrL (xs.take i)).length) ∧ l.length ≤ 10002 + 700 * k ∧ Hid (l = linesB (bs st :: (unfrL (xs.take i)).map fmtF)) ∧ Hid (∀ f ∈ unfrL (xs.take i), okF f = true) ∧ BldAt wr w.heap.size w.heap.size l ∧ Below w.heap.size w wr ∧ w.heap.size + 1 ≤ wr.heap.size) (fun _ j _ => xs.length - (intOf j).toNat)
  case atStart => exact ⟨0, 0, [] ++ bs O0, by omega, rfl, rfl, by omega, Lib.hid rfl, by rw [List.nil_append, bs_length]; omega, HO0, Lib.hid (by simp [unfrL]), B2, b2, z2⟩
  case round =>
    clear B2 b2 z2
    obtain ⟨i, k, l, hi, rfl, rfl, hk, HK, hl, HL, HALL, BB, hbr, hzr⟩ := hrel
    by_cases hlt : i < xs.length
    · obtain ⟨x, hx⟩ : ∃ x, xs[i]? = some x := ⟨_, List.getElem?_eq_getElem hlt⟩
      obtain ⟨ad, rfl, c0, c1⟩ := (HC.out.down hbr).at hx
      have hxz := HZ.out x (List.mem_of_getElem? hx)
      have HX := Lib.hid hx
      have V1 := RowAt.new wr [.string x.1, .string x.2] 69
      have ha := alloc_b wr (.cells #[.string x.1, .string x.2] 69)
      have B1 := BB.below ha
      have b1 := hbr.trans (ha.mono (by omega))
      have z1 : w.heap.size + 1 ≤ (wr.alloc (.cells #[.string x.1, .string x.2] 69)).heap.size := Nat.le_trans hzr ha.size
      clear hx BB hbr
      go_wp2_with fail
      generalize (wr.alloc (.cells #[.string x.1, .string x.2] 69)) = w3 at V1 B1 b1 z1 ⊢
      refine (fold_any x.1 clC w3 (by omega) (by decide)).mono ?_
      rintro e w4 ⟨he, hb4⟩
      have V4 := V1.below hb4
      have B4 := B1.below hb4
      have b4 := b1.trans (hb4.mono (by omega))
      have z4 := Nat.le_trans z1 hb4.size
      have d0 := V4.cell 0 rfl
      have d1 := V4.cell 1 rfl
      clear V1 B1 b1 z1 hb4 c0 c1 ha
      cases hcl : foldB (bs x.1) (bs clC) with
      | true =>
        rw [hcl] at he
        subst he
        have HSK : Hid (unfrL (xs.take (i + 1)) = unfrL (xs.take i)) := Lib.hid (unfr_skip HX.out (by unfold plainF isF; rw [show foldB (bs x.1) clN = true from hcl]; rfl))
        clear hcl
        go_wp2_with fail
        go_roundw
        case rel => exact ⟨i + 1, k, l, by omega, by go_num, rfl, hk, by rw [HSK.out]; exact HK, hl, by rw [HSK.out]; exact HL, by rw [HSK.out]; exact HALL, B4, b4, z4⟩
        case measure => simp [intOf]; omega
      | false =>
        rw [hcl] at he
        subst he
        have HCL : Hid (foldB (bs x.1) clN = false) := Lib.hid hcl
        clear hcl
        go_wp2_with fail
        refine (fold_any x.1 teC w4 (by omega) (by decide)).mono ?_
        rintro e w5 ⟨he, hb5⟩
        have V5 := V4.below hb5
        have B5 := B4.below hb5
        have b5 := b4.trans (hb5.mono (by omega))
        have z5 := Nat.le_trans z4 hb5.size
        clear d0 d1 V4 B4 b4 z4 hb5
        have d0 := V5.cell 0 rfl
        have d1 := V5.cell 1 rfl
        cases hte : foldB (bs x.1) (bs teC) with
        | true =>
          rw [hte] at he
          subst he
          have HSK : Hid (unfrL (xs.take (i + 1)) = unfrL (xs.take i)) := Lib.hid (unfr_skip HX.out (by unfold plainF isF; rw [show foldB (bs x.1) teN = true from hte]; simp))
          clear hte
          go_wp2_with fail
          go_roundw
          case rel => exact ⟨i + 1, k, l, by omega, by go_num, rfl, hk, by rw [HSK.out]; exact HK, hl, by rw [HSK.out]; exact HL, by rw [HSK.out]; exact HALL, B5, b5, z5⟩
          case measure => simp [intOf]; omega
        | false =>
          rw [hte] at he
          subst he
          have HKP : Hid (unfrL (xs.take (i + 1)) = unfrL (xs.take i) ++ [x]) := Lib.hid (unfr_keep HX.out (by unfold plainF isF; rw [HCL.out, show foldB (bs x.1) teN = false from hte]; rfl))
          have HSP := Lib.hid (unfr_split xs (i + 1))
          clear hte
          cases hok : validF (bs x.1) (bs x.2) with
          | false =>
            have HF : Hid (R = []) := Lib.hid (by rw [HR.out]; exact msg_bad (f := x) (by rw [HSP.out, HKP.out]; simp) hok)
            have HFN : Hid (formF (bs x.1) (bs x.2) = []) := Lib.hid (formF_no hok)
            clear hok
            go_wp2_with fail
            refine (fformat_any x.1 x.2 w5 (by omega) (by omega)).mono ?_
            rintro e w6 ⟨rfl, hb6⟩
            rw [HFN.out]
            go_wp2_with fail
            go_ret
            exact ⟨by rw [HF.out]; rfl, b5.trans (hb6.mono (by omega))⟩
          | true =>
            obtain ⟨F, hF⟩ : ∃ F : ByteArray, F = ⟨(formF (bs x.1) (bs x.2)).toArray⟩ := ⟨_, rfl⟩
            have hFb : bs F = fmtF x := by rw [hF, formF_yes hok]; rfl
            have zF : F.size ≤ 602 := by rw [← bs_length, hFb]; have := fmtF_len x; omega
            have zF0 : F.size ≠ 0 := fun h => (form_line hok).2.1 (by have h2 := (femp_yes h).2; rw [hFb] at h2; exact h2)
            obtain ⟨g1, _⟩ := femp_no zF0
            have HFF : Hid (∀ wx, Calls Tryz.prog 55 #[.agg #[.string x.1, .string x.2]] wx fun e w' => e = .returned (.string F) ∧ Below wx.heap.size wx w') := Lib.hid fun wx => by
              rw [hF]; exact fformat_any x.1 x.2 wx (by omega) (by omega)
            have HOKX : Hid (okF x = true) := Lib.hid hok
            have HFB := Lib.hid hFb
            clear hok hF hFb
            by_cases h64 : 64 ≤ (k : Int) + 1
            · have HF : Hid (R = []) := Lib.hid (by rw [HR.out]; exact msg_many (by rw [HSP.out, HKP.out, List.length_append, List.length_append, ← HK.out]; simp; omega))
              go_wp2_with fail
              refine (HFF.out _).mono ?_
              rintro e w6 ⟨rfl, hb6⟩
              go_wp2_with fail
              go_ret
              exact ⟨by rw [HF.out]; rfl, b5.trans (hb6.mono (by omega))⟩
            by_cases hl16 : 16000 < (l.length : Int)
            · have HF : Hid (R = []) := Lib.hid (by rw [HR.out]; exact msg_long (pre := unfrL (xs.take i)) (suf := [x] ++ unfrL (xs.drop (i + 1))) (by rw [HSP.out, HKP.out, List.append_assoc]) (by rw [← HL.out]; omega))
              go_wp2_with fail
              refine (HFF.out _).mono ?_
              rintro e w6 ⟨rfl, hb6⟩
              have B6 := B5.below hb6
              have b6 := b5.trans (hb6.mono (by omega))
              go_wp2_with fail
              refine (blen_any _ _ l w6 B6).mono ?_
              rintro e w7 ⟨rfl, rfl⟩
              go_wp2_with fail
              go_ret
              exact ⟨by rw [HF.out]; rfl, b6⟩
            obtain ⟨E1, hE1⟩ : ∃ E : ByteArray, E = F ++ ⟨#[13, 10]⟩ := ⟨_, rfl⟩
            have zE1 : E1.size = F.size + 2 := by rw [hE1, ByteArray.size_append]; rfl
            have sE1 : ∀ wx, (Op.stringOp .add F ⟨#[13, 10]⟩).run Tryz.prog wx = .ok (.string E1) wx := fun wx => by rw [hE1]; exact run_string_add_sum wx _ _ (by have e0 : (⟨#[13, 10]⟩ : ByteArray).size = 2 := rfl; omega)
            have HL2 : Hid (l ++ bs E1 = linesB (bs st :: (unfrL (xs.take (i + 1))).map fmtF)) := Lib.hid (by rw [HKP.out, lines_keep, ← HL.out, hE1, cat7, HFB.out])
            have hl2 : (l ++ bs E1).length ≤ 10002 + 700 * (k + 1) := by rw [List.length_append, bs_length]; omega
            have hl3 : l.length + E1.size ≤ 1000000 := by omega
            have HK2 : Hid (k + 1 = (unfrL (xs.take (i + 1))).length) := Lib.hid (by rw [HKP.out, List.length_append, ← HK.out]; rfl)
            have HALL2 : Hid (∀ f ∈ unfrL (xs.take (i + 1)), okF f = true) := Lib.hid (fun f hf => by
              rw [HKP.out, List.mem_append] at hf
              rcases hf with hf | hf
              · exact HALL.out f hf
              · rw [List.mem_singleton] at hf; subst hf; exact HOKX.out)
            clear hE1 zE1
            go_wp2_with fail
            refine (HFF.out _).mono ?_
            rintro e w6 ⟨rfl, hb6⟩
            have B6 := B5.below hb6
            have b6 := b5.trans (hb6.mono (by omega))
            have z6 := Nat.le_trans z5 hb6.size
            clear V5 B5 b5 z5 d0 d1 hb6
            go_wp2_with fail
            refine (blen_any _ _ l w6 B6).mono ?_
            rintro e w7 ⟨rfl, rfl⟩
            go_wp2_with fail
            refine (wrs_any _ _ l E1 _ B6 hl3 (by omega)).mono ?_
            rintro e w8 ⟨rfl, B8, hb8, z8, _⟩
            have b8 := b6.trans hb8
            have z8 := Nat.le_trans z6 z8
            clear B6 b6 z6 hb8
            go_wp2_with fail
            go_roundw
            case rel => exact ⟨i + 1, k + 1, l ++ bs E1, by omega, by go_num, by go_num, by omega, HK2, hl2, HL2, HALL2, B8, b8, z8⟩
            case measure => simp [intOf]; omega
    · have hix : i = xs.length := by omega
      have HL4 : Hid (l = linesB (bs st :: (unfrL xs).map fmtF)) := Lib.hid (by rw [HL.out, hix, List.take_length])
      have HRR : Hid (R = if 16000 < (linesB (headLs (bs st) xs n)).length + 2 then [] else linesB (headLs (bs st) xs n) ++ 13 :: 10 :: bs b) := Lib.hid (by
        rw [HR.out]
        refine msg_some HST.out ?_ ?_
        · have := HK.out; rw [hix, List.take_length] at this; omega
        · have := HALL.out; rw [hix, List.take_length] at this; exact this)
      have hl5 : l.length ≤ 60000 := by omega
      clear HL HALL HK
      by_cases hneg : n < 0
      · have HN : Hid (linesB (headLs (bs st) xs n) = l) := Lib.hid (by rw [lines_head, clLs_no hneg, List.append_nil, HL4.out])
        have hl3 : l.length + 2 ≤ 1000000 := by omega
        go_wp2_with fail
        refine (wrs_any _ _ l ⟨#[13, 10]⟩ _ BB hl3 (by omega)).mono ?_
        rintro e w9 ⟨rfl, B9, hb9, z9, _⟩
        have b9 := hbr.trans hb9
        have z9 := Nat.le_trans hzr z9
        have hL9 : (l ++ bs ⟨#[13, 10]⟩).length = l.length + 2 := by rw [List.length_append]; rfl
        have HB9 : Hid (l ++ bs ⟨#[13, 10]⟩ = l ++ [13, 10]) := Lib.hid rfl
        have HN9 : Hid ((linesB (headLs (bs st) xs n)).length + 2 = (l ++ bs ⟨#[13, 10]⟩).length) := Lib.hid (by rw [HN.out, hL9])
        have HN8 : Hid (linesB (headLs (bs st) xs n) ++ [13, 10] = l ++ bs ⟨#[13, 10]⟩) := Lib.hid (by rw [HN.out])
        have hlq : (l ++ bs ⟨#[13, 10]⟩).length ≤ 70000 := by omega
        clear BB hbr hzr hb9 hL9 HB9
        generalize (l ++ bs ⟨#[13, 10]⟩) = l9 at *
        go_wp2_with fail
        refine (blen_any _ _ l9 w9 B9).mono ?_
        rintro e w10 ⟨rfl, rfl⟩
        by_cases h16 : 16000 < (l9.length : Int)
        · have HF : Hid (R = []) := Lib.hid (by rw [HRR.out]; exact if_pos (by have := HN9.out; omega))
          go_wp2_with fail
          go_ret
          exact ⟨by rw [HF.out]; rfl, b9⟩
        · obtain ⟨S9, hS9⟩ : ∃ S : ByteArray, S = ⟨l9.toArray⟩ := ⟨_, rfl⟩
          have zS : S9.size = l9.length := by rw [hS9]; rfl
          have HSB : Hid ((⟨l9.toArray⟩ : ByteArray) = S9) := Lib.hid hS9.symm
          obtain ⟨X, hX⟩ : ∃ E : ByteArray, E = S9 ++ b := ⟨_, rfl⟩
          have sX : ∀ wx, (Op.stringOp .add S9 b).run Tryz.prog wx = .ok (.string X) wx := fun wx => by rw [hX]; exact run_string_add_sum wx _ _ (by omega)
          have HF : Hid ((⟨R.toArray⟩ : ByteArray) = X) := Lib.hid (by
            rw [HRR.out, if_neg (by have := HN9.out; omega)]
            apply ByteArray.ext
            apply Array.ext'
            show _ = bs X
            rw [hX, cat7, hS9, bs_mk, ← HN8.out]; simp [bs])
          clear hS9 hX
          go_wp2_with fail
          refine (bstr_any _ _ l9 _ B9 (by omega)).mono ?_
          rintro e w11 ⟨rfl, hb11, _⟩
          rw [HSB.out]
          have b11 := b9.trans hb11
          go_wp2_with fail
          go_ret
          exact ⟨by rw [HF.out]; rfl, b11⟩
      · obtain ⟨D, hD⟩ : ∃ D : ByteArray, D = ⟨(Lib.itoa n).toArray⟩ := ⟨_, rfl⟩
        have zD : D.size ≤ 40 := by rw [hD]; exact itoa_len (n := n) (by omega) (by omega)
        have HDC : Hid (∀ wx, PowTab wx → Calls Tryz.prog 57 #[.int .i64 n] wx fun e w' => e = .returned (.string D) ∧ Below wx.heap.size wx w') := Lib.hid fun wx ht => by
          rw [hD]; exact decimal_any n wx (by omega) (by omega) ht
        obtain ⟨P1, hP1⟩ : ∃ E : ByteArray, E = ⟨#[67, 111, 110, 116, 101, 110, 116, 45, 76, 101, 110, 103, 116, 104, 58, 32]⟩ ++ D := ⟨_, rfl⟩
        obtain ⟨P2, hP2⟩ : ∃ E : ByteArray, E = P1 ++ ⟨#[13, 10]⟩ := ⟨_, rfl⟩
        have zP1 : P1.size = 16 + D.size := by rw [hP1, ByteArray.size_append]; rfl
        have zP2 : P2.size = P1.size + 2 := by rw [hP2, ByteArray.size_append]; rfl
        have sP1 : ∀ wx, (Op.stringOp .add ⟨#[67, 111, 110, 116, 101, 110, 116, 45, 76, 101, 110, 103, 116, 104, 58, 32]⟩ D).run Tryz.prog wx = .ok (.string P1) wx := fun wx => by rw [hP1]; exact run_string_add_sum wx _ _ (by have e0 : (⟨#[67, 111, 110, 116, 101, 110, 116, 45, 76, 101, 110, 103, 116, 104, 58, 32]⟩ : ByteArray).size = 16 := rfl; omega)
        have sP2 : ∀ wx, (Op.stringOp .add P1 ⟨#[13, 10]⟩).run Tryz.prog wx = .ok (.string P2) wx := fun wx => by rw [hP2]; exact run_string_add_sum wx _ _ (by have e0 : (⟨#[13, 10]⟩ : ByteArray).size = 2 := rfl; omega)
        have HN : Hid (linesB (headLs (bs st) xs n) = l ++ bs P2) := Lib.hid (by rw [lines_head, clLs_yes hneg, ← HL4.out, hP2, cat7, hP1, cat7, hD]; simp [bs])
        have hl2 : l.length + P2.size ≤ 1000000 := by omega
        have hl3 : (l ++ bs P2).length + 2 ≤ 1000000 := by rw [List.length_append, bs_length]; omega
        have hl6 : (l ++ bs P2).length ≤ 60100 := by rw [List.length_append, bs_length]; omega
        clear hD hP1 hP2 zP1 zP2
        go_wp2_with fail
        refine (HDC.out _ (HT.out.below hbr)).mono ?_
        rintro e w4 ⟨rfl, hb4⟩
        have B4 := BB.below hb4
        have b4 := hbr.trans (hb4.mono (by omega))
        have z4 := Nat.le_trans hzr hb4.size
        clear BB hbr hzr hb4
        go_wp2_with fail
        refine (wrs_any _ _ l P2 _ B4 hl2 (by omega)).mono ?_
        rintro e w5 ⟨rfl, BB, hb5, z5, _⟩
        have hbr := b4.trans hb5
        have hzr := Nat.le_trans z4 z5
        clear B4 b4 z4 hb5 z5
        generalize (l ++ bs P2) = l at *
        go_wp2_with fail
        refine (wrs_any _ _ l ⟨#[13, 10]⟩ _ BB hl3 (by omega)).mono ?_
        rintro e w9 ⟨rfl, B9, hb9, z9, _⟩
        have b9 := hbr.trans hb9
        have z9 := Nat.le_trans hzr z9
        have hL9 : (l ++ bs ⟨#[13, 10]⟩).length = l.length + 2 := by rw [List.length_append]; rfl
        have HB9 : Hid (l ++ bs ⟨#[13, 10]⟩ = l ++ [13, 10]) := Lib.hid rfl
        have HN9 : Hid ((linesB (headLs (bs st) xs n)).length + 2 = (l ++ bs ⟨#[13, 10]⟩).length) := Lib.hid (by rw [HN.out, hL9])
        have HN8 : Hid (linesB (headLs (bs st) xs n) ++ [13, 10] = l ++ bs ⟨#[13, 10]⟩) := Lib.hid (by rw [HN.out])
        have hlq : (l ++ bs ⟨#[13, 10]⟩).length ≤ 70000 := by omega
        clear BB hbr hzr hb9 hL9 HB9
        generalize (l ++ bs ⟨#[13, 10]⟩) = l9 at *
        go_wp2_with fail
        refine (blen_any _ _ l9 w9 B9).mono ?_
        rintro e w10 ⟨rfl, rfl⟩
        by_cases h16 : 16000 < (l9.length : Int)
        · have HF : Hid (R = []) := Lib.hid (by rw [HRR.out]; exact if_pos (by have := HN9.out; omega))
          go_wp2_with fail
          go_ret
          exact ⟨by rw [HF.out]; rfl, b9⟩
        · obtain ⟨S9, hS9⟩ : ∃ S : ByteArray, S = ⟨l9.toArray⟩ := ⟨_, rfl⟩
          have zS : S9.size = l9.length := by rw [hS9]; rfl
          have HSB : Hid ((⟨l9.toArray⟩ : ByteArray) = S9) := Lib.hid hS9.symm
          obtain ⟨X, hX⟩ : ∃ E : ByteArray, E = S9 ++ b := ⟨_, rfl⟩
          have sX : ∀ wx, (Op.stringOp .add S9 b).run Tryz.prog wx = .ok (.string X) wx := fun wx => by rw [hX]; exact run_string_add_sum wx _ _ (by omega)
          have HF : Hid ((⟨R.toArray⟩ : ByteArray) = X) := Lib.hid (by
            rw [HRR.out, if_neg (by have := HN9.out; omega)]
            apply ByteArray.ext
            apply Array.ext'
            show _ = bs X
            rw [hX, cat7, hS9, bs_mk, ← HN8.out]; simp [bs])
          clear hS9 hX
          go_wp2_with fail
          refine (bstr_any _ _ l9 _ B9 (by omega)).mono ?_
          rintro e w11 ⟨rfl, hb11, _⟩
          rw [HSB.out]
          have b11 := b9.trans hb11
          go_wp2_with fail
          go_ret
          exact ⟨by rw [HF.out]; rfl, b11⟩
end Go.Proofs.YtfnmohaddkoalaaGreatDoor
