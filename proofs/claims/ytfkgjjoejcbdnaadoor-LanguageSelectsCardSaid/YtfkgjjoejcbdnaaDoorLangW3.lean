/- The walks of layer 11: Match, shorter, index, Lookup, of the program. -/
import Derived.Test.YtfkgjjoejcbdnaaDoorLangW1
import Derived.Test.YtfkgjjoejcbdnaaDoorLangQ
namespace Go.Proofs.YtfkgjjoejcbdnaaDoor
open Go.RowKit

theorem match_no {r t : List UInt8} (h : (rangeB r && tagB t) = false) : matchI r t = -1 := by
  unfold matchI; rw [h]; rfl
theorem match_star {r t : List UInt8} (h : (rangeB r && tagB t) = true) (h2 : r = [42]) : matchI r t = 0 := by
  unfold matchI; rw [h]; simp [h2]
theorem match_pre {r t : List UInt8} (h : (rangeB r && tagB t) = true) (h2 : r ≠ [42]) (h3 : Lib.hasPrefix (lowL t ++ [45]) (lowL r ++ [45]) = true) : matchI r t = (splitC 45 r).length := by
  unfold matchI; rw [h, if_pos rfl, if_neg h2, h3]; rfl
theorem match_not {r t : List UInt8} (h : (rangeB r && tagB t) = true) (h2 : r ≠ [42]) (h3 : Lib.hasPrefix (lowL t ++ [45]) (lowL r ++ [45]) = false) : matchI r t = -1 := by
  unfold matchI; rw [h, if_pos rfl, if_neg h2, h3]; rfl
theorem count_one (c : UInt8) (s : ByteArray) : (Lib.countByte s.data.toList c : Int) + 1 = (splitC c (bs s)).length := by
  rw [← countB_one]
  unfold Lib.countB
  have : Lib.count s.data.toList [c] = Lib.countByte s.data.toList c := Lib.count_one c _
  show _ = ((Lib.count s.data.toList [c] + 1 : Nat) : Int)
  rw [this]; omega
set_option maxHeartbeats 1600000 in
theorem match_any (r t : ByteArray) (w : World) (m : Int) (hr : r.size ≤ 100000) (ht : t.size ≤ 100000) (hm : w.cell? ⟨0, 0, none⟩ = some (.int .i64 m)) (hB : 0 < w.heap.size) :
    Calls Tryd.prog 14 #[.string r, .string t] w fun e w' => e = .returned (.int .i64 (matchI (bs r) (bs t))) ∧ Below w.heap.size w w' := by
  have HM := Lib.hid hm
  clear hm
  go_enter Tryd.func14, Tryd.ntmps14
  go_wp2_with fail
  refine (range_any r _ m (by omega) HM.out).mono ?_
  rintro e w1 ⟨rfl, hb1⟩
  cases h1 : rangeB (bs r) with
  | false =>
    have HR := Lib.hid (match_no (r := bs r) (t := bs t) (by rw [h1]; rfl))
    clear h1
    go_wp2_with fail
    go_ret
    exact ⟨by rw [HR.out]; rfl, hb1⟩
  | true =>
    have H1 := Lib.hid h1
    clear h1
    have HM1 : Hid (w1.cell? ⟨0, 0, none⟩ = some (.int .i64 m)) := Lib.hid ((hb1.cell (p := ⟨0, 0, none⟩) hB).trans HM.out)
    go_wp2_with fail
    refine (tag_any t _ m (by omega) HM1.out).mono ?_
    rintro e w2 ⟨rfl, hb2⟩
    have b2 := below_step hb1 hb2
    clear hb2 hb1
    cases h2 : tagB (bs t) with
    | false =>
      have HR := Lib.hid (match_no (r := bs r) (t := bs t) (by rw [H1.out, h2]; rfl))
      clear h2
      go_wp2_with fail
      go_ret
      exact ⟨by rw [HR.out]; rfl, b2⟩
    | true =>
      have H2 := Lib.hid (show (rangeB (bs r) && tagB (bs t)) = true by rw [H1.out, h2]; rfl)
      clear h2
      by_cases h3 : bs r = [42]
      · have h3' : (r.toList == [42]) = true := by rw [Lib.toList_data]; exact beq_iff_eq.2 h3
        have HR := Lib.hid (match_star H2.out h3)
        clear h3
        go_wp2_with fail
        go_ret
        exact ⟨by rw [HR.out]; rfl, b2⟩
      · have h3' : (r.toList == [42]) = false := by rw [Lib.toList_data]; exact beq_eq_false_iff_ne.2 h3
        have H3 := Lib.hid h3
        clear h3
        go_wp2_with fail
        refine (lower_any t _ (by omega)).mono ?_
        rintro e w3 ⟨rfl, hb3⟩
        have b3 := below_step b2 hb3
        clear b2 hb3
        obtain ⟨lt, HLT⟩ : ∃ x : ByteArray, Hid (x = ⟨(lowL (bs t)).toArray⟩) := ⟨_, Lib.hid rfl⟩
        rw [← HLT.out]
        have zlt : lt.size ≤ 100000 := by
          have : lt.size = (lowL (bs t)).length := by rw [HLT.out]; rfl
          rw [this, lowL_length, bs_length]; exact ht
        go_wp2_with fail
        refine (lower_any r _ (by omega)).mono ?_
        rintro e w4 ⟨rfl, hb4⟩
        have b4 := below_step b3 hb4
        clear b3 hb4
        obtain ⟨lr, HLR⟩ : ∃ x : ByteArray, Hid (x = ⟨(lowL (bs r)).toArray⟩) := ⟨_, Lib.hid rfl⟩
        rw [← HLR.out]
        have zlr : lr.size ≤ 100000 := by
          have : lr.size = (lowL (bs r)).length := by rw [HLR.out]; rfl
          rw [this, lowL_length, bs_length]; exact hr
        go_wp2_with fail
        refine (Tryd.strings_HasPrefix _ _ _).mono ?_
        rintro e w5 ⟨rfl, rfl⟩
        have HV : Hid (Lib.hasPrefix ((lt ++ ⟨#[45]⟩ : ByteArray).data.toList) ((lr ++ ⟨#[45]⟩ : ByteArray).data.toList) = Lib.hasPrefix (lowL (bs t) ++ [45]) (lowL (bs r) ++ [45])) := Lib.hid (by
          rw [HLT.out, HLR.out]; simp)
        rw [HV.out]
        cases h5 : Lib.hasPrefix (lowL (bs t) ++ [45]) (lowL (bs r) ++ [45]) with
        | false =>
          have HR := Lib.hid (match_not H2.out H3.out h5)
          clear h5
          go_wp2_with fail
          go_ret
          exact ⟨by rw [HR.out]; rfl, b4⟩
        | true =>
          have HR := Lib.hid (match_pre H2.out H3.out h5)
          have HC := Lib.hid (count_one 45 r)
          have hcl := splitC_len 45 (bs r)
          rw [bs_length] at hcl
          obtain ⟨n, HN⟩ : ∃ n : Nat, Hid (n = Lib.countByte r.data.toList 45) := ⟨_, Lib.hid rfl⟩
          have hn : (n : Int) + 1 ≤ 100001 := by rw [HN.out, HC.out]; omega
          clear h5 hcl
          go_wp2_with fail
          refine (Tryd.strings_Count_one r 45 _).mono ?_
          rintro e w6 ⟨rfl, rfl⟩
          rw [← HN.out]
          go_wp2_with fail
          go_ret
          exact ⟨by rw [HR.out, ← HC.out, ← HN.out]; rfl, b4⟩
end Go.Proofs.YtfkgjjoejcbdnaaDoor
