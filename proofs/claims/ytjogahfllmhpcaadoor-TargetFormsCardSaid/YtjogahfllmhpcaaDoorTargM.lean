/- The walks of two statements more on layer 4: keys are parsed back, the two forms of a target. -/
import Derived.Test.YtjogahfllmhpcaaDoorTargL
namespace Go.Proofs.YtjogahfllmhpcaaDoor
open Go.RowKit

set_option maxHeartbeats 3200000 in
theorem targetBack_walk (t h o : ByteArray) (w : World) (_ : t.size ≤ 9223372036854775807) (_ : h.size ≤ 9223372036854775807) (_ : o.size ≤ 9223372036854775807) (hT : PowTab w) (hM : MaxOf w) :
    Calls Tryd.prog 5 #[.string t, .string h, .string o] w fun e w' => e = .returned (.bool true) ∧ Below w.heap.size w w' := by
  have HM := Lib.hid hM
  have HT := Lib.hid hT
  clear hM hT
  by_cases k1 : 1500 < (t.size : Int)
  · go_enter Tryd.func5, Tryd.ntmps5
    go_wp2_with fail
    go_ret
    exact ⟨rfl, Below.refl _ _⟩
  by_cases k2 : 300 < (h.size : Int)
  · go_enter Tryd.func5, Tryd.ntmps5
    go_wp2_with fail
    go_ret
    exact ⟨rfl, Below.refl _ _⟩
  by_cases k3 : 300 < (o.size : Int)
  · go_enter Tryd.func5, Tryd.ntmps5
    go_wp2_with fail
    go_ret
    exact ⟨rfl, Below.refl _ _⟩
  obtain ⟨N, k, P, Q, b, e, hv⟩ := uri_form (parseU (bs t) (bs h))
  by_cases he : e = 0
  · subst he
    have hlen := parse_len hv
    simp only [bs_length] at hlen
    obtain ⟨l1, l2, l3, l4⟩ := hlen
    have i1 : -9223372036854775808 ≤ k := by have : k = 80 ∨ 1 ≤ k ∧ k ≤ 65535 := l4; omega
    have i2 : k ≤ 9223372036854775807 := by have : k = 80 ∨ 1 ≤ k ∧ k ≤ 65535 := l4; omega
    have hkl := key_len (mkU N k P Q b) (itoa_len i1 i2)
    simp only [bs_length] at hkl
    obtain ⟨K, hK⟩ : ∃ K : ByteArray, K = ⟨(keyL (mkU N k P Q b)).toArray⟩ := ⟨_, rfl⟩
    have hKz : K.size ≤ 100000 := by
      have e : K.size = (keyL (mkU N k P Q b)).length := by rw [hK]; rfl
      omega
    have HK := Lib.hid hK
    have HV : Hid (parseV (parseU (bs t) (bs h)) = .tuple #[.agg #[.string N, .int .i64 k, .string P, .string Q, .bool b], .int .i64 0]) := Lib.hid (by rw [hv]; rfl)
    have HV2 : Hid (parseV (parseU (bs K) (bs o)) = .tuple #[.agg #[.string N, .int .i64 k, .string P, .string Q, .bool b], .int .i64 0]) := Lib.hid (by
      have e : bs K = keyL (mkU N k P Q b) := by rw [hK]
      rw [e, key_back hv (bs o)]; rfl)
    have zN : N.size ≤ 100000 := by omega
    have zP : P.size ≤ 100000 := by omega
    have zQ : Q.size ≤ 100000 := by omega
    clear hv l1 l2 l3 l4 hkl hK
    go_enter Tryd.func5, Tryd.ntmps5
    go_wp2_with fail
    refine (parse_any t h _ (by omega) (by omega) HM.out).mono ?_
    rintro e w1 ⟨rfl, b1⟩
    rw [HV.out]
    have R1 := RowAt.new w1 (uriC N k P Q b) 23
    have b2 := below_step b1 (below_alloc w1 (.cells (uriC N k P Q b).toArray 23))
    have HT2 := Lib.hid (HT.out.below b2)
    go_wp2_with fail
    refine (key_any N k P Q b _ zN zP zQ i1 i2 HT2.out).mono ?_
    rintro e w3 ⟨rfl, hb3⟩
    rw [← HK.out]
    have R3 := R1.below hb3
    have b3 := below_step b2 hb3
    have HM3 := Lib.hid (HM.out.below b3)
    clear hb3 b2 b1 R1 HT2
    go_wp2_with fail
    refine (parse_any K o _ hKz (by omega) HM3.out).mono ?_
    rintro e w4 ⟨rfl, hb4⟩
    rw [HV2.out]
    have R4 := R3.below hb4
    have b4 := below_step b3 hb4
    have b5 := below_step b4 (below_alloc w4 (.cells (uriC N k P Q b).toArray 23))
    have HM5 := Lib.hid (HM.out.below b5)
    have HT5 := Lib.hid (HT.out.below b5)
    have d0 := R4.cell 0 rfl
    have d1 := R4.cell 1 rfl
    have d2 := R4.cell 2 rfl
    have d3 := R4.cell 3 rfl
    have d4 := R4.cell 4 rfl
    have z4 := R4.lt
    clear hb4 b3 R3 b4
    go_wp2_with fail
    refine (awake4_any _ HT5.out HM5.out).mono ?_
    rintro e6 w6 ⟨rfl, hb6⟩
    go_wp2_with fail
    go_ret
    exact ⟨rfl, below_step b5 hb6⟩
  · have hu := parseU_err hv he
    have HV : Hid (parseV (parseU (bs t) (bs h)) = .tuple #[.agg #[.string ⟨#[]⟩, .int .i64 0, .string ⟨#[]⟩, .string ⟨#[]⟩, .bool false], .int .i64 e]) := Lib.hid (by rw [hv, hu]; rfl)
    have he' : (e == 0) = false := beq_eq_false_iff_ne.2 he
    have he2 : (e != 0) = true := bne_iff_ne.2 he
    clear hv hu he
    go_enter Tryd.func5, Tryd.ntmps5
    go_wp2_with fail
    refine (parse_any t h _ (by omega) (by omega) HM.out).mono ?_
    rintro e1 w1 ⟨rfl, b1⟩
    rw [HV.out]
    have b2 := below_step b1 (below_alloc w1 (.cells uri0C.toArray 23))
    have HT2 := Lib.hid (HT.out.below b2)
    have HM2 := Lib.hid (HM.out.below b2)
    go_wp2_with fail
    refine (awake4_any _ HT2.out HM2.out).mono ?_
    rintro e3 w3 ⟨rfl, hb3⟩
    go_wp2_with fail
    go_ret
    exact ⟨rfl, below_step b2 hb3⟩
abbrev otherT : ByteArray := ⟨#[111, 116, 104, 101, 114, 46, 101, 120, 97, 109, 112, 108, 101]⟩
theorem scheme_both (up : Bool) : foldB (bs (if up then ⟨#[72, 84, 84, 80, 58, 47, 47]⟩ else schemeT)) schemeL = true := by cases up <;> decide +kernel
set_option maxHeartbeats 3200000 in
theorem targetForms_walk (t h : ByteArray) (up : Bool) (w : World) (_ : t.size ≤ 9223372036854775807) (_ : h.size ≤ 9223372036854775807) (hT : PowTab w) (hM : MaxOf w) :
    Calls Tryd.prog 8 #[.string t, .string h, .bool up] w fun e w' => e = .returned (.bool true) ∧ Below w.heap.size w w' := by
  have HM := Lib.hid hM
  have HT := Lib.hid hT
  clear hM hT
  by_cases k1 : 1000 < (t.size : Int)
  · go_enter Tryd.func8, Tryd.ntmps8
    go_wp2_with fail
    go_ret
    exact ⟨rfl, Below.refl _ _⟩
  by_cases k2 : 300 < (h.size : Int)
  · go_enter Tryd.func8, Tryd.ntmps8
    go_wp2_with fail
    go_ret
    exact ⟨rfl, Below.refl _ _⟩
  by_cases hz : t.size = 0
  · obtain ⟨e1, _⟩ := empty_yes hz
    clear hz
    go_enter Tryd.func8, Tryd.ntmps8
    go_wp2_with fail
    go_ret
    exact ⟨rfl, Below.refl _ _⟩
  have e1 := empty_no hz
  have hp0 : 0 < t.size := by omega
  by_cases h0 : t[0] = 47
  rotate_left
  · have q0 : ((t[0].toNat : Int) != 47) = true := u8_bt (n := 47) (by decide) h0
    clear h0 hz
    go_enter Tryd.func8, Tryd.ntmps8
    go_wp2_with fail
    go_ret
    exact ⟨rfl, Below.refl _ _⟩
  have q0 : ((t[0].toNat : Int) != 47) = false := u8_bf (n := 47) (by decide) h0
  have htt : ∃ r, bs t = 47 :: r := by
    have := drop_step t hp0
    rw [List.drop_zero, h0] at this
    exact ⟨_, this⟩
  have HTT := Lib.hid htt
  clear h0 hz htt
  go_enter Tryd.func8, Tryd.ntmps8
  go_wp2_with fail
  go_loop [7] (fun i => ∃ k : Nat, k ≤ h.size ∧ i = .int .i64 k ∧ Hid (∀ j c, j < k → (bs h)[j]? = some c → stopC c = true)) (fun i => h.size - (intOf i).toNat)
  case atStart => exact ⟨0, by omega, rfl, Lib.hid fun j c hj => by omega⟩
  case round =>
    obtain ⟨k, hk, rfl, H⟩ := hrel
    by_cases hlt : k < h.size
    · by_cases c47 : h[k] = 47
      · have q1 : ((h[k].toNat : Int) == 47) = true := u8_eq (n := 47) (by decide) c47
        clear c47
        go_wp2_with fail
        go_ret
        exact ⟨rfl, Below.refl _ _⟩
      by_cases c63 : h[k] = 63
      · have q1 : ((h[k].toNat : Int) == 47) = false := u8_ne (n := 47) (by decide) c47
        have q2 : ((h[k].toNat : Int) == 63) = true := u8_eq (n := 63) (by decide) c63
        clear c47 c63
        go_wp2_with fail
        go_ret
        exact ⟨rfl, Below.refl _ _⟩
      have q1 : ((h[k].toNat : Int) == 47) = false := u8_ne (n := 47) (by decide) c47
      have q2 : ((h[k].toNat : Int) == 63) = false := u8_ne (n := 63) (by decide) c63
      have HN : Hid (∀ j c, j < k + 1 → (bs h)[j]? = some c → stopC c = true) := Lib.hid fun j c hj hc => by
        by_cases e : j = k
        · subst e
          rw [bs_at h hlt] at hc
          cases hc
          cases hs : stopC h[j] with
          | true => rfl
          | false => rcases stopC_iff.1 hs with e | e
                     · exact absurd e c47
                     · exact absurd e c63
        · exact H.out j c (by omega) hc
      clear c47 c63
      go_wp2_with fail
      go_round
      case rel => exact ⟨k + 1, by omega, by go_num, HN⟩
      case measure => simp [intOf]; omega
    · have hall : ∀ c ∈ bs h, stopC c = true := fun c hc => by
        obtain ⟨j, hj, hx⟩ := List.mem_iff_getElem.1 hc
        rw [bs_length] at hj
        exact H.out j c (by omega) (by rw [List.getElem?_eq_getElem (by rw [bs_length]; exact hj), hx])
      obtain ⟨N, kk, P, Q, b, e, hv⟩ := uri_form (parseU (bs t) (bs h))
      have HV : Hid (parseV (parseU (bs t) (bs h)) = .tuple #[.agg #[.string N, .int .i64 kk, .string P, .string Q, .bool b], .int .i64 e]) := Lib.hid (by rw [hv]; rfl)
      obtain ⟨S, hS⟩ : ∃ S : ByteArray, S = if up then ⟨#[72, 84, 84, 80, 58, 47, 47]⟩ else schemeT := ⟨_, rfl⟩
      have hSz : S.size = 7 := by rw [hS]; cases up <;> rfl
      obtain ⟨x1, hx1⟩ : ∃ x1 : ByteArray, x1 = S ++ h := ⟨_, rfl⟩
      obtain ⟨x2, hx2⟩ : ∃ x2 : ByteArray, x2 = x1 ++ t := ⟨_, rfl⟩
      have zx1 : x1.size = 7 + h.size := by rw [hx1, ByteArray.size_append, hSz]
      have zx2 : x2.size ≤ 100000 := by rw [hx2, ByteArray.size_append, zx1]; omega
      have s1 : ∀ wx, (Op.stringOp .add S h).run Tryd.prog wx = .ok (.string x1) wx := fun wx => by
        rw [hx1]; exact run_string_add_sum wx _ _ (by omega)
      have s2 : ∀ wx, (Op.stringOp .add x1 t).run Tryd.prog wx = .ok (.string x2) wx := fun wx => by
        rw [hx2]; exact run_string_add_sum wx _ _ (by omega)
      have HV2 : Hid (parseV (parseU (bs x2) (bs otherT)) = .tuple #[.agg #[.string N, .int .i64 kk, .string P, .string Q, .bool b], .int .i64 e]) := Lib.hid (by
        have eb : bs x2 = bs S ++ bs h ++ bs t := by
          rw [hx2, hx1]
          show bs (⟨(bs S).toArray⟩ ++ ⟨(bs h).toArray⟩ ++ ⟨(bs t).toArray⟩) = _
          rw [cat_mk, cat_mk]
        rw [eb, forms_same (bs otherT) (by rw [bs_length, hSz]) (by rw [hS]; exact scheme_both up) HTT.out hall, hv]; rfl)
      clear hv hall hx1 hx2 zx1 hSz
      cases up
      all_goals
        simp only [if_true, Bool.false_eq_true, if_false] at hS
        subst hS
        go_wp2_with fail
        refine (parse_any t h _ (by omega) (by omega) HM.out).mono ?_
        rintro e1 w1 ⟨rfl, b1⟩
        rw [HV.out]
        have R1 := RowAt.new w1 (uriC N kk P Q b) 23
        have b2 := below_step b1 (below_alloc w1 (.cells (uriC N kk P Q b).toArray 23))
        have HM2 := Lib.hid (HM.out.below b2)
        go_wp2_with fail
        refine (parse_any x2 otherT _ zx2 (show (13 : Nat) ≤ 100000 by omega) HM2.out).mono ?_
        rintro e4 w4 ⟨rfl, hb4⟩
        rw [HV2.out]
        have R4 := R1.below hb4
        have b4 := below_step b2 hb4
        have b5 := below_step b4 (below_alloc w4 (.cells (uriC N kk P Q b).toArray 23))
        have HM5 := Lib.hid (HM.out.below b5)
        have HT5 := Lib.hid (HT.out.below b5)
        have d0 := R4.cell 0 rfl
        have d1 := R4.cell 1 rfl
        have d2 := R4.cell 2 rfl
        have d3 := R4.cell 3 rfl
        have d4 := R4.cell 4 rfl
        have z4 := R4.lt
        clear hb4 b2 R1 b4 HM2 b1
        go_wp2_with fail
        refine (awake4_any _ HT5.out HM5.out).mono ?_
        rintro e6 w6 ⟨rfl, hb6⟩
        go_wp2_with fail
        go_ret
        exact ⟨rfl, below_step b5 hb6⟩
end Go.Proofs.YtjogahfllmhpcaaDoor
