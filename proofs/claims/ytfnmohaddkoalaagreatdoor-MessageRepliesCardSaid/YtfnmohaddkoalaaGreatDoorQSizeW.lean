/- The walks of the sizes of chunks and of what stands behind a chunk (5.3), of the program and of the reference. Printed by gen_sizew.py. -/
import Derived.Test.YtfnmohaddkoalaaGreatDoorQSizeP
import Derived.Test.YtfnmohaddkoalaaGreatDoorQFieldX
import Derived.Test.YtfnmohaddkoalaaGreatDoorQHexR
import Derived.Test.YtfnmohaddkoalaaGreatDoorQPre
namespace Go.Proofs.YtfnmohaddkoalaaGreatDoor
open Go.RowKit Go.Shelf
set_option linter.unusedSimpArgs false

abbrev hexTc : ByteArray := ⟨#[48, 49, 50, 51, 52, 53, 54, 55, 56, 57, 97, 98, 99, 100, 101, 102]⟩
theorem hexc_index : ∀ n : Fin 256, Lib.indexByte hexTc.data.toList (lowC (UInt8.ofNat n.val)) = hexV (UInt8.ofNat n.val) := by decide +kernel
theorem hexc_at (c : UInt8) : Lib.indexByte hexTc.data.toList (lowC c) = hexV c := by
  have := hexc_index ⟨c.toNat, c.toNat_lt⟩
  simpa using this
theorem p16 {k : Nat} (h : k ≤ 8) : 16 ^ k ≤ 4294967296 := by
  have := Nat.pow_le_pow_right (n := 16) (by omega) h
  have e : (16 : Nat) ^ 8 = 4294967296 := by decide
  omega
theorem p16' {k : Nat} (h : k < 8) : 16 ^ k ≤ 268435456 := by
  have := Nat.pow_le_pow_right (n := 16) (by omega) (show k ≤ 7 by omega)
  have e : (16 : Nat) ^ 7 = 268435456 := by decide
  omega
theorem low_get (l : List UInt8) {k : Nat} (h : k < l.length) : (lowL l)[k]'(by rw [lowL_length]; exact h) = lowC l[k] := by
  unfold lowL
  simp
set_option maxHeartbeats 3200000 in
theorem size_any (s : ByteArray) (w : World) (hs : s.size ≤ 100000) (hM : MaxOf w) :
    Calls Tryz.prog 79 #[.string s] w fun e w' => e = .returned (chSizeV (sizeL (bs s))) ∧ Below w.heap.size w w' := by
  have zl := cutB_len 59 (bs s)
  rw [bs_length] at zl
  have HNO := Lib.hid (sizeL_no (l := bs s))
  have HGO := Lib.hid (sizeL_go (l := bs s))
  have HC := Lib.hid (cut_any s 59 w (by omega) hM)
  obtain ⟨h, hh⟩ : ∃ h : ByteArray, h = ⟨(cutB 59 (bs s)).1.toArray⟩ := ⟨_, rfl⟩
  obtain ⟨d, hd⟩ : ∃ d : ByteArray, d = ⟨(cutB 59 (bs s)).2.1.toArray⟩ := ⟨_, rfl⟩
  have eh : (cutB 59 (bs s)).1 = bs h := by rw [hh]
  have ed : (cutB 59 (bs s)).2.1 = bs d := by rw [hd]
  simp only [eh, ed] at HNO HGO HC zl
  rw [bs_length, bs_length] at zl
  obtain ⟨x, hx⟩ : ∃ x, x = (cutB 59 (bs s)).2.2 := ⟨_, rfl⟩
  rw [← hx] at HC
  have eb : (⟨(bs h).toArray⟩ : ByteArray) = h := rfl
  have eb2 : (⟨(bs d).toArray⟩ : ByteArray) = d := rfl
  rw [eb, eb2] at HC
  obtain ⟨r, hr⟩ : ∃ r, r = sizeL (bs s) := ⟨_, rfl⟩
  rw [← hr] at HNO HGO ⊢
  clear eh ed hh hd hx eb eb2 hr hM
  go_enter Tryz.func79, Tryz.ntmps79
  go_wp2_with fail
  refine HC.out.mono ?_
  rintro e w1 ⟨rfl, b1⟩
  clear HC
  by_cases hz : h.size = 0
  · obtain ⟨e1, e2⟩ := femp_yes hz
    have HF : Hid (r = none) := Lib.hid (HNO.out (by rw [e2]; rfl))
    clear hz e2
    go_wp2_with fail
    go_ret2
    exact ⟨by rw [HF.out]; rfl, b1⟩
  · obtain ⟨e1, e2⟩ := femp_no hz
    have e3 : (bs h).isEmpty = false := by cases hb : bs h with | nil => exact absurd hb e2 | cons => rfl
    by_cases h8 : 8 < (h.size : Int)
    · have HF : Hid (r = none) := Lib.hid (HNO.out (by rw [e3, bs_length]; simp; left; omega))
      clear hz e2 e3
      go_wp2_with fail
      go_ret2
      exact ⟨by rw [HF.out]; rfl, b1⟩
    · cases hx : textB (bs d) with
      | false =>
        have HF : Hid (r = none) := Lib.hid (HNO.out (by rw [hx]; simp))
        have HX := Lib.hid hx
        clear hz e2 e3 hx
        go_wp2_with fail
        refine (text_any d _ (by omega)).mono ?_
        rintro e w2 ⟨he, rfl⟩
        rw [HX.out] at he
        subst he
        go_wp2_with fail
        go_ret2
        exact ⟨by rw [HF.out]; rfl, b1⟩
      | true =>
        have HF : Hid (r = hexGo (bs h) 0) := Lib.hid (HGO.out (by rw [e3, hx, bs_length]; simp; omega))
        have HX := Lib.hid hx
        clear hz e2 e3 hx
        go_wp2_with fail
        refine (text_any d _ (by omega)).mono ?_
        rintro e w2 ⟨he, rfl⟩
        rw [HX.out] at he
        subst he
        go_wp2_with fail
        refine (lower_any h _ (by omega)).mono ?_
        rintro e w3 ⟨rfl, hb3⟩
        obtain ⟨g, hg⟩ : ∃ g : ByteArray, g = ⟨(lowL (bs h)).toArray⟩ := ⟨_, rfl⟩
        have hgb : bs g = lowL (bs h) := by rw [hg]
        have hgz : g.size = h.size := by rw [← bs_length, hgb, lowL_length, bs_length]
        rw [← hg]
        obtain ⟨cap, w4, hcv, hB, hb4, hsz⟩ := conv_to_bytes (P := Tryz.prog) 9 85 5 g w3 Tryz.underlying9 Tryz.underlying85 Tryz.underlying5
        rw [hgz] at hcv
        have b4 := step_b (step_b b1 hb3) hb4
        have HB := Lib.hid hB
        have HGB := Lib.hid hgb
        clear hg hgb hB hb3 hb4 b1
        go_wp2_with fail
        clear hcv hgz
        generalize w3.heap.size = gb at *
        go_loopw [7, 33] (fun a j wr => ∃ k n : Nat, k ≤ h.size ∧ j = .int .i64 k ∧ a = .int .i64 n ∧ Hid (hexGo (bs h) 0 = hexGo ((bs h).drop k) n) ∧ n < 16 ^ k ∧ Hid (BytesAt wr gb (bs g)) ∧ Below w.heap.size w wr) (fun _ j _ => h.size - (intOf j).toNat)
        case atStart => exact ⟨0, 0, by omega, rfl, rfl, Lib.hid rfl, by simp, HB, b4⟩
        case round =>
          clear HB b4
          obtain ⟨k, n, hk, rfl, rfl, HH, hnb, HB, hb⟩ := hrel
          by_cases hlt : k < h.size
          · have hlt' : (k : Int) < (h.size : Int) := by omega
            have hkl : k < (bs h).length := by rw [bs_length]; exact hlt
            have hkg : k < (bs g).length := by rw [HGB.out, lowL_length]; exact hkl
            have c0 := HB.out.cell k hkg
            obtain ⟨cc, hcc⟩ : ∃ cc : UInt8, cc = (bs g)[k] := ⟨_, rfl⟩
            rw [← hcc] at c0
            have hcl : cc = lowC h[k] := by
              rw [hcc]
              have e1 : (bs g)[k] = (lowL (bs h))[k]'(by rw [lowL_length]; exact hkl) := by simp only [HGB.out]
              rw [e1, low_get _ hkl]; rfl
            have HS := Lib.hid (hexGo_at h n hlt)
            obtain ⟨q, hq⟩ : ∃ q : Int, q = hexV h[k] := ⟨_, rfl⟩
            have HQ : Hid (Lib.indexByte hexTc.data.toList cc = q) := Lib.hid (by rw [hcl, hexc_at, hq])
            have hbd := hexV_bd h[k]
            rw [← hq] at hbd HS
            have hn8 := p16' (k := k) (by omega)
            have hpow : 16 ^ (k + 1) = 16 * 16 ^ k := by rw [Nat.pow_succ]; omega
            have HP := Lib.hid hpow
            clear hkl hkg hcc hcl hq hpow
            go_wp2_with fail
            refine (Tryz.strings_IndexByte hexTc (cc.toNat : Int) _).mono ?_
            rintro e w5 ⟨rfl, hw⟩
            rw [show ((cc.toNat : Int)).toNat.toUInt8 = cc from by simp, HQ.out, hw]
            clear c0
            by_cases hneg : q < 0
            · have HN : Hid (r = none) := Lib.hid (by rw [HF.out, HH.out, HS.out, if_pos hneg])
              clear hbd
              go_wp2_with fail
              go_ret2
              exact ⟨by rw [HN.out]; rfl, hb⟩
            · have HN : Hid (hexGo (bs h) 0 = hexGo ((bs h).drop (k + 1)) (16 * n + q.toNat)) := Lib.hid (by rw [HH.out, HS.out, if_neg hneg])
              obtain ⟨i, hi⟩ : ∃ i : Nat, q = i := ⟨q.toNat, by omega⟩
              subst hi
              have hi15 : i ≤ 15 := by omega
              have hn2 : 16 * n + i < 16 ^ (k + 1) := by rw [HP.out]; omega
              have ht : ((i : Int)).toNat = i := by omega
              rw [ht] at HN
              clear hbd HS HP ht
              go_wp2_with fail
              go_roundw
              case rel => exact ⟨k + 1, 16 * n + i, by omega, by go_num, by go_num, HN, hn2, HB, hb⟩
              case measure => simp [intOf]; omega
          · have HE : Hid (r = some n) := Lib.hid (by rw [HF.out, HH.out, hexGo_end h n (by omega)])
            have hlt' : ¬ (k : Int) < (h.size : Int) := by omega
            go_wp2_with fail
            go_ret2
            exact ⟨by rw [HE.out]; rfl, hb⟩
def crB (l : List UInt8) : Bool := l == [13]
theorem endE_2a {l : List UInt8} (h : l = []) : endE l = 2 := by unfold endE; rw [if_pos (.inl h)]
theorem endE_2b {l : List UInt8} (h : l = [13]) : endE l = 2 := by unfold endE; rw [if_pos (.inr h)]
theorem endE_ok' {l : List UInt8} (h0 : l ≠ []) (h1 : l ≠ [13]) (h : Lib.hasPrefix l [13, 10] = true) : endE l = 0 := by
  unfold endE
  rw [if_neg (by simp [h0, h1]), if_pos ?_]
  have := h
  unfold Lib.hasPrefix at this
  rw [List.isPrefixOf_iff_prefix] at this
  obtain ⟨t, rfl⟩ := this
  rfl
theorem endE_bad {l : List UInt8} (h0 : l ≠ []) (h1 : l ≠ [13]) (h : Lib.hasPrefix l [13, 10] = false) : endE l = 1 := by
  unfold endE
  rw [if_neg (by simp [h0, h1]), if_neg ?_]
  intro e
  have : Lib.hasPrefix l [13, 10] = true := by
    unfold Lib.hasPrefix
    rw [List.isPrefixOf_iff_prefix]
    exact ⟨l.drop 2, by rw [← e]; exact List.take_append_drop 2 l⟩
  rw [this] at h; cases h
set_option maxHeartbeats 1600000 in
theorem cend_any (s : ByteArray) (w : World) :
    Calls Tryz.prog 81 #[.string s] w fun e w' => e = .returned (.int .i64 (endE (bs s))) ∧ w = w' := by
  obtain ⟨r, hr⟩ : ∃ r, r = endE (bs s) := ⟨_, rfl⟩
  have HR := Lib.hid hr
  rw [← hr]
  clear hr
  by_cases hz : s.size = 0
  · obtain ⟨e1, e2⟩ := femp_yes hz
    have HF : Hid (r = 2) := Lib.hid (by rw [HR.out]; exact endE_2a e2)
    clear hz e2
    go_enter Tryz.func81, Tryz.ntmps81
    go_wp2_with fail
    go_ret
    exact ⟨ret_int HF.out.symm, rfl⟩
  · obtain ⟨e1, e2⟩ := femp_no hz
    cases hq : (s.toList == [13]) with
    | true =>
      have HF : Hid (r = 2) := Lib.hid (by rw [HR.out]; refine endE_2b ?_; rw [Lib.toList_data, beq_iff_eq] at hq; exact hq)
      clear hz e2
      go_enter Tryz.func81, Tryz.ntmps81
      go_wp2_with fail
      go_ret
      exact ⟨ret_int HF.out.symm, rfl⟩
    | false =>
      have h1 : bs s ≠ [13] := by rw [Lib.toList_data, beq_eq_false_iff_ne] at hq; exact hq
      cases hp : Lib.hasPrefix (bs s) [13, 10] with
      | true =>
        have HF : Hid (r = 0) := Lib.hid (by rw [HR.out]; exact endE_ok' e2 h1 hp)
        have HP : Hid (Lib.hasPrefix s.data.toList (⟨#[13, 10]⟩ : ByteArray).data.toList = true) := Lib.hid hp
        clear hz e2 h1 hp
        go_enter Tryz.func81, Tryz.ntmps81
        go_wp2_with fail
        refine (Tryz.strings_HasPrefix s ⟨#[13, 10]⟩ w).mono ?_
        rintro e w1 ⟨he, hw⟩
        rw [HP.out] at he
        subst he hw
        go_wp2_with fail
        go_ret
        exact ⟨ret_int HF.out.symm, rfl⟩
      | false =>
        have HF : Hid (r = 1) := Lib.hid (by rw [HR.out]; exact endE_bad e2 h1 hp)
        have HP : Hid (Lib.hasPrefix s.data.toList (⟨#[13, 10]⟩ : ByteArray).data.toList = false) := Lib.hid hp
        clear hz e2 h1 hp
        go_enter Tryz.func81, Tryz.ntmps81
        go_wp2_with fail
        refine (Tryz.strings_HasPrefix s ⟨#[13, 10]⟩ w).mono ?_
        rintro e w1 ⟨he, hw⟩
        rw [HP.out] at he
        subst he hw
        go_wp2_with fail
        go_ret
        exact ⟨ret_int HF.out.symm, rfl⟩
end Go.Proofs.YtfnmohaddkoalaaGreatDoor
