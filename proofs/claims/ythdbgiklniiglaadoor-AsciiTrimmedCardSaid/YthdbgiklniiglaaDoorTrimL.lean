/- The walks of the statements on case and on Trim (1.2): each returns true. -/
import Derived.Test.YthdbgiklniiglaaDoorTrimW
import Derived.Test.YthdbgiklniiglaaDoorAsciiL
import Derived.Test.YthdbgiklniiglaaDoorPost
namespace Go.Proofs.YthdbgiklniiglaaDoor
open Go.RowKit

theorem pow_of_pin {W : World} (h : laidMetH Tryd.prog Rows.asciiTrimmedRow.laid W) : PowTab W := by
  rw [MakeChecks.laidMetH_plain _ _ _ (by kernel_rfl)] at h
  obtain ⟨ps, hv, _⟩ := h
  obtain ⟨q1, hv1⟩ := laid_rest hv
  obtain ⟨q2, hv2⟩ := laid_rest hv1
  exact laid_tab (g := 3) (t := 101) (e := 91) (n := 20) (by kernel_rfl) (by kernel_rfl) Tryd.underlying101 Tryd.underlying91 (by kernel_rfl) (by kernel_rfl) hv2
theorem down_step {w w1 w2 : World} (h : Below w.heap.size w w1) (h' : Below w1.heap.size w1 w2) : Below w.heap.size w w2 := h.trans (h'.mono h.size)
set_option maxHeartbeats 800000 in
theorem asciiCases_walk (a b : ByteArray) (w : World) (_ : a.size ≤ 9223372036854775807) (_ : b.size ≤ 9223372036854775807) (htab : PowTab w) :
    Calls Tryd.prog 15 #[.string a, .string b] w fun e w' => e = .returned (.bool true) ∧ Below w.heap.size w w' := by
  have HT := Lib.hid htab
  clear htab
  by_cases k1 : 3000 < (a.size : Int)
  · go_enter Tryd.func15, Tryd.ntmps15
    go_wp2_with fail
    go_ret
    exact ⟨rfl, Below.refl _ _⟩
  by_cases k2 : 3000 < (b.size : Int)
  · go_enter Tryd.func15, Tryd.ntmps15
    go_wp2_with fail
    go_ret
    exact ⟨rfl, Below.refl _ _⟩
  obtain ⟨x, HX⟩ : ∃ x : ByteArray, Hid (x = ⟨(lowL (bs a)).toArray⟩) := ⟨_, Lib.hid rfl⟩
  obtain ⟨y, HY⟩ : ∃ y : ByteArray, Hid (y = ⟨(trimL (bs a)).toArray⟩) := ⟨_, Lib.hid rfl⟩
  go_enter Tryd.func15, Tryd.ntmps15
  go_wp2_with fail
  refine (lower_any a _ (by omega)).mono ?_
  rintro e w1 ⟨rfl, hb1⟩
  rw [← HX.out]
  have T1 := Lib.hid (HT.out.below hb1)
  go_wp2_with fail
  refine (rlower_any a _ (by omega)).mono ?_
  rintro e w2 ⟨rfl, hb2⟩
  rw [← HX.out]
  have T2 := Lib.hid (T1.out.below hb2)
  have b2 := down_step hb1 hb2
  clear hb1 hb2
  go_wp2_with fail
  refine (fold_any a b _ (by omega) (by omega)).mono ?_
  rintro e w3 ⟨rfl, hb3⟩
  have T3 := Lib.hid (T2.out.below hb3)
  have b3 := down_step b2 hb3
  clear b2 hb3
  go_wp2_with fail
  refine (rfold_any a b _ (by omega) (by omega)).mono ?_
  rintro e w4 ⟨rfl, hb4⟩
  generalize foldB (bs a) (bs b) = f
  have T4 := Lib.hid (T3.out.below hb4)
  have b4 := down_step b3 hb4
  clear b3 hb4
  go_wp2_with fail
  refine (trim_any a _ (by omega)).mono ?_
  rintro e w5 ⟨rfl, hb5⟩
  rw [← HY.out]
  have T5 := Lib.hid (T4.out.below hb5)
  have b5 := down_step b4 hb5
  clear b4 hb5
  go_wp2_with fail
  refine (rtrim_any a _ (by omega)).mono ?_
  rintro e w' ⟨rfl, rfl⟩
  rw [← HY.out]
  go_wp2_with fail
  refine (awake_any _ T5.out).mono ?_
  rintro e w6 ⟨rfl, hb6⟩
  go_wp2_with fail
  go_ret
  exact ⟨rfl, down_step b5 hb6⟩
theorem blank_snoc {p : List UInt8} {c : UInt8} (h : ∀ x ∈ p, blankC x = true) (hc : blankC c = true) : ∀ x ∈ p ++ [c], blankC x = true := fun x hx => by
  rcases List.mem_append.1 hx with hx | hx
  · exact h x hx
  · rw [List.mem_singleton.1 hx]; exact hc
theorem blank_cons {p : List UInt8} {c : UInt8} (h : ∀ x ∈ p, blankC x = true) (hc : blankC c = true) : ∀ x ∈ c :: p, blankC x = true := fun x hx => by
  rcases List.mem_cons.1 hx with rfl | hx
  · exact hc
  · exact h x hx
theorem bs_front (c : UInt8) (t : ByteArray) {l : List UInt8} (h : bs t = l) : bs ((⟨#[c]⟩ : ByteArray) ++ t) = c :: l := by rw [← h]; simp [bs]
theorem bs_back (c : UInt8) (t : ByteArray) {l : List UInt8} (h : bs t = l) : bs (t ++ (⟨#[c]⟩ : ByteArray)) = l ++ [c] := by rw [← h]; simp [bs]
theorem size_front (c : UInt8) (t : ByteArray) : ((⟨#[c]⟩ : ByteArray) ++ t).size = t.size + 1 := by rw [ByteArray.size_append]; show 1 + _ = _; omega
theorem size_back (c : UInt8) (t : ByteArray) : (t ++ (⟨#[c]⟩ : ByteArray)).size = t.size + 1 := by rw [ByteArray.size_append]; rfl
theorem parity (k : Nat) : (k : Int) % 2 = 0 ∨ (k : Int) % 2 = 1 := by omega
/-- The text with some blanks ahead and behind. -/
def PadOf (s t : ByteArray) (p q : List UInt8) : Prop := bs t = p ++ (bs s ++ q) ∧ (∀ x ∈ p, blankC x = true) ∧ (∀ x ∈ q, blankC x = true)
theorem PadOf.start (s : ByteArray) : PadOf s s [] [] := ⟨by simp, by simp, by simp⟩
theorem PadOf.front {s t : ByteArray} {p q : List UInt8} (h : PadOf s t p q) {c : UInt8} (hc : blankC c = true) : PadOf s (⟨#[c]⟩ ++ t) (c :: p) q := ⟨by rw [bs_front c t h.1]; rfl, blank_cons h.2.1 hc, h.2.2⟩
theorem PadOf.back {s t : ByteArray} {p q : List UInt8} (h : PadOf s t p q) {c : UInt8} (hc : blankC c = true) : PadOf s (t ++ ⟨#[c]⟩) p (q ++ [c]) := ⟨by rw [bs_back c t h.1]; simp, h.2.1, blank_snoc h.2.2 hc⟩
theorem PadOf.trim {s t : ByteArray} {p q : List UInt8} (h : PadOf s t p q) : trimL (bs t) = trimL (bs s) := by rw [h.1, trimL_pad h.2.1 h.2.2]
set_option maxHeartbeats 3200000 in
theorem asciiTrimmed_walk (m n : Int) (s : ByteArray) (w : World) (_ : (Lit.int .i64 m).wf = true) (_ : (Lit.int .i64 n).wf = true) (_ : s.size ≤ 9223372036854775807) (htab : PowTab w) :
    Calls Tryd.prog 14 #[.int .i64 m, .int .i64 n, .string s] w fun e w' => e = .returned (.bool true) ∧ Below w.heap.size w w' := by
  have HT := Lib.hid htab
  clear htab
  by_cases k1 : 1000 < (s.size : Int)
  · go_enter Tryd.func14, Tryd.ntmps14
    go_wp2_with fail
    go_ret
    exact ⟨rfl, Below.refl _ _⟩
  by_cases k2 : m < 0
  · go_enter Tryd.func14, Tryd.ntmps14
    go_wp2_with fail
    go_ret
    exact ⟨rfl, Below.refl _ _⟩
  by_cases k3 : 20 < m
  · go_enter Tryd.func14, Tryd.ntmps14
    go_wp2_with fail
    go_ret
    exact ⟨rfl, Below.refl _ _⟩
  by_cases k4 : n < 0
  · go_enter Tryd.func14, Tryd.ntmps14
    go_wp2_with fail
    go_ret
    exact ⟨rfl, Below.refl _ _⟩
  by_cases k5 : 20 < n
  · go_enter Tryd.func14, Tryd.ntmps14
    go_wp2_with fail
    go_ret
    exact ⟨rfl, Below.refl _ _⟩
  have c32 : blankC 32 = true := by decide
  have c9 : blankC 9 = true := by decide
  have C32 := Lib.hid c32
  have C9 := Lib.hid c9
  clear c32 c9
  go_enter Tryd.func14, Tryd.ntmps14
  go_wp2_with fail
  go_loopw [7, 8] (fun v i wr => ∃ (k : Nat) (t : ByteArray) (p : List UInt8), (k : Int) ≤ m ∧ i = .int .i64 k ∧ v = .string t ∧ t.size ≤ s.size + k ∧ Hid (PadOf s t p []) ∧ Below w.heap.size w wr) (fun _ i _ => (m - intOf i).toNat)
  case atStart => exact ⟨0, s, [], by omega, rfl, rfl, by omega, Lib.hid (PadOf.start s), Below.refl _ _⟩
  case round =>
    obtain ⟨k, t, p, hk, rfl, rfl, ht, H, hb⟩ := hrel
    by_cases hlt : (k : Int) < m
    · have hz := hb.size
      rcases parity k with hp | hp
      · go_wp2
        go_roundw
        case rel => exact ⟨k + 1, _, _, by omega, by go_num, rfl, by rw [size_front]; omega, Lib.hid (H.out.front C32.out), hb.alloc hz _⟩
        case measure => simp [intOf]; omega
      · go_wp2
        go_roundw
        case rel => exact ⟨k + 1, _, _, by omega, by go_num, rfl, by rw [size_front]; omega, Lib.hid (H.out.front C9.out), hb.alloc hz _⟩
        case measure => simp [intOf]; omega
    · obtain ⟨wo, rfl⟩ : ∃ wo : World, wo = wr := ⟨_, rfl⟩
      go_wp2_with fail
      go_loopw [7, 9] (fun v i wr => ∃ (k' : Nat) (u : ByteArray) (q : List UInt8), (k' : Int) ≤ n ∧ i = .int .i64 k' ∧ v = .string u ∧ u.size ≤ s.size + 20 + k' ∧ Hid (PadOf s u p q) ∧ Below w.heap.size w wr) (fun _ i _ => (n - intOf i).toNat)
      case atStart => exact ⟨0, t, [], by omega, rfl, rfl, by omega, H, hb⟩
      case round =>
        clear hb H
        obtain ⟨k', u, q, hk', rfl, rfl, hu, H, hb⟩ := hrel
        by_cases hlt' : (k' : Int) < n
        · have hz := hb.size
          rcases parity k' with hp | hp
          · go_wp2
            go_roundw
            case rel => exact ⟨k' + 1, _, _, by omega, by go_num, rfl, by rw [size_back]; omega, Lib.hid (H.out.back C9.out), hb.alloc hz _⟩
            case measure => simp [intOf]; omega
          · go_wp2
            go_roundw
            case rel => exact ⟨k' + 1, _, _, by omega, by go_num, rfl, by rw [size_back]; omega, Lib.hid (H.out.back C32.out), hb.alloc hz _⟩
            case measure => simp [intOf]; omega
        · have HP := Lib.hid H.out.trim
          have T0 := Lib.hid (HT.out.below hb)
          obtain ⟨x, HX⟩ : ∃ x : ByteArray, Hid (x = ⟨(trimL (bs s)).toArray⟩) := ⟨_, Lib.hid rfl⟩
          have HXX : Hid ((⟨(trimL (bs x)).toArray⟩ : ByteArray) = x) := Lib.hid (by rw [HX.out, bs_mk, trimL_trim])
          have zx : x.size ≤ 3000 := by
            have := trimL_len (bs s)
            rw [HX.out, size_of_list]; rw [bs_length] at this; omega
          go_wp2_with fail
          refine (trim_any s _ (by omega)).mono ?_
          rintro e w1 ⟨rfl, hb1⟩
          rw [← HX.out]
          have T1 := Lib.hid (T0.out.below hb1)
          have b1 := hb.trans (hb1.mono hb.size)
          clear hb hb1
          go_wp2_with fail
          refine (trim_any u _ (by omega)).mono ?_
          rintro e w2 ⟨rfl, hb2⟩
          rw [HP.out, ← HX.out]
          have T2 := Lib.hid (T1.out.below hb2)
          have b2 := b1.trans (hb2.mono b1.size)
          clear b1 hb2
          go_wp2_with fail
          refine (trim_any x _ (by omega)).mono ?_
          rintro e w3 ⟨rfl, hb3⟩
          rw [HXX.out]
          have T3 := Lib.hid (T2.out.below hb3)
          have b3 := b2.trans (hb3.mono b2.size)
          clear b2 hb3
          go_wp2_with fail
          refine (awake_any _ T3.out).mono ?_
          rintro e w4 ⟨rfl, hb4⟩
          go_wp2_with fail
          go_ret
          exact ⟨rfl, b3.trans (hb4.mono b3.size)⟩
end Go.Proofs.YthdbgiklniiglaaDoor
