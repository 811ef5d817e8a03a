/- The walk of the statement LanguageCases. -/
import Derived.Test.YtfkgjjoejcbdnaaDoorLangL
import Derived.Test.YtfkgjjoejcbdnaaDoorLangR
namespace Go.Proofs.YtfkgjjoejcbdnaaDoor
open Go.RowKit

theorem str_one (w : World) (t : TypeId) (x : ByteArray) : StrAt (w.alloc (.cells #[.string x] t)) ⟨w.heap.size, 0, none⟩ [x] := fun i y hx => by
  have e : (⟨w.heap.size, 0, none⟩ : Addr).add i = ⟨w.heap.size, i, none⟩ := by unfold Addr.add; by_cases h0 : i = 0 <;> simp [h0]
  rw [e, World.cell?_alloc_mark w _ t _ i]
  rcases i with _ | i
  · simpa using hx
  · simp at hx
/-- Lookup in a list of one that was just made. -/
theorem lookup_one (r x : ByteArray) (t : TypeId) (w : World) (hr : r.size ≤ 100000) (hx : x.size ≤ 100000) (hM : MaxOf w) :
    Calls Tryd.prog 17 #[.string r, .slice (some ⟨w.heap.size, 0, none⟩) 1 1] (w.alloc (.cells #[.string x] t)) fun e w' => e = .returned (.int .i64 (lookI (bs r) [bs x])) ∧ Below w.heap.size w w' := by
  have hlt := hM.lt
  obtain ⟨m, hm⟩ := hM
  refine (lookup_any r ⟨w.heap.size, 0, none⟩ [x] 1 _ m hr (by intro y hy; rw [List.mem_singleton] at hy; subst hy; exact hx) (by simp) (str_one w t x) (by show w.heap.size < _; simp) ?_).mono ?_
  · exact (Below.cell (B := w.heap.size) ((Below.refl _ _).alloc (Nat.le_refl _) _) (p := ⟨0, 0, none⟩) hlt).trans hm
  rintro e w1 ⟨rfl, hb1⟩
  exact ⟨rfl, ((Below.refl _ _).alloc (Nat.le_refl _) _).trans (hb1.mono (by simp))⟩
theorem lookI_low1 (r x : List UInt8) : lookI (lowL r) [lowL x] = lookI r [x] := lookI_low r [x]
set_option maxHeartbeats 800000 in
theorem languageCases_walk (r t : ByteArray) (w : World) (_ : r.size ≤ 9223372036854775807) (_ : t.size ≤ 9223372036854775807) (hM : MaxOf w) :
    Calls Tryd.prog 5 #[.string r, .string t] w fun e w' => e = .returned (.bool true) ∧ Below w.heap.size w w' := by
  have HM := Lib.hid hM
  have hlt := hM.lt
  clear hM
  by_cases hl : 300 < (r.size : Int)
  · go_enter Tryd.func5, Tryd.ntmps5
    go_wp2_with fail
    go_ret
    exact ⟨rfl, Below.refl _ _⟩
  by_cases hl' : 300 < (t.size : Int)
  · go_enter Tryd.func5, Tryd.ntmps5
    go_wp2_with fail
    go_ret
    exact ⟨rfl, Below.refl _ _⟩
  obtain ⟨x, HX⟩ : ∃ x : Int, Hid (x = matchI (bs r) (bs t)) := ⟨_, Lib.hid rfl⟩
  obtain ⟨y, HY⟩ : ∃ y : Int, Hid (y = lookI (bs r) [bs t]) := ⟨_, Lib.hid rfl⟩
  have hx : (x == x) = true := by simp
  have hy : (y == y) = true := by simp
  go_enter Tryd.func5, Tryd.ntmps5
  go_wp2_with fail
  refine (rlower_any r _ (by omega)).mono ?_
  rintro e w1 ⟨rfl, b1⟩
  obtain ⟨lr, HLR⟩ : ∃ x : ByteArray, Hid (x = ⟨(lowL (bs r)).toArray⟩) := ⟨_, Lib.hid rfl⟩
  rw [← HLR.out]
  have zlr : lr.size = r.size := by
    have : lr.size = (lowL (bs r)).length := by rw [HLR.out]; rfl
    rw [this, lowL_length, bs_length]
  have EL : Hid (bs lr = lowL (bs r)) := Lib.hid (by rw [HLR.out])
  go_wp2_with fail
  refine (rlower_any t _ (by omega)).mono ?_
  rintro e w2 ⟨rfl, hb2⟩
  obtain ⟨lt, HLT⟩ : ∃ x : ByteArray, Hid (x = ⟨(lowL (bs t)).toArray⟩) := ⟨_, Lib.hid rfl⟩
  rw [← HLT.out]
  have zlt : lt.size = t.size := by
    have : lt.size = (lowL (bs t)).length := by rw [HLT.out]; rfl
    rw [this, lowL_length, bs_length]
  have ET : Hid (bs lt = lowL (bs t)) := Lib.hid (by rw [HLT.out])
  have b2 := below_step b1 hb2
  have HM2 := Lib.hid (HM.out.below b2 hlt)
  clear hb2 b1
  go_wp2_with fail
  refine (match_any r t _ HM2.out.choose (by omega) (by omega) HM2.out.choose_spec HM2.out.lt).mono ?_
  rintro e w3 ⟨rfl, hb3⟩
  rw [← HX.out]
  have b3 := below_step b2 hb3
  have HM3 := Lib.hid (HM.out.below b3 hlt)
  clear hb3 b2
  go_wp2_with fail
  refine (match_any lr lt _ HM3.out.choose (by omega) (by omega) HM3.out.choose_spec HM3.out.lt).mono ?_
  rintro e w4 ⟨rfl, hb4⟩
  rw [EL.out, ET.out, matchI_low, ← HX.out]
  have b4 := below_step b3 hb4
  have HM4 := Lib.hid (HM.out.below b4 hlt)
  clear hb4 b3
  go_wp2_with fail
  refine (lookup_one r t _ _ (by omega) (by omega) HM4.out).mono ?_
  rintro e w5 ⟨rfl, hb5⟩
  rw [← HY.out]
  have b5 := below_step b4 hb5
  have HM5 := Lib.hid (HM.out.below b5 hlt)
  clear hb5 b4
  go_wp2_with fail
  refine (lookup_one lr lt _ _ (by omega) (by omega) HM5.out).mono ?_
  rintro e w6 ⟨rfl, hb6⟩
  rw [EL.out, ET.out, lookI_low1, ← HY.out]
  have b6 := below_step b5 hb6
  have HM6 := Lib.hid (HM.out.below b6 hlt)
  clear hb6 b5
  go_wp2_with fail
  refine (awake11_any _ HM6.out).mono ?_
  rintro e w7 ⟨rfl, hb7⟩
  go_wp2_with fail
  go_ret
  exact ⟨rfl, below_step b6 hb7⟩
end Go.Proofs.YtfkgjjoejcbdnaaDoor
