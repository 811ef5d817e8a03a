/- The walks of the statements on layer 11 (language): tags, matches, case. -/
import Derived.Test.YtfkgjjoejcbdnaaDoorLangW4
import Derived.Test.YtfkgjjoejcbdnaaDoorLangW5
import Derived.Test.YtfkgjjoejcbdnaaDoorPost
import Derived.OpenShut
namespace Go.Proofs.YtfkgjjoejcbdnaaDoor
open Go.RowKit

def MaxOf (w : World) : Prop := ∃ m, w.cell? ⟨0, 0, none⟩ = some (.int .i64 m)
theorem max_of_shape {W : World} (h : W.ShapedOpen Tryd.prog) : MaxOf W := Tryd.laysM146.s1_3 W h
theorem MaxOf.lt {w : World} (h : MaxOf w) : 0 < w.heap.size := by
  obtain ⟨m, hm⟩ := h
  rcases Nat.lt_or_ge 0 w.heap.size with hlt | hge
  · exact hlt
  · unfold World.cell? at hm
    rw [Array.getElem?_eq_none hge] at hm; cases hm
theorem MaxOf.below {w w' : World} {B : Nat} (h : MaxOf w) (hb : Below B w w') (hB : 0 < B) : MaxOf w' := by
  obtain ⟨m, hm⟩ := h
  exact ⟨m, (hb.cell (p := ⟨0, 0, none⟩) hB).trans hm⟩
abbrev zhA : ByteArray := ⟨#[122, 104]⟩
abbrev zhB : ByteArray := ⟨#[122, 104, 45, 72, 97, 110, 116]⟩
abbrev zhC : ByteArray := ⟨#[122, 104, 45, 72, 97, 110, 116, 45, 120, 45, 97, 98, 99]⟩
abbrev deA : ByteArray := ⟨#[100, 101]⟩
abbrev deB : ByteArray := ⟨#[100, 101, 45, 67, 72]⟩
theorem awake_look : lookI (bs zhC) ([zhA, zhB].map bs) = 1 := by decide +kernel
theorem awake_match : matchI (bs deA) (bs deB) = 1 := by decide +kernel
theorem str_two (w : World) (t : TypeId) : StrO (w.alloc (.cells #[.string zhA, .string zhB] t)) (some ⟨w.heap.size, 0, none⟩) [zhA, zhB] := fun i x hx => by
  refine ⟨_, rfl, ?_⟩
  have e : (⟨w.heap.size, 0, none⟩ : Addr).add i = ⟨w.heap.size, i, none⟩ := by unfold Addr.add; by_cases h0 : i = 0 <;> simp [h0]
  rw [e, World.cell?_alloc_mark w _ t _ i]
  rcases i with _ | _ | i
  · simpa using hx
  · simpa using hx
  · simp at hx
set_option maxHeartbeats 400000 in
theorem awake11_any (w : World) (hM : MaxOf w) :
    Calls Tryd.prog 13 #[] w fun e w' => e = .returned (.bool true) ∧ Below w.heap.size w w' := by
  have HM := Lib.hid hM
  have hlt := hM.lt
  have H := Lib.hid awake_look
  have H2 := Lib.hid awake_match
  clear hM
  go_enter Tryd.func13, Tryd.ntmps13
  go_wp2_with fail
  refine (lookup_any zhC (some ⟨w.heap.size, 0, none⟩) [zhA, zhB] 2 _ (m := HM.out.choose) (by decide) (by decide) (by decide) (str_two w _) ?_).mono ?_
  · exact (Below.cell (B := w.heap.size) ((Below.refl _ _).alloc (Nat.le_refl _) _) (p := ⟨0, 0, none⟩) hlt).trans HM.out.choose_spec
  rintro e w1 ⟨rfl, hb1⟩
  rw [H.out]
  have b1 : Below w.heap.size w w1 := ((Below.refl _ _).alloc (Nat.le_refl _) _).trans (hb1.mono (by simp))
  have HM1 := Lib.hid (HM.out.below b1 hlt)
  clear hb1
  go_wp2_with fail
  refine (match_any deA deB _ HM1.out.choose (by decide) (by decide) HM1.out.choose_spec HM1.out.lt).mono ?_
  rintro e w2 ⟨rfl, hb2⟩
  rw [H2.out]
  go_wp2_with fail
  go_ret
  exact ⟨rfl, below_step b1 hb2⟩
set_option maxHeartbeats 800000 in
theorem languageTags_walk (s : ByteArray) (w : World) (_ : s.size ≤ 9223372036854775807) (hM : MaxOf w) :
    Calls Tryd.prog 3 #[.string s] w fun e w' => e = .returned (.bool true) ∧ Below w.heap.size w w' := by
  have HM := Lib.hid hM
  have hlt := hM.lt
  clear hM
  by_cases hl : 2000 < (s.size : Int)
  · go_enter Tryd.func3, Tryd.ntmps3
    go_wp2_with fail
    go_ret
    exact ⟨rfl, Below.refl _ _⟩
  obtain ⟨x, HX⟩ : ∃ x : Bool, Hid (x = tagB (bs s)) := ⟨_, Lib.hid rfl⟩
  obtain ⟨y, HY⟩ : ∃ y : Bool, Hid (y = rangeB (bs s)) := ⟨_, Lib.hid rfl⟩
  have hx : (x == x) = true := by simp
  have hy : (y == y) = true := by simp
  go_enter Tryd.func3, Tryd.ntmps3
  go_wp2_with fail
  refine (tag_any s _ HM.out.choose (by omega) HM.out.choose_spec).mono ?_
  rintro e w1 ⟨rfl, b1⟩
  rw [← HX.out]
  have HM1 := Lib.hid (HM.out.below b1 hlt)
  go_wp2_with fail
  refine (rtag_any s _ (by omega)).mono ?_
  rintro e w2 ⟨rfl, hb2⟩
  rw [← HX.out]
  have b2 := below_step b1 hb2
  have HM2 := Lib.hid (HM.out.below b2 hlt)
  clear hb2 b1
  go_wp2_with fail
  refine (range_any s _ HM2.out.choose (by omega) HM2.out.choose_spec).mono ?_
  rintro e w3 ⟨rfl, hb3⟩
  rw [← HY.out]
  have b3 := below_step b2 hb3
  clear hb3 b2
  go_wp2_with fail
  refine (rrange_any s _ (by omega)).mono ?_
  rintro e w4 ⟨rfl, hb4⟩
  rw [← HY.out]
  have b4 := below_step b3 hb4
  have HM4 := Lib.hid (HM.out.below b4 hlt)
  clear hb4 b3
  go_wp2_with fail
  refine (awake11_any _ HM4.out).mono ?_
  rintro e w5 ⟨rfl, hb5⟩
  go_wp2_with fail
  go_ret
  exact ⟨rfl, below_step b4 hb5⟩
set_option maxHeartbeats 800000 in
theorem languageMatches_walk (r t : ByteArray) (w : World) (_ : r.size ≤ 9223372036854775807) (_ : t.size ≤ 9223372036854775807) (hM : MaxOf w) :
    Calls Tryd.prog 4 #[.string r, .string t] w fun e w' => e = .returned (.bool true) ∧ Below w.heap.size w w' := by
  have HM := Lib.hid hM
  have hlt := hM.lt
  clear hM
  by_cases hl : 1000 < (r.size : Int)
  · go_enter Tryd.func4, Tryd.ntmps4
    go_wp2_with fail
    go_ret
    exact ⟨rfl, Below.refl _ _⟩
  by_cases hl' : 1000 < (t.size : Int)
  · go_enter Tryd.func4, Tryd.ntmps4
    go_wp2_with fail
    go_ret
    exact ⟨rfl, Below.refl _ _⟩
  obtain ⟨x, HX⟩ : ∃ x : Int, Hid (x = rmatchI (bs r) (bs t)) := ⟨_, Lib.hid rfl⟩
  have HX' := Lib.hid (match_same (bs r) (bs t))
  have hx : (x == x) = true := by simp
  go_enter Tryd.func4, Tryd.ntmps4
  go_wp2_with fail
  refine (match_any r t _ HM.out.choose (by omega) (by omega) HM.out.choose_spec hlt).mono ?_
  rintro e w1 ⟨rfl, b1⟩
  rw [HX'.out, ← HX.out]
  go_wp2_with fail
  refine (rmatch_any r t _ (by omega) (by omega)).mono ?_
  rintro e w2 ⟨rfl, hb2⟩
  rw [← HX.out]
  have b2 := below_step b1 hb2
  have HM2 := Lib.hid (HM.out.below b2 hlt)
  clear hb2 b1
  go_wp2_with fail
  refine (awake11_any _ HM2.out).mono ?_
  rintro e w5 ⟨rfl, hb5⟩
  go_wp2_with fail
  go_ret
  exact ⟨rfl, below_step b2 hb5⟩
end Go.Proofs.YtfkgjjoejcbdnaaDoor
