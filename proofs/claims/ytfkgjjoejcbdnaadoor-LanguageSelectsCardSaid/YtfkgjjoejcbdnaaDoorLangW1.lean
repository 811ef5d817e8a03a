/- The walks of layer 11: subtags, tags and ranges, of the program. -/
import Derived.Test.YtfkgjjoejcbdnaaDoorLangP
import Derived.Test.YtfkgjjoejcbdnaaDoorLowW
import Derived.Test.YtfkgjjoejcbdnaaDoorBufW
import Derived.Test.YtfkgjjoejcbdnaaDoorShelf
import Derived.Deep.QuietTactic
import Derived.BigQuiet
namespace Go.Proofs.YtfkgjjoejcbdnaaDoor
open Go.RowKit

theorem below_step {w w1 w2 : World} (h : Below w.heap.size w w1) (h' : Below w1.heap.size w1 w2) : Below w.heap.size w w2 := h.trans (h'.mono h.size)
theorem all_step' (p : UInt8 → Bool) (s : ByteArray) {k : Nat} (h : k < s.size) : ((bs s).drop k).all p = (p s[k] && ((bs s).drop (k + 1)).all p) := by rw [drop_step s h]; rfl
theorem all_end' (p : UInt8 → Bool) (s : ByteArray) {k : Nat} (h : s.size ≤ k) : ((bs s).drop k).all p = true := by rw [drop_end s h]; rfl
theorem low_at (s : ByteArray) {k : Nat} (h : k < s.size) (h' : k < (lowL (bs s)).length) : (lowL (bs s))[k] = lowC s[k] := by
  simp only [lowL, List.getElem_map]; rfl
/-- The ways of a byte of a subtag. -/
theorem sub_ways (d : Bool) (c : UInt8) :
    (subC d c = true ∧ 97 ≤ ((lowC c).toNat : Int) ∧ ((lowC c).toNat : Int) ≤ 122) ∨
    (subC d c = true ∧ d = true ∧ ((lowC c).toNat : Int) < 97 ∧ 48 ≤ ((lowC c).toNat : Int) ∧ ((lowC c).toNat : Int) ≤ 57) ∨
    (subC d c = false ∧ d = false ∧ ((lowC c).toNat : Int) < 97) ∨
    (subC d c = false ∧ d = false ∧ ¬ ((lowC c).toNat : Int) < 97 ∧ 122 < ((lowC c).toNat : Int)) ∨
    (subC d c = false ∧ d = true ∧ ((lowC c).toNat : Int) < 97 ∧ ((lowC c).toNat : Int) < 48) ∨
    (subC d c = false ∧ d = true ∧ ((lowC c).toNat : Int) < 97 ∧ ¬ ((lowC c).toNat : Int) < 48 ∧ 57 < ((lowC c).toNat : Int)) ∨
    (subC d c = false ∧ d = true ∧ ¬ ((lowC c).toNat : Int) < 97 ∧ 122 < ((lowC c).toNat : Int) ∧ ¬ ((lowC c).toNat : Int) < 48 ∧ 57 < ((lowC c).toNat : Int)) := by
  have ha := lowC_al c
  have hd := lowC_dig c
  unfold subC
  cases h1 : alC c with
  | true => have := ha.1 h1; left; exact ⟨rfl, by omega, by omega⟩
  | false =>
    have h1' : ¬ (97 ≤ (lowC c).toNat ∧ (lowC c).toNat ≤ 122) := fun h => by rw [ha.2 h] at h1; cases h1
    right
    cases d with
    | false =>
      right
      by_cases h2 : ((lowC c).toNat : Int) < 97
      · left; exact ⟨by simp, rfl, h2⟩
      · right; left; exact ⟨by simp, rfl, h2, by omega⟩
    | true =>
      cases h3 : digB c with
      | true => have := hd.1 h3; left; exact ⟨by simp, rfl, by omega, by omega, by omega⟩
      | false =>
        have h3' : ¬ (48 ≤ (lowC c).toNat ∧ (lowC c).toNat ≤ 57) := fun h => by rw [hd.2 h] at h3; cases h3
        right; right; right
        by_cases h2 : ((lowC c).toNat : Int) < 97
        · by_cases h4 : ((lowC c).toNat : Int) < 48
          · left; exact ⟨by simp, rfl, h2, h4⟩
          · right; left; exact ⟨by simp, rfl, h2, h4, by omega⟩
        · right; right; exact ⟨by simp, rfl, h2, by omega, by omega, by omega⟩
set_option maxHeartbeats 1600000 in
theorem subtag_any (s : ByteArray) (d : Bool) (w : World) (hs : s.size ≤ 9223372036854775807) :
    Calls Tryd.prog 25 #[.string s, .bool d] w fun e w' => e = .returned (.bool (subB d (bs s))) ∧ Below w.heap.size w w' := by
  go_enter Tryd.func25, Tryd.ntmps25
  go_wp2_with fail
  refine (lower_any s _ hs).mono ?_
  rintro e w1 ⟨rfl, hb1⟩
  have hll : (lowL (bs s)).length = s.size := by rw [lowL_length, bs_length]
  obtain ⟨x, HX⟩ : ∃ x : ByteArray, Hid (x = ⟨(lowL (bs s)).toArray⟩) := ⟨_, Lib.hid rfl⟩
  rw [← HX.out]
  have hxz : x.size = s.size := by rw [HX.out, ← bs_length]; exact hll
  have hxb : bs x = lowL (bs s) := by rw [HX.out]
  obtain ⟨cap, w2, hcv, hB, hbel, hsz⟩ := conv_to_bytes (P := Tryd.prog) 9 40 5 x w1 Tryd.underlying9 Tryd.underlying40 Tryd.underlying5
  rw [hxz] at hcv
  rw [hxb] at hB
  have HB := Lib.hid hB
  have b2 := below_step hb1 hbel
  have hll' := Lib.hid hll
  clear hxz hxb hB hb1 hbel hll hsz
  go_wp2_with fail
  clear hcv
  go_loop [11] (fun j => ∃ k : Nat, k ≤ s.size ∧ j = .int .i64 k ∧ Hid ((bs s).all (subC d) = ((bs s).drop k).all (subC d))) (fun j => s.size - (intOf j).toNat)
  case atStart => exact ⟨0, by omega, rfl, Lib.hid rfl⟩
  case round =>
    obtain ⟨k, hk, rfl, H⟩ := hrel
    by_cases hlt : k < s.size
    · have Hs := Lib.hid (all_step' (subC d) s hlt)
      have hc : w2.cell? ⟨w1.heap.size, k, none⟩ = some (.int .u8 ((lowC s[k]).toNat : Int)) := by
        have h' : k < (lowL (bs s)).length := by rw [hll'.out]; exact hlt
        rw [HB.out.cell k h', low_at s hlt h']
      have hcb : (lowC s[k]).toNat < 256 := UInt8.toNat_lt _
      rcases sub_ways d s[k] with ⟨hd, q1, q2⟩ | ⟨hd, rfl, q1, q2, q3⟩ | ⟨hd, rfl, q1⟩ | ⟨hd, rfl, q1, q2⟩ | ⟨hd, rfl, q1, q2⟩ | ⟨hd, rfl, q1, q2, q3⟩ | ⟨hd, rfl, q1, q2, q3, q4⟩
      · have HD := Lib.hid hd
        clear hd
        go_wp2
        go_round
        case rel => exact ⟨k + 1, by omega, by go_num, Lib.hid (by rw [H.out, Hs.out, HD.out]; rfl)⟩
        case measure => simp [intOf]; omega
      · have HD := Lib.hid hd
        clear hd
        go_wp2
        go_round
        case rel => exact ⟨k + 1, by omega, by go_num, Lib.hid (by rw [H.out, Hs.out, HD.out]; rfl)⟩
        case measure => simp [intOf]; omega
      all_goals
        have HD := Lib.hid hd
        clear hd
        go_wp2
        go_ret
        exact ⟨ret_bool (by unfold subB; rw [H.out, Hs.out, HD.out]; rfl), b2⟩
    · have He := Lib.hid (all_end' (subC d) s (k := k) (by omega))
      have HE := Lib.hid (empty_iff s)
      by_cases h0 : s.size = 0
      · have e0 : s.toList = [] := by rw [Lib.toList_data]; exact List.length_eq_zero_iff.1 (by rw [bs_length]; exact h0)
        have HZ : Hid ((bs s).isEmpty = true) := Lib.hid (by rw [HE.out, h0]; rfl)
        clear h0
        go_wp2
        go_ret
        exact ⟨ret_bool (by unfold subB; rw [HZ.out]; simp), b2⟩
      · have e0 : ¬ s.toList = [] := by
          rw [Lib.toList_data]; intro h; apply h0
          rw [← bs_length]; unfold bs; rw [h]; rfl
        have HZ : Hid ((bs s).isEmpty = false) := Lib.hid (by rw [HE.out]; simpa using h0)
        clear h0
        go_wp2
        go_ret
        have E1 : s.toList.isEmpty = false := by rw [Lib.toList_data]; exact HZ.out
        exact ⟨ret_bool (by unfold subB; rw [H.out, He.out, HZ.out, bs_length]; simp [E1]; omega), b2⟩
/-- A slice's cells hold these strings, from a block on. -/
def StrCells (w : World) (b o : Nat) (xs : List ByteArray) : Prop := ∀ (i : Nat) (x : ByteArray), xs[i]? = some x → w.cell? ⟨b, o + i, none⟩ = some (.string x)
theorem StrCells.below {w w' : World} {B b o : Nat} {xs : List ByteArray} (h : StrCells w b o xs) (hb : Below B w w') (hB : b < B) : StrCells w' b o xs := fun i x hx => (hb.cell (p := ⟨b, o + i, none⟩) hB).trans (h i x hx)
theorem cells_split (w : World) (s : ByteArray) (t : TypeId) : StrCells (w.alloc (.cells ((Lib.splitB ⟨#[45]⟩ 0 (Lib.countB s ⟨#[45]⟩) s).map Value.string).toArray t)) w.heap.size 0 (Lib.splitB ⟨#[45]⟩ 0 (Lib.countB s ⟨#[45]⟩) s) := fun i x hx => by
  rw [World.cell?_alloc_mark w _ t _ (0 + i)]
  simp [hx]
/-- strings.Split at '-'. -/
theorem split_any (s : ByteArray) (w : World) (m : Int) (hs : s.size < 4294967281) (hm : w.cell? ⟨0, 0, none⟩ = some (.int .i64 m)) :
    Calls Tryd.prog 24 #[.string s, .string ⟨#[45]⟩] w fun e w' => ∃ xs : List ByteArray, e = .returned (.slice (some ⟨w.heap.size, 0, none⟩) xs.length xs.length) ∧ xs.map bs = splitC 45 (bs s) ∧ StrCells w' w.heap.size 0 xs ∧ Below w.heap.size w w' ∧ w.heap.size < w'.heap.size :=
  (Tryd.strings_Split s ⟨#[45]⟩ m w hs hm (Nat.le_refl 1)).mono fun e w' ⟨he, hw⟩ => by
    have hlen : (Lib.splitB ⟨#[45]⟩ 0 (Lib.countB s ⟨#[45]⟩) s).length = Lib.countB s ⟨#[45]⟩ + 1 := Lib.splitB_all ⟨#[45]⟩ (Nat.le_refl 1) 0 _ s rfl
    refine ⟨Lib.splitB ⟨#[45]⟩ 0 (Lib.countB s ⟨#[45]⟩) s, by rw [he, hlen], splitB_one 45 s, by rw [hw]; exact cells_split w s _, by rw [hw]; exact (Below.refl _ _).alloc (Nat.le_refl _) _, by rw [hw]; simp⟩
theorem tagsFrom_at {xs : List ByteArray} {k : Nat} {x : ByteArray} (h : xs[k]? = some x) : tagsFrom k ((xs.map bs).drop k) = (subB (decide (0 < k)) (bs x) && tagsFrom (k + 1) ((xs.map bs).drop (k + 1))) := by
  have hk : k < xs.length := (List.getElem?_eq_some_iff.1 h).1
  have hx : xs[k] = x := (List.getElem?_eq_some_iff.1 h).2
  rw [List.drop_eq_getElem_cons (by simpa using hk), tagsFrom]
  simp [hx]
theorem tagsFrom_end (k : Nat) {xs : List ByteArray} (h : xs.length ≤ k) : tagsFrom k ((xs.map bs).drop k) = true := by
  rw [List.drop_of_length_le (by simpa using h)]; rfl
theorem piece_size {xs : List ByteArray} {s : ByteArray} (h : xs.map bs = splitC 45 (bs s)) {k : Nat} {x : ByteArray} (hx : xs[k]? = some x) : x.size ≤ s.size := by
  have hm : bs x ∈ splitC 45 (bs s) := by
    rw [← h]; exact List.mem_map_of_mem (List.mem_of_getElem? hx)
  rw [← bs_length, ← bs_length]
  exact splitC_mem_len hm
set_option maxHeartbeats 1600000 in
theorem tag_any (s : ByteArray) (w : World) (m : Int) (hs : s.size ≤ 1000000) (hm : w.cell? ⟨0, 0, none⟩ = some (.int .i64 m)) :
    Calls Tryd.prog 9 #[.string s] w fun e w' => e = .returned (.bool (tagB (bs s))) ∧ Below w.heap.size w w' := by
  have HM := Lib.hid hm
  clear hm
  go_enter Tryd.func9, Tryd.ntmps9
  go_wp2_with fail
  refine (split_any s _ m (by omega) HM.out).mono ?_
  rintro e w1 ⟨xs, rfl, hxs, hc, hb1, hz1⟩
  have HXS := Lib.hid hxs
  have HC := Lib.hid hc
  have hlen : xs.length ≤ s.size + 1 := by
    have h1 := splitC_len 45 (bs s)
    rw [← hxs, List.length_map, bs_length] at h1; exact h1
  clear hxs hc
  go_wp2_with fail
  go_loopw [8] (fun j wr => ∃ k : Nat, k ≤ xs.length ∧ j = .int .i64 k ∧ Hid (tagB (bs s) = tagsFrom k ((xs.map bs).drop k)) ∧ Below w1.heap.size w1 wr) (fun j _ => xs.length - (intOf j).toNat)
  case atStart => exact ⟨0, by omega, rfl, Lib.hid (by unfold tagB; rw [← HXS.out]; rfl), Below.refl _ _⟩
  case round =>
    obtain ⟨k, hk, rfl, H, hb⟩ := hrel
    by_cases hlt : k < xs.length
    · obtain ⟨x, hx⟩ : ∃ x, xs[k]? = some x := ⟨_, List.getElem?_eq_getElem hlt⟩
      have hcx : wr.cell? ⟨w.heap.size, k, none⟩ = some (.string x) := by
        have := (HC.out.below hb hz1) k x hx
        rwa [Nat.zero_add] at this
      have Hs := Lib.hid (tagsFrom_at hx)
      have zx := piece_size HXS.out hx
      clear hx
      obtain ⟨d, HDD⟩ : ∃ d, Hid (d = decide (0 < k)) := ⟨_, Lib.hid rfl⟩
      go_wp2_with fail
      rw [← HDD.out]
      refine (subtag_any x d _ (by omega)).mono ?_
      rintro e w2 ⟨rfl, hb2⟩
      have b2 := hb.trans (hb2.mono hb.size)
      clear hb2 hb
      cases hv : subB d (bs x) with
      | false =>
        have HV := Lib.hid hv
        clear hv
        go_wp2_with fail
        go_ret
        exact ⟨ret_bool (by rw [H.out, Hs.out, ← HDD.out, HV.out]; rfl), below_step hb1 b2⟩
      | true =>
        have HV := Lib.hid hv
        clear hv
        go_wp2_with fail
        go_roundw
        case rel => exact ⟨k + 1, by omega, by go_num, Lib.hid (by rw [H.out, Hs.out, ← HDD.out, HV.out]; rfl), b2⟩
        case measure => simp [intOf]; omega
    · have He := Lib.hid (tagsFrom_end k (xs := xs) (by omega))
      go_wp2_with fail
      go_ret
      exact ⟨ret_bool (by rw [H.out, He.out]), below_step hb1 hb⟩
theorem range_star (s : ByteArray) (w : World) (h : bs s = [42]) :
    Calls Tryd.prog 11 #[.string s] w fun e w' => e = .returned (.bool (rangeB (bs s))) ∧ Below w.heap.size w w' := by
  have h' : s.toList = [42] := by rw [Lib.toList_data]; exact h
  have HF : Hid (rangeB (bs s) = true) := Lib.hid (by rw [h]; rfl)
  clear h
  go_enter Tryd.func11, Tryd.ntmps11
  go_wp2_with fail
  go_ret
  exact ⟨by rw [HF.out]; rfl, Below.refl _ _⟩
theorem range_any (s : ByteArray) (w : World) (m : Int) (hs : s.size ≤ 1000000) (hm : w.cell? ⟨0, 0, none⟩ = some (.int .i64 m)) :
    Calls Tryd.prog 11 #[.string s] w fun e w' => e = .returned (.bool (rangeB (bs s))) ∧ Below w.heap.size w w' := by
  by_cases h : bs s = [42]
  · exact range_star s w h
  have h' : (s.toList == [42]) = false := by rw [Lib.toList_data]; exact beq_eq_false_iff_ne.2 h
  have HM := Lib.hid hm
  have HF : Hid (rangeB (bs s) = tagB (bs s)) := Lib.hid (by unfold rangeB; rw [beq_eq_false_iff_ne.2 h]; rfl)
  clear h hm
  go_enter Tryd.func11, Tryd.ntmps11
  go_wp2_with fail
  refine (tag_any s _ m hs HM.out).mono ?_
  rintro e w1 ⟨rfl, hb1⟩
  go_wp2_with fail
  go_ret
  exact ⟨by rw [HF.out]; rfl, hb1⟩
end Go.Proofs.YtfkgjjoejcbdnaaDoor
