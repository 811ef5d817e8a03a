/- The walk of layer 11 in the reference: MatchTag. -/
import Derived.Test.YtfkgjjoejcbdnaaDoorLangW2
import Derived.Test.YtfkgjjoejcbdnaaDoorLangQ
import Derived.StillTailTactics
import Derived.Deep.QuietTactic
import Derived.BigQuiet
namespace Go.Proofs.YtfkgjjoejcbdnaaDoor
open Go.RowKit

theorem pre_at {xs ys : List ByteArray} {k : Nat} {x y : ByteArray} (hx : xs[k]? = some x) (hy : ys[k]? = some y) :
    foldPre ((xs.map bs).drop k) ((ys.map bs).drop k) = (foldB (bs x) (bs y) && foldPre ((xs.map bs).drop (k + 1)) ((ys.map bs).drop (k + 1))) := by
  obtain ⟨hk, ex⟩ := List.getElem?_eq_some_iff.1 hx
  obtain ⟨hk', ey⟩ := List.getElem?_eq_some_iff.1 hy
  rw [List.drop_eq_getElem_cons (show k < (xs.map bs).length by simpa using hk), List.drop_eq_getElem_cons (show k < (ys.map bs).length by simpa using hk'), foldPre]
  simp [ex, ey]
theorem pre_out {xs ys : List ByteArray} {k : Nat} (hx : k < xs.length) (hy : ys.length ≤ k) : foldPre ((xs.map bs).drop k) ((ys.map bs).drop k) = false := by
  rw [List.drop_eq_getElem_cons (show k < (xs.map bs).length by simpa using hx), List.drop_of_length_le (show (ys.map bs).length ≤ k by simpa using hy)]; rfl
theorem pre_done {xs ys : List ByteArray} {k : Nat} (hx : xs.length ≤ k) : foldPre ((xs.map bs).drop k) ((ys.map bs).drop k) = true := by
  rw [List.drop_of_length_le (show (xs.map bs).length ≤ k by simpa using hx)]
  cases (ys.map bs).drop k <;> rfl
theorem rmatch_no {r t : List UInt8} (h : (rangeB r && tagB t) = false) : rmatchI r t = -1 := by
  unfold rmatchI; rw [h]; rfl
theorem rmatch_star {r t : List UInt8} (h : (rangeB r && tagB t) = true) (h2 : r = [42]) : rmatchI r t = 0 := by
  unfold rmatchI; rw [h]; simp [h2]
theorem rmatch_pre {r t : List UInt8} {b : Bool} (h : (rangeB r && tagB t) = true) (h2 : r ≠ [42]) (h3 : foldPre (splitC 45 r) (splitC 45 t) = b) : rmatchI r t = if b = true then ((splitC 45 r).length : Int) else -1 := by
  unfold rmatchI; rw [h, if_pos rfl, if_neg h2, h3]
/-- The subtags of a text in a row of their own. -/
theorem subs_form {s : ByteArray} {w' : World} {B : Nat} {v : Value} {xs : List ByteArray} (hB : SBuf w' B v xs) (hxs : xs.map bs = splitC 45 (bs s)) :
    ∃ g cap, v = .slice (some ⟨g, 0, none⟩) xs.length cap ∧ B ≤ g ∧ g < w'.heap.size ∧ StrCells w' g 0 xs ∧ xs.length ≤ s.size + 1 := by
  have hpos : 0 < xs.length := by
    rcases Nat.eq_zero_or_pos xs.length with h | h
    · exfalso
      have : xs = [] := List.length_eq_zero_iff.1 h
      subst this
      exact splitC_ne 45 (bs s) hxs.symm
    · exact h
  have hlen : xs.length ≤ s.size + 1 := by
    have h1 := splitC_len 45 (bs s)
    rw [← hxs, List.length_map, bs_length] at h1; exact h1
  obtain ⟨g, cap, h1, h2, h3, h4⟩ := hB.form hpos
  exact ⟨g, cap, h1, h2, h3, h4, hlen⟩
set_option maxHeartbeats 3200000 in
theorem rmatch_any (r t : ByteArray) (w : World) (hr : r.size ≤ 100000) (ht : t.size ≤ 100000) :
    Calls Tryd.prog 15 #[.string r, .string t] w fun e w' => e = .returned (.int .i64 (rmatchI (bs r) (bs t))) ∧ Below w.heap.size w w' := by
  go_enter Tryd.func15, Tryd.ntmps15
  go_wp2_with fail
  refine (rrange_any r _ (by omega)).mono ?_
  rintro e w1 ⟨rfl, hb1⟩
  cases h1 : rangeB (bs r) with
  | false =>
    have HR := Lib.hid (rmatch_no (r := bs r) (t := bs t) (by rw [h1]; rfl))
    clear h1
    go_wp2_with fail
    go_ret
    exact ⟨by rw [HR.out]; rfl, hb1⟩
  | true =>
    have H1 := Lib.hid h1
    clear h1
    go_wp2_with fail
    refine (rtag_any t _ (by omega)).mono ?_
    rintro e w2 ⟨rfl, hb2⟩
    have b2 := below_step hb1 hb2
    clear hb2 hb1
    cases h2 : tagB (bs t) with
    | false =>
      have HR := Lib.hid (rmatch_no (r := bs r) (t := bs t) (by rw [H1.out, h2]; rfl))
      clear h2
      go_wp2_with fail
      go_ret
      exact ⟨by rw [HR.out]; rfl, b2⟩
    | true =>
      have H2 := Lib.hid (show (rangeB (bs r) && tagB (bs t)) = true by rw [H1.out, h2]; rfl)
      clear h2
      by_cases h3 : bs r = [42]
      · have h3' : (r.toList == [42]) = true := by rw [Lib.toList_data]; exact beq_iff_eq.2 h3
        have HR := Lib.hid (rmatch_star H2.out h3)
        clear h3
        go_wp2_with fail
        go_ret
        exact ⟨by rw [HR.out]; rfl, b2⟩
      · have h3' : (r.toList == [42]) = false := by rw [Lib.toList_data]; exact beq_eq_false_iff_ne.2 h3
        have H3 := Lib.hid h3
        clear h3
        go_wp2_with fail
        refine (subtags_any r _ hr).mono ?_
        rintro e w3 ⟨v, xs, rfl, hSB, hxs, hb3⟩
        obtain ⟨g, cap, rfl, hg1, hg2, hc, hlen⟩ := subs_form hSB hxs
        have b3 := below_step b2 hb3
        have HXS := Lib.hid hxs
        clear hb3 b2 hxs hSB
        go_wp2_with fail
        refine (subtags_any t _ ht).mono ?_
        rintro e w4 ⟨v, ys, rfl, hSB, hys, hb4⟩
        obtain ⟨g', cap', rfl, hg1', hg2', hc', hlen'⟩ := subs_form hSB hys
        have b4 := below_step b3 hb4
        have HYS := Lib.hid hys
        have HC := Lib.hid (hc.below hb4 hg2)
        have HC' := Lib.hid hc'
        have hg4 : g < w4.heap.size := Nat.lt_of_lt_of_le hg2 hb4.size
        clear hb4 b3 hys hSB hc hc' hg1 hg1' hg2
        go_wp2_with fail
        go_loopw [7] (fun j wr => ∃ k : Nat, k ≤ xs.length ∧ k ≤ ys.length ∧ j = .int .i64 k ∧ Hid (foldPre (splitC 45 (bs r)) (splitC 45 (bs t)) = foldPre ((xs.map bs).drop k) ((ys.map bs).drop k)) ∧ Below w4.heap.size w4 wr) (fun j _ => xs.length - (intOf j).toNat)
        case atStart => exact ⟨0, by omega, by omega, rfl, Lib.hid (by rw [← HXS.out, ← HYS.out]; rfl), Below.refl _ _⟩
        case round =>
          obtain ⟨k, hk, hk2, rfl, H, hb⟩ := hrel
          have hret := below_step b4 hb
          by_cases hlt : k < xs.length
          · by_cases hlt' : k < ys.length
            · obtain ⟨x, hx⟩ : ∃ x, xs[k]? = some x := ⟨_, List.getElem?_eq_getElem hlt⟩
              obtain ⟨y, hy⟩ : ∃ y, ys[k]? = some y := ⟨_, List.getElem?_eq_getElem hlt'⟩
              have hcx : wr.cell? ⟨g, k, none⟩ = some (.string x) := by
                have := (HC.out.below hb hg4) k x hx
                rwa [Nat.zero_add] at this
              have hcy : wr.cell? ⟨g', k, none⟩ = some (.string y) := by
                have := (HC'.out.below hb hg2') k y hy
                rwa [Nat.zero_add] at this
              have Hs := Lib.hid (pre_at hx hy)
              have zx := piece_size HXS.out hx
              have zy := piece_size HYS.out hy
              have hne : ((k : Int) == (ys.length : Int)) = false := beq_eq_false_iff_ne.2 (by omega)
              clear hx hy
              go_wp2_with fail
              go_still_tail 13, (by kernel_rfl)
              change wpList _ _ _ _ _ wr.drew
              have b5 : Below w4.heap.size w4 wr.drew := hb.drew
              generalize wr.drew = w5 at b5
              go_wp2_with fail
              refine (rfold_any x y _ (by omega) (by omega)).mono ?_
              rintro e w6 ⟨rfl, hb6⟩
              have b6 := b5.trans (hb6.mono b5.size)
              clear hb6 b5 hb hret hcx hcy
              cases hv : foldB (bs x) (bs y) with
              | true =>
                have HV := Lib.hid hv
                clear hv
                go_wp2_with fail
                go_roundw
                case rel => exact ⟨k + 1, by omega, by omega, by go_num, Lib.hid (by rw [H.out, Hs.out, HV.out]; rfl), b6⟩
                case measure => simp [intOf]; omega
              | false =>
                have HR := Lib.hid (rmatch_pre H2.out H3.out (b := false) (by rw [H.out, Hs.out, hv]; rfl))
                clear hv
                go_wp2_with fail
                go_ret
                exact ⟨by rw [HR.out]; rfl, below_step b4 b6⟩
            · have hy : ((k : Int) == (ys.length : Int)) = true := beq_iff_eq.2 (by omega)
              have HR := Lib.hid (rmatch_pre H2.out H3.out (b := false) (by rw [H.out, pre_out hlt (by omega)]))
              clear hlt'
              go_wp2_with fail
              go_quiet (fail)
              go_wp2_with fail
              go_ret
              exact ⟨by rw [HR.out]; rfl, below_drewN hret _⟩
          · have HR := Lib.hid (rmatch_pre H2.out H3.out (b := true) (by rw [H.out, pre_done (by omega)]))
            have HL : Hid ((splitC 45 (bs r)).length = xs.length) := Lib.hid (by rw [← HXS.out, List.length_map])
            go_wp2_with fail
            go_ret
            exact ⟨by rw [HR.out, if_true, HL.out]; rfl, hret⟩
end Go.Proofs.YtfkgjjoejcbdnaaDoor
