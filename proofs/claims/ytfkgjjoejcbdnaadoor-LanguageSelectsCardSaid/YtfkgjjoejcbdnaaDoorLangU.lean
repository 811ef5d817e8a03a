/- The walk of the statement LanguageSelects. -/
import Derived.Test.YtfkgjjoejcbdnaaDoorFiltR
import Derived.Test.YtfkgjjoejcbdnaaDoorLookW
namespace Go.Proofs.YtfkgjjoejcbdnaaDoor
open Go.RowKit

set_option maxHeartbeats 1600000 in
theorem languageSelects_walk (r : ByteArray) (oa : Option Addr) (rs : List ByteArray) (ca : Nat) (ob : Option Addr) (ts : List ByteArray) (cb : Nat) (w : World) (_ : r.size ≤ 9223372036854775807) (hr : StrO w oa rs) (zr : ∀ x ∈ rs, x.size ≤ 9223372036854775807) (nr : rs.length ≤ 9223372036854775807)
    (ht : StrO w ob ts) (zt : ∀ x ∈ ts, x.size ≤ 9223372036854775807) (nt : ts.length ≤ 9223372036854775807) (hM : MaxOf w) :
    Calls Tryd.prog 7 #[.string r, .slice oa rs.length ca, .slice ob ts.length cb] w fun e w' => e = .returned (.bool true) ∧ Below w.heap.size w w' := by
  have HM := Lib.hid hM
  have hlt := hM.lt
  have HR := Lib.hid hr
  have HT := Lib.hid ht
  have ZR0 := Lib.hid zr
  have ZT0 := Lib.hid zt
  clear hM hr ht zr zt
  by_cases hl : 300 < (r.size : Int)
  · go_enter Tryd.func7, Tryd.ntmps7
    go_wp2_with fail
    go_ret
    exact ⟨rfl, Below.refl _ _⟩
  go_enter Tryd.func7, Tryd.ntmps7
  go_wp2_with fail
  refine (keepstr_any oa rs ca _ HR.out ZR0.out nr).mono ?_
  rintro e w1 ⟨b, rfl, rfl, hk⟩
  cases b with
  | false =>
    go_wp2_with fail
    go_ret
    exact ⟨rfl, Below.refl _ _⟩
  | true =>
  obtain ⟨nr20, zr⟩ := hk rfl
  have ZR := Lib.hid zr
  clear hk zr
  go_wp2_with fail
  refine (keepstr_any ob ts cb _ HT.out ZT0.out nt).mono ?_
  rintro e w1 ⟨b, rfl, rfl, hk⟩
  cases b with
  | false =>
    go_wp2_with fail
    go_ret
    exact ⟨rfl, Below.refl _ _⟩
  | true =>
  obtain ⟨nt20, zt⟩ := hk rfl
  have ZT := Lib.hid zt
  clear hk zt
  go_wp2_with fail
  refine (filter_any oa ob rs ts ca cb _ HR.out HT.out nr20 nt20 ZR.out ZT.out HM.out).mono ?_
  rintro e w1 ⟨v, rfl, hIB, hL, b1⟩
  rw [filtL_same] at hIB hL
  obtain ⟨L, HL⟩ : ∃ L : List Nat, Hid (L = filtL rmatchI (rs.map bs) (ts.map bs)) := ⟨_, Lib.hid rfl⟩
  rw [← HL.out] at hIB hL
  obtain ⟨oc, cc, rfl, hcells⟩ := hIB.form
  have HI := Lib.hid (show IntsO w1 oc L from hcells)
  have HR1 := Lib.hid (HR.out.down b1)
  have HT1 := Lib.hid (HT.out.down b1)
  clear hIB hcells
  go_wp2_with fail
  refine (rfilter_any oa ob rs ts ca cb _ HR1.out HT1.out nr20 nt20 ZR.out ZT.out).mono ?_
  rintro e w2 ⟨v, rfl, hIB, _, hb2⟩
  rw [← HL.out] at hIB
  obtain ⟨od, cd, rfl, hcells⟩ := hIB.form
  have HI2 := Lib.hid (show IntsO w2 od L from hcells)
  have HI1 := Lib.hid (HI.out.down hb2)
  have b2 := below_step b1 hb2
  clear hIB hcells hb2 b1
  go_wp2_with fail
  refine (sameints_any oc od L cc cd _ HI1.out HI2.out (by omega)).mono ?_
  rintro e w3 ⟨rfl, hb3⟩
  have b3 := below_step b2 hb3
  have HM3 := Lib.hid (HM.out.below b3 hlt)
  have HT3 := Lib.hid (HT.out.down b3)
  clear hb3 b2
  obtain ⟨q, HQ⟩ : ∃ q : Int, Hid (q = lookI (bs r) (ts.map bs)) := ⟨_, Lib.hid rfl⟩
  have hq : (q == q) = true := by simp
  go_wp2_with fail
  refine (lookup_any r ob ts cb _ HM3.out.choose (by omega) (fun x hx => Nat.le_trans (ZT.out x hx) (by decide)) (by omega) HT3.out HM3.out.choose_spec).mono ?_
  rintro e w4 ⟨rfl, hb4⟩
  rw [← HQ.out]
  have b4 := below_step b3 hb4
  have HT4 := Lib.hid (HT.out.down b4)
  clear hb4 b3
  go_wp2_with fail
  refine (rlookup_any r ob ts cb _ (by omega) (fun x hx => Nat.le_trans (ZT.out x hx) (by decide)) (by omega) HT4.out).mono ?_
  rintro e w5 ⟨rfl, hb5⟩
  rw [← HQ.out]
  have b5 := below_step b4 hb5
  have HM5 := Lib.hid (HM.out.below b5 hlt)
  clear hb5 b4
  go_wp2_with fail
  refine (awake11_any _ HM5.out).mono ?_
  rintro e w6 ⟨rfl, hb6⟩
  go_wp2_with fail
  go_ret
  exact ⟨rfl, below_step b5 hb6⟩
end Go.Proofs.YtfkgjjoejcbdnaaDoor
