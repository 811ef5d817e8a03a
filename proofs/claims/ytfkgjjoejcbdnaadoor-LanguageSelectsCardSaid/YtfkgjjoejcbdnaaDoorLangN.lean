/- The walk of the statement LanguageFound. -/
import Derived.Test.YtfkgjjoejcbdnaaDoorLangL
import Derived.Test.YtfkgjjoejcbdnaaDoorLangT
import Derived.Test.YtfkgjjoejcbdnaaDoorKeepS
namespace Go.Proofs.YtfkgjjoejcbdnaaDoor
open Go.RowKit

theorem map_at {xs : List ByteArray} {k : Nat} {x : List UInt8} (h : (xs.map bs)[k]? = some x) : ∃ y, xs[k]? = some y ∧ bs y = x := by
  rw [List.getElem?_map] at h
  cases hx : xs[k]? with
  | none => rw [hx] at h; simp at h
  | some y => rw [hx] at h; simp at h; exact ⟨y, rfl, h⟩
theorem at_map {xs : List ByteArray} {k : Nat} {y : ByteArray} (h : xs[k]? = some y) : (xs.map bs)[k]? = some (bs y) := by
  rw [List.getElem?_map, h]; rfl
set_option maxHeartbeats 1600000 in
theorem languageFound_walk (r : ByteArray) (oa : Option Addr) (xs : List ByteArray) (cap : Nat) (w : World) (_ : r.size ≤ 9223372036854775807) (hc : StrO w oa xs) (hz : ∀ x ∈ xs, x.size ≤ 9223372036854775807) (hn : xs.length ≤ 9223372036854775807) (hM : MaxOf w) :
    Calls Tryd.prog 6 #[.string r, .slice oa xs.length cap] w fun e w' => e = .returned (.bool true) ∧ Below w.heap.size w w' := by
  have HM := Lib.hid hM
  have hlt := hM.lt
  have HC := Lib.hid hc
  have HZ0 := Lib.hid hz
  clear hM hc hz
  by_cases hl : 200 < (r.size : Int)
  · go_enter Tryd.func6, Tryd.ntmps6
    go_wp2_with fail
    go_ret
    exact ⟨rfl, Below.refl _ _⟩
  go_enter Tryd.func6, Tryd.ntmps6
  go_wp2_with fail
  refine (keepstr_any oa xs cap _ HC.out HZ0.out hn).mono ?_
  rintro e w1 ⟨b, rfl, rfl, hk⟩
  cases b with
  | false =>
    go_wp2_with fail
    go_ret
    exact ⟨rfl, Below.refl _ _⟩
  | true =>
  obtain ⟨hn20, hz⟩ := hk rfl
  have HZ := Lib.hid hz
  clear hk hz
  go_wp2_with fail
  refine (rtag_any r _ (by omega)).mono ?_
  rintro e w1 ⟨rfl, b1⟩
  cases ht : tagB (bs r) with
  | false =>
    clear ht
    go_wp2_with fail
    go_ret
    exact ⟨rfl, b1⟩
  | true =>
  have HT := Lib.hid ht
  have HM1 := Lib.hid (HM.out.below b1 hlt)
  have HC1 := Lib.hid (HC.out.down b1)
  clear ht
  go_wp2_with fail
  refine (lookup_any r oa xs cap _ HM1.out.choose (by omega) (fun x hx => Nat.le_trans (HZ.out x hx) (by decide)) (by omega) HC1.out HM1.out.choose_spec).mono ?_
  rintro e w2 ⟨rfl, hb2⟩
  have b2 := below_step b1 hb2
  have HM2 := Lib.hid (HM.out.below b2 hlt)
  have HC2 := Lib.hid (HC.out.down b2)
  clear hb2 b1 HC1 HM1
  obtain ⟨i, HI⟩ : ∃ i : Int, Hid (i = lookI (bs r) (xs.map bs)) := ⟨_, Lib.hid rfl⟩
  rw [← HI.out]
  have hd := look_found (l := xs.map bs) HT.out
  rw [← HI.out] at hd
  rcases hd with hi | ⟨kk, y, hi, hy, hm⟩
  · subst hi
    go_wp2_with fail
    go_loopw [6] (fun j wr => ∃ k : Nat, k ≤ xs.length ∧ j = .int .i64 k ∧ Below w2.heap.size w2 wr) (fun j _ => xs.length - (intOf j).toNat)
    case atStart => exact ⟨0, by omega, rfl, Below.refl _ _⟩
    case round =>
      obtain ⟨k, hk, rfl, hb⟩ := hrel
      by_cases hlk : k < xs.length
      · obtain ⟨x, hx⟩ : ∃ x, xs[k]? = some x := ⟨_, List.getElem?_eq_getElem hlk⟩
        obtain ⟨ad, rfl, hcx⟩ := (HC2.out.down hb) k x hx
        have zx := HZ.out x (List.mem_of_getElem? hx)
        have HV : Hid (foldB (bs x) (bs r) = false) := Lib.hid (by
          cases hv : foldB (bs x) (bs r) with
          | false => rfl
          | true =>
            obtain ⟨k', _, h1, _⟩ := look_eq HT.out (at_map hx) hv
            rw [← HI.out] at h1; omega)
        clear hx
        go_wp2_with fail
        refine (rfold_any x r _ (by omega) (by omega)).mono ?_
        rintro e w3 ⟨rfl, hb3⟩
        rw [HV.out]
        have b3 := hb.trans (hb3.mono hb.size)
        clear hb3 hb
        go_wp2_with fail
        go_roundw
        case rel => exact ⟨k + 1, by omega, by go_num, b3⟩
        case measure => simp [intOf]; omega
      · have b3 := below_step b2 hb
        have HM3 := Lib.hid (HM.out.below b3 hlt)
        go_wp2_with fail
        refine (awake11_any _ HM3.out).mono ?_
        rintro e w4 ⟨rfl, hb4⟩
        go_wp2_with fail
        go_ret
        exact ⟨rfl, below_step b3 hb4⟩
  · obtain ⟨t, hkt, rfl⟩ := map_at hy
    subst hi
    have hkk : kk < xs.length := (List.getElem?_eq_some_iff.1 hkt).1
    have zt := HZ.out t (List.mem_of_getElem? hkt)
    obtain ⟨ad, rfl, _⟩ := HC2.out kk t hkt
    have HK := Lib.hid hkt
    have HMm := Lib.hid hm
    have g1 : ¬ ((kk : Int) < -1) := by omega
    have g2 : ¬ ((xs.length : Int) ≤ (kk : Int)) := by omega
    have g5 : decide (xs.length ≤ kk) = false := decide_eq_false (by omega)
    have g6 : decide ((xs.length : Int) ≤ (kk : Int)) = false := decide_eq_false (by omega)
    have g3 : (0 : Int) ≤ (kk : Int) := by omega
    have g4 : ¬ ((kk : Int) < 0) := by omega
    clear hy hkt hm
    go_wp2_with fail
    go_loopw [6] (fun j wr => ∃ k : Nat, k ≤ xs.length ∧ j = .int .i64 k ∧ Below w2.heap.size w2 wr) (fun j _ => xs.length - (intOf j).toNat)
    case atStart => exact ⟨0, by omega, rfl, Below.refl _ _⟩
    case round =>
      obtain ⟨k, hk, rfl, hb⟩ := hrel
      by_cases hlk : k < xs.length
      · obtain ⟨x, hx⟩ : ∃ x, xs[k]? = some x := ⟨_, List.getElem?_eq_getElem hlk⟩
        obtain ⟨ad', he, hcx⟩ := (HC2.out.down hb) k x hx
        obtain rfl := Option.some.inj he
        have zx := HZ.out x (List.mem_of_getElem? hx)
        have HX := Lib.hid hx
        clear hx he
        go_wp2_with fail
        refine (rfold_any x r _ (by omega) (by omega)).mono ?_
        rintro e w3 ⟨rfl, hb3⟩
        have b3 := hb.trans (hb3.mono hb.size)
        clear hb3 hb hcx
        cases hv : foldB (bs x) (bs r) with
        | false =>
          clear hv
          go_wp2_with fail
          go_roundw
          case rel => exact ⟨k + 1, by omega, by go_num, b3⟩
          case measure => simp [intOf]; omega
        | true =>
          obtain ⟨k', y', h1, h2, h3, h4⟩ := look_eq HT.out (at_map HX.out) hv
          rw [← HI.out] at h1
          have hk' : k' = kk := by omega
          subst hk'
          have h5 : bs t = y' := by
            have := at_map HK.out
            rw [h3] at this; exact (Option.some.inj this).symm
          have HV : Hid (foldB (bs t) (bs r) = true) := Lib.hid (by rw [h5]; exact h4)
          obtain ⟨ad', he, hct⟩ := (HC2.out.down b3) k' t HK.out
          obtain rfl := Option.some.inj he
          have hle : (k' : Int) ≤ (k : Int) := by omega
          clear hv h1 h3 h4 h5 he
          go_wp2_with fail
          refine (rfold_any t r _ (by omega) (by omega)).mono ?_
          rintro e w4 ⟨rfl, hb4⟩
          rw [HV.out]
          have b4 := below_step b2 (b3.trans (hb4.mono b3.size))
          have HM4 := Lib.hid (HM.out.below b4 hlt)
          clear hb4 b3 hct
          go_wp2_with fail
          refine (awake11_any _ HM4.out).mono ?_
          rintro e w5 ⟨rfl, hb5⟩
          go_wp2_with fail
          go_ret
          exact ⟨rfl, below_step b4 hb5⟩
      · have b3 := below_step b2 hb
        have HM3 := Lib.hid (HM.out.below b3 hlt)
        obtain ⟨ad', he, hct⟩ := (HC2.out.down hb) kk t HK.out
        obtain rfl := Option.some.inj he
        clear he
        go_wp2_with fail
        refine (match_any t r _ HM3.out.choose (by omega) (by omega) HM3.out.choose_spec HM3.out.lt).mono ?_
        rintro e w4 ⟨rfl, hb4⟩
        have b4 := below_step b3 hb4
        have HM4 := Lib.hid (HM.out.below b4 hlt)
        clear hb4 b3 hct hb
        obtain ⟨m, HMI⟩ : ∃ m : Int, Hid (m = matchI (bs t) (bs r)) := ⟨_, Lib.hid rfl⟩
        rw [← HMI.out]
        have hm0 : 0 < m := by rw [HMI.out]; exact HMm.out
        go_wp2_with fail
        refine (awake11_any _ HM4.out).mono ?_
        rintro e w5 ⟨rfl, hb5⟩
        go_wp2_with fail
        go_ret
        exact ⟨rfl, below_step b4 hb5⟩
end Go.Proofs.YtfkgjjoejcbdnaaDoor
