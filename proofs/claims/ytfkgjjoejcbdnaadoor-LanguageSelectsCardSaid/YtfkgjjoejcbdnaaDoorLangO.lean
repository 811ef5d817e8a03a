/- The walk of the statement LanguageFilters. -/
import Derived.Test.YtfkgjjoejcbdnaaDoorFiltW
import Derived.Test.YtfkgjjoejcbdnaaDoorLangG
import Derived.Test.YtfkgjjoejcbdnaaDoorLangN
import Derived.StillTailTactics
namespace Go.Proofs.YtfkgjjoejcbdnaaDoor
open Go.RowKit

def IntsO (w : World) (oa : Option Addr) (l : List Nat) : Prop := ∀ (i k : Nat), l[i]? = some k → ∃ ad : Addr, oa = some ad ∧ w.cell? (ad.add i) = some (.int .i64 (k : Int))
theorem IntsO.down {w w' : World} {oa : Option Addr} {l : List Nat} (h : IntsO w oa l) (hb : Below w.heap.size w w') : IntsO w' oa l := fun i x hx => by
  obtain ⟨ad, h1, h2⟩ := h i x hx
  exact ⟨ad, h1, (hb.cell (cell_lt h2)).trans h2⟩
def anyM (R : List (List UInt8)) (t : List UInt8) : Bool := R.any fun r => decide (0 ≤ matchI r t)
theorem anyM_at {rs : List ByteArray} {i : Nat} {r : ByteArray} {t : List UInt8} (h : rs[i]? = some r) : anyM ((rs.map bs).drop i) t = (decide (0 ≤ matchI (bs r) t) || anyM ((rs.map bs).drop (i + 1)) t) := by
  have hk : i < rs.length := (List.getElem?_eq_some_iff.1 h).1
  have hx : rs[i] = r := (List.getElem?_eq_some_iff.1 h).2
  rw [List.drop_eq_getElem_cons (show i < (rs.map bs).length by simpa using hk)]
  unfold anyM
  rw [List.any_cons]
  simp [hx]
theorem anyM_end {rs : List ByteArray} {i : Nat} {t : List UInt8} (h : rs.length ≤ i) : anyM ((rs.map bs).drop i) t = false := by
  rw [List.drop_of_length_le (show (rs.map bs).length ≤ i by simpa using h)]; rfl
theorem cnt_at {L : List Nat} {i x k : Nat} (h : L[i]? = some x) : (L.drop i).count k = (if x = k then 1 else 0) + (L.drop (i + 1)).count k := by
  obtain ⟨hk, hx⟩ := List.getElem?_eq_some_iff.1 h
  rw [List.drop_eq_getElem_cons hk, List.count_cons, hx, Nat.add_comm]
  congr 1
  by_cases e : x = k <;> simp [e]
theorem cnt_end {L : List Nat} {i k : Nat} (h : L.length ≤ i) : (L.drop i).count k = 0 := by
  rw [List.drop_of_length_le h]; rfl
set_option maxHeartbeats 3200000 in
theorem languageFilters_walk (oa : Option Addr) (rs : List ByteArray) (ca : Nat) (ob : Option Addr) (ts : List ByteArray) (cb : Nat) (w : World) (hr : StrO w oa rs) (zr : ∀ x ∈ rs, x.size ≤ 9223372036854775807) (nr : rs.length ≤ 9223372036854775807)
    (ht : StrO w ob ts) (zt : ∀ x ∈ ts, x.size ≤ 9223372036854775807) (nt : ts.length ≤ 9223372036854775807) (hM : MaxOf w) :
    Calls Tryd.prog 8 #[.slice oa rs.length ca, .slice ob ts.length cb] w fun e w' => e = .returned (.bool true) ∧ Below w.heap.size w w' := by
  have HM := Lib.hid hM
  have hlt := hM.lt
  have HR := Lib.hid hr
  have HT := Lib.hid ht
  have ZR0 := Lib.hid zr
  have ZT0 := Lib.hid zt
  clear hM hr ht zr zt
  go_enter Tryd.func8, Tryd.ntmps8
  go_wp2_with fail
  refine (keepstr_any oa rs ca _ HR.out ZR0.out nr).mono ?_
  rintro e w1 ⟨b, rfl, rfl, hk⟩
  cases b with
  | false =>
    go_wp2_with fail
    go_ret
    exact ⟨rfl, Below.refl _ _⟩
  | true =>
  obtain ⟨nr20, zr⟩ := hk rfl
  have ZR := Lib.hid zr
  clear hk zr
  go_wp2_with fail
  refine (keepstr_any ob ts cb _ HT.out ZT0.out nt).mono ?_
  rintro e w1 ⟨b, rfl, rfl, hk⟩
  cases b with
  | false =>
    go_wp2_with fail
    go_ret
    exact ⟨rfl, Below.refl _ _⟩
  | true =>
  obtain ⟨nt20, zt⟩ := hk rfl
  have ZT := Lib.hid zt
  clear hk zt
  go_wp2_with fail
  refine (filter_any oa ob rs ts ca cb _ HR.out HT.out nr20 nt20 ZR.out ZT.out HM.out).mono ?_
  rintro e w1 ⟨v, rfl, hIB, hL, b1⟩
  obtain ⟨L, HL⟩ : ∃ L : List Nat, Hid (L = filtL matchI (rs.map bs) (ts.map bs)) := ⟨_, Lib.hid rfl⟩
  rw [← HL.out] at hIB hL
  obtain ⟨oc, cc, rfl, hcells⟩ := hIB.form
  have HI := Lib.hid (show IntsO w1 oc L from hcells)
  clear hIB hcells
  go_wp2_with fail
  go_loopw [7, 6] (fun j a wr => ∃ k nn : Nat, k ≤ ts.length ∧ j = .int .i64 k ∧ a = .int .i64 nn ∧ Hid (nn = L.countP (fun x => decide (x < k))) ∧ nn ≤ 420 ∧ Below w1.heap.size w1 wr) (fun j _ _ => ts.length - (intOf j).toNat)
  case atStart => exact ⟨0, 0, by omega, rfl, rfl, Lib.hid (by simp), by omega, Below.refl _ _⟩
  case round =>
    obtain ⟨k, nn, hk, rfl, rfl, HN, hnn, hb⟩ := hrel
    have hret := below_step b1 hb
    by_cases hkt : k < ts.length
    · obtain ⟨t, ht⟩ : ∃ x, ts[k]? = some x := ⟨_, List.getElem?_eq_getElem hkt⟩
      obtain ⟨adt, rfl, _⟩ := HT.out k t ht
      have zt := ZT.out t (List.mem_of_getElem? ht)
      have HTk := Lib.hid ht
      clear ht
      go_wp2_with fail
      go_loopw [10, 8] (fun j m w2 => ∃ (i : Nat) (b : Bool), i ≤ rs.length ∧ j = .int .i64 i ∧ m = .bool b ∧ Hid (anyM (rs.map bs) (bs t) = (b || anyM ((rs.map bs).drop i) (bs t))) ∧ Below wr.heap.size wr w2) (fun j _ _ => rs.length - (intOf j).toNat)
      case atStart => exact ⟨0, false, by omega, rfl, rfl, Lib.hid rfl, Below.refl _ _⟩
      case round =>
        obtain ⟨i, b, hi, rfl, rfl, HB, hb2⟩ := hrel
        have hb3 := hb.trans (hb2.mono hb.size)
        have hret2 := below_step b1 hb3
        by_cases hir : i < rs.length
        · obtain ⟨r, hr⟩ : ∃ x, rs[i]? = some x := ⟨_, List.getElem?_eq_getElem hir⟩
          obtain ⟨adr, rfl, hcr⟩ := (HR.out.down hret2) i r hr
          have zr := ZR.out r (List.mem_of_getElem? hr)
          obtain ⟨adt', he, hct⟩ := (HT.out.down hret2) k t HTk.out
          obtain rfl := Option.some.inj he
          have HAt := Lib.hid (anyM_at (t := bs t) hr)
          clear hr he
          cases b with
          | true =>
            go_wp2_with fail
            go_quiet (fail)
            go_wp2_with fail
            go_roundw
            case rel => exact ⟨i + 1, true, by omega, by go_num, rfl, Lib.hid (by rw [HB.out]; rfl), below_drewN hb2 _⟩
            case measure => simp [intOf]; omega
          | false =>
            have HM2 := Lib.hid (HM.out.below hret2 hlt)
            go_wp2_with fail
            go_still_tail 10, (by kernel_rfl)
            change wpList _ _ _ _ _ wr.drew
            have b5 := hb2.drew
            have c5 := hret2.drew
            generalize wr.drew = w5 at b5 c5
            have HM5 := Lib.hid (HM.out.below c5 hlt)
            clear hret2 hret hb3 hb2 HM2 hcr hct
            go_wp2_with fail
            refine (match_any r t _ HM5.out.choose (by omega) (by omega) HM5.out.choose_spec HM5.out.lt).mono ?_
            rintro e w6 ⟨rfl, hb6⟩
            have b6 := b5.trans (hb6.mono b5.size)
            clear hb6 b5 c5
            obtain ⟨q, HQ⟩ : ∃ q : Int, Hid (q = matchI (bs r) (bs t)) := ⟨_, Lib.hid rfl⟩
            rw [← HQ.out]
            by_cases hq : 0 ≤ q
            · go_wp2_with fail
              go_roundw
              case rel => exact ⟨i + 1, true, by omega, by go_num, rfl, Lib.hid (by rw [HB.out, HAt.out, ← HQ.out, decide_eq_true hq]; rfl), b6⟩
              case measure => simp [intOf]; omega
            · have hqf : decide (0 ≤ q) = false := decide_eq_false hq
              have HQF := Lib.hid hqf
              go_wp2_with fail
              go_roundw
              case rel => exact ⟨i + 1, false, by omega, by go_num, rfl, Lib.hid (by rw [HB.out, HAt.out, ← HQ.out, HQF.out]; rfl), b6⟩
              case measure => simp [intOf]; omega
        · have HE := Lib.hid (anyM_end (rs := rs) (i := i) (t := bs t) (by omega))
          have HC := Lib.hid (filtL_count (m := matchI) (R := rs.map bs) (at_map HTk.out))
          have HBb : Hid (anyM (rs.map bs) (bs t) = b) := Lib.hid (by rw [HB.out, HE.out, Bool.or_false])
          have HCc : Hid (L.count k = if b = true then 1 else 0) := Lib.hid (by rw [HL.out, HC.out, ← HBb.out]; rfl)
          go_wp2_with fail
          go_loop [11, 9] (fun j c => ∃ i c' : Nat, i ≤ L.length ∧ j = .int .i64 i ∧ c = .int .i64 c' ∧ Hid (L.count k = c' + (L.drop i).count k) ∧ c' ≤ i) (fun j _ => L.length - (intOf j).toNat)
          case atStart => exact ⟨0, 0, by omega, rfl, rfl, Lib.hid (by simp), by omega⟩
          case round =>
            obtain ⟨i', c, hi', rfl, rfl, HCk, hc⟩ := hrel
            by_cases hil : i' < L.length
            · obtain ⟨x, hx⟩ : ∃ x, L[i']? = some x := ⟨_, List.getElem?_eq_getElem hil⟩
              obtain ⟨adl, rfl, hcl⟩ := (HI.out.down hb3) i' x hx
              have HA := Lib.hid (cnt_at (k := k) hx)
              clear hx
              by_cases hxk : x = k
              · have he : ((x : Int) == (k : Int)) = true := beq_iff_eq.2 (by omega)
                have HA' : Hid (L.count k = (c + 1) + (L.drop (i' + 1)).count k) := Lib.hid (by rw [HCk.out, HA.out, if_pos hxk]; omega)
                clear hxk
                go_wp2_with fail
                go_round
                case rel => exact ⟨i' + 1, c + 1, by omega, by go_num, by go_num, HA', by omega⟩
                case measure => simp [intOf]; omega
              · have he : ((x : Int) == (k : Int)) = false := beq_eq_false_iff_ne.2 (by omega)
                have HA' : Hid (L.count k = c + (L.drop (i' + 1)).count k) := Lib.hid (by rw [HCk.out, HA.out, if_neg hxk]; omega)
                clear hxk
                go_wp2_with fail
                go_round
                case rel => exact ⟨i' + 1, c, by omega, by go_num, rfl, HA', by omega⟩
                case measure => simp [intOf]; omega
            · have HEc : Hid (L.count k = c) := Lib.hid (by rw [HCk.out, cnt_end (by omega)]; omega)
              have HN2 : Hid (nn + c = L.countP (fun x => decide (x < k + 1))) := Lib.hid (by rw [countP_next, ← HN.out, HEc.out])
              have hle : nn + c ≤ 420 := by
                have := List.countP_le_length (p := fun x => decide (x < k + 1)) (l := L)
                rw [HN2.out]; omega
              cases b with
              | true =>
                have hc1 : c = 1 := by rw [← HEc.out, HCc.out]; rfl
                subst hc1
                go_wp2_with fail
                go_roundw
                case rel => exact ⟨k + 1, nn + 1, by omega, by go_num, by go_num, HN2, hle, hb3⟩
                case measure => simp [intOf]; omega
              | false =>
                have hc1 : c = 0 := by rw [← HEc.out, HCc.out]; rfl
                subst hc1
                go_wp2_with fail
                go_roundw
                case rel => exact ⟨k + 1, nn + 0, by omega, by go_num, by go_num, HN2, hle, hb3⟩
                case measure => simp [intOf]; omega
    · have hnl : nn = L.length := by
        rw [HN.out]
        refine countP_all (fun x hx => ?_)
        rw [HL.out] at hx
        have := filtL_lt x hx
        rw [List.length_map] at this; omega
      have he : ((nn : Int) == (L.length : Int)) = true := beq_iff_eq.2 (by omega)
      have HM3 := Lib.hid (HM.out.below hret hlt)
      clear hnl
      go_wp2_with fail
      refine (awake11_any _ HM3.out).mono ?_
      rintro e w4 ⟨rfl, hb4⟩
      go_wp2_with fail
      go_ret
      exact ⟨rfl, below_step hret hb4⟩
end Go.Proofs.YtfkgjjoejcbdnaaDoor
