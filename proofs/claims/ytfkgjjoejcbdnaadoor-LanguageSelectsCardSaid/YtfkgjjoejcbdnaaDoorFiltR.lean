/- The walk of the reference's Filter, and of keep.SameInts on equal lists. -/
import Derived.Test.YtfkgjjoejcbdnaaDoorFiltW
import Derived.Test.YtfkgjjoejcbdnaaDoorLangO
import Derived.StillTailTactics
namespace Go.Proofs.YtfkgjjoejcbdnaaDoor
open Go.RowKit

theorem FInv.drew {w wr : World} {o : Value} {st : FSt} {n : Nat} (h : FInv w wr o st n) : FInv w wr.drew o st n := h.below (Below.refl _ _).drew
set_option maxHeartbeats 3200000 in
theorem rfilter_any (oa ob : Option Addr) (rs ts : List ByteArray) (ca cb : Nat) (w : World) (hr : StrO w oa rs) (ht : StrO w ob ts) (nr : rs.length ≤ 20) (nt : ts.length ≤ 20) (zr : ∀ x ∈ rs, x.size ≤ 100) (zt : ∀ x ∈ ts, x.size ≤ 100) :
    Calls Tryd.prog 22 #[.slice oa rs.length ca, .slice ob ts.length cb] w (FiltOf rmatchI rs ts w) := by
  have HR := Lib.hid hr
  have HT := Lib.hid ht
  have ZR := Lib.hid zr
  have ZT := Lib.hid zt
  clear hr ht zr zt
  obtain ⟨w1, hmk, hB, b1, z1⟩ := make_bools ts.length (by omega) w
  have HI1 : FInv w w1 (.slice none 0 0) ([], List.replicate ts.length false) ts.length := ⟨IBuf.nil_ _ _, hB, by simp, b1, by omega⟩
  clear hB b1 z1
  go_enter Tryd.func22, Tryd.ntmps22
  go_wp2_with fail
  clear hmk
  go_loopw [7, 5] (fun j o wr => ∃ (i : Nat) (st : FSt), i ≤ rs.length ∧ j = .int .i64 i ∧ Hid (filtL rmatchI (rs.map bs) (ts.map bs) = (filtOut rmatchI (ts.map bs) ((rs.map bs).drop i) st).1) ∧ FInv w wr o st ts.length ∧ st.1.length ≤ i * 21) (fun j _ _ => rs.length - (intOf j).toNat)
  case atStart => exact ⟨0, _, by omega, rfl, Lib.hid (by unfold filtL; rw [List.length_map]; rfl), HI1, by simp⟩
  case round =>
    obtain ⟨i, st, hi, rfl, H, hI, hl⟩ := hrel
    clear HI1
    by_cases hir : i < rs.length
    · obtain ⟨r, hr⟩ : ∃ x, rs[i]? = some x := ⟨_, List.getElem?_eq_getElem hir⟩
      obtain ⟨ad, rfl, _⟩ := HR.out i r hr
      have zr := ZR.out r (List.mem_of_getElem? hr)
      have Hs := Lib.hid (filtOut_at (m := rmatchI) (tags := ts.map bs) hr st)
      have HRi := Lib.hid hr
      clear hr
      go_wp2_with fail
      go_loopw [8, 5] (fun j o wr => ∃ (k : Nat) (st' : FSt), k ≤ ts.length ∧ j = .int .i64 k ∧ Hid (filtIn rmatchI (bs r) 0 (ts.map bs) st = filtIn rmatchI (bs r) k ((ts.map bs).drop k) st') ∧ FInv w wr o st' ts.length ∧ st'.1.length ≤ i * 21 + k) (fun j _ _ => ts.length - (intOf j).toNat)
      case atStart => exact ⟨0, st, by omega, rfl, Lib.hid rfl, hI, by omega⟩
      case round =>
        obtain ⟨k, st', hk, rfl, H', hI', hl'⟩ := hrel
        clear hI
        by_cases hkt : k < ts.length
        · obtain ⟨t, ht⟩ : ∃ x, ts[k]? = some x := ⟨_, List.getElem?_eq_getElem hkt⟩
          obtain ⟨ad', rfl, hct⟩ := (HT.out.down hI'.bel) k t ht
          obtain ⟨adr, he, hcr⟩ := (HR.out.down hI'.bel) i r HRi.out
          obtain rfl := Option.some.inj he
          have zt := ZT.out t (List.mem_of_getElem? ht)
          have Hs' := Lib.hid (filtIn_at (m := rmatchI) (r := bs r) ht st')
          have hk2 : k < st'.2.length := by rw [hI'.len]; exact hkt
          have hcb := hI'.bools.cell k hk2
          have HBk := Lib.hid (List.getElem?_eq_getElem hk2)
          have HI2 := Lib.hid hI'
          clear ht hI' he
          cases hbk : st'.2[k] with
          | true =>
            rw [hbk] at hcb
            have HE : Hid (filtStep rmatchI (bs r) (bs t) k st' = st') := Lib.hid (filtStep_used (by rw [HBk.out, hbk]))
            clear hbk
            go_wp2_with fail
            go_quiet (fail)
            go_wp2_with fail
            go_roundw
            case rel => exact ⟨k + 1, st', by omega, by go_num, Lib.hid (by rw [H'.out, Hs'.out, HE.out]), HI2.out.below (below_drewN (Below.refl _ _) _), by omega⟩
            case measure => simp [intOf]; omega
          | false =>
            rw [hbk] at hcb
            have HF : Hid (st'.2[k]? = some false) := Lib.hid (by rw [HBk.out, hbk])
            clear hbk
            go_wp2_with fail
            go_still_tail 14, (by kernel_rfl)
            change wpList _ _ _ _ _ wr.drew
            have HI2d := Lib.hid HI2.out.drew
            generalize wr.drew = wd at HI2d
            go_wp2_with fail
            refine (rmatch_any r t _ (by omega) (by omega)).mono ?_
            rintro e w2 ⟨rfl, hb2⟩
            have HI3 := Lib.hid (HI2d.out.below hb2)
            clear hb2 hcb hct hcr
            obtain ⟨q, HQ⟩ : ∃ q : Int, Hid (q = rmatchI (bs r) (bs t)) := ⟨_, Lib.hid rfl⟩
            rw [← HQ.out]
            by_cases hq : 0 ≤ q
            · have HE : Hid (filtStep rmatchI (bs r) (bs t) k st' = (st'.1 ++ [k], st'.2.set k true)) := Lib.hid (filtStep_hit HF.out (by rw [← HQ.out]; exact hq))
              have hlen : st'.1.length + 1 ≤ 1000000 := by omega
              go_wp2_with (at_builtin; refine wpList_append_int rfl (.tmp 43) (.tmp 45) rfl _ (w.heap.size + 1) _ st'.1 rfl (HI3.out.buf.alloc _) (le_alloc HI3.out.sz _) ⟨w2.heap.size, 0, none⟩ k rfl (cell_new _ _ _) hlen ?_)
              intro v1 w3 hB1 hb1 hz1
              have HI4 := Lib.hid (HI3.out.grow hB1 hb1)
              have hfz := HI4.out.bools.free k hk2
              have hcb2 := HI4.out.bools.cell k hk2
              have HI5 := Lib.hid (HI4.out.set hkt)
              clear hB1 hb1 hz1
              go_wp2
              go_roundw
              case rel => exact ⟨k + 1, (st'.1 ++ [k], st'.2.set k true), by omega, by go_num, Lib.hid (by rw [H'.out, Hs'.out, HE.out]), HI5.out, by simp; omega⟩
              case measure => simp [intOf]; omega
            · have HE : Hid (filtStep rmatchI (bs r) (bs t) k st' = st') := Lib.hid (filtStep_miss (by rw [← HQ.out]; exact hq))
              go_wp2_with fail
              go_roundw
              case rel => exact ⟨k + 1, st', by omega, by go_num, Lib.hid (by rw [H'.out, Hs'.out, HE.out]), HI3.out, by omega⟩
              case measure => simp [intOf]; omega
        · have He := Lib.hid (filtIn_end (m := rmatchI) (r := bs r) k (xs := ts) (by omega) st')
          go_wp2_with fail
          go_roundw
          case rel => exact ⟨i + 1, st', by omega, by go_num, Lib.hid (by rw [H.out, Hs.out, H'.out, He.out]), hI', by omega⟩
          case measure => simp [intOf]; omega
    · have He := Lib.hid (filtOut_end (m := rmatchI) (tags := ts.map bs) i (xs := rs) (by omega) st)
      go_wp2_with fail
      go_ret
      have hv : filtL rmatchI (rs.map bs) (ts.map bs) = st.1 := by rw [H.out, He.out]
      exact ⟨_, rfl, by rw [hv]; exact hI.buf.mono (Nat.le_succ _), by rw [hv]; omega, hI.bel⟩
theorem same_at {L : List Nat} {oa : Option Addr} {w : World} (h : IntsO w oa L) {i : Nat} (hi : i < L.length) : ∃ (k : Nat) (ad : Addr), oa = some ad ∧ w.cell? (ad.add i) = some (.int .i64 (k : Int)) ∧ L[i]? = some k := by
  have e := List.getElem?_eq_getElem hi
  obtain ⟨ad, h1, h2⟩ := h i _ e
  exact ⟨_, ad, h1, h2, e⟩
theorem sameints_any (oa ob : Option Addr) (L : List Nat) (ca cb : Nat) (w : World) (ha : IntsO w oa L) (hb : IntsO w ob L) (hn : L.length ≤ 1000000) :
    Calls Tryd.prog 20 #[.slice oa L.length ca, .slice ob L.length cb] w fun e w' => e = .returned (.bool true) ∧ Below w.heap.size w w' := by
  have HA := Lib.hid ha
  have HB := Lib.hid hb
  have hne : ((L.length : Int) != (L.length : Int)) = false := by simp
  clear ha hb
  go_enter Tryd.func20, Tryd.ntmps20
  go_wp2_with fail
  go_loopw [5] (fun j wr => ∃ k : Nat, k ≤ L.length ∧ j = .int .i64 k ∧ Below w.heap.size w wr) (fun j _ => L.length - (intOf j).toNat)
  case atStart => exact ⟨0, by omega, rfl, Below.refl _ _⟩
  case round =>
    obtain ⟨k, hk, rfl, hb⟩ := hrel
    by_cases hlt : k < L.length
    · obtain ⟨x, ad, rfl, hc, hx⟩ := same_at (HA.out.down hb) hlt
      obtain ⟨y, ad', rfl, hc', hy⟩ := same_at (HB.out.down hb) hlt
      rw [hx] at hy
      cases hy
      have hxx : ((x : Int) != (x : Int)) = false := by simp
      clear hx
      go_wp2_with fail
      go_quiet (fail)
      go_wp2_with fail
      go_roundw
      case rel => exact ⟨k + 1, by omega, by go_num, below_drewN hb _⟩
      case measure => simp [intOf]; omega
    · go_wp2_with fail
      go_ret
      exact ⟨rfl, hb⟩
end Go.Proofs.YtfkgjjoejcbdnaaDoor
