/- The walk of language.Filter. -/
import Derived.Test.YtfkgjjoejcbdnaaDoorLangL
import Derived.Test.YtfkgjjoejcbdnaaDoorLangF
import Derived.Test.YtfkgjjoejcbdnaaDoorIntsW
namespace Go.Proofs.YtfkgjjoejcbdnaaDoor
open Go.RowKit

/-- The state of a filter: the indices that stand, the marks, and what lay before. -/
structure FInv (w wr : World) (o : Value) (st : FSt) (n : Nat) : Prop where
  buf : IBuf wr (w.heap.size + 1) o st.1
  bools : BoolsAt wr w.heap.size st.2
  len : st.2.length = n
  bel : Below w.heap.size w wr
  sz : w.heap.size + 1 ≤ wr.heap.size
theorem FInv.below {w wr w2 : World} {o : Value} {st : FSt} {n : Nat} (h : FInv w wr o st n) (hb : Below wr.heap.size wr w2) : FInv w w2 o st n :=
  ⟨h.buf.below hb, h.bools.below hb (Nat.lt_of_succ_le h.sz), h.len, h.bel.trans (hb.mono (Nat.le_trans (Nat.le_succ _) h.sz)), Nat.le_trans h.sz hb.size⟩
theorem size_setCell (w : World) (p : Addr) (v : Value) : (w.setCell p v).heap.size = w.heap.size := by simp [World.setCell]
theorem FInv.set {w wr : World} {o : Value} {st : FSt} {n k : Nat} (h : FInv w wr o st n) (hk : k < n) : FInv w (wr.setCell ⟨w.heap.size, k, none⟩ (.bool true)) o (st.1, st.2.set k true) n :=
  ⟨h.buf.setCell (Nat.lt_succ_self _), h.bools.set (by rw [h.len]; exact hk) true, by simp [h.len], h.bel.setCell (Nat.le_refl _) _, by rw [size_setCell]; exact h.sz⟩
theorem FInv.grow {w wr w3 : World} {o v : Value} {st : FSt} {n k : Nat} {ob : Obj} (h : FInv w wr o st n) (hb : IBuf w3 (w.heap.size + 1) v (st.1 ++ [k])) (hbel : Below (w.heap.size + 1) (wr.alloc ob) w3) : FInv w w3 v (st.1 ++ [k], st.2) n :=
  have b1 : Below (w.heap.size + 1) wr w3 := ((Below.refl _ _).alloc h.sz _).trans hbel
  ⟨hb, h.bools.below b1 (Nat.lt_succ_self _), h.len, h.bel.trans (b1.mono (Nat.le_succ _)), Nat.le_trans h.sz b1.size⟩
theorem cell_set_new (w : World) (p : Addr) (u v : Value) (t : TypeId) : ((w.setCell p u).alloc (.cells #[v] t)).cell? ⟨w.heap.size, 0, none⟩ = some v := by
  have h := cell_new (w.setCell p u) v t
  rwa [size_setCell] at h
/-- A filter's answer. -/
def FiltOf (m : List UInt8 → List UInt8 → Int) (rs ts : List ByteArray) (w : World) (e : Ending) (w' : World) : Prop := ∃ v, e = .returned v ∧ IBuf w' w.heap.size v (filtL m (rs.map bs) (ts.map bs)) ∧ (filtL m (rs.map bs) (ts.map bs)).length ≤ 420 ∧ Below w.heap.size w w'
theorem IBuf.mono {w : World} {B B' : Nat} {v : Value} {l : List Nat} (h : IBuf w B v l) (hB : B' ≤ B) : IBuf w B' v l := by
  refine ⟨h.1, ?_⟩
  rcases h.2 with h0 | ⟨g, cap, cur, h1, h2, h3, h4⟩
  · exact .inl h0
  · exact .inr ⟨g, cap, cur, h1, Nat.le_trans hB h2, h3, h4⟩
set_option maxHeartbeats 3200000 in
theorem filter_any (oa ob : Option Addr) (rs ts : List ByteArray) (ca cb : Nat) (w : World) (hr : StrO w oa rs) (ht : StrO w ob ts) (nr : rs.length ≤ 20) (nt : ts.length ≤ 20) (zr : ∀ x ∈ rs, x.size ≤ 100) (zt : ∀ x ∈ ts, x.size ≤ 100) (hM : MaxOf w) :
    Calls Tryd.prog 21 #[.slice oa rs.length ca, .slice ob ts.length cb] w (FiltOf matchI rs ts w) := by
  have HR := Lib.hid hr
  have HT := Lib.hid ht
  have ZR := Lib.hid zr
  have ZT := Lib.hid zt
  have HM := Lib.hid hM
  have hlt := hM.lt
  clear hr ht zr zt hM
  obtain ⟨w1, hmk, hB, b1, z1⟩ := make_bools ts.length (by omega) w
  have HI1 : FInv w w1 (.slice none 0 0) ([], List.replicate ts.length false) ts.length := ⟨IBuf.nil_ _ _, hB, by simp, b1, by omega⟩
  clear hB b1 z1
  go_enter Tryd.func21, Tryd.ntmps21
  go_wp2_with fail
  clear hmk
  go_loopw [16, 5] (fun j o wr => ∃ (i : Nat) (st : FSt), i ≤ rs.length ∧ j = .int .i64 i ∧ Hid (filtL matchI (rs.map bs) (ts.map bs) = (filtOut matchI (ts.map bs) ((rs.map bs).drop i) st).1) ∧ FInv w wr o st ts.length ∧ st.1.length ≤ i * 21) (fun j _ _ => rs.length - (intOf j).toNat)
  case atStart => exact ⟨0, _, by omega, rfl, Lib.hid (by unfold filtL; rw [List.length_map]; rfl), HI1, by simp⟩
  case round =>
    obtain ⟨i, st, hi, rfl, H, hI, hl⟩ := hrel
    clear HI1
    by_cases hir : i < rs.length
    · obtain ⟨r, hr⟩ : ∃ x, rs[i]? = some x := ⟨_, List.getElem?_eq_getElem hir⟩
      obtain ⟨ad, rfl, hcr⟩ := (HR.out.down hI.bel) i r hr
      have zr := ZR.out r (List.mem_of_getElem? hr)
      have Hs := Lib.hid (filtOut_at (m := matchI) (tags := ts.map bs) hr st)
      clear hr
      go_wp2_with fail
      clear hcr
      go_loopw [22, 5] (fun j o wr => ∃ (k : Nat) (st' : FSt), k ≤ ts.length ∧ j = .int .i64 k ∧ Hid (filtIn matchI (bs r) 0 (ts.map bs) st = filtIn matchI (bs r) k ((ts.map bs).drop k) st') ∧ FInv w wr o st' ts.length ∧ st'.1.length ≤ i * 21 + k) (fun j _ _ => ts.length - (intOf j).toNat)
      case atStart => exact ⟨0, st, by omega, rfl, Lib.hid rfl, hI, by omega⟩
      case round =>
        obtain ⟨k, st', hk, rfl, H', hI', hl'⟩ := hrel
        clear hI
        by_cases hkt : k < ts.length
        · obtain ⟨t, ht⟩ : ∃ x, ts[k]? = some x := ⟨_, List.getElem?_eq_getElem hkt⟩
          obtain ⟨ad', rfl, hct⟩ := (HT.out.down hI'.bel) k t ht
          have zt := ZT.out t (List.mem_of_getElem? ht)
          have Hs' := Lib.hid (filtIn_at (m := matchI) (r := bs r) ht st')
          have hk2 : k < st'.2.length := by rw [hI'.len]; exact hkt
          have hcb := hI'.bools.cell k hk2
          have HBk := Lib.hid (List.getElem?_eq_getElem hk2)
          have HI2 := Lib.hid hI'
          clear ht hI'
          cases hbk : st'.2[k] with
          | true =>
            rw [hbk] at hcb
            have HE : Hid (filtStep matchI (bs r) (bs t) k st' = st') := Lib.hid (filtStep_used (by rw [HBk.out, hbk]))
            clear hbk
            go_wp2_with fail
            go_roundw
            case rel => exact ⟨k + 1, st', by omega, by go_num, Lib.hid (by rw [H'.out, Hs'.out, HE.out]), HI2.out, by omega⟩
            case measure => simp [intOf]; omega
          | false =>
            rw [hbk] at hcb
            have HF : Hid (st'.2[k]? = some false) := Lib.hid (by rw [HBk.out, hbk])
            clear hbk
            have HMr := Lib.hid (HM.out.below HI2.out.bel hlt)
            go_wp2_with fail
            refine (match_any r t _ HMr.out.choose (by omega) (by omega) HMr.out.choose_spec HMr.out.lt).mono ?_
            rintro e w2 ⟨rfl, hb2⟩
            have HI3 := Lib.hid (HI2.out.below hb2)
            clear hb2 hcb hct
            obtain ⟨q, HQ⟩ : ∃ q : Int, Hid (q = matchI (bs r) (bs t)) := ⟨_, Lib.hid rfl⟩
            rw [← HQ.out]
            by_cases hq : 0 ≤ q
            · have HE : Hid (filtStep matchI (bs r) (bs t) k st' = (st'.1 ++ [k], st'.2.set k true)) := Lib.hid (filtStep_hit HF.out (by rw [← HQ.out]; exact hq))
              have hfz := HI3.out.bools.free k hk2
              have hcb2 := HI3.out.bools.cell k hk2
              have HI4 := Lib.hid (HI3.out.set hkt)
              have hlen : st'.1.length + 1 ≤ 1000000 := by omega
              go_wp2_with (at_builtin; refine wpList_append_int rfl (.tmp 41) (.tmp 43) rfl _ (w.heap.size + 1) _ st'.1 rfl (HI4.out.buf.alloc _) (le_alloc HI4.out.sz _) ⟨w2.heap.size, 0, none⟩ k rfl (cell_set_new _ _ _ _ _) hlen ?_)
              intro v1 w3 hB1 hb1 hz1
              have HI5 := Lib.hid (HI4.out.grow hB1 hb1)
              clear hB1 hb1 hz1 hcb2 hfz
              go_wp2
              go_roundw
              case rel => exact ⟨k + 1, (st'.1 ++ [k], st'.2.set k true), by omega, by go_num, Lib.hid (by rw [H'.out, Hs'.out, HE.out]), HI5.out, by simp; omega⟩
              case measure => simp [intOf]; omega
            · have HE : Hid (filtStep matchI (bs r) (bs t) k st' = st') := Lib.hid (filtStep_miss (by rw [← HQ.out]; exact hq))
              go_wp2_with fail
              go_roundw
              case rel => exact ⟨k + 1, st', by omega, by go_num, Lib.hid (by rw [H'.out, Hs'.out, HE.out]), HI3.out, by omega⟩
              case measure => simp [intOf]; omega
        · have He := Lib.hid (filtIn_end (m := matchI) (r := bs r) k (xs := ts) (by omega) st')
          go_wp2_with fail
          go_roundw
          case rel => exact ⟨i + 1, st', by omega, by go_num, Lib.hid (by rw [H.out, Hs.out, H'.out, He.out]), hI', by omega⟩
          case measure => simp [intOf]; omega
    · have He := Lib.hid (filtOut_end (m := matchI) (tags := ts.map bs) i (xs := rs) (by omega) st)
      go_wp2_with fail
      go_ret
      have hv : filtL matchI (rs.map bs) (ts.map bs) = st.1 := by rw [H.out, He.out]
      exact ⟨_, rfl, by rw [hv]; exact hI.buf.mono (Nat.le_succ _), by rw [hv]; omega, hI.bel⟩
end Go.Proofs.YtfkgjjoejcbdnaaDoor
