/- The walks of layer 11: shorter, index, Lookup, of the program. -/
import Derived.Test.YtfkgjjoejcbdnaaDoorLangW3
import Derived.Test.YtfkgjjoejcbdnaaDoorLangW2
import Derived.Test.YtfkgjjoejcbdnaaDoorStrs
namespace Go.Proofs.YtfkgjjoejcbdnaaDoor
open Go.RowKit

theorem last_any (s : ByteArray) (w : World) (hs : s.size ≤ 100000) :
    Calls Tryd.prog 39 #[.string s, .int .u8 45] w fun e w' => ∃ d : Int, Hid (d = lastDash (bs s)) ∧ -1 ≤ d ∧ d ≤ s.size ∧ (d ≤ 0 ∨ d < s.size) ∧ e = .returned (.int .i64 d) ∧ w = w' :=
  (Tryd.strings_LastIndexByte s 45 (by omega) w).mono fun e w' ⟨he, hw⟩ => by
    have hb := lastDash_bd (bs s)
    rw [bs_length] at hb
    refine ⟨lastDash (bs s), Lib.hid rfl, by omega, by omega, by omega, ?_, hw.symm⟩
    rw [he]; rfl
/-- A text up to its last dash, or nothing. -/
theorem bs_cutLast {s t : ByteArray} {d : Int} (h : d = lastDash (bs s)) (ht : t = s.extract 0 (max d 0).toNat) : bs t = cutLast (bs s) := by
  rw [ht, bs_take]; unfold cutLast; rw [← h]
theorem size_cutLast {s t : ByteArray} {d : Int} (d2 : d ≤ s.size) (ht : t = s.extract 0 (max d 0).toNat) : (t.size : Int) = max d 0 := by
  rw [ht, ByteArray.size_extract]; omega
set_option maxHeartbeats 1600000 in
theorem shorter_any (s : ByteArray) (w : World) (hs : s.size ≤ 100000) :
    Calls Tryd.prog 31 #[.string s] w fun e w' => ∃ t : ByteArray, e = .returned (.string t) ∧ bs t = shortB (bs s) ∧ w = w' := by
  go_enter Tryd.func31, Tryd.ntmps31
  go_wp2_with fail
  refine (last_any s _ hs).mono ?_
  rintro e w1 ⟨d, HD, d1, d2, d3, rfl, rfl⟩
  go_wp2_with fail
  obtain ⟨t, HT⟩ : ∃ t : ByteArray, Hid (t = s.extract 0 (max d 0).toNat) := ⟨_, Lib.hid rfl⟩
  rw [← HT.out]
  have HB := Lib.hid (bs_cutLast HD.out HT.out)
  have zt := size_cutLast d2 HT.out
  have z1 : t.size ≤ 100000 := by omega
  clear zt
  refine (last_any t _ z1).mono ?_
  rintro e w1 ⟨d', HD', e1, e2, e3, rfl, rfl⟩
  have wi : IntKind.i64.wrap ((t.size : Int) - d') = (t.size : Int) - d' := IntWalk.i64_in _ (by omega)
  by_cases h : (t.size : Int) - d' = 2
  · have hb : ((t.size : Int) - d' == 2) = true := beq_iff_eq.2 h
    have HS : Hid (shortB (bs s) = cutLast (bs t)) := Lib.hid (by
      unfold shortB
      rw [← HB.out, ← HD'.out, bs_length, if_pos h])
    clear h
    go_wp2_with fail
    obtain ⟨u, HU⟩ : ∃ u : ByteArray, Hid (u = t.extract 0 (max d' 0).toNat) := ⟨_, Lib.hid rfl⟩
    rw [← HU.out]
    have HB2 := Lib.hid (bs_cutLast HD'.out HU.out)
    go_ret
    exact ⟨u, rfl, by rw [HB2.out, HS.out], rfl⟩
  · have hb : ((t.size : Int) - d' == 2) = false := beq_eq_false_iff_ne.2 h
    have HS : Hid (shortB (bs s) = bs t) := Lib.hid (by
      unfold shortB
      rw [← HB.out, ← HD'.out, bs_length, if_neg h])
    clear h
    go_wp2_with fail
    go_ret
    exact ⟨t, rfl, HS.out.symm, rfl⟩
theorem findF_at {r : List UInt8} {xs : List ByteArray} {k : Nat} {x : ByteArray} (h : xs[k]? = some x) : findF r k ((xs.map bs).drop k) = if foldB r (bs x) then (k : Int) else findF r (k + 1) ((xs.map bs).drop (k + 1)) := by
  have hk : k < xs.length := (List.getElem?_eq_some_iff.1 h).1
  have hx : xs[k] = x := (List.getElem?_eq_some_iff.1 h).2
  rw [List.drop_eq_getElem_cons (by simpa using hk), findF]
  simp [hx]
theorem findF_end {r : List UInt8} (k : Nat) {xs : List ByteArray} (h : xs.length ≤ k) : findF r k ((xs.map bs).drop k) = -1 := by
  rw [List.drop_of_length_le (by simpa using h)]; rfl
set_option maxHeartbeats 1600000 in
theorem lindex_any (r : ByteArray) (oa : Option Addr) (xs : List ByteArray) (cap : Nat) (w : World) (hr : r.size ≤ 100000) (hz : ∀ x ∈ xs, x.size ≤ 100000) (hn : xs.length ≤ 1000000) (hc : StrO w oa xs) :
    Calls Tryd.prog 32 #[.string r, .slice oa xs.length cap] w fun e w' => e = .returned (.int .i64 (findF (bs r) 0 (xs.map bs))) ∧ Below w.heap.size w w' := by
  have HC := Lib.hid hc
  have HZ := Lib.hid hz
  clear hc hz
  go_enter Tryd.func32, Tryd.ntmps32
  go_wp2_with fail
  go_loopw [9] (fun j wr => ∃ k : Nat, k ≤ xs.length ∧ j = .int .i64 k ∧ Hid (findF (bs r) 0 (xs.map bs) = findF (bs r) k ((xs.map bs).drop k)) ∧ Below w.heap.size w wr) (fun j _ => xs.length - (intOf j).toNat)
  case atStart => exact ⟨0, by omega, rfl, Lib.hid rfl, Below.refl _ _⟩
  case round =>
    obtain ⟨k, hk, rfl, H, hb⟩ := hrel
    by_cases hlt : k < xs.length
    · obtain ⟨x, hx⟩ : ∃ x, xs[k]? = some x := ⟨_, List.getElem?_eq_getElem hlt⟩
      obtain ⟨ad, rfl, hcx⟩ := (HC.out.down hb) k x hx
      have Hs := Lib.hid (findF_at (r := bs r) hx)
      have zx := HZ.out x (List.mem_of_getElem? hx)
      clear hx
      go_wp2_with fail
      refine (fold_any r x _ (by omega) (by omega)).mono ?_
      rintro e w2 ⟨rfl, hb2⟩
      have b2 := hb.trans (hb2.mono hb.size)
      clear hb2 hb
      cases hv : foldB (bs r) (bs x) with
      | true =>
        have HV := Lib.hid hv
        clear hv
        go_wp2_with fail
        go_ret
        exact ⟨by rw [H.out, Hs.out, HV.out]; rfl, b2⟩
      | false =>
        have HV := Lib.hid hv
        clear hv
        go_wp2_with fail
        go_roundw
        case rel => exact ⟨k + 1, by omega, by go_num, Lib.hid (by rw [H.out, Hs.out, HV.out]; rfl), b2⟩
        case measure => simp [intOf]; omega
    · have He := Lib.hid (findF_end (r := bs r) k (xs := xs) (by omega))
      go_wp2_with fail
      go_ret
      exact ⟨by rw [H.out, He.out]; rfl, hb⟩
set_option maxHeartbeats 1600000 in
theorem lookup_any (r : ByteArray) (oa : Option Addr) (xs : List ByteArray) (cap : Nat) (w : World) (m : Int) (hr : r.size ≤ 100000) (hz : ∀ x ∈ xs, x.size ≤ 100000) (hn : xs.length ≤ 1000000) (hc : StrO w oa xs) (hm : w.cell? ⟨0, 0, none⟩ = some (.int .i64 m)) :
    Calls Tryd.prog 17 #[.string r, .slice oa xs.length cap] w fun e w' => e = .returned (.int .i64 (lookI (bs r) (xs.map bs))) ∧ Below w.heap.size w w' := by
  have HC := Lib.hid hc
  have HZ := Lib.hid hz
  have HM := Lib.hid hm
  clear hc hz hm
  go_enter Tryd.func17, Tryd.ntmps17
  go_wp2_with fail
  refine (tag_any r _ m (by omega) HM.out).mono ?_
  rintro e w1 ⟨rfl, hb1⟩
  cases h1 : tagB (bs r) with
  | false =>
    have HF : Hid (lookI (bs r) (xs.map bs) = -1) := Lib.hid (by unfold lookI; rw [h1]; rfl)
    clear h1
    go_wp2_with fail
    go_ret
    exact ⟨by rw [HF.out]; rfl, hb1⟩
  | true =>
    have HF : Hid (lookI (bs r) (xs.map bs) = lookF (bs r).length (bs r) (xs.map bs)) := Lib.hid (by unfold lookI; rw [h1]; rfl)
    clear h1
    go_wp2_with fail
    go_loopw [5] (fun j wr => ∃ (p : ByteArray) (n : Nat), j = .string p ∧ p.size ≤ n ∧ n ≤ r.size ∧ Hid (lookI (bs r) (xs.map bs) = lookF n (bs p) (xs.map bs)) ∧ Below w.heap.size w wr) (fun j _ => match j with | .string p => p.size | _ => 0)
    case atStart => exact ⟨r, r.size, rfl, Nat.le_refl _, Nat.le_refl _, Lib.hid (by rw [HF.out, bs_length]), hb1⟩
    case round =>
      obtain ⟨p, n, rfl, hp, hn', H, hb⟩ := hrel
      clear hb1
      by_cases h0 : bs p = []
      · have e0 : (p.toList == []) = true := by rw [Lib.toList_data]; exact beq_iff_eq.2 h0
        have HE : Hid (lookF n (bs p) (xs.map bs) = -1) := Lib.hid (by rw [h0, lookF_nil])
        clear h0
        go_wp2_with fail
        go_ret
        exact ⟨by rw [H.out, HE.out]; rfl, hb⟩
      · have e0 : (p.toList == []) = false := by rw [Lib.toList_data]; exact beq_eq_false_iff_ne.2 h0
        obtain ⟨n', rfl, hsl, hst⟩ := lookF_step (tags := xs.map bs) h0 (n := n) (by rw [bs_length]; exact hp)
        have hsh := shortB_lt h0
        rw [bs_length] at hsh
        have HST := Lib.hid hst
        clear h0 hst
        go_wp2_with fail
        refine (lindex_any p oa xs cap _ (by omega) HZ.out hn (HC.out.down hb)).mono ?_
        rintro e w2 ⟨rfl, hb2⟩
        have b2 := hb.trans (hb2.mono hb.size)
        clear hb2 hb
        obtain ⟨f, HFf⟩ : ∃ f : Int, Hid (f = findF (bs p) 0 (xs.map bs)) := ⟨_, Lib.hid rfl⟩
        rw [← HFf.out]
        by_cases hf : 0 ≤ f
        · have HR : Hid (lookI (bs r) (xs.map bs) = f) := Lib.hid (by rw [H.out, HST.out, ← HFf.out, if_pos hf])
          go_wp2_with fail
          go_ret
          exact ⟨by rw [HR.out]; rfl, b2⟩
        · have HR : Hid (lookI (bs r) (xs.map bs) = lookF n' (shortB (bs p)) (xs.map bs)) := Lib.hid (by rw [H.out, HST.out, ← HFf.out, if_neg hf])
          go_wp2_with fail
          refine (shorter_any p _ (by omega)).mono ?_
          rintro e w3 ⟨t, rfl, ht, rfl⟩
          have HT := Lib.hid ht
          have zt : t.size = (shortB (bs p)).length := by rw [← ht, bs_length]
          clear ht
          go_wp2_with fail
          go_roundw
          case rel => exact ⟨t, n', rfl, by omega, by omega, Lib.hid (by rw [HT.out, HR.out]), b2⟩
          case measure => show t.size < p.size; omega
end Go.Proofs.YtfkgjjoejcbdnaaDoor
