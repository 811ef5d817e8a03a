/- The walks of the reference's Cut, Split, All (layer 7). Printed by gen_rlist.py. -/
import Derived.Test.YtglckhljpjcmaaaDoorListX
namespace Go.Proofs.YtglckhljpjcmaaaDoor
open Go.RowKit Go.Shelf

theorem mk_span (s : ByteArray) (i k : Nat) : s.extract i k = mkB (span s i k) := by rw [← span_bs]
/-- Where the reference's scan stands. -/
def CutAt (s : ByteArray) (a : UInt8) (i frm : Nat) (q : Bool) (out : List (List UInt8)) : Prop :=
  (i ≤ s.size ∧ frm ≤ i ∧ out.length ≤ i ∧ qcut a 0 [] (bs s) = out ++ qcut a (if q then 1 else 0) (span s frm i) ((bs s).drop i)) ∨ (i = s.size + 1 ∧ frm ≤ s.size ∧ out.length ≤ s.size ∧ qcut a 0 [] (bs s) = out ++ [span s frm s.size])
theorem CutAt.start (s : ByteArray) (a : UInt8) : CutAt s a 0 0 false [] := .inl ⟨by omega, by omega, by simp, by rw [span_nil]; rfl⟩
theorem CutAt.esc {s : ByteArray} {a : UInt8} {i frm : Nat} {out : List (List UInt8)} (h : CutAt s a i frm true out) (hi : i < s.size) (hc : s[i].toNat = 92) : CutAt s a (i + 1 + 1) frm true out := by
  rcases h with ⟨h1, h2, hl, h3⟩ | ⟨h1, _⟩
  · rw [if_pos rfl, drop_step s hi, qcut_go (by simp), span_step s h2 hi] at h3
    have hq : qstep 1 s[i] = 2 := by unfold qstep; rw [if_neg (by decide), if_pos ⟨rfl, hc⟩]
    rw [hq] at h3
    by_cases h4 : i + 1 < s.size
    · rw [drop_step s h4, qcut_go (by simp), span_step s (by omega) h4, show qstep 2 s[i + 1] = 1 from by unfold qstep; rw [if_pos rfl]] at h3
      exact .inl ⟨by omega, by omega, by omega, by rw [if_pos rfl]; exact h3⟩
    · rw [drop_end s (by omega), qcut, show i + 1 = s.size from by omega] at h3
      exact .inr ⟨by omega, by omega, by omega, h3⟩
  · omega
theorem CutAt.quote {s : ByteArray} {a : UInt8} {i frm : Nat} {q : Bool} {out : List (List UInt8)} (h : CutAt s a i frm q out) (hi : i < s.size) (hc : s[i].toNat = 34) (ha : a.toNat ≠ 34) : CutAt s a (i + 1) frm (!q) out := by
  rcases h with ⟨h1, h2, hl, h3⟩ | ⟨h1, _⟩
  · rw [drop_step s hi, qcut_go (by rw [hc]; exact fun h => ha h.2.symm), span_step s h2 hi] at h3
    refine .inl ⟨by omega, by omega, by omega, ?_⟩
    rw [h3]
    have : qstep (if q then 1 else 0) s[i] = (if (!q) = true then 1 else 0) := by
      unfold qstep; cases q <;> simp [hc]
    rw [this]
  · omega
theorem CutAt.sep {s : ByteArray} {a : UInt8} {i frm : Nat} {out : List (List UInt8)} (h : CutAt s a i frm false out) (hi : i < s.size) (hc : s[i].toNat = a.toNat) : CutAt s a (i + 1) (i + 1) false (out ++ [span s frm i]) := by
  rcases h with ⟨h1, h2, hl, h3⟩ | ⟨h1, _⟩
  · rw [drop_step s hi] at h3
    simp only [Bool.false_eq_true, if_false] at h3
    rw [qcut_sep hc] at h3
    refine .inl ⟨by omega, by omega, by simp; omega, ?_⟩
    rw [h3, span_nil]; simp
  · omega
theorem CutAt.go {s : ByteArray} {a : UInt8} {i frm : Nat} {q : Bool} {out : List (List UInt8)} (h : CutAt s a i frm q out) (hi : i < s.size) (h1 : ¬ (q = true ∧ s[i].toNat = 92)) (h2 : s[i].toNat ≠ 34) (h3 : ¬ (q = false ∧ s[i].toNat = a.toNat)) : CutAt s a (i + 1) frm q out := by
  rcases h with ⟨k1, k2, hl, k3⟩ | ⟨k1, _⟩
  · have hn : ¬ ((if q then 1 else 0) = 0 ∧ s[i].toNat = a.toNat) := by
      cases q
      · exact fun h => h3 ⟨rfl, h.2⟩
      · simp
    rw [drop_step s hi, qcut_go hn, span_step s k2 hi] at k3
    refine .inl ⟨by omega, by omega, by omega, ?_⟩
    rw [k3]
    have : qstep (if q then 1 else 0) s[i] = (if q then 1 else 0) := by
      unfold qstep
      cases q
      · simp [h2]
      · have : ¬ s[i].toNat = 92 := fun h => h1 ⟨rfl, h⟩
        simp [h2, this]
    rw [this]
  · omega
theorem CutAt.over {s : ByteArray} {a : UInt8} {i frm : Nat} {q : Bool} {out : List (List UInt8)} (h : CutAt s a i frm q out) (hi : s.size ≤ i) : qcut a 0 [] (bs s) = out ++ [span s frm s.size] := by
  rcases h with ⟨k1, k2, _, k3⟩ | ⟨_, _, _, k3⟩
  · rw [k3, drop_end s hi, qcut, show i = s.size from by omega]
  · exact k3
theorem CutAt.bd {s : ByteArray} {a : UInt8} {i frm : Nat} {q : Bool} {out : List (List UInt8)} (h : CutAt s a i frm q out) : i ≤ s.size + 1 ∧ frm ≤ s.size ∧ (i ≤ s.size → frm ≤ i) ∧ out.length ≤ s.size := by
  rcases h with ⟨k1, k2, hl, k3⟩ | ⟨k1, k2, hl, k3⟩
  · exact ⟨by omega, by omega, fun _ => k2, by omega⟩
  · exact ⟨by omega, k2, fun h => by omega, hl⟩
set_option maxHeartbeats 3200000 in
theorem rcut_any (s : ByteArray) (a : UInt8) (w : World) (hs : s.size ≤ 900000) (ha : a.toNat ≠ 34) :
    Calls Tryd.prog 68 #[.string s, .int .u8 (a.toNat : Int)] w fun e w' => ∃ v, e = .returned v ∧ SBuf w' w.heap.size v ((qcut a 0 [] (bs s)).map mkB) ∧ Below w.heap.size w w' := by
  have HA := Lib.hid ha
  clear ha
  go_enter Tryd.func68, Tryd.ntmps68
  go_wp2_with fail
  go_loopw [5, 6, 7, 8] (fun v x y z wr => ∃ (i frm : Nat) (q : Bool) (ms : List (List UInt8)) (zs : List ByteArray), x = .int .i64 frm ∧ y = .bool q ∧ z = .int .i64 i ∧ Hid (CutAt s a i frm q ms) ∧ Hid (zs = ms.map mkB) ∧ SBuf wr w.heap.size v zs ∧ Below w.heap.size w wr) (fun _ _ _ z _ => s.size + 1 - (intOf z).toNat)
  case atStart => exact ⟨0, 0, false, [], [], rfl, rfl, rfl, Lib.hid (CutAt.start s a), Lib.hid rfl, SBuf.nil_ _ _, Below.refl _ _⟩
  case round =>
    obtain ⟨i, frm, q, ms, zs, rfl, rfl, rfl, H, HZ, SB, hb⟩ := hrel
    obtain ⟨hb1, hb2, hb3, hb4⟩ := H.out.bd
    have hzl := congrArg List.length HZ.out
    rw [List.length_map] at hzl
    have hl10 : zs.length + 1 ≤ 1000000 := by omega
    have hz := hb.size
    obtain ⟨oa, cap, rfl, _⟩ := SB.shape
    by_cases hlt : i < s.size
    · have hfi : (frm : Int) ≤ (i : Int) := by omega
      clear hzl
      cases q with
      | true =>
        by_cases h92 : s[i].toNat = 92
        · have k1 : ((s[i].toNat : Int) == 92) = true := by simp; omega
          have HE := Lib.hid (H.out.esc hlt h92)
          clear h92
          go_wp2_with fail
          go_roundw
          case rel => exact ⟨i + 1 + 1, frm, true, ms, zs, rfl, rfl, by go_num, HE, HZ, SB, hb⟩
          case measure => simp [intOf]; omega
        · have k1 : ((s[i].toNat : Int) == 92) = false := by simp; omega
          by_cases h34 : s[i].toNat = 34
          · have k2 : ((s[i].toNat : Int) == 34) = true := by simp; omega
            have HE := Lib.hid (H.out.quote hlt h34 HA.out)
            clear h92 h34
            go_wp2_with fail
            go_roundw
            case rel => exact ⟨i + 1, frm, false, ms, zs, rfl, rfl, by go_num, HE, HZ, SB, hb⟩
            case measure => simp [intOf]; omega
          · have k2 : ((s[i].toNat : Int) == 34) = false := by simp; omega
            have HE := Lib.hid (H.out.go hlt (fun h => h92 h.2) h34 (fun h => by cases h.1))
            by_cases hsep : s[i].toNat = a.toNat
            · have k3 : ((s[i].toNat : Int) == (a.toNat : Int)) = true := by simp; omega
              clear h92 h34 hsep
              go_wp2_with fail
              go_roundw
              case rel => exact ⟨i + 1, frm, true, ms, zs, rfl, rfl, by go_num, HE, HZ, SB, hb⟩
              case measure => simp [intOf]; omega
            · have k3 : ((s[i].toNat : Int) == (a.toNat : Int)) = false := by simp; omega
              clear h92 h34 hsep
              go_wp2_with fail
              go_roundw
              case rel => exact ⟨i + 1, frm, true, ms, zs, rfl, rfl, by go_num, HE, HZ, SB, hb⟩
              case measure => simp [intOf]; omega
      | false =>
        by_cases h34 : s[i].toNat = 34
        · have k2 : ((s[i].toNat : Int) == 34) = true := by simp; omega
          have HE := Lib.hid (H.out.quote hlt h34 HA.out)
          clear h34
          go_wp2_with fail
          go_roundw
          case rel => exact ⟨i + 1, frm, true, ms, zs, rfl, rfl, by go_num, HE, HZ, SB, hb⟩
          case measure => simp [intOf]; omega
        · have k2 : ((s[i].toNat : Int) == 34) = false := by simp; omega
          by_cases hsep : s[i].toNat = a.toNat
          · have k3 : ((s[i].toNat : Int) == (a.toNat : Int)) = true := by simp; omega
            have HE := Lib.hid (H.out.sep hlt hsep)
            obtain ⟨t, ht⟩ : ∃ t, s.extract frm i = t := ⟨_, rfl⟩
            have HT : Hid (t = mkB (span s frm i)) := Lib.hid (by rw [← ht, mk_span])
            clear h34 hsep
            go_wp2_with (at_builtin; refine wpList_append_str rfl (.tmp 42) (.tmp 47) rfl w _ w.heap.size _ zs rfl (SB.alloc _) (hb.alloc hz _) (le_alloc hz _) ⟨wr.heap.size, 0, none⟩ t rfl (cell_new wr _ _) hl10 ?_)
            intro v5 w5 SB5 hb5 z5
            clear SB hb hz
            go_wp2_with fail
            go_roundw
            case rel => exact ⟨i + 1, i + 1, false, ms ++ [span s frm i], zs ++ [t], by go_num, rfl, by go_num, HE, Lib.hid (by rw [List.map_append, List.map_singleton, ← HT.out, HZ.out]), SB5, hb5⟩
            case measure => simp [intOf]; omega
          · have k3 : ((s[i].toNat : Int) == (a.toNat : Int)) = false := by simp; omega
            have HE := Lib.hid (H.out.go hlt (fun h => by cases h.1) h34 (fun h => hsep h.2))
            clear h34 hsep
            go_wp2_with fail
            go_roundw
            case rel => exact ⟨i + 1, frm, false, ms, zs, rfl, rfl, by go_num, HE, HZ, SB, hb⟩
            case measure => simp [intOf]; omega
    · have HF := Lib.hid (H.out.over (by omega))
      have hfi : (frm : Int) ≤ (s.size : Int) := by omega
      obtain ⟨t, ht⟩ : ∃ t, s.extract frm s.size = t := ⟨_, rfl⟩
      have HT : Hid (t = mkB (span s frm s.size)) := Lib.hid (by rw [← ht, mk_span])
      clear hzl
      go_wp2_with (at_builtin; refine wpList_append_str rfl (.tmp 51) (.tmp 55) rfl w _ w.heap.size _ zs rfl (SB.alloc _) (hb.alloc hz _) (le_alloc hz _) ⟨wr.heap.size, 0, none⟩ t rfl (cell_new wr _ _) hl10 ?_)
      intro v5 w5 SB5 hb5 z5
      clear SB hb hz
      go_wp2_with fail
      go_ret
      exact ⟨_, rfl, by rw [HF.out, List.map_append, List.map_singleton, ← HT.out, ← HZ.out]; exact SB5, hb5⟩
/-- Where the reference's Split stands. -/
def RSp (s : ByteArray) (k : Nat) (ms : List (List UInt8)) : Prop := ms.length ≤ 64 ∧ membersL (bs s) = (ms ++ memP ((qcut 44 0 [] (bs s)).drop k)).take 64
theorem RSp.full {s : ByteArray} {k : Nat} {ms : List (List UInt8)} (h : RSp s k ms) (hm : 64 ≤ ms.length) : membersL (bs s) = ms := by
  rw [h.2, List.take_append_of_le_length (by omega), List.take_of_length_le (by have := h.1; omega)]
theorem RSp.over {s : ByteArray} {k : Nat} {ms : List (List UInt8)} (h : RSp s k ms) (hm : (qcut 44 0 [] (bs s)).length ≤ k) : membersL (bs s) = ms := by
  rw [h.2, List.drop_of_length_le hm]
  show (ms ++ []).take 64 = ms
  rw [List.append_nil, List.take_of_length_le h.1]
theorem RSp.step {s : ByteArray} {k : Nat} {ms : List (List UInt8)} {p : List UInt8} (h : RSp s k ms) (hx : (qcut 44 0 [] (bs s))[k]? = some p) (hm : ms.length < 64) : (trimL p = [] → RSp s (k + 1) ms) ∧ (trimL p ≠ [] → RSp s (k + 1) (ms ++ [trimL p])) := by
  obtain ⟨hk, he⟩ := List.getElem?_eq_some_iff.1 hx
  have h2 := h.2
  rw [List.drop_eq_getElem_cons hk, he] at h2
  refine ⟨fun e => ⟨h.1, ?_⟩, fun e => ⟨by simp; omega, ?_⟩⟩
  · rw [h2, memP_cons_nil e]
  · rw [h2, memP_cons_ne e]; simp
set_option maxHeartbeats 3200000 in
theorem rsplit_any (s : ByteArray) (w : World) (hs : s.size ≤ 900000) :
    Calls Tryd.prog 59 #[.string s] w fun e w' => ∃ v, e = .returned v ∧ SBuf w' w.heap.size v ((membersL (bs s)).map mkB) ∧ Below w.heap.size w w' := by
  have HCU := Lib.hid (rcut_any s 44 w hs (by decide))
  have hpl := qcut_len 44 (bs s) 0 []
  rw [bs_length] at hpl
  obtain ⟨ps, hps⟩ : ∃ ps, ps = (qcut 44 0 [] (bs s)).map mkB := ⟨_, rfl⟩
  have hpsl : ps.length = (qcut 44 0 [] (bs s)).length := by rw [hps, List.length_map]
  have hpb : ps.length ≤ 900001 := by omega
  have HPZ : Hid (∀ (k : Nat) (x : ByteArray), ps[k]? = some x → ∃ p, (qcut 44 0 [] (bs s))[k]? = some p ∧ x = mkB p ∧ x.size ≤ 900000) := Lib.hid fun k x hx => by
    rw [hps, List.getElem?_map] at hx
    cases hq : (qcut 44 0 [] (bs s))[k]? with
    | none => rw [hq] at hx; cases hx
    | some p =>
      rw [hq] at hx
      have e : mkB p = x := by simpa using hx
      refine ⟨p, rfl, e.symm, ?_⟩
      have h1 := qcut_size 44 (bs s) 0 [] p (List.mem_of_getElem? hq)
      rw [bs_length] at h1
      rw [← e]
      show p.length ≤ _
      simp at h1; omega
  rw [← hps] at HCU
  have HPL := Lib.hid hpsl
  clear hps hpl hpsl
  go_enter Tryd.func59, Tryd.ntmps59
  go_wp2_with fail
  refine HCU.out.mono ?_
  rintro e w1 ⟨v1, rfl, SB1, hb1⟩
  obtain ⟨ov, cv, rfl, SO⟩ := StrO.ofS SB1
  have HSO := Lib.hid SO
  clear SO SB1 HCU
  go_wp2_with fail
  go_loopw [3, 5] (fun v c wr => ∃ (k : Nat) (ms : List (List UInt8)) (zs : List ByteArray), k ≤ ps.length ∧ c = .int .i64 k ∧ Hid (RSp s k ms) ∧ Hid (zs = ms.map mkB) ∧ SBuf wr w1.heap.size v zs ∧ Below w1.heap.size w1 wr) (fun _ c _ => ps.length - (intOf c).toNat)
  case atStart => exact ⟨0, [], [], by omega, rfl, Lib.hid ⟨by simp, rfl⟩, Lib.hid rfl, SBuf.nil_ _ _, Below.refl _ _⟩
  case round =>
    obtain ⟨k, ms, zs, hk, rfl, H, HZ, SB, hb⟩ := hrel
    have hzl := congrArg List.length HZ.out
    rw [List.length_map] at hzl
    have hm64 := H.out.1
    have hl10 : zs.length + 1 ≤ 1000000 := by omega
    have hz := hb.size
    obtain ⟨oa, cap, rfl, _⟩ := SB.shape
    by_cases hlt : k < ps.length
    · by_cases hfull : ms.length < 64
      · have hfl : (zs.length : Int) < 64 := by omega
        obtain ⟨x, hx⟩ : ∃ x, ps[k]? = some x := ⟨_, List.getElem?_eq_getElem hlt⟩
        obtain ⟨ad, rfl, c0⟩ := (HSO.out.down hb) k x hx
        obtain ⟨p, hp, hxp, hxz⟩ := HPZ.out k x hx
        obtain ⟨hA, hB⟩ := H.out.step hp hfull
        have hxb : bs x = p := by rw [hxp]
        cases he : trimL p with
        | nil =>
          have HA := Lib.hid (hA he)
          have HT : Hid (trimL (bs x) = []) := Lib.hid (by rw [hxb]; exact he)
          clear hA hB he hp hxp hxb hx hzl
          go_wp2_with fail
          refine (rtrim_any x wr (by omega)).mono ?_
          rintro e w2 ⟨rfl, hw2⟩
          rw [HT.out]
          subst hw2
          go_wp2_with fail
          go_roundw
          case rel => exact ⟨k + 1, ms, zs, by omega, by go_num, HA, HZ, SB, hb⟩
          case measure => simp [intOf]; omega
        | cons c t =>
          have HB := Lib.hid (hB (by rw [he]; simp))
          obtain ⟨u, hu⟩ : ∃ u, u = trimL p := ⟨_, rfl⟩
          have HT : Hid (trimL (bs x) = u) := Lib.hid (by rw [hxb, hu])
          have hub : ((mkB u).toList.isEmpty) = false := by rw [Lib.toList_data, hu, he]; rfl
          rw [← hu] at HB
          obtain ⟨ub, hubq⟩ : ∃ ub, ub = mkB u := ⟨_, rfl⟩
          rw [← hubq] at hub
          have HU := Lib.hid hubq
          clear hA hB he hp hxp hxb hx hzl hu
          go_wp2_with fail
          refine (rtrim_any x wr (by omega)).mono ?_
          rintro e w2 ⟨rfl, hw2⟩
          rw [HT.out, show (⟨u.toArray⟩ : ByteArray) = ub from hubq.symm]
          subst hw2
          clear hubq
          go_wp2_with (at_builtin; refine wpList_append_str rfl (.tmp 27) (.tmp 29) rfl w1 _ w1.heap.size _ zs rfl (SB.alloc _) (hb.alloc hz _) (le_alloc hz _) ⟨wr.heap.size, 0, none⟩ ub rfl (cell_new wr _ _) hl10 ?_)
          intro v5 w5 SB5 hb5 z5
          clear SB hb hz c0
          go_wp2_with fail
          go_roundw
          case rel => exact ⟨k + 1, ms ++ [u], zs ++ [ub], by omega, by go_num, HB, Lib.hid (by rw [List.map_append, List.map_singleton, ← HU.out, HZ.out]), SB5, hb5⟩
          case measure => simp [intOf]; omega
      · have HF := Lib.hid (H.out.full (by omega))
        have hfl : ¬ ((zs.length : Int) < 64) := by omega
        clear hzl
        go_wp2_with fail
        go_ret
        exact ⟨_, rfl, by rw [HF.out, ← HZ.out]; exact SB.lower hb1.size, step_b hb1 hb⟩
    · have HF := Lib.hid (H.out.over (by rw [← HPL.out]; omega))
      clear hzl
      go_wp2_with fail
      go_ret
      exact ⟨_, rfl, by rw [HF.out, ← HZ.out]; exact SB.lower hb1.size, step_b hb1 hb⟩
end Go.Proofs.YtglckhljpjcmaaaDoor
