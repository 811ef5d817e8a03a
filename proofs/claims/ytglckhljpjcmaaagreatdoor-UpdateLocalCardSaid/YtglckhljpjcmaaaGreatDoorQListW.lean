/- The walks of the program's list.step, Split (layer 7). -/
import Derived.Test.YtglckhljpjcmaaaGreatDoorQListP
import Derived.Test.YtglckhljpjcmaaaGreatDoorQTrimW
import Derived.Test.YtglckhljpjcmaaaGreatDoorQRFld
namespace Go.Proofs.YtglckhljpjcmaaaGreatDoor
open Go.RowKit Go.Shelf

abbrev mkB (l : List UInt8) : ByteArray := ⟨l.toArray⟩
set_option maxHeartbeats 800000 in
theorem qstep_any (st : Nat) (c : UInt8) (w : World) (hst : st ≤ 2) :
    Calls Tryz.prog 91 #[.int .i64 (st : Int), .int .u8 (c.toNat : Int)] w fun e w' => e = .returned (.int .i64 (qstep st c : Nat)) ∧ w = w' := by
  by_cases h2 : st = 2
  · subst h2
    have H : Hid (qstep 2 c = 1) := Lib.hid (by unfold qstep; rw [if_pos rfl])
    go_enter Tryz.func91, Tryz.ntmps91
    go_wp2_with fail
    go_ret
    exact ⟨by rw [H.out]; rfl, rfl⟩
  · have e2 : (((st : Nat) : Int) == 2) = false := by simp; omega
    by_cases h1 : st = 1
    · subst h1
      by_cases h3 : c.toNat = 92
      · have k3 : ((c.toNat : Int) == 92) = true := by simp; omega
        have H : Hid (qstep 1 c = 2) := Lib.hid (by unfold qstep; rw [if_neg h2, if_pos ⟨rfl, h3⟩])
        clear h3
        go_enter Tryz.func91, Tryz.ntmps91
        go_wp2_with fail
        go_ret
        exact ⟨by rw [H.out]; rfl, rfl⟩
      · have k3 : ((c.toNat : Int) == 92) = false := by simp; omega
        by_cases h4 : c.toNat = 34
        · have k4 : ((c.toNat : Int) == 34) = true := by simp; omega
          have H : Hid (qstep 1 c = 0) := Lib.hid (by unfold qstep; rw [if_neg h2, if_neg (fun h => h3 h.2), if_pos h4])
          clear h3 h4
          go_enter Tryz.func91, Tryz.ntmps91
          go_wp2_with fail
          go_ret
          exact ⟨by rw [H.out]; rfl, rfl⟩
        · have k4 : ((c.toNat : Int) == 34) = false := by simp; omega
          have H : Hid (qstep 1 c = 1) := Lib.hid (by unfold qstep; rw [if_neg h2, if_neg (fun h => h3 h.2), if_neg h4])
          clear h3 h4
          go_enter Tryz.func91, Tryz.ntmps91
          go_wp2_with fail
          go_ret
          exact ⟨by rw [H.out]; rfl, rfl⟩
    · obtain rfl : st = 0 := by omega
      by_cases h4 : c.toNat = 34
      · have k4 : ((c.toNat : Int) == 34) = true := by simp; omega
        have H : Hid (qstep 0 c = 1) := Lib.hid (by unfold qstep; rw [if_neg h2, if_neg (fun h => h1 h.1), if_pos h4])
        clear h4
        go_enter Tryz.func91, Tryz.ntmps91
        go_wp2_with fail
        go_ret
        exact ⟨by rw [H.out]; rfl, rfl⟩
      · have k4 : ((c.toNat : Int) == 34) = false := by simp; omega
        have H : Hid (qstep 0 c = 0) := Lib.hid (by unfold qstep; rw [if_neg h2, if_neg (fun h => h1 h.1), if_neg h4])
        clear h4
        go_enter Tryz.func91, Tryz.ntmps91
        go_wp2_with fail
        go_ret
        exact ⟨by rw [H.out]; rfl, rfl⟩
/-- Where the scan stands: the members that are out, and what the rest will give. -/
def SplAt (s : ByteArray) (i frm st : Nat) (ms : List (List UInt8)) : Prop :=
  ms.length ≤ 64 ∧ ((i ≤ s.size ∧ frm ≤ i ∧ st ≤ 2 ∧ membersL (bs s) = (ms ++ memP (qcut 44 st (span s frm i) ((bs s).drop i))).take 64) ∨ (i = s.size + 1 ∧ membersL (bs s) = ms))
theorem SplAt.start (s : ByteArray) : SplAt s 0 0 0 [] := ⟨by simp, .inl ⟨by omega, by omega, by omega, by rw [span_nil]; rfl⟩⟩
theorem SplAt.full {s : ByteArray} {i frm st : Nat} {ms : List (List UInt8)} (h : SplAt s i frm st ms) (hm : 64 ≤ ms.length) : membersL (bs s) = ms := by
  rcases h with ⟨h1, ⟨_, _, _, h2⟩ | ⟨_, h2⟩⟩
  · rw [h2, List.take_append_of_le_length (by omega), List.take_of_length_le (by omega)]
  · exact h2
theorem SplAt.over {s : ByteArray} {i frm st : Nat} {ms : List (List UInt8)} (h : SplAt s i frm st ms) (hm : s.size < i) : membersL (bs s) = ms := by
  rcases h with ⟨h1, ⟨h3, _, _, h2⟩ | ⟨_, h2⟩⟩
  · omega
  · exact h2
theorem SplAt.go {s : ByteArray} {i frm st : Nat} {ms : List (List UInt8)} (h : SplAt s i frm st ms) (hi : i < s.size) (hc : ¬ (st = 0 ∧ s[i].toNat = 44)) : SplAt s (i + 1) frm (qstep st s[i]) ms := by
  rcases h with ⟨h1, ⟨h3, h4, h5, h2⟩ | ⟨h3, _⟩⟩
  · refine ⟨h1, .inl ⟨by omega, by omega, qstep_le _ h5, ?_⟩⟩
    rw [h2, drop_step s hi, qcut_go (show ¬ (st = 0 ∧ s[i].toNat = (44 : UInt8).toNat) from hc), span_step s h4 hi]
  · omega
theorem SplAt.cut {s : ByteArray} {i frm st : Nat} {ms : List (List UInt8)} (h : SplAt s i frm st ms) (hms : ms.length < 64) (hi : i < s.size) (h0 : st = 0) (hc : s[i].toNat = 44) :
    (trimL (span s frm i) = [] → SplAt s (i + 1) (i + 1) st ms) ∧ (trimL (span s frm i) ≠ [] → SplAt s (i + 1) (i + 1) st (ms ++ [trimL (span s frm i)])) := by
  subst h0
  rcases h with ⟨h1, ⟨h3, h4, h5, h2⟩ | ⟨h3, _⟩⟩
  · rw [drop_step s hi, qcut_sep (show s[i].toNat = (44 : UInt8).toNat from hc)] at h2
    refine ⟨fun e => ⟨h1, .inl ⟨by omega, by omega, by omega, ?_⟩⟩, fun e => ⟨by simp; omega, .inl ⟨by omega, by omega, by omega, ?_⟩⟩⟩
    · rw [h2, memP_cons_nil e, span_nil]
    · rw [h2, memP_cons_ne e, span_nil]; simp
  · omega
theorem SplAt.last {s : ByteArray} {i frm st : Nat} {ms : List (List UInt8)} (h : SplAt s i frm st ms) (hms : ms.length < 64) (hi : i = s.size) :
    (trimL (span s frm i) = [] → SplAt s (i + 1) (i + 1) st ms) ∧ (trimL (span s frm i) ≠ [] → SplAt s (i + 1) (i + 1) st (ms ++ [trimL (span s frm i)])) := by
  rcases h with ⟨h1, ⟨h3, h4, h5, h2⟩ | ⟨h3, _⟩⟩
  · rw [drop_end s (by omega), qcut] at h2
    refine ⟨fun e => ⟨h1, .inr ⟨by omega, ?_⟩⟩, fun e => ⟨by simp; omega, .inr ⟨by omega, ?_⟩⟩⟩
    · rw [h2, memP_cons_nil e]; show (ms ++ []).take 64 = ms; rw [List.append_nil, List.take_of_length_le (by omega)]
    · rw [h2, memP_cons_ne e]; show (ms ++ [trimL (span s frm i)]).take 64 = _; rw [List.take_of_length_le (by simp; omega)]
  · omega
theorem SplAt.frm_le {s : ByteArray} {i frm st : Nat} {ms : List (List UInt8)} (h : SplAt s i frm st ms) (hi : i ≤ s.size) : frm ≤ i ∧ st ≤ 2 := by
  rcases h with ⟨h1, ⟨h3, h4, h5, h2⟩ | ⟨h3, _⟩⟩
  · exact ⟨h4, h5⟩
  · omega
theorem empty_of {l : List UInt8} : ((⟨l.toArray⟩ : ByteArray).toList == ([] : List UInt8)) = l.isEmpty := by
  rw [Lib.toList_data]; cases l <;> rfl
theorem SplAt.len {s : ByteArray} {i frm st : Nat} {ms : List (List UInt8)} (h : SplAt s i frm st ms) : ms.length ≤ 64 := h.1
theorem SplAt.idx {s : ByteArray} {i frm st : Nat} {ms : List (List UInt8)} (h : SplAt s i frm st ms) : i ≤ s.size + 1 := by
  rcases h with ⟨_, ⟨h3, _⟩ | ⟨h3, _⟩⟩ <;> omega
set_option maxHeartbeats 3200000 in
theorem split_any (s : ByteArray) (w : World) (hs : s.size ≤ 1000000) :
    Calls Tryz.prog 80 #[.string s] w fun e w' => ∃ v, e = .returned v ∧ SBuf w' w.heap.size v ((membersL (bs s)).map mkB) ∧ Below w.heap.size w w' := by
  go_enter Tryz.func80, Tryz.ntmps80
  go_wp2_with fail
  go_loopw [3, 4, 5, 6] (fun v a b c wr => ∃ (i frm st : Nat) (ms : List (List UInt8)) (zs : List ByteArray), a = .int .i64 st ∧ b = .int .i64 frm ∧ c = .int .i64 i ∧ Hid (SplAt s i frm st ms) ∧ Hid (zs = ms.map mkB) ∧ SBuf wr w.heap.size v zs ∧ Below w.heap.size w wr) (fun _ _ _ c _ => s.size + 1 - (intOf c).toNat)
  case atStart => exact ⟨0, 0, 0, [], [], rfl, rfl, rfl, Lib.hid (SplAt.start s), Lib.hid rfl, SBuf.nil_ _ _, Below.refl _ _⟩
  case round =>
    obtain ⟨i, frm, st, ms, zs, rfl, rfl, rfl, H, HZ, SB, hb⟩ := hrel
    have hml := H.out.len
    have hix := H.out.idx
    have hzl := congrArg List.length HZ.out
    rw [List.length_map] at hzl
    obtain ⟨oa, cap, rfl, _⟩ := SB.shape
    have hz := hb.size
    by_cases hlt : i ≤ s.size
    · obtain ⟨hf, hst⟩ := H.out.frm_le hlt
      have hle : ((i : Int) ≤ (s.size : Int)) := by omega
      by_cases hfull : ms.length < 64
      · have hfl : (zs.length : Int) < 64 := by omega
        have hl10 : zs.length + 1 ≤ 1000000 := by omega
        by_cases hin : i < s.size
        · by_cases hsep : st = 0 ∧ s[i].toNat = 44
          · obtain ⟨h0, hc⟩ := hsep
            subst h0
            have k1 : ((s[i].toNat : Int) != 44) = false := by simp; omega
            obtain ⟨hA, hB⟩ := H.out.cut hfull hin rfl hc
            obtain ⟨t, ht⟩ : ∃ t, s.extract frm i = t := ⟨_, rfl⟩
            have htb : bs t = span s frm i := by rw [← ht, span_bs]
            have htz : t.size ≤ 1000000 := by rw [← ht, ByteArray.size_extract]; omega
            have hg1 : (frm : Int) ≤ (i : Int) := by omega
            cases he : trimL (span s frm i) with
            | nil =>
              have HA := Lib.hid (hA he)
              have HT : Hid (trimL (bs t) = []) := Lib.hid (by rw [htb]; exact he)
              clear hA hB he hc htb hzl
              go_wp2_with fail
              refine (trim_any t wr (by omega)).mono ?_
              rintro e w2 ⟨rfl, hb2⟩
              rw [HT.out]
              have SB2 := SB.below hb2 (Nat.le_refl _)
              have b2 := step_b hb hb2
              clear SB hb hb2
              go_wp2_with fail
              go_roundw
              case rel => exact ⟨i + 1, i + 1, 0, ms, zs, rfl, by go_num, by go_num, HA, HZ, SB2, b2⟩
              case measure => simp [intOf]; omega
            | cons x y =>
              have HB := Lib.hid (hB (by rw [he]; simp))
              obtain ⟨u, hu⟩ : ∃ u, u = trimL (span s frm i) := ⟨_, rfl⟩
              have HT : Hid (trimL (bs t) = u) := Lib.hid (by rw [htb, hu])
              have hub : ((mkB u).toList.isEmpty) = false := by rw [Lib.toList_data, hu, he]; rfl
              rw [← hu] at HB
              clear hA hB he hc htb hzl hu
              obtain ⟨ub, hubq⟩ : ∃ ub, ub = mkB u := ⟨_, rfl⟩
              rw [← hubq] at hub
              have HU := Lib.hid hubq
              go_wp2_with fail
              refine (trim_any t wr (by omega)).mono ?_
              rintro e w2 ⟨rfl, hb2⟩
              rw [HT.out, show (⟨u.toArray⟩ : ByteArray) = ub from hubq.symm]
              clear hubq
              have SB2 := SB.below hb2 (Nat.le_refl _)
              have b2 := step_b hb hb2
              have z2 := b2.size
              clear SB hb hb2
              go_wp2_with (at_builtin; refine wpList_append_str rfl (.tmp 45) (.tmp 47) rfl w _ w.heap.size _ zs rfl (SB2.alloc _) (b2.alloc z2 _) (le_alloc z2 _) ⟨w2.heap.size, 0, none⟩ ub rfl (cell_new w2 _ _) hl10 ?_)
              intro v5 w5 SB5 hb5 z5
              clear SB2 b2 z2
              go_wp2_with fail
              go_roundw
              case rel => exact ⟨i + 1, i + 1, 0, ms ++ [u], zs ++ [ub], rfl, by go_num, by go_num, HB, Lib.hid (by rw [List.map_append, List.map_singleton, ← HU.out, HZ.out]), SB5, hb5⟩
              case measure => simp [intOf]; omega
          · have HG := Lib.hid (H.out.go hin hsep)
            have hor : ((st : Int) != 0) = true ∨ (((st : Int) != 0) = false ∧ ((s[i].toNat : Int) != 44) = true) := by
              by_cases h0 : st = 0
              · right
                exact ⟨by simp [h0], by
                  have : ¬ s[i].toNat = 44 := fun h => hsep ⟨h0, h⟩
                  simp; omega⟩
              · left; simp; exact h0
            clear hsep hzl
            rcases hor with k1 | ⟨k1, k2⟩
            all_goals
              go_wp2_with fail
              refine (qstep_any st s[i] _ hst).mono ?_
              rintro e w2 ⟨rfl, hw2⟩
              subst hw2
              go_wp2_with fail
              go_roundw
              case rel => exact ⟨i + 1, frm, qstep st s[i], ms, zs, rfl, rfl, by go_num, HG, HZ, SB, hb⟩
              case measure => simp [intOf]; omega
        · have hie : i = s.size := by omega
          have k1 : ¬ ((i : Int) < (s.size : Int)) := by omega
          obtain ⟨hA, hB⟩ := H.out.last hfull hie
          obtain ⟨t, ht⟩ : ∃ t, s.extract frm i = t := ⟨_, rfl⟩
          have htb : bs t = span s frm i := by rw [← ht, span_bs]
          have htz : t.size ≤ 1000000 := by rw [← ht, ByteArray.size_extract]; omega
          have hg1 : (frm : Int) ≤ (i : Int) := by omega
          cases he : trimL (span s frm i) with
          | nil =>
            have HA := Lib.hid (hA he)
            have HT : Hid (trimL (bs t) = []) := Lib.hid (by rw [htb]; exact he)
            clear hA hB he htb hzl hie
            go_wp2_with fail
            refine (trim_any t wr (by omega)).mono ?_
            rintro e w2 ⟨rfl, hb2⟩
            rw [HT.out]
            have SB2 := SB.below hb2 (Nat.le_refl _)
            have b2 := step_b hb hb2
            clear SB hb hb2
            go_wp2_with fail
            go_roundw
            case rel => exact ⟨i + 1, i + 1, st, ms, zs, rfl, by go_num, by go_num, HA, HZ, SB2, b2⟩
            case measure => simp [intOf]; omega
          | cons x y =>
            have HB := Lib.hid (hB (by rw [he]; simp))
            obtain ⟨u, hu⟩ : ∃ u, u = trimL (span s frm i) := ⟨_, rfl⟩
            have HT : Hid (trimL (bs t) = u) := Lib.hid (by rw [htb, hu])
            have hub : ((mkB u).toList.isEmpty) = false := by rw [Lib.toList_data, hu, he]; rfl
            rw [← hu] at HB
            clear hA hB he htb hzl hie hu
            obtain ⟨ub, hubq⟩ : ∃ ub, ub = mkB u := ⟨_, rfl⟩
            rw [← hubq] at hub
            have HU := Lib.hid hubq
            go_wp2_with fail
            refine (trim_any t wr (by omega)).mono ?_
            rintro e w2 ⟨rfl, hb2⟩
            rw [HT.out, show (⟨u.toArray⟩ : ByteArray) = ub from hubq.symm]
            clear hubq
            have SB2 := SB.below hb2 (Nat.le_refl _)
            have b2 := step_b hb hb2
            have z2 := b2.size
            clear SB hb hb2
            go_wp2_with (at_builtin; refine wpList_append_str rfl (.tmp 45) (.tmp 47) rfl w _ w.heap.size _ zs rfl (SB2.alloc _) (b2.alloc z2 _) (le_alloc z2 _) ⟨w2.heap.size, 0, none⟩ ub rfl (cell_new w2 _ _) hl10 ?_)
            intro v5 w5 SB5 hb5 z5
            clear SB2 b2 z2
            go_wp2_with fail
            go_roundw
            case rel => exact ⟨i + 1, i + 1, st, ms ++ [u], zs ++ [ub], rfl, by go_num, by go_num, HB, Lib.hid (by rw [List.map_append, List.map_singleton, ← HU.out, HZ.out]), SB5, hb5⟩
            case measure => simp [intOf]; omega
      · have HF := Lib.hid (H.out.full (by omega))
        have hfl : ¬ ((zs.length : Int) < 64) := by omega
        clear hzl
        go_wp2_with fail
        go_ret
        exact ⟨_, rfl, by rw [HF.out, ← HZ.out]; exact SB, hb⟩
    · have HF := Lib.hid (H.out.over (by omega))
      have hle : ¬ ((i : Int) ≤ (s.size : Int)) := by omega
      clear hzl
      go_wp2_with fail
      go_ret
      exact ⟨_, rfl, by rw [HF.out, ← HZ.out]; exact SB, hb⟩
end Go.Proofs.YtglckhljpjcmaaaGreatDoor
