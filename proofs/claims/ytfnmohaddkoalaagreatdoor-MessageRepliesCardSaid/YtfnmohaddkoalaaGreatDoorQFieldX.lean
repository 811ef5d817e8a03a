/- The walks of the readers and writers of field lines (3.1, 3.2), of the program and of the reference. Printed by gen_fieldx.py. -/
import Derived.Test.YtfnmohaddkoalaaGreatDoorQFieldW
import Derived.Test.YtfnmohaddkoalaaGreatDoorQEnvW
namespace Go.Proofs.YtfnmohaddkoalaaGreatDoor
open Go.RowKit Go.Shelf
set_option linter.unusedSimpArgs false

def fieldV (r : (List UInt8 × List UInt8) × Int) : Value := .tuple #[.agg #[.string ⟨r.1.1.toArray⟩, .string ⟨r.1.2.toArray⟩], .int .i64 r.2]
abbrev fldC (n v : ByteArray) : List Value := [.string n, .string v]
abbrev fld0C : List Value := [.string ⟨#[]⟩, .string ⟨#[]⟩]
theorem fld_size : (Tryz.prog.info? 69).map (·.size) = some 2 := by kernel_rfl
theorem fld_one (n v : ByteArray) : ∀ u ∈ fldC n v, u.oneCell' = true := by
  intro u hu
  simp only [fldC, List.mem_cons, List.not_mem_nil, or_false] at hu
  rcases hu with rfl | rfl <;> rfl
set_option maxHeartbeats 3200000 in
set_option maxRecDepth 100000 in
theorem fparse_any (s : ByteArray) (w : World) (hs : s.size ≤ 100000) (hM : MaxOf w) :
    Calls Tryz.prog 70 #[.string s] w fun e w' => e = .returned (fieldV (fieldL (bs s))) ∧ Below w.heap.size w w' := by
  have R0 := RowAt.new w fld0C 69
  have b0 := alloc_b w (.cells fld0C.toArray 69)
  obtain ⟨r, hr⟩ : ∃ r, r = fieldL (bs s) := ⟨_, rfl⟩
  have HR := Lib.hid hr
  have HM := Lib.hid (hM.below b0)
  rw [← hr]
  clear hr hM
  by_cases hl : 2000 < s.size
  · have HF : Hid (r = (([], []), 4)) := Lib.hid (by rw [HR.out]; exact fieldL_long (by rw [bs_length]; exact hl))
    have hl' : 2000 < (s.size : Int) := by omega
    clear hl
    go_enter Tryz.func70, Tryz.ntmps70
    go_wp2_with (refine wpList_store_row rfl _ 69 (.tmp 2) (.tmp 11) rfl w.heap.size 69 fld0C (fld0C) R0 rfl rfl rfl fld_size (fld_one _ _) ?_; intro w9 R9 g1 g2 g3)
    refine bodyPost_ret (results_row2 rfl _ _ w.heap.size 69 (fld0C) R9 rfl _ Tryz.underlying69 fld_size) rfl ?_
    exact ⟨by rw [HF.out]; rfl, b0.trans (g1 _ (Nat.le_refl _))⟩
  · have hl' : ¬ 2000 < (s.size : Int) := by omega
    have hl2 : ¬ 2000 < (bs s).length := by rw [bs_length]; exact hl
    have zl := cutB_len 58 (bs s)
    rw [bs_length] at zl
    have HSY := Lib.hid (fieldL_syn (l := bs s) hl2)
    have HBG := Lib.hid (fieldL_big (l := bs s) hl2)
    have HOK := Lib.hid (fieldL_ok (l := bs s) hl2)
    have HC := Lib.hid (cut_any s 58 _ (by omega) HM.out)
    obtain ⟨h, hh⟩ : ∃ h : ByteArray, h = ⟨(cutB 58 (bs s)).1.toArray⟩ := ⟨_, rfl⟩
    obtain ⟨d, hd⟩ : ∃ d : ByteArray, d = ⟨(cutB 58 (bs s)).2.1.toArray⟩ := ⟨_, rfl⟩
    have eh : (cutB 58 (bs s)).1 = bs h := by rw [hh]
    have ed : (cutB 58 (bs s)).2.1 = bs d := by rw [hd]
    simp only [eh, ed] at HSY HBG HOK HC zl
    rw [bs_length, bs_length] at zl
    obtain ⟨x, hx⟩ : ∃ x, x = (cutB 58 (bs s)).2.2 := ⟨_, rfl⟩
    rw [← hx] at HC HSY HBG HOK
    have eb : (⟨(bs h).toArray⟩ : ByteArray) = h := rfl
    have eb2 : (⟨(bs d).toArray⟩ : ByteArray) = d := rfl
    rw [eb, eb2] at HC
    clear eh ed hh hd hx eb eb2 hl hl2
    go_enter Tryz.func70, Tryz.ntmps70
    go_wp2_with fail
    refine HC.out.mono ?_
    rintro e w1 ⟨rfl, hb1⟩
    have R1 := R0.below hb1
    have b1 := step_b b0 hb1
    clear R0 b0 hb1 HC HM
    cases x with
    | false =>
      have HF : Hid (r = (([], []), 1)) := Lib.hid (by rw [HR.out]; exact HSY.out rfl)
      go_wp2_with (refine wpList_store_row rfl _ 69 (.tmp 2) (.tmp 30) rfl w.heap.size 69 fld0C (fld0C) R1 rfl rfl rfl fld_size (fld_one _ _) ?_; intro w9 R9 g1 g2 g3)
      refine bodyPost_ret (results_row2 rfl _ _ w.heap.size 69 (fld0C) R9 rfl _ Tryz.underlying69 fld_size) rfl ?_
      exact ⟨by rw [HF.out]; rfl, b1.trans (g1 _ (Nat.le_refl _))⟩
    | true =>
      cases ht : tokenB (bs h) with
      | false =>
        have HF : Hid (r = (([], []), 1)) := Lib.hid (by rw [HR.out]; exact HSY.out (by rw [ht]; rfl))
        have HT := Lib.hid ht
        clear ht
        go_wp2_with fail
        refine (token_any h _ (by omega)).mono ?_
        rintro e w2 ⟨he, rfl⟩
        rw [HT.out] at he
        subst he
        go_wp2_with (refine wpList_store_row rfl _ 69 (.tmp 2) (.tmp 30) rfl w.heap.size 69 fld0C (fld0C) R1 rfl rfl rfl fld_size (fld_one _ _) ?_; intro w9 R9 g1 g2 g3)
        refine bodyPost_ret (results_row2 rfl _ _ w.heap.size 69 (fld0C) R9 rfl _ Tryz.underlying69 fld_size) rfl ?_
        exact ⟨by rw [HF.out]; rfl, b1.trans (g1 _ (Nat.le_refl _))⟩
      | true =>
        cases hx : textB (bs d) with
        | false =>
          have HF : Hid (r = (([], []), 1)) := Lib.hid (by rw [HR.out]; exact HSY.out (by rw [ht, hx]; rfl))
          have HT := Lib.hid ht
          have HX := Lib.hid hx
          clear ht hx
          go_wp2_with fail
          refine (token_any h _ (by omega)).mono ?_
          rintro e w2 ⟨he, rfl⟩
          rw [HT.out] at he
          subst he
          go_wp2_with fail
          refine (text_any d _ (by omega)).mono ?_
          rintro e w2 ⟨he, rfl⟩
          rw [HX.out] at he
          subst he
          go_wp2_with (refine wpList_store_row rfl _ 69 (.tmp 2) (.tmp 30) rfl w.heap.size 69 fld0C (fld0C) R1 rfl rfl rfl fld_size (fld_one _ _) ?_; intro w9 R9 g1 g2 g3)
          refine bodyPost_ret (results_row2 rfl _ _ w.heap.size 69 (fld0C) R9 rfl _ Tryz.underlying69 fld_size) rfl ?_
          exact ⟨by rw [HF.out]; rfl, b1.trans (g1 _ (Nat.le_refl _))⟩
        | true =>
          have HT := Lib.hid ht
          have HX := Lib.hid hx
          have hc3 : (true && (tokenB (bs h) && textB (bs d))) = true := by rw [ht, hx]; rfl
          have HC3 := Lib.hid hc3
          obtain ⟨m, hm⟩ : ∃ m : ByteArray, m = ⟨(trimL (bs d)).toArray⟩ := ⟨_, rfl⟩
          have HM2 : Hid ((Ending.returned (.string ⟨(trimL (bs d)).toArray⟩) : Ending) = .returned (.string m)) := Lib.hid (by rw [hm])
          have em : trimL (bs d) = bs m := by rw [hm]
          have EM := Lib.hid em
          have zm : m.size ≤ d.size := by have := trimL_len (bs d); rw [em, bs_length, bs_length] at this; exact this
          obtain ⟨q, hq⟩ : ∃ q, q = validF (bs h) (bs m) := ⟨_, rfl⟩
          have HQ := Lib.hid hq
          clear ht hx hc3 hm em hq
          go_wp2_with fail
          refine (token_any h _ (by omega)).mono ?_
          rintro e w2 ⟨he, rfl⟩
          rw [HT.out] at he
          subst he
          go_wp2_with fail
          refine (text_any d _ (by omega)).mono ?_
          rintro e w2 ⟨he, rfl⟩
          rw [HX.out] at he
          subst he
          go_wp2_with fail
          refine (trim_any d _ (by omega)).mono ?_
          rintro e w3 ⟨he, hb3⟩
          rw [HM2.out] at he
          subst he
          have a4 := alloc_b w3 (.cells (fldC h m).toArray 69)
          have V4 := RowAt.new w3 (fldC h m) 69
          have R4 := (R1.below hb3).below a4
          have b4 := step_b (step_b b1 hb3) a4
          clear R1 b1 hb3 a4
          go_wp2_with fail
          generalize w3.alloc (.cells (fldC h m).toArray 69) = w4 at *
          generalize w3.heap.size = gV at *
          refine (fvalid_any h m w4 (by omega) (by omega)).mono ?_
          rintro e w5 ⟨he, hb5⟩
          have R5 := R4.below hb5
          have V5 := V4.below hb5
          have b5 := step_b b4 hb5
          clear R4 V4 b4 hb5
          rw [← HQ.out] at he
          cases q with
          | false =>
            have HF : Hid (r = (([], []), 4)) := Lib.hid (by rw [HR.out]; exact HBG.out HC3.out (by rw [EM.out]; exact HQ.out.symm))
            subst he
            go_wp2_with (refine wpList_store_row rfl _ 69 (.tmp 2) (.tmp 38) rfl w.heap.size 69 fld0C (fld0C) R5 rfl rfl rfl fld_size (fld_one _ _) ?_; intro w9 R9 g1 g2 g3)
            refine bodyPost_ret (results_row2 rfl _ _ w.heap.size 69 (fld0C) R9 rfl _ Tryz.underlying69 fld_size) rfl ?_
            exact ⟨by rw [HF.out]; rfl, b5.trans (g1 _ (Nat.le_refl _))⟩
          | true =>
            have HF : Hid (r = ((bs h, bs m), 0)) := Lib.hid (by rw [HR.out, HOK.out HC3.out (by rw [EM.out]; exact HQ.out.symm), EM.out])
            subst he
            go_wp2_with (first | (refine wpList_load_rowAt rfl _ 69 (.tmp 7) rfl gV 69 (fldC h m) V5 rfl _ Tryz.underlying69 fld_size ?_) | (refine wpList_store_row rfl _ 69 (.tmp 2) (.tmp 39) rfl w.heap.size 69 fld0C (fldC h m) R5 rfl rfl rfl fld_size (fld_one _ _) ?_; intro w9 R9 g1 g2 g3))
            refine bodyPost_ret (results_row2 rfl _ _ w.heap.size 69 (fldC h m) R9 rfl _ Tryz.underlying69 fld_size) rfl ?_
            exact ⟨by rw [HF.out]; rfl, b5.trans (g1 _ (Nat.le_refl _))⟩
set_option maxHeartbeats 1600000 in
theorem fformat_any (n v : ByteArray) (w : World) (hn : n.size ≤ 1000000) (hv : v.size ≤ 1000000) :
    Calls Tryz.prog 55 #[.agg #[.string n, .string v]] w fun e w' => e = .returned (.string ⟨(formF (bs n) (bs v)).toArray⟩) ∧ Below w.heap.size w w' := by
  have R0 := RowAt.new w (fldC n v) 69
  have b0 := alloc_b w (.cells (fldC n v).toArray 69)
  obtain ⟨x, hx⟩ : ∃ x : ByteArray, x = ⟨(formL (bs n) (bs v)).toArray⟩ := ⟨_, rfl⟩
  have HL : Hid (∀ wx, Calls Tryz.prog 84 #[.agg #[.string n, .string v]] wx fun e w' => e = .returned (.string x) ∧ Below wx.heap.size wx w') := Lib.hid fun wx => by
    rw [hx]; exact line_any n v wx hn hv
  obtain ⟨r, hr⟩ : ∃ r : ByteArray, r = ⟨(formF (bs n) (bs v)).toArray⟩ := ⟨_, rfl⟩
  have HR := Lib.hid hr
  have HX := Lib.hid hx
  rw [← hr]
  clear hr hx
  go_enter Tryz.func55, Tryz.ntmps55
  go_wp2_with fail
  refine (fvalid_any n v _ hn hv).mono ?_
  rintro e w1 ⟨he, hb1⟩
  have b1 := step_b b0 hb1
  have R1 := R0.below hb1
  have c0 := R1.cell 0 rfl
  have c1 := R1.cell 1 rfl
  clear R0 R1 hb1 b0
  cases hq : validF (bs n) (bs v) with
  | false =>
    rw [hq] at he
    subst he
    have HF : Hid (⟨#[]⟩ = r) := Lib.hid (by rw [HR.out]; unfold formF; rw [hq]; rfl)
    clear hq
    go_wp2_with fail
    go_ret
    exact ⟨by rw [← HF.out]; rfl, b1⟩
  | true =>
    rw [hq] at he
    subst he
    have HF : Hid (x = r) := Lib.hid (by rw [HR.out, HX.out]; unfold formF; rw [hq]; rfl)
    clear hq
    go_wp2_with fail
    refine (HL.out _).mono ?_
    rintro e w2 ⟨rfl, hb2⟩
    go_wp2_with fail
    go_ret
    exact ⟨by rw [← HF.out]; rfl, step_b b1 hb2⟩
end Go.Proofs.YtfnmohaddkoalaaGreatDoor
