/- The walk of the reference's ParseField (3.2). Printed by gen_rdec.py. -/
import Derived.Test.YtfnmohaddkoalaaDoorQFieldX
import Derived.Test.YtfnmohaddkoalaaDoorQDecodeW
import Derived.Deep.RegionWith
import Derived.IntWalk
namespace Go.Proofs.YtfnmohaddkoalaaDoor
open Go.RowKit Go.Shelf
set_option linter.unusedSimpArgs false

theorem run_to2 (s : ByteArray) (k : Nat) (i : Int) (hi : i = k) (h : k ≤ s.size) (wx : World) : (Instr.slice 9 (.string s) none (some (.int .i64 i)) none).run Tryd.prog wx = .ok (.string (s.extract 0 k)) wx := by
  subst hi
  exact run_slice_string_h wx 9 s Tryd.underlying9 .i64 k (by omega) (by omega)
theorem fidx_cut (s : ByteArray) : (idxFrom 58 (bs s) 0 = -1 ∧ cutB 58 (bs s) = (bs s, [], false)) ∨ ∃ i : Nat, idxFrom 58 (bs s) 0 = i ∧ i < s.size ∧ cutB 58 (bs s) = (bs (s.extract 0 i), bs (s.extract (i + 1) s.size), true) := by
  rcases idxFrom_bd 58 (bs s) 0 with ⟨h1, h2⟩ | ⟨i, h1, _, h3, h4⟩
  · left; rw [List.drop_zero] at h2; exact ⟨h1, h2⟩
  · right
    rw [bs_length] at h3
    rw [List.drop_zero, Nat.sub_zero] at h4
    exact ⟨i, h1, h3, by rw [h4, ext_take, ext_from]⟩
set_option maxHeartbeats 3200000 in
set_option maxRecDepth 100000 in
theorem rfparse_any (s : ByteArray) (w : World) (hs : s.size ≤ 100000) :
    Calls Tryd.prog 31 #[.string s] w fun e w' => e = .returned (fieldV (fieldL (bs s))) ∧ Below w.heap.size w w' := by
  have R0 := RowAt.new w fld0C 29
  have b0 := alloc_b w (.cells fld0C.toArray 29)
  obtain ⟨r, hr⟩ : ∃ r, r = fieldL (bs s) := ⟨_, rfl⟩
  have HR := Lib.hid hr
  rw [← hr]
  clear hr
  by_cases hl : 2000 < s.size
  · have HF : Hid (r = (([], []), 4)) := Lib.hid (by rw [HR.out]; exact fieldL_long (by rw [bs_length]; exact hl))
    have hl' : 2000 < (s.size : Int) := by omega
    clear hl
    go_enter Tryd.func31, Tryd.ntmps31
    go_wp2_with (refine wpList_store_row rfl _ 29 (.tmp 2) (.tmp 9) rfl w.heap.size 29 fld0C (fld0C) R0 rfl rfl rfl fld_size (fld_one _ _) ?_; intro w9 R9 g1 g2 g3)
    refine bodyPost_ret (results_row2 rfl _ _ w.heap.size 29 (fld0C) R9 rfl _ Tryd.underlying29 fld_size) rfl ?_
    exact ⟨by rw [HF.out]; rfl, b0.trans (g1 _ (Nat.le_refl _))⟩
  · have hl' : ¬ 2000 < (s.size : Int) := by omega
    have hl2 : ¬ 2000 < (bs s).length := by rw [bs_length]; exact hl
    have HSY := Lib.hid (fieldL_syn (l := bs s) hl2)
    have HBG := Lib.hid (fieldL_big (l := bs s) hl2)
    have HOK := Lib.hid (fieldL_ok (l := bs s) hl2)
    go_enter Tryd.func31, Tryd.ntmps31
    go_wp2_with fail
    generalize w.alloc (.cells fld0C.toArray 29) = w1 at *
    refine (index_any s 58 0 _ _ w1 rfl rfl (by omega) (by omega)).mono ?_
    rintro e w2 ⟨rfl, rfl⟩
    rcases fidx_cut s with ⟨h1, h2⟩ | ⟨i, h1, h2, h3⟩
    · have HF : Hid (r = (([], []), 1)) := Lib.hid (by rw [HR.out]; exact HSY.out (by rw [h2]; rfl))
      rw [h1]
      clear h1 h2 hl hl2
      go_wp2_with (refine wpList_store_row rfl _ 29 (.tmp 2) (.tmp 29) rfl w.heap.size 29 fld0C (fld0C) R0 rfl rfl rfl fld_size (fld_one _ _) ?_; intro w9 R9 g1 g2 g3)
      refine bodyPost_ret (results_row2 rfl _ _ w.heap.size 29 (fld0C) R9 rfl _ Tryd.underlying29 fld_size) rfl ?_
      exact ⟨by rw [HF.out]; rfl, b0.trans (g1 _ (Nat.le_refl _))⟩
    · rw [h1]
      obtain ⟨h, hh⟩ : ∃ h : ByteArray, h = s.extract 0 i := ⟨_, rfl⟩
      obtain ⟨d, hd⟩ : ∃ d : ByteArray, d = s.extract (i + 1) s.size := ⟨_, rfl⟩
      have p1 : ∀ wx, (Instr.slice 9 (.string s) none (some (.int .i64 (i : Int))) none).run Tryd.prog wx = .ok (.string h) wx := fun wx => by rw [hh]; exact run_to2 s i _ rfl (by omega) wx
      have p2 : ∀ wx, (Instr.slice 9 (.string s) (some (.int .i64 ((i : Int) + 1))) none none).run Tryd.prog wx = .ok (.string d) wx := fun wx => by rw [hd]; exact run_from2 s (i + 1) _ (by omega) (by omega) wx
      rw [← hh, ← hd] at h3
      have zh : h.size ≤ s.size := by rw [← bs_length, hh, ext_take, List.length_take, bs_length]; omega
      have zd : d.size ≤ s.size := by rw [← bs_length, hd, ext_from, List.length_drop, bs_length]; omega
      have hi1 : (i : Int) ≤ 2000 := by omega
      simp only [h3] at HSY HBG HOK
      clear h1 h2 h3 hh hd hl hl2
      cases ht : tokenB (bs h) with
      | false =>
        have HF : Hid (r = (([], []), 1)) := Lib.hid (by rw [HR.out]; exact HSY.out (by rw [ht]; rfl))
        have HT := Lib.hid ht
        clear ht
        go_wp2_with fail
        refine (rtoken_any h _ (by omega)).mono ?_
        rintro e w2 ⟨he, rfl⟩
        rw [HT.out] at he
        subst he
        go_wp2_with (refine wpList_store_row rfl _ 29 (.tmp 2) (.tmp 29) rfl w.heap.size 29 fld0C (fld0C) R0 rfl rfl rfl fld_size (fld_one _ _) ?_; intro w9 R9 g1 g2 g3)
        refine bodyPost_ret (results_row2 rfl _ _ w.heap.size 29 (fld0C) R9 rfl _ Tryd.underlying29 fld_size) rfl ?_
        exact ⟨by rw [HF.out]; rfl, b0.trans (g1 _ (Nat.le_refl _))⟩
      | true =>
        cases hx : textB (bs d) with
        | false =>
          have HF : Hid (r = (([], []), 1)) := Lib.hid (by rw [HR.out]; exact HSY.out (by rw [ht, hx]; rfl))
          have HT := Lib.hid ht
          have HX := Lib.hid hx
          clear ht hx
          go_wp2_with fail
          refine (rtoken_any h _ (by omega)).mono ?_
          rintro e w2 ⟨he, rfl⟩
          rw [HT.out] at he
          subst he
          go_wp2_with fail
          refine (rtext_any d _ (by omega)).mono ?_
          rintro e w2 ⟨he, rfl⟩
          rw [HX.out] at he
          subst he
          go_wp2_with (refine wpList_store_row rfl _ 29 (.tmp 2) (.tmp 29) rfl w.heap.size 29 fld0C (fld0C) R0 rfl rfl rfl fld_size (fld_one _ _) ?_; intro w9 R9 g1 g2 g3)
          refine bodyPost_ret (results_row2 rfl _ _ w.heap.size 29 (fld0C) R9 rfl _ Tryd.underlying29 fld_size) rfl ?_
          exact ⟨by rw [HF.out]; rfl, b0.trans (g1 _ (Nat.le_refl _))⟩
        | true =>
          have hc3 : (true && (tokenB (bs h) && textB (bs d))) = true := by rw [ht, hx]; rfl
          have HC3 := Lib.hid hc3
          have HT := Lib.hid ht
          have HX := Lib.hid hx
          obtain ⟨m, hm⟩ : ∃ m : ByteArray, m = ⟨(trimL (bs d)).toArray⟩ := ⟨_, rfl⟩
          have em : trimL (bs d) = bs m := by rw [hm]
          have EM := Lib.hid em
          have zm : m.size ≤ d.size := by have := trimL_len (bs d); rw [em, bs_length, bs_length] at this; exact this
          obtain ⟨q, hq⟩ : ∃ q, q = validF (bs h) (bs m) := ⟨_, rfl⟩
          have HQ := Lib.hid hq
          have HTR : Hid (∀ wx, Calls Tryd.prog 34 #[.string d] wx fun e w' => e = .returned (.string m) ∧ wx = w') := Lib.hid fun wx => by
            rw [hm]; exact rtrim_any d wx (by omega)
          have v1 : IntKind.i64.wrap ((i : Int) + 1) = (i : Int) + 1 := IntWalk.i64_in _ (by omega)
          clear ht hx hc3 hm em hq
          go_wp2_with fail
          refine (rtoken_any h _ (by omega)).mono ?_
          rintro e w2 ⟨he, rfl⟩
          rw [HT.out] at he
          subst he
          go_wp2_with fail
          refine (rtext_any d _ (by omega)).mono ?_
          rintro e w2 ⟨he, rfl⟩
          rw [HX.out] at he
          subst he
          go_wp2_with fail
          go_region_with ((go_at_call 34; refine (HTR.out _).mono ?_; rintro e w' ⟨rfl, rfl⟩))
          all_goals
            have a4 : Below w1.heap.size w1 (w1.alloc (.cells #[.string h, .string m] 29)).drew := (alloc_b w1 _).drew
            have V4 := (RowAt.new w1 (fldC h m) 29).drew
            have R4 := R0.below a4
            have b4 := step_b b0 a4
            generalize (w1.alloc (.cells #[.string h, .string m] 29)).drew = w4 at *
            generalize w1.heap.size = gV at *
            have c0 := V4.cell 0 rfl
            have c1 := V4.cell 1 rfl
            clear R0 b0 a4
            go_wp2_with fail
            refine (rfvalid_any h m w4 (by omega) (by omega)).mono ?_
            rintro e w5 ⟨he, hb5⟩
            have R5 := R4.below hb5
            have V5 := V4.below hb5
            have b5 := step_b b4 hb5
            clear R4 V4 b4 hb5 c0 c1
            rw [← HQ.out] at he
            cases q with
            | false =>
              have HF : Hid (r = (([], []), 4)) := Lib.hid (by rw [HR.out]; exact HBG.out HC3.out (by rw [EM.out]; exact HQ.out.symm))
              subst he
              go_wp2_with (refine wpList_store_row rfl _ 29 (.tmp 2) (.tmp 42) rfl w.heap.size 29 fld0C (fld0C) R5 rfl rfl rfl fld_size (fld_one _ _) ?_; intro w9 R9 g1 g2 g3)
              refine bodyPost_ret (results_row2 rfl _ _ w.heap.size 29 (fld0C) R9 rfl _ Tryd.underlying29 fld_size) rfl ?_
              exact ⟨by rw [HF.out]; rfl, b5.trans (g1 _ (Nat.le_refl _))⟩
            | true =>
              have HF : Hid (r = ((bs h, bs m), 0)) := Lib.hid (by rw [HR.out, HOK.out HC3.out (by rw [EM.out]; exact HQ.out.symm), EM.out])
              subst he
              go_wp2_with (first | (refine wpList_load_rowAt rfl _ 29 (.tmp 5) rfl gV 29 (fldC h m) V5 rfl _ Tryd.underlying29 fld_size ?_) | (refine wpList_store_row rfl _ 29 (.tmp 2) (.tmp 43) rfl w.heap.size 29 fld0C (fldC h m) R5 rfl rfl rfl fld_size (fld_one _ _) ?_; intro w9 R9 g1 g2 g3))
              refine bodyPost_ret (results_row2 rfl _ _ w.heap.size 29 (fldC h m) R9 rfl _ Tryd.underlying29 fld_size) rfl ?_
              exact ⟨by rw [HF.out]; rfl, b5.trans (g1 _ (Nat.le_refl _))⟩
end Go.Proofs.YtfnmohaddkoalaaDoor
