/- The walks of the reference's entity tags (layer 21): tagText, ParseETag, ETagOf; firstDate, Validator. -/
import Derived.Test.YtglckhljpjcmaaaDoorRFld
import Derived.Test.YtglckhljpjcmaaaDoorEtagX
import Derived.Test.YtglckhljpjcmaaaDoorCondV
import Derived.Test.YtglckhljpjcmaaaDoorDateW4
import Derived.RegionTactic
namespace Go.Proofs.YtglckhljpjcmaaaDoor
open Go.RowKit Go.Shelf

set_option maxHeartbeats 800000 in
theorem rpermitted_any (s : ByteArray) (w : World) (hs : s.size ≤ 9223372036854775807) :
    Calls Tryd.prog 62 #[.string s] w fun e w' => e = .returned (.bool (permB (bs s))) ∧ w = w' := by
  go_enter Tryd.func62, Tryd.ntmps62
  go_wp2
  go_loop [3] (fun j => ∃ k : Nat, k ≤ s.size ∧ j = .int .i64 k ∧ Hid ((bs s).all permC = ((bs s).drop k).all permC)) (fun j => s.size - (intOf j).toNat)
  case atStart => exact ⟨0, by omega, rfl, Lib.hid rfl⟩
  case round =>
    obtain ⟨k, hk, rfl, H⟩ := hrel
    by_cases hlt : k < s.size
    · have Hs := Lib.hid (all_step permC s hlt)
      by_cases h1 : s[k].toNat < 33
      · have hd := Lib.hid (permC_false (.inl h1))
        have k1 : (s[k].toNat : Int) < 33 := by omega
        clear h1
        go_wp2
        go_ret
        exact ⟨ret_bool (by unfold permB; rw [H.out, Hs.out, hd.out]; rfl), rfl⟩
      · have k1 : ¬ (s[k].toNat : Int) < 33 := by omega
        by_cases h2 : s[k].toNat = 34
        · have hd := Lib.hid (permC_false (.inr (.inl h2)))
          have k2 : ((s[k].toNat : Int) == 34) = true := by simp; omega
          clear h1 h2
          go_wp2
          go_ret
          exact ⟨ret_bool (by unfold permB; rw [H.out, Hs.out, hd.out]; rfl), rfl⟩
        · have k2 : ((s[k].toNat : Int) == 34) = false := by simp; omega
          by_cases h3 : s[k].toNat = 127
          · have hd := Lib.hid (permC_false (.inr (.inr h3)))
            have k3 : ((s[k].toNat : Int) == 127) = true := by simp; omega
            clear h1 h2 h3
            go_wp2
            go_ret
            exact ⟨ret_bool (by unfold permB; rw [H.out, Hs.out, hd.out]; rfl), rfl⟩
          · have hd := Lib.hid (permC_true h1 h2 h3)
            have k3 : ((s[k].toNat : Int) == 127) = false := by simp; omega
            clear h1 h2 h3
            go_wp2
            go_round
            case rel => exact ⟨k + 1, by omega, by go_num, Lib.hid (by rw [H.out, Hs.out, hd.out]; rfl)⟩
            case measure => simp [intOf]; omega
    · have He := Lib.hid (all_end permC s (k := k) (by omega))
      go_wp2
      go_ret
      exact ⟨ret_bool (by unfold permB; rw [H.out, He.out]), rfl⟩
theorem weak_yes {s : ByteArray} (h : (s.extract 0 2).toList = [87, 47]) : weakL (bs s) = (bs (s.extract 2 s.size), true) := by
  have e : bs (s.extract 0 2) = [87, 47] := by rw [← h, Lib.toList_data]
  have e1 : bs (s.extract 0 2) = (bs s).take 2 := by unfold bs; rw [Lib.extract_data]; simp
  have hp : Lib.hasPrefix (bs s) [87, 47] = true := by
    unfold Lib.hasPrefix
    rw [List.isPrefixOf_iff_prefix, ← e, e1]
    exact List.take_prefix 2 _
  unfold weakL
  rw [hp, if_pos rfl]
  congr 1
  unfold bs
  rw [Lib.extract_data]
  exact (List.take_of_length_le (by rw [List.length_drop, ← Lib.size_eq]; omega)).symm
theorem weak_no {s : ByteArray} (h : s.size < 2 ∨ ¬ (s.extract 0 2).toList = [87, 47]) : weakL (bs s) = (bs s, false) := by
  have hp : Lib.hasPrefix (bs s) [87, 47] = false := by
    cases hq : Lib.hasPrefix (bs s) [87, 47] with
    | false => rfl
    | true =>
      unfold Lib.hasPrefix at hq
      rw [List.isPrefixOf_iff_prefix] at hq
      exfalso
      have hl := hq.length_le
      rw [bs_length] at hl
      rcases h with h | h
      · simp at hl; omega
      · apply h
        rw [Lib.toList_data]
        show bs (s.extract 0 2) = _
        have e1 : bs (s.extract 0 2) = (bs s).take 2 := by unfold bs; rw [Lib.extract_data]; simp
        rw [e1]
        exact (List.prefix_iff_eq_take.1 hq).symm
  unfold weakL
  rw [hp]; rfl
-- generated below
theorem rows2 (w : World) (X : List Value) (TX : TypeId) (Y : List Value) (TY : TypeId) :
    RowAt ((w.alloc (.cells X.toArray TX)).alloc (.cells Y.toArray TY)) w.heap.size TX X ∧ RowAt ((w.alloc (.cells X.toArray TX)).alloc (.cells Y.toArray TY)) (w.heap.size + 1) TY Y ∧ Below w.heap.size w ((w.alloc (.cells X.toArray TX)).alloc (.cells Y.toArray TY)) := by
  have h1 := RowAt.new w X TX
  have h2 := RowAt.new (w.alloc (.cells X.toArray TX)) Y TY
  have s1 : (w.alloc (.cells X.toArray TX)).heap.size = w.heap.size + 1 := Array.size_push _
  rw [s1] at h2
  exact ⟨h1.alloc _, h2, step_b (alloc_b w _) (alloc_b _ _)⟩
theorem below_drew {B : Nat} {a w : World} (h : Below B a w) : Below B a w.drew := ⟨h.os, h.tape, h.output, h.size, h.block⟩
set_option maxHeartbeats 6400000 in
set_option maxRecDepth 100000 in
theorem retag_any (s : ByteArray) (w : World) (hs : s.size ≤ 9223372036854775807) :
    Calls Tryd.prog 54 #[.string s] w fun e w' => e = .returned (etagV (etagL (bs s))) ∧ Below w.heap.size w w' := by
  obtain ⟨R0, R1, b2⟩ := rows2 w (etC false ⟨#[]⟩) 55 (etC false ⟨#[]⟩) 55
  by_cases h2 : 2 < s.size
  · have k2 : (2 : Int) < (s.size : Int) := by omega
    by_cases hw : (s.extract 0 2).toList = [87, 47]
    · obtain ⟨x, hx⟩ : ∃ x, s.extract 0 2 = x := ⟨_, rfl⟩
      obtain ⟨u, hu⟩ : ∃ u, s.extract 2 s.size = u := ⟨_, rfl⟩
      have HW : Hid (weakL (bs s) = (bs u, true)) := Lib.hid (by rw [weak_yes hw, hu])
      have hzu : u.size = s.size - 2 := by rw [← hu]; simp
      rw [hx] at hw
      have huz : u.size ≤ 9223372036854775807 := by omega
      clear hzu
      by_cases hq2 : u.size < 2
      · have hq2' : (u.size : Int) < 2 := by omega
        have HE : Hid (etagL (bs s) = none) := Lib.hid (by unfold etagL; rw [HW.out]; rw [if_neg (by rw [quot_short hq2]; decide)])
        clear hq2
        go_enter Tryd.func54, Tryd.ntmps54
        go_wp2_with fail
        go_region
        obtain ⟨R0, R1, b2⟩ := rows2 w (etC false ⟨#[]⟩) 55 (etC true ⟨#[]⟩) 55
        have R0 := R0.drew
        have R1 := R1.drew
        have b2 := below_drew b2
        go_wp2_with (refine wpList_store_row rfl _ 55 (.tmp 2) (.tmp 41) rfl w.heap.size 55 (etC false ⟨#[]⟩) (etC false ⟨#[]⟩) R0 rfl rfl rfl et_size (et_one _ _) ?_; intro w5 R5 f1 f2 f3)
        refine bodyPost_ret (results_row2 rfl _ _ w.heap.size 55 (etC false ⟨#[]⟩) R5 rfl _ Tryd.underlying55 et_size) rfl ?_
        exact ⟨by rw [HE.out]; rfl, b2.trans (f1 _ (Nat.le_refl _))⟩
      have hq2' : ¬ (u.size : Int) < 2 := by omega
      have hn : 0 < u.size := by omega
      have hl : u.size - 1 < u.size := by omega
      have e1 : ((u.size : Int) - 1).toNat = u.size - 1 := by omega
      by_cases h0 : (u[0]'hn).toNat = 34
      · have q0 : ((u[0].toNat : Int) != 34) = false := by rw [h0]; rfl
        by_cases h1 : (u[u.size - 1]'hl).toNat = 34
        · have q1 : ((u[u.size - 1].toNat : Int) != 34) = false := by rw [h1]; rfl
          obtain ⟨t, ht⟩ : ∃ t, u.extract 1 (u.size - 1) = t := ⟨_, rfl⟩
          have htz : t.size ≤ 9223372036854775807 := by rw [← ht]; simp; omega
          have hqm := quot_mid (by omega) hn hl h0 h1
          rw [ht] at hqm
          cases hp : permB (bs t) with
          | false =>
            have HP := Lib.hid hp
            have HE : Hid (etagL (bs s) = none) := Lib.hid (by unfold etagL; rw [HW.out]; rw [if_neg (by rw [hqm, hp]; decide)])
            clear h0 h1 hp hqm
            go_enter Tryd.func54, Tryd.ntmps54
            go_wp2_with fail
            go_region
            obtain ⟨R0, R1, b2⟩ := rows2 w (etC false ⟨#[]⟩) 55 (etC true ⟨#[]⟩) 55
            have R0 := R0.drew
            have R1 := R1.drew
            have b2 := below_drew b2
            go_wp2_with fail
            refine (rpermitted_any t _ htz).mono ?_
            rintro e w1 ⟨rfl, hw1⟩
            rw [HP.out]
            subst hw1
            go_wp2_with (refine wpList_store_row rfl _ 55 (.tmp 2) (.tmp 41) rfl w.heap.size 55 (etC false ⟨#[]⟩) (etC false ⟨#[]⟩) R0 rfl rfl rfl et_size (et_one _ _) ?_; intro w5 R5 f1 f2 f3)
            refine bodyPost_ret (results_row2 rfl _ _ w.heap.size 55 (etC false ⟨#[]⟩) R5 rfl _ Tryd.underlying55 et_size) rfl ?_
            exact ⟨by rw [HE.out]; rfl, b2.trans (f1 _ (Nat.le_refl _))⟩
          | true =>
            have HP := Lib.hid hp
            have HE : Hid (etagL (bs s) = some (true, bs t)) := Lib.hid (by unfold etagL; rw [HW.out]; rw [if_pos (by rw [hqm, hp])]; show some (true, ((bs u).drop 1).take ((bs u).length - 2)) = _; rw [bs_mid, ht])
            clear h0 h1 hp hqm
            go_enter Tryd.func54, Tryd.ntmps54
            go_wp2_with fail
            go_region
            obtain ⟨R0, R1, b2⟩ := rows2 w (etC false ⟨#[]⟩) 55 (etC true ⟨#[]⟩) 55
            have R0 := R0.drew
            have R1 := R1.drew
            have b2 := below_drew b2
            go_wp2_with fail
            refine (rpermitted_any t _ htz).mono ?_
            rintro e w1 ⟨rfl, hw1⟩
            rw [HP.out]
            subst hw1
            clear R0 R1 b2
            obtain ⟨R7, R6, b7⟩ := rows2 w (etC false ⟨#[]⟩) 55 (etC true t) 55
            have R7 := R7.drew
            have R6 := R6.drew
            have b7 := below_drew b7
            go_wp2_with (first | (refine wpList_load_rowAt rfl _ 55 (.tmp 4) rfl (w.heap.size + 1) 55 (etC true t) R6 rfl _ Tryd.underlying55 et_size ?_) | (refine wpList_store_row rfl _ 55 (.tmp 2) (.tmp 48) rfl w.heap.size 55 (etC false ⟨#[]⟩) (etC true t) R7 rfl rfl rfl et_size (et_one _ _) ?_; intro w5 R5 f1 f2 f3))
            refine bodyPost_ret (results_row2 rfl _ _ w.heap.size 55 (etC true t) R5 rfl _ Tryd.underlying55 et_size) rfl ?_
            exact ⟨by rw [HE.out]; rfl, b7.trans (f1 _ (Nat.le_refl _))⟩
        · have q1 : ((u[u.size - 1].toNat : Int) != 34) = true := by simp; omega
          have HE : Hid (etagL (bs s) = none) := Lib.hid (by unfold etagL; rw [HW.out]; rw [if_neg (by rw [quot_end hl h1]; decide)])
          clear h0 h1
          go_enter Tryd.func54, Tryd.ntmps54
          go_wp2_with fail
          go_region
          obtain ⟨R0, R1, b2⟩ := rows2 w (etC false ⟨#[]⟩) 55 (etC true ⟨#[]⟩) 55
          have R0 := R0.drew
          have R1 := R1.drew
          have b2 := below_drew b2
          go_wp2_with (refine wpList_store_row rfl _ 55 (.tmp 2) (.tmp 41) rfl w.heap.size 55 (etC false ⟨#[]⟩) (etC false ⟨#[]⟩) R0 rfl rfl rfl et_size (et_one _ _) ?_; intro w5 R5 f1 f2 f3)
          refine bodyPost_ret (results_row2 rfl _ _ w.heap.size 55 (etC false ⟨#[]⟩) R5 rfl _ Tryd.underlying55 et_size) rfl ?_
          exact ⟨by rw [HE.out]; rfl, b2.trans (f1 _ (Nat.le_refl _))⟩
      · have q0 : ((u[0].toNat : Int) != 34) = true := by simp; omega
        have HE : Hid (etagL (bs s) = none) := Lib.hid (by unfold etagL; rw [HW.out]; rw [if_neg (by rw [quot_first hn h0]; decide)])
        clear h0
        go_enter Tryd.func54, Tryd.ntmps54
        go_wp2_with fail
        go_region
        obtain ⟨R0, R1, b2⟩ := rows2 w (etC false ⟨#[]⟩) 55 (etC true ⟨#[]⟩) 55
        have R0 := R0.drew
        have R1 := R1.drew
        have b2 := below_drew b2
        go_wp2_with (refine wpList_store_row rfl _ 55 (.tmp 2) (.tmp 41) rfl w.heap.size 55 (etC false ⟨#[]⟩) (etC false ⟨#[]⟩) R0 rfl rfl rfl et_size (et_one _ _) ?_; intro w5 R5 f1 f2 f3)
        refine bodyPost_ret (results_row2 rfl _ _ w.heap.size 55 (etC false ⟨#[]⟩) R5 rfl _ Tryd.underlying55 et_size) rfl ?_
        exact ⟨by rw [HE.out]; rfl, b2.trans (f1 _ (Nat.le_refl _))⟩
    · have HW : Hid (weakL (bs s) = (bs s, false)) := Lib.hid (weak_no (.inr hw))
      obtain ⟨x, hx⟩ : ∃ x, s.extract 0 2 = x := ⟨_, rfl⟩
      rw [hx] at hw
      have hwb : (x.toList == [87, 47]) = false := by simpa using hw
      clear hw
      obtain ⟨u, hu⟩ : ∃ u, s = u := ⟨_, rfl⟩
      subst hu
      have huz : s.size ≤ 9223372036854775807 := by omega
      by_cases hq2 : s.size < 2
      · have hq2' : (s.size : Int) < 2 := by omega
        have HE : Hid (etagL (bs s) = none) := Lib.hid (by unfold etagL; rw [HW.out]; rw [if_neg (by rw [quot_short hq2]; decide)])
        clear hq2
        go_enter Tryd.func54, Tryd.ntmps54
        go_wp2_with (refine wpList_store_row rfl _ 55 (.tmp 2) (.tmp 41) rfl w.heap.size 55 (etC false ⟨#[]⟩) (etC false ⟨#[]⟩) R0 rfl rfl rfl et_size (et_one _ _) ?_; intro w5 R5 f1 f2 f3)
        refine bodyPost_ret (results_row2 rfl _ _ w.heap.size 55 (etC false ⟨#[]⟩) R5 rfl _ Tryd.underlying55 et_size) rfl ?_
        exact ⟨by rw [HE.out]; rfl, b2.trans (f1 _ (Nat.le_refl _))⟩
      have hq2' : ¬ (s.size : Int) < 2 := by omega
      have hn : 0 < s.size := by omega
      have hl : s.size - 1 < s.size := by omega
      have e1 : ((s.size : Int) - 1).toNat = s.size - 1 := by omega
      by_cases h0 : (s[0]'hn).toNat = 34
      · have q0 : ((s[0].toNat : Int) != 34) = false := by rw [h0]; rfl
        by_cases h1 : (s[s.size - 1]'hl).toNat = 34
        · have q1 : ((s[s.size - 1].toNat : Int) != 34) = false := by rw [h1]; rfl
          obtain ⟨t, ht⟩ : ∃ t, s.extract 1 (s.size - 1) = t := ⟨_, rfl⟩
          have htz : t.size ≤ 9223372036854775807 := by rw [← ht]; simp; omega
          have hqm := quot_mid (by omega) hn hl h0 h1
          rw [ht] at hqm
          cases hp : permB (bs t) with
          | false =>
            have HP := Lib.hid hp
            have HE : Hid (etagL (bs s) = none) := Lib.hid (by unfold etagL; rw [HW.out]; rw [if_neg (by rw [hqm, hp]; decide)])
            clear h0 h1 hp hqm
            go_enter Tryd.func54, Tryd.ntmps54
            go_wp2_with fail
            refine (rpermitted_any t _ htz).mono ?_
            rintro e w1 ⟨rfl, hw1⟩
            rw [HP.out]
            subst hw1
            go_wp2_with (refine wpList_store_row rfl _ 55 (.tmp 2) (.tmp 41) rfl w.heap.size 55 (etC false ⟨#[]⟩) (etC false ⟨#[]⟩) R0 rfl rfl rfl et_size (et_one _ _) ?_; intro w5 R5 f1 f2 f3)
            refine bodyPost_ret (results_row2 rfl _ _ w.heap.size 55 (etC false ⟨#[]⟩) R5 rfl _ Tryd.underlying55 et_size) rfl ?_
            exact ⟨by rw [HE.out]; rfl, b2.trans (f1 _ (Nat.le_refl _))⟩
          | true =>
            have HP := Lib.hid hp
            have HE : Hid (etagL (bs s) = some (false, bs t)) := Lib.hid (by unfold etagL; rw [HW.out]; rw [if_pos (by rw [hqm, hp])]; show some (false, ((bs s).drop 1).take ((bs s).length - 2)) = _; rw [bs_mid, ht])
            clear h0 h1 hp hqm
            go_enter Tryd.func54, Tryd.ntmps54
            go_wp2_with fail
            refine (rpermitted_any t _ htz).mono ?_
            rintro e w1 ⟨rfl, hw1⟩
            rw [HP.out]
            subst hw1
            clear R0 R1 b2
            obtain ⟨R7, R6, b7⟩ := rows2 w (etC false ⟨#[]⟩) 55 (etC false t) 55
            go_wp2_with (first | (refine wpList_load_rowAt rfl _ 55 (.tmp 4) rfl (w.heap.size + 1) 55 (etC false t) R6 rfl _ Tryd.underlying55 et_size ?_) | (refine wpList_store_row rfl _ 55 (.tmp 2) (.tmp 48) rfl w.heap.size 55 (etC false ⟨#[]⟩) (etC false t) R7 rfl rfl rfl et_size (et_one _ _) ?_; intro w5 R5 f1 f2 f3))
            refine bodyPost_ret (results_row2 rfl _ _ w.heap.size 55 (etC false t) R5 rfl _ Tryd.underlying55 et_size) rfl ?_
            exact ⟨by rw [HE.out]; rfl, b7.trans (f1 _ (Nat.le_refl _))⟩
        · have q1 : ((s[s.size - 1].toNat : Int) != 34) = true := by simp; omega
          have HE : Hid (etagL (bs s) = none) := Lib.hid (by unfold etagL; rw [HW.out]; rw [if_neg (by rw [quot_end hl h1]; decide)])
          clear h0 h1
          go_enter Tryd.func54, Tryd.ntmps54
          go_wp2_with (refine wpList_store_row rfl _ 55 (.tmp 2) (.tmp 41) rfl w.heap.size 55 (etC false ⟨#[]⟩) (etC false ⟨#[]⟩) R0 rfl rfl rfl et_size (et_one _ _) ?_; intro w5 R5 f1 f2 f3)
          refine bodyPost_ret (results_row2 rfl _ _ w.heap.size 55 (etC false ⟨#[]⟩) R5 rfl _ Tryd.underlying55 et_size) rfl ?_
          exact ⟨by rw [HE.out]; rfl, b2.trans (f1 _ (Nat.le_refl _))⟩
      · have q0 : ((s[0].toNat : Int) != 34) = true := by simp; omega
        have HE : Hid (etagL (bs s) = none) := Lib.hid (by unfold etagL; rw [HW.out]; rw [if_neg (by rw [quot_first hn h0]; decide)])
        clear h0
        go_enter Tryd.func54, Tryd.ntmps54
        go_wp2_with (refine wpList_store_row rfl _ 55 (.tmp 2) (.tmp 41) rfl w.heap.size 55 (etC false ⟨#[]⟩) (etC false ⟨#[]⟩) R0 rfl rfl rfl et_size (et_one _ _) ?_; intro w5 R5 f1 f2 f3)
        refine bodyPost_ret (results_row2 rfl _ _ w.heap.size 55 (etC false ⟨#[]⟩) R5 rfl _ Tryd.underlying55 et_size) rfl ?_
        exact ⟨by rw [HE.out]; rfl, b2.trans (f1 _ (Nat.le_refl _))⟩
  · have k2 : ¬ (2 : Int) < (s.size : Int) := by omega
    have HW : Hid (etagL (bs s) = if quotB (bs s) then some (false, ((bs s).drop 1).take ((bs s).length - 2)) else none) := Lib.hid (by
      by_cases hw : (s.extract 0 2).toList = [87, 47]
      · have e : bs s = [87, 47] := by
          have e1 : s.extract 0 2 = s := by
            apply ByteArray.ext; simp only [ByteArray.data_extract]; rw [Array.extract_eq_self_iff.2 (by right; exact ⟨rfl, by have : s.data.size = s.size := rfl; omega⟩)]
          rw [← e1, ← hw, Lib.toList_data]
        rw [e]; decide
      · unfold etagL; rw [weak_no (.inr hw)])
    have huz : s.size ≤ 9223372036854775807 := by omega
    by_cases hq2 : s.size < 2
    · have hq2' : (s.size : Int) < 2 := by omega
      have HE : Hid (etagL (bs s) = none) := Lib.hid (by rw [HW.out]; rw [if_neg (by rw [quot_short hq2]; decide)])
      clear hq2
      go_enter Tryd.func54, Tryd.ntmps54
      go_wp2_with (refine wpList_store_row rfl _ 55 (.tmp 2) (.tmp 41) rfl w.heap.size 55 (etC false ⟨#[]⟩) (etC false ⟨#[]⟩) R0 rfl rfl rfl et_size (et_one _ _) ?_; intro w5 R5 f1 f2 f3)
      refine bodyPost_ret (results_row2 rfl _ _ w.heap.size 55 (etC false ⟨#[]⟩) R5 rfl _ Tryd.underlying55 et_size) rfl ?_
      exact ⟨by rw [HE.out]; rfl, b2.trans (f1 _ (Nat.le_refl _))⟩
    have hq2' : ¬ (s.size : Int) < 2 := by omega
    have hn : 0 < s.size := by omega
    have hl : s.size - 1 < s.size := by omega
    have e1 : ((s.size : Int) - 1).toNat = s.size - 1 := by omega
    by_cases h0 : (s[0]'hn).toNat = 34
    · have q0 : ((s[0].toNat : Int) != 34) = false := by rw [h0]; rfl
      by_cases h1 : (s[s.size - 1]'hl).toNat = 34
      · have q1 : ((s[s.size - 1].toNat : Int) != 34) = false := by rw [h1]; rfl
        obtain ⟨t, ht⟩ : ∃ t, s.extract 1 (s.size - 1) = t := ⟨_, rfl⟩
        have htz : t.size ≤ 9223372036854775807 := by rw [← ht]; simp; omega
        have hqm := quot_mid (by omega) hn hl h0 h1
        rw [ht] at hqm
        cases hp : permB (bs t) with
        | false =>
          have HP := Lib.hid hp
          have HE : Hid (etagL (bs s) = none) := Lib.hid (by rw [HW.out]; rw [if_neg (by rw [hqm, hp]; decide)])
          clear h0 h1 hp hqm
          go_enter Tryd.func54, Tryd.ntmps54
          go_wp2_with fail
          refine (rpermitted_any t _ htz).mono ?_
          rintro e w1 ⟨rfl, hw1⟩
          rw [HP.out]
          subst hw1
          go_wp2_with (refine wpList_store_row rfl _ 55 (.tmp 2) (.tmp 41) rfl w.heap.size 55 (etC false ⟨#[]⟩) (etC false ⟨#[]⟩) R0 rfl rfl rfl et_size (et_one _ _) ?_; intro w5 R5 f1 f2 f3)
          refine bodyPost_ret (results_row2 rfl _ _ w.heap.size 55 (etC false ⟨#[]⟩) R5 rfl _ Tryd.underlying55 et_size) rfl ?_
          exact ⟨by rw [HE.out]; rfl, b2.trans (f1 _ (Nat.le_refl _))⟩
        | true =>
          have HP := Lib.hid hp
          have HE : Hid (etagL (bs s) = some (false, bs t)) := Lib.hid (by rw [HW.out]; rw [if_pos (by rw [hqm, hp])]; show some (false, ((bs s).drop 1).take ((bs s).length - 2)) = _; rw [bs_mid, ht])
          clear h0 h1 hp hqm
          go_enter Tryd.func54, Tryd.ntmps54
          go_wp2_with fail
          refine (rpermitted_any t _ htz).mono ?_
          rintro e w1 ⟨rfl, hw1⟩
          rw [HP.out]
          subst hw1
          clear R0 R1 b2
          obtain ⟨R7, R6, b7⟩ := rows2 w (etC false ⟨#[]⟩) 55 (etC false t) 55
          go_wp2_with (first | (refine wpList_load_rowAt rfl _ 55 (.tmp 4) rfl (w.heap.size + 1) 55 (etC false t) R6 rfl _ Tryd.underlying55 et_size ?_) | (refine wpList_store_row rfl _ 55 (.tmp 2) (.tmp 48) rfl w.heap.size 55 (etC false ⟨#[]⟩) (etC false t) R7 rfl rfl rfl et_size (et_one _ _) ?_; intro w5 R5 f1 f2 f3))
          refine bodyPost_ret (results_row2 rfl _ _ w.heap.size 55 (etC false t) R5 rfl _ Tryd.underlying55 et_size) rfl ?_
          exact ⟨by rw [HE.out]; rfl, b7.trans (f1 _ (Nat.le_refl _))⟩
      · have q1 : ((s[s.size - 1].toNat : Int) != 34) = true := by simp; omega
        have HE : Hid (etagL (bs s) = none) := Lib.hid (by rw [HW.out]; rw [if_neg (by rw [quot_end hl h1]; decide)])
        clear h0 h1
        go_enter Tryd.func54, Tryd.ntmps54
        go_wp2_with (refine wpList_store_row rfl _ 55 (.tmp 2) (.tmp 41) rfl w.heap.size 55 (etC false ⟨#[]⟩) (etC false ⟨#[]⟩) R0 rfl rfl rfl et_size (et_one _ _) ?_; intro w5 R5 f1 f2 f3)
        refine bodyPost_ret (results_row2 rfl _ _ w.heap.size 55 (etC false ⟨#[]⟩) R5 rfl _ Tryd.underlying55 et_size) rfl ?_
        exact ⟨by rw [HE.out]; rfl, b2.trans (f1 _ (Nat.le_refl _))⟩
    · have q0 : ((s[0].toNat : Int) != 34) = true := by simp; omega
      have HE : Hid (etagL (bs s) = none) := Lib.hid (by rw [HW.out]; rw [if_neg (by rw [quot_first hn h0]; decide)])
      clear h0
      go_enter Tryd.func54, Tryd.ntmps54
      go_wp2_with (refine wpList_store_row rfl _ 55 (.tmp 2) (.tmp 41) rfl w.heap.size 55 (etC false ⟨#[]⟩) (etC false ⟨#[]⟩) R0 rfl rfl rfl et_size (et_one _ _) ?_; intro w5 R5 f1 f2 f3)
      refine bodyPost_ret (results_row2 rfl _ _ w.heap.size 55 (etC false ⟨#[]⟩) R5 rfl _ Tryd.underlying55 et_size) rfl ?_
      exact ⟨by rw [HE.out]; rfl, b2.trans (f1 _ (Nat.le_refl _))⟩
end Go.Proofs.YtglckhljpjcmaaaDoor
