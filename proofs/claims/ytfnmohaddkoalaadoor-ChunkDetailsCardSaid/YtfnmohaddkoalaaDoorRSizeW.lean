/- The walks of the reference's ParseField (3.2) and of its size of a chunk (5.3). Printed by gen_rdec.py. -/
import Derived.Test.YtfnmohaddkoalaaDoorDecodeW
import Derived.Deep.RegionWith
namespace Go.Proofs.YtfnmohaddkoalaaDoor
open Go.RowKit Go.Shelf
set_option linter.unusedSimpArgs false

theorem hexP_step (s : ByteArray) {k : Nat} (h : k < s.size) : hexP ((bs s).drop k) = if hexOK s[k] then hexP ((bs s).drop (k + 1)) + 1 else 0 := by
  rw [drop_step s h]
  unfold hexP
  cases hc : hexOK s[k] with
  | true => rw [List.takeWhile_cons_of_pos hc]; rfl
  | false => rw [List.takeWhile_cons_of_neg (by rw [hc]; simp)]; rfl
theorem hexP_end (s : ByteArray) {k : Nat} (h : s.size ≤ k) : hexP ((bs s).drop k) = 0 := by rw [drop_end s h]; rfl
set_option maxHeartbeats 6400000 in
set_option maxRecDepth 100000 in
theorem rsize_any (s : ByteArray) (w : World) (hs : s.size ≤ 100000) :
    Calls Tryd.prog 30 #[.string s] w fun e w' => e = .returned (chSizeV (sizeL (bs s))) ∧ w = w' := by
  obtain ⟨r, hr⟩ : ∃ r, r = sizeL (bs s) := ⟨_, rfl⟩
  have HR := Lib.hid hr
  rw [← hr]
  clear hr
  go_enter Tryd.func30, Tryd.ntmps30
  go_wp2_with fail
  go_loop [5] (fun j => ∃ k : Nat, k ≤ s.size ∧ j = .int .i64 k ∧ Hid (hexP (bs s) = hexP ((bs s).drop k) + k)) (fun j => s.size - (intOf j).toNat)
  case atStart => exact ⟨0, by omega, rfl, Lib.hid rfl⟩
  case round =>
    obtain ⟨k, hk, rfl, HH⟩ := hrel
    by_cases hlt : k < s.size
    · have hlt' : (k : Int) < (s.size : Int) := by omega
      obtain ⟨c, hc⟩ : ∃ c, c = s[k] := ⟨_, rfl⟩
      have p0 : ∀ wx, (Instr.index 9 (.string s) (.int .i64 (k : Int))).run Tryd.prog wx = .ok (.int .u8 (c.toNat : Int)) wx := fun wx => ix_at s k _ _ hlt rfl (by rw [hc]) wx
      have hbd := hexV_bd c
      cases hok : hexOK s[k] with
      | true =>
        have hq0 : 0 ≤ hexV c := by rw [hc]; exact hexOK_yes.1 hok
        have HN : Hid (hexP (bs s) = hexP ((bs s).drop (k + 1)) + (k + 1)) := Lib.hid (by rw [HH.out, hexP_step s hlt, if_pos hok]; omega)
        obtain ⟨q, hq⟩ : ∃ q, q = hexV c := ⟨_, rfl⟩
        rw [← hq] at hq0
        have HQ := Lib.hid hq
        clear hok hc hbd hq
        go_wp2_with fail
        refine (rhex_any c _).mono ?_
        rintro e w2 ⟨rfl, rfl⟩
        rw [← HQ.out]
        go_wp2_with fail
        go_round
        case rel => exact ⟨k + 1, by omega, by go_num, HN⟩
        case measure => simp [intOf]; omega
      | false =>
        have hq0 : hexV c < 0 := by rw [hc]; exact hexOK_no.1 hok
        obtain ⟨q, hq⟩ : ∃ q, q = hexV c := ⟨_, rfl⟩
        rw [← hq] at hq0
        have HQ := Lib.hid hq
        have HCC := Lib.hid hc
        have HOKK := Lib.hid hok
        clear hbd hq hc hok
        go_wp2_with fail
        refine (rhex_any c _).mono ?_
        rintro e w2 ⟨rfl, rfl⟩
        rw [← HQ.out]
        have HBAD := Lib.hid (sizeL_bad (l := bs s))
        have HGOOD := Lib.hid (sizeL_good (l := bs s))
        have hkp : hexP (bs s) = k := by rw [HH.out, hexP_step s hlt, if_neg (by rw [HOKK.out]; simp)]; omega
        have HKP := Lib.hid hkp
        by_cases k1 : (k : Int) < 1
        · have HN : Hid (r = none) := Lib.hid (by rw [HR.out]; exact HBAD.out (.inl (by rw [hkp]; omega)))
          clear hkp
          go_wp2_with fail
          go_ret2
          exact ⟨by rw [HN.out]; rfl, rfl⟩
        by_cases k8 : 8 < (k : Int)
        · have HN : Hid (r = none) := Lib.hid (by rw [HR.out]; exact HBAD.out (.inr (.inl (by rw [hkp]; omega))))
          clear hkp
          go_wp2_with fail
          go_ret2
          exact ⟨by rw [HN.out]; rfl, rfl⟩
        by_cases hc59 : s[k] = 59
        · have n59 : ((c.toNat : Int) != 59) = false := u8_bf (n := 59) (by decide) (by rw [HCC.out]; exact hc59)
          have HC59 := Lib.hid hc59
          clear hc59
          obtain ⟨x, hx⟩ : ∃ x : ByteArray, x = s.extract k s.size := ⟨_, rfl⟩
          have hxb : bs x = (bs s).drop k := by rw [hx]; exact ext_from s k
          have hxz : x.size ≤ s.size := by rw [← bs_length, hxb, List.length_drop, bs_length]; omega
          have p1 : ∀ wx, (Instr.slice 9 (.string s) (some (.int .i64 (k : Int))) none none).run Tryd.prog wx = .ok (.string x) wx := fun wx => by rw [hx]; exact run_from2 s k _ rfl hk wx
          have H3 : Hid (hexP (bs s) = (bs s).length ∨ (bs s)[hexP (bs s)]? = some 59) := Lib.hid (by right; rw [hkp, ← HC59.out]; exact List.getElem?_eq_getElem (by rw [bs_length]; exact hlt))
          cases ht : textB (bs x) with
          | false =>
            have HN : Hid (r = none) := Lib.hid (by rw [HR.out]; exact HBAD.out (.inr (.inr (.inr (by rw [hkp, ← hxb]; exact ht)))))
            have HT := Lib.hid ht
            clear hkp hx hxb ht
            go_wp2_with fail
            refine (rtext_any x _ (by omega)).mono ?_
            rintro e w2 ⟨he, rfl⟩
            rw [HT.out] at he
            subst he
            go_wp2_with fail
            go_ret2
            exact ⟨by rw [HN.out]; rfl, rfl⟩
          | true =>
            have HG : Hid (r = hexGo ((bs s).take k) 0) := Lib.hid (by rw [HR.out, HGOOD.out (by rw [hkp]; omega) (by rw [hkp]; omega) H3.out (by rw [hkp, ← hxb]; exact ht), hkp])
            have HALL : Hid (∀ i, (h : i < s.size) → i < k → hexOK s[i] = true) := Lib.hid fun i h hik => by
              have := (hexP_split (bs s)).1
              rw [hkp] at this
              refine this _ (List.mem_take_iff_getElem.2 ⟨i, by rw [bs_length]; omega, rfl⟩)
            have HT := Lib.hid ht
            have hk8 : k ≤ 8 := by omega
            clear hkp hx hxb ht
            go_wp2_with fail
            refine (rtext_any x _ (by omega)).mono ?_
            rintro e w2 ⟨he, rfl⟩
            rw [HT.out] at he
            subst he
            go_wp2_with fail
            clear p1 p0
            go_loop [4, 6] (fun u j => ∃ i n : Nat, i ≤ k ∧ j = .int .i64 i ∧ u = .int .i64 n ∧ Hid (hexGo ((bs s).take k) 0 = hexGo (((bs s).take k).drop i) n) ∧ n < 16 ^ i) (fun _ j => k - (intOf j).toNat)
            case atStart => exact ⟨0, 0, by omega, rfl, rfl, Lib.hid rfl, by simp⟩
            case round =>
              obtain ⟨i, n, hi, rfl, rfl, HI, hnb⟩ := hrel
              by_cases hil : i < k
              · have hil' : (i : Int) < (k : Int) := by omega
                have his : i < s.size := by omega
                obtain ⟨d, hd⟩ : ∃ d, d = s[i] := ⟨_, rfl⟩
                have q0 : ∀ wx, (Instr.index 9 (.string s) (.int .i64 (i : Int))).run Tryd.prog wx = .ok (.int .u8 (d.toNat : Int)) wx := fun wx => ix_at s i _ _ his rfl (by rw [hd]) wx
                have hdo : hexOK d = true := by rw [hd]; exact HALL.out i his hil
                have hst : ((bs s).take k).drop i = d :: ((bs s).take k).drop (i + 1) := by
                  have hl : i < ((bs s).take k).length := by rw [List.length_take, bs_length]; omega
                  rw [List.drop_eq_getElem_cons hl]
                  congr 1
                  rw [hd, List.getElem_take]; rfl
                obtain ⟨q, hq⟩ : ∃ q : Nat, hexV d = q := ⟨(hexV d).toNat, by have := hexOK_yes.1 hdo; omega⟩
                have hq15 : q ≤ 15 := by have := hexV_bd d; omega
                have HN2 : Hid (hexGo ((bs s).take k) 0 = hexGo (((bs s).take k).drop (i + 1)) (16 * n + q)) := Lib.hid (by rw [HI.out, hst, hexGo, hq, if_neg (by omega)]; simp)
                have HQ := Lib.hid hq
                have hn8 := p16' (k := i) (by omega)
                have hpow : 16 ^ (i + 1) = 16 * 16 ^ i := by rw [Nat.pow_succ]; omega
                have hn2 : 16 * n + q < 16 ^ (i + 1) := by rw [hpow]; omega
                have hcm : (n : Int) * 16 + (q : Int) = ((16 * n + q : Nat) : Int) := by omega
                have HCM := Lib.hid hcm
                clear hd hdo hst hq hpow hcm
                go_wp2_with fail
                refine (rhex_any d _).mono ?_
                rintro e w3 ⟨rfl, rfl⟩
                rw [HQ.out]
                go_wp2_with fail
                go_round
                case rel => exact ⟨i + 1, 16 * n + q, by omega, by go_num, by rw [← HCM.out], HN2, hn2⟩
                case measure => simp [intOf]; omega
              · have hil' : ¬ (i : Int) < (k : Int) := by omega
                have HE : Hid (r = some n) := Lib.hid (by rw [HG.out, HI.out, List.drop_of_length_le (by rw [List.length_take]; omega), hexGo])
                go_wp2_with fail
                go_ret2
                exact ⟨by rw [HE.out]; rfl, rfl⟩
        · have n59 : ((c.toNat : Int) != 59) = true := u8_bt (n := 59) (by decide) (by rw [HCC.out]; exact hc59)
          have HN : Hid (r = none) := Lib.hid (by rw [HR.out]; exact HBAD.out (.inr (.inr (.inl ⟨s[k], by rw [hkp]; exact List.getElem?_eq_getElem (by rw [bs_length]; exact hlt), hc59⟩))))
          clear hkp hc59
          go_wp2_with fail
          go_ret2
          exact ⟨by rw [HN.out]; rfl, rfl⟩
    · have hlt' : ¬ (k : Int) < (s.size : Int) := by omega
      have HBAD := Lib.hid (sizeL_bad (l := bs s))
      have HGOOD := Lib.hid (sizeL_good (l := bs s))
      have hkp : hexP (bs s) = k := by rw [HH.out, hexP_end s (by omega)]; omega
      have HKP := Lib.hid hkp
      by_cases k1 : (k : Int) < 1
      · have HN : Hid (r = none) := Lib.hid (by rw [HR.out]; exact HBAD.out (.inl (by rw [hkp]; omega)))
        clear hkp
        go_wp2_with fail
        go_ret2
        exact ⟨by rw [HN.out]; rfl, rfl⟩
      by_cases k8 : 8 < (k : Int)
      · have HN : Hid (r = none) := Lib.hid (by rw [HR.out]; exact HBAD.out (.inr (.inl (by rw [hkp]; omega))))
        clear hkp
        go_wp2_with fail
        go_ret2
        exact ⟨by rw [HN.out]; rfl, rfl⟩
      obtain ⟨x, hx⟩ : ∃ x : ByteArray, x = s.extract k s.size := ⟨_, rfl⟩
      have hxb : bs x = (bs s).drop k := by rw [hx]; exact ext_from s k
      have hxz : x.size ≤ s.size := by rw [← bs_length, hxb, List.length_drop, bs_length]; omega
      have p1 : ∀ wx, (Instr.slice 9 (.string s) (some (.int .i64 (k : Int))) none none).run Tryd.prog wx = .ok (.string x) wx := fun wx => by rw [hx]; exact run_from2 s k _ rfl hk wx
      have H3 : Hid (hexP (bs s) = (bs s).length ∨ (bs s)[hexP (bs s)]? = some 59) := Lib.hid (by left; rw [hkp, bs_length]; omega)
      cases ht : textB (bs x) with
      | false =>
        have HN : Hid (r = none) := Lib.hid (by rw [HR.out]; exact HBAD.out (.inr (.inr (.inr (by rw [hkp, ← hxb]; exact ht)))))
        have HT := Lib.hid ht
        clear hkp hx hxb ht
        go_wp2_with fail
        refine (rtext_any x _ (by omega)).mono ?_
        rintro e w2 ⟨he, rfl⟩
        rw [HT.out] at he
        subst he
        go_wp2_with fail
        go_ret2
        exact ⟨by rw [HN.out]; rfl, rfl⟩
      | true =>
        have HG : Hid (r = hexGo ((bs s).take k) 0) := Lib.hid (by rw [HR.out, HGOOD.out (by rw [hkp]; omega) (by rw [hkp]; omega) H3.out (by rw [hkp, ← hxb]; exact ht), hkp])
        have HALL : Hid (∀ i, (h : i < s.size) → i < k → hexOK s[i] = true) := Lib.hid fun i h hik => by
          have := (hexP_split (bs s)).1
          rw [hkp] at this
          refine this _ (List.mem_take_iff_getElem.2 ⟨i, by rw [bs_length]; omega, rfl⟩)
        have HT := Lib.hid ht
        have hk8 : k ≤ 8 := by omega
        clear hkp hx hxb ht
        go_wp2_with fail
        refine (rtext_any x _ (by omega)).mono ?_
        rintro e w2 ⟨he, rfl⟩
        rw [HT.out] at he
        subst he
        go_wp2_with fail
        clear p1
        go_loop [4, 6] (fun u j => ∃ i n : Nat, i ≤ k ∧ j = .int .i64 i ∧ u = .int .i64 n ∧ Hid (hexGo ((bs s).take k) 0 = hexGo (((bs s).take k).drop i) n) ∧ n < 16 ^ i) (fun _ j => k - (intOf j).toNat)
        case atStart => exact ⟨0, 0, by omega, rfl, rfl, Lib.hid rfl, by simp⟩
        case round =>
          obtain ⟨i, n, hi, rfl, rfl, HI, hnb⟩ := hrel
          by_cases hil : i < k
          · have hil' : (i : Int) < (k : Int) := by omega
            have his : i < s.size := by omega
            obtain ⟨d, hd⟩ : ∃ d, d = s[i] := ⟨_, rfl⟩
            have q0 : ∀ wx, (Instr.index 9 (.string s) (.int .i64 (i : Int))).run Tryd.prog wx = .ok (.int .u8 (d.toNat : Int)) wx := fun wx => ix_at s i _ _ his rfl (by rw [hd]) wx
            have hdo : hexOK d = true := by rw [hd]; exact HALL.out i his hil
            have hst : ((bs s).take k).drop i = d :: ((bs s).take k).drop (i + 1) := by
              have hl : i < ((bs s).take k).length := by rw [List.length_take, bs_length]; omega
              rw [List.drop_eq_getElem_cons hl]
              congr 1
              rw [hd, List.getElem_take]; rfl
            obtain ⟨q, hq⟩ : ∃ q : Nat, hexV d = q := ⟨(hexV d).toNat, by have := hexOK_yes.1 hdo; omega⟩
            have hq15 : q ≤ 15 := by have := hexV_bd d; omega
            have HN2 : Hid (hexGo ((bs s).take k) 0 = hexGo (((bs s).take k).drop (i + 1)) (16 * n + q)) := Lib.hid (by rw [HI.out, hst, hexGo, hq, if_neg (by omega)]; simp)
            have HQ := Lib.hid hq
            have hn8 := p16' (k := i) (by omega)
            have hpow : 16 ^ (i + 1) = 16 * 16 ^ i := by rw [Nat.pow_succ]; omega
            have hn2 : 16 * n + q < 16 ^ (i + 1) := by rw [hpow]; omega
            have hcm : (n : Int) * 16 + (q : Int) = ((16 * n + q : Nat) : Int) := by omega
            have HCM := Lib.hid hcm
            clear hd hdo hst hq hpow hcm
            go_wp2_with fail
            refine (rhex_any d _).mono ?_
            rintro e w3 ⟨rfl, rfl⟩
            rw [HQ.out]
            go_wp2_with fail
            go_round
            case rel => exact ⟨i + 1, 16 * n + q, by omega, by go_num, by rw [← HCM.out], HN2, hn2⟩
            case measure => simp [intOf]; omega
          · have hil' : ¬ (i : Int) < (k : Int) := by omega
            have HE : Hid (r = some n) := Lib.hid (by rw [HG.out, HI.out, List.drop_of_length_le (by rw [List.length_take]; omega), hexGo])
            go_wp2_with fail
            go_ret2
            exact ⟨by rw [HE.out]; rfl, rfl⟩
end Go.Proofs.YtfnmohaddkoalaaDoor
