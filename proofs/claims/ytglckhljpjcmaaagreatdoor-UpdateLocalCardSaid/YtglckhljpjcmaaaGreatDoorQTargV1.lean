/- The walks of layer 4 in the reference: letters, hexadecimal digits, authorities. -/
import Derived.Test.YtglckhljpjcmaaaGreatDoorQTargW1
import Derived.Test.YtglckhljpjcmaaaGreatDoorQLowW
import Derived.Test.YtglckhljpjcmaaaGreatDoorQIdxW
namespace Go.Proofs.YtglckhljpjcmaaaGreatDoor
open Go.RowKit

set_option maxHeartbeats 800000 in
theorem rletter_any (c : UInt8) (w : World) :
    Calls Tryz.prog 46 #[.int .u8 c.toNat] w fun e w' => e = .returned (.bool (alnC c)) ∧ w = w' := by
  have hi := alnC_iff (c := c)
  have HD : Hid (¬ (97 ≤ c.toNat ∧ c.toNat ≤ 122 ∨ 65 ≤ c.toNat ∧ c.toNat ≤ 90) → digB c = alnC c) := Lib.hid fun h => by
    rw [Bool.eq_iff_iff, hi]
    constructor
    · intro hd; exact .inl (of_digB hd)
    · rintro (hd | hd | hd)
      · exact digB_true hd
      · omega
      · omega
  rcases (show ((97 ≤ (c.toNat : Int) ∧ (c.toNat : Int) ≤ 122) ∨ (¬ 97 ≤ (c.toNat : Int) ∧ 65 ≤ (c.toNat : Int) ∧ (c.toNat : Int) ≤ 90)) ∨ ((97 ≤ (c.toNat : Int) ∧ ¬ (c.toNat : Int) ≤ 122 ∧ ¬ (c.toNat : Int) ≤ 90 ∧ 65 ≤ (c.toNat : Int)) ∨ (¬ 97 ≤ (c.toNat : Int) ∧ 65 ≤ (c.toNat : Int) ∧ ¬ (c.toNat : Int) ≤ 90) ∨ (¬ 97 ≤ (c.toNat : Int) ∧ ¬ 65 ≤ (c.toNat : Int))) from by omega) with (⟨h1, h2⟩ | ⟨h1, h2, h3⟩) | (⟨h1, h2, h3, h4⟩ | ⟨h1, h2, h3⟩ | ⟨h1, h2⟩)
  · have HF : Hid (alnC c = true) := Lib.hid (hi.2 (by omega))
    clear hi
    go_enter Tryz.func46, Tryz.ntmps46
    go_wp2_with fail
    go_ret
    exact ⟨by rw [HF.out]; rfl, rfl⟩
  · have HF : Hid (alnC c = true) := Lib.hid (hi.2 (by omega))
    clear hi
    go_enter Tryz.func46, Tryz.ntmps46
    go_wp2_with fail
    go_ret
    exact ⟨by rw [HF.out]; rfl, rfl⟩
  all_goals
    have HF := Lib.hid (HD.out (by omega))
    clear hi
    go_enter Tryz.func46, Tryz.ntmps46
    go_wp2_with (go_at_call 66; refine (digit_any _ _).mono ?_; rintro e w' ⟨rfl, rfl⟩; rw [HF.out])
    go_ret
    exact ⟨rfl, rfl⟩
set_option maxHeartbeats 800000 in
theorem rhex_any (c : UInt8) (w : World) :
    Calls Tryz.prog 45 #[.int .u8 c.toNat] w fun e w' => e = .returned (.int .i64 (hexV c)) ∧ w = w' := by
  cases hd : digB c with
  | true =>
    obtain ⟨b1, b2⟩ := of_digB hd
    have HF : Hid (hexV c = (c.toNat : Int) - 48) := Lib.hid (by unfold hexV; rw [if_pos ⟨b1, b2⟩])
    have HD := Lib.hid hd
    clear hd
    go_enter Tryz.func45, Tryz.ntmps45
    go_wp2_with (go_at_call 66; refine (digit_any _ _).mono ?_; rintro e w' ⟨rfl, rfl⟩; rw [HD.out])
    go_ret
    exact ⟨ret_int (by rw [HF.out]), rfl⟩
  | false =>
    have hn := of_digB_false hd
    have HD := Lib.hid hd
    clear hd
    rcases (show (97 ≤ (c.toNat : Int) ∧ (c.toNat : Int) ≤ 102) ∨ (¬ 97 ≤ (c.toNat : Int) ∧ 65 ≤ (c.toNat : Int) ∧ (c.toNat : Int) ≤ 70) ∨ (97 ≤ (c.toNat : Int) ∧ ¬ (c.toNat : Int) ≤ 102 ∧ ¬ (c.toNat : Int) ≤ 70 ∧ 65 ≤ (c.toNat : Int)) ∨ (¬ 97 ≤ (c.toNat : Int) ∧ 65 ≤ (c.toNat : Int) ∧ ¬ (c.toNat : Int) ≤ 70) ∨ (¬ 97 ≤ (c.toNat : Int) ∧ ¬ 65 ≤ (c.toNat : Int)) from by omega) with ⟨h1, h2⟩ | ⟨h1, h2, h3⟩ | ⟨h1, h2, h3, h4⟩ | ⟨h1, h2, h3⟩ | ⟨h1, h2⟩
    · have HF : Hid (hexV c = (c.toNat : Int) - 97 + 10) := Lib.hid (by unfold hexV; rw [if_neg hn, if_pos (by omega)]; omega)
      clear hn
      go_enter Tryz.func45, Tryz.ntmps45
      go_wp2_with (go_at_call 66; refine (digit_any _ _).mono ?_; rintro e w' ⟨rfl, rfl⟩; rw [HD.out])
      go_ret
      exact ⟨ret_int (by rw [HF.out]), rfl⟩
    · have HF : Hid (hexV c = (c.toNat : Int) - 65 + 10) := Lib.hid (by unfold hexV; rw [if_neg hn, if_neg (by omega), if_pos (by omega)]; omega)
      clear hn
      go_enter Tryz.func45, Tryz.ntmps45
      go_wp2_with (go_at_call 66; refine (digit_any _ _).mono ?_; rintro e w' ⟨rfl, rfl⟩; rw [HD.out])
      go_ret
      exact ⟨ret_int (by rw [HF.out]), rfl⟩
    all_goals
      have HF : Hid (hexV c = -1) := Lib.hid (by unfold hexV; rw [if_neg hn, if_neg (by omega), if_neg (by omega)])
      clear hn
      go_enter Tryz.func45, Tryz.ntmps45
      go_wp2_with (go_at_call 66; refine (digit_any _ _).mono ?_; rintro e w' ⟨rfl, rfl⟩; rw [HD.out])
      go_ret
      exact ⟨ret_int (by rw [HF.out]), rfl⟩
theorem idx_cut {c : UInt8} {s : ByteArray} (_hz : s.size ≤ 100000) : (idxFrom c (bs s) 0 = -1 ∧ cutB c (bs s) = (bs s, [], false)) ∨ ∃ i : Nat, idxFrom c (bs s) 0 = i ∧ i < s.size ∧ cutB c (bs s) = (bs (s.extract 0 i), bs (s.extract (i + 1) s.size), true) := by
  rcases idxFrom_bd c (bs s) 0 with ⟨h1, h2⟩ | ⟨i, h1, _, h3, h4⟩
  · left; rw [List.drop_zero] at h2; exact ⟨h1, h2⟩
  · right
    rw [bs_length] at h3
    rw [List.drop_zero, Nat.sub_zero] at h4
    exact ⟨i, h1, h3, by rw [h4, bs_take, bs_from]⟩
/-- The walk of Authority. -/
theorem host_ways (c : UInt8) : (hostC c = true ∧ alnC c = true) ∨ (hostC c = true ∧ alnC c = false ∧ ((c.toNat : Int) != 45) = false) ∨ (hostC c = true ∧ alnC c = false ∧ ((c.toNat : Int) != 45) = true ∧ ((c.toNat : Int) != 46) = false) ∨ (hostC c = false ∧ alnC c = false ∧ ((c.toNat : Int) != 45) = true ∧ ((c.toNat : Int) != 46) = true) := by
  have h := hostC_iff (c := c)
  cases ha : alnC c with
  | true => left; exact ⟨h.2 (.inl ha), rfl⟩
  | false =>
    right
    by_cases h1 : c = 45
    · left; exact ⟨h.2 (.inr (.inl (by rw [h1]; rfl))), rfl, u8_bf (n := 45) (by decide) h1⟩
    · right
      by_cases h2 : c = 46
      · left; exact ⟨h.2 (.inr (.inr (by rw [h2]; rfl))), rfl, u8_bt (n := 45) (by decide) h1, u8_bf (n := 46) (by decide) h2⟩
      · right
        refine ⟨?_, rfl, u8_bt (n := 45) (by decide) h1, u8_bt (n := 46) (by decide) h2⟩
        cases hv : hostC c with
        | false => rfl
        | true =>
          rcases h.1 hv with e | e | e
          · rw [ha] at e; cases e
          · exact absurd (u8_of_nat e) h1
          · exact absurd (u8_of_nat e) h2
set_option maxHeartbeats 6400000 in
theorem rauthority_any (s : ByteArray) (w : World) (hs : s.size ≤ 100000) :
    Calls Tryz.prog 29 #[.string s] w fun e w' => e = .returned (authV (authL (bs s))) ∧ Below w.heap.size w w' := by
  have A1 := Lib.hid (authL_host (l := bs s))
  have A2 := Lib.hid (authL_port (l := bs s))
  have A3 := Lib.hid fun n => authL_ok (l := bs s) (n := n)
  obtain ⟨r, hr⟩ : ∃ r, r = authL (bs s) := ⟨_, rfl⟩
  rw [← hr] at A1 A2 A3 ⊢
  clear hr
  rcases idx_cut (c := 58) hs with ⟨hi, hc⟩ | ⟨i, hi, hil, hc⟩
  · have HI := Lib.hid hi
    rw [hc] at A1 A2 A3
    have HPT : Hid (portN [] = some 80) := Lib.hid rfl
    obtain ⟨h, hh⟩ : ∃ h, h = s := ⟨_, rfl⟩
    rw [← hh] at A1 A3
    clear hi hc A2
    go_enter Tryz.func29, Tryz.ntmps29
    go_wp2_with fail
    refine (index_any s 58 0 _ _ _ rfl rfl (by omega) (by omega)).mono ?_
    rintro e w' ⟨rfl, rfl⟩
    rw [HI.out]
    go_wp2_with fail
    rw [← hh]
    have hh2 := hs
    rw [← hh] at hh2
    clear hh
    go_loop [11] (fun j => ∃ k : Nat, k ≤ h.size ∧ j = .int .i64 k ∧ Hid ((bs h).all hostC = ((bs h).drop k).all hostC)) (fun j => h.size - (intOf j).toNat)
    case atStart => exact ⟨0, by omega, rfl, Lib.hid rfl⟩
    case round =>
      obtain ⟨k, hk, rfl, H⟩ := hrel
      by_cases hlt : k < h.size
      · have Hs := Lib.hid (host_step h hlt)
        rcases host_ways h[k] with ⟨hv, ha⟩ | ⟨hv, ha, q1⟩ | ⟨hv, ha, q1, q2⟩ | ⟨hv, ha, q1, q2⟩
        · have HV := Lib.hid hv
          have HA := Lib.hid ha
          clear hv ha
          go_wp2_with (go_at_call 46; refine (rletter_any _ _).mono ?_; rintro e w' ⟨rfl, rfl⟩; rw [HA.out])
          go_round
          case rel => exact ⟨k + 1, by omega, by go_num, Lib.hid (by rw [H.out, Hs.out, HV.out]; rfl)⟩
          case measure => simp [intOf]; omega
        · have HV := Lib.hid hv
          have HA := Lib.hid ha
          clear hv ha
          go_wp2_with (go_at_call 46; refine (rletter_any _ _).mono ?_; rintro e w' ⟨rfl, rfl⟩; rw [HA.out])
          go_round
          case rel => exact ⟨k + 1, by omega, by go_num, Lib.hid (by rw [H.out, Hs.out, HV.out]; rfl)⟩
          case measure => simp [intOf]; omega
        · have HV := Lib.hid hv
          have HA := Lib.hid ha
          clear hv ha
          go_wp2_with (go_at_call 46; refine (rletter_any _ _).mono ?_; rintro e w' ⟨rfl, rfl⟩; rw [HA.out])
          go_round
          case rel => exact ⟨k + 1, by omega, by go_num, Lib.hid (by rw [H.out, Hs.out, HV.out]; rfl)⟩
          case measure => simp [intOf]; omega
        · have HV := Lib.hid hv
          have HA := Lib.hid ha
          have HF := Lib.hid (A1.out (by rw [H.out, Hs.out, HV.out]; rfl))
          clear hv ha
          go_wp2_with (go_at_call 46; refine (rletter_any _ _).mono ?_; rintro e w' ⟨rfl, rfl⟩; rw [HA.out])
          go_ret3
          exact ⟨by rw [HF.out]; rfl, Below.refl _ _⟩
      · have He := Lib.hid (host_end h (k := k) (by omega))
        by_cases hz : h.size = 0
        · obtain ⟨e1, e2⟩ := empty_yes hz
          have HF := Lib.hid (A1.out (by rw [e2]; rfl))
          clear hz e2
          go_wp2_with fail
          go_ret3
          exact ⟨by rw [HF.out]; rfl, Below.refl _ _⟩
        · have e1 := empty_no hz
          have HF := Lib.hid (A3.out 80 (by rw [H.out, He.out]; rw [Lib.toList_data] at e1; show (true && !(bs h).isEmpty) = true; rw [show (bs h).isEmpty = false from e1]; rfl) HPT.out)
          clear hz
          go_wp2_with fail
          refine (rlower_any h _ (by omega)).mono ?_
          rintro e w2 ⟨rfl, hb2⟩
          go_wp2_with fail
          go_ret3
          exact ⟨by rw [HF.out]; rfl, hb2⟩
  · obtain ⟨h, hh⟩ : ∃ h : ByteArray, h = s.extract 0 i := ⟨_, rfl⟩
    obtain ⟨d, hd⟩ : ∃ d : ByteArray, d = s.extract (i + 1) s.size := ⟨_, rfl⟩
    rw [← hh, ← hd] at hc
    rw [hc] at A1 A2 A3
    have HI := Lib.hid hi
    have hhz : h.size ≤ 100000 := by rw [hh, ByteArray.size_extract]; omega
    have hdz : d.size ≤ 100000 := by rw [hd, ByteArray.size_extract]; omega
    have s1 : ∀ wx, (Instr.slice 9 (.string s) none (some (.int .i64 (i : Int))) none).run Tryz.prog wx = .ok (.string h) wx := fun wx => by
      rw [hh]; exact run_slice_string_h wx 9 s Tryz.underlying9 .i64 i (by omega) (by omega)
    have s2 : ∀ wx, (Instr.slice 9 (.string s) (some (.int .i64 ((i : Int) + 1))) none none).run Tryz.prog wx = .ok (.string d) wx := fun wx => by
      rw [hd, run_slice_string_l wx 9 s Tryz.underlying9 .i64 ((i : Int) + 1) (by omega) (by omega)]
      rw [show ((i : Int) + 1).toNat = i + 1 from by omega]
    clear hi hc hh hd
    by_cases dz : d.size = 0
    · obtain ⟨d1, d2⟩ := empty_yes dz
      have HPT : Hid (portN (bs d) = some 80) := Lib.hid (by rw [d2]; rfl)
      clear dz d2 A2
      go_enter Tryz.func29, Tryz.ntmps29
      go_wp2_with fail
      refine (index_any s 58 0 _ _ _ rfl rfl (by omega) (by omega)).mono ?_
      rintro e w' ⟨rfl, rfl⟩
      rw [HI.out]
      go_wp2_with fail
      go_loop [11] (fun j => ∃ k : Nat, k ≤ h.size ∧ j = .int .i64 k ∧ Hid ((bs h).all hostC = ((bs h).drop k).all hostC)) (fun j => h.size - (intOf j).toNat)
      case atStart => exact ⟨0, by omega, rfl, Lib.hid rfl⟩
      case round =>
        obtain ⟨k, hk, rfl, H⟩ := hrel
        by_cases hlt : k < h.size
        · have Hs := Lib.hid (host_step h hlt)
          rcases host_ways h[k] with ⟨hv, ha⟩ | ⟨hv, ha, q1⟩ | ⟨hv, ha, q1, q2⟩ | ⟨hv, ha, q1, q2⟩
          · have HV := Lib.hid hv
            have HA := Lib.hid ha
            clear hv ha
            go_wp2_with (go_at_call 46; refine (rletter_any _ _).mono ?_; rintro e w' ⟨rfl, rfl⟩; rw [HA.out])
            go_round
            case rel => exact ⟨k + 1, by omega, by go_num, Lib.hid (by rw [H.out, Hs.out, HV.out]; rfl)⟩
            case measure => simp [intOf]; omega
          · have HV := Lib.hid hv
            have HA := Lib.hid ha
            clear hv ha
            go_wp2_with (go_at_call 46; refine (rletter_any _ _).mono ?_; rintro e w' ⟨rfl, rfl⟩; rw [HA.out])
            go_round
            case rel => exact ⟨k + 1, by omega, by go_num, Lib.hid (by rw [H.out, Hs.out, HV.out]; rfl)⟩
            case measure => simp [intOf]; omega
          · have HV := Lib.hid hv
            have HA := Lib.hid ha
            clear hv ha
            go_wp2_with (go_at_call 46; refine (rletter_any _ _).mono ?_; rintro e w' ⟨rfl, rfl⟩; rw [HA.out])
            go_round
            case rel => exact ⟨k + 1, by omega, by go_num, Lib.hid (by rw [H.out, Hs.out, HV.out]; rfl)⟩
            case measure => simp [intOf]; omega
          · have HV := Lib.hid hv
            have HA := Lib.hid ha
            have HF := Lib.hid (A1.out (by rw [H.out, Hs.out, HV.out]; rfl))
            clear hv ha
            go_wp2_with (go_at_call 46; refine (rletter_any _ _).mono ?_; rintro e w' ⟨rfl, rfl⟩; rw [HA.out])
            go_ret3
            exact ⟨by rw [HF.out]; rfl, Below.refl _ _⟩
        · have He := Lib.hid (host_end h (k := k) (by omega))
          by_cases hz : h.size = 0
          · obtain ⟨e1, e2⟩ := empty_yes hz
            have HF := Lib.hid (A1.out (by rw [e2]; rfl))
            clear hz e2
            go_wp2_with fail
            go_ret3
            exact ⟨by rw [HF.out]; rfl, Below.refl _ _⟩
          · have e1 := empty_no hz
            have HF := Lib.hid (A3.out 80 (by rw [H.out, He.out]; rw [Lib.toList_data] at e1; show (true && !(bs h).isEmpty) = true; rw [show (bs h).isEmpty = false from e1]; rfl) HPT.out)
            clear hz
            go_wp2_with fail
            refine (rlower_any h _ (by omega)).mono ?_
            rintro e w2 ⟨rfl, hb2⟩
            go_wp2_with fail
            go_ret3
            exact ⟨by rw [HF.out]; rfl, hb2⟩
    · have d1 := empty_no dz
      have dn := Lib.hid (empty_ne dz)
      clear dz
      cases hn : numGo (bs d) 0 with
      | none =>
        have HN := Lib.hid (numV_none hn)
        have HF := Lib.hid (A2.out (portN_bad dn.out hn))
        clear hn
        go_enter Tryz.func29, Tryz.ntmps29
        go_wp2_with fail
        refine (index_any s 58 0 _ _ _ rfl rfl (by omega) (by omega)).mono ?_
        rintro e w' ⟨rfl, rfl⟩
        rw [HI.out]
        go_wp2_with fail
        refine (rnumber_any d _ (by omega)).mono ?_
        rintro e w2 ⟨rfl, rfl⟩
        rw [HN.out]
        go_wp2_with fail
        go_ret3
        exact ⟨by rw [HF.out]; rfl, Below.refl _ _⟩
      | some n =>
        have HN : Hid (numV (bs d) = .tuple #[.int .i64 n, .bool true]) := Lib.hid (by
          rw [numV_some hn]
          have : (bs d).isEmpty = false := by rw [Lib.toList_data] at d1; exact d1
          rw [this]; rfl)
        have hbd := numGo_bd _ 0 n (by omega) (by omega) hn
        by_cases hr : d.size ≤ 5 ∧ 1 ≤ n ∧ n ≤ 65535
        · have HPT := Lib.hid (portN_in dn.out hn (by rw [bs_length]; exact hr))
          obtain ⟨r1, r2, r3⟩ := hr
          have r1' : ¬ (5 : Int) < (d.size : Int) := by omega
          clear hn
          go_enter Tryz.func29, Tryz.ntmps29
          go_wp2_with fail
          refine (index_any s 58 0 _ _ _ rfl rfl (by omega) (by omega)).mono ?_
          rintro e w' ⟨rfl, rfl⟩
          rw [HI.out]
          go_wp2_with fail
          refine (rnumber_any d _ (by omega)).mono ?_
          rintro e w2 ⟨rfl, rfl⟩
          rw [HN.out]
          go_wp2_with fail
          go_loop [11] (fun j => ∃ k : Nat, k ≤ h.size ∧ j = .int .i64 k ∧ Hid ((bs h).all hostC = ((bs h).drop k).all hostC)) (fun j => h.size - (intOf j).toNat)
          case atStart => exact ⟨0, by omega, rfl, Lib.hid rfl⟩
          case round =>
            obtain ⟨k, hk, rfl, H⟩ := hrel
            by_cases hlt : k < h.size
            · have Hs := Lib.hid (host_step h hlt)
              rcases host_ways h[k] with ⟨hv, ha⟩ | ⟨hv, ha, q1⟩ | ⟨hv, ha, q1, q2⟩ | ⟨hv, ha, q1, q2⟩
              · have HV := Lib.hid hv
                have HA := Lib.hid ha
                clear hv ha
                go_wp2_with (go_at_call 46; refine (rletter_any _ _).mono ?_; rintro e w' ⟨rfl, rfl⟩; rw [HA.out])
                go_round
                case rel => exact ⟨k + 1, by omega, by go_num, Lib.hid (by rw [H.out, Hs.out, HV.out]; rfl)⟩
                case measure => simp [intOf]; omega
              · have HV := Lib.hid hv
                have HA := Lib.hid ha
                clear hv ha
                go_wp2_with (go_at_call 46; refine (rletter_any _ _).mono ?_; rintro e w' ⟨rfl, rfl⟩; rw [HA.out])
                go_round
                case rel => exact ⟨k + 1, by omega, by go_num, Lib.hid (by rw [H.out, Hs.out, HV.out]; rfl)⟩
                case measure => simp [intOf]; omega
              · have HV := Lib.hid hv
                have HA := Lib.hid ha
                clear hv ha
                go_wp2_with (go_at_call 46; refine (rletter_any _ _).mono ?_; rintro e w' ⟨rfl, rfl⟩; rw [HA.out])
                go_round
                case rel => exact ⟨k + 1, by omega, by go_num, Lib.hid (by rw [H.out, Hs.out, HV.out]; rfl)⟩
                case measure => simp [intOf]; omega
              · have HV := Lib.hid hv
                have HA := Lib.hid ha
                have HF := Lib.hid (A1.out (by rw [H.out, Hs.out, HV.out]; rfl))
                clear hv ha
                go_wp2_with (go_at_call 46; refine (rletter_any _ _).mono ?_; rintro e w' ⟨rfl, rfl⟩; rw [HA.out])
                go_ret3
                exact ⟨by rw [HF.out]; rfl, Below.refl _ _⟩
            · have He := Lib.hid (host_end h (k := k) (by omega))
              by_cases hz : h.size = 0
              · obtain ⟨e1, e2⟩ := empty_yes hz
                have HF := Lib.hid (A1.out (by rw [e2]; rfl))
                clear hz e2
                go_wp2_with fail
                go_ret3
                exact ⟨by rw [HF.out]; rfl, Below.refl _ _⟩
              · have e1 := empty_no hz
                have HF := Lib.hid (A3.out n (by rw [H.out, He.out]; rw [Lib.toList_data] at e1; show (true && !(bs h).isEmpty) = true; rw [show (bs h).isEmpty = false from e1]; rfl) HPT.out)
                clear hz
                go_wp2_with fail
                refine (rlower_any h _ (by omega)).mono ?_
                rintro e w2 ⟨rfl, hb2⟩
                go_wp2_with fail
                go_ret3
                exact ⟨by rw [HF.out]; rfl, hb2⟩
        · have HF := Lib.hid (A2.out (portN_out dn.out hn (by rw [bs_length]; exact hr)))
          have hr' : (5 : Int) < (d.size : Int) ∨ (¬ (5 : Int) < (d.size : Int) ∧ n < 1) ∨ (¬ (5 : Int) < (d.size : Int) ∧ ¬ n < 1 ∧ 65535 < n) := by omega
          clear hn hr
          rcases hr' with q | ⟨q, q2⟩ | ⟨q, q2, q3⟩
          all_goals
            go_enter Tryz.func29, Tryz.ntmps29
            go_wp2_with fail
            refine (index_any s 58 0 _ _ _ rfl rfl (by omega) (by omega)).mono ?_
            rintro e w' ⟨rfl, rfl⟩
            rw [HI.out]
            go_wp2_with fail
            refine (rnumber_any d _ (by omega)).mono ?_
            rintro e w2 ⟨rfl, rfl⟩
            rw [HN.out]
            go_wp2_with fail
            go_ret3
            exact ⟨by rw [HF.out]; rfl, Below.refl _ _⟩
end Go.Proofs.YtglckhljpjcmaaaGreatDoor
