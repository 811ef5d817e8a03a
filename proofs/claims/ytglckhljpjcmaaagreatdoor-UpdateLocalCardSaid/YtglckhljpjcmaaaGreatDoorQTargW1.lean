/- The walks of layer 4 (target): hosts, ports, triplets. -/
import Derived.Test.YtglckhljpjcmaaaGreatDoorQPre
import Derived.Lib.IndexAny
import Derived.Test.YtglckhljpjcmaaaGreatDoorQEnvW
import Derived.Test.YtglckhljpjcmaaaGreatDoorQNumW
import Derived.Deep.RegionHeld3
import Derived.IntWalk
namespace Go.Proofs.YtglckhljpjcmaaaGreatDoor
open Go.RowKit

set_option maxHeartbeats 400000 in
theorem alnum_any (c : UInt8) (w : World) :
    Calls Tryz.prog 75 #[.int .u8 c.toNat] w fun e w' => e = .returned (.bool (alnC c)) ∧ w = w' := by
  go_enter Tryz.func75, Tryz.ntmps75
  go_wp2
  all_goals (go_ret; exact ⟨ret_bool (by rw [Bool.eq_iff_iff, alnC_iff]; simp; omega), rfl⟩)
set_option maxHeartbeats 400000 in
theorem hostByte_any (c : UInt8) (w : World) :
    Calls Tryz.prog 77 #[.int .u8 c.toNat] w fun e w' => e = .returned (.bool (hostC c)) ∧ w = w' := by
  go_enter Tryz.func77, Tryz.ntmps77
  go_wp2_with fail
  refine (alnum_any _ _).mono ?_
  rintro e w' ⟨rfl, rfl⟩
  have H := Lib.hid (hostC_iff (c := c))
  obtain ⟨a, ha⟩ : ∃ a, a = alnC c := ⟨_, rfl⟩
  rw [← ha] at H ⊢
  clear ha
  go_wp2
  all_goals (go_ret; exact ⟨ret_bool (by rw [Bool.eq_iff_iff, H.out]; clear H; cases a <;> simp_all <;> omega), rfl⟩)
abbrev hexT : ByteArray := ⟨#[48, 49, 50, 51, 52, 53, 54, 55, 56, 57, 97, 98, 99, 100, 101, 102]⟩
theorem hex_index : ∀ n : Fin 256, Lib.indexByte hexT.data.toList (lowC (UInt8.ofNat n.val)) = hexV (UInt8.ofNat n.val) := by decide +kernel
theorem hex_at (c : UInt8) : Lib.indexByte hexT.data.toList (lowC c) = hexV c := by
  have := hex_index ⟨c.toNat, c.toNat_lt⟩
  simpa using this
set_option maxHeartbeats 400000 in
theorem hex_any (c : UInt8) (w : World) :
    Calls Tryz.prog 74 #[.int .u8 c.toNat] w fun e w' => e = .returned (.int .i64 (hexV c)) ∧ Below w.heap.size w w' := by
  have hcv := fun wx (h : BytesAt wx w.heap.size [c]) => conv_from_bytes (P := Tryz.prog) 65 9 5 w.heap.size 1 1 [c] wx Tryz.underlying65 Tryz.underlying5 Tryz.underlying9 rfl h
  have hcv1 := hcv (w.alloc (.cells #[.int .u8 c.toNat] 5)) ⟨fun j hj => by
    have : j = 0 := by simpa using hj
    subst this; simp, fun j hj => by
    have : j = 0 := by simpa using hj
    subst this; simp⟩
  clear hcv
  go_enter Tryz.func74, Tryz.ntmps74
  go_wp2_with fail
  refine (lower_any ⟨[c].toArray⟩ _ (show (1 : Nat) ≤ 9223372036854775807 by omega)).mono ?_
  rintro e w1 ⟨rfl, hb1⟩
  have b1 := (below_alloc w (.cells #[.int .u8 c.toNat] 5)).trans (hb1.mono (by simp))
  clear hb1 hcv1
  rw [show lowL (bs ⟨[c].toArray⟩) = [lowC c] from rfl]
  have H := Lib.hid (hex_at c)
  obtain ⟨d, hd⟩ : ∃ d, d = lowC c := ⟨_, rfl⟩
  rw [← hd] at H ⊢
  clear hd
  go_wp2_with fail
  refine (Tryz.strings_IndexByte hexT (d.toNat : Int) _).mono ?_
  rintro e w2 ⟨rfl, hw⟩
  rw [show ((d.toNat : Int)).toNat.toUInt8 = d from by simp, H.out, hw]
  go_wp2_with fail
  go_ret
  exact ⟨rfl, b1⟩
theorem plain_list (c : UInt8) : decide (0 ≤ Lib.indexByte [45, 46, 95, 126] c) = (c == 45 || (c == 46 || (c == 95 || c == 126))) := by
  rw [← Lib.contains_iff_indexByte]
  simp only [List.contains_cons, List.contains_nil, Bool.or_false]
/-- The host of an authority, byte by byte. -/
theorem host_step (s : ByteArray) {k : Nat} (h : k < s.size) : ((bs s).drop k).all hostC = (hostC s[k] && ((bs s).drop (k + 1)).all hostC) := by rw [drop_step s h]; rfl
theorem host_end (s : ByteArray) {k : Nat} (h : s.size ≤ k) : ((bs s).drop k).all hostC = true := by rw [drop_end s h]; rfl
theorem empty_ne {s : ByteArray} (h : s.size ≠ 0) : bs s ≠ [] := fun e => h (by rw [← bs_length, e]; rfl)
theorem empty_no {s : ByteArray} (h : s.size ≠ 0) : s.toList.isEmpty = false := by
  rw [Lib.toList_data]
  cases hx : s.data.toList with
  | nil => exact absurd hx (empty_ne h)
  | cons => rfl
theorem empty_yes {s : ByteArray} (h : s.size = 0) : s.toList.isEmpty = true ∧ bs s = [] := by
  have : bs s = [] := List.length_eq_zero_iff.1 (by rw [bs_length]; exact h)
  exact ⟨by rw [Lib.toList_data]; show (bs s).isEmpty = true; rw [this]; rfl, this⟩
set_option maxHeartbeats 3200000 in
theorem authority_any (s : ByteArray) (w : World) (hs : s.size ≤ 100000) (hM : MaxOf w) :
    Calls Tryz.prog 58 #[.string s] w fun e w' => e = .returned (authV (authL (bs s))) ∧ Below w.heap.size w w' := by
  have HM := Lib.hid hM
  clear hM
  have zl := cutB_len 58 (bs s)
  rw [bs_length] at zl
  have A1 := Lib.hid (authL_host (l := bs s))
  have A2 := Lib.hid (authL_port (l := bs s))
  have A3 := Lib.hid fun n => authL_ok (l := bs s) (n := n)
  have HC := Lib.hid (cut_any s 58 w (by omega) HM.out)
  obtain ⟨h, hh⟩ : ∃ h : ByteArray, h = ⟨(cutB 58 (bs s)).1.toArray⟩ := ⟨_, rfl⟩
  obtain ⟨d, hd⟩ : ∃ d : ByteArray, d = ⟨(cutB 58 (bs s)).2.1.toArray⟩ := ⟨_, rfl⟩
  have eh : (cutB 58 (bs s)).1 = bs h := by rw [hh]
  have ed : (cutB 58 (bs s)).2.1 = bs d := by rw [hd]
  simp only [eh, ed] at A1 A2 A3 HC zl
  rw [bs_length, bs_length] at zl
  obtain ⟨x, hx⟩ : ∃ x, x = (cutB 58 (bs s)).2.2 := ⟨_, rfl⟩
  rw [← hx] at HC
  obtain ⟨r, hr⟩ : ∃ r, r = authL (bs s) := ⟨_, rfl⟩
  rw [← hr] at A1 A2 A3 ⊢
  have eb : (⟨(bs h).toArray⟩ : ByteArray) = h := rfl
  have eb2 : (⟨(bs d).toArray⟩ : ByteArray) = d := rfl
  rw [eb, eb2] at HC
  clear eh ed hh hd hx hr eb eb2
  go_enter Tryz.func58, Tryz.ntmps58
  go_wp2_with fail
  refine HC.out.mono ?_
  rintro e w1 ⟨rfl, b1⟩
  clear HC
  go_wp2_with fail
  go_loop [20] (fun j => ∃ k : Nat, k ≤ h.size ∧ j = .int .i64 k ∧ Hid ((bs h).all hostC = ((bs h).drop k).all hostC)) (fun j => h.size - (intOf j).toNat)
  case atStart => exact ⟨0, by omega, rfl, Lib.hid rfl⟩
  case round =>
    obtain ⟨k, hk, rfl, H⟩ := hrel
    by_cases hlt : k < h.size
    · have Hs := Lib.hid (host_step h hlt)
      cases hv : hostC h[k] with
      | false =>
        have HV := Lib.hid hv
        have HF := Lib.hid (A1.out (by rw [H.out, Hs.out, HV.out]; rfl))
        clear hv
        go_wp2_with (go_at_call 77; refine (hostByte_any _ _).mono ?_; rintro e w' ⟨rfl, rfl⟩; rw [HV.out])
        go_ret3
        exact ⟨by rw [HF.out]; rfl, b1⟩
      | true =>
        have HV := Lib.hid hv
        clear hv
        go_wp2_with (go_at_call 77; refine (hostByte_any _ _).mono ?_; rintro e w' ⟨rfl, rfl⟩; rw [HV.out])
        go_round
        case rel => exact ⟨k + 1, by omega, by go_num, Lib.hid (by rw [H.out, Hs.out, HV.out]; rfl)⟩
        case measure => simp [intOf]; omega
    · have He := Lib.hid (host_end h (k := k) (by omega))
      by_cases hz : h.size = 0
      · obtain ⟨e1, e2⟩ := empty_yes hz
        have HF := Lib.hid (A1.out (by rw [e2]; rfl))
        clear hz e2
        go_wp2_with fail
        go_ret3
        exact ⟨by rw [HF.out]; rfl, b1⟩
      · have e1 := empty_no hz
        have HA : Hid (((bs h).all hostC && !(bs h).isEmpty) = true) := Lib.hid (by rw [H.out, He.out]; rw [Lib.toList_data] at e1; show (true && !(bs h).isEmpty) = true; rw [show (bs h).isEmpty = false from e1]; rfl)
        clear hz
        by_cases dz : d.size = 0
        · obtain ⟨d1, d2⟩ := empty_yes dz
          have HF := Lib.hid (A3.out 80 HA.out (by rw [d2]; rfl))
          clear dz d2
          go_wp2_with fail
          refine (lower_any h _ (by omega)).mono ?_
          rintro e w2 ⟨rfl, hb2⟩
          go_wp2_with fail
          go_ret3
          exact ⟨by rw [HF.out]; rfl, below_step b1 hb2⟩
        · have d1 := empty_no dz
          have dn := Lib.hid (empty_ne dz)
          have hdz : d.size ≤ 100000 := by omega
          clear dz
          cases hn : numGo (bs d) 0 with
          | none =>
            have HN := Lib.hid (numV_none hn)
            have HF := Lib.hid (A2.out (portN_bad dn.out hn))
            clear hn
            go_wp2_with fail
            refine (number_any d _ (by omega)).mono ?_
            rintro e w2 ⟨rfl, rfl⟩
            rw [HN.out]
            go_wp2_with fail
            go_ret3
            exact ⟨by rw [HF.out]; rfl, b1⟩
          | some n =>
            have HN : Hid (numV (bs d) = .tuple #[.int .i64 n, .bool true]) := Lib.hid (by
              rw [numV_some hn]
              have : (bs d).isEmpty = false := by rw [Lib.toList_data] at d1; exact d1
              rw [this]; rfl)
            have hbd := numGo_bd _ 0 n (by omega) (by omega) hn
            by_cases hr : d.size ≤ 5 ∧ 1 ≤ n ∧ n ≤ 65535
            · have HF := Lib.hid (A3.out n HA.out (portN_in dn.out hn (by rw [bs_length]; exact hr)))
              obtain ⟨r1, r2, r3⟩ := hr
              have r1' : ¬ (5 : Int) < (d.size : Int) := by omega
              clear hn
              go_wp2_with fail
              refine (number_any d _ (by omega)).mono ?_
              rintro e w2 ⟨rfl, rfl⟩
              rw [HN.out]
              go_wp2_with fail
              refine (lower_any h _ (by omega)).mono ?_
              rintro e w3 ⟨rfl, hb2⟩
              go_wp2_with fail
              go_ret3
              exact ⟨by rw [HF.out]; rfl, below_step b1 hb2⟩
            · have HF := Lib.hid (A2.out (portN_out dn.out hn (by rw [bs_length]; exact hr)))
              have hr' : (5 : Int) < (d.size : Int) ∨ (¬ (5 : Int) < (d.size : Int) ∧ n < 1) ∨ (¬ (5 : Int) < (d.size : Int) ∧ ¬ n < 1 ∧ 65535 < n) := by omega
              clear hn hr
              rcases hr' with q | ⟨q, q2⟩ | ⟨q, q2, q3⟩
              all_goals
                go_wp2_with fail
                refine (number_any d _ (by omega)).mono ?_
                rintro e w2 ⟨rfl, rfl⟩
                rw [HN.out]
                go_wp2_with fail
                go_ret3
                exact ⟨by rw [HF.out]; rfl, b1⟩
end Go.Proofs.YtglckhljpjcmaaaGreatDoor
