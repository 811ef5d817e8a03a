/- The walk of the reference's ParseDate (20.2). -/
import Derived.Test.YtlcchcbeebakpaaDoorDateW3
namespace Go.Proofs.YtlcchcbeebakpaaDoor
open Go.RowKit

theorem months_test (s : ByteArray) (k : Nat) (hk : k < 12) : (((⟨#[74, 97, 110, 70, 101, 98, 77, 97, 114, 65, 112, 114, 77, 97, 121, 74, 117, 110, 74, 117, 108, 65, 117, 103, 83, 101, 112, 79, 99, 116, 78, 111, 118, 68, 101, 99]⟩ : ByteArray).extract (3 * k) (3 * k + 3)).toList == (s.extract 8 11).toList) = decide (nameFrom monthS (bs (s.extract 8 11)) 12 0 = k) := by
  rw [Lib.toList_data, Lib.toList_data]
  exact (congrArg (fun l => l == bs (s.extract 8 11)) (monthsT_at k hk)).trans (month_iff _ k hk)
theorem wdays_test (s : ByteArray) (k : Nat) (hk : k < 7) : (((⟨#[84, 104, 117, 70, 114, 105, 83, 97, 116, 83, 117, 110, 77, 111, 110, 84, 117, 101, 87, 101, 100]⟩ : ByteArray).extract (3 * k) (3 * k + 3)).toList == (s.extract 0 3).toList) = decide (nameFrom wdayS (bs (s.extract 0 3)) 7 0 = ((k + 3) % 7 : Nat)) := by
  rw [Lib.toList_data, Lib.toList_data]
  exact (congrArg (fun l => l == bs (s.extract 0 3)) (wdaysT_at k hk)).trans (wday_iff _ _ (by omega))

set_option maxRecDepth 100000 in
set_option maxHeartbeats 1600000 in
theorem rparse_core (s : ByteArray) (w : World) (h : s.size = 29) (h1 : (s.extract 3 5).toList = [44, 32]) (h2 : (s[7].toNat : Int) = 32) (h3 : (s[11].toNat : Int) = 32) (h4 : (s[16].toNat : Int) = 32) (h5 : (s[19].toNat : Int) = 58) (h6 : (s[22].toNat : Int) = 58) (h7 : (s.extract 25 29).toList = [32, 71, 77, 84])
    (a0 a1 a2 a3 a4 : Int) (ha2 : 0 ≤ a2 ∧ a2 ≤ 2147483647) (ha3 : 0 ≤ a3 ∧ a3 ≤ 2147483647) (ha4 : 0 ≤ a4 ∧ a4 ≤ 2147483647) (b0 b1 b2 b3 b4 : Bool) (n0 : numV (bs (s.extract 5 7)) = .tuple #[.int .i64 a0, .bool b0]) (n1 : numV (bs (s.extract 12 16)) = .tuple #[.int .i64 a1, .bool b1]) (n2 : numV (bs (s.extract 17 19)) = .tuple #[.int .i64 a2, .bool b2])
    (n3 : numV (bs (s.extract 20 22)) = .tuple #[.int .i64 a3, .bool b3]) (n4 : numV (bs (s.extract 23 25)) = .tuple #[.int .i64 a4, .bool b4]) :
    Calls Tryd.prog 74 #[.string s] w fun e w' => e = .returned (dateV (if b0 && b1 && b2 && b3 && b4 then secs a0 a1 a2 a3 a4 (nameFrom monthS (bs (s.extract 8 11)) 12 0 + 1) (nameFrom wdayS (bs (s.extract 0 3)) 7 0) else none)) ∧ Below w.heap.size w w' := by
  obtain ⟨nm, hnm⟩ : ∃ nm, nameFrom monthS (bs (s.extract 8 11)) 12 0 = nm := ⟨_, rfl⟩
  have hm : -1 ≤ nm ∧ nm < 12 := by rw [← hnm]; exact nameFrom_bd monthS (bs (s.extract 8 11)) 12 0
  have Hnm := Lib.hid hnm
  clear hnm
  go_enter Tryd.func74, Tryd.ntmps74
  go_wp2_with fail
  refine (digits_any s 5 2 7 _ _ _ rfl rfl rfl (by omega) (by omega)).mono ?_
  rintro e w' ⟨rfl, rfl⟩
  go_wp2_with fail
  refine (digits_any s 12 4 16 _ _ _ rfl rfl rfl (by omega) (by omega)).mono ?_
  rintro e w' ⟨rfl, rfl⟩
  go_wp2_with fail
  refine (digits_any s 17 2 19 _ _ _ rfl rfl rfl (by omega) (by omega)).mono ?_
  rintro e w' ⟨rfl, rfl⟩
  go_wp2_with fail
  refine (digits_any s 20 2 22 _ _ _ rfl rfl rfl (by omega) (by omega)).mono ?_
  rintro e w' ⟨rfl, rfl⟩
  go_wp2_with fail
  refine (digits_any s 23 2 25 _ _ _ rfl rfl rfl (by omega) (by omega)).mono ?_
  rintro e w' ⟨rfl, rfl⟩
  go_wp2_with fail
  go_loopw [14, 15] (fun mo x wr => ∃ (k n : Nat) (mv : Int), k ≤ 12 ∧ x = .int .i64 k ∧ mo = .int .i64 mv ∧ Hid (mv = if nm < k then nm + 1 else 0) ∧ wr = w.drewN n) (fun _ x _ => 12 - (intOf x).toNat)
  case atStart => exact ⟨0, 0, 0, by omega, rfl, rfl, Lib.hid (by split <;> omega), rfl⟩
  case round =>
    obtain ⟨k, n, mv, hk, rfl, rfl, Hmv, rfl⟩ := hrel
    by_cases hlt : k < 12
    · have e1 : IntKind.i64.wrap (3 * (k : Int)) = 3 * k := IntWalk.i64_in _ (by omega)
      have e2 : IntKind.i64.wrap (3 * (k : Int) + 3) = 3 * k + 3 := IntWalk.i64_in _ (by omega)
      have e3 : (3 * (k : Int)).toNat = 3 * k := by omega
      have e4 : (3 * (k : Int) + 3).toNat = 3 * k + 3 := by omega
      have e5 : 0 ≤ 3 * (k : Int) := by omega
      have e6 : 3 * (k : Int) + 3 ≤ 36 := by omega
      have ht := months_test s k hlt
      rw [Hnm.out] at ht
      have hlt' : (k : Int) < 12 := by omega
      cases hb : decide (nm = (k : Int)) with
      | true =>
        rw [hb] at ht
        have Hb := Lib.hid (of_decide_eq_true hb)
        clear hb
        go_wp2_with fail
        go_quiet (fail)
        go_wp2_with fail
        go_roundw
        case rel => exact ⟨k + 1, n + nq, k + 1, by omega, by go_num, rfl, Lib.hid (by have := Hb.out; rw [if_pos (by omega)]; omega), rfl⟩
        case measure => simp [intOf]; omega
      | false =>
        rw [hb] at ht
        have Hb := Lib.hid (of_decide_eq_false hb)
        clear hb
        go_wp2_with fail
        go_quiet (fail)
        go_wp2_with fail
        go_roundw
        case rel => exact ⟨k + 1, n + nq, mv, by omega, by go_num, rfl, Lib.hid (by have := Hb.out; rw [Hmv.out]; split <;> split <;> omega), rfl⟩
        case measure => simp [intOf]; omega
    · obtain rfl : k = 12 := by omega
      obtain rfl : mv = nm + 1 := by have e := Hmv.out; have hx : nm < ((12 : Nat) : Int) := hm.2; rw [if_pos hx] at e; exact e
      clear Hmv
      obtain ⟨dn, hdn⟩ : ∃ dn, days a1 (nm + 1) a0 = dn := ⟨_, rfl⟩
      obtain ⟨wi, hwi⟩ : ∃ wi, nameFrom wdayS (bs (s.extract 0 3)) 7 0 = wi := ⟨_, rfl⟩
      have H : Hid (secs a0 a1 a2 a3 a4 (nameFrom monthS (bs (s.extract 8 11)) 12 0 + 1) (nameFrom wdayS (bs (s.extract 0 3)) 7 0) = if dn < 0 ∨ 23 < a2 ∨ 59 < a3 ∨ 59 < a4 ∨ wi ≠ (dn + 3) % 7 then none else some (dn * 86400 + (a2 * 3600 + a3 * 60 + a4))) := Lib.hid (by rw [Hnm.out, hwi, ← hdn]; rfl)
      have hdb := days_bd a1 (nm + 1) a0
      rw [hdn] at hdb
      have Hwi := Lib.hid hwi
      clear hwi
      go_wp2_with fail
      refine (rdays_any _ _ _ _).mono ?_
      rintro e w' ⟨rfl, rfl⟩
      go_wp2_with fail
      cases b0
      · go_quiet (fail)
        go_wp2_with fail
        go_ret2
        exact ⟨rfl, below_drewN (Below.refl _ _) _⟩
      cases b1
      · go_quiet (fail)
        go_wp2_with fail
        go_ret2
        exact ⟨rfl, below_drewN (Below.refl _ _) _⟩
      cases b2
      · go_quiet (fail)
        go_wp2_with fail
        go_ret2
        exact ⟨rfl, below_drewN (Below.refl _ _) _⟩
      cases b3
      · go_quiet (fail)
        go_wp2_with fail
        go_ret2
        exact ⟨rfl, below_drewN (Below.refl _ _) _⟩
      cases b4
      · go_quiet (fail)
        go_wp2_with fail
        go_ret2
        exact ⟨rfl, below_drewN (Below.refl _ _) _⟩
      by_cases c1 : dn < 0
      · have Hc := Lib.hid c1
        go_quiet (fail)
        go_wp2_with fail
        go_ret2
        exact ⟨by show _ = Ending.returned (dateV (secs _ _ _ _ _ _ _)); rw [H.out, if_pos (by have := Hc.out; omega)]; rfl, below_drewN (Below.refl _ _) _⟩
      have c1' : decide (dn < 0) = false := by simpa using c1
      by_cases c2 : 23 < a2
      · have Hc := Lib.hid c2
        go_quiet (fail)
        go_wp2_with fail
        go_ret2
        exact ⟨by show _ = Ending.returned (dateV (secs _ _ _ _ _ _ _)); rw [H.out, if_pos (by have := Hc.out; omega)]; rfl, below_drewN (Below.refl _ _) _⟩
      have c2' : decide (23 < a2) = false := by simpa using c2
      by_cases c3 : 59 < a3
      · have Hc := Lib.hid c3
        go_quiet (fail)
        go_wp2_with fail
        go_ret2
        exact ⟨by show _ = Ending.returned (dateV (secs _ _ _ _ _ _ _)); rw [H.out, if_pos (by have := Hc.out; omega)]; rfl, below_drewN (Below.refl _ _) _⟩
      have c3' : decide (59 < a3) = false := by simpa using c3
      by_cases c4 : 59 < a4
      · have Hc := Lib.hid c4
        go_quiet (fail)
        go_wp2_with fail
        go_ret2
        exact ⟨by show _ = Ending.returned (dateV (secs _ _ _ _ _ _ _)); rw [H.out, if_pos (by have := Hc.out; omega)]; rfl, below_drewN (Below.refl _ _) _⟩
      have c4' : decide (59 < a4) = false := by simpa using c4
      obtain ⟨r, hr⟩ : ∃ r : Nat, dn % 7 = r := ⟨(dn % 7).toNat, by omega⟩
      have hr7 : r < 7 := by omega
      have hwt := wdays_test s r hr7
      rw [Hwi.out] at hwt
      have e0 : 0 ≤ dn := by omega
      have e0' : IntKind.i64.wrap (dn.tmod 7) = r := by rw [Int.tmod_eq_emod_of_nonneg e0, hr]; exact IntWalk.i64_in _ (by omega)
      have e1 : IntKind.i64.wrap (3 * (r : Int)) = 3 * r := IntWalk.i64_in _ (by omega)
      have e2 : IntKind.i64.wrap (3 * (r : Int) + 3) = 3 * r + 3 := IntWalk.i64_in _ (by omega)
      have e3 : (3 * (r : Int)).toNat = 3 * r := by omega
      have e4 : (3 * (r : Int) + 3).toNat = 3 * r + 3 := by omega
      have e5 : 0 ≤ 3 * (r : Int) := by omega
      have e6 : 3 * (r : Int) + 3 ≤ 21 := by omega
      have hw7 : (((r + 3) % 7 : Nat) : Int) = (dn + 3) % 7 := by omega
      rw [hw7] at hwt
      cases hb : decide (wi = (dn + 3) % 7) with
      | true =>
        rw [hb] at hwt
        have Hb := Lib.hid (of_decide_eq_true hb)
        have Hr := Lib.hid hr
        clear hb hw7
        go_quiet (fail)
        go_wp2_with fail
        go_ret2
        exact ⟨by show _ = Ending.returned (dateV (secs _ _ _ _ _ _ _)); rw [H.out, if_neg (by have := Hb.out; omega)]; rfl, below_drewN (Below.refl _ _) _⟩
      | false =>
        rw [hb] at hwt
        have Hb := Lib.hid (of_decide_eq_false hb)
        have Hr := Lib.hid hr
        clear hb hw7
        go_quiet (fail)
        go_wp2_with fail
        go_ret2
        exact ⟨by show _ = Ending.returned (dateV (secs _ _ _ _ _ _ _)); rw [H.out, if_pos (by have := Hb.out; omega)]; rfl, below_drewN (Below.refl _ _) _⟩
set_option maxRecDepth 100000 in
set_option maxHeartbeats 800000 in
theorem rparse_no (s : ByteArray) (w : World) (h : ¬ Form s) :
    Calls Tryd.prog 74 #[.string s] w fun e w' => e = .returned (dateV none) ∧ Below w.heap.size w w' := by
  have H := Lib.hid h
  clear h
  by_cases h29 : s.size = 29
  · go_enter Tryd.func74, Tryd.ntmps74
    go_wp2_with fail
    all_goals first | (go_ret2; exact ⟨rfl, Below.refl _ _⟩) | (exfalso; exact H.out ⟨h29, by assumption, by omega, by omega, by omega, by omega, by omega, by simpa using (show (!((s.extract 25 29).toList == [32, 71, 77, 84])) = false by assumption)⟩)
  · go_enter Tryd.func74, Tryd.ntmps74
    go_wp2_with fail
    go_ret2
    exact ⟨rfl, Below.refl _ _⟩

theorem num_of' (s : ByteArray) (i j : Nat) (hij : i < j) (hj : j ≤ s.size) : ∃ (a : Int) (b : Bool), (0 ≤ a ∧ a ≤ 2147483647) ∧ numV (bs (s.extract i j)) = .tuple #[.int .i64 a, .bool b] ∧ numAt (bs s) i j = if b then some a else none := by
  rcases num_of s i j hij hj with ⟨a, l, m, h1, h2⟩ | ⟨h1, h2⟩
  · exact ⟨a, true, ⟨l, m⟩, h2, h1⟩
  · exact ⟨0, false, ⟨by omega, by omega⟩, h2, h1⟩
theorem rparse_any (s : ByteArray) (w : World) :
    Calls Tryd.prog 74 #[.string s] w fun e w' => e = .returned (dateV (parseD (bs s))) ∧ Below w.heap.size w w' := by
  by_cases hf : Form s
  · have hp : parseD (bs s) = parts (bs s) := by unfold parseD; rw [if_pos ((formB_iff s).2 hf)]
    rw [hp]
    obtain ⟨h, h1, h2, h3, h4, h5, h6, h7⟩ := hf
    obtain ⟨x0, b0, _, q0, p0⟩ := num_of' s 5 7 (by omega) (by omega)
    obtain ⟨x1, b1, _, q1, p1⟩ := num_of' s 12 16 (by omega) (by omega)
    obtain ⟨x2, b2, m2, q2, p2⟩ := num_of' s 17 19 (by omega) (by omega)
    obtain ⟨x3, b3, m3, q3, p3⟩ := num_of' s 20 22 (by omega) (by omega)
    obtain ⟨x4, b4, m4, q4, p4⟩ := num_of' s 23 25 (by omega) (by omega)
    have e : parts (bs s) = if b0 && b1 && b2 && b3 && b4 then secs x0 x1 x2 x3 x4 (nameFrom monthS (bs (s.extract 8 11)) 12 0 + 1) (nameFrom wdayS (bs (s.extract 0 3)) 7 0) else none := by
      unfold parts
      rw [p0, p1, p2, p3, p4, sub_extract, sub_extract]
      cases b0 <;> cases b1 <;> cases b2 <;> cases b3 <;> cases b4 <;> rfl
    rw [e]
    exact rparse_core s w h h1 (by omega) (by omega) (by omega) (by omega) (by omega) h7 x0 x1 x2 x3 x4 m2 m3 m4 b0 b1 b2 b3 b4 q0 q1 q2 q3 q4
  · have hp : parseD (bs s) = none := by unfold parseD; rw [if_neg (fun h => hf ((formB_iff s).1 h))]
    rw [hp]
    exact rparse_no s w hf
end Go.Proofs.YtlcchcbeebakpaaDoor
