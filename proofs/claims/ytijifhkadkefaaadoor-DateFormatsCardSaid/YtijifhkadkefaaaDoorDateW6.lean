/- The walk of the reference's FormatDate (20.3). -/
import Derived.Test.YtijifhkadkefaaaDoorDateW5
import Derived.Deep.RegionHeld3
import Derived.IntWalk
import Derived.Deep.DeepCutAuto
import Derived.Deep.CutBlock
namespace Go.Proofs.YtijifhkadkefaaaDoor
open Go.RowKit
theorem itoa_hundred (k : Nat) (h : k < 100) : Lib.itoa (100 + (k : Int)) = 49 :: twoL k := by
  rw [show (100 + (k : Int)) = ((100 + k : Nat) : Int) from by omega, Lib.itoa_nonneg, decDigits_hundred k h]
theorem tail_two (k : Nat) : (⟨(49 :: twoL k).toArray⟩ : ByteArray).extract 1 3 = ⟨(twoL k).toArray⟩ := by
  apply ByteArray.ext
  simp [twoL]
theorem two_any (n : Int) (w : World) (h0 : 0 ≤ n) (h1 : n < 100) :
    Calls Tryd.prog 17 #[.int .i64 n] w fun e w' => e = .returned (.string ⟨(twoL n.toNat).toArray⟩) ∧ Below w.heap.size w w' := by
  obtain ⟨k, rfl⟩ := Int.eq_ofNat_of_zero_le h0
  have hk : k < 100 := by omega
  have H := Lib.hid (itoa_hundred k hk)
  have hl : (twoL k).length = 2 := rfl
  have HE := Lib.hid (tail_two k)
  go_enter Tryd.func17, Tryd.ntmps17
  go_wp2_with fail
  refine (rdecimal_any _ _ (by omega) (by omega)).mono ?_
  rintro e w1 ⟨rfl, hb1⟩
  rw [H.out]
  generalize hq : (⟨(49 :: twoL k).toArray⟩ : ByteArray) = s
  have hz : s.size = 3 := by rw [← hq]; rfl
  have HQ := Lib.hid hq
  clear hq hl
  go_wp2_with fail
  go_ret
  exact ⟨by rw [Int.toNat_natCast, ← HE.out, HQ.out]; rfl, hb1⟩
theorem itoa_four (y : Int) (h1 : 1970 ≤ y) (h2 : y ≤ 9999) : (Lib.itoa y).length = 4 := by
  obtain ⟨k, rfl⟩ := Int.eq_ofNat_of_zero_le (show 0 ≤ y by omega)
  rw [Lib.itoa_nonneg, decDigits_year k (by omega) (by omega)]; rfl
/-- The number of the first day of a month. -/
def befM (y m : Int) : Int := bef y - 719162 + cumN y (m - 1).toNat
theorem befM_one (y : Int) : befM y 1 = bef y - 719162 := by show _ + 0 = _; omega
theorem befM_succ (y m : Int) (h : 1 ≤ m) : befM y (m + 1) = befM y m + mlen y m := by
  unfold befM
  rw [show (m + 1 - 1).toNat = (m - 1).toNat + 1 from by omega, cumN, show (((m - 1).toNat : Int) + 1) = m from by omega]; omega
theorem befM_13 (y : Int) : befM y 13 = bef y - 719162 + cumN y 12 := rfl
theorem befM_bd (y m : Int) (h : 1970 ≤ y) (h' : y ≤ 10000) (hm : 1 ≤ m) (hm' : m ≤ 13) : 0 ≤ befM y m ∧ befM y m ≤ 2933300 := by
  have := bef_bd y h h'
  have := cumN_bd y (m - 1).toNat
  unfold befM; omega
theorem rdays_first (y m : Int) (w : World) (h0 : 1970 ≤ y) (h1 : y ≤ 9999) (hm : 1 ≤ m) (hm' : m ≤ 12) :
    Calls Tryd.prog 16 #[.int .i64 y, .int .i64 m, .int .i64 1] w fun e w' => e = .returned (.int .i64 (befM y m)) ∧ w = w' := by
  have hb := mlen_bd y m
  have e : days y m 1 = befM y m := by
    unfold befM
    rw [days_valid ⟨h0, h1, by omega, by omega, by omega, by omega⟩, bef_1970]
    omega
  rw [← e]; exact rdays_any y m 1 w
theorem wdaysT_ext (i : Int) (h0 : 0 ≤ i) (h1 : i < 7) : wdaysT.extract (3 * i).toNat (3 * i + 3).toNat = wdayS ((i + 3) % 7).toNat := by
  obtain ⟨k, rfl⟩ := Int.eq_ofNat_of_zero_le h0
  have := wdaysT_at k (by omega)
  rw [show (3 * (k : Int)).toNat = 3 * k from by omega, show (3 * (k : Int) + 3).toNat = 3 * k + 3 from by omega, show (((k : Int) + 3) % 7).toNat = (k + 3) % 7 from by omega]
  exact ByteArray.ext (Array.toList_inj.1 this)
theorem monthsT_ext (m : Int) (h0 : 1 ≤ m) (h1 : m ≤ 12) : monthsT.extract (3 * m - 3).toNat (3 * m).toNat = monthS (m - 1).toNat := by
  obtain ⟨k, hk⟩ := Int.eq_ofNat_of_zero_le (show 0 ≤ m - 1 by omega)
  obtain rfl : m = k + 1 := by omega
  have := monthsT_at k (by omega)
  rw [show (3 * ((k : Int) + 1) - 3).toNat = 3 * k from by omega, show (3 * ((k : Int) + 1)).toNat = 3 * k + 3 from by omega, show ((k : Int) + 1 - 1).toNat = k from by omega]
  exact ByteArray.ext (Array.toList_inj.1 this)
theorem rformat_no (t : Int) (w : World) (h : t < 0 ∨ 253402300799 < t) :
    Calls Tryd.prog 7 #[.int .i64 t] w fun e w' => e = .returned (.string ⟨#[]⟩) ∧ Below w.heap.size w w' := by
  rcases h with h | h
  · go_enter Tryd.func7, Tryd.ntmps7
    go_wp2_with fail
    go_ret
    exact ⟨rfl, Below.refl _ _⟩
  · have h' : ¬ t < 0 := by omega
    go_enter Tryd.func7, Tryd.ntmps7
    go_wp2_with fail
    go_ret
    exact ⟨rfl, Below.refl _ _⟩
theorem rfin_day {t y m d : Int} (h1 : 1970 ≤ y) (h2 : y ≤ 9999) (h3 : 1 ≤ m) (h4 : m ≤ 12) (hd : d = t / 86400 - befM y m + 1) (h5 : 1 ≤ d) (h6 : d ≤ mlen y m) : IsDay (t / 86400) y m d :=
  ⟨⟨h1, h2, h3, h4, h5, h6⟩, by rw [bef_1970]; unfold befM at hd; omega⟩
theorem run_wdaysT (k : Int) (h0 : 0 ≤ k) (h1 : k < 7) (w : World) :
    (Instr.slice 9 (.string ⟨#[84, 104, 117, 70, 114, 105, 83, 97, 116, 83, 117, 110, 77, 111, 110, 84, 117, 101, 87, 101, 100]⟩) (some (.int .i64 (3 * k))) (some (.int .i64 (3 * k + 3))) none).run Tryd.prog w = .ok (.string (wdayS ((k + 3) % 7).toNat)) w := by
  rw [← wdaysT_ext k h0 h1, run_slice_string_if (h := Tryd.underlying9), if_pos ⟨by omega, by show _ ≤ ((21 : Nat) : Int); omega⟩, if_pos ⟨by omega, by omega⟩]
  rfl
theorem run_monthsT (m : Int) (h0 : 1 ≤ m) (h1 : m ≤ 12) (w : World) :
    (Instr.slice 9 (.string ⟨#[74, 97, 110, 70, 101, 98, 77, 97, 114, 65, 112, 114, 77, 97, 121, 74, 117, 110, 74, 117, 108, 65, 117, 103, 83, 101, 112, 79, 99, 116, 78, 111, 118, 68, 101, 99]⟩) (some (.int .i64 (3 * m - 3))) (some (.int .i64 (3 * m))) none).run Tryd.prog w = .ok (.string (monthS (m - 1).toNat)) w := by
  rw [← monthsT_ext m h0 h1, run_slice_string_if (h := Tryd.underlying9), if_pos ⟨by omega, by show _ ≤ ((36 : Nat) : Int); omega⟩, if_pos ⟨by omega, by omega⟩]
  rfl
set_option maxHeartbeats 4000000 in
theorem rformat_yes (t : Int) (w : World) (h0 : 0 ≤ t) (h1 : t ≤ 253402300799) :
    Calls Tryd.prog 7 #[.int .i64 t] w (FmtOf t w) := by
  have n0 : ¬ t < 0 := by omega
  have n1 : ¬ 253402300799 < t := by omega
  have g0 : bef 1970 = 719162 := bef_1970
  have G0 := Lib.hid g0
  clear g0
  go_enter Tryd.func7, Tryd.ntmps7
  go_upto_block 0 with fail
  go_cut [5] (fun s wx => w = wx ∧ ∃ y : Int, 1970 ≤ y ∧ y ≤ 9999 ∧ befM y 1 ≤ t / 86400 ∧ t / 86400 < befM y 13 ∧ s = .int .i64 y)
  case first =>
    go_wp2_with fail
    go_loop [5] (fun s => ∃ y : Int, 1970 ≤ y ∧ y ≤ 9999 ∧ bef y ≤ t / 86400 + 719162 ∧ s = .int .i64 y) (fun s => (9999 - intOf s).toNat)
    case atStart => exact ⟨1970, by omega, by omega, by rw [G0.out]; omega, rfl⟩
    case round =>
      obtain ⟨y, hy1, hy2, hy3, rfl⟩ := hrel
      have hbb := bef_bd y hy1 (by omega)
      by_cases hc : y < 9999 ∧ bef (y + 1) - 719162 ≤ t / 86400
      · obtain ⟨hlt, hd⟩ := hc
        have hb1 := befM_bd (y + 1) 1 (by omega) (by omega) (by omega) (by omega)
        have hd' : befM (y + 1) 1 ≤ t / 86400 := by rw [befM_one]; exact hd
        go_wp2_with fail
        refine (rdays_first _ 1 _ (by omega) (by omega) (by omega) (by omega)).mono ?_
        rintro e w' ⟨rfl, rfl⟩
        go_wp2_with fail
        go_round
        case rel => exact ⟨y + 1, by omega, by omega, by omega, rfl⟩
        case measure => simp [intOf]; omega
      · have hz : t / 86400 + 719162 < bef (y + 1) := by
          by_cases e : y = 9999
          · subst e
            show _ < bef 10000
            have : bef 10000 = 3652059 := by decide
            omega
          · omega
        have hs := bef_succ y
        have hl12 := cum_12 y
        have hcase : y < 9999 ∧ ¬ befM (y + 1) 1 ≤ t / 86400 ∨ ¬ y < 9999 := by
          rw [befM_one]; omega
        have hD : t / 86400 < befM y 13 := by rw [befM_13, hl12]; omega
        have hm1 : befM y 1 ≤ t / 86400 := by rw [befM_one]; omega
        clear hc hs hl12 hz
        rcases hcase with ⟨q1, q2⟩ | q1
        all_goals
          have hbb1 := befM_bd (y + 1) 1 (by omega) (by omega) (by omega) (by omega)
          go_wp2_with fail
          first | (have _hq : y + 1 ≤ 9999 := (by omega); refine (rdays_first (y + 1) 1 _ (by omega) (by omega) (by omega) (by omega)).mono ?_; rintro e w' ⟨rfl, rfl⟩; go_wp2_with fail) | skip
          go_meet
          exact ⟨rfl, y, hy1, hy2, hm1, hD, rfl⟩
  case rest =>
    obtain ⟨rfl, y, hy1, hy2, hm0, hD, rfl⟩ := hcut
    go_upto_block 2 with fail
    go_cut [6] (fun s wx => w = wx ∧ ∃ m : Int, 1 ≤ m ∧ m ≤ 12 ∧ befM y m ≤ t / 86400 ∧ t / 86400 < befM y (m + 1) ∧ s = .int .i64 m)
    case first =>
      go_wp2_with fail
      go_loop [6] (fun a => ∃ m : Int, 1 ≤ m ∧ m ≤ 12 ∧ befM y m ≤ t / 86400 ∧ a = .int .i64 m) (fun a => (12 - intOf a).toNat)
      case atStart => exact ⟨1, by omega, by omega, hm0, rfl⟩
      case round =>
        clear hm0
        obtain ⟨m, hm1, hm2, hm3, rfl⟩ := hrel
        have hml := mlen_bd y m
        have hcb := befM_bd y m (by omega) (by omega) (by omega) (by omega)
        have hcb' := befM_bd y (m + 1) (by omega) (by omega) (by omega) (by omega)
        by_cases hlt : m < 12 ∧ befM y (m + 1) ≤ t / 86400
        · obtain ⟨hm4, hm5⟩ := hlt
          go_wp2_with fail
          refine (rdays_first y (m + 1) _ (by omega) (by omega) (by omega) (by omega)).mono ?_
          rintro e w' ⟨rfl, rfl⟩
          go_wp2_with fail
          go_round
          case rel => exact ⟨m + 1, by omega, by omega, hm5, rfl⟩
          case measure => simp [intOf]; omega
        · have hdm : t / 86400 < befM y (m + 1) := by
            by_cases e : m = 12
            · subst e; exact hD
            · omega
          have hcase2 : m < 12 ∧ ¬ befM y (m + 1) ≤ t / 86400 ∨ ¬ m < 12 := by omega
          clear hlt
          rcases hcase2 with ⟨p1, p2⟩ | p1
          all_goals
            go_wp2_with fail
            first | (have _hr : m + 1 ≤ 12 := (by omega); refine (rdays_first y (m + 1) _ (by omega) (by omega) (by omega) (by omega)).mono ?_; rintro e w' ⟨rfl, rfl⟩; go_wp2_with fail) | skip
            go_meet
            exact ⟨rfl, m, hm1, hm2, hm3, hdm, rfl⟩
    case rest =>
      obtain ⟨rfl, m, hm1, hm2, hm3, hm4, rfl⟩ := hcut
      clear hm0 hD
      have hcb := befM_bd y m (by omega) (by omega) (by omega) (by omega)
      have hml := mlen_bd y m
      have hst := befM_succ y m hm1
      obtain ⟨d, hdd⟩ : ∃ d, d = t / 86400 - befM y m + 1 := ⟨_, rfl⟩
      have hd1 : 1 ≤ d := by omega
      have hdm : d ≤ mlen y m := by omega
      have FD := Lib.hid (rfin_day (t := t) hy1 hy2 hm1 hm2 hdd hd1 hdm)
      have HD := Lib.hid hdd
      clear hst hdd hm4 hm3
      go_wp2_with fail
      refine (rdays_first y m _ (by omega) (by omega) (by omega) (by omega)).mono ?_
      rintro e w' ⟨rfl, rfl⟩
      rw [show Ending.returned (Value.int .i64 (befM y m)) = Ending.returned (Value.int .i64 (t / 86400 + 1 - d)) by rw [show befM y m = t / 86400 + 1 - d by have := HD.out; omega]]
      clear hcb
      go_wp2_with fail
      rw [show t / 86400 - (t / 86400 + 1 - d) + 1 = d from by omega]
      have hl : ∀ k, (twoL k).length = 2 := fun _ => rfl
      have hz2 : (Lib.itoa y).length = 4 := itoa_four y hy1 hy2
      generalize hn : t / 86400 = n
      generalize hr : t % 86400 = r
      have hn0 : 0 ≤ n := by omega
      have hr0 : 0 ≤ r := by omega
      have hr1 : r < 86400 := by omega
      have HN := Lib.hid hn
      have HR := Lib.hid hr
      clear hn hr
      obtain ⟨k, hk⟩ : ∃ k, n.tmod 7 = k := ⟨_, rfl⟩
      obtain ⟨hh, hhh⟩ : ∃ x, IntKind.i64.wrap (r.tdiv 3600) = x := ⟨_, rfl⟩
      obtain ⟨q, hq⟩ : ∃ x, IntKind.i64.wrap (r.tdiv 60) = x := ⟨_, rfl⟩
      obtain ⟨mm, hmm⟩ : ∃ x, q.tmod 60 = x := ⟨_, rfl⟩
      obtain ⟨ss, hss⟩ : ∃ x, r.tmod 60 = x := ⟨_, rfl⟩
      have ek : k = n % 7 := by rw [← hk, Int.tmod_eq_emod_of_nonneg hn0]
      have eh : hh = r / 3600 := by rw [← hhh, Int.tdiv_eq_ediv_of_nonneg hr0]; exact IntWalk.i64_in _ (by omega)
      have eq : q = r / 60 := by rw [← hq, Int.tdiv_eq_ediv_of_nonneg hr0]; exact IntWalk.i64_in _ (by omega)
      have em : mm = r / 60 % 60 := by rw [← hmm, Int.tmod_eq_emod_of_nonneg (by omega), eq]
      have es : ss = r % 60 := by rw [← hss, Int.tmod_eq_emod_of_nonneg hr0]
      have bk : 0 ≤ k ∧ k < 7 := by omega
      have bh : 0 ≤ hh ∧ hh < 100 := by omega
      have bm : 0 ≤ mm ∧ mm < 100 := by omega
      have bs_ : 0 ≤ ss ∧ ss < 100 := by omega
      have EK := Lib.hid ek
      have EH := Lib.hid eh
      have EM := Lib.hid em
      have ES := Lib.hid es
      clear ek eh eq em es
      have w1 : IntKind.i64.wrap (3 * k) = 3 * k := IntWalk.i64_in _ (by omega)
      have w2 : IntKind.i64.wrap (3 * k + 3) = 3 * k + 3 := IntWalk.i64_in _ (by omega)
      have w3 : IntKind.i64.wrap (3 * m) = 3 * m := IntWalk.i64_in _ (by omega)
      have w4 : IntKind.i64.wrap (3 * m - 3) = 3 * m - 3 := IntWalk.i64_in _ (by omega)
      obtain ⟨wd, HW⟩ : ∃ wd, Hid (wd = wdayS ((k + 3) % 7).toNat) := ⟨_, Lib.hid rfl⟩
      obtain ⟨mo, HM⟩ : ∃ mo, Hid (mo = monthS (m - 1).toNat) := ⟨_, Lib.hid rfl⟩
      have c1 := fun wx => run_wdaysT k bk.1 bk.2 wx
      have c2 := fun wx => run_monthsT m hm1 hm2 wx
      rw [← HW.out] at c1
      rw [← HM.out] at c2
      have z1 : wd.size = 3 := by rw [HW.out, wday_size _ (by omega)]
      have z2 : mo.size = 3 := by rw [HM.out, month_size _ (by omega)]
      go_region_held3 (fun w' => Below w.heap.size w w') (first | assumption | exact (Below.refl _ _).drew | (exact below_step (by assumption) hb)) (first | (go_at_call 17; refine (two_any _ _ (by omega) (by omega)).mono ?_; rintro e w' ⟨rfl, hb⟩) | (go_at_call 18; refine (rdecimal_any _ _ (by omega) (by omega)).mono ?_; rintro e w' ⟨rfl, hb⟩))
      have hbw : Below w.heap.size w w' := by assumption
      go_wp2_with fail
      go_ret
      exact ⟨y, m, d, FD.out, congrArg (fun b => Ending.returned (Value.string b)) (fmt_text (t / 86400) y m d (t % 86400) _ _ _ _ _ _ (HW.out.trans (by rw [EK.out, ← HN.out, Int.emod_add_emod])) HM.out rfl (by rw [EH.out, ← HR.out]) (by rw [EM.out, ← HR.out]) (by rw [ES.out, ← HR.out])), hbw⟩
end Go.Proofs.YtijifhkadkefaaaDoor
