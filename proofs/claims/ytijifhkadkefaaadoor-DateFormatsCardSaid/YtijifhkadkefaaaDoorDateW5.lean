/- The walk of date.Format (20.3). -/
import Derived.Test.YtijifhkadkefaaaDoorDateE
import Derived.Test.YtijifhkadkefaaaDoorDateW2
namespace Go.Proofs.YtijifhkadkefaaaDoor
open Go.RowKit

theorem days_first (y : Int) (w : World) (h0 : 1970 ≤ y) (h1 : y ≤ 9999) :
    Calls Tryd.prog 10 #[.int .i64 y, .int .i64 1, .int .i64 1] w fun e w' => e = .returned (.int .i64 (bef y - 719162)) ∧ w = w' := by
  have hb := mlen_bd y 1
  have e : days y 1 1 = bef y - 719162 := by
    rw [days_valid ⟨h0, h1, by omega, by omega, by omega, by omega⟩, bef_1970]
    show bef y - 719162 + 1 - 1 + 0 = _
    omega
  rw [← e]; exact days_any y 1 1 w
theorem wday_int (i : Int) (w : World) (h0 : 0 ≤ i) (h1 : i < 7) :
    Calls Tryd.prog 12 #[.int .i64 i] w fun e w' => e = .returned (.string (wdayS i.toNat)) ∧ w = w' := by
  obtain ⟨k, rfl⟩ := Int.eq_ofNat_of_zero_le h0
  exact wday_any k w (by omega)
theorem month_int (i : Int) (w : World) (h0 : 0 ≤ i) (h1 : i < 12) :
    Calls Tryd.prog 14 #[.int .i64 i] w fun e w' => e = .returned (.string (monthS i.toNat)) ∧ w = w' := by
  obtain ⟨k, rfl⟩ := Int.eq_ofNat_of_zero_le h0
  exact month_any k w (by omega)
/-- Two digits come back; which ones is said aside. -/
def TwoOf (i : Int) (w : World) (e : Ending) (w' : World) : Prop := ∃ l : List UInt8, l.length ≤ 2 ∧ Hid (l = twoL i.toNat) ∧ e = .returned (.string ⟨l.toArray⟩) ∧ Below w.heap.size w w'
theorem pad_int (i : Int) (w : World) (h0 : 0 ≤ i) (h1 : i < 100) (htab : PowTab w) :
    Calls Tryd.prog 13 #[.int .i64 i] w (TwoOf i w) := by
  obtain ⟨k, rfl⟩ := Int.eq_ofNat_of_zero_le h0
  exact (pad_any k w (by omega) htab).mono fun e w' ⟨he, hb⟩ => ⟨_, Nat.le_refl _, Lib.hid rfl, he, hb⟩
theorem wday_size (k : Nat) (h : k < 7) : (wdayS k).size = 3 := by
  obtain ⟨a, b, c, e⟩ := three_wday k h
  rw [← bs_length, e]; rfl
theorem month_size (k : Nat) (h : k < 12) : (monthS k).size = 3 := by
  obtain ⟨a, b, c, e⟩ := three_month k h
  rw [← bs_length, e]; rfl
theorem fmt_text (n y m d r : Int) (a b : ByteArray) (l1 l2 l3 l4 : List UInt8) (ha : a = wdayS ((n + 3) % 7).toNat) (hb : b = monthS (m - 1).toNat) (h1 : l1 = twoL d.toNat) (h2 : l2 = twoL (r / 3600).toNat) (h3 : l3 = twoL (r / 60 % 60).toNat) (h4 : l4 = twoL (r % 60).toNat) :
    a ++ ⟨#[44, 32]⟩ ++ ⟨l1.toArray⟩ ++ ⟨#[32]⟩ ++ b ++ ⟨#[32]⟩ ++ ⟨(Lib.itoa y).toArray⟩ ++ ⟨#[32]⟩ ++ ⟨l2.toArray⟩ ++ ⟨#[58]⟩ ++ ⟨l3.toArray⟩ ++ ⟨#[58]⟩ ++ ⟨l4.toArray⟩ ++ ⟨#[32, 71, 77, 84]⟩ = (⟨(fmtL n y m d r).toArray⟩ : ByteArray) := by
  subst ha hb h1 h2 h3 h4
  apply ByteArray.ext
  simp [fmtL, bs]
/-- The text of the day and time of a second. -/
def FmtOf (t : Int) (w : World) (e : Ending) (w' : World) : Prop := ∃ y m d, IsDay (t / 86400) y m d ∧ e = .returned (.string ⟨(fmtL (t / 86400) y m d (t % 86400)).toArray⟩) ∧ Below w.heap.size w w'
theorem bef_guess (k : Int) (h : 0 ≤ k) : bef (1970 + k / 366) ≤ k + 719162 := by unfold bef; omega
theorem format_no (t : Int) (w : World) (h : t < 0 ∨ 253402300799 < t) :
    Calls Tryd.prog 6 #[.int .i64 t] w fun e w' => e = .returned (.string ⟨#[]⟩) ∧ Below w.heap.size w w' := by
  rcases h with h | h
  · go_enter Tryd.func6, Tryd.ntmps6
    go_wp2_with fail
    go_ret
    exact ⟨rfl, Below.refl _ _⟩
  · have h' : ¬ t < 0 := by omega
    go_enter Tryd.func6, Tryd.ntmps6
    go_wp2_with fail
    go_ret
    exact ⟨rfl, Below.refl _ _⟩
theorem fin_day {t y m d : Int} (h1 : 1970 ≤ y) (h2 : y ≤ 9999) (h3 : 1 ≤ m) (h4 : m ≤ 12) (h5 : 1 ≤ d) (h6 : d ≤ mlen y m) (h : d + cumN y (m - 1).toNat = t / 86400 - (bef y - 719162) + 1) : IsDay (t / 86400) y m d :=
  ⟨⟨h1, h2, h3, h4, h5, h6⟩, by rw [bef_1970]; omega⟩
set_option maxHeartbeats 2000000 in
theorem format_yes (t : Int) (w : World) (h0 : 0 ≤ t) (h1 : t ≤ 253402300799) (htab : PowTab w) :
    Calls Tryd.prog 6 #[.int .i64 t] w (FmtOf t w) := by
  have HT := Lib.hid htab
  clear htab
  have g0 := bef_guess (t / 86400) (by omega)
  have n0 : ¬ t < 0 := by omega
  have n1 : ¬ 253402300799 < t := by omega
  go_enter Tryd.func6, Tryd.ntmps6
  go_wp2_with fail
  go_loop [5] (fun s => ∃ y : Int, 1970 ≤ y ∧ y ≤ 9999 ∧ bef y ≤ t / 86400 + 719162 ∧ s = .int .i64 y) (fun s => (9999 - intOf s).toNat)
  case atStart => exact ⟨_, by omega, by omega, g0, rfl⟩
  case round =>
    obtain ⟨y, hy1, hy2, hy3, rfl⟩ := hrel
    have hbb := bef_bd y hy1 (by omega)
    by_cases hc : y < 9999 ∧ bef (y + 1) - 719162 ≤ t / 86400
    · obtain ⟨hlt, hd⟩ := hc
      have hbb1 := bef_bd (y + 1) (by omega) (by omega)
      go_wp2_with fail
      refine (days_first _ _ (by omega) (by omega)).mono ?_
      rintro e w' ⟨rfl, rfl⟩
      go_wp2_with fail
      go_round
      case rel => exact ⟨y + 1, by omega, by omega, by omega, rfl⟩
      case measure => simp [intOf]; omega
    · have hz : t / 86400 + 719162 < bef (y + 1) := by
        by_cases e : y = 9999
        · subst e
          show _ < bef 10000
          have : bef 10000 = 3652059 := by decide
          omega
        · omega
      have hs := bef_succ y
      have hl12 := cum_12 y
      have hcase : y < 9999 ∧ ¬ bef (y + 1) - 719162 ≤ t / 86400 ∨ ¬ y < 9999 := by omega
      have hD : t / 86400 - (bef y - 719162) + 1 ≤ cumN y 12 := by rw [hl12]; omega
      clear hc g0 hs hl12 hz
      have hfirst : ∀ w1 : World, Calls Tryd.prog 10 #[.int .i64 y, .int .i64 1, .int .i64 1] w1 fun e w' => e = .returned (.int .i64 (bef y - 719162)) ∧ w1 = w' := fun w1 => days_first y w1 hy1 hy2
      have HF := Lib.hid hfirst
      clear hfirst
      rcases hcase with ⟨q1, q2⟩ | q1
      all_goals
        have hbb1 := bef_bd (y + 1) (by omega) (by omega)
        go_wp2_with fail
        first | (have _hq : y + 1 ≤ 9999 := (by omega); refine (days_first (y + 1) _ (by omega) (by omega)).mono ?_; rintro e w' ⟨rfl, rfl⟩; go_wp2_with fail) | skip
        refine (HF.out _).mono ?_
        rintro e w' ⟨rfl, rfl⟩
        go_wp2_with fail
        go_loop [6, 7] (fun a b => ∃ m d : Int, 1 ≤ m ∧ m ≤ 12 ∧ 1 ≤ d ∧ d + cumN y (m - 1).toNat = t / 86400 - (bef y - 719162) + 1 ∧ a = .int .i64 m ∧ b = .int .i64 d) (fun a _ => (12 - intOf a).toNat)
        case atStart => exact ⟨1, t / 86400 - (bef y - 719162) + 1, by omega, by omega, by omega, by show _ + 0 = _; omega, rfl, rfl⟩
        case round =>
          obtain ⟨m, d, hm1, hm2, hd1, hd2, rfl, rfl⟩ := hrel
          have hml := mlen_bd y m
          have hcb := cumN_bd y (m - 1).toNat
          have hst : cumN y m.toNat = cumN y (m - 1).toNat + mlen y m := by
            rw [show m.toNat = (m - 1).toNat + 1 from by omega, cumN, show (((m - 1).toNat : Int) + 1) = m from by omega]
          have hdb : d ≤ 373 := by have := cumN_bd y 12; omega
          by_cases hlt : mlen y m < d
          · have hm3 : m < 12 := by
              rcases Int.lt_or_le m 12 with h | h
              · exact h
              · obtain rfl : m = 12 := by omega
                exfalso
                rw [show ((12 : Int)).toNat = 12 from rfl] at hst
                omega
            have Hd := Lib.hid hd2
            have Hst := Lib.hid hst
            clear hd2 hst
            go_wp2_with fail
            refine (length_any _ _ _ (by omega) (by omega) (by omega) (by omega)).mono ?_
            rintro e w' ⟨rfl, rfl⟩
            go_wp2_with fail
            refine (length_any _ _ _ (by omega) (by omega) (by omega) (by omega)).mono ?_
            rintro e w' ⟨rfl, rfl⟩
            go_wp2_with fail
            go_round
            case rel => exact ⟨m + 1, d - mlen y m, by omega, by omega, by omega, by have h1 := Hd.out; have h2 := Hst.out; rw [show (m + 1 - 1).toNat = m.toNat from by omega, h2]; omega, rfl, rfl⟩
            case measure => simp [intOf]; omega
          · have FD := Lib.hid (fin_day (t := t) hy1 hy2 hm1 hm2 hd1 (by omega) hd2)
            clear hd2 hst
            go_wp2_with fail
            refine (length_any _ _ _ (by omega) (by omega) (by omega) (by omega)).mono ?_
            rintro e w' ⟨rfl, rfl⟩
            go_wp2_with fail
            have hw0 : 0 ≤ (t / 86400 + 3) % 7 := by omega
            refine (wday_int _ _ (by omega) (by omega)).mono ?_
            rintro e w' ⟨rfl, rfl⟩
            obtain ⟨wd, HW⟩ : ∃ wd, Hid (wd = wdayS ((t / 86400 + 3) % 7).toNat) := ⟨_, Lib.hid rfl⟩
            rw [← HW.out]
            have hwz : wd.size ≤ 3 := by rw [HW.out, wday_size _ (by omega)]; omega
            go_wp2_with fail
            refine (pad_int _ _ (by omega) (by omega) HT.out).mono ?_
            rintro e w1 ⟨s1, hz1, S1, rfl, hb1⟩
            have hm0 : 0 ≤ m - 1 := by omega
            go_wp2_with fail
            refine (month_int _ _ (by omega) (by omega)).mono ?_
            rintro e w' ⟨rfl, rfl⟩
            obtain ⟨mo, HM⟩ : ∃ mo, Hid (mo = monthS (m - 1).toNat) := ⟨_, Lib.hid rfl⟩
            rw [← HM.out]
            have hmz : mo.size ≤ 3 := by rw [HM.out, month_size _ (by omega)]; omega
            go_wp2_with fail
            have T1 := Lib.hid (HT.out.below hb1)
            refine (itoa_any _ _ (by omega) (by omega) T1.out).mono ?_
            rintro e w2 ⟨rfl, hb2⟩
            have T2 := Lib.hid (T1.out.below hb2)
            have b2 := below_step hb1 hb2
            have hz2 : (Lib.itoa y).length ≤ 21 := Lib.itoa_length_le _ (by omega) (by omega)
            clear hb1 hb2
            go_wp2_with fail
            refine (pad_int _ _ (by omega) (by omega) T2.out).mono ?_
            rintro e w3 ⟨s3, hz3, S3, rfl, hb3⟩
            have T3 := Lib.hid (T2.out.below hb3)
            have b3 := below_step b2 hb3
            clear b2 hb3
            go_wp2_with fail
            refine (pad_int _ _ (by omega) (by omega) T3.out).mono ?_
            rintro e w4 ⟨s4, hz4, S4, rfl, hb4⟩
            have T4 := Lib.hid (T3.out.below hb4)
            have b4 := below_step b3 hb4
            clear b3 hb4
            go_wp2_with fail
            refine (pad_int _ _ (by omega) (by omega) T4.out).mono ?_
            rintro e w5 ⟨s5, hz5, S5, rfl, hb5⟩
            have b5 := below_step b4 hb5
            clear b4 hb5
            go_wp2_with fail
            go_ret
            exact ⟨y, m, d, FD.out, congrArg (fun b => Ending.returned (Value.string b)) (fmt_text (t / 86400) y m d (t % 86400) _ _ _ _ _ _ HW.out HM.out S1.out (S3.out.trans (by first | rfl | (congr 2; omega))) (S4.out.trans (by first | rfl | (congr 2; omega))) (S5.out.trans (by first | rfl | (congr 2; omega)))), b5⟩
end Go.Proofs.YtijifhkadkefaaaDoor
