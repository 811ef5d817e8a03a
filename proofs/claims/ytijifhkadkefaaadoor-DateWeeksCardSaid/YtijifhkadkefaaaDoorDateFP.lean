/- The text of a date in plain terms: two digits, the day of a number, one text for one number. No program in sight. -/
import Derived.Test.YtijifhkadkefaaaDoorDateQ
import Derived.Lib.ItoaNum
import Derived.Lib.ItoaMem
namespace Go.Proofs.YtijifhkadkefaaaDoor

def digD (n : Nat) : UInt8 := UInt8.ofNat (48 + n % 10)
def twoL (n : Nat) : List UInt8 := [digD (n / 10), digD n]
theorem decDigits_two (n : Nat) (h : n < 100) : (if n < 10 then 48 :: Lib.decDigits n else Lib.decDigits n) = twoL n := by
  by_cases h1 : n < 10
  · rw [if_pos h1, Lib.decDigits_one h1]
    simp only [twoL, digD, show n / 10 = 0 from by omega, show n % 10 = n from by omega]; rfl
  · rw [if_neg h1, Lib.decDigits_two h1 h]
    simp only [twoL, digD, show n / 10 % 10 = n / 10 from by omega]
theorem decDigits_hundred (n : Nat) (h : n < 100) : Lib.decDigits (100 + n) = 49 :: twoL n := by
  rw [Lib.decDigits, dif_neg (by omega), Lib.decDigits_two (by omega) (by omega)]
  simp only [twoL, digD, show (100 + n) / 10 / 10 = 1 from by omega, show (100 + n) / 10 % 10 = n / 10 % 10 from by omega, show (100 + n) % 10 = n % 10 from by omega]; rfl
/-- y, m, d is the day number n. -/
def IsDay (n y m d : Int) : Prop := (1970 ≤ y ∧ y ≤ 9999 ∧ 1 ≤ m ∧ m ≤ 12 ∧ 1 ≤ d ∧ d ≤ mlen y m) ∧ bef y - bef 1970 + d - 1 + cumN y (m - 1).toNat = n
theorem bef_mono {a b : Int} (h : a ≤ b) : bef a ≤ bef b := by unfold bef; omega
theorem cumN_step (y : Int) {a b : Nat} (h : a < b) : cumN y a + mlen y (a + 1) ≤ cumN y b := by
  induction b with
  | zero => omega
  | succ b ih =>
    by_cases e : a = b
    · subst e; simp [cumN]
    · have := ih (by omega)
      have := mlen_bd y (b + 1)
      simp only [cumN]; omega
theorem cumN_year (y : Int) {k : Nat} (h : k < 12) : cumN y k + mlen y (k + 1) ≤ 365 + (if leapB y then 1 else 0) := by
  rw [← cum_12]; exact cumN_step y h
theorem IsDay.year {n y m d : Int} (h : IsDay n y m d) : bef y ≤ n + bef 1970 ∧ n + bef 1970 < bef (y + 1) := by
  obtain ⟨⟨h1, h2, h3, h4, h5, h6⟩, he⟩ := h
  have hc := cumN_bd y (m - 1).toNat
  have hy := cumN_year y (k := (m - 1).toNat) (by omega)
  have e : (((m - 1).toNat : Int) + 1) = m := by omega
  rw [e] at hy
  rw [bef_succ]; omega
theorem IsDay.unique {n y m d y' m' d' : Int} (h : IsDay n y m d) (h' : IsDay n y' m' d') : y = y' ∧ m = m' ∧ d = d' := by
  have a := h.year
  have a' := h'.year
  have ey : y = y' := by
    rcases Int.lt_trichotomy y y' with hl | he | hg
    · have := bef_mono (show y + 1 ≤ y' by omega); omega
    · exact he
    · have := bef_mono (show y' + 1 ≤ y by omega); omega
  subst ey
  obtain ⟨⟨h1, h2, h3, h4, h5, h6⟩, he⟩ := h
  obtain ⟨⟨_, _, k3, k4, k5, k6⟩, ke⟩ := h'
  have em : m = m' := by
    rcases Int.lt_trichotomy m m' with hl | he | hg
    · have := cumN_step y (a := (m - 1).toNat) (b := (m' - 1).toNat) (by omega)
      rw [show (((m - 1).toNat : Int) + 1) = m from by omega] at this; omega
    · exact he
    · have := cumN_step y (a := (m' - 1).toNat) (b := (m - 1).toNat) (by omega)
      rw [show (((m' - 1).toNat : Int) + 1) = m' from by omega] at this; omega
  subst em
  exact ⟨rfl, rfl, by omega⟩
/-- The text of day n, given as y, m, d, at second r of the day. -/
def fmtL (n y m d r : Int) : List UInt8 :=
  bs (wdayS ((n + 3) % 7).toNat) ++ [44, 32] ++ twoL d.toNat ++ [32] ++ bs (monthS (m - 1).toNat) ++ [32] ++ Lib.itoa y ++ [32] ++ twoL (r / 3600).toNat ++ [58] ++ twoL (r / 60 % 60).toNat ++ [58] ++ twoL (r % 60).toNat ++ [32, 71, 77, 84]

/- What is written is read back. -/
def yearL (n : Nat) : List UInt8 := [digD (n / 1000), digD (n / 100), digD (n / 10), digD n]
theorem decDigits_year (n : Nat) (h1 : 1000 ≤ n) (h2 : n < 10000) : Lib.decDigits n = yearL n := by
  rw [Lib.decDigits, dif_neg (by omega), Lib.decDigits, dif_neg (by omega), Lib.decDigits_two (by omega) (by omega)]
  simp only [yearL, digD, show n / 10 / 10 / 10 = n / 1000 % 10 from by omega, show n / 10 / 10 % 10 = n / 100 % 10 from by omega]
  rfl
theorem digD_nat (x : Nat) : (digD x).toNat = 48 + x % 10 := by simp [digD]; omega
theorem numGo_digD (x : Nat) (t : List UInt8) (a : Int) : numGo (digD x :: t) a = numGo t (min (10 * a + ((x % 10 : Nat) : Int)) 2147483647) := by
  have h := digD_nat x
  rw [numGo, if_pos (digB_true (by omega)), h]
  congr 2; omega
theorem two_num (n : Nat) (h : n < 100) : numGo (twoL n) 0 = some (n : Int) := by
  unfold twoL
  rw [numGo_digD, numGo_digD, numGo]
  congr 1; omega
theorem year_num (n : Nat) (h : n < 10000) : numGo (yearL n) 0 = some (n : Int) := by
  unfold yearL
  rw [numGo_digD, numGo_digD, numGo_digD, numGo_digD, numGo]
  congr 1; omega
theorem three_wday : ∀ k : Nat, k < 7 → ∃ a b c, bs (wdayS k) = [a, b, c]
  | 0, _ | 1, _ | 2, _ | 3, _ | 4, _ | 5, _ | 6, _ => ⟨_, _, _, rfl⟩
theorem three_month : ∀ k : Nat, k < 12 → ∃ a b c, bs (monthS k) = [a, b, c]
  | 0, _ | 1, _ | 2, _ | 3, _ | 4, _ | 5, _ | 6, _ | 7, _ | 8, _ | 9, _ | 10, _ | 11, _ => ⟨_, _, _, rfl⟩
/-- The text of a day and a second, sign by sign. -/
def litL (a b c e f g : UInt8) (d y hh mm ss : Nat) : List UInt8 :=
  [a, b, c, 44, 32, digD (d / 10), digD d, 32, e, f, g, 32, digD (y / 1000), digD (y / 100), digD (y / 10), digD y, 32, digD (hh / 10), digD hh, 58, digD (mm / 10), digD mm, 58, digD (ss / 10), digD ss, 32, 71, 77, 84]
theorem fmtL_lit {n y m d r : Int} {a b c e f g : UInt8} (h : IsDay n y m d) (hw : bs (wdayS ((n + 3) % 7).toNat) = [a, b, c]) (hm : bs (monthS (m - 1).toNat) = [e, f, g]) :
    fmtL n y m d r = litL a b c e f g d.toNat y.toNat (r / 3600).toNat (r / 60 % 60).toNat (r % 60).toNat := by
  obtain ⟨⟨h1, h2, _⟩, _⟩ := h
  obtain ⟨Y, rfl⟩ : ∃ Y : Nat, y = (Y : Int) := ⟨y.toNat, by omega⟩
  unfold fmtL
  rw [hw, hm, Lib.itoa_nonneg, decDigits_year Y (by omega) (by omega), Int.toNat_natCast]
  rfl
theorem formB_lit (a b c e f g : UInt8) (d y hh mm ss : Nat) : formB (litL a b c e f g d y hh mm ss) = true := by
  simp [formB, litL, sub]
theorem parse_fmt {t y m d : Int} (h0 : 0 ≤ t) (h : IsDay (t / 86400) y m d) : parseD (fmtL (t / 86400) y m d (t % 86400)) = some t := by
  have hb := mlen_bd y m
  have hv := days_valid h.1
  have hn : days y m d = t / 86400 := by rw [hv]; exact h.2
  have hn0 : 0 ≤ t / 86400 := by omega
  have hw7 : ((t / 86400 + 3) % 7).toNat < 7 := by omega
  have hm12 : (m - 1).toNat < 12 := by have := h.1; omega
  have wk := wday_at _ hw7
  have mk := month_at _ hm12
  obtain ⟨a, b, c, hw⟩ := three_wday _ hw7
  obtain ⟨e, f, g, hm⟩ := three_month _ hm12
  rw [fmtL_lit h hw hm]
  rw [hw] at wk
  rw [hm] at mk
  obtain ⟨⟨h1, h2, h3, h4, h5, h6⟩, _⟩ := h
  unfold parseD
  rw [if_pos (formB_lit _ _ _ _ _ _ _ _ _ _ _)]
  have n1 := two_num d.toNat (by omega)
  have n2 := year_num y.toNat (by omega)
  have n3 := two_num (t % 86400 / 3600).toNat (by omega)
  have n4 := two_num (t % 86400 / 60 % 60).toNat (by omega)
  have n5 := two_num (t % 86400 % 60).toNat (by omega)
  have e1 : numAt (litL a b c e f g d.toNat y.toNat (t % 86400 / 3600).toNat (t % 86400 / 60 % 60).toNat (t % 86400 % 60).toNat) 5 7 = some (d.toNat : Int) := n1
  have e2 : numAt (litL a b c e f g d.toNat y.toNat (t % 86400 / 3600).toNat (t % 86400 / 60 % 60).toNat (t % 86400 % 60).toNat) 12 16 = some (y.toNat : Int) := n2
  have e3 : numAt (litL a b c e f g d.toNat y.toNat (t % 86400 / 3600).toNat (t % 86400 / 60 % 60).toNat (t % 86400 % 60).toNat) 17 19 = some ((t % 86400 / 3600).toNat : Int) := n3
  have e4 : numAt (litL a b c e f g d.toNat y.toNat (t % 86400 / 3600).toNat (t % 86400 / 60 % 60).toNat (t % 86400 % 60).toNat) 20 22 = some ((t % 86400 / 60 % 60).toNat : Int) := n4
  have e5 : numAt (litL a b c e f g d.toNat y.toNat (t % 86400 / 3600).toNat (t % 86400 / 60 % 60).toNat (t % 86400 % 60).toNat) 23 25 = some ((t % 86400 % 60).toNat : Int) := n5
  have e6 : sub (litL a b c e f g d.toNat y.toNat (t % 86400 / 3600).toNat (t % 86400 / 60 % 60).toNat (t % 86400 % 60).toNat) 8 11 = [e, f, g] := rfl
  have e7 : sub (litL a b c e f g d.toNat y.toNat (t % 86400 / 3600).toNat (t % 86400 / 60 % 60).toNat (t % 86400 % 60).toNat) 0 3 = [a, b, c] := rfl
  unfold parts
  rw [e1, e2, e3, e4, e5, e6, e7, wk, mk]
  simp only [secs]
  rw [show (d.toNat : Int) = d from by omega, show (y.toNat : Int) = y from by omega, show (((m - 1).toNat : Int) + 1) = m from by omega, hn, if_neg (by omega)]
  congr 1; omega
/-- Seven days later: the same name of the day, the same time. -/
theorem fmt_week {n y m d y' m' d' r : Int} (h : IsDay n y m d) (h' : IsDay (n + 7) y' m' d') :
    (fmtL n y m d r).length = 29 ∧ (fmtL (n + 7) y' m' d' r).length = 29 ∧ (fmtL n y m d r).take 3 = (fmtL (n + 7) y' m' d' r).take 3 ∧ (fmtL n y m d r).drop 17 = (fmtL (n + 7) y' m' d' r).drop 17 := by
  have hw7 : ((n + 3) % 7).toNat < 7 := by omega
  have ew : ((n + 7 + 3) % 7).toNat = ((n + 3) % 7).toNat := by omega
  obtain ⟨a, b, c, hw⟩ := three_wday _ hw7
  obtain ⟨e, f, g, hm⟩ := three_month (m - 1).toNat (by have := h.1; omega)
  obtain ⟨e', f', g', hm'⟩ := three_month (m' - 1).toNat (by have := h'.1; omega)
  rw [fmtL_lit h hw hm, fmtL_lit h' (by rw [ew]; exact hw) hm']
  exact ⟨rfl, rfl, rfl, rfl⟩
theorem fmt_len {n y m d r : Int} (h : IsDay n y m d) : (fmtL n y m d r).length = 29 := by
  obtain ⟨a, b, c, hw⟩ := three_wday ((n + 3) % 7).toNat (by omega)
  obtain ⟨e, f, g, hm⟩ := three_month (m - 1).toNat (by have := h.1; omega)
  rw [fmtL_lit h hw hm]; rfl
theorem week_text {t y m d y' m' d' : Int} {s1 s2 : ByteArray} (h : IsDay (t / 86400) y m d) (h' : IsDay ((t + 604800) / 86400) y' m' d')
    (h1 : s1 = ⟨(fmtL (t / 86400) y m d (t % 86400)).toArray⟩) (h2 : s2 = ⟨(fmtL ((t + 604800) / 86400) y' m' d' ((t + 604800) % 86400)).toArray⟩) :
    s1.size = 29 ∧ s2.size = 29 ∧ (s1.extract 0 3).toList = (s2.extract 0 3).toList ∧ (s1.extract 17 29).toList = (s2.extract 17 29).toList := by
  rw [show (t + 604800) / 86400 = t / 86400 + 7 from by omega] at h' h2
  rw [show (t + 604800) % 86400 = t % 86400 from by omega] at h2
  obtain ⟨k1, k2, k3, k4⟩ := fmt_week (r := t % 86400) h h'
  have b1 : bs s1 = fmtL (t / 86400) y m d (t % 86400) := by rw [h1]
  have b2 : bs s2 = fmtL (t / 86400 + 7) y' m' d' (t % 86400) := by rw [h2]
  refine ⟨by rw [← bs_length, b1, k1], by rw [← bs_length, b2, k2], ?_, ?_⟩
  · rw [Lib.extract_toList, Lib.extract_toList]
    show sub (bs s1) 0 3 = sub (bs s2) 0 3
    rw [b1, b2]; simpa [sub] using k3
  · rw [Lib.extract_toList, Lib.extract_toList]
    show sub (bs s1) 17 29 = sub (bs s2) 17 29
    rw [b1, b2]
    unfold sub
    rw [k4]
end Go.Proofs.YtijifhkadkefaaaDoor
