/- The calendar in plain terms: leap years, months, day numbers; no program in sight. -/
import Derived.WalkKit
namespace Go.Proofs.YtglckhljpjcmaaaGreatDoor

def leapB (y : Int) : Bool := (y % 4 == 0) && ((y % 100 != 0) || (y % 400 == 0))
def mlen (y m : Int) : Int := if m = 2 then (if leapB y then 29 else 28) else if m = 4 ∨ m = 6 ∨ m = 9 ∨ m = 11 then 30 else 31
def bef (y : Int) : Int := 365 * (y - 1) + (y - 1) / 4 - (y - 1) / 100 + (y - 1) / 400
def cumN (y : Int) : Nat → Int
  | 0 => 0
  | k + 1 => cumN y k + mlen y (k + 1)
def validB (y m d : Int) : Bool := decide (1970 ≤ y) && (decide (y ≤ 9999) && (decide (1 ≤ m) && (decide (m ≤ 12) && (decide (1 ≤ d) && decide (d ≤ mlen y m)))))
def days (y m d : Int) : Int := if validB y m d then bef y - bef 1970 + d - 1 + cumN y (m - 1).toNat else -1

theorem validB_iff {y m d : Int} : validB y m d = true ↔ 1970 ≤ y ∧ y ≤ 9999 ∧ 1 ≤ m ∧ m ≤ 12 ∧ 1 ≤ d ∧ d ≤ mlen y m := by
  simp [validB]
theorem validB_false {y m d : Int} (h : ¬ (1970 ≤ y ∧ y ≤ 9999 ∧ 1 ≤ m ∧ m ≤ 12 ∧ 1 ≤ d ∧ d ≤ mlen y m)) : days y m d = -1 := by
  unfold days; rw [if_neg]; rw [validB_iff]; exact h
theorem days_valid {y m d : Int} (h : 1970 ≤ y ∧ y ≤ 9999 ∧ 1 ≤ m ∧ m ≤ 12 ∧ 1 ≤ d ∧ d ≤ mlen y m) : days y m d = bef y - bef 1970 + d - 1 + cumN y (m - 1).toNat := by
  unfold days; rw [if_pos (validB_iff.2 h)]
theorem mlen_bd (y m : Int) : 28 ≤ mlen y m ∧ mlen y m ≤ 31 := by
  unfold mlen; split <;> (try split) <;> omega
theorem cumN_bd (y : Int) (k : Nat) : 0 ≤ cumN y k ∧ cumN y k ≤ 31 * k := by
  induction k with
  | zero => simp [cumN]
  | succ k ih => have := mlen_bd y (k + 1); simp only [cumN]; omega
theorem leap_cases (y : Int) : (leapB y = true ∧ (y % 4 = 0 ∧ (y % 100 ≠ 0 ∨ y % 400 = 0))) ∨ (leapB y = false ∧ ¬ (y % 4 = 0 ∧ (y % 100 ≠ 0 ∨ y % 400 = 0))) := by
  by_cases h : y % 4 = 0 ∧ (y % 100 ≠ 0 ∨ y % 400 = 0)
  · exact .inl ⟨by simp [leapB, h.1, h.2], h⟩
  · refine .inr ⟨?_, h⟩
    cases e : leapB y with
    | false => rfl
    | true => exfalso; apply h; simpa [leapB] using e
theorem bef_succ (y : Int) : bef (y + 1) = bef y + 365 + (if leapB y then 1 else 0) := by
  rcases leap_cases y with ⟨h, h'⟩ | ⟨h, h'⟩ <;> simp only [h, if_true, if_false, bef, Bool.false_eq_true] <;> omega
theorem bef_bd (y : Int) (h : 1970 ≤ y) (h' : y ≤ 10000) : 719162 ≤ bef y ∧ bef y ≤ 3652060 := by unfold bef; omega
theorem bef_1970 : bef 1970 = 719162 := by decide
theorem cum_12 (y : Int) : cumN y 12 = 365 + (if leapB y then 1 else 0) := by
  simp only [cumN, mlen]
  rcases leap_cases y with ⟨h, _⟩ | ⟨h, _⟩ <;> simp [h]

/-- The day after an existing one has the next number. -/
theorem days_next {y m d : Int} (h : ¬ days y m d < 0) :
    (days y m (d + 1) = days y m d + 1) ∨
    (days y m (d + 1) = -1 ∧ m < 12 ∧ days y (m + 1) 1 = days y m d + 1) ∨
    (days y m (d + 1) = -1 ∧ ¬ m < 12 ∧ days (y + 1) 1 1 = days y m d + 1) ∨
    (days y m (d + 1) = -1 ∧ days (y + 1) 1 1 = -1 ∧ y = 9999 ∧ m = 12 ∧ d = 31) := by
  by_cases hv : 1970 ≤ y ∧ y ≤ 9999 ∧ 1 ≤ m ∧ m ≤ 12 ∧ 1 ≤ d ∧ d ≤ mlen y m
  · obtain ⟨h1, h2, h3, h4, h5, h6⟩ := hv
    have hb := mlen_bd y m
    by_cases hd : d + 1 ≤ mlen y m
    · left
      rw [days_valid ⟨h1, h2, h3, h4, by omega, hd⟩, days_valid ⟨h1, h2, h3, h4, h5, h6⟩]; omega
    · have e1 : days y m (d + 1) = -1 := validB_false (by omega)
      right
      by_cases hm : m < 12
      · left
        refine ⟨e1, hm, ?_⟩
        have hb1 := mlen_bd y (m + 1)
        rw [days_valid ⟨h1, h2, by omega, by omega, by omega, by omega⟩, days_valid ⟨h1, h2, h3, h4, h5, h6⟩]
        have e2 : (m + 1 - 1).toNat = (m - 1).toNat + 1 := by omega
        rw [e2, cumN]
        have e3 : (((m - 1).toNat : Int) + 1) = m := by omega
        rw [e3]; omega
      · right
        obtain rfl : m = 12 := by omega
        by_cases hy : y = 9999
        · right
          subst hy
          refine ⟨e1, validB_false (by omega), rfl, rfl, ?_⟩
          have : mlen 9999 12 = 31 := by decide
          omega
        · left
          refine ⟨e1, by omega, ?_⟩
          have hb1 := mlen_bd (y + 1) 1
          rw [days_valid ⟨by omega, by omega, by omega, by omega, by omega, by omega⟩, days_valid ⟨h1, h2, h3, h4, h5, h6⟩, bef_succ]
          have e4 : mlen y 12 = 31 := by simp [mlen]
          have e5 := cum_12 y
          simp only [cumN] at e5
          have e6 : ((1 : Int) - 1).toNat = 0 := rfl
          have e7 : ((12 : Int) - 1).toNat = 11 := rfl
          rw [e6, e7]
          simp only [cumN]
          have e8 : mlen y (((11 : Nat) : Int) + 1) = 31 := by simp [mlen]
          simp only [mlen] at e5 e8 ⊢
          omega
  · exact absurd (by rw [validB_false hv]; omega) h
end Go.Proofs.YtglckhljpjcmaaaGreatDoor
