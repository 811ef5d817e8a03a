/- HTTP dates in plain terms: the names of days and months, and what the text of a date says. -/
import Derived.Test.YtglckhljpjcmaaaGreatDoorQDateP
import Derived.Test.YtglckhljpjcmaaaGreatDoorQPre
namespace Go.Proofs.YtglckhljpjcmaaaGreatDoor

def months : List ByteArray := [⟨#[74, 97, 110]⟩, ⟨#[70, 101, 98]⟩, ⟨#[77, 97, 114]⟩, ⟨#[65, 112, 114]⟩, ⟨#[77, 97, 121]⟩, ⟨#[74, 117, 110]⟩, ⟨#[74, 117, 108]⟩, ⟨#[65, 117, 103]⟩, ⟨#[83, 101, 112]⟩, ⟨#[79, 99, 116]⟩, ⟨#[78, 111, 118]⟩, ⟨#[68, 101, 99]⟩]
def wdays : List ByteArray := [⟨#[77, 111, 110]⟩, ⟨#[84, 117, 101]⟩, ⟨#[87, 101, 100]⟩, ⟨#[84, 104, 117]⟩, ⟨#[70, 114, 105]⟩, ⟨#[83, 97, 116]⟩, ⟨#[83, 117, 110]⟩]
def monthS (k : Nat) : ByteArray := months.getD k ByteArray.empty
def wdayS (k : Nat) : ByteArray := wdays.getD k ByteArray.empty
/-- The index from k on of the first of fuel names that is s, or -1. -/
def nameFrom (f : Nat → ByteArray) (s : List UInt8) : Nat → Nat → Int
  | 0, _ => -1
  | fuel + 1, k => if (bs (f k) == s) = true then k else nameFrom f s fuel (k + 1)
def sub (l : List UInt8) (i j : Nat) : List UInt8 := (l.drop i).take (j - i)
def formB (l : List UInt8) : Bool :=
  l.length == 29 && (sub l 3 5 == [44, 32] && (l.getD 7 0 == 32 && (l.getD 11 0 == 32 && (l.getD 16 0 == 32 && (l.getD 19 0 == 58 && (l.getD 22 0 == 58 && sub l 25 29 == [32, 71, 77, 84]))))))
def numAt (l : List UInt8) (i j : Nat) : Option Int := numGo (sub l i j) 0
/-- The seconds of the parts of a date, if they are those of a time. -/
def secs (day year hour minute second month wday : Int) : Option Int :=
  let n := days year month day
  if n < 0 ∨ 23 < hour ∨ 59 < minute ∨ 59 < second ∨ wday ≠ (n + 3) % 7 then none else some (n * 86400 + (hour * 3600 + minute * 60 + second))
def parts (l : List UInt8) : Option Int :=
  match numAt l 5 7, numAt l 12 16, numAt l 17 19, numAt l 20 22, numAt l 23 25 with
  | some day, some year, some hour, some minute, some second => secs day year hour minute second (nameFrom monthS (sub l 8 11) 12 0 + 1) (nameFrom wdayS (sub l 0 3) 7 0)
  | _, _, _, _, _ => none
def parseD (l : List UInt8) : Option Int := if formB l then parts l else none
def dateV : Option Int → Value
  | some t => .tuple #[.int .i64 t, .bool true]
  | none => .tuple #[.int .i64 0, .bool false]
theorem sub_extract (s : ByteArray) (i j : Nat) : bs (s.extract i j) = sub (bs s) i j := Lib.extract_data s i j
/-- The form of a date, in the walk's own spelling. -/
def Form (s : ByteArray) : Prop :=
  ∃ h : s.size = 29, (s.extract 3 5).toList = [44, 32] ∧ s[7].toNat = 32 ∧ s[11].toNat = 32 ∧ s[16].toNat = 32 ∧ s[19].toNat = 58 ∧ s[22].toNat = 58 ∧ (s.extract 25 29).toList = [32, 71, 77, 84]
theorem getD_bs (s : ByteArray) {k : Nat} (h : k < s.size) : (bs s).getD k 0 = s[k] := by
  have h' : k < (bs s).length := by rw [bs_length]; exact h
  rw [List.getD_eq_getElem?_getD, List.getElem?_eq_getElem h']; rfl
theorem formB_iff (s : ByteArray) : formB (bs s) = true ↔ Form s := by
  unfold formB Form
  simp only [Bool.and_eq_true, beq_iff_eq, bs_length]
  constructor
  · rintro ⟨h, h1, h2, h3, h4, h5, h6, h7⟩
    have k := h
    refine ⟨h, by rw [Lib.extract_toList]; exact h1, ?_, ?_, ?_, ?_, ?_, by rw [Lib.extract_toList]; exact h7⟩
    · rw [getD_bs s (by omega)] at h2; rw [h2]; rfl
    · rw [getD_bs s (by omega)] at h3; rw [h3]; rfl
    · rw [getD_bs s (by omega)] at h4; rw [h4]; rfl
    · rw [getD_bs s (by omega)] at h5; rw [h5]; rfl
    · rw [getD_bs s (by omega)] at h6; rw [h6]; rfl
  · rintro ⟨h, h1, h2, h3, h4, h5, h6, h7⟩
    refine ⟨h, by rw [Lib.extract_toList] at h1; exact h1, ?_, ?_, ?_, ?_, ?_, by rw [Lib.extract_toList] at h7; exact h7⟩
    · rw [getD_bs s (by omega), ← UInt8.toNat_inj, h2]; rfl
    · rw [getD_bs s (by omega), ← UInt8.toNat_inj, h3]; rfl
    · rw [getD_bs s (by omega), ← UInt8.toNat_inj, h4]; rfl
    · rw [getD_bs s (by omega), ← UInt8.toNat_inj, h5]; rfl
    · rw [getD_bs s (by omega), ← UInt8.toNat_inj, h6]; rfl
theorem days_bd (y m d : Int) : -1 ≤ days y m d ∧ days y m d ≤ 3652060 := by
  by_cases hv : 1970 ≤ y ∧ y ≤ 9999 ∧ 1 ≤ m ∧ m ≤ 12 ∧ 1 ≤ d ∧ d ≤ mlen y m
  · rw [days_valid hv]
    obtain ⟨h1, h2, h3, h4, h5, h6⟩ := hv
    have := bef_bd y h1 (by omega)
    have := cumN_bd y (m - 1).toNat
    have := mlen_bd y m
    rw [bef_1970]; unfold bef at *; omega
  · rw [validB_false hv]; omega
theorem nameFrom_bd (f : Nat → ByteArray) (s : List UInt8) : ∀ fuel k, -1 ≤ nameFrom f s fuel k ∧ nameFrom f s fuel k < fuel + k
  | 0, k => by simp [nameFrom]; omega
  | fuel + 1, k => by
    have := nameFrom_bd f s fuel (k + 1)
    rw [nameFrom]; split <;> omega
theorem nameFrom_hit (f : Nat → ByteArray) (s : List UInt8) : ∀ fuel k (j : Nat), nameFrom f s fuel k = j → bs (f j) = s
  | 0, k, j, h => by rw [nameFrom] at h; omega
  | fuel + 1, k, j, h => by
    rw [nameFrom] at h
    by_cases hc : (bs (f k) == s) = true
    · rw [if_pos hc] at h
      obtain rfl : k = j := by omega
      simpa using hc
    · rw [if_neg hc] at h; exact nameFrom_hit f s fuel (k + 1) j h
theorem month_at : ∀ k : Nat, k < 12 → nameFrom monthS (bs (monthS k)) 12 0 = k := by decide +kernel
theorem wday_at : ∀ k : Nat, k < 7 → nameFrom wdayS (bs (wdayS k)) 7 0 = k := by decide +kernel
theorem month_iff (t : List UInt8) (k : Nat) (hk : k < 12) : (bs (monthS k) == t) = decide (nameFrom monthS t 12 0 = k) := by
  rw [Bool.eq_iff_iff, beq_iff_eq, decide_eq_true_eq]
  exact ⟨fun h => by rw [← h]; exact month_at k hk, fun h => nameFrom_hit _ _ _ _ k h⟩
theorem wday_iff (t : List UInt8) (k : Nat) (hk : k < 7) : (bs (wdayS k) == t) = decide (nameFrom wdayS t 7 0 = k) := by
  rw [Bool.eq_iff_iff, beq_iff_eq, decide_eq_true_eq]
  exact ⟨fun h => by rw [← h]; exact wday_at k hk, fun h => nameFrom_hit _ _ _ _ k h⟩
def monthsT : ByteArray := ⟨#[74, 97, 110, 70, 101, 98, 77, 97, 114, 65, 112, 114, 77, 97, 121, 74, 117, 110, 74, 117, 108, 65, 117, 103, 83, 101, 112, 79, 99, 116, 78, 111, 118, 68, 101, 99]⟩
def wdaysT : ByteArray := ⟨#[84, 104, 117, 70, 114, 105, 83, 97, 116, 83, 117, 110, 77, 111, 110, 84, 117, 101, 87, 101, 100]⟩
theorem monthsT_at : ∀ k : Nat, k < 12 → bs (monthsT.extract (3 * k) (3 * k + 3)) = bs (monthS k) := by decide +kernel
theorem wdaysT_at : ∀ k : Nat, k < 7 → bs (wdaysT.extract (3 * k) (3 * k + 3)) = bs (wdayS ((k + 3) % 7)) := by decide +kernel
theorem awake_parse : parseD [83, 117, 110, 44, 32, 48, 54, 32, 78, 111, 118, 32, 49, 57, 57, 52, 32, 48, 56, 58, 52, 57, 58, 51, 55, 32, 71, 77, 84] = some 784111777 := by decide +kernel
theorem awake_days : days 1970 1 2 = 1 := by decide +kernel
end Go.Proofs.YtglckhljpjcmaaaGreatDoor
