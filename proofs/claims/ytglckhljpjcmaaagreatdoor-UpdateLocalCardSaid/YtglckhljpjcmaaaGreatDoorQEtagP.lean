/- Entity tags: plain laws (layer 21). -/
import Derived.Test.YtglckhljpjcmaaaGreatDoorQPre
namespace Go.Proofs.YtglckhljpjcmaaaGreatDoor
open Go.RowKit

def permC (c : UInt8) : Bool := !(decide (c.toNat < 33) || decide (c.toNat = 34) || decide (c.toNat = 127))
def permB (l : List UInt8) : Bool := l.all permC
theorem permC_true {c : UInt8} (h1 : ¬ c.toNat < 33) (h2 : ¬ c.toNat = 34) (h3 : ¬ c.toNat = 127) : permC c = true := by simp [permC]; omega
theorem permC_false {c : UInt8} (h : c.toNat < 33 ∨ c.toNat = 34 ∨ c.toNat = 127) : permC c = false := by
  unfold permC; rcases h with h | h | h <;> simp [h]
/-- What stands behind the mark of a weak tag, and whether the mark stands. -/
def weakL (l : List UInt8) : List UInt8 × Bool := if Lib.hasPrefix l [87, 47] then (l.drop 2, true) else (l, false)
/-- A quoted text of permitted bytes. -/
def quotB (l : List UInt8) : Bool := decide (2 ≤ l.length) && (l.head? == some 34) && (l.getLast? == some 34) && permB ((l.drop 1).take (l.length - 2))
def etagL (l : List UInt8) : Option (Bool × List UInt8) :=
  if quotB (weakL l).1 then some ((weakL l).2, ((weakL l).1.drop 1).take ((weakL l).1.length - 2)) else none
def etagV : Option (Bool × List UInt8) → Value
  | none => .tuple #[.agg #[.bool false, .string ⟨#[]⟩], .bool false]
  | some (b, t) => .tuple #[.agg #[.bool b, .string ⟨t.toArray⟩], .bool true]
def etfmtL (e : Bool × List UInt8) : List UInt8 := if permB e.2 then (if e.1 then [87, 47] ++ ([34] ++ e.2 ++ [34]) else [34] ++ e.2 ++ [34]) else []
theorem quot_head {s : ByteArray} (h0 : 0 < s.size) : (bs s).head? = some s[0] := by
  rw [List.head?_eq_getElem?, List.getElem?_eq_getElem (by rw [bs_length]; exact h0)]; rfl
theorem quot_last {s : ByteArray} (h0 : s.size - 1 < s.size) : (bs s).getLast? = some s[s.size - 1] := by
  rw [List.getLast?_eq_getElem?, bs_length, List.getElem?_eq_getElem (by rw [bs_length]; exact h0)]; rfl
theorem bs_mid (s : ByteArray) : ((bs s).drop 1).take ((bs s).length - 2) = bs (s.extract 1 (s.size - 1)) := by
  unfold bs
  rw [Lib.extract_data, ← Lib.size_eq]
  congr 1
theorem quot_short {s : ByteArray} (h : s.size < 2) : quotB (bs s) = false := by
  unfold quotB; rw [decide_eq_false (by rw [bs_length]; omega)]; rfl
theorem quot_first {s : ByteArray} (h0 : 0 < s.size) (h : ¬ s[0].toNat = 34) : quotB (bs s) = false := by
  unfold quotB
  rw [quot_head h0, show (some s[0] == some (34 : UInt8)) = false from by
    have : s[0] ≠ 34 := fun e => h (by rw [e]; rfl)
    simp [this]]
  simp
theorem quot_end {s : ByteArray} (h0 : s.size - 1 < s.size) (h : ¬ (s[s.size - 1]'h0).toNat = 34) : quotB (bs s) = false := by
  unfold quotB
  rw [quot_last h0, show (some (s[s.size - 1]'h0) == some (34 : UInt8)) = false from by
    have : (s[s.size - 1]'h0) ≠ 34 := fun e => h (by rw [e]; rfl)
    simp [this]]
  simp
theorem quot_mid {s : ByteArray} (h2 : 2 ≤ s.size) (h0 : 0 < s.size) (h1 : s.size - 1 < s.size) (e0 : s[0].toNat = 34) (e1 : (s[s.size - 1]'h1).toNat = 34) : quotB (bs s) = permB (bs (s.extract 1 (s.size - 1))) := by
  unfold quotB
  have k0 : s[0] = 34 := UInt8.toNat_inj.1 e0
  have k1 : (s[s.size - 1]'h1) = 34 := UInt8.toNat_inj.1 e1
  rw [quot_head h0, quot_last h1, k0, k1, bs_mid, decide_eq_true (by rw [bs_length]; exact h2)]
  simp
end Go.Proofs.YtglckhljpjcmaaaGreatDoor
