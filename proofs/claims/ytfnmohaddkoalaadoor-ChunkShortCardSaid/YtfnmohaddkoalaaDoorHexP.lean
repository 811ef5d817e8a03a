/- Hexadecimal digits in plain terms. No program in sight. -/
import Derived.Test.YtfnmohaddkoalaaDoorStrP
namespace Go.Proofs.YtfnmohaddkoalaaDoor

/-- The value of a hexadecimal digit, or -1. -/
def hexV (c : UInt8) : Int :=
  if 48 ≤ c.toNat ∧ c.toNat ≤ 57 then (c.toNat : Int) - 48 else if 97 ≤ c.toNat ∧ c.toNat ≤ 102 then (c.toNat : Int) - 87 else if 65 ≤ c.toNat ∧ c.toNat ≤ 70 then (c.toNat : Int) - 55 else -1
theorem hexV_bd (c : UInt8) : hexV c = -1 ∨ 0 ≤ hexV c ∧ hexV c ≤ 15 := by
  unfold hexV
  split
  · right; omega
  · split
    · right; omega
    · split
      · right; omega
      · exact .inl rfl
end Go.Proofs.YtfnmohaddkoalaaDoor
