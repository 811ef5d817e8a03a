/- What decoding passes over: bytes from 128 on. No program in sight. -/
import Derived.Test.YtfnmohaddkoalaaGreatDoorQPre
import Derived.Lib.SpaceUEq
import Derived.Lib.IndexAny
import Derived.Laws.RangeAny
import Derived.Laws.Runes
namespace Go.Proofs.YtfnmohaddkoalaaGreatDoor

theorem decN_valid (n b0 b1 b2 b3 : Nat) : validRune ((Lib.decodeN n b0 b1 b2 b3).1 : Int) = true := by
  unfold Lib.decodeN validRune
  refine decide_eq_true ?_
  repeat' split
  all_goals (simp only; omega)
theorem dec_valid (s : ByteArray) (pos : Nat) : Utf8.valid ((Utf8.decode s pos).1 : Int) = true := by
  rw [validRune_eq, Lib.decode_N]; exact decN_valid _ _ _ _ _
theorem decN_high (n b0 b1 b2 b3 : Nat) (h : 128 ≤ b0) : 128 ≤ (Lib.decodeN n b0 b1 b2 b3).1 := by
  unfold Lib.decodeN
  repeat' split
  all_goals (simp only; omega)
theorem dec_high (s : ByteArray) (pos : Nat) (h : pos < s.size) (ha : 128 ≤ (s[pos]'h).toNat) : 128 ≤ (Utf8.decode s pos).1 := (decode_high s pos h ha).1
/-- Every byte that a rune beyond ASCII takes is beyond ASCII. -/
theorem dec_skip (s : ByteArray) (pos : Nat) (h : pos < s.size) (ha : 128 ≤ (s[pos]'h).toNat) : pos + (Utf8.decode s pos).2 ≤ s.size ∧ ∀ j b, pos ≤ j → j < pos + (Utf8.decode s pos).2 → s.data.toList[j]? = some b → 128 ≤ b.toNat := by
  have hl : s.data.toList.length = s.size := (Lib.size_eq s).symm
  have hc := Lib.decodeN_conts (s.data.toList.length - pos) (s.data.toList.getD pos 0).toNat (s.data.toList.getD (pos + 1) 0).toNat (s.data.toList.getD (pos + 2) 0).toNat (s.data.toList.getD (pos + 3) 0).toNat
  rw [← Lib.decode_N] at hc
  obtain ⟨c2, c3, c4, c5⟩ := hc
  have hw := (decode_high s pos h ha).2
  have h0 : s.data.toList[pos]? = some (s[pos]'h) := Lib.data_getElem? s pos h
  refine ⟨by omega, fun j b h1 h2 hb => ?_⟩
  have hg : s.data.toList.getD j 0 = b := by rw [List.getD_eq_getElem?_getD, hb]; rfl
  rcases (show j = pos ∨ j = pos + 1 ∨ j = pos + 2 ∨ j = pos + 3 from by omega) with rfl | rfl | rfl | rfl
  · rw [h0] at hb; cases hb; exact ha
  · have := (c2 (by omega)).1; rw [hg] at this; omega
  · have := (c3 (by omega)).1; rw [hg] at this; omega
  · have := (c4 (by omega)).1; rw [hg] at this; omega
theorem noAny_skip {l chars : List UInt8} {i k : Nat} (h : Lib.NoAny l chars i) (hc : ∀ b ∈ chars, b.toNat < 128) (hs : ∀ j b, i ≤ j → j < k → l[j]? = some b → 128 ≤ b.toNat) : Lib.NoAny l chars k := fun j b hj hb => by
  rcases Nat.lt_or_ge j i with h1 | h1
  · exact h j b h1 hb
  · have := hs j b h1 hj hb
    cases hx : chars.contains b with
    | false => rfl
    | true =>
      have hm : b ∈ chars := by simpa using hx
      have := hc b hm; omega
end Go.Proofs.YtfnmohaddkoalaaGreatDoor
