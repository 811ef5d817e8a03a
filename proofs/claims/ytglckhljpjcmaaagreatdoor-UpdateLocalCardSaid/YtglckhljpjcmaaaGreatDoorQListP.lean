/- Members of a list field: plain laws (layer 7). -/
import Derived.Test.YtglckhljpjcmaaaGreatDoorQPre
import Derived.Test.YtglckhljpjcmaaaGreatDoorQTrimP
namespace Go.Proofs.YtglckhljpjcmaaaGreatDoor
open Go.RowKit

/-- The scanner's state behind a byte: 0 outside, 1 inside, 2 escaped. -/
def qstep (st : Nat) (c : UInt8) : Nat := if st = 2 then 1 else if st = 1 ∧ c.toNat = 92 then 2 else if c.toNat = 34 then 1 - st else st
theorem qstep_le {st : Nat} (c : UInt8) (h : st ≤ 2) : qstep st c ≤ 2 := by unfold qstep; repeat (split <;> try omega)
/-- The pieces between separators that stand outside quotes; acc: what has been read of the current piece. -/
def qcut (at_ : UInt8) : Nat → List UInt8 → List UInt8 → List (List UInt8)
  | _, acc, [] => [acc]
  | st, acc, c :: t => if st = 0 ∧ c.toNat = at_.toNat then acc :: qcut at_ 0 [] t else qcut at_ (qstep st c) (acc ++ [c]) t
theorem qcut_sep {a c : UInt8} {acc t : List UInt8} (h : c.toNat = a.toNat) : qcut a 0 acc (c :: t) = acc :: qcut a 0 [] t := by rw [qcut, if_pos ⟨rfl, h⟩]
theorem qcut_go {a c : UInt8} {st : Nat} {acc t : List UInt8} (h : ¬ (st = 0 ∧ c.toNat = a.toNat)) : qcut a st acc (c :: t) = qcut a (qstep st c) (acc ++ [c]) t := by rw [qcut, if_neg h]
theorem qcut_len (a : UInt8) : ∀ (l : List UInt8) (st : Nat) (acc : List UInt8), (qcut a st acc l).length ≤ l.length + 1
  | [], _, _ => Nat.le_refl _
  | c :: t, st, acc => by
    by_cases h : st = 0 ∧ c.toNat = a.toNat
    · obtain ⟨rfl, h⟩ := h
      rw [qcut_sep h]; simp only [List.length_cons]; have := qcut_len a t 0 []; omega
    · rw [qcut_go h]; simp only [List.length_cons]; have := qcut_len a t (qstep st c) (acc ++ [c]); omega
theorem qcut_size (a : UInt8) : ∀ (l : List UInt8) (st : Nat) (acc : List UInt8), ∀ x ∈ qcut a st acc l, x.length ≤ acc.length + l.length
  | [], _, acc, x, hx => by
    rw [qcut] at hx
    have : x = acc := by simpa using hx
    subst this; simp
  | c :: t, st, acc, x, hx => by
    by_cases h : st = 0 ∧ c.toNat = a.toNat
    · obtain ⟨rfl, h⟩ := h
      rw [qcut_sep h] at hx
      rcases List.mem_cons.1 hx with rfl | hx
      · omega
      · have := qcut_size a t 0 [] x hx; simp at this ⊢; omega
    · rw [qcut_go h] at hx
      have := qcut_size a t _ _ x hx; simp at this ⊢; omega
def neB (l : List UInt8) : Bool := !l.isEmpty
/-- The pieces, trimmed, without the empty ones. -/
def memP (ps : List (List UInt8)) : List (List UInt8) := (ps.map trimL).filter neB
def membersL (l : List UInt8) : List (List UInt8) := (memP (qcut 44 0 [] l)).take 64
theorem memP_cons_ne {p : List UInt8} {ps : List (List UInt8)} (h : trimL p ≠ []) : memP (p :: ps) = trimL p :: memP ps := by
  unfold memP; rw [List.map_cons, List.filter_cons_of_pos]
  unfold neB; cases hq : trimL p with
  | nil => exact absurd hq h
  | cons _ _ => rfl
theorem memP_cons_nil {p : List UInt8} {ps : List (List UInt8)} (h : trimL p = []) : memP (p :: ps) = memP ps := by
  unfold memP; rw [List.map_cons, List.filter_cons_of_neg]; rw [h]; decide
theorem members_len (l : List UInt8) : (membersL l).length ≤ 64 := by unfold membersL; rw [List.length_take]; omega
theorem members_mem {l x : List UInt8} (h : x ∈ membersL l) : x.length ≤ l.length := by
  have h1 := List.mem_of_mem_take h
  unfold memP at h1
  obtain ⟨p, hp, rfl⟩ := List.mem_map.1 (List.mem_filter.1 h1).1
  have := qcut_size 44 l 0 [] p hp
  have := trimL_len p
  simp at *; omega
/-- The bytes from one index to another. -/
def span (s : ByteArray) (i k : Nat) : List UInt8 := ((bs s).drop i).take (k - i)
theorem span_nil (s : ByteArray) (i : Nat) : span s i i = [] := by unfold span; simp
theorem span_step (s : ByteArray) {i k : Nat} (hik : i ≤ k) (h : k < s.size) : span s i k ++ [s[k]] = span s i (k + 1) := by
  unfold span
  have hl : k - i < ((bs s).drop i).length := by rw [List.length_drop, bs_length]; omega
  rw [show k + 1 - i = (k - i) + 1 from by omega, List.take_succ_eq_append_getElem hl, List.getElem_drop]
  congr 2
  simp only [show i + (k - i) = k from by omega]; rfl
theorem span_bs (s : ByteArray) (i k : Nat) : bs (s.extract i k) = span s i k := by
  unfold span bs
  rw [Lib.extract_data]
theorem span_end (s : ByteArray) {i k : Nat} (h : s.size ≤ k) : span s i k = span s i s.size := by
  unfold span
  rw [List.take_of_length_le (by rw [List.length_drop, bs_length]; omega), List.take_of_length_le (by rw [List.length_drop, bs_length]; omega)]
end Go.Proofs.YtglckhljpjcmaaaGreatDoor
