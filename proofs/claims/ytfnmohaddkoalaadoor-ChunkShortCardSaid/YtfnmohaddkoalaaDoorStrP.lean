/- Plain facts on bytes and strings: a string's list of bytes, one byte at a place, decimal numbers. No program in sight. -/
import Derived.WalkKit
import Derived.Lib.Strings
import Derived.Lib.IndexBytes
import Derived.Lib.Hide
namespace Go.Proofs.YtfnmohaddkoalaaDoor

theorem ret_bool {a b : Bool} (h : a = b) : Ending.returned (.bool a) = .returned (.bool b) := by rw [h]
theorem ret_int {k : IntKind} {a b : Int} (h : a = b) : Ending.returned (.int k a) = .returned (.int k b) := by rw [h]
/-- A string's bytes. -/
abbrev bs (s : ByteArray) : List UInt8 := s.data.toList
theorem bs_length (s : ByteArray) : (bs s).length = s.size := (Lib.size_eq s).symm
theorem drop_step (s : ByteArray) {k : Nat} (h : k < s.size) : (bs s).drop k = s[k] :: (bs s).drop (k + 1) :=
  List.drop_eq_getElem_cons (by rw [bs_length]; exact h)
theorem drop_end (s : ByteArray) {k : Nat} (h : s.size ≤ k) : (bs s).drop k = [] := List.drop_of_length_le (by rw [bs_length]; exact h)
theorem bs_mk (l : List UInt8) : bs ⟨l.toArray⟩ = l := rfl
theorem take_step (s : ByteArray) {k : Nat} (h : k < s.size) : (bs s).take (k + 1) = (bs s).take k ++ [s[k]] := by
  have h' : k < (bs s).length := by rw [bs_length]; exact h
  rw [List.take_succ_eq_append_getElem h']; rfl
theorem empty_iff (s : ByteArray) : (bs s).isEmpty = (s.size == 0) := by
  have := bs_length s
  cases h : bs s with
  | nil => rw [h] at this; simp at this; simp [← this]
  | cons a t => rw [h] at this; simp at this; simp [← this]

/-- A decimal digit. -/
def digB (c : UInt8) : Bool := decide (48 ≤ c.toNat) && decide (c.toNat ≤ 57)
theorem digB_true {c : UInt8} (h : 48 ≤ c.toNat ∧ c.toNat ≤ 57) : digB c = true := by simp [digB, h]
theorem digB_false {c : UInt8} (h : ¬ (48 ≤ c.toNat ∧ c.toNat ≤ 57)) : digB c = false := by
  unfold digB; rw [← Bool.decide_and, decide_eq_false_iff_not]; exact h
theorem of_digB {c : UInt8} (h : digB c = true) : 48 ≤ c.toNat ∧ c.toNat ≤ 57 := by simpa [digB] using h
theorem of_digB_false {c : UInt8} (h : digB c = false) : ¬ (48 ≤ c.toNat ∧ c.toNat ≤ 57) := fun h' => by rw [digB_true h'] at h; cases h
/-- Decimal digits, saturated; none at another byte. -/
def numGo : List UInt8 → Int → Option Int
  | [], n => some n
  | c :: t, n => if digB c then numGo t (min (10 * n + ((c.toNat : Int) - 48)) 2147483647) else none
theorem numGo_step (s : ByteArray) {k : Nat} (a : Int) (hlt : k < s.size) : numGo ((bs s).drop k) a = if digB s[k] then numGo ((bs s).drop (k + 1)) (min (10 * a + ((s[k].toNat : Int) - 48)) 2147483647) else none := by
  rw [drop_step s hlt, numGo]
theorem numGo_end (s : ByteArray) {k : Nat} (a : Int) (h : s.size ≤ k) : numGo ((bs s).drop k) a = some a := by rw [drop_end s h, numGo]
theorem numGo_bd : ∀ (l : List UInt8) (a n : Int), 0 ≤ a → a ≤ 2147483647 → numGo l a = some n → 0 ≤ n ∧ n ≤ 2147483647
  | [], a, n, h0, h1, h => by simp [numGo] at h; omega
  | c :: t, a, n, h0, h1, h => by
    rw [numGo] at h
    by_cases hc : digB c = true
    · rw [if_pos hc] at h; exact numGo_bd t _ n (by have := of_digB hc; omega) (by omega) h
    · rw [if_neg hc] at h; cases h
theorem numGo_bad : ∀ (l : List UInt8) (a : Int), (∃ c ∈ l, digB c = false) → numGo l a = none
  | [], a, h => by obtain ⟨c, hc, _⟩ := h; cases hc
  | c :: t, a, h => by
    rw [numGo]
    cases hd : digB c with
    | false => rfl
    | true =>
      obtain ⟨x, hx, hxd⟩ := h
      rcases List.mem_cons.1 hx with rfl | hx
      · rw [hd] at hxd; cases hxd
      · rw [if_pos rfl]; exact numGo_bad t _ ⟨x, hx, hxd⟩
theorem mem_extract (s : ByteArray) {i j k : Nat} (h : i ≤ k) (hk : k < j) (hj : j ≤ s.size) : s[k] ∈ bs (s.extract i j) := by
  have hl := bs_length s
  unfold bs at hl ⊢
  rw [Lib.extract_data, List.mem_iff_getElem]
  refine ⟨k - i, by simp; omega, ?_⟩
  rw [List.getElem_take, List.getElem_drop]
  show s.data.toList[i + (k - i)] = s.data.toList[k]
  congr 1; omega
def numV (l : List UInt8) : Value :=
  match numGo l 0 with
  | some n => .tuple #[.int .i64 n, .bool (!l.isEmpty)]
  | none => .tuple #[.int .i64 0, .bool false]
theorem numV_some {l : List UInt8} {n : Int} (h : numGo l 0 = some n) : numV l = .tuple #[.int .i64 n, .bool (!l.isEmpty)] := by rw [numV, h]
theorem numV_none {l : List UInt8} (h : numGo l 0 = none) : numV l = .tuple #[.int .i64 0, .bool false] := by rw [numV, h]
end Go.Proofs.YtfnmohaddkoalaaDoor
