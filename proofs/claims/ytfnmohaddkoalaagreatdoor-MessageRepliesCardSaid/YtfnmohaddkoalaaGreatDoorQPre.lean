/- Plain facts on bytes and strings: a string's list of bytes, one byte at a place, decimal numbers. No program in sight. A text without the spaces and tabs at its ends, in plain terms. No program in sight. Plain facts on the first place of a byte: a list cut there, and its index from a place on. No program in sight. Bytes and texts in plain terms: tokens, texts, lower case, quoting. No program in sight. Lines and field lines in plain terms (layers 3 and 5). No program in sight. Hexadecimal digits in plain terms. No program in sight. Chunked bodies in plain terms (layer 5). No program in sight. Laws of chunked bodies (layer 5). No program in sight. What the statements on layer 1 say in plain terms: quoting back, digits read back, fold an equivalence. Request lines and status lines in plain terms (layer 2). No program in sight. Small laws of runs that the walks of this seat want: an index into an array value. Byte buffers that a call makes: a string's bytes in a new row, a row that grows by appends, and the way back to a string. Slices of strings among the arguments: opened as a list, handed back as they were. Lists of fields among the arguments: opened as lists of pairs of strings. The walks of keep.Fields and keep.Response. Struct variables that a call makes: a block that is known whole, stored into, loaded and handed back. The walks of keep.Response and ref.SameFields, keep.SameResponse. What a walk over byte buffers wants beside the laws: the byte's row of the type table, small facts on new blocks and on bytes. Rows of fields that a call makes, grown by append. The walks of lower case and fold (1.2) of the program. Rows of strings that a call makes: grown by append, read, shortened. The walks of the program's fields by name (layer 3): named, filter, Get, Has, First, Remove. Messages in plain terms (layer 6): the head, the framing, the body. No program in sight. -/
import Derived.WalkKit
import Derived.Lib.Strings
import Derived.Lib.IndexBytes
import Derived.Lib.Hide
import Derived.Lib.SlTrimSet
import Derived.Lib.CutLaws
import Derived.Lib.ItoaNum
import Derived.Lib.ItoaMem
import Derived.WalkSpells
import Derived.WalkLawsBesides
import Derived.Laws.IdiomStrings
import Derived.Lib.BufferRead
import Derived.Maps.AppendAt
import Derived.Laws.AppendOwnNone
import Derived.Lib.AppendIntMem
import Derived.Test.YtfnmohaddkoalaaGreatDoorProg
import Derived.SliceStrings
import Derived.Carry
import Derived.WideShapes
import Derived.Deep.SlicePairs
import Derived.Lib.SmallJoins
import Derived.Deep.MidRow
import Derived.Laws.Rows
import Derived.Laws.ResultCell
import Derived.Laws.StructEq
import Derived.Deep.QuietTactic
import Derived.BigQuiet
import Derived.Deep.RegionLaw
import Derived.WalkSmall
import Derived.Deep.RegionHeld3
import Derived.Shelf.Abstract
namespace Go.Proofs.YtfnmohaddkoalaaGreatDoor

theorem ret_bool {a b : Bool} (h : a = b) : Ending.returned (.bool a) = .returned (.bool b) := by rw [h]
theorem ret_int {k : IntKind} {a b : Int} (h : a = b) : Ending.returned (.int k a) = .returned (.int k b) := by rw [h]
/-- A string's bytes. -/
abbrev bs (s : ByteArray) : List UInt8 := s.data.toList
theorem bs_length (s : ByteArray) : (bs s).length = s.size := (Lib.size_eq s).symm
theorem drop_step (s : ByteArray) {k : Nat} (h : k < s.size) : (bs s).drop k = s[k] :: (bs s).drop (k + 1) :=
  List.drop_eq_getElem_cons (by rw [bs_length]; exact h)
theorem drop_end (s : ByteArray) {k : Nat} (h : s.size ≤ k) : (bs s).drop k = [] := List.drop_of_length_le (by rw [bs_length]; exact h)
theorem bs_mk (l : List UInt8) : bs ⟨l.toArray⟩ = l := rfl
theorem take_step (s : ByteArray) {k : Nat} (h : k < s.size) : (bs s).take (k + 1) = (bs s).take k ++ [s[k]] := by
  have h' : k < (bs s).length := by rw [bs_length]; exact h
  rw [List.take_succ_eq_append_getElem h']; rfl
theorem empty_iff (s : ByteArray) : (bs s).isEmpty = (s.size == 0) := by
  have := bs_length s
  cases h : bs s with
  | nil => rw [h] at this; simp at this; simp [← this]
  | cons a t => rw [h] at this; simp at this; simp [← this]

/-- A decimal digit. -/
def digB (c : UInt8) : Bool := decide (48 ≤ c.toNat) && decide (c.toNat ≤ 57)
theorem digB_true {c : UInt8} (h : 48 ≤ c.toNat ∧ c.toNat ≤ 57) : digB c = true := by simp [digB, h]
theorem digB_false {c : UInt8} (h : ¬ (48 ≤ c.toNat ∧ c.toNat ≤ 57)) : digB c = false := by
  unfold digB; rw [← Bool.decide_and, decide_eq_false_iff_not]; exact h
theorem of_digB {c : UInt8} (h : digB c = true) : 48 ≤ c.toNat ∧ c.toNat ≤ 57 := by simpa [digB] using h
theorem of_digB_false {c : UInt8} (h : digB c = false) : ¬ (48 ≤ c.toNat ∧ c.toNat ≤ 57) := fun h' => by rw [digB_true h'] at h; cases h
/-- Decimal digits, saturated; none at another byte. -/
def numGo : List UInt8 → Int → Option Int
  | [], n => some n
  | c :: t, n => if digB c then numGo t (min (10 * n + ((c.toNat : Int) - 48)) 2147483647) else none
theorem numGo_step (s : ByteArray) {k : Nat} (a : Int) (hlt : k < s.size) : numGo ((bs s).drop k) a = if digB s[k] then numGo ((bs s).drop (k + 1)) (min (10 * a + ((s[k].toNat : Int) - 48)) 2147483647) else none := by
  rw [drop_step s hlt, numGo]
theorem numGo_end (s : ByteArray) {k : Nat} (a : Int) (h : s.size ≤ k) : numGo ((bs s).drop k) a = some a := by rw [drop_end s h, numGo]
theorem numGo_bd : ∀ (l : List UInt8) (a n : Int), 0 ≤ a → a ≤ 2147483647 → numGo l a = some n → 0 ≤ n ∧ n ≤ 2147483647
  | [], a, n, h0, h1, h => by simp [numGo] at h; omega
  | c :: t, a, n, h0, h1, h => by
    rw [numGo] at h
    by_cases hc : digB c = true
    · rw [if_pos hc] at h; exact numGo_bd t _ n (by have := of_digB hc; omega) (by omega) h
    · rw [if_neg hc] at h; cases h
theorem numGo_bad : ∀ (l : List UInt8) (a : Int), (∃ c ∈ l, digB c = false) → numGo l a = none
  | [], a, h => by obtain ⟨c, hc, _⟩ := h; cases hc
  | c :: t, a, h => by
    rw [numGo]
    cases hd : digB c with
    | false => rfl
    | true =>
      obtain ⟨x, hx, hxd⟩ := h
      rcases List.mem_cons.1 hx with rfl | hx
      · rw [hd] at hxd; cases hxd
      · rw [if_pos rfl]; exact numGo_bad t _ ⟨x, hx, hxd⟩
theorem mem_extract (s : ByteArray) {i j k : Nat} (h : i ≤ k) (hk : k < j) (hj : j ≤ s.size) : s[k] ∈ bs (s.extract i j) := by
  have hl := bs_length s
  unfold bs at hl ⊢
  rw [Lib.extract_data, List.mem_iff_getElem]
  refine ⟨k - i, by simp; omega, ?_⟩
  rw [List.getElem_take, List.getElem_drop]
  show s.data.toList[i + (k - i)] = s.data.toList[k]
  congr 1; omega
def numV (l : List UInt8) : Value :=
  match numGo l 0 with
  | some n => .tuple #[.int .i64 n, .bool (!l.isEmpty)]
  | none => .tuple #[.int .i64 0, .bool false]
theorem numV_some {l : List UInt8} {n : Int} (h : numGo l 0 = some n) : numV l = .tuple #[.int .i64 n, .bool (!l.isEmpty)] := by rw [numV, h]
theorem numV_none {l : List UInt8} (h : numGo l 0 = none) : numV l = .tuple #[.int .i64 0, .bool false] := by rw [numV, h]
end Go.Proofs.YtfnmohaddkoalaaGreatDoor
namespace Go.Proofs.YtfnmohaddkoalaaGreatDoor

def blankC (c : UInt8) : Bool := [(32 : UInt8), 9].contains c
theorem blankC_iff {c : UInt8} : blankC c = true ↔ c = 32 ∨ c = 9 := by unfold blankC; simp
/-- The text between the blanks at its ends. -/
def trimL (l : List UInt8) : List UInt8 := Lib.trimS l [32, 9]
def leftL (l : List UInt8) : List UInt8 := l.dropWhile blankC
def rightL (l : List UInt8) : List UInt8 := (l.reverse.dropWhile blankC).reverse
theorem drop_all {l m : List UInt8} (h : ∀ x ∈ l, blankC x = true) : (l ++ m).dropWhile blankC = m.dropWhile blankC := by
  induction l with
  | nil => rfl
  | cons c t ih =>
    rw [List.cons_append, List.dropWhile_cons, if_pos (h c (by simp))]
    exact ih fun x hx => h x (by simp [hx])
theorem drop_none {c : UInt8} {t : List UInt8} (h : blankC c = false) : (c :: t).dropWhile blankC = c :: t := by
  rw [List.dropWhile_cons, h]; rfl
/-- The form of a text: blanks, a middle part, blanks. -/
def Mid (l a m b : List UInt8) : Prop :=
  l = a ++ (m ++ b) ∧ (∀ x ∈ a, blankC x = true) ∧ (∀ x ∈ b, blankC x = true) ∧ (m = [] ∨ (∃ c t, m = c :: t ∧ blankC c = false) ∧ ∃ d u, m = u ++ [d] ∧ blankC d = false)
theorem take_blank (l : List UInt8) : ∀ x ∈ l.takeWhile blankC, blankC x = true := fun x hx => by
  induction l with
  | nil => cases hx
  | cons c t ih =>
    rw [List.takeWhile_cons] at hx
    by_cases hc : blankC c = true
    · rw [if_pos hc] at hx
      rcases List.mem_cons.1 hx with rfl | hx
      · exact hc
      · exact ih hx
    · rw [if_neg hc] at hx; cases hx
theorem drop_head (l : List UInt8) : l.dropWhile blankC = [] ∨ ∃ c t, l.dropWhile blankC = c :: t ∧ blankC c = false := by
  induction l with
  | nil => exact .inl rfl
  | cons c t ih =>
    rw [List.dropWhile_cons]
    cases hc : blankC c with
    | true => exact ih
    | false => exact .inr ⟨c, t, rfl, hc⟩
theorem mid_some (l : List UInt8) : ∃ a m b, Mid l a m b := by
  have h1 : l = l.takeWhile blankC ++ l.dropWhile blankC := List.takeWhile_append_dropWhile.symm
  rcases drop_head l with h | ⟨c, t, h, hc⟩
  · exact ⟨l.takeWhile blankC, [], [], by rw [h] at h1; simpa using h1, take_blank l, by simp, .inl rfl⟩
  · have h2 : (l.dropWhile blankC).reverse = (l.dropWhile blankC).reverse.takeWhile blankC ++ (l.dropWhile blankC).reverse.dropWhile blankC := List.takeWhile_append_dropWhile.symm
    have h3 : l.dropWhile blankC = ((l.dropWhile blankC).reverse.dropWhile blankC).reverse ++ ((l.dropWhile blankC).reverse.takeWhile blankC).reverse := by
      have := congrArg List.reverse h2
      rw [List.reverse_reverse, List.reverse_append] at this
      exact this
    rcases drop_head (l.dropWhile blankC).reverse with g | ⟨d, u, g, hd⟩
    · exfalso
      rw [g] at h2
      have hm : c ∈ (l.dropWhile blankC).reverse := by rw [h]; simp
      rw [h2, List.append_nil] at hm
      have := take_blank _ c hm
      rw [hc] at this; cases this
    · refine ⟨l.takeWhile blankC, ((l.dropWhile blankC).reverse.dropWhile blankC).reverse, ((l.dropWhile blankC).reverse.takeWhile blankC).reverse, ?_, take_blank l, ?_, .inr ⟨?_, ?_⟩⟩
      · rw [← h3]; exact h1
      · intro x hx
        exact take_blank _ x (by simpa using hx)
      · have h4 := h3
        rw [g] at h4 ⊢
        rw [h] at h4
        cases hr : (d :: u).reverse with
        | nil => simp at hr
        | cons c' t' =>
          rw [hr, List.cons_append] at h4
          injection h4 with e1 _
          exact ⟨c', t', rfl, by rw [← e1]; exact hc⟩
      · rw [g]
        exact ⟨d, u.reverse, by simp, hd⟩
theorem Mid.trim {l a m b : List UInt8} (h : Mid l a m b) : trimL l = m ∧ rightL (leftL l) = m := by
  obtain ⟨rfl, ha, hb, hm⟩ := h
  have hb' : ∀ x ∈ b.reverse, blankC x = true := fun x hx => hb x (by simpa using hx)
  have ha' : ∀ x ∈ a.reverse, blankC x = true := fun x hx => ha x (by simpa using hx)
  have nilA : ∀ {z : List UInt8}, (∀ x ∈ z, blankC x = true) → z.dropWhile blankC = [] := fun {z} hz => by
    have := drop_all (l := z) (m := []) hz
    rwa [List.append_nil] at this
  have hright : rightL (a ++ (m ++ b)) = if m = [] then [] else a ++ m := by
    unfold rightL
    rw [List.reverse_append, List.reverse_append, List.append_assoc, drop_all hb']
    rcases hm with rfl | ⟨_, d, u, rfl, hd⟩
    · rw [List.reverse_nil, List.nil_append, nilA ha', if_pos rfl]; rfl
    · rw [if_neg (by simp), List.reverse_append, List.reverse_singleton, List.singleton_append, List.cons_append, drop_none hd]; simp
  have hleft : leftL (a ++ (m ++ b)) = if m = [] then [] else m ++ b := by
    unfold leftL
    rw [drop_all ha]
    rcases hm with rfl | ⟨⟨c, t, rfl, hc⟩, _⟩
    · rw [List.nil_append, nilA hb, if_pos rfl]
    · rw [if_neg (by simp), List.cons_append, drop_none hc]
  constructor
  · show leftL (rightL (a ++ (m ++ b))) = m
    rw [hright]
    rcases hm with rfl | ⟨⟨c, t, rfl, hc⟩, _⟩
    · rw [if_pos rfl]; rfl
    · rw [if_neg (by simp)]
      unfold leftL
      rw [drop_all ha, drop_none hc]
  · rw [hleft]
    rcases hm with rfl | ⟨_, d, u, rfl, hd⟩
    · rw [if_pos rfl]; rfl
    · rw [if_neg (by simp)]
      unfold rightL
      rw [List.reverse_append, drop_all hb', List.reverse_append, List.reverse_singleton, List.singleton_append, drop_none hd]; simp
theorem trimL_eq (l : List UInt8) : rightL (leftL l) = trimL l := by
  obtain ⟨a, m, b, h⟩ := mid_some l
  rw [h.trim.1, h.trim.2]
theorem trimL_pad {l p q : List UInt8} (hp : ∀ x ∈ p, blankC x = true) (hq : ∀ x ∈ q, blankC x = true) : trimL (p ++ (l ++ q)) = trimL l := by
  obtain ⟨a, m, b, h⟩ := mid_some l
  have h' : Mid (p ++ (l ++ q)) (p ++ a) m (b ++ q) := by
    obtain ⟨rfl, ha, hb, hm⟩ := h
    refine ⟨by simp, ?_, ?_, hm⟩
    · intro x hx
      rcases List.mem_append.1 hx with hx | hx
      · exact hp x hx
      · exact ha x hx
    · intro x hx
      rcases List.mem_append.1 hx with hx | hx
      · exact hb x hx
      · exact hq x hx
  rw [h'.trim.1, h.trim.1]
theorem trimL_trim (l : List UInt8) : trimL (trimL l) = trimL l := by
  obtain ⟨a, m, b, h⟩ := mid_some l
  rw [h.trim.1]
  have h' : Mid m [] m [] := ⟨by simp, by simp, by simp, h.2.2.2⟩
  exact h'.trim.1
theorem trimL_len (l : List UInt8) : (trimL l).length ≤ l.length := by
  obtain ⟨a, m, b, h⟩ := mid_some l
  rw [h.trim.1, h.1]; simp; omega
theorem leftL_hit (s : ByteArray) (h0 : 0 < s.size) (h : blankC s[0] = true) : leftL (bs s) = leftL (bs (s.extract 1 s.size)) := by
  have e : bs (s.extract 1 s.size) = (bs s).drop 1 := by
    unfold bs; rw [Lib.extract_data]
    exact List.take_of_length_le (by rw [List.length_drop, ← Lib.size_eq]; exact Nat.le_refl _)
  have d := drop_step s h0
  rw [List.drop_zero] at d
  rw [e]
  conv => lhs; rw [d]
  unfold leftL
  rw [List.dropWhile_cons, if_pos h]
theorem leftL_stop (s : ByteArray) (h : s.size = 0 ∨ ∃ h0 : 0 < s.size, blankC s[0] = false) : leftL (bs s) = bs s := by
  rcases h with h | ⟨h0, h⟩
  · have : bs s = [] := List.length_eq_zero_iff.1 (by rw [bs_length]; exact h)
    rw [this]; rfl
  · have d := drop_step s h0
    rw [List.drop_zero] at d
    unfold leftL
    rw [d, drop_none h]
theorem snoc_last (s : ByteArray) (h0 : s.size - 1 < s.size) : bs s = bs (s.extract 0 (s.size - 1)) ++ [s[s.size - 1]] := by
  have e : bs (s.extract 0 (s.size - 1)) = (bs s).take (s.size - 1) := by unfold bs; rw [Lib.extract_data]; simp
  rw [e, ← take_step s h0, List.take_of_length_le (by rw [bs_length]; omega)]
theorem rightL_hit (s : ByteArray) (h0 : s.size - 1 < s.size) (h : blankC (s[s.size - 1]'h0) = true) : rightL (bs s) = rightL (bs (s.extract 0 (s.size - 1))) := by
  conv => lhs; rw [snoc_last s h0]
  unfold rightL
  rw [List.reverse_append, List.reverse_singleton, List.singleton_append, List.dropWhile_cons, if_pos h]
theorem rightL_stop (s : ByteArray) (h : s.size = 0 ∨ ∃ h0 : s.size - 1 < s.size, blankC (s[s.size - 1]'h0) = false) : rightL (bs s) = bs s := by
  rcases h with h | ⟨h0, h⟩
  · have : bs s = [] := List.length_eq_zero_iff.1 (by rw [bs_length]; exact h)
    rw [this]; rfl
  · unfold rightL
    conv => lhs; rw [snoc_last s h0]
    rw [List.reverse_append, List.reverse_singleton, List.singleton_append, drop_none h]
    conv => rhs; rw [snoc_last s h0]
    simp
end Go.Proofs.YtfnmohaddkoalaaGreatDoor
namespace Go.Proofs.YtfnmohaddkoalaaGreatDoor

/-- What stands ahead of the first c, what stands behind it, and whether there is one. -/
def cutB (c : UInt8) : List UInt8 → List UInt8 × List UInt8 × Bool
  | [] => ([], [], false)
  | b :: t => if b = c then ([], t, true) else (b :: (cutB c t).1, (cutB c t).2.1, (cutB c t).2.2)
theorem cutB_nil (c : UInt8) : cutB c [] = ([], [], false) := rfl
theorem cutB_same (c : UInt8) (t : List UInt8) : cutB c (c :: t) = ([], t, true) := by rw [cutB, if_pos rfl]
theorem cutB_other {c b : UInt8} (h : b ≠ c) (t : List UInt8) : cutB c (b :: t) = (b :: (cutB c t).1, (cutB c t).2.1, (cutB c t).2.2) := by rw [cutB, if_neg h]
theorem cutB_spec (c : UInt8) : ∀ l : List UInt8, ((cutB c l).2.2 = true ∧ l = (cutB c l).1 ++ c :: (cutB c l).2.1 ∧ c ∉ (cutB c l).1) ∨ (cutB c l = (l, [], false) ∧ c ∉ l)
  | [] => .inr ⟨rfl, by simp⟩
  | b :: t => by
    by_cases h : b = c
    · subst h
      rw [cutB_same]; exact .inl ⟨rfl, rfl, by simp⟩
    · rw [cutB_other h]
      rcases cutB_spec c t with ⟨h1, h2, h3⟩ | ⟨h1, h2⟩
      · refine .inl ⟨h1, ?_, ?_⟩
        · show b :: t = b :: ((cutB c t).1 ++ c :: (cutB c t).2.1)
          rw [← h2]
        · simp only [List.mem_cons, not_or]; exact ⟨fun e => h e.symm, h3⟩
      · rw [h1]
        refine .inr ⟨rfl, ?_⟩
        simp only [List.mem_cons, not_or]; exact ⟨fun e => h e.symm, h2⟩
theorem cutB_hit {c : UInt8} : ∀ {a : List UInt8}, c ∉ a → ∀ b : List UInt8, cutB c (a ++ c :: b) = (a, b, true)
  | [], _, b => cutB_same c b
  | x :: t, h, b => by
    simp only [List.mem_cons, not_or] at h
    rw [List.cons_append, cutB_other (fun e => h.1 e.symm), cutB_hit h.2 b]
theorem cutB_miss {c : UInt8} {l : List UInt8} (h : c ∉ l) : cutB c l = (l, [], false) := by
  rcases cutB_spec c l with ⟨_, h2, _⟩ | ⟨h1, _⟩
  · exact absurd (by rw [h2]; simp) h
  · exact h1
theorem cutB_cases (c : UInt8) (l : List UInt8) : (∃ a b, cutB c l = (a, b, true) ∧ l = a ++ c :: b ∧ c ∉ a) ∨ (cutB c l = (l, [], false) ∧ c ∉ l) := by
  rcases cutB_spec c l with ⟨h1, h2, h3⟩ | h
  · exact .inl ⟨_, _, by rw [← h1], h2, h3⟩
  · exact .inr h
theorem cutB_len (c : UInt8) (l : List UInt8) : (cutB c l).1.length + (cutB c l).2.1.length ≤ l.length := by
  rcases cutB_cases c l with ⟨a, b, h, h2, _⟩ | ⟨h, _⟩
  · rw [h, h2]; simp
  · rw [h]; simp
theorem index_one (c : UInt8) : ∀ l : List UInt8, Lib.index l [c] = if (cutB c l).2.2 then ((cutB c l).1.length : Int) else -1
  | [] => rfl
  | b :: t => by
    unfold Lib.index
    by_cases h : b = c
    · subst h
      rw [cutB_same, if_pos (by simp)]; rfl
    · rw [cutB_other h, if_neg (by simp; exact fun e => h e.symm), index_one c t]
      cases hb : (cutB c t).2.2 with
      | true => simp only [if_true]; rw [if_neg (by simp)]; simp
      | false => simp
theorem cut_one (c : UInt8) (l : List UInt8) : Lib.cut l [c] = cutB c l := by
  unfold Lib.cut
  rw [index_one]
  rcases cutB_cases c l with ⟨a, b, h, h2, _⟩ | ⟨h, _⟩
  · rw [h, if_pos rfl, if_pos (by omega), h2]
    simp
  · rw [h]; simp
/-- The index of the first c from k on, or -1. -/
def idxFrom (c : UInt8) (l : List UInt8) (k : Nat) : Int := if (cutB c (l.drop k)).2.2 then ((k + (cutB c (l.drop k)).1.length : Nat) : Int) else -1
theorem idxFrom_hit (s : ByteArray) {k : Nat} {c : UInt8} (hlt : k < s.size) (h : s[k] = c) : idxFrom c (bs s) k = k := by
  unfold idxFrom
  rw [drop_step s hlt, h, cutB_same]; simp
theorem idxFrom_step (s : ByteArray) {k : Nat} {c : UInt8} (hlt : k < s.size) (h : s[k] ≠ c) : idxFrom c (bs s) k = idxFrom c (bs s) (k + 1) := by
  unfold idxFrom
  rw [drop_step s hlt, cutB_other h]
  cases (cutB c ((bs s).drop (k + 1))).2.2 with
  | true => simp only [if_true, List.length_cons]; omega
  | false => rfl
theorem idxFrom_end (s : ByteArray) {k : Nat} (c : UInt8) (h : s.size ≤ k) : idxFrom c (bs s) k = -1 := by
  unfold idxFrom
  rw [drop_end s h]; rfl
theorem idxFrom_bd (c : UInt8) (l : List UInt8) (k : Nat) : (idxFrom c l k = -1 ∧ cutB c (l.drop k) = (l.drop k, [], false)) ∨ ∃ i : Nat, idxFrom c l k = i ∧ k ≤ i ∧ i < l.length ∧ cutB c (l.drop k) = ((l.drop k).take (i - k), l.drop (i + 1), true) := by
  unfold idxFrom
  rcases cutB_cases c (l.drop k) with ⟨a, b, h, h2, _⟩ | ⟨h, _⟩
  · right
    have hl := congrArg List.length h2
    simp at hl
    rw [h, if_pos rfl]
    refine ⟨k + a.length, rfl, by omega, by omega, ?_⟩
    have e2 : l.drop (k + a.length + 1) = b := by
      rw [show k + a.length + 1 = k + (a.length + 1) from by omega, ← List.drop_drop, h2]; simp
    rw [e2, show k + a.length - k = a.length from by omega, h2]; simp
  · left; rw [h]; exact ⟨rfl, rfl⟩
end Go.Proofs.YtfnmohaddkoalaaGreatDoor
namespace Go.Proofs.YtfnmohaddkoalaaGreatDoor

/-- A byte of a token (1.1). -/
def partB (c : UInt8) : Bool :=
  ((c.toNat : Int) == 33) || (((c.toNat : Int) == 35) || (((c.toNat : Int) == 36) || (((c.toNat : Int) == 37) || (((c.toNat : Int) == 38) || (((c.toNat : Int) == 39) || (((c.toNat : Int) == 42) || (((c.toNat : Int) == 43) || (((c.toNat : Int) == 45) || (((c.toNat : Int) == 46) || (((c.toNat : Int) == 94) || (((c.toNat : Int) == 95) || (((c.toNat : Int) == 96) || (((c.toNat : Int) == 124) || (((c.toNat : Int) == 126) || (decide (48 ≤ (c.toNat : Int)) && decide ((c.toNat : Int) ≤ 57) || (decide (65 ≤ (c.toNat : Int)) && decide ((c.toNat : Int) ≤ 90) || decide (97 ≤ (c.toNat : Int)) && decide ((c.toNat : Int) ≤ 122)))))))))))))))))
theorem partB_iff {c : UInt8} : partB c = true ↔ (c.toNat : Int) = 33 ∨ (c.toNat : Int) = 35 ∨ (c.toNat : Int) = 36 ∨ (c.toNat : Int) = 37 ∨ (c.toNat : Int) = 38 ∨ (c.toNat : Int) = 39 ∨ (c.toNat : Int) = 42 ∨ (c.toNat : Int) = 43 ∨ (c.toNat : Int) = 45 ∨ (c.toNat : Int) = 46 ∨ (c.toNat : Int) = 94 ∨ (c.toNat : Int) = 95 ∨ (c.toNat : Int) = 96 ∨ (c.toNat : Int) = 124 ∨ (c.toNat : Int) = 126 ∨ (48 ≤ (c.toNat : Int) ∧ (c.toNat : Int) ≤ 57 ∨ 65 ≤ (c.toNat : Int) ∧ (c.toNat : Int) ≤ 90 ∨ 97 ≤ (c.toNat : Int) ∧ (c.toNat : Int) ≤ 122) := by
  simp only [partB, Bool.or_eq_true, Bool.and_eq_true, beq_iff_eq, decide_eq_true_eq]
theorem partB_true {c : UInt8} (h : (c.toNat : Int) = 33 ∨ (c.toNat : Int) = 35 ∨ (c.toNat : Int) = 36 ∨ (c.toNat : Int) = 37 ∨ (c.toNat : Int) = 38 ∨ (c.toNat : Int) = 39 ∨ (c.toNat : Int) = 42 ∨ (c.toNat : Int) = 43 ∨ (c.toNat : Int) = 45 ∨ (c.toNat : Int) = 46 ∨ (c.toNat : Int) = 94 ∨ (c.toNat : Int) = 95 ∨ (c.toNat : Int) = 96 ∨ (c.toNat : Int) = 124 ∨ (c.toNat : Int) = 126 ∨ (48 ≤ (c.toNat : Int) ∧ (c.toNat : Int) ≤ 57 ∨ 65 ≤ (c.toNat : Int) ∧ (c.toNat : Int) ≤ 90 ∨ 97 ≤ (c.toNat : Int) ∧ (c.toNat : Int) ≤ 122)) : true = partB c := (partB_iff.2 h).symm
theorem partB_false {c : UInt8} (h : ¬ ((c.toNat : Int) = 33 ∨ (c.toNat : Int) = 35 ∨ (c.toNat : Int) = 36 ∨ (c.toNat : Int) = 37 ∨ (c.toNat : Int) = 38 ∨ (c.toNat : Int) = 39 ∨ (c.toNat : Int) = 42 ∨ (c.toNat : Int) = 43 ∨ (c.toNat : Int) = 45 ∨ (c.toNat : Int) = 46 ∨ (c.toNat : Int) = 94 ∨ (c.toNat : Int) = 95 ∨ (c.toNat : Int) = 96 ∨ (c.toNat : Int) = 124 ∨ (c.toNat : Int) = 126 ∨ (48 ≤ (c.toNat : Int) ∧ (c.toNat : Int) ≤ 57 ∨ 65 ≤ (c.toNat : Int) ∧ (c.toNat : Int) ≤ 90 ∨ 97 ≤ (c.toNat : Int) ∧ (c.toNat : Int) ≤ 122))) : false = partB c := by
  cases e : partB c with
  | false => rfl
  | true => exact absurd (partB_iff.1 e) h
abbrev signs : ByteArray := ⟨#[33, 35, 36, 37, 38, 39, 42, 43, 45, 46, 94, 95, 96, 124, 126]⟩
theorem sign_hit {c : UInt8} : ∀ (k : Nat) (h : k < signs.size), ((signs[k].toNat : Int) == (c.toNat : Int)) = true → true = partB c := by
  intro k h e
  have e : (signs[k].toNat : Int) = c.toNat := by simpa using e
  refine partB_true ?_
  have h15 : k < 15 := h
  match k, h15 with
  | 0, _ =>
    have e' : ((33 : Nat) : Int) = (c.toNat : Int) := e
    omega
  | 1, _ =>
    have e' : ((35 : Nat) : Int) = (c.toNat : Int) := e
    omega
  | 2, _ =>
    have e' : ((36 : Nat) : Int) = (c.toNat : Int) := e
    omega
  | 3, _ =>
    have e' : ((37 : Nat) : Int) = (c.toNat : Int) := e
    omega
  | 4, _ =>
    have e' : ((38 : Nat) : Int) = (c.toNat : Int) := e
    omega
  | 5, _ =>
    have e' : ((39 : Nat) : Int) = (c.toNat : Int) := e
    omega
  | 6, _ =>
    have e' : ((42 : Nat) : Int) = (c.toNat : Int) := e
    omega
  | 7, _ =>
    have e' : ((43 : Nat) : Int) = (c.toNat : Int) := e
    omega
  | 8, _ =>
    have e' : ((45 : Nat) : Int) = (c.toNat : Int) := e
    omega
  | 9, _ =>
    have e' : ((46 : Nat) : Int) = (c.toNat : Int) := e
    omega
  | 10, _ =>
    have e' : ((94 : Nat) : Int) = (c.toNat : Int) := e
    omega
  | 11, _ =>
    have e' : ((95 : Nat) : Int) = (c.toNat : Int) := e
    omega
  | 12, _ =>
    have e' : ((96 : Nat) : Int) = (c.toNat : Int) := e
    omega
  | 13, _ =>
    have e' : ((124 : Nat) : Int) = (c.toNat : Int) := e
    omega
  | 14, _ =>
    have e' : ((126 : Nat) : Int) = (c.toNat : Int) := e
    omega
theorem sign_miss {c : UInt8} (h : ∀ (k : Nat) (h : k < signs.size), ((signs[k].toNat : Int) == (c.toNat : Int)) = false) (h1 : ¬ (97 ≤ c.toNat ∧ c.toNat ≤ 122 ∨ 65 ≤ c.toNat ∧ c.toNat ≤ 90 ∨ 48 ≤ c.toNat ∧ c.toNat ≤ 57)) : false = partB c := by
  refine partB_false ?_
  have e0 : ((33 : Nat) : Int) ≠ (c.toNat : Int) := beq_eq_false_iff_ne.1 (h 0 (by decide))
  have e1 : ((35 : Nat) : Int) ≠ (c.toNat : Int) := beq_eq_false_iff_ne.1 (h 1 (by decide))
  have e2 : ((36 : Nat) : Int) ≠ (c.toNat : Int) := beq_eq_false_iff_ne.1 (h 2 (by decide))
  have e3 : ((37 : Nat) : Int) ≠ (c.toNat : Int) := beq_eq_false_iff_ne.1 (h 3 (by decide))
  have e4 : ((38 : Nat) : Int) ≠ (c.toNat : Int) := beq_eq_false_iff_ne.1 (h 4 (by decide))
  have e5 : ((39 : Nat) : Int) ≠ (c.toNat : Int) := beq_eq_false_iff_ne.1 (h 5 (by decide))
  have e6 : ((42 : Nat) : Int) ≠ (c.toNat : Int) := beq_eq_false_iff_ne.1 (h 6 (by decide))
  have e7 : ((43 : Nat) : Int) ≠ (c.toNat : Int) := beq_eq_false_iff_ne.1 (h 7 (by decide))
  have e8 : ((45 : Nat) : Int) ≠ (c.toNat : Int) := beq_eq_false_iff_ne.1 (h 8 (by decide))
  have e9 : ((46 : Nat) : Int) ≠ (c.toNat : Int) := beq_eq_false_iff_ne.1 (h 9 (by decide))
  have e10 : ((94 : Nat) : Int) ≠ (c.toNat : Int) := beq_eq_false_iff_ne.1 (h 10 (by decide))
  have e11 : ((95 : Nat) : Int) ≠ (c.toNat : Int) := beq_eq_false_iff_ne.1 (h 11 (by decide))
  have e12 : ((96 : Nat) : Int) ≠ (c.toNat : Int) := beq_eq_false_iff_ne.1 (h 12 (by decide))
  have e13 : ((124 : Nat) : Int) ≠ (c.toNat : Int) := beq_eq_false_iff_ne.1 (h 13 (by decide))
  have e14 : ((126 : Nat) : Int) ≠ (c.toNat : Int) := beq_eq_false_iff_ne.1 (h 14 (by decide))
  omega
def tokenB (l : List UInt8) : Bool := l.all partB && !l.isEmpty
/-- A byte of a text (1.1). -/
def textC (c : UInt8) : Bool := !(decide (c.toNat < 32) && decide (c.toNat ≠ 9) || decide (c.toNat = 127))
theorem textC_iff {c : UInt8} : textC c = true ↔ ¬ (c.toNat < 32 ∧ c.toNat ≠ 9 ∨ c.toNat = 127) := by
  unfold textC; rw [← Bool.decide_and, ← Bool.decide_or, ← decide_not, decide_eq_true_eq]
theorem textC_true {c : UInt8} (h : ¬ (c.toNat < 32 ∧ c.toNat ≠ 9 ∨ c.toNat = 127)) : textC c = true := textC_iff.2 h
theorem textC_false {c : UInt8} (h : c.toNat < 32 ∧ c.toNat ≠ 9 ∨ c.toNat = 127) : textC c = false := by
  cases e : textC c with
  | false => rfl
  | true => exact absurd h (textC_iff.1 e)
def textB (l : List UInt8) : Bool := l.all textC
def lowC (c : UInt8) : UInt8 := if 65 ≤ c.toNat ∧ c.toNat ≤ 90 then c + 32 else c
def lowL (l : List UInt8) : List UInt8 := l.map lowC
def foldB (a b : List UInt8) : Bool := decide (a.length = b.length) && (lowL a == lowL b)
theorem lowL_length (l : List UInt8) : (lowL l).length = l.length := by simp [lowL]
theorem lowC_hit {c : UInt8} (h : 65 ≤ c.toNat ∧ c.toNat ≤ 90) : ((lowC c).toNat : Int) = (c.toNat : Int) + 32 := by
  unfold lowC; rw [if_pos h]
  have : (c + 32).toNat = (c.toNat + 32) % 256 := by rw [UInt8.toNat_add]; rfl
  rw [this]; omega
theorem lowC_miss {c : UInt8} (h : ¬ (65 ≤ c.toNat ∧ c.toNat ≤ 90)) : lowC c = c := by unfold lowC; rw [if_neg h]
/-- The bytes behind k steps of a walk that lowers in place. -/
def lowUpTo (l : List UInt8) (k : Nat) : List UInt8 := (l.take k).map lowC ++ l.drop k
theorem lowUpTo_length (l : List UInt8) (k : Nat) : (lowUpTo l k).length = l.length := by simp [lowUpTo]; omega
theorem lowUpTo_get (l : List UInt8) {k : Nat} (h : k < l.length) : (lowUpTo l k)[k]'(by rw [lowUpTo_length]; exact h) = l[k] := by
  unfold lowUpTo
  rw [List.getElem_append_right (by simp; omega)]
  simp [Nat.min_eq_left (Nat.le_of_lt h)]
theorem lowUpTo_step (l : List UInt8) {k : Nat} (h : k < l.length) : (lowUpTo l k).set k (lowC l[k]) = lowUpTo l (k + 1) := by
  unfold lowUpTo
  have hlen : ((l.take k).map lowC).length = k := by simp [Nat.min_eq_left (Nat.le_of_lt h)]
  rw [List.set_append_right k _ (by omega), hlen, Nat.sub_self, List.drop_eq_getElem_cons h, List.set_cons_zero, List.take_succ_eq_append_getElem h, List.map_append, List.append_assoc]; rfl
theorem lowUpTo_keep (l : List UInt8) {k : Nat} (h : k < l.length) (hc : lowC l[k] = l[k]) : lowUpTo l k = lowUpTo l (k + 1) := by
  rw [← lowUpTo_step l h, hc]
  have := lowUpTo_get l h
  rw [← this, List.set_getElem_self]
theorem lowUpTo_end (l : List UInt8) {k : Nat} (h : l.length ≤ k) : lowUpTo l k = lowL l := by
  unfold lowUpTo lowL; rw [List.take_of_length_le h, List.drop_of_length_le h, List.append_nil]
theorem lowUpTo_zero (l : List UInt8) : lowUpTo l 0 = l := by simp [lowUpTo]
theorem all_step (p : UInt8 → Bool) (s : ByteArray) {k : Nat} (h : k < s.size) : ((bs s).drop k).all p = (p s[k] && ((bs s).drop (k + 1)).all p) := by
  rw [drop_step s h, List.all_cons]
theorem all_end (p : UInt8 → Bool) (s : ByteArray) {k : Nat} (h : s.size ≤ k) : ((bs s).drop k).all p = true := by rw [drop_end s h]; rfl
/-- A quoted string without its first quote (1.4). -/
def escL (l : List UInt8) : List UInt8 := l.flatMap fun c => if c = 34 ∨ c = 92 then [92, c] else [c]
def quoteL (l : List UInt8) : List UInt8 := 34 :: escL l ++ [34]
theorem escL_length_le (l : List UInt8) : (escL l).length ≤ 2 * l.length := by
  induction l with
  | nil => simp [escL]
  | cons c t ih =>
    rw [show escL (c :: t) = (if c = 34 ∨ c = 92 then [92, c] else [c]) ++ escL t from rfl, List.length_append, List.length_cons]
    split <;> simp <;> omega
theorem escL_step (s : ByteArray) {k : Nat} (h : k < s.size) : escL ((bs s).take (k + 1)) = escL ((bs s).take k) ++ (if s[k] = 34 ∨ s[k] = 92 then [92, s[k]] else [s[k]]) := by
  rw [take_step s h]; simp [escL]
/-- What stands between the quotes, its escapes resolved (1.4). -/
def unq : List UInt8 → Option (List UInt8)
  | [] => some []
  | [c] => if c = 34 ∨ c = 92 then none else some [c]
  | c :: d :: u => if c = 34 then none else if c = 92 then (unq u).map (d :: ·) else (unq (d :: u)).map (c :: ·)
theorem unq_quote (t : List UInt8) : unq (34 :: t) = none := by
  cases t <;> simp [unq]
theorem unq_last : unq [92] = none := by simp [unq]
theorem unq_esc (d : UInt8) (u : List UInt8) : unq (92 :: d :: u) = (unq u).map (d :: ·) := by
  rw [unq, if_neg (by decide), if_pos rfl]
theorem unq_plain (c : UInt8) (t : List UInt8) (h1 : c ≠ 34) (h2 : c ≠ 92) : unq (c :: t) = (unq t).map (c :: ·) := by
  cases t with
  | nil => simp [unq, h1, h2]
  | cons d u => rw [unq, if_neg h1, if_neg h2]
def resU (l acc : List UInt8) : Option (List UInt8) := if textB l then (unq l).map (acc ++ ·) else none
theorem resU_nil (acc : List UInt8) : resU [] acc = some acc := by simp [resU, textB, unq]
theorem resU_quote (t acc : List UInt8) : resU (34 :: t) acc = none := by simp [resU, unq_quote]
theorem resU_last (acc : List UInt8) : resU [92] acc = none := by simp [resU, unq_last]
theorem resU_one (c : UInt8) (l acc l' : List UInt8) (o : Option (List UInt8)) (ht : textB l = (textC c && textB l')) (hu : unq l = o.map (c :: ·)) (ho : o = unq l') : resU l acc = if textC c then resU l' (acc ++ [c]) else none := by
  unfold resU
  rw [ht, hu, ho]
  cases hd : textC c with
  | false => rfl
  | true =>
    cases he : textB l' with
    | false => rfl
    | true =>
      simp only [Bool.true_and, if_true]
      cases unq l' <;> simp
theorem resU_esc (d : UInt8) (u acc : List UInt8) : resU (92 :: d :: u) acc = if textC d then resU u (acc ++ [d]) else none :=
  resU_one d _ acc u _ (by simp only [textB, List.all_cons, show textC 92 = true from by decide, Bool.true_and]) (unq_esc d u) rfl
theorem resU_plain (c : UInt8) (t acc : List UInt8) (h1 : c ≠ 34) (h2 : c ≠ 92) : resU (c :: t) acc = if textC c then resU t (acc ++ [c]) else none :=
  resU_one c _ acc t _ (by simp only [textB, List.all_cons]) (unq_plain c t h1 h2) rfl
/-- A quoted string's content, if it is one. -/
def unquoteL (l : List UInt8) : Option (List UInt8) :=
  if l.length < 2 ∨ l.getD 0 0 ≠ 34 ∨ l.getD (l.length - 1) 0 ≠ 34 then none else resU ((l.drop 1).take (l.length - 2)) []
def unqV : Option (List UInt8) → Value
  | some l => .tuple #[.string ⟨l.toArray⟩, .bool true]
  | none => .tuple #[.string ⟨#[]⟩, .bool false]
theorem unquoteL_bad {s : ByteArray} (h : s.size < 2 ∨ (∃ h0 : 0 < s.size, s[0] ≠ 34) ∨ ∃ h0 : s.size - 1 < s.size, s[s.size - 1] ≠ 34) : unquoteL (bs s) = none := by
  unfold unquoteL
  rw [if_pos]
  rw [bs_length]
  rcases h with h | ⟨h0, h⟩ | ⟨h0, h⟩
  · exact .inl h
  · refine .inr (.inl ?_)
    rw [List.getD_eq_getElem?_getD, List.getElem?_eq_getElem (by rw [bs_length]; exact h0)]; exact h
  · refine .inr (.inr ?_)
    rw [List.getD_eq_getElem?_getD, List.getElem?_eq_getElem (by rw [bs_length]; exact h0)]; exact h
theorem unquoteL_ok {s : ByteArray} (h2 : ¬ s.size < 2) (h0 : s[0] = 34) (h1 : s[s.size - 1] = 34) : unquoteL (bs s) = resU (bs (s.extract 1 (s.size - 1))) [] := by
  unfold unquoteL
  rw [if_neg, bs_length]
  · have : bs (s.extract 1 (s.size - 1)) = (bs s |>.drop 1).take (s.size - 1 - 1) := Lib.extract_data s 1 (s.size - 1)
    rw [this, show s.size - 1 - 1 = s.size - 2 from by omega]
  · rw [bs_length]
    rintro (h | h | h)
    · exact h2 h
    · apply h; rw [List.getD_eq_getElem?_getD, List.getElem?_eq_getElem (by rw [bs_length]; omega)]; exact h0
    · apply h; rw [List.getD_eq_getElem?_getD, List.getElem?_eq_getElem (by rw [bs_length]; omega)]; exact h1
/-- One step over the bytes of t from k on. -/
theorem resU_at (t : ByteArray) {k : Nat} (acc : List UInt8) (h : k < t.size) :
    (t[k] = 34 → resU ((bs t).drop k) acc = none) ∧
    (t[k] = 92 → t.size ≤ k + 1 → resU ((bs t).drop k) acc = none) ∧
    (t[k] = 92 → ∀ h1 : k + 1 < t.size, resU ((bs t).drop k) acc = if textC t[k + 1] then resU ((bs t).drop (k + 2)) (acc ++ [t[k + 1]]) else none) ∧
    (t[k] ≠ 34 → t[k] ≠ 92 → resU ((bs t).drop k) acc = if textC t[k] then resU ((bs t).drop (k + 1)) (acc ++ [t[k]]) else none) := by
  rw [drop_step t h]
  refine ⟨fun e => by rw [e]; exact resU_quote _ _, fun e h1 => by rw [e, drop_end t h1]; exact resU_last _, fun e h1 => by rw [e, drop_step t h1]; exact resU_esc _ _ _, fun e1 e2 => resU_plain _ _ _ e1 e2⟩
theorem resU_end (t : ByteArray) {k : Nat} (acc : List UInt8) (h : t.size ≤ k) : resU ((bs t).drop k) acc = some acc := by rw [drop_end t h]; exact resU_nil acc
theorem textB_false_res {l acc : List UInt8} (h : textB l = false) : resU l acc = none := by simp [resU, h]
theorem textB_at {t : ByteArray} {k : Nat} (h : textB (bs t) = true) (hk : k < t.size) : textC t[k] = true := by
  have : t[k] ∈ bs t := by
    rw [List.mem_iff_getElem]; exact ⟨k, by rw [bs_length]; exact hk, rfl⟩
  exact List.all_eq_true.1 h _ this
end Go.Proofs.YtfnmohaddkoalaaGreatDoor
namespace Go.Proofs.YtfnmohaddkoalaaGreatDoor

/-- A byte within a line. -/
def lineC (c : UInt8) : Bool := c != 13 && c != 10
theorem lineC_no {c : UInt8} : lineC c = false ↔ c = 13 ∨ c = 10 := by unfold lineC; simp only [Bool.and_eq_false_iff, bne_eq_false_iff_eq]
theorem lineC_yes {c : UInt8} : lineC c = true ↔ c ≠ 13 ∧ c ≠ 10 := by unfold lineC; simp
/-- What stands behind a line: the error, 0 if the line has its end. -/
def tailE : List UInt8 → Int
  | [] => 2
  | c :: t => if c = 10 then 1 else match t with | [] => 2 | d :: _ => if d = 10 then 0 else 1
/-- The first line, the bytes that it takes with its end, and the error. -/
def nextL (l : List UInt8) : List UInt8 × Nat × Int :=
  if 2000 < (l.takeWhile lineC).length then ([], 0, 4) else if tailE (l.dropWhile lineC) = 0 then (l.takeWhile lineC, (l.takeWhile lineC).length + 2, 0) else ([], 0, tailE (l.dropWhile lineC))
theorem tailE_end : tailE [] = 2 := rfl
theorem tailE_lf (t : List UInt8) : tailE (10 :: t) = 1 := rfl
theorem tailE_cr : tailE [13] = 2 := by decide
theorem tailE_crlf (t : List UInt8) : tailE (13 :: 10 :: t) = 0 := by unfold tailE; simp
theorem tailE_other {d : UInt8} (t : List UInt8) (h : d ≠ 10) : tailE (13 :: d :: t) = 1 := by unfold tailE; simp [h]
/-- The bytes ahead of the first end of a line. -/
theorem line_split (l : List UInt8) : ∃ a b, l = a ++ b ∧ a = l.takeWhile lineC ∧ b = l.dropWhile lineC ∧ (∀ c ∈ a, lineC c = true) ∧ (b = [] ∨ ∃ c t, b = c :: t ∧ lineC c = false) := by
  refine ⟨_, _, List.takeWhile_append_dropWhile.symm, rfl, rfl, fun c hc => ?_, ?_⟩
  · induction l with
    | nil => cases hc
    | cons x t ih =>
      rw [List.takeWhile_cons] at hc
      by_cases hx : lineC x = true
      · rw [if_pos hx] at hc
        rcases List.mem_cons.1 hc with rfl | hc
        · exact hx
        · exact ih hc
      · rw [if_neg hx] at hc; cases hc
  · induction l with
    | nil => exact .inl rfl
    | cons x t ih =>
      rw [List.dropWhile_cons]
      cases hx : lineC x with
      | true => exact ih
      | false => exact .inr ⟨x, t, rfl, hx⟩
theorem line_at : ∀ {a b : List UInt8}, (∀ c ∈ a, lineC c = true) → (b = [] ∨ ∃ c t, b = c :: t ∧ lineC c = false) → (a ++ b).takeWhile lineC = a ∧ (a ++ b).dropWhile lineC = b
  | [], b, _, hb => by
    rcases hb with rfl | ⟨c, t, rfl, hc⟩
    · exact ⟨rfl, rfl⟩
    · rw [List.nil_append, List.takeWhile_cons_of_neg (by rw [hc]; simp), List.dropWhile_cons_of_neg (by rw [hc]; simp)]
      exact ⟨rfl, rfl⟩
  | x :: a, b, ha, hb => by
    have ih := line_at (a := a) (b := b) (fun c hc => ha c (by simp [hc])) hb
    have hx := ha x (by simp)
    rw [List.cons_append, List.takeWhile_cons_of_pos hx, List.dropWhile_cons_of_pos hx, ih.1, ih.2]
    exact ⟨rfl, rfl⟩
theorem nextL_ok {a : List UInt8} (b : List UInt8) (ha : ∀ c ∈ a, lineC c = true) (hl : a.length ≤ 2000) : nextL (a ++ 13 :: 10 :: b) = (a, a.length + 2, 0) := by
  have h := line_at (a := a) (b := 13 :: 10 :: b) ha (.inr ⟨13, _, rfl, by decide⟩)
  unfold nextL
  rw [h.1, h.2, if_neg (by omega), tailE_crlf, if_pos rfl]
theorem nextL_short {a b : List UInt8} (ha : ∀ c ∈ a, lineC c = true) (hl : a.length ≤ 2000) (hb : b = [] ∨ b = [13]) : nextL (a ++ b) = ([], 0, 2) := by
  have h := line_at (a := a) (b := b) ha (by rcases hb with rfl | rfl; exact .inl rfl; exact .inr ⟨13, [], rfl, by decide⟩)
  unfold nextL
  rw [h.1, h.2, if_neg (by omega)]
  rcases hb with rfl | rfl <;> rfl
theorem nextL_inv {l x : List UInt8} {u : Nat} (h : nextL l = (x, u, 0)) : u = x.length + 2 ∧ u ≤ l.length ∧ x.length ≤ 2000 ∧ (∀ c ∈ x, lineC c = true) ∧ l = x ++ 13 :: 10 :: l.drop u := by
  obtain ⟨a, b, e, ea, eb, ha, hb⟩ := line_split l
  unfold nextL at h
  rw [← ea, ← eb] at h
  split at h
  · simp at h
  · rename_i hl
    split at h
    · rename_i ht
      simp at h
      obtain ⟨rfl, rfl⟩ := h
      rcases hb with rfl | ⟨c, t, rfl, hc⟩
      · rw [tailE_end] at ht; omega
      · rcases lineC_no.1 hc with rfl | rfl
        · cases t with
          | nil => rw [tailE_cr] at ht; omega
          | cons d t =>
            by_cases hd : d = 10
            · subst hd
              refine ⟨rfl, by rw [e]; simp, by omega, ha, ?_⟩
              have : l.drop (a.length + 2) = t := by rw [e, ← List.drop_drop, List.drop_left' rfl]; rfl
              rw [this]; exact e
            · rw [tailE_other t hd] at ht; omega
        · rw [tailE_lf] at ht; omega
    · rename_i ht
      simp at h
      exact absurd h.2.2 ht
/-- A field's line. -/
def formL (n v : List UInt8) : List UInt8 := if v = [] then n ++ [58] else n ++ 58 :: 32 :: v
def validF (n v : List UInt8) : Bool := tokenB n && (textB v && (trimL v == v && decide ((formL n v).length ≤ 2000)))
def formF (n v : List UInt8) : List UInt8 := if validF n v then formL n v else []
theorem formL_len (n v : List UInt8) : (formL n v).length ≤ n.length + v.length + 2 := by unfold formL; split <;> simp <;> omega
/-- The field of a line, and the error. -/
def fieldL (l : List UInt8) : (List UInt8 × List UInt8) × Int :=
  if 2000 < l.length then (([], []), 4) else
  if (cutB 58 l).2.2 && (tokenB (cutB 58 l).1 && textB (cutB 58 l).2.1) then
    (if validF (cutB 58 l).1 (trimL (cutB 58 l).2.1) then (((cutB 58 l).1, trimL (cutB 58 l).2.1), 0) else (([], []), 4)) else (([], []), 1)
theorem fieldL_long {l : List UInt8} (h : 2000 < l.length) : fieldL l = (([], []), 4) := by unfold fieldL; rw [if_pos h]
theorem fieldL_syn {l : List UInt8} (h : ¬ 2000 < l.length) (h1 : ((cutB 58 l).2.2 && (tokenB (cutB 58 l).1 && textB (cutB 58 l).2.1)) = false) : fieldL l = (([], []), 1) := by
  unfold fieldL; rw [if_neg h, h1]; rfl
theorem fieldL_big {l : List UInt8} (h : ¬ 2000 < l.length) (h1 : ((cutB 58 l).2.2 && (tokenB (cutB 58 l).1 && textB (cutB 58 l).2.1)) = true) (h2 : validF (cutB 58 l).1 (trimL (cutB 58 l).2.1) = false) : fieldL l = (([], []), 4) := by
  unfold fieldL; rw [if_neg h, h1, h2]; rfl
theorem fieldL_ok {l : List UInt8} (h : ¬ 2000 < l.length) (h1 : ((cutB 58 l).2.2 && (tokenB (cutB 58 l).1 && textB (cutB 58 l).2.1)) = true) (h2 : validF (cutB 58 l).1 (trimL (cutB 58 l).2.1) = true) : fieldL l = (((cutB 58 l).1, trimL (cutB 58 l).2.1), 0) := by
  unfold fieldL; rw [if_neg h, h1, h2]; rfl
theorem validF_iff {n v : List UInt8} : validF n v = true ↔ tokenB n = true ∧ textB v = true ∧ trimL v = v ∧ (formL n v).length ≤ 2000 := by
  unfold validF; simp
theorem token_no {n : List UInt8} (h : tokenB n = true) {c : UInt8} (hc : partB c = false) : c ∉ n := fun hm => by
  unfold tokenB at h
  rw [Bool.and_eq_true, List.all_eq_true] at h
  rw [h.1 c hm] at hc; cases hc
theorem part_text {c : UInt8} (h : partB c = true) : textC c = true := by
  refine textC_true fun hx => ?_
  rw [partB_iff] at h
  omega
/-- What is written is read. -/
theorem form_back {n v : List UInt8} (h : validF n v = true) : fieldL (formL n v) = ((n, v), 0) := by
  have hv := h
  obtain ⟨h1, h2, h3, h4⟩ := validF_iff.1 h
  have hc : 58 ∉ n := token_no h1 (by decide)
  unfold formL
  split
  · rename_i e; subst e
    have e1 : cutB 58 (n ++ [58]) = (n, [], true) := cutB_hit hc []
    have e2 : trimL [] = ([] : List UInt8) := h3
    have := fieldL_ok (l := n ++ [58]) (by have := h4; unfold formL at this; rw [if_pos rfl] at this; omega) (by rw [e1]; simp [h1, h2]) (by rw [e1, e2]; exact hv)
    rw [this, e1, e2]
  · rename_i e
    have e1 : cutB 58 (n ++ 58 :: 32 :: v) = (n, 32 :: v, true) := cutB_hit hc _
    have e2 : trimL (32 :: v) = v := by
      have := trimL_pad (l := v) (p := [32]) (q := []) (by intro x hx; simp at hx; subst hx; decide) (by simp)
      rw [List.append_nil] at this
      exact this.trans h3
    have e3 : textB (32 :: v) = true := by unfold textB at h2 ⊢; rw [List.all_cons, h2]; decide
    have := fieldL_ok (l := n ++ 58 :: 32 :: v) (by have := h4; unfold formL at this; rw [if_neg e] at this; omega) (by rw [e1]; simp [h1, e3]) (by rw [e1, e2]; exact hv)
    rw [this, e1, e2]
theorem text_line {c : UInt8} (h : textC c = true) : lineC c = true := by
  refine lineC_yes.2 ⟨fun e => ?_, fun e => ?_⟩ <;> (subst e; revert h; decide)
theorem form_line {n v : List UInt8} (h : validF n v = true) : (∀ c ∈ formL n v, lineC c = true) ∧ formL n v ≠ [] ∧ (formL n v).length ≤ 2000 := by
  obtain ⟨h1, h2, _, h4⟩ := validF_iff.1 h
  have hn : ∀ c ∈ n, lineC c = true := fun c hc => by
    unfold tokenB at h1
    rw [Bool.and_eq_true, List.all_eq_true] at h1
    exact text_line (part_text (h1.1 c hc))
  have hv : ∀ c ∈ v, lineC c = true := fun c hc => by
    unfold textB at h2
    rw [List.all_eq_true] at h2
    exact text_line (h2 c hc)
  refine ⟨fun c hc => ?_, ?_, h4⟩
  · unfold formL at hc
    split at hc
    · rcases List.mem_append.1 hc with hc | hc
      · exact hn c hc
      · simp at hc; subst hc; decide
    · rcases List.mem_append.1 hc with hc | hc
      · exact hn c hc
      · simp only [List.mem_cons] at hc
        rcases hc with rfl | rfl | hc
        · decide
        · decide
        · exact hv c hc
  · unfold formL; split <;> simp
end Go.Proofs.YtfnmohaddkoalaaGreatDoor
namespace Go.Proofs.YtfnmohaddkoalaaGreatDoor

/-- The value of a hexadecimal digit, or -1. -/
def hexV (c : UInt8) : Int :=
  if 48 ≤ c.toNat ∧ c.toNat ≤ 57 then (c.toNat : Int) - 48 else if 97 ≤ c.toNat ∧ c.toNat ≤ 102 then (c.toNat : Int) - 87 else if 65 ≤ c.toNat ∧ c.toNat ≤ 70 then (c.toNat : Int) - 55 else -1
theorem hexV_bd (c : UInt8) : hexV c = -1 ∨ 0 ≤ hexV c ∧ hexV c ≤ 15 := by
  unfold hexV
  split
  · right; omega
  · split
    · right; omega
    · split
      · right; omega
      · exact .inl rfl
end Go.Proofs.YtfnmohaddkoalaaGreatDoor
namespace Go.Proofs.YtfnmohaddkoalaaGreatDoor

/-- The number of hexadecimal digits, from a number on. -/
def hexGo : List UInt8 → Nat → Option Nat
  | [], n => some n
  | c :: t, n => if hexV c < 0 then none else hexGo t (16 * n + (hexV c).toNat)
theorem hexGo_at (s : ByteArray) {k : Nat} (n : Nat) (h : k < s.size) : hexGo ((bs s).drop k) n = if hexV s[k] < 0 then none else hexGo ((bs s).drop (k + 1)) (16 * n + (hexV s[k]).toNat) := by
  rw [drop_step s h, hexGo]
theorem hexGo_end (s : ByteArray) {k : Nat} (n : Nat) (h : s.size ≤ k) : hexGo ((bs s).drop k) n = some n := by rw [drop_end s h, hexGo]
theorem hexGo_none : ∀ {l : List UInt8} (n : Nat), (∃ c ∈ l, hexV c < 0) → hexGo l n = none
  | [], n, h => by obtain ⟨c, hc, _⟩ := h; cases hc
  | x :: t, n, h => by
    rw [hexGo]
    split
    · rfl
    · rename_i hx
      obtain ⟨c, hc, hn⟩ := h
      rcases List.mem_cons.1 hc with rfl | hc
      · exact absurd hn hx
      · exact hexGo_none _ ⟨c, hc, hn⟩
theorem hexGo_bd : ∀ (l : List UInt8) (n m : Nat), hexGo l n = some m → m + 1 ≤ (n + 1) * 16 ^ l.length
  | [], n, m, h => by rw [hexGo] at h; cases h; simp
  | c :: t, n, m, h => by
    rw [hexGo] at h
    split at h
    · cases h
    · have hb := hexV_bd c
      have := hexGo_bd t _ m h
      rw [List.length_cons, Nat.pow_succ]
      have h2 : 16 * n + (hexV c).toNat + 1 ≤ (n + 1) * 16 := by omega
      calc m + 1 ≤ (16 * n + (hexV c).toNat + 1) * 16 ^ t.length := this
        _ ≤ ((n + 1) * 16) * 16 ^ t.length := Nat.mul_le_mul_right _ h2
        _ = (n + 1) * (16 ^ t.length * 16) := by rw [Nat.mul_assoc, Nat.mul_comm 16]
/-- The size on the line ahead of a chunk. -/
def sizeL (l : List UInt8) : Option Nat :=
  if (cutB 59 l).1.isEmpty || (decide (8 < (cutB 59 l).1.length) || !textB (cutB 59 l).2.1) then none else hexGo (cutB 59 l).1 0
theorem sizeL_no {l : List UInt8} (h : ((cutB 59 l).1.isEmpty || (decide (8 < (cutB 59 l).1.length) || !textB (cutB 59 l).2.1)) = true) : sizeL l = none := by unfold sizeL; rw [h]; rfl
theorem sizeL_go {l : List UInt8} (h : ((cutB 59 l).1.isEmpty || (decide (8 < (cutB 59 l).1.length) || !textB (cutB 59 l).2.1)) = false) : sizeL l = hexGo (cutB 59 l).1 0 := by unfold sizeL; rw [h]; rfl
theorem sizeL_bd {l : List UInt8} {m : Nat} (h : sizeL l = some m) : m < 4294967296 := by
  unfold sizeL at h
  split at h
  · cases h
  · rename_i hc
    have h8 : (cutB 59 l).1.length ≤ 8 := by
      rcases Nat.lt_or_ge 8 (cutB 59 l).1.length with h8 | h8
      · exfalso; apply hc; simp [h8]
      · exact h8
    have := hexGo_bd _ 0 m h
    have h16 : 16 ^ (cutB 59 l).1.length ≤ 16 ^ 8 := Nat.pow_le_pow_right (by omega) h8
    have e : (16 : Nat) ^ 8 = 4294967296 := by decide
    omega
/-- What must stand behind a chunk. -/
def endE (l : List UInt8) : Int := if l = [] ∨ l = [13] then 2 else if l.take 2 = [13, 10] then 0 else 1
/-- The fields behind the content: the bytes up to their end, and the error. -/
def trGo : Nat → Nat → List UInt8 → Nat → Nat × Int
  | 0, _, _, _ => (0, 2)
  | f + 1, n, l, a =>
    if (nextL l).2.2 ≠ 0 then (0, (nextL l).2.2) else if (nextL l).1 = [] then (a + (nextL l).2.1, 0) else if n = 64 then (0, 4) else
    if (fieldL (nextL l).1).2 ≠ 0 then (0, (fieldL (nextL l).1).2) else trGo f (n + 1) (l.drop (nextL l).2.1) (a + (nextL l).2.1)
def trailL (l : List UInt8) (a : Nat) : Nat × Int := trGo (l.length + 1) 0 l a
/-- A chunked body from a place on: the body, the bytes that it takes, and the error. -/
def decGo : Nat → List UInt8 → List UInt8 → Nat → List UInt8 × Nat × Int
  | 0, _, _, _ => ([], 0, 2)
  | f + 1, l, b, a =>
    if (nextL l).2.2 ≠ 0 then ([], 0, (nextL l).2.2) else
    match sizeL (nextL l).1 with
    | none => ([], 0, 1)
    | some k =>
      if 100000 < b.length + k then ([], 0, 5) else
      if k = 0 then (if (trailL (l.drop (nextL l).2.1) (a + (nextL l).2.1)).2 = 0 then (b, (trailL (l.drop (nextL l).2.1) (a + (nextL l).2.1)).1, 0) else ([], 0, (trailL (l.drop (nextL l).2.1) (a + (nextL l).2.1)).2)) else
      if l.length < (nextL l).2.1 + k then ([], 0, 2) else
      if endE (l.drop ((nextL l).2.1 + k)) ≠ 0 then ([], 0, endE (l.drop ((nextL l).2.1 + k))) else
      decGo f (l.drop ((nextL l).2.1 + k + 2)) (b ++ (l.drop (nextL l).2.1).take k) (a + (nextL l).2.1 + k + 2)
def decL (l : List UInt8) : List UInt8 × Nat × Int := decGo (l.length + 1) l [] 0
def decV (r : List UInt8 × Nat × Int) : Value := .tuple #[.string ⟨r.1.toArray⟩, .int .i64 r.2.1, .int .i64 r.2.2]
/-- A lower-case hexadecimal digit. -/
def lowD (n : Nat) : UInt8 := if n < 10 then UInt8.ofNat (48 + n) else UInt8.ofNat (87 + n)
/-- The digits of a number. -/
def hexN (u : Nat) : List UInt8 := if _h : u < 16 then [lowD u] else hexN (u / 16) ++ [lowD (u % 16)]
def encGo : Nat → Nat → List UInt8 → List UInt8
  | 0, _, _ => [48, 13, 10, 13, 10]
  | f + 1, n, l => if l = [] then [48, 13, 10, 13, 10] else hexN (min n l.length) ++ 13 :: 10 :: (l.take (min n l.length) ++ 13 :: 10 :: encGo f n (l.drop (min n l.length)))
/-- A body in chunks. -/
def encL (l : List UInt8) (n : Int) : List UInt8 := encGo (l.length + 1) (if n < 1 then l.length else n.toNat) l

theorem lowD_val {n : Nat} (h : n < 16) : ((lowD n).toNat : Int) = if n < 10 then 48 + (n : Int) else 87 + (n : Int) := by
  unfold lowD
  split <;> (simp; omega)
theorem hexV_lowD {n : Nat} (h : n < 16) : hexV (lowD n) = n := by
  have hv := lowD_val h
  unfold hexV
  split at hv
  · rw [if_pos (by omega)]; omega
  · rw [if_neg (by omega), if_pos (by omega)]; omega
theorem hexN_one {u : Nat} (h : u < 16) : hexN u = [lowD u] := by rw [hexN, dif_pos h]
theorem hexN_more {u : Nat} (h : ¬ u < 16) : hexN u = hexN (u / 16) ++ [lowD (u % 16)] := by rw [hexN, dif_neg h]
theorem hexN_mem : ∀ (n u : Nat), u ≤ n → ∀ c ∈ hexN u, ∃ d, d < 16 ∧ c = lowD d
  | n, u, hn, c, hc => by
    by_cases h : u < 16
    · rw [hexN_one h] at hc; simp at hc; exact ⟨u, h, hc⟩
    · rw [hexN_more h] at hc
      cases n with
      | zero => omega
      | succ n =>
        rcases List.mem_append.1 hc with hc | hc
        · exact hexN_mem n (u / 16) (by omega) c hc
        · simp at hc; exact ⟨u % 16, by omega, hc⟩
theorem lowD_ne {d : Nat} (hd : d < 16) {c : UInt8} (hc : c.toNat < 48) : lowD d ≠ c := fun e => by
  have := lowD_val hd
  rw [e] at this
  split at this <;> omega
theorem lowD_no {d : Nat} (hd : d < 16) : lowD d ≠ 59 := fun e => by
  have := lowD_val hd
  have e2 : (59 : UInt8).toNat = 59 := rfl
  rw [e, e2] at this
  split at this <;> omega
theorem hexN_line (u : Nat) : ∀ c ∈ hexN u, lineC c = true := fun c hc => by
  obtain ⟨d, hd, rfl⟩ := hexN_mem _ u (Nat.le_refl _) c hc
  exact lineC_yes.2 ⟨lowD_ne hd (by decide), lowD_ne hd (by decide)⟩
theorem hexN_semi (u : Nat) : 59 ∉ hexN u := fun hc => by
  obtain ⟨d, hd, e⟩ := hexN_mem _ u (Nat.le_refl _) 59 hc
  exact lowD_no hd e.symm
theorem hexN_ne (u : Nat) : hexN u ≠ [] := by
  by_cases h : u < 16
  · rw [hexN_one h]; simp
  · rw [hexN_more h]; simp
theorem hexN_len : ∀ (k u : Nat), 0 < k → u < 16 ^ k → (hexN u).length ≤ k
  | 0, u, h, _ => by omega
  | k + 1, u, _, h => by
    by_cases hu : u < 16
    · rw [hexN_one hu]; simp
    · have hk : 0 < k := by
        rcases Nat.eq_zero_or_pos k with rfl | h'
        · simp at h; omega
        · exact h'
      have := hexN_len k (u / 16) hk (by rw [Nat.pow_succ] at h; omega)
      rw [hexN_more hu]; simp; omega
theorem hexGo_app : ∀ (a b : List UInt8) (n : Nat), hexGo (a ++ b) n = (hexGo a n).bind (hexGo b)
  | [], b, n => by rw [List.nil_append, hexGo]; rfl
  | c :: t, b, n => by
    rw [List.cons_append, hexGo, hexGo]
    split
    · rfl
    · exact hexGo_app t b _
theorem hexGo_dig {d : Nat} (h : d < 16) (n : Nat) : hexGo [lowD d] n = some (16 * n + d) := by
  rw [hexGo, hexV_lowD h, if_neg (by omega), hexGo]; simp
theorem hexGo_hexN : ∀ (n u : Nat), u ≤ n → hexGo (hexN u) 0 = some u
  | n, u, hn => by
    by_cases h : u < 16
    · rw [hexN_one h, hexGo_dig h]; simp
    · cases n with
      | zero => omega
      | succ n =>
        rw [hexN_more h, hexGo_app, hexGo_hexN n (u / 16) (by omega)]
        show hexGo [lowD (u % 16)] (u / 16) = some u
        rw [hexGo_dig (by omega)]
        congr 1; omega
theorem size_hex {u : Nat} (h : u < 4294967296) : sizeL (hexN u) = some u := by
  have hc := cutB_miss (hexN_semi u)
  have hl := hexN_len 8 u (by omega) (by have : (16 : Nat) ^ 8 = 4294967296 := by decide
                                         omega)
  have he : (hexN u).isEmpty = false := by cases hx : hexN u with | nil => exact absurd hx (hexN_ne u) | cons => rfl
  rw [sizeL_go (by rw [hc, he]; simp [textB]; exact hl), hc]
  exact hexGo_hexN _ u (Nat.le_refl _)
/-- One step of the reading. -/
theorem decGo_err {f : Nat} {l b : List UInt8} {a : Nat} (h : (nextL l).2.2 ≠ 0) : decGo (f + 1) l b a = ([], 0, (nextL l).2.2) := by rw [decGo, if_pos h]
theorem decGo_size {f : Nat} {l b x : List UInt8} {a u : Nat} (h : nextL l = (x, u, 0)) (hs : sizeL x = none) : decGo (f + 1) l b a = ([], 0, 1) := by rw [decGo, h, if_neg (by simp), hs]
theorem decGo_big {f : Nat} {l b x : List UInt8} {a u k : Nat} (h : nextL l = (x, u, 0)) (hs : sizeL x = some k) (hb : 100000 < b.length + k) : decGo (f + 1) l b a = ([], 0, 5) := by
  rw [decGo, h, if_neg (by simp), hs]; exact if_pos hb
theorem decGo_last {f : Nat} {l b x : List UInt8} {a u : Nat} (h : nextL l = (x, u, 0)) (hs : sizeL x = some 0) (hb : ¬ 100000 < b.length + 0) (ht : (trailL (l.drop u) (a + u)).2 = 0) : decGo (f + 1) l b a = (b, (trailL (l.drop u) (a + u)).1, 0) := by
  rw [decGo, h, if_neg (by simp), hs]
  show (if 100000 < b.length + 0 then _ else _) = _
  rw [if_neg hb, if_pos rfl]; exact if_pos ht
theorem decGo_trail {f : Nat} {l b x : List UInt8} {a u : Nat} (h : nextL l = (x, u, 0)) (hs : sizeL x = some 0) (hb : ¬ 100000 < b.length + 0) (ht : (trailL (l.drop u) (a + u)).2 ≠ 0) : decGo (f + 1) l b a = ([], 0, (trailL (l.drop u) (a + u)).2) := by
  rw [decGo, h, if_neg (by simp), hs]
  show (if 100000 < b.length + 0 then _ else _) = _
  rw [if_neg hb, if_pos rfl]; exact if_neg ht
theorem decGo_short {f : Nat} {l b x : List UInt8} {a u k : Nat} (h : nextL l = (x, u, 0)) (hs : sizeL x = some k) (hb : ¬ 100000 < b.length + k) (hk : k ≠ 0) (hl : l.length < u + k) : decGo (f + 1) l b a = ([], 0, 2) := by
  rw [decGo, h, if_neg (by simp), hs]
  show (if 100000 < b.length + k then _ else _) = _
  rw [if_neg hb, if_neg hk]; exact if_pos hl
theorem decGo_end {f : Nat} {l b x : List UInt8} {a u k : Nat} (h : nextL l = (x, u, 0)) (hs : sizeL x = some k) (hb : ¬ 100000 < b.length + k) (hk : k ≠ 0) (hl : ¬ l.length < u + k) (he : endE (l.drop (u + k)) ≠ 0) : decGo (f + 1) l b a = ([], 0, endE (l.drop (u + k))) := by
  rw [decGo, h, if_neg (by simp), hs]
  show (if 100000 < b.length + k then _ else _) = _
  rw [if_neg hb, if_neg hk]
  show (if l.length < u + k then _ else _) = _
  rw [if_neg hl]; exact if_pos he
theorem decGo_step {f : Nat} {l b x : List UInt8} {a u k : Nat} (h : nextL l = (x, u, 0)) (hs : sizeL x = some k) (hb : ¬ 100000 < b.length + k) (hk : k ≠ 0) (hl : ¬ l.length < u + k) (he : endE (l.drop (u + k)) = 0) :
    decGo (f + 1) l b a = decGo f (l.drop (u + k + 2)) (b ++ (l.drop u).take k) (a + u + k + 2) := by
  rw [decGo, h, if_neg (by simp), hs]
  show (if 100000 < b.length + k then _ else _) = _
  rw [if_neg hb, if_neg hk]
  show (if l.length < u + k then _ else _) = _
  rw [if_neg hl]
  show (if endE (l.drop (u + k)) ≠ 0 then _ else _) = _
  rw [if_neg (by rw [he]; simp)]
theorem trGo_err {f n : Nat} {l : List UInt8} {a : Nat} (h : (nextL l).2.2 ≠ 0) : trGo (f + 1) n l a = (0, (nextL l).2.2) := by rw [trGo, if_pos h]
theorem trGo_end {f n : Nat} {l : List UInt8} {a u : Nat} (h : nextL l = ([], u, 0)) : trGo (f + 1) n l a = (a + u, 0) := by rw [trGo, h, if_neg (by simp), if_pos rfl]
theorem trGo_many {f : Nat} {l x : List UInt8} {a u : Nat} (h : nextL l = (x, u, 0)) (hx : x ≠ []) : trGo (f + 1) 64 l a = (0, 4) := by
  rw [trGo, h, if_neg (by simp)]
  show (if x = [] then _ else _) = _
  rw [if_neg hx, if_pos rfl]
theorem trGo_bad {f n : Nat} {l x : List UInt8} {a u : Nat} (h : nextL l = (x, u, 0)) (hx : x ≠ []) (hn : n ≠ 64) (hf : (fieldL x).2 ≠ 0) : trGo (f + 1) n l a = (0, (fieldL x).2) := by
  rw [trGo, h, if_neg (by simp)]
  show (if x = [] then _ else _) = _
  rw [if_neg hx, if_neg hn]; exact if_pos hf
theorem trGo_step {f n : Nat} {l x : List UInt8} {a u : Nat} (h : nextL l = (x, u, 0)) (hx : x ≠ []) (hn : n ≠ 64) (hf : (fieldL x).2 = 0) : trGo (f + 1) n l a = trGo f (n + 1) (l.drop u) (a + u) := by
  rw [trGo, h, if_neg (by simp)]
  show (if x = [] then _ else _) = _
  rw [if_neg hx, if_neg hn]
  show (if (fieldL x).2 ≠ 0 then _ else _) = _
  rw [if_neg (by rw [hf]; simp)]
end Go.Proofs.YtfnmohaddkoalaaGreatDoor
namespace Go.Proofs.YtfnmohaddkoalaaGreatDoor

theorem endE_ok (l : List UInt8) : endE (13 :: 10 :: l) = 0 := by unfold endE; rw [if_neg (by simp), if_pos (by simp)]
/-- A chunk ahead of the rest. -/
theorem dec_chunk {f : Nat} {x c rest b : List UInt8} {a : Nat} (hx : ∀ y ∈ x, lineC y = true) (hl : x.length ≤ 2000) (hs : sizeL x = some c.length) (hc : c ≠ []) (hb : b.length + c.length ≤ 100000) :
    decGo (f + 1) (x ++ 13 :: 10 :: (c ++ 13 :: 10 :: rest)) b a = decGo f rest (b ++ c) (a + (x.length + 2) + c.length + 2) := by
  have hn := nextL_ok (a := x) (c ++ 13 :: 10 :: rest) hx hl
  have hk : c.length ≠ 0 := fun h => hc (List.length_eq_zero_iff.1 h)
  have hd : (x ++ 13 :: 10 :: (c ++ 13 :: 10 :: rest)).drop (x.length + 2) = c ++ 13 :: 10 :: rest := by rw [← List.drop_drop, List.drop_left' rfl]; rfl
  have hd2 : (x ++ 13 :: 10 :: (c ++ 13 :: 10 :: rest)).drop (x.length + 2 + c.length) = 13 :: 10 :: rest := by rw [← List.drop_drop, hd, List.drop_left' rfl]
  have hd3 : (x ++ 13 :: 10 :: (c ++ 13 :: 10 :: rest)).drop (x.length + 2 + c.length + 2) = rest := by rw [← List.drop_drop, hd2]; rfl
  rw [decGo_step hn hs (by omega) hk (by simp; omega) (by rw [hd2]; exact endE_ok _), hd, hd3, List.take_left' rfl]
theorem trail_crlf (more : List UInt8) (a : Nat) : trailL (13 :: 10 :: more) a = (a + 2, 0) := by
  unfold trailL
  exact trGo_end (nextL_ok (a := []) more (by simp) (by simp))
theorem dec_last {f : Nat} {x rest b : List UInt8} {a : Nat} (hx : ∀ y ∈ x, lineC y = true) (hl : x.length ≤ 2000) (hs : sizeL x = some 0) (hb : b.length ≤ 100000) (ht : (trailL rest (a + (x.length + 2))).2 = 0) :
    decGo (f + 1) (x ++ 13 :: 10 :: rest) b a = (b, (trailL rest (a + (x.length + 2))).1, 0) := by
  have hn := nextL_ok (a := x) rest hx hl
  have hd : (x ++ 13 :: 10 :: rest).drop (x.length + 2) = rest := by rw [← List.drop_drop, List.drop_left' rfl]; rfl
  have := decGo_last (f := f) (l := x ++ 13 :: 10 :: rest) (b := b) (a := a) hn hs (by omega) (by rw [hd]; exact ht)
  rw [hd] at this; exact this
theorem zero_line : ∀ y ∈ ([48] : List UInt8), lineC y = true := by decide
theorem size_zero : sizeL [48] = some 0 := by decide
theorem enc_nil (f n : Nat) : encGo f n [] = [48, 13, 10, 13, 10] := by cases f <;> simp [encGo]
theorem enc_step {f n : Nat} {l : List UInt8} (h : l ≠ []) : encGo (f + 1) n l = hexN (min n l.length) ++ 13 :: 10 :: (l.take (min n l.length) ++ 13 :: 10 :: encGo f n (l.drop (min n l.length))) := by rw [encGo, if_neg h]
theorem chunk_facts {n : Nat} {l : List UInt8} (h : l ≠ []) (hn : 0 < n) (hl : l.length ≤ 100000) : (l.take (min n l.length)).length = min n l.length ∧ l.take (min n l.length) ≠ [] ∧ sizeL (hexN (min n l.length)) = some (l.take (min n l.length)).length ∧ (hexN (min n l.length)).length ≤ 2000 := by
  have hp : 0 < l.length := List.length_pos_iff.2 h
  have h1 : (l.take (min n l.length)).length = min n l.length := by rw [List.length_take]; omega
  refine ⟨h1, fun e => by rw [e] at h1; simp at h1; omega, by rw [h1]; exact size_hex (by omega), ?_⟩
  have := hexN_len 8 (min n l.length) (by omega) (by have : (16 : Nat) ^ 8 = 4294967296 := by decide
                                                     omega)
  omega
/-- What is written is read, whatever follows. -/
theorem dec_enc (n : Nat) (hn : 0 < n) (more : List UInt8) : ∀ (f g : Nat) (l b : List UInt8) (a : Nat), (encGo g n l).length < f → l.length < g → b.length + l.length ≤ 100000 →
    decGo f (encGo g n l ++ more) b a = (b ++ l, a + (encGo g n l).length, 0)
  | 0, _, l, _, _, h, _, _ => by omega
  | _ + 1, 0, l, _, _, _, h, _ => by omega
  | f + 1, g + 1, l, b, a, hf, hg, hb => by
    by_cases hl : l = []
    · subst hl
      rw [enc_nil]
      show decGo (f + 1) ([48] ++ 13 :: 10 :: 13 :: 10 :: more) b a = _
      have ht := trail_crlf more (a + 3)
      have := dec_last (f := f) (x := [48]) (rest := 13 :: 10 :: more) (b := b) (a := a) zero_line (by simp) size_zero (by omega) (by show (trailL _ (a + 3)).2 = 0; rw [ht])
      rw [this]
      show (b, (trailL _ (a + 3)).1, (0 : Int)) = _
      rw [ht]; simp
    · obtain ⟨h1, h2, h3, h4⟩ := chunk_facts (n := n) hl hn (by omega)
      have hp : 0 < l.length := List.length_pos_iff.2 hl
      rw [enc_step hl]
      have e : hexN (min n l.length) ++ 13 :: 10 :: (l.take (min n l.length) ++ 13 :: 10 :: encGo g n (l.drop (min n l.length))) ++ more =
        hexN (min n l.length) ++ 13 :: 10 :: (l.take (min n l.length) ++ 13 :: 10 :: (encGo g n (l.drop (min n l.length)) ++ more)) := by simp
      have hd : (l.drop (min n l.length)).length = l.length - min n l.length := List.length_drop
      have hpos : 0 < min n l.length := by omega
      rw [enc_step hl] at hf
      simp at hf
      rw [e, dec_chunk (hexN_line _) h4 h3 h2 (by rw [h1]; omega), dec_enc n hn more f g _ _ _ (by omega) (by omega) (by rw [List.length_append, h1, hd]; omega)]
      rw [List.append_assoc, List.take_append_drop]
      congr 2
      simp [h1]; omega
/-- Every proper beginning of what is written ends too early. -/
theorem dec_cut (n : Nat) (hn : 0 < n) : ∀ (f g : Nat) (l b : List UInt8) (a i : Nat), i < f → l.length < g → b.length + l.length ≤ 100000 → i < (encGo g n l).length →
    decGo f ((encGo g n l).take i) b a = ([], 0, 2)
  | 0, _, l, _, _, _, h, _, _, _ => by omega
  | _ + 1, 0, l, _, _, _, _, h, _, _ => by omega
  | f + 1, g + 1, l, b, a, i, hf, hg, hb, hi => by
    have short : ∀ (x r : List UInt8), (∀ y ∈ x, lineC y = true) → x.length ≤ 2000 → i < x.length + 2 → decGo (f + 1) ((x ++ 13 :: 10 :: r).take i) b a = ([], 0, 2) := by
      intro x r hx hx2 hlt
      have hs : nextL ((x ++ 13 :: 10 :: r).take i) = ([], 0, 2) := by
        by_cases h1 : i ≤ x.length
        · rw [List.take_append_of_le_length h1]
          have := nextL_short (a := x.take i) (b := []) (fun c hc => hx c (List.mem_of_mem_take hc)) (by rw [List.length_take]; omega) (.inl rfl)
          rwa [List.append_nil] at this
        · have e : i = x.length + 1 := by omega
          subst e
          have e2 : (x ++ 13 :: 10 :: r).take (x.length + 1) = x ++ [13] := by rw [List.take_append]; simp; exact List.take_of_length_le (by omega)
          rw [e2]
          exact nextL_short hx hx2 (.inr rfl)
      rw [decGo_err (by rw [hs]; simp), hs]
    by_cases hl : l = []
    · subst hl
      rw [enc_nil] at hi ⊢
      simp at hi
      have h0 : ([48, 13, 10, 13, 10] : List UInt8) = [48] ++ 13 :: 10 :: [13, 10] := rfl
      by_cases h3 : i < 3
      · rw [h0]; exact short [48] [13, 10] zero_line (by simp) (by simpa using h3)
      · have hn0 : nextL (([48, 13, 10, 13, 10] : List UInt8).take i) = ([48], 3, 0) := by
          rcases (show i = 3 ∨ i = 4 from by omega) with rfl | rfl <;> decide
        have ht : (trailL ((([48, 13, 10, 13, 10] : List UInt8).take i).drop 3) (a + 3)).2 = 2 := by
          rcases (show i = 3 ∨ i = 4 from by omega) with rfl | rfl
          · show (trGo 1 0 [] (a + 3)).2 = 2
            rw [trGo_err (by decide)]; rfl
          · show (trGo 2 0 [13] (a + 3)).2 = 2
            rw [trGo_err (by decide)]; decide
        rw [decGo_trail hn0 size_zero (by omega) (by rw [ht]; simp), ht]
    · obtain ⟨h1, h2, h3, h4⟩ := chunk_facts (n := n) hl hn (by omega)
      have hp : 0 < l.length := List.length_pos_iff.2 hl
      have hpos : 0 < min n l.length := by omega
      rw [enc_step hl] at hi ⊢
      obtain ⟨x, hx⟩ : ∃ x, x = hexN (min n l.length) := ⟨_, rfl⟩
      obtain ⟨c, hc⟩ : ∃ c, c = l.take (min n l.length) := ⟨_, rfl⟩
      obtain ⟨r, hr⟩ : ∃ r, r = encGo g n (l.drop (min n l.length)) := ⟨_, rfl⟩
      have hxl : ∀ y ∈ x, lineC y = true := by rw [hx]; exact hexN_line _
      rw [← hx, ← hc, ← hr] at hi ⊢
      rw [← hx, ← hc] at h3
      rw [← hx] at h4
      rw [← hc] at h1 h2
      by_cases g1 : i < x.length + 2
      · exact short x _ hxl h4 g1
      · -- the line stands whole
        obtain ⟨j, rfl⟩ : ∃ j, i = x.length + 2 + j := ⟨i - (x.length + 2), by omega⟩
        have e1 : (x ++ 13 :: 10 :: (c ++ 13 :: 10 :: r)).take (x.length + 2 + j) = x ++ 13 :: 10 :: (c ++ 13 :: 10 :: r).take j := by
          rw [List.take_append, show x.length + 2 + j - x.length = j + 1 + 1 from by omega, List.take_succ_cons, List.take_succ_cons, List.take_of_length_le (by omega)]
        rw [e1]
        have hnx := nextL_ok (a := x) ((c ++ 13 :: 10 :: r).take j) hxl h4
        have hd : (x ++ 13 :: 10 :: (c ++ 13 :: 10 :: r).take j).drop (x.length + 2) = (c ++ 13 :: 10 :: r).take j := by rw [← List.drop_drop, List.drop_left' rfl]; rfl
        have hk : c.length ≠ 0 := by omega
        have hbk : ¬ 100000 < b.length + c.length := by omega
        simp at hi
        by_cases g2 : j < c.length
        · exact decGo_short hnx h3 hbk hk (by simp; omega)
        · obtain ⟨m, rfl⟩ : ∃ m, j = c.length + m := ⟨j - c.length, by omega⟩
          have e2 : (c ++ 13 :: 10 :: r).take (c.length + m) = c ++ (13 :: 10 :: r).take m := by
            rw [List.take_append, show c.length + m - c.length = m from by omega, List.take_of_length_le (by omega)]
          rw [e2] at hd hnx ⊢
          have hd2 : (x ++ 13 :: 10 :: (c ++ (13 :: 10 :: r).take m)).drop (x.length + 2 + c.length) = (13 :: 10 :: r).take m := by rw [← List.drop_drop, hd, List.drop_left' rfl]
          by_cases g3 : m < 2
          · have he : endE ((13 :: 10 :: r).take m) = 2 := by
              rcases (show m = 0 ∨ m = 1 from by omega) with rfl | rfl
              · rw [List.take_zero]; decide
              · rw [show (13 :: 10 :: r).take 1 = [(13 : UInt8)] from rfl]; decide
            rw [decGo_end hnx h3 hbk hk (by simp; omega) (by rw [hd2, he]; simp), hd2, he]
          · obtain ⟨q, rfl⟩ : ∃ q, m = q + 1 + 1 := ⟨m - 2, by omega⟩
            rw [List.take_succ_cons, List.take_succ_cons]
            have hdl : (l.drop (min n l.length)).length = l.length - min n l.length := List.length_drop
            rw [dec_chunk hxl h4 h3 h2 (by omega), hr]
            exact dec_cut n hn f g _ _ _ q (by omega) (by omega) (by rw [List.length_append, h1, hdl]; omega) (by rw [← hr]; omega)
theorem enc_pos (l : List UInt8) (n : Int) : l = [] ∨ 0 < (if n < 1 then l.length else n.toNat) := by
  by_cases h : l = []
  · exact .inl h
  · right
    have := List.length_pos_iff.2 h
    split <;> omega
theorem dec_back (l more : List UInt8) (n : Int) (h : l.length ≤ 100000) : decL (encL l n ++ more) = (l, (encL l n).length, 0) := by
  unfold decL encL
  rcases enc_pos l n with rfl | hp
  · rw [enc_nil, ← enc_nil 1 1]
    have := dec_enc 1 (by omega) more ((encGo 1 1 [] ++ more).length + 1) 1 [] [] 0 (by simp; omega) (by simp) (by simp)
    rw [this]; simp
  · have := dec_enc _ hp more ((encGo (l.length + 1) (if n < 1 then l.length else n.toNat) l ++ more).length + 1) (l.length + 1) l [] 0 (by simp; omega) (by omega) (by simp; omega)
    rw [this]; simp
theorem dec_early (l : List UInt8) (n : Int) (i : Nat) (h : l.length ≤ 100000) (hi : i < (encL l n).length) : decL ((encL l n).take i) = ([], 0, 2) := by
  unfold decL encL at *
  rcases enc_pos l n with rfl | hp
  · rw [enc_nil, ← enc_nil 1 1] at hi ⊢
    exact dec_cut 1 (by omega) _ 1 [] [] 0 i (by rw [List.length_take]; omega) (by simp) (by simp) hi
  · exact dec_cut _ hp _ (l.length + 1) l [] 0 i (by rw [List.length_take]; omega) (by omega) (by simp; omega) hi
theorem enc_ne (l : List UInt8) (n : Int) : encL l n ≠ [] := by
  unfold encL
  by_cases h : l = []
  · subst h; rw [enc_nil]; simp
  · rw [enc_step h]
    exact fun e => hexN_ne _ (List.append_eq_nil_iff.1 e).1
/-- Extensions, leading zeros and fields behind the content. -/
theorem hexGo_zeros : ∀ (z : Nat) (l : List UInt8), hexGo (List.replicate z 48 ++ l) 0 = hexGo l 0
  | 0, l => rfl
  | z + 1, l => by
    rw [List.replicate_succ, List.cons_append, hexGo, if_neg (by decide)]
    exact hexGo_zeros z l
theorem text_all {l : List UInt8} (h : textB l = true) : ∀ c ∈ l, lineC c = true := fun c hc => by
  unfold textB at h
  rw [List.all_eq_true] at h
  exact text_line (h c hc)
theorem size_ext {d ext : List UInt8} {k : Nat} (hd : 59 ∉ d) (h0 : d ≠ []) (h8 : d.length ≤ 8) (he : textB ext = true) (hk : hexGo d 0 = some k) : sizeL (d ++ 59 :: ext) = some k := by
  have hc := cutB_hit hd ext
  have hn : d.isEmpty = false := by cases d with | nil => exact absurd rfl h0 | cons => rfl
  rw [sizeL_go (by rw [hc]; simp [hn, he]; exact h8), hc]; exact hk
def detL (body ext n v : List UInt8) (z : Nat) : List UInt8 :=
  (List.replicate z 48 ++ hexN body.length ++ 59 :: ext) ++ 13 :: 10 :: (body ++ 13 :: 10 :: (([48, 48] ++ 59 :: ext) ++ 13 :: 10 :: (formL n v ++ [13, 10, 13, 10])))
theorem trail_one {n v more : List UInt8} (a : Nat) (h : validF n v = true) : trailL (formL n v ++ 13 :: 10 :: 13 :: 10 :: more) a = (a + ((formL n v).length + 2) + 2, 0) := by
  obtain ⟨h1, h2, h3⟩ := form_line h
  have hn := nextL_ok (a := formL n v) (13 :: 10 :: more) h1 h3
  have hd : (formL n v ++ 13 :: 10 :: 13 :: 10 :: more).drop ((formL n v).length + 2) = 13 :: 10 :: more := by rw [← List.drop_drop, List.drop_left' rfl]; rfl
  unfold trailL
  have hfuel : (formL n v ++ 13 :: 10 :: 13 :: 10 :: more).length + 1 = ((formL n v).length + more.length + 3) + 1 + 1 := by simp; omega
  rw [hfuel, trGo_step hn h2 (by decide) (by rw [form_back h]), hd]
  exact trGo_end (nextL_ok (a := []) more (by simp) (by simp))
theorem dec_details {body ext n v : List UInt8} {z : Nat} (hb : body ≠ []) (hl : body.length ≤ 1000) (hx : ext.length ≤ 100) (ht : textB ext = true) (hf : validF n v = true) (hz : z ≤ 4) :
    decL (detL body ext n v z) = (body, (detL body ext n v z).length, 0) := by
  have hx16 := hexN_len 3 body.length (by omega) (by have : (16 : Nat) ^ 3 = 4096 := by decide
                                                     omega)
  have hte := text_all ht
  have hdig : 59 ∉ List.replicate z (48 : UInt8) ++ hexN body.length := by
    rw [List.mem_append, not_or]
    refine ⟨fun h => ?_, hexN_semi _⟩
    have := List.eq_of_mem_replicate h
    cases this
  have hs1 : sizeL (List.replicate z 48 ++ hexN body.length ++ 59 :: ext) = some body.length :=
    size_ext hdig (fun e => hexN_ne _ (List.append_eq_nil_iff.1 e).2) (by simp; omega) ht (by rw [hexGo_zeros]; exact hexGo_hexN _ _ (Nat.le_refl _))
  have hl1 : ∀ y ∈ List.replicate z 48 ++ hexN body.length ++ 59 :: ext, lineC y = true := by
    intro y hy
    rcases List.mem_append.1 hy with hy | hy
    · rcases List.mem_append.1 hy with hy | hy
      · rw [List.eq_of_mem_replicate hy]; decide
      · exact hexN_line _ y hy
    · rcases List.mem_cons.1 hy with rfl | hy
      · decide
      · exact hte y hy
  have hs2 : sizeL ([48, 48] ++ 59 :: ext) = some 0 := size_ext (by decide) (by simp) (by simp) ht (by decide)
  have hl2 : ∀ y ∈ [48, 48] ++ 59 :: ext, lineC y = true := by
    intro y hy
    rcases List.mem_append.1 hy with hy | hy
    · simp at hy; subst hy; decide
    · rcases List.mem_cons.1 hy with rfl | hy
      · decide
      · exact hte y hy
  have hp : 0 < body.length := List.length_pos_iff.2 hb
  unfold decL
  have hfuel : (detL body ext n v z).length + 1 = ((detL body ext n v z).length - 1) + 1 + 1 := by unfold detL; simp; omega
  rw [hfuel]
  unfold detL
  rw [dec_chunk hl1 (by simp; omega) hs1 hb (by simp; omega)]
  have htr := fun a => trail_one (n := n) (v := v) (more := []) a hf
  rw [dec_last hl2 (by simp; omega) hs2 (by simp; omega) (by rw [htr]), htr]
  simp
  omega
end Go.Proofs.YtfnmohaddkoalaaGreatDoor
namespace Go.Proofs.YtfnmohaddkoalaaGreatDoor

theorem resU_escL : ∀ (l acc : List UInt8), resU (escL l) acc = if textB l then some (acc ++ l) else none
  | [], acc => by rw [show escL [] = [] from rfl, resU_nil]; simp [textB]
  | c :: t, acc => by
    have ih := resU_escL t (acc ++ [c])
    rw [show escL (c :: t) = (if c = 34 ∨ c = 92 then [92, c] else [c]) ++ escL t from rfl]
    have ht : textB (c :: t) = (textC c && textB t) := by simp only [textB, List.all_cons]
    rw [ht]
    by_cases hq : c = 34 ∨ c = 92
    · have hc : textC c = true := by rcases hq with rfl | rfl <;> decide
      rw [if_pos hq, show [92, c] ++ escL t = 92 :: c :: escL t from rfl, resU_esc, hc, if_pos rfl, ih]
      simp
    · rw [if_neg hq, show [c] ++ escL t = c :: escL t from rfl, resU_plain _ _ _ (fun h => hq (.inl h)) (fun h => hq (.inr h)), ih]
      cases textC c <;> simp
theorem unquote_quote (l : List UInt8) : unquoteL (quoteL l) = if textB l then some l else none := by
  have hlen : (quoteL l).length = (escL l).length + 2 := by simp [quoteL]
  unfold unquoteL
  rw [if_neg]
  · have : ((quoteL l).drop 1).take ((quoteL l).length - 2) = escL l := by
      rw [hlen]; simp [quoteL]
    rw [this, resU_escL]; simp
  · rw [hlen]
    rintro (h | h | h)
    · omega
    · exact h (by simp [quoteL])
    · apply h
      unfold quoteL
      rw [List.getD_eq_getElem?_getD, List.getElem?_append_right (by simp)]; simp
theorem numGo_append : ∀ (l1 l2 : List UInt8) (a : Int), numGo (l1 ++ l2) a = (numGo l1 a).bind (numGo l2)
  | [], l2, a => by simp [numGo]
  | c :: t, l2, a => by
    rw [List.cons_append, numGo, numGo]
    split
    · exact numGo_append t l2 _
    · rfl
theorem numGo_digit (d : Nat) (hd : d < 10) (a : Int) : numGo [UInt8.ofNat (48 + d)] a = some (min (10 * a + d) 2147483647) := by
  have h : (UInt8.ofNat (48 + d)).toNat = 48 + d := by simp; omega
  rw [numGo, if_pos (digB_true (by omega)), numGo, h]
  congr 1; omega
theorem numGo_dec (u : Nat) : numGo (Lib.decDigits u) 0 = some (min (u : Int) 2147483647) := by
  induction u using Nat.strongRecOn with
  | ind u ih =>
    by_cases h : u < 10
    · rw [Lib.decDigits_one h, numGo_digit u h, show 10 * (0 : Int) + (u : Int) = u from by omega]
    · rw [Lib.decDigits, dif_neg h, numGo_append, ih (u / 10) (by omega), Option.bind_some, numGo_digit _ (by omega)]
      congr 1; omega
theorem decDigits_ne (u : Nat) : (Lib.decDigits u).isEmpty = false := by
  by_cases h : u < 10
  · rw [Lib.decDigits_one h]; rfl
  · rw [Lib.decDigits, dif_neg h]; simp
theorem numV_itoa_neg (n : Int) (h : n < 0) : numV (Lib.itoa n) = .tuple #[.int .i64 0, .bool false] := by
  refine numV_none ?_
  unfold Lib.itoa
  rw [if_pos h, numGo, if_neg (by decide)]
theorem numV_itoa (n : Int) (h : ¬ n < 0) : numV (Lib.itoa n) = .tuple #[.int .i64 (min n 2147483647), .bool true] := by
  obtain ⟨u, rfl⟩ : ∃ u : Nat, n = (u : Int) := ⟨n.toNat, by omega⟩
  rw [Lib.itoa_nonneg, numV_some (numGo_dec u), decDigits_ne]; rfl
theorem lowC_low (c : UInt8) : lowC (lowC c) = lowC c := by
  by_cases h : 65 ≤ c.toNat ∧ c.toNat ≤ 90
  · have := lowC_hit h
    exact lowC_miss (by omega)
  · rw [lowC_miss h, lowC_miss h]
theorem lowL_low (l : List UInt8) : lowL (lowL l) = lowL l := by
  unfold lowL; rw [List.map_map]; exact List.map_congr_left fun c _ => lowC_low c
theorem foldB_iff {a b : List UInt8} : foldB a b = true ↔ lowL a = lowL b := by
  unfold foldB
  rw [Bool.and_eq_true, decide_eq_true_eq, beq_iff_eq]
  exact ⟨fun h => h.2, fun h => ⟨by rw [← lowL_length a, h, lowL_length], h⟩⟩
theorem foldB_symm (a b : List UInt8) : foldB a b = foldB b a := by
  rw [Bool.eq_iff_iff, foldB_iff, foldB_iff]; exact ⟨Eq.symm, Eq.symm⟩
theorem foldB_refl (a : List UInt8) : foldB a a = true := foldB_iff.2 rfl
theorem foldB_low (a : List UInt8) : foldB a (lowL a) = true := foldB_iff.2 (lowL_low a).symm
theorem foldB_trans {a b c : List UInt8} (h : foldB a b = true) (k : foldB b c = true) : foldB a c = true := foldB_iff.2 ((foldB_iff.1 h).trans (foldB_iff.1 k))
end Go.Proofs.YtfnmohaddkoalaaGreatDoor
namespace Go.Proofs.YtfnmohaddkoalaaGreatDoor

def visC (c : UInt8) : Bool := decide (33 ≤ c.toNat) && decide (c.toNat ≤ 126)
theorem visC_true {c : UInt8} (h : 33 ≤ c.toNat ∧ c.toNat ≤ 126) : visC c = true := by simp [visC, h]
theorem visC_false {c : UInt8} (h : ¬ (33 ≤ c.toNat ∧ c.toNat ≤ 126)) : visC c = false := by
  unfold visC; rw [← Bool.decide_and, decide_eq_false_iff_not]; exact h
def visB (l : List UInt8) : Bool := l.all visC && !l.isEmpty
/-- "HTTP/" -/
def httpL : List UInt8 := [72, 84, 84, 80, 47]
def verForm (l : List UInt8) : Bool := l.length == 8 && (l.take 5 == httpL && (digB (l.getD 5 0) && (l.getD 6 0 == 46 && digB (l.getD 7 0))))
/-- The error of a version: 0, 1 (no version), 3 (another version). -/
def verE (l : List UInt8) : Int := if verForm l then (if l.getD 5 0 = 49 ∧ (l.getD 7 0).toNat ≤ 49 then 0 else 3) else 1
def verN (l : List UInt8) : Int := if verE l = 0 then ((l.getD 7 0).toNat : Int) - 48 else 0
/-- What a request line is read as: method, target, minor version, error. -/
def reqL (l : List UInt8) : List UInt8 × List UInt8 × Int × Int :=
  if 2000 < l.length then ([], [], 0, 4)
  else
    let p := cutB 32 l
    let q := cutB 32 p.2.1
    if (tokenB p.1 && visB q.1) = false then ([], [], 0, 1)
    else if verE q.2.1 = 0 then (p.1, q.1, verN q.2.1, 0) else ([], [], 0, verE q.2.1)
def statForm (l : List UInt8) : Bool := l.length == 3 && (decide (49 ≤ (l.getD 0 0).toNat) && (decide ((l.getD 0 0).toNat ≤ 53) && (digB (l.getD 1 0) && digB (l.getD 2 0))))
def statN (l : List UInt8) : Int := match numGo l 0 with | some n => n | none => 0
/-- What a status line is read as: minor version, status, reason, error. -/
def statL (l : List UInt8) : Int × Int × List UInt8 × Int :=
  if 2000 < l.length then (0, 0, [], 4)
  else
    let p := cutB 32 l
    let q := cutB 32 p.2.1
    if (q.2.2 && (statForm q.1 && textB q.2.1)) = false then (0, 0, [], 1)
    else if verE p.1 = 0 then (verN p.1, statN q.1, q.2.1, 0) else (0, 0, [], verE p.1)
def reqV (r : List UInt8 × List UInt8 × Int × Int) : Value := .tuple #[.string ⟨r.1.toArray⟩, .string ⟨r.2.1.toArray⟩, .int .i64 r.2.2.1, .int .i64 r.2.2.2]
def statV (r : Int × Int × List UInt8 × Int) : Value := .tuple #[.int .i64 r.1, .int .i64 r.2.1, .string ⟨r.2.2.1.toArray⟩, .int .i64 r.2.2.2]
def reqLine (m t : List UInt8) (v : Int) : List UInt8 := m ++ [32] ++ t ++ [32, 72, 84, 84, 80, 47, 49, 46] ++ Lib.itoa v
def statLine (v s : Int) (r : List UInt8) : List UInt8 := [72, 84, 84, 80, 47, 49, 46] ++ Lib.itoa v ++ [32] ++ Lib.itoa s ++ [32] ++ r
/-- The request line of these parts, or nothing. -/
def reqF (m t : List UInt8) (v : Int) : List UInt8 := if reqL (reqLine m t v) = (m, t, v, 0) then reqLine m t v else []
def statF (v s : Int) (r : List UInt8) : List UInt8 := if statL (statLine v s r) = (v, s, r, 0) then statLine v s r else []

theorem verE_cases (l : List UInt8) : verE l = 0 ∨ verE l = 1 ∨ verE l = 3 := by
  unfold verE; split
  · split <;> simp
  · simp
theorem verN_bd (l : List UInt8) : verN l = 0 ∨ verN l = 1 := by
  unfold verN
  by_cases h : verE l = 0
  · rw [if_pos h]
    unfold verE at h
    by_cases hf : verForm l = true
    · rw [if_pos hf] at h
      by_cases hc : l.getD 5 0 = 49 ∧ (l.getD 7 0).toNat ≤ 49
      · unfold verForm at hf
        simp only [Bool.and_eq_true] at hf
        have := of_digB hf.2.2.2.2
        omega
      · rw [if_neg hc] at h; cases h
    · rw [if_neg hf] at h; cases h
  · rw [if_neg h]; exact .inl rfl
theorem reqL_long {l : List UInt8} (h : 2000 < l.length) : reqL l = ([], [], 0, 4) := by unfold reqL; rw [if_pos h]
theorem reqL_bad {l p1 p2 q1 q2 : List UInt8} {p3 q3 : Bool} (h : ¬ 2000 < l.length) (hp : cutB 32 l = (p1, p2, p3)) (hq : cutB 32 p2 = (q1, q2, q3)) (hb : (tokenB p1 && visB q1) = false) : reqL l = ([], [], 0, 1) := by
  unfold reqL; rw [if_neg h, hp]; dsimp only; rw [hq]; dsimp only; rw [if_pos hb]
theorem reqL_ver {l p1 p2 q1 q2 : List UInt8} {p3 q3 : Bool} (h : ¬ 2000 < l.length) (hp : cutB 32 l = (p1, p2, p3)) (hq : cutB 32 p2 = (q1, q2, q3)) (hb : (tokenB p1 && visB q1) = true) (hv : verE q2 ≠ 0) : reqL l = ([], [], 0, verE q2) := by
  unfold reqL; rw [if_neg h, hp]; dsimp only; rw [hq]; dsimp only; rw [if_neg (by rw [hb]; decide), if_neg hv]
theorem reqL_ok {l p1 p2 q1 q2 : List UInt8} {p3 q3 : Bool} (h : ¬ 2000 < l.length) (hp : cutB 32 l = (p1, p2, p3)) (hq : cutB 32 p2 = (q1, q2, q3)) (hb : (tokenB p1 && visB q1) = true) (hv : verE q2 = 0) : reqL l = (p1, q1, verN q2, 0) := by
  unfold reqL; rw [if_neg h, hp]; dsimp only; rw [hq]; dsimp only; rw [if_neg (by rw [hb]; decide), if_pos hv]
theorem statL_long {l : List UInt8} (h : 2000 < l.length) : statL l = (0, 0, [], 4) := by unfold statL; rw [if_pos h]
theorem statL_bad {l p1 p2 q1 q2 : List UInt8} {p3 q3 : Bool} (h : ¬ 2000 < l.length) (hp : cutB 32 l = (p1, p2, p3)) (hq : cutB 32 p2 = (q1, q2, q3)) (hb : (q3 && (statForm q1 && textB q2)) = false) : statL l = (0, 0, [], 1) := by
  unfold statL; rw [if_neg h, hp]; dsimp only; rw [hq]; dsimp only; rw [if_pos hb]
theorem statL_ver {l p1 p2 q1 q2 : List UInt8} {p3 q3 : Bool} (h : ¬ 2000 < l.length) (hp : cutB 32 l = (p1, p2, p3)) (hq : cutB 32 p2 = (q1, q2, q3)) (hb : (q3 && (statForm q1 && textB q2)) = true) (hv : verE p1 ≠ 0) : statL l = (0, 0, [], verE p1) := by
  unfold statL; rw [if_neg h, hp]; dsimp only; rw [hq]; dsimp only; rw [if_neg (by rw [hb]; decide), if_neg hv]
theorem statL_ok {l p1 p2 q1 q2 : List UInt8} {p3 q3 : Bool} (h : ¬ 2000 < l.length) (hp : cutB 32 l = (p1, p2, p3)) (hq : cutB 32 p2 = (q1, q2, q3)) (hb : (q3 && (statForm q1 && textB q2)) = true) (hv : verE p1 = 0) : statL l = (verN p1, statN q1, q2, 0) := by
  unfold statL; rw [if_neg h, hp]; dsimp only; rw [hq]; dsimp only; rw [if_neg (by rw [hb]; decide), if_pos hv]
end Go.Proofs.YtfnmohaddkoalaaGreatDoor
namespace Go.Proofs.YtfnmohaddkoalaaGreatDoor
open Go.RowKit

theorem run_index_agg {P : Program} (t e : TypeId) (n : Nat) (cs : Array Value) (k : IntKind) (i : Int) (v : Value) (h : P.underlying t = some (.array n e))
    (hagg : ∀ w, (isAgg e).run P w = .ok false w) (hsz : ∀ w, (sizeOf e).run P w = .ok 1 w) (h0 : 0 ≤ i) (hn : i < n) (hv : cs[i.toNat]? = some v) (w : World) :
    (Instr.index t (.agg cs) (.int k i)).run P w = .ok v w := by
  simp [Instr.index, asIntOf, run_underlying h, h0, hn, part, hagg, hsz, hv]
theorem below_drewN {B : Nat} {a w : World} (h : Below B a w) (n : Nat) : Below B a (w.drewN n) := ⟨h.os, h.tape, h.output, h.size, h.block⟩
theorem results_tmp4 {fn : Func} {t u v x : Tmp} (h : fn.results = #[.tmp t, .tmp u, .tmp v, .tmp x]) (tmps : Array Value) (P : Program) (w : World) :
    (results fn tmps).run P w = .ok (.tuple #[tmps.getD t undef, tmps.getD u undef, tmps.getD v undef, tmps.getD x undef]) w := by simp [results, h]
end Go.Proofs.YtfnmohaddkoalaaGreatDoor
namespace Go.Proofs.YtfnmohaddkoalaaGreatDoor
open Go.RowKit

/-- Block g begins with the bytes l, none of them frozen. -/
structure BytesAt (w : World) (g : Nat) (l : List UInt8) : Prop where
  cell : ∀ j (h : j < l.length), w.cell? ⟨g, j, none⟩ = some (.int .u8 (l[j].toNat : Int))
  free : ∀ j, j < l.length → w.frozen? ⟨g, j, none⟩ = false

theorem BytesAt.set {w : World} {g i : Nat} {l : List UInt8} (h : BytesAt w g l) (hi : i < l.length) (c : UInt8) : BytesAt (w.setCell ⟨g, i, none⟩ (.int .u8 (c.toNat : Int))) g (l.set i c) := by
  refine ⟨fun j hj => ?_, fun j hj => ?_⟩
  · have hj' : j < l.length := by simpa using hj
    by_cases e : i = j
    · subst e
      rw [World.cell?_setCell_same _ _ _ (h.cell i hi)]; simp
    · rw [World.cell?_setCell_other _ _ _ _ (by simp), h.cell j hj']; simp [e]
  · rw [World.frozen?_setCell]; exact h.free j (by simpa using hj)
theorem BytesAt.below {w w' : World} {B g : Nat} {l : List UInt8} (h : BytesAt w g l) (hb : Below B w w') (hg : g < B) : BytesAt w' g l :=
  ⟨fun j hj => (hb.cell (p := ⟨g, j, none⟩) hg).trans (h.cell j hj), fun j hj => (hb.frozen (p := ⟨g, j, none⟩) hg).trans (h.free j hj)⟩

section
variable {P : Program}
theorem conv_to_bytes (src dst e : TypeId) (s : ByteArray) (w : World) (hs : P.underlying src = some .string) (hd : P.underlying dst = some (.slice e)) (he : P.underlying e = some (.int .u8)) :
    ∃ (cap : Nat) (w1 : World), (convert src dst (.string s)).run P w = .ok (.slice (some ⟨w.heap.size, 0, none⟩) s.size cap) w1 ∧ BytesAt w1 w.heap.size (bs s) ∧ Below w.heap.size w w1 ∧ w.heap.size < w1.heap.size := by
  refine ⟨_, _, run_bytes_of_string w src dst e s hs hd he, ⟨fun j hj => ?_, fun j hj => ?_⟩, ?_, by simp⟩
  · have hj' : j < s.size := by rw [← bs_length]; exact hj
    refine (World.cell?_alloc_mark w.drew _ e _ j).trans ?_
    unfold bytesRow
    rw [Array.getElem?_append_left (by simp; exact hj'), Array.getElem?_map]
    have : s.data[j]? = some (s.data[j]'hj') := Array.getElem?_eq_getElem hj'
    rw [this]; rfl
  · have hj' : j < s.size := by rw [← bs_length]; exact hj
    refine (World.frozen?_alloc_mark w.drew _ e _ _ j).trans ?_
    have : s.size ≤ (bytesRow s (grownCap w s.size 0 e)).size := by
      simp only [bytesRow, Array.size_append, Array.size_map]
      have : s.data.size = s.size := rfl
      omega
    simp; omega
  · exact (((Below.refl w.heap.size w).drew).alloc (Nat.le_refl _) _)

theorem conv_from_bytes (src dst e : TypeId) (g n cap : Nat) (l : List UInt8) (w : World) (hs : P.underlying src = some (.slice e)) (he : P.underlying e = some (.int .u8)) (hd : P.underlying dst = some .string)
    (hl : l.length = n) (h : BytesAt w g l) : (convert src dst (.slice (some ⟨g, 0, none⟩) n cap)).run P w = .ok (.string ⟨l.toArray⟩) w := by
  subst hl
  refine run_convert_bytes_back w src dst e ⟨g, 0, none⟩ cap l hs he hd fun j hj => ?_
  have : (⟨g, 0, none⟩ : Addr).add j = ⟨g, j, none⟩ := by unfold Addr.add; by_cases h0 : j = 0 <;> simp [h0]
  rw [this]; exact h.cell j hj

/-- The slice v is a row of the call's own that holds just the bytes l. -/
def Buf (w : World) (B : Nat) (e : TypeId) (v : Value) (l : List UInt8) : Prop := w.ownsRow B e 1 v l.length (l.map fun c => Value.int .u8 (c.toNat : Int))
theorem Buf.none_ (w : World) (B : Nat) (e : TypeId) : Buf w B e (.slice none 0 0) [] := World.ownsRow_nil w B e 1
theorem Buf.alloc {w : World} {B : Nat} {e : TypeId} {v : Value} {l : List UInt8} (h : Buf w B e v l) (o : Obj) : Buf (w.alloc o) B e v l := World.ownsRow.alloc h o
theorem Buf.below {w w' : World} {B B' : Nat} {e : TypeId} {v : Value} {l : List UInt8} (h : Buf w B e v l) (hb : Below B' w w') (hB : w.heap.size ≤ B') : Buf w' B e v l := by
  refine ⟨h.1, ?_⟩
  rcases h.2 with h0 | ⟨g, cap, cur, h1, h2, h3, h4⟩
  · exact .inl h0
  · have hg : g < w.heap.size := by
      rcases Nat.lt_or_ge g w.heap.size with hlt | hge
      · exact hlt
      · rw [Array.getElem?_eq_none hge] at h3; cases h3
    exact .inr ⟨g, cap, cur, h1, h2, (hb.block g (by omega)).trans h3, h4⟩
/-- A new row of one byte. -/
theorem Buf.one (w : World) (B : Nat) (e : TypeId) (c : UInt8) (hB : B ≤ w.heap.size) : Buf (w.alloc (.cells #[.int .u8 (c.toNat : Int)] e)) B e (.slice (some ⟨w.heap.size, 0, none⟩) 1 1) [c] := by
  refine ⟨by simp, .inr ⟨w.heap.size, 1, #[.int .u8 (c.toNat : Int)], rfl, hB, by simp [World.alloc, -World.alloc_eq], by simp, by simp [maxLen], by simp, by simp⟩⟩

theorem conv_from_buf (src dst e : TypeId) (B : Nat) (v : Value) (l : List UInt8) (w : World) (hs : P.underlying src = some (.slice e)) (he : P.underlying e = some (.int .u8)) (hd : P.underlying dst = some .string)
    (h : Buf w B e v l) : (convert src dst v).run P w = .ok (.string ⟨l.toArray⟩) w := by
  rcases h.2 with ⟨rfl, h0⟩ | ⟨g, cap, cur, rfl, h2, h3, h4, h5, h6, h7⟩
  · have : l = [] := List.length_eq_zero_iff.1 h0
    subst this
    exact Lib.run_convert_nil_bytes w src dst e 0 hs he hd
  · refine conv_from_bytes src dst e g l.length cap l w hs he hd rfl ⟨fun j hj => ?_, fun j hj => ?_⟩
    · have hc := World.ownsRow.cells h (g := g) rfl j (.int .u8 (l[j].toNat : Int)) (by simp [List.getElem?_eq_getElem hj])
      have ea : (⟨g, 0, none⟩ : Addr).add j = ⟨g, j, none⟩ := by unfold Addr.add; by_cases h0 : j = 0 <;> simp [h0]
      rw [ea] at hc; exact hc
    · simp [World.frozen?, h3]

theorem wpList_append_byte {ops : Array Oper} {rest : List Oper} {o : Oper} {a : Act} {Q : Exit → Act → World → Prop} (hgd : o.guard = none) (s x : Operand) (t : TypeId)
    (ho : o.op = .call { callee := .builtin .append, args := #[s, x], argTypes := #[t, t] })
    (w0 w : World) (B : Nat) (e : TypeId) (ht : P.underlying t = some (.slice e)) (hinfo : (P.info? e).map (fun i => (i.zero, i.size, i.bytes)) = some (some (.int .u8 0), 1, 1))
    (v : Value) (l : List UInt8) (hs : a.eval s = v) (hown : Buf w B e v l) (hb : Below B w0 w) (hB : B ≤ w.heap.size)
    (ad : Addr) (c : UInt8) (hx : a.eval x = .slice (some ad) 1 1) (hc : w.cell? ad = some (.int .u8 (c.toNat : Int))) (hl : l.length + 1 ≤ 140737488355328)
    (h : ∀ v' w', Buf w' B e v' (l ++ [c]) → Below B w0 w' → B ≤ w'.heap.size → wpList P ops Q rest (a.put o.dst v') w') : wpList P ops Q (o :: rest) a w := by
  obtain ⟨i, hi, hz0, hz1, hz2⟩ := info_parts hinfo
  refine wpList_append_own w hgd s x t ho B e i (.int .u8 0) 1 1 ht hi hz0 hz1 hz2 rfl (by decide) v l.length _ hs hown ad 1 1 [.int .u8 (c.toNat : Int)] hx rfl ?_ ?_ (by unfold maxLen; omega) (by omega) hB ?_
  · intro j u hj
    rcases j with _ | j
    · simp at hj; subst hj
      have : ad.add 0 = ad := by unfold Addr.add; simp
      rw [this]; exact hc
    · simp at hj
  · intro u hu
    simp at hu; subst hu; rfl
  · intro v' w' hown' hg _
    refine h v' w' ?_ (hb.grown hg hB (fun j hj => (World.ownsRow.lt hown j hj).1)) (Nat.le_trans hB hg.size)
    unfold Buf
    simpa using hown'
theorem wpList_append_bufs {ops : Array Oper} {rest : List Oper} {o : Oper} {a : Act} {Q : Exit → Act → World → Prop} (hgd : o.guard = none) (s x : Operand) (t : TypeId)
    (ho : o.op = .call { callee := .builtin .append, args := #[s, x], argTypes := #[t, t] })
    (w0 w : World) (B B2 : Nat) (e : TypeId) (ht : P.underlying t = some (.slice e)) (hinfo : (P.info? e).map (fun i => (i.zero, i.size, i.bytes)) = some (some (.int .u8 0), 1, 1))
    (v v2 : Value) (l l2 : List UInt8) (hs : a.eval s = v) (hown : Buf w B e v l) (hb : Below B w0 w) (hB : B ≤ w.heap.size)
    (hx : a.eval x = v2) (hown2 : Buf w B2 e v2 l2) (hl : l.length + l2.length ≤ 140737488355328)
    (h : ∀ v' w', Buf w' B e v' (l ++ l2) → Below B w0 w' → B ≤ w'.heap.size → wpList P ops Q rest (a.put o.dst v') w') : wpList P ops Q (o :: rest) a w := by
  obtain ⟨i, hi, hz0, hz1, hz2⟩ := info_parts hinfo
  rcases hown2.2 with ⟨rfl, h0⟩ | ⟨g, cap, cur, rfl, h2⟩
  · have e0 : l2 = [] := List.length_eq_zero_iff.1 h0
    subst e0
    refine wpList_append_own_none hgd s x t ho B e i 1 ht hi v l.length _ hs hown hx ?_
    exact h v w (by rw [List.append_nil]; exact hown) hb hB
  · refine wpList_append_own w hgd s x t ho B e i (.int .u8 0) 1 1 ht hi hz0 hz1 hz2 rfl (by decide) v l.length _ hs hown ⟨g, 0, none⟩ l2.length cap (l2.map fun c => Value.int .u8 (c.toNat : Int)) hx (by simp) ?_ ?_ (by unfold maxLen; omega) (by omega) hB ?_
    · exact World.ownsRow.cells hown2 rfl
    · intro u hu
      obtain ⟨c, _, rfl⟩ := List.mem_map.1 hu
      rfl
    · intro v' w' hown' hg _
      refine h v' w' ?_ (hb.grown hg hB (fun j hj => (World.ownsRow.lt hown j hj).1)) (Nat.le_trans hB hg.size)
      unfold Buf
      simpa using hown'
end
end Go.Proofs.YtfnmohaddkoalaaGreatDoor
namespace Go.Proofs.YtfnmohaddkoalaaGreatDoor
open Go.RowKit Go.ChangeShapes Go.WideShapes

/-- Behind the slice's address, if it has one, these strings lie. -/
def StrO (w : World) (oa : Option Addr) (xs : List ByteArray) : Prop := ∀ (i : Nat) (x : ByteArray), xs[i]? = some x → ∃ ad : Addr, oa = some ad ∧ w.cell? (ad.add i) = some (.string x)
theorem cell_lt {w : World} {p : Addr} {v : Value} (h : w.cell? p = some v) : p.block < w.heap.size := by
  rcases Nat.lt_or_ge p.block w.heap.size with hlt | hge
  · exact hlt
  · unfold World.cell? at h
    rw [Array.getElem?_eq_none hge] at h; cases h
theorem StrO.down {w w' : World} {oa : Option Addr} {xs : List ByteArray} (h : StrO w oa xs) (hb : Below w.heap.size w w') : StrO w' oa xs := fun i x hx => by
  obtain ⟨ad, h1, h2⟩ := h i x hx
  exact ⟨ad, h1, (hb.cell (cell_lt h2)).trans h2⟩
set_option maxRecDepth 1000000 in
theorem laid_out : laidOutB Tryz.prog = true := by kernel_rfl
theorem cells_str : Tryz.prog.cellsOf 9 = 1 := by kernel_rfl
theorem open_strsl_gen {P : Program} {e0 : TypeId} {H : Type} {enc : TypeId × Value → H} {W : World} {r : Reach} {base : Nat} {t : TypeId} {v : Value} {d : DataW H} {ps : List MemPlace} (he : P.underlying e0 = some .string) (hce : P.cellsOf e0 = 1) (ht : P.underlying t = some (.slice e0))
    (hv : Value.okWide P W r base t v) (h : DataW.Trod enc P W 0 (fun _ => true) true t v d ps) :
    ∃ (oa : Option Addr) (xs : List ByteArray) (cap : Nat), v = .slice oa xs.length cap ∧ StrO W oa xs ∧ (∀ x ∈ xs, x.size ≤ 9223372036854775807) ∧ xs.length ≤ 9223372036854775807 := by
  obtain ⟨a0, len, cap, rfl⟩ := okWide_slice ht hv
  obtain ⟨fuel, hf⟩ := h
  rcases open_strings ht he hce hf with ⟨hcs, hx⟩ | ⟨a, len', cap', ss, hcs, _, hl, hm, hz, hx, hcell, hws⟩
  · simp [Value.cells] at hcs
    obtain ⟨rfl, rfl, rfl⟩ := hcs
    exact ⟨none, [], 0, rfl, fun i x hx => by simp at hx, fun x hx => by simp at hx, by simp⟩
  · simp [Value.cells] at hcs
    obtain ⟨rfl, rfl, rfl⟩ := hcs
    simp only [if_true] at hz
    have hlen : (ss.take len).length = len := by rw [List.length_take]; omega
    refine ⟨some a, ss.take len, cap, by rw [hlen], fun i x hx => ?_, fun x hx => ?_, ?_⟩
    · rw [List.getElem?_take] at hx
      split at hx
      · rename_i hi
        have hi' : i < ss.length := (List.getElem?_eq_some_iff.1 hx).1
        refine ⟨a, rfl, ?_⟩
        rw [hcell i hi', List.getD_eq_getElem?_getD, hx]; rfl
      · cases hx
    · have := hws x (List.mem_of_mem_take hx)
      unfold maxLen at this; exact this
    · rw [hlen]; unfold maxLen at hm; omega
/-- An argument that was only read reads as it did. -/
theorem stays {H : Type} {enc : TypeId × Value → H} {W W' : World} {t : TypeId} {v : Value} {d : DataW H} {ps : List MemPlace} {sp : Nat → Bool} (hr : Tryz.prog.readableRec t = true) (hrow : t < Tryz.prog.types.size)
    (h : DataW.Trod enc Tryz.prog W 0 (fun _ => true) true t v d ps) (hb : Below W.heap.size W W') (hlt : ∀ x ∈ ps, x.block < W.heap.size) (hs : ∀ x ∈ ps, sp x.block = true) : DataW.Trod enc Tryz.prog W' 0 sp true t v d ps :=
  WideElems.Trod_stays laid_out hr hrow h (fun x hx => hb.same (hlt x hx)) hs
end Go.Proofs.YtfnmohaddkoalaaGreatDoor
namespace Go.Proofs.YtfnmohaddkoalaaGreatDoor
open Go.RowKit Go.ChangeShapes Go.WideShapes Go.Deep Go.Joins

abbrev Fd := ByteArray × ByteArray
/-- Behind the slice's address, if it has one, these fields lie. -/
def FldO (w : World) (oa : Option Addr) (xs : List Fd) : Prop := ∀ (i : Nat) (x : Fd), xs[i]? = some x → ∃ ad : Addr, oa = some ad ∧ w.cell? (ad.add (i * 2)) = some (.string x.1) ∧ w.cell? (ad.add (i * 2 + 1)) = some (.string x.2)
theorem FldO.down {w w' : World} {oa : Option Addr} {xs : List Fd} (h : FldO w oa xs) (hb : Below w.heap.size w w') : FldO w' oa xs := fun i x hx => by
  obtain ⟨ad, h1, h2, h3⟩ := h i x hx
  exact ⟨ad, h1, (hb.cell (cell_lt h2)).trans h2, (hb.cell (cell_lt h3)).trans h3⟩
theorem add_next (ad : Addr) (n : Nat) : (⟨(ad.add n).block, (ad.add n).off + 1, none⟩ : Addr) = ad.add (n + 1) := by
  unfold Addr.add
  by_cases h : n = 0 <;> simp [h, Nat.add_assoc]
/-- The two cells of a field, as the walks write their addresses. -/
theorem FldO.at {w : World} {oa : Option Addr} {xs : List Fd} (h : FldO w oa xs) {i : Nat} {x : Fd} (hx : xs[i]? = some x) : ∃ ad : Addr, oa = some ad ∧ w.cell? (ad.add (i * 2)) = some (.string x.1) ∧ w.cell? ⟨(ad.add (i * 2)).block, (ad.add (i * 2)).off + 1, none⟩ = some (.string x.2) := by
  obtain ⟨ad, h1, h2, h3⟩ := h i x hx
  exact ⟨ad, h1, h2, by rw [add_next]; exact h3⟩
theorem FldO.nil_ (w : World) (oa : Option Addr) : FldO w oa [] := fun i x hx => by simp at hx
def FldZ (xs : List Fd) (n : Nat) : Prop := ∀ x ∈ xs, x.1.size ≤ n ∧ x.2.size ≤ n
/-- The cell of a list of fields, opened. -/
theorem open_fld {H : Type} {enc : TypeId × Value → H} {W : World} {v : Value} {n : Nat} {y : DataW H × List MemPlace}
    (h : DataW.trod enc Tryz.prog W 0 (fun _ => true) true n 22 [v] = some y) :
    ∃ (oa : Option Addr) (xs : List Fd) (cap : Nat), v = .slice oa xs.length cap ∧ FldO W oa xs ∧ FldZ xs 9223372036854775807 ∧ xs.length ≤ 9223372036854775807 := by
  rcases open_slice_pairs Tryz.underlying22 Tryz.underlying69 (by kernel_rfl) rfl rfl (by kernel_rfl) (by kernel_rfl) h with ⟨hcs, _⟩ | ⟨a, len, cap, m, n', V0, V1, D0, D1, P0, P1, hcs, _, hl, hm, hmm, _, hi⟩
  · cases hcs
    exact ⟨none, [], 0, rfl, FldO.nil_ _ _, fun x hx => by simp at hx, by simp⟩
  · cases hcs
    simp only [if_true] at hmm
    have each : ∀ i, i < m → ∃ q : Fd, W.cell? (a.add (i * 2)) = some (.string q.1) ∧ W.cell? (a.add (i * 2 + 1)) = some (.string q.2) ∧ q.1.size ≤ maxLen ∧ q.2.size ≤ maxLen := by
      intro i him
      obtain ⟨c0, c1, t0, t1⟩ := hi i him
      obtain ⟨s0, e0, _, z0⟩ := DataW.trod_string Tryz.underlying9 t0
      obtain ⟨s1, e1, _, z1⟩ := DataW.trod_string Tryz.underlying9 t1
      have f0 : V0 i = .string s0 := (List.cons.inj e0).1
      have f1 : V1 i = .string s1 := (List.cons.inj e1).1
      exact ⟨(s0, s1), by rw [c0, f0], by rw [c1, f1], z0, z1⟩
    obtain ⟨q, hq⟩ := choose_lt each
    refine ⟨some a, (List.range len).map q, cap, by simp, fun i x hx => ?_, fun x hx => ?_, ?_⟩
    · rw [List.getElem?_map] at hx
      cases hr : (List.range len)[i]? with
      | none => rw [hr] at hx; cases hx
      | some j =>
        rw [hr] at hx
        obtain ⟨hil, hj⟩ := List.getElem?_eq_some_iff.1 hr
        rw [List.length_range] at hil
        rw [List.getElem_range] at hj
        subst hj
        cases hx
        have := hq i (by omega)
        exact ⟨a, rfl, this.1, this.2.1⟩
    · obtain ⟨i, hi', rfl⟩ := List.mem_map.1 hx
      have := hq i (by have := List.mem_range.1 hi'; omega)
      unfold maxLen at this
      exact ⟨this.2.2.1, this.2.2.2⟩
    · rw [List.length_map, List.length_range]; unfold maxLen at hm; omega
end Go.Proofs.YtfnmohaddkoalaaGreatDoor
namespace Go.Proofs.YtfnmohaddkoalaaGreatDoor
open Go.RowKit

def fdB (x : Fd) : Bool := decide (x.1.size ≤ 300) && decide (x.2.size ≤ 300)
def fieldsB (xs : List Fd) : Bool := (xs.take 71).all fdB && decide (xs.length ≤ 70)
theorem fieldsB_true {xs : List Fd} (h : fieldsB xs = true) : xs.length ≤ 70 ∧ FldZ xs 300 := by
  unfold fieldsB at h
  rw [Bool.and_eq_true, decide_eq_true_eq] at h
  refine ⟨h.2, fun x hx => ?_⟩
  have := List.all_eq_true.1 h.1 x (by rw [List.take_of_length_le (by omega)]; exact hx)
  unfold fdB at this
  rw [Bool.and_eq_true, decide_eq_true_eq, decide_eq_true_eq] at this
  exact this
theorem fieldsB_no {xs : List Fd} {k : Nat} {x : Fd} (h71 : k < 71) (hx : xs[k]? = some x) (h : fdB x = false) : fieldsB xs = false := by
  unfold fieldsB
  rw [Bool.and_eq_false_iff]
  left
  rw [List.all_eq_false]
  exact ⟨x, List.mem_of_getElem? (i := k) (by rw [List.getElem?_take, if_pos h71, hx]), by rw [h]; simp⟩
theorem fieldsB_end {xs : List Fd} {k : Nat} (h : ∀ (j : Nat) (x : Fd), j < k → xs[j]? = some x → fdB x = true) (hk : xs.length ≤ k ∨ 71 ≤ k) : fieldsB xs = decide (xs.length ≤ 70) := by
  unfold fieldsB
  rw [show (xs.take 71).all fdB = true from List.all_eq_true.2 fun x hx => by
    obtain ⟨j, hj, hx⟩ := List.mem_iff_getElem.1 hx
    rw [List.length_take] at hj
    rw [List.getElem_take] at hx
    exact h j x (by omega) (by rw [List.getElem?_eq_getElem (by omega), hx])]
  rfl
set_option maxHeartbeats 1600000 in
theorem keepF_any (oa : Option Addr) (xs : List Fd) (cap : Nat) (w : World) (hn : xs.length ≤ 9223372036854775807) (hc : FldO w oa xs) :
    Calls Tryz.prog 25 #[.slice oa xs.length cap] w fun e w' => e = .returned (.bool (fieldsB xs)) ∧ w' = w := by
  have HC := Lib.hid hc
  clear hc
  go_enter Tryz.func25, Tryz.ntmps25
  go_wp2_with fail
  go_loop [3] (fun j => ∃ k : Nat, k ≤ xs.length ∧ k ≤ 71 ∧ j = .int .i64 k ∧ Hid (∀ (i : Nat) (x : Fd), i < k → xs[i]? = some x → fdB x = true)) (fun j => xs.length - (intOf j).toNat)
  case atStart => exact ⟨0, by omega, by omega, rfl, Lib.hid fun i x hi => by omega⟩
  case round =>
    obtain ⟨k, hk, hk2, rfl, H⟩ := hrel
    by_cases hlt : k < xs.length
    · by_cases h71 : k < 71
      · obtain ⟨x, hx⟩ : ∃ x, xs[k]? = some x := ⟨_, List.getElem?_eq_getElem hlt⟩
        obtain ⟨ad, rfl, c0, c1⟩ := HC.out.at hx
        by_cases h1 : x.1.size ≤ 300
        · by_cases h2 : x.2.size ≤ 300
          · have HN : Hid (∀ (i : Nat) (y : Fd), i < k + 1 → xs[i]? = some y → fdB y = true) := Lib.hid fun i y hi hy => by
              by_cases e : i = k
              · subst e
                rw [hx] at hy; cases hy
                unfold fdB; simp [h1, h2]
              · exact H.out i y (by omega) hy
            clear hx
            go_wp2_with fail
            go_round
            case rel => exact ⟨k + 1, by omega, by omega, by go_num, HN⟩
            case measure => simp [intOf]; omega
          · have HF := Lib.hid (fieldsB_no h71 hx (by unfold fdB; simp [h2]))
            clear hx
            go_wp2_with fail
            go_ret
            exact ⟨by rw [HF.out]; rfl, rfl⟩
        · have HF := Lib.hid (fieldsB_no h71 hx (by unfold fdB; simp [h1]))
          clear hx
          go_wp2_with fail
          go_ret
          exact ⟨by rw [HF.out]; rfl, rfl⟩
      · have HF := Lib.hid (fieldsB_end H.out (.inr (by omega)))
        go_wp2_with fail
        go_ret
        exact ⟨by rw [HF.out]; first | rfl | (congr 2; simp; omega), rfl⟩
    · have HF := Lib.hid (fieldsB_end H.out (.inl (by omega)))
      go_wp2_with fail
      go_ret
      exact ⟨by rw [HF.out]; first | rfl | (congr 2; simp; omega), rfl⟩
end Go.Proofs.YtfnmohaddkoalaaGreatDoor
namespace Go.Proofs.YtfnmohaddkoalaaGreatDoor
open Go.RowKit

/-- Block b is a variable that holds just these cells. -/
def RowAt (w : World) (b : Nat) (t : TypeId) (cs : List Value) : Prop := w.heap[b]? = some (.cells cs.toArray t (0, 0))
theorem RowAt.new (w : World) (cs : List Value) (t : TypeId) : RowAt (w.alloc (.cells cs.toArray t)) w.heap.size t cs := heap_alloc_new w _
theorem RowAt.lt {w : World} {b : Nat} {t : TypeId} {cs : List Value} (h : RowAt w b t cs) : b < w.heap.size := (Array.getElem?_eq_some_iff.1 h).1
theorem RowAt.below {w w' : World} {b : Nat} {t : TypeId} {cs : List Value} (h : RowAt w b t cs) (hb : Below w.heap.size w w') : RowAt w' b t cs := (hb.block b h.lt).trans h
theorem RowAt.belowB {w w' : World} {B b : Nat} {t : TypeId} {cs : List Value} (h : RowAt w b t cs) (hb : Below B w w') (hB : b < B) : RowAt w' b t cs := (hb.block b hB).trans h
theorem RowAt.alloc {w : World} {b : Nat} {t : TypeId} {cs : List Value} (h : RowAt w b t cs) (o : Obj) : RowAt (w.alloc o) b t cs := h.below ((Below.refl _ _).alloc (Nat.le_refl _) o)
theorem RowAt.drew {w : World} {b : Nat} {t : TypeId} {cs : List Value} (h : RowAt w b t cs) : RowAt w.drew b t cs := h
theorem RowAt.cell {w : World} {b : Nat} {t : TypeId} {cs : List Value} (h : RowAt w b t cs) (j : Nat) {v : Value} (hv : cs[j]? = some v) : w.cell? ⟨b, j, none⟩ = some v := by
  rw [cell_of_row w b j _ t _ h]; simpa using hv
theorem RowAt.free {w : World} {b : Nat} {t : TypeId} {cs : List Value} (h : RowAt w b t cs) (j : Nat) : w.frozen? ⟨b, j, none⟩ = false := frozen_of_row w b j _ t h
theorem RowAt.set {w : World} {b : Nat} {t : TypeId} {cs : List Value} (h : RowAt w b t cs) (j : Nat) (v : Value) : RowAt (w.setCell ⟨b, j, none⟩ v) b t (cs.set j v) := by
  have := heap_setCell_same w b j cs.toArray t v h
  unfold RowAt
  rw [this]; simp
theorem RowAt.setOther {w : World} {b g : Nat} {t : TypeId} {cs : List Value} (h : RowAt w b t cs) (hne : b ≠ g) (j : Nat) (v : Value) : RowAt (w.setCell ⟨g, j, none⟩ v) b t cs := by
  unfold RowAt
  rw [heap_setCell_other _ _ _ _ hne]; exact h
theorem setCells_row {b : Nat} {t : TypeId} : ∀ (vs cs : List Value) (o : Nat) (w : World), RowAt w b t cs → o + vs.length ≤ cs.length → RowAt (w.setCells b o vs) b t (cs.take o ++ vs ++ cs.drop (o + vs.length))
  | [], cs, o, w, h, _ => by simpa [World.setCells] using h
  | v :: r, cs, o, w, h, hl => by
    simp only [List.length_cons] at hl
    have h1 := setCells_row r (cs.set o v) (o + 1) (w.setCell ⟨b, o, none⟩ v) (h.set o v) (by simp; omega)
    have e : (cs.set o v).take (o + 1) ++ r ++ (cs.set o v).drop (o + 1 + r.length) = cs.take o ++ v :: r ++ cs.drop (o + (v :: r).length) := by
      have e1 : (cs.set o v).take (o + 1) = cs.take o ++ [v] := by
        rw [List.set_eq_take_append_cons_drop, if_pos (by omega), List.take_append, List.length_take]
        rw [show o + 1 - min o cs.length = 1 from by omega, List.take_of_length_le (by rw [List.length_take]; omega)]
        simp
      have e2 : (cs.set o v).drop (o + 1 + r.length) = cs.drop (o + (v :: r).length) := by
        rw [List.drop_set_of_lt (by omega)]; congr 1; simp; omega
      rw [e1, e2]; simp
    rw [e] at h1
    exact h1
theorem setCells_other {b : Nat} : ∀ (vs : List Value) (o : Nat) (w : World) (k : Nat), k ≠ b → (w.setCells b o vs).heap[k]? = w.heap[k]?
  | [], _, _, _, _ => rfl
  | _ :: r, o, _, k, h => (setCells_other r (o + 1) _ k h).trans (heap_setCell_other _ _ _ _ h)
theorem setCells_below {B b : Nat} {a : World} (hB : B ≤ b) : ∀ (vs : List Value) (o : Nat) (w : World), Below B a w → Below B a (w.setCells b o vs)
  | [], _, _, h => h
  | v :: r, o, _, h => setCells_below hB r (o + 1) _ (h.setCell (p := ⟨b, o, none⟩) hB v)
theorem setCells_size {b : Nat} : ∀ (vs : List Value) (o : Nat) (w : World), (w.setCells b o vs).heap.size = w.heap.size
  | [], _, _ => rfl
  | _ :: r, o, _ => (setCells_size r (o + 1) _).trans (by simp)
section
variable {P : Program}
/-- A whole value is stored into a variable that is known whole. -/
theorem wpList_store_row {ops : Array Oper} {rest : List Oper} {op : Oper} {a : Act} {Q : Exit → Act → World → Prop} (hgd : op.guard = none) (w : World) (ty : TypeId) (x y : Operand) (ho : op.op = .store ty x y)
    (b : Nat) (t : TypeId) (cs vs : List Value) (hg : RowAt w b t cs) (hx : a.eval x = .pointer (some ⟨b, 0, none⟩)) (hy : a.eval y = .agg vs.toArray) (hl : vs.length = cs.length)
    (hi : (P.info? ty).map (·.size) = some cs.length) (h1 : ∀ v ∈ vs, v.oneCell' = true)
    (h : ∀ w', RowAt w' b t vs → (∀ B, B ≤ b → Below B w w') → (∀ k, k ≠ b → w'.heap[k]? = w.heap[k]?) → w'.heap.size = w.heap.size → wpList P ops Q rest (a.put op.dst undef) w') : wpList P ops Q (op :: rest) a w := by
  refine wpList_store_mid hgd ty x y ho b 0 vs.toArray hx hy (fun j hj => ?_) (by rw [hi]; simp [hl]) (all_oneCell_toArray h1) ?_
  · have hj' : j < cs.length := by simp at hj; omega
    rw [Nat.zero_add]
    exact ⟨by rw [hg.cell j (List.getElem?_eq_getElem hj')]; rfl, hg.free j⟩
  · have hr := setCells_row vs cs 0 w hg (by omega)
    rw [Nat.zero_add, hl, List.drop_length, List.take_zero, List.nil_append, List.append_nil] at hr
    exact h _ hr (fun B hB => setCells_below hB _ _ _ (Below.refl _ _)) (fun k hk => setCells_other _ _ _ _ hk) (setCells_size _ _ _)
theorem wpList_load_rowAt {ops : Array Oper} {rest : List Oper} {o : Oper} {a : Act} {Q : Exit → Act → World → Prop} (hgd : o.guard = none) (w : World) (ty : TypeId) (x : Operand) (ho : o.op = .load ty x)
    (b : Nat) (t : TypeId) (cs : List Value) (hg : RowAt w b t cs) (hx : a.eval x = .pointer (some ⟨b, 0, none⟩)) (fs : Array Field) (hu : P.underlying ty = some (.struct fs)) (hi : (P.info? ty).map (·.size) = some cs.length)
    (h : wpList P ops Q rest (a.put o.dst (.agg cs.toArray)) w) : wpList P ops Q (o :: rest) a w :=
  wpList_load_row hgd ty x ho b hx t cs.toArray (0, 0) (.struct fs) hg hu rfl (by rw [hi]; simp) h
theorem run_load_row (w : World) (ty : TypeId) (b : Nat) (t : TypeId) (cs : List Value) (hg : RowAt w b t cs) (fs : Array Field) (hu : P.underlying ty = some (.struct fs)) (hi : (P.info? ty).map (·.size) = some cs.length) :
    (Instr.loadAt ty (.pointer (some ⟨b, 0, none⟩))).run P w = .ok (.agg cs.toArray) w := by
  simp only [Instr.loadAt, Instr.sureAddr, Sem.run_bind, Sem.run_pure, Result.andThen_ok]
  exact run_loadVar_row w b t ty cs.toArray (0, 0) (.struct fs) hg hu rfl (by rw [hi]; simp)
theorem results_row2 {fn : Func} {p u : Tmp} {ty : TypeId} (h : fn.results = #[.cell p ty, .tmp u]) (tmps : Array Value) (w : World) (b : Nat) (t : TypeId) (cs : List Value) (hg : RowAt w b t cs)
    (hp : tmps.getD p undef = .pointer (some ⟨b, 0, none⟩)) (fs : Array Field) (hu : P.underlying ty = some (.struct fs)) (hi : (P.info? ty).map (·.size) = some cs.length) :
    (results fn tmps).run P w = .ok (.tuple #[.agg cs.toArray, tmps.getD u undef]) w := by
  have hr := run_loadVar_row (P := P) w b t ty cs.toArray (0, 0) (.struct fs) hg hu rfl (by rw [hi]; simp)
  rw [results_cell_tmp h, hp]
  have e1 : (asAddr (.pointer (some ⟨b, 0, none⟩))).run P w = .ok ⟨b, 0, none⟩ w := by simp [asAddr]
  rw [e1, Result.andThen_ok, hr, Result.andThen_ok]
theorem results_row1 {fn : Func} {p : Tmp} {ty : TypeId} (h : fn.results = #[.cell p ty]) (tmps : Array Value) (w : World) (b : Nat) (t : TypeId) (cs : List Value) (hg : RowAt w b t cs)
    (hp : tmps.getD p undef = .pointer (some ⟨b, 0, none⟩)) (fs : Array Field) (hu : P.underlying ty = some (.struct fs)) (hi : (P.info? ty).map (·.size) = some cs.length) :
    (results fn tmps).run P w = .ok (.agg cs.toArray) w :=
  results_cell_row h tmps w b t cs.toArray (0, 0) (.struct fs) hp hg hu rfl (by rw [hi]; simp)
end
end Go.Proofs.YtfnmohaddkoalaaGreatDoor
namespace Go.Proofs.YtfnmohaddkoalaaGreatDoor
open Go.RowKit

theorem step_b {w w1 w2 : World} (h : Below w.heap.size w w1) (h' : Below w1.heap.size w1 w2) : Below w.heap.size w w2 := h.trans (h'.mono h.size)
theorem alloc_b (w : World) (o : Obj) : Below w.heap.size w (w.alloc o) := (Below.refl _ _).alloc (Nat.le_refl _) _
/-- A response's cells. -/
abbrev respC (m st : Int) (rs : ByteArray) (oa : Option Addr) (n cap : Nat) (bd : ByteArray) : List Value := [.int .i64 m, .int .i64 st, .string rs, .slice oa n cap, .string bd]
abbrev respV (m st : Int) (rs : ByteArray) (oa : Option Addr) (n cap : Nat) (bd : ByteArray) : Value := .agg #[.int .i64 m, .int .i64 st, .string rs, .slice oa n cap, .string bd]
theorem resp_size : (Tryz.prog.info? 41).map (·.size) = some 5 := by kernel_rfl
def keepRB (rs bd : ByteArray) (xs : List Fd) : Bool := decide (rs.size ≤ 2100) && fieldsB xs && decide (bd.size ≤ 2000)
set_option maxHeartbeats 1600000 in
theorem keepR_any (m st : Int) (rs : ByteArray) (oa : Option Addr) (xs : List Fd) (cap : Nat) (bd : ByteArray) (w : World) (hn : xs.length ≤ 9223372036854775807) (hc : FldO w oa xs) :
    Calls Tryz.prog 18 #[respV m st rs oa xs.length cap bd] w fun e w' => e = .returned (.bool (keepRB rs bd xs)) ∧ Below w.heap.size w w' := by
  have HC := Lib.hid (hc.down (alloc_b w (.cells (respC m st rs oa xs.length cap bd).toArray 41)))
  clear hc
  by_cases h1 : rs.size ≤ 2100
  · have h1' : decide ((rs.size : Int) ≤ 2100) = true := by simp; omega
    cases hf : fieldsB xs with
    | true =>
      have HF := Lib.hid hf
      have HR : Hid (keepRB rs bd xs = decide ((bd.size : Int) ≤ 2000)) := Lib.hid (by
        unfold keepRB; rw [hf, decide_eq_true h1]; simp; omega)
      clear hf
      go_enter Tryz.func18, Tryz.ntmps18
      go_wp2_with fail
      refine (keepF_any oa xs cap _ hn HC.out).mono ?_
      rintro e w2 ⟨rfl, hw2⟩
      rw [HF.out]
      subst hw2
      go_wp2_with fail
      go_ret
      exact ⟨by rw [HR.out]; rfl, alloc_b w _⟩
    | false =>
      have HF := Lib.hid hf
      have HR : Hid (keepRB rs bd xs = false) := Lib.hid (by unfold keepRB; rw [hf]; simp)
      clear hf
      go_enter Tryz.func18, Tryz.ntmps18
      go_wp2_with fail
      refine (keepF_any oa xs cap _ hn HC.out).mono ?_
      rintro e w2 ⟨rfl, hw2⟩
      rw [HF.out]
      subst hw2
      go_wp2_with fail
      go_ret
      exact ⟨by rw [HR.out]; rfl, alloc_b w _⟩
  · have h1' : decide ((rs.size : Int) ≤ 2100) = false := by simp; omega
    have HR : Hid (keepRB rs bd xs = false) := Lib.hid (by unfold keepRB; rw [decide_eq_false h1]; rfl)
    go_enter Tryz.func18, Tryz.ntmps18
    go_wp2_with fail
    go_ret
    exact ⟨by rw [HR.out]; rfl, alloc_b w _⟩
/-- One field's struct, loaded. -/
theorem run_load_fd {w : World} {oa : Option Addr} {xs : List Fd} (h : FldO w oa xs) {i : Nat} {x : Fd} (hx : xs[i]? = some x) : ∃ ad : Addr, oa = some ad ∧ w.cell? (ad.add (i * 2)) = some (.string x.1) ∧ w.cell? ⟨(ad.add (i * 2)).block, (ad.add (i * 2)).off + 1, none⟩ = some (.string x.2) := h.at hx
set_option maxHeartbeats 3200000 in
theorem sameFields_any (oa ob : Option Addr) (xs : List Fd) (ca cb : Nat) (w : World) (hn : xs.length ≤ 1000000) (ha : FldO w oa xs) (hb : FldO w ob xs) :
    Calls Tryz.prog 35 #[.slice oa xs.length ca, .slice ob xs.length cb] w fun e w' => e = .returned (.bool true) ∧ Below w.heap.size w w' := by
  have HA := Lib.hid ha
  have HB := Lib.hid hb
  clear ha hb
  go_enter Tryz.func35, Tryz.ntmps35
  go_wp2_with fail
  go_loopw [5] (fun j wr => ∃ k : Nat, k ≤ xs.length ∧ j = .int .i64 k ∧ Below w.heap.size w wr) (fun j _ => xs.length - (intOf j).toNat)
  case atStart => exact ⟨0, by omega, rfl, Below.refl _ _⟩
  case round =>
    obtain ⟨k, hk, rfl, hb⟩ := hrel
    by_cases hlt : k < xs.length
    · obtain ⟨x, hx⟩ : ∃ x, xs[k]? = some x := ⟨_, List.getElem?_eq_getElem hlt⟩
      obtain ⟨ad, rfl, c0, c1⟩ := (HA.out.down hb).at hx
      obtain ⟨bd, rfl, d0, d1⟩ := (HB.out.down hb).at hx
      clear hx
      go_wp2_with fail
      go_quiet (fail)
      have b4 := below_drewN hb nq
      generalize wr.drewN nq = w4 at b4 ⊢
      go_wp2_with fail
      go_roundw
      case rel => exact ⟨k + 1, by omega, by go_num, b4⟩
      case measure => simp [intOf]; omega
    · go_wp2_with fail
      go_ret
      exact ⟨rfl, hb⟩
end Go.Proofs.YtfnmohaddkoalaaGreatDoor
namespace Go.Proofs.YtfnmohaddkoalaaGreatDoor
open Go.RowKit

theorem infoU8 : (Tryz.prog.info? 5).map (fun i => (i.zero, i.size, i.bytes)) = some (some (.int .u8 0), 1, 1) := by kernel_rfl
theorem cell_new (w : World) (v : Value) (t : TypeId) : (w.alloc (.cells #[v] t)).cell? ⟨w.heap.size, 0, none⟩ = some v := by simp
theorem le_alloc {n : Nat} {w : World} (h : n ≤ w.heap.size) (o : Obj) : n ≤ (w.alloc o).heap.size := by simp; omega
theorem u8_ne {c : UInt8} {n : Nat} (hn : n < 256) (h : c ≠ UInt8.ofNat n) : ((c.toNat : Int) == (n : Int)) = false := by
  rw [beq_eq_false_iff_ne]; intro e; apply h
  rw [← UInt8.toNat_inj]; simp; omega
theorem u8_eq {c : UInt8} {n : Nat} (hn : n < 256) (h : c = UInt8.ofNat n) : ((c.toNat : Int) == (n : Int)) = true := by
  subst h; simp; omega
theorem u8_bt {c : UInt8} {n : Nat} (hn : n < 256) (h : c ≠ UInt8.ofNat n) : ((c.toNat : Int) != (n : Int)) = true := by rw [bne, u8_ne hn h]; rfl
theorem u8_bf {c : UInt8} {n : Nat} (hn : n < 256) (h : c = UInt8.ofNat n) : ((c.toNat : Int) != (n : Int)) = false := by rw [bne, u8_eq hn h]; rfl
end Go.Proofs.YtfnmohaddkoalaaGreatDoor
namespace Go.Proofs.YtfnmohaddkoalaaGreatDoor
open Go.RowKit

def fcells : List Fd → List Value
  | [] => []
  | x :: t => .string x.1 :: .string x.2 :: fcells t
theorem fcells_len (xs : List Fd) : (fcells xs).length = xs.length * 2 := by
  induction xs with
  | nil => rfl
  | cons x t ih => simp only [fcells, List.length_cons, ih]; omega
theorem fcells_snoc (xs : List Fd) (c : Fd) : fcells (xs ++ [c]) = fcells xs ++ [.string c.1, .string c.2] := by
  induction xs with
  | nil => rfl
  | cons x t ih => simp only [List.cons_append, fcells, ih]
theorem fcells_at : ∀ (xs : List Fd) (i : Nat) (x : Fd), xs[i]? = some x → (fcells xs)[i * 2]? = some (.string x.1) ∧ (fcells xs)[i * 2 + 1]? = some (.string x.2)
  | [], i, x, h => by simp at h
  | y :: t, 0, x, h => by
    cases h
    exact ⟨rfl, rfl⟩
  | y :: t, i + 1, x, h => by
    have := fcells_at t i x (by simpa using h)
    have e1 : (i + 1) * 2 = i * 2 + 1 + 1 := by omega
    rw [e1]
    exact this
theorem infoFld : (Tryz.prog.info? 69).map (fun i => (i.zero, i.size, i.bytes)) = some (some (.agg #[.string ByteArray.empty, .string ByteArray.empty]), 2, 32) := by kernel_rfl
/-- The slice v is a row of the call's own that holds just these fields. -/
def FBuf (w : World) (B : Nat) (v : Value) (xs : List Fd) : Prop := w.ownsRow B 69 2 v xs.length (fcells xs)
theorem FBuf.nil_ (w : World) (B : Nat) : FBuf w B (.slice none 0 0) [] := World.ownsRow_nil w B _ 2
theorem FBuf.alloc {w : World} {B : Nat} {v : Value} {xs : List Fd} (h : FBuf w B v xs) (o : Obj) : FBuf (w.alloc o) B v xs := World.ownsRow.alloc h o
theorem FBuf.below {w w' : World} {B B' : Nat} {v : Value} {xs : List Fd} (h : FBuf w B v xs) (hb : Below B' w w') (hB : w.heap.size ≤ B') : FBuf w' B v xs := by
  refine ⟨h.1, ?_⟩
  rcases h.2 with h0 | ⟨g, cap, cur, h1, h2, h3, h4⟩
  · exact .inl h0
  · have hg : g < w.heap.size := by
      rcases Nat.lt_or_ge g w.heap.size with hlt | hge
      · exact hlt
      · rw [Array.getElem?_eq_none hge] at h3; cases h3
    exact .inr ⟨g, cap, cur, h1, h2, (hb.block g (by omega)).trans h3, h4⟩
theorem FBuf.set {w : World} {B : Nat} {v : Value} {xs : List Fd} (h : FBuf w B v xs) {g j : Nat} (hg : g < B) (u : Value) : FBuf (w.setCell ⟨g, j, none⟩ u) B v xs := by
  refine ⟨h.1, ?_⟩
  rcases h.2 with h0 | ⟨g', cap, cur, h1, h2, h3, h4⟩
  · exact .inl h0
  · refine .inr ⟨g', cap, cur, h1, h2, ?_, h4⟩
    rw [← h3]
    exact Below.heap_setCell w ⟨g, j, none⟩ u g' (by show g' ≠ g; omega)
theorem FBuf.shape {w : World} {B : Nat} {v : Value} {xs : List Fd} (h : FBuf w B v xs) : ∃ oa cap, v = .slice oa xs.length cap ∧ FldO w oa xs := by
  rcases h.2 with ⟨rfl, h0⟩ | ⟨g, cap, cur, rfl, h2, h3, h4, h5⟩
  · obtain rfl : xs = [] := List.length_eq_zero_iff.1 h0
    exact ⟨none, 0, rfl, FldO.nil_ _ _⟩
  · refine ⟨_, _, rfl, fun i x hx => ⟨_, rfl, ?_, ?_⟩⟩
    · exact World.ownsRow.cells h (g := g) rfl (i * 2) _ (fcells_at xs i x hx).1
    · exact World.ownsRow.cells h (g := g) rfl (i * 2 + 1) _ (fcells_at xs i x hx).2
theorem FBuf.fld {w : World} {B : Nat} {oa : Option Addr} {n cap : Nat} {xs : List Fd} (h : FBuf w B (.slice oa n cap) xs) : FldO w oa xs := by
  obtain ⟨oa', cap', e, h'⟩ := h.shape
  cases e; exact h'
theorem FBuf.others {w w' : World} {B : Nat} {v : Value} {xs : List Fd} (h : FBuf w B v xs) {b : Nat} (hb : b < B) (f : ∀ k, k ≠ b → w'.heap[k]? = w.heap[k]?) : FBuf w' B v xs := by
  refine ⟨h.1, ?_⟩
  rcases h.2 with h0 | ⟨g, cap, cur, h1, h2, h3, h4⟩
  · exact .inl h0
  · exact .inr ⟨g, cap, cur, h1, h2, (f g (by omega)).trans h3, h4⟩
theorem new_f0 (w : World) (x : Fd) (t : TypeId) : (w.alloc (.cells #[.string x.1, .string x.2] t)).cell? ((⟨w.heap.size, 0, none⟩ : Addr).add 0) = some (.string x.1) := (RowAt.new w [.string x.1, .string x.2] t).cell 0 rfl
theorem new_f1 (w : World) (x : Fd) (t : TypeId) : (w.alloc (.cells #[.string x.1, .string x.2] t)).cell? ((⟨w.heap.size, 0, none⟩ : Addr).add 1) = some (.string x.2) := (RowAt.new w [.string x.1, .string x.2] t).cell 1 rfl
theorem FBuf.lower {w : World} {B B' : Nat} {v : Value} {xs : List Fd} (h : FBuf w B v xs) (hB : B' ≤ B) : FBuf w B' v xs := by
  refine ⟨h.1, ?_⟩
  rcases h.2 with h0 | ⟨g, cap, cur, h1, h2, h3, h4⟩
  · exact .inl h0
  · exact .inr ⟨g, cap, cur, h1, by omega, h3, h4⟩
theorem FBuf.one {w : World} {B : Nat} {v : Value} {xs : List Fd} (h : FBuf w B v xs) : v.oneCell' = true := by
  obtain ⟨oa, cap, rfl, _⟩ := h.shape
  rfl
theorem wpList_append_fld {ops : Array Oper} {rest : List Oper} {o : Oper} {a : Act} {Q : Exit → Act → World → Prop} (hgd : o.guard = none) (s x : Operand)
    (ho : o.op = .call { callee := .builtin .append, args := #[s, x], argTypes := #[22, 22] })
    (w0 w : World) (B : Nat) (v : Value) (xs : List Fd) (hs : a.eval s = v) (hown : FBuf w B v xs) (hb : Below B w0 w) (hB : B ≤ w.heap.size)
    (ad : Addr) (c : Fd) (hx : a.eval x = .slice (some ad) 1 1) (hc0 : w.cell? (ad.add 0) = some (.string c.1)) (hc1 : w.cell? (ad.add 1) = some (.string c.2)) (hl : xs.length + 1 ≤ 1000000)
    (h : ∀ v' w', FBuf w' B v' (xs ++ [c]) → Below B w0 w' → B ≤ w'.heap.size → wpList Tryz.prog ops Q rest (a.put o.dst v') w') : wpList Tryz.prog ops Q (o :: rest) a w := by
  obtain ⟨i, hi, hz0, hz1, hz2⟩ := info_parts infoFld
  refine wpList_append_own w hgd s x 22 ho B 69 i (.agg #[.string ByteArray.empty, .string ByteArray.empty]) 2 32 Tryz.underlying22 hi hz0 hz1 hz2 rfl (by decide) v xs.length _ hs hown ad 1 1 [.string c.1, .string c.2] hx rfl ?_ ?_ (by unfold maxLen; omega) (by omega) hB ?_
  · intro j u hj
    rcases j with _ | _ | j
    · simp at hj; subst hj; exact hc0
    · simp at hj; subst hj; exact hc1
    · simp at hj
  · intro u hu
    simp at hu
    rcases hu with rfl | rfl <;> rfl
  · intro v' w' hown' hg _
    refine h v' w' ?_ (hb.grown hg hB (fun j hj => (World.ownsRow.lt hown j hj).1)) (Nat.le_trans hB hg.size)
    unfold FBuf
    rw [fcells_snoc, List.length_append]
    exact hown'
/-- A slice of strings written out in the text. -/
theorem StrO.new (w : World) (xs : List ByteArray) : StrO (w.alloc (.cells (xs.map Value.string).toArray 9)) (some ⟨w.heap.size, 0, none⟩) xs := fun i x hx => by
  refine ⟨_, rfl, ?_⟩
  have h := (RowAt.new w (xs.map Value.string) 9).cell i (v := .string x) (by rw [List.getElem?_map, hx]; rfl)
  have ea : (⟨w.heap.size, 0, none⟩ : Addr).add i = ⟨w.heap.size, i, none⟩ := by unfold Addr.add; by_cases h0 : i = 0 <;> simp [h0]
  rw [ea]; exact h
end Go.Proofs.YtfnmohaddkoalaaGreatDoor
namespace Go.Proofs.YtfnmohaddkoalaaGreatDoor
open Go.RowKit

theorem low_facts {wr : World} {g k : Nat} {s : ByteArray} (hB : BytesAt wr g (lowUpTo (bs s) k)) (hlt : k < s.size) :
    ∃ c : UInt8, wr.cell? ⟨g, k, none⟩ = some (.int .u8 (c.toNat : Int)) ∧ wr.frozen? ⟨g, k, none⟩ = false ∧ (lowC c = c → BytesAt wr g (lowUpTo (bs s) (k + 1))) ∧
      BytesAt (wr.setCell ⟨g, k, none⟩ (.int .u8 ((lowC c).toNat : Int))) g (lowUpTo (bs s) (k + 1)) := by
  have hkl : k < (bs s).length := by rw [bs_length]; exact hlt
  have hkl' : k < (lowUpTo (bs s) k).length := by rw [lowUpTo_length]; exact hkl
  refine ⟨(bs s)[k], ?_, hB.free k hkl', fun h => ?_, ?_⟩
  · rw [hB.cell k hkl', lowUpTo_get _ hkl]
  · rw [← lowUpTo_keep _ hkl h]; exact hB
  · rw [← lowUpTo_step _ hkl]; exact hB.set hkl' _
theorem low_end {wr : World} {g k : Nat} {s : ByteArray} (hB : BytesAt wr g (lowUpTo (bs s) k)) (hk : s.size ≤ k) : BytesAt wr g (lowL (bs s)) := by
  rw [← lowUpTo_end (bs s) (by rw [bs_length]; exact hk)]; exact hB
set_option maxHeartbeats 400000 in
theorem lower_any (s : ByteArray) (w : World) (hs : s.size ≤ 9223372036854775807) :
    Calls Tryz.prog 76 #[.string s] w fun e w' => e = .returned (.string ⟨(lowL (bs s)).toArray⟩) ∧ Below w.heap.size w w' := by
  obtain ⟨cap, w1, hcv, hB, hbel, hsz⟩ := conv_to_bytes (P := Tryz.prog) 9 85 5 s w Tryz.underlying9 Tryz.underlying85 Tryz.underlying5
  go_enter Tryz.func76, Tryz.ntmps76
  go_wp2
  go_loopw [10] (fun j wr => ∃ k : Nat, k ≤ s.size ∧ j = .int .i64 k ∧ BytesAt wr w.heap.size (lowUpTo (bs s) k) ∧ Below w.heap.size w wr) (fun j _ => s.size - (intOf j).toNat)
  case atStart => exact ⟨0, by omega, rfl, by rw [lowUpTo_zero]; exact hB, hbel⟩
  case round =>
    obtain ⟨k, hk, rfl, hB1, hb1⟩ := hrel
    clear hB hbel hsz hcv
    by_cases hlt : k < s.size
    · obtain ⟨c, hc, hf, hkeep, hset⟩ := low_facts hB1 hlt
      clear hB1
      have hcb : c.toNat < 256 := UInt8.toNat_lt c
      by_cases hu : 65 ≤ c.toNat ∧ c.toNat ≤ 90
      · have h1 : 65 ≤ (c.toNat : Int) := by omega
        have h2 : (c.toNat : Int) ≤ 90 := by omega
        have e : (c.toNat : Int) + 97 - 65 = (c.toNat : Int) + 32 := by omega
        rw [lowC_hit hu, ← e] at hset
        clear hkeep e
        have H := Lib.hid hset
        clear hset
        go_wp2
        go_roundw
        case rel => exact ⟨k + 1, by omega, by go_num, H.out, hb1.setCell (Nat.le_refl _) _⟩
        case measure => simp [intOf]; omega
      · have hset' := hkeep (lowC_miss hu)
        clear hset hkeep
        have H := Lib.hid hset'
        clear hset'
        go_wp2
        all_goals
          go_roundw
          case rel => exact ⟨k + 1, by omega, by go_num, H.out, hb1⟩
          case measure => simp [intOf]; omega
    · have hcv := conv_from_bytes (P := Tryz.prog) 85 9 5 w.heap.size s.size cap (lowL (bs s)) wr Tryz.underlying85 Tryz.underlying5 Tryz.underlying9 (by rw [lowL_length, bs_length]) (low_end hB1 (by omega))
      clear hB1
      go_wp2
      go_ret
      exact ⟨rfl, hb1⟩

set_option maxHeartbeats 400000 in
theorem fold_any (s t : ByteArray) (w : World) (hs : s.size ≤ 9223372036854775807) (ht : t.size ≤ 9223372036854775807) :
    Calls Tryz.prog 49 #[.string s, .string t] w fun e w' => e = .returned (.bool (foldB (bs s) (bs t))) ∧ Below w.heap.size w w' := by
  by_cases hl : s.size = t.size
  · have hl' : ((s.size : Int) == (t.size : Int)) = true := by simp [hl]
    have H := Lib.hid hl
    clear hl
    go_enter Tryz.func49, Tryz.ntmps49
    go_wp2_with fail
    refine (lower_any s _ hs).mono ?_
    rintro e w1 ⟨rfl, hb1⟩
    go_wp2_with fail
    refine (lower_any t _ ht).mono ?_
    rintro e w2 ⟨rfl, hb2⟩
    go_wp2_with fail
    go_ret
    exact ⟨ret_bool (by simp [foldB, H.out]), hb1.trans (hb2.mono hb1.size)⟩
  · have hl' : ((s.size : Int) == (t.size : Int)) = false := by simp; omega
    have H := Lib.hid hl
    clear hl
    go_enter Tryz.func49, Tryz.ntmps49
    go_wp2_with fail
    go_ret
    exact ⟨ret_bool (by simp [foldB, H.out]), Below.refl _ _⟩
end Go.Proofs.YtfnmohaddkoalaaGreatDoor
namespace Go.Proofs.YtfnmohaddkoalaaGreatDoor
open Go.RowKit

theorem infoStr : (Tryz.prog.info? 9).map (fun i => (i.zero, i.size, i.bytes)) = some (some (.string ByteArray.empty), 1, 16) := by kernel_rfl
/-- The slice v is a row of the call's own that holds just these strings. -/
def SBuf (w : World) (B : Nat) (v : Value) (xs : List ByteArray) : Prop := w.ownsRow B 9 1 v xs.length (xs.map Value.string)
theorem SBuf.nil_ (w : World) (B : Nat) : SBuf w B (.slice none 0 0) [] := World.ownsRow_nil w B _ 1
theorem SBuf.alloc {w : World} {B : Nat} {v : Value} {xs : List ByteArray} (h : SBuf w B v xs) (o : Obj) : SBuf (w.alloc o) B v xs := World.ownsRow.alloc h o
theorem SBuf.drew {w : World} {B : Nat} {v : Value} {xs : List ByteArray} (h : SBuf w B v xs) : SBuf w.drew B v xs := h
/-- Behind the head of block g these strings lie. -/
def StrAt (w : World) (g : Nat) (xs : List ByteArray) : Prop := ∀ (i : Nat) (x : ByteArray), xs[i]? = some x → w.cell? ⟨g, i, none⟩ = some (.string x)
theorem StrAt.below {w w' : World} {B g : Nat} {xs : List ByteArray} (h : StrAt w g xs) (hb : Below B w w') (hB : g < B) : StrAt w' g xs := fun i x hx => (hb.cell (p := ⟨g, i, none⟩) hB).trans (h i x hx)
theorem SBuf.below {w w' : World} {B B' : Nat} {v : Value} {xs : List ByteArray} (h : SBuf w B v xs) (hb : Below B' w w') (hB : w.heap.size ≤ B') : SBuf w' B v xs := by
  refine ⟨h.1, ?_⟩
  rcases h.2 with h0 | ⟨g, cap, cur, h1, h2, h3, h4⟩
  · exact .inl h0
  · have hg : g < w.heap.size := by
      rcases Nat.lt_or_ge g w.heap.size with hlt | hge
      · exact hlt
      · rw [Array.getElem?_eq_none hge] at h3; cases h3
    exact .inr ⟨g, cap, cur, h1, h2, (hb.block g (by omega)).trans h3, h4⟩
theorem SBuf.shape {w : World} {B : Nat} {v : Value} {xs : List ByteArray} (h : SBuf w B v xs) : ∃ oa cap, v = .slice oa xs.length cap ∧ xs.length ≤ cap := by
  rcases h.2 with ⟨rfl, h0⟩ | ⟨g, cap, cur, rfl, h2, h3, h4, h5⟩
  · exact ⟨none, 0, by rw [h0], by omega⟩
  · exact ⟨_, _, rfl, h4⟩
theorem SBuf.form {w : World} {B : Nat} {v : Value} {xs : List ByteArray} (h : SBuf w B v xs) (hn : 0 < xs.length) : ∃ g cap, v = .slice (some ⟨g, 0, none⟩) xs.length cap ∧ B ≤ g ∧ g < w.heap.size ∧ StrAt w g xs ∧ xs.length ≤ cap := by
  rcases h.2 with ⟨_, h0⟩ | ⟨g, cap, cur, rfl, h2, h3, h4, h5⟩
  · omega
  · refine ⟨g, cap, rfl, h2, ?_, fun i x hx => ?_, h4⟩
    · rcases Nat.lt_or_ge g w.heap.size with hlt | hge
      · exact hlt
      · rw [Array.getElem?_eq_none hge] at h3; cases h3
    · have hc := World.ownsRow.cells h (g := g) rfl i (.string x) (by simp [hx])
      have ea : (⟨g, 0, none⟩ : Addr).add i = ⟨g, i, none⟩ := by unfold Addr.add; by_cases h0 : i = 0 <;> simp [h0]
      rw [ea] at hc; exact hc
/-- A row without its last string: 'out[:max(len(out)-1, 0)]'. -/
theorem SBuf.pop {w : World} {B : Nat} {v : Value} {xs : List ByteArray} (h : SBuf w B v xs) (m : Nat) (hm : m = xs.length - 1) :
    ∃ v', (∀ wx, (Instr.slice 37 v none (some (.int .i64 (m : Int))) none).run Tryz.prog wx = .ok v' wx) ∧ SBuf w B v' xs.dropLast := by
  rcases h.2 with ⟨rfl, h0⟩ | ⟨g, cap, cur, rfl, h2, h3, h4, h5⟩
  · have : xs = [] := List.length_eq_zero_iff.1 h0
    subst this
    obtain rfl : m = 0 := hm
    exact ⟨.slice none 0 0, fun wx => by kernel_rfl, SBuf.nil_ _ _⟩
  · refine ⟨.slice (some ⟨g, 0, none⟩) m cap, fun wx => ?_, ?_⟩
    · have hs : (sizeOf (Tryz.prog.elem 37)).run Tryz.prog wx = .ok 1 wx := by kernel_rfl
      rw [run_slice_h (P := Tryz.prog) wx 37 (some ⟨g, 0, none⟩) xs.length cap (by kernel_rfl) .i64 (m : Int) (by omega) (by omega), hs]
      simp [Result.andThen, sliced, Addr.add]
    · rcases (show xs = [] ∨ ∃ ys y, xs = ys ++ [y] from by
        rcases List.eq_nil_or_concat xs with h0 | ⟨ys, y, h0⟩
        · exact .inl h0
        · exact .inr ⟨ys, y, by rw [h0]; simp⟩) with rfl | ⟨ys, y, rfl⟩
      · obtain rfl : m = 0 := hm
        exact h
      · have e : m = ys.length := by simpa using hm
        subst e
        have hl : (ys ++ [y]).length = ys.length + 1 := by simp
        unfold SBuf at h ⊢
        rw [List.dropLast_concat]
        rw [hl, List.map_append] at h
        exact ownsRow_pop (by simp) h
theorem wpList_append_str {ops : Array Oper} {rest : List Oper} {o : Oper} {a : Act} {Q : Exit → Act → World → Prop} (hgd : o.guard = none) (s x : Operand)
    (ho : o.op = .call { callee := .builtin .append, args := #[s, x], argTypes := #[37, 37] })
    (w0 w : World) (B : Nat) (v : Value) (xs : List ByteArray) (hs : a.eval s = v) (hown : SBuf w B v xs) (hb : Below B w0 w) (hB : B ≤ w.heap.size)
    (ad : Addr) (c : ByteArray) (hx : a.eval x = .slice (some ad) 1 1) (hc : w.cell? ad = some (.string c)) (hl : xs.length + 1 ≤ 1000000)
    (h : ∀ v' w', SBuf w' B v' (xs ++ [c]) → Below B w0 w' → B ≤ w'.heap.size → wpList Tryz.prog ops Q rest (a.put o.dst v') w') : wpList Tryz.prog ops Q (o :: rest) a w := by
  obtain ⟨i, hi, hz0, hz1, hz2⟩ := info_parts infoStr
  refine wpList_append_own w hgd s x 37 ho B 9 i (.string ByteArray.empty) 1 16 Tryz.underlying37 hi hz0 hz1 hz2 rfl (by decide) v xs.length _ hs hown ad 1 1 [.string c] hx rfl ?_ ?_ (by unfold maxLen; omega) (by omega) hB ?_
  · intro j u hj
    rcases j with _ | j
    · simp at hj; subst hj
      have : ad.add 0 = ad := by unfold Addr.add; simp
      rw [this]; exact hc
    · simp at hj
  · intro u hu
    simp at hu; subst hu; rfl
  · intro v' w' hown' hg _
    refine h v' w' ?_ (hb.grown hg hB (fun j hj => (World.ownsRow.lt hown j hj).1)) (Nat.le_trans hB hg.size)
    unfold SBuf
    simpa using hown'
theorem step_append_str {ops : Array Oper} {o : Oper} {a : Act} {K : Act → World → Prop} {Q : Exit → Act → World → Prop} {E : Prop} (hgd : o.guard = none) (s x : Operand)
    (ho : o.op = .call { callee := .builtin .append, args := #[s, x], argTypes := #[37, 37] })
    (w0 w : World) (B : Nat) (v : Value) (xs : List ByteArray) (hs : a.eval s = v) (hown : SBuf w B v xs) (hb : Below B w0 w) (hB : B ≤ w.heap.size)
    (ad : Addr) (c : ByteArray) (hx : a.eval x = .slice (some ad) 1 1) (hc : w.cell? ad = some (.string c)) (hl : xs.length + 1 ≤ 1000000)
    (h : ∀ v' w', SBuf w' B v' (xs ++ [c]) → Below B w0 w' → B ≤ w'.heap.size → K (a.put o.dst v') w') :
    if Region.wanted o (yielded ops a.tmps) = true then Oper.wp Tryz.prog o a w K Q else E := by
  have hw : Region.wanted o (yielded ops a.tmps) = true := by simp [Region.wanted, hgd]
  rw [if_pos hw]
  obtain ⟨i, hi, hz0, hz1, hz2⟩ := info_parts infoStr
  refine wp_append_own w s x 37 ho B 9 i (.string ByteArray.empty) 1 16 Tryz.underlying37 hi hz0 hz1 hz2 rfl (by decide) v xs.length _ hs hown ad 1 1 [.string c] hx rfl ?_ ?_ (by unfold maxLen; omega) (by omega) hB ?_
  · intro j u hj
    rcases j with _ | j
    · simp at hj; subst hj
      have : ad.add 0 = ad := by unfold Addr.add; simp
      rw [this]; exact hc
    · simp at hj
  · intro u hu
    simp at hu; subst hu; rfl
  · intro v' w' hown' hg _
    refine h v' w' ?_ (hb.grown hg hB (fun j hj => (World.ownsRow.lt hown j hj).1)) (Nat.le_trans hB hg.size)
    unfold SBuf
    simpa using hown'
theorem cell_new_drew (w : World) (v : Value) (t : TypeId) : (w.alloc (.cells #[v] t)).drew.cell? ⟨w.heap.size, 0, none⟩ = some v := cell_new w v t
end Go.Proofs.YtfnmohaddkoalaaGreatDoor
namespace Go.Proofs.YtfnmohaddkoalaaGreatDoor
open Go.RowKit Go.Shelf

theorem ftake_keep {α : Type} {p : α → Bool} {xs : List α} {k : Nat} {x : α} (hx : xs[k]? = some x) (h : p x = true) : (xs.take (k + 1)).filter p = (xs.take k).filter p ++ [x] := by
  obtain ⟨hk, he⟩ := List.getElem?_eq_some_iff.1 hx
  rw [List.take_succ_eq_append_getElem hk, List.filter_append, he, List.filter_cons_of_pos h]; rfl
theorem ftake_skip {α : Type} {p : α → Bool} {xs : List α} {k : Nat} {x : α} (hx : xs[k]? = some x) (h : p x = false) : (xs.take (k + 1)).filter p = (xs.take k).filter p := by
  obtain ⟨hk, he⟩ := List.getElem?_eq_some_iff.1 hx
  rw [List.take_succ_eq_append_getElem hk, List.filter_append, he, List.filter_cons_of_neg (by rw [h]; simp)]; simp
/-- A field has this name. -/
def isF (n : List UInt8) (x : Fd) : Bool := foldB (bs x.1) n
def getF (n : List UInt8) (xs : List Fd) : List ByteArray := (xs.filter (isF n)).map (·.2)
/-- What is asked of a function value that tests a field. -/
def FPred (g : Nat) (lb : Array Value) (p : Fd → Bool) (w : World) : Prop :=
  ∀ (W : World) (x : Fd), Below w.heap.size w W → x.1.size ≤ 1000000 → Calls Tryz.prog g (#[.agg #[.string x.1, .string x.2]] ++ lb) W fun e w' => e = .returned (.bool (p x)) ∧ Below W.heap.size W w'
theorem isF_len {n : List UInt8} {x : Fd} (h : ¬ x.1.size = n.length) : isF n x = false := by
  unfold isF foldB
  rw [decide_eq_false (by rw [bs_length]; exact h)]; rfl
theorem isF_low {n : List UInt8} {x : Fd} (h : x.1.size = n.length) : isF n x = (lowL (bs x.1) == lowL n) := by
  unfold isF foldB
  rw [decide_eq_true (by rw [bs_length]; exact h)]; rfl
set_option maxHeartbeats 1600000 in
theorem filter_any (oa : Option Addr) (xs : List Fd) (cap : Nat) (g : Nat) (lb : Array Value) (p : Fd → Bool) (w : World) (eg : ∀ args w, (callFunc g args).run Tryz.prog w = .ok (.enter g args) w) (hp : FPred g lb p w)
    (hn : xs.length ≤ 100000) (hz : FldZ xs 100000) (hc : FldO w oa xs) :
    Calls Tryz.prog 51 #[.slice oa xs.length cap, .func (.func g) #[] lb] w fun e w' => ∃ v, e = .returned v ∧ FBuf w' w.heap.size v (xs.filter p) ∧ Below w.heap.size w w' := by
  have HC := Lib.hid hc
  have HZ := Lib.hid hz
  have HP := Lib.hid hp
  clear hc hz hp
  go_enter Tryz.func51, Tryz.ntmps51
  go_wp2_with fail
  go_loopw [5, 10] (fun v j wr => ∃ (k : Nat) (ys : List Fd), k ≤ xs.length ∧ j = .int .i64 k ∧ Hid (ys = (xs.take k).filter p) ∧ ys.length ≤ k ∧ FBuf wr w.heap.size v ys ∧ Below w.heap.size w wr) (fun _ j _ => xs.length - (intOf j).toNat)
  case atStart => exact ⟨0, [], by omega, rfl, Lib.hid rfl, by simp, FBuf.nil_ _ _, Below.refl _ _⟩
  case round =>
    obtain ⟨k, ys, hk, rfl, HY, hyl, FB, hb⟩ := hrel
    by_cases hlt : k < xs.length
    · obtain ⟨x, hx⟩ : ∃ x, xs[k]? = some x := ⟨_, List.getElem?_eq_getElem hlt⟩
      obtain ⟨ad, rfl, c0, c1⟩ := (HC.out.down hb).at hx
      have zx := (HZ.out x (List.mem_of_getElem? hx)).1
      have hl10 : ys.length + 1 ≤ 1000000 := by omega
      have HCL := Lib.hid (HP.out (wr.alloc (.cells #[.string x.1, .string x.2] 69)) x (hb.alloc hb.size _) (by omega))
      cases hkp : p x with
      | true =>
        rw [hkp] at HCL
        have HS := Lib.hid (ftake_keep hx hkp)
        clear hx hkp
        go_wp2_with fail
        refine HCL.out.mono ?_
        rintro e w4 ⟨rfl, bb⟩
        have F4 := (RowAt.new wr [.string x.1, .string x.2] 69).below bb
        have FB4 := (FB.alloc _).below bb (Nat.le_refl _)
        have b4 := step_b (hb.alloc hb.size _) bb
        have z4 : w.heap.size ≤ w4.heap.size := b4.size
        clear bb FB hb c0 c1 HCL
        have e0 := F4.cell 0 rfl
        have e1 := F4.cell 1 rfl
        go_wp2_with (at_builtin; refine wpList_append_fld rfl (.tmp 17) (.tmp 19) rfl w _ w.heap.size _ ys rfl (FB4.alloc _) (b4.alloc z4 _) (le_alloc z4 _) ⟨w4.heap.size, 0, none⟩ x rfl (new_f0 w4 x _) (new_f1 w4 x _) hl10 ?_)
        intro v5 w5 FB5 hb5 z5
        clear FB4 F4 b4 z4 e0 e1
        go_wp2_with fail
        go_roundw
        case rel => exact ⟨k + 1, ys ++ [x], by omega, by go_num, Lib.hid (by rw [HS.out, HY.out]), by simp; omega, FB5, hb5⟩
        case measure => simp [intOf]; omega
      | false =>
        rw [hkp] at HCL
        have HS := Lib.hid (ftake_skip hx hkp)
        clear hx hkp
        go_wp2_with fail
        refine HCL.out.mono ?_
        rintro e w4 ⟨rfl, bb⟩
        have FB4 := (FB.alloc _).below bb (Nat.le_refl _)
        have b4 := step_b (hb.alloc hb.size _) bb
        clear bb FB hb c0 c1 HCL
        go_wp2_with fail
        go_roundw
        case rel => exact ⟨k + 1, ys, by omega, by go_num, Lib.hid (by rw [HS.out]; exact HY.out), by omega, FB4, b4⟩
        case measure => simp [intOf]; omega
    · have HF : Hid (xs.filter p = ys) := Lib.hid (by rw [HY.out, List.take_of_length_le (by omega)])
      go_wp2_with fail
      go_ret
      exact ⟨_, rfl, by rw [HF.out]; exact FB, hb⟩
set_option maxHeartbeats 800000 in
theorem named_any (s : ByteArray) (w : World) (hs : s.size ≤ 9223372036854775807) :
    Calls Tryz.prog 52 #[.string s] w fun e w' => e = .returned (.func (.func 77) #[] #[.pointer (some ⟨w.heap.size, 0, none⟩)]) ∧ w'.cell? ⟨w.heap.size, 0, none⟩ = some (.string ⟨(lowL (bs s)).toArray⟩) ∧ w.heap.size < w'.heap.size ∧ Below w.heap.size w w' := by
  go_enter Tryz.func52, Tryz.ntmps52
  go_wp2_with fail
  refine (lower_any s _ hs).mono ?_
  rintro e w1 ⟨rfl, hb⟩
  have R1 := (RowAt.new w [.string s] 9).below hb
  have b1 := step_b (alloc_b w _) hb
  have z1 := R1.lt
  have c1 := R1.cell 0 rfl
  have f1 := R1.free 0
  have R2 := R1.set 0 (.string ⟨(lowL (bs s)).toArray⟩)
  have b2 := b1.setCell (p := ⟨w.heap.size, 0, none⟩) (Nat.le_refl _) (.string ⟨(lowL (bs s)).toArray⟩)
  clear hb b1
  go_wp2_with fail
  go_ret
  exact ⟨rfl, R2.cell 0 rfl, by simpa using z1, b2⟩
end Go.Proofs.YtfnmohaddkoalaaGreatDoor
namespace Go.Proofs.YtfnmohaddkoalaaGreatDoor

/-- A field of two lists. -/
def mkF (p : List UInt8 × List UInt8) : Fd := (⟨p.1.toArray⟩, ⟨p.2.toArray⟩)
/-- "Content-Length", "Transfer-Encoding", "Host", "chunked". -/
abbrev clN : List UInt8 := [67, 111, 110, 116, 101, 110, 116, 45, 76, 101, 110, 103, 116, 104]
abbrev teN : List UInt8 := [84, 114, 97, 110, 115, 102, 101, 114, 45, 69, 110, 99, 111, 100, 105, 110, 103]
abbrev hoN : List UInt8 := [72, 111, 115, 116]
abbrev chN : List UInt8 := [99, 104, 117, 110, 107, 101, 100]
/-- No framing field. -/
def plainF (x : Fd) : Bool := !isF clN x && !isF teN x
def unfrL (xs : List Fd) : List Fd := xs.filter plainF
/-- The head from a line on: the error, the bytes up to its end, the fields. -/
def hdGo (st : List UInt8 → Int) : Nat → Nat → List UInt8 → Nat → List Fd → Int × Nat × List Fd
  | 0, _, _, _, _ => (2, 0, [])
  | f + 1, n, l, a, xs =>
    if (nextL l).2.2 ≠ 0 then ((nextL l).2.2, 0, []) else
    if 16000 < a + (nextL l).2.1 ∨ 64 < n ∧ (nextL l).1 ≠ [] then (4, 0, []) else
    if n = 0 then (if st (nextL l).1 ≠ 0 then (st (nextL l).1, 0, []) else hdGo st f 1 (l.drop (nextL l).2.1) (a + (nextL l).2.1) xs) else
    if (nextL l).1 = [] then (0, a + (nextL l).2.1, xs) else
    if (fieldL (nextL l).1).2 ≠ 0 then ((fieldL (nextL l).1).2, 0, []) else
    hdGo st f (n + 1) (l.drop (nextL l).2.1) (a + (nextL l).2.1) (xs ++ [mkF (fieldL (nextL l).1).1])
def hdL (st : List UInt8 → Int) (l : List UInt8) : Int × Nat × List Fd := hdGo st (l.length + 1) 0 l 0 []
/-- The error of the framing fields. -/
def frE (cs ls : List ByteArray) : Int :=
  match cs, ls with
  | [], [] => 0
  | [], [c] => if (numGo (bs c) 0).isSome ∧ bs c ≠ [] ∧ c.size ≤ 9 then 0 else 8
  | [], _ :: _ :: _ => 8
  | [t], [] => if foldB (bs t) chN then 0 else 7
  | [t], _ :: _ => if foldB (bs t) chN then 8 else 7
  | _ :: _ :: _, _ => 7
def frL (xs : List Fd) : Int := frE (getF teN xs) (getF clN xs)
/-- The body behind a head: its bytes, how many are taken, and the error. -/
def bdE (cs ls : List ByteArray) (l : List UInt8) : List UInt8 × Nat × Int :=
  match cs, ls with
  | [], [] => ([], 0, 0)
  | [], c :: _ => match numGo (bs c) 0 with
    | none => ([], 0, 0)
    | some n => if 100000 < n then ([], 0, 5) else if (l.length : Int) < n then ([], 0, 2) else (l.take n.toNat, n.toNat, 0)
  | _ :: _, _ => decL l
def bdL (xs : List Fd) (l : List UInt8) : List UInt8 × Nat × Int := bdE (getF teN xs) (getF clN xs) l
/-- A request: its parts. -/
structure ReqP where
  m : List UInt8
  t : List UInt8
  v : Int
  xs : List Fd
  b : List UInt8
def req0 : ReqP := ⟨[], [], 0, [], []⟩
/-- The request at the beginning of a list, the bytes that it takes, and the error. -/
def parseQ (l : List UInt8) : ReqP × Nat × Int :=
  let h := hdL (fun x => (reqL x).2.2.2) l
  let q := reqL (nextL l).1
  if h.1 ≠ 0 then (req0, 0, h.1) else
  if frL h.2.2 ≠ 0 then (req0, 0, frL h.2.2) else
  if 1 < (getF hoN h.2.2).length ∨ (getF hoN h.2.2).length = 0 ∧ q.2.2.1 = 1 then (req0, 0, 6) else
  let b := bdL h.2.2 (l.drop h.2.1)
  if b.2.2 ≠ 0 then (req0, 0, b.2.2) else (⟨q.1, q.2.1, q.2.2.1, unfrL h.2.2, b.1⟩, h.2.1 + b.2.1, 0)
section
variable {st : List UInt8 → Int} {f n a u : Nat} {l x : List UInt8} {xs : List Fd}
theorem hdGo_err {e : Int} (hn : nextL l = (x, u, e)) (he : e ≠ 0) : hdGo st (f + 1) n l a xs = (e, 0, []) := by
  rw [hdGo, hn]; simp [he]
theorem hdGo_long (hn : nextL l = (x, u, 0)) (h : 16000 < a + u ∨ 64 < n ∧ x ≠ []) : hdGo st (f + 1) n l a xs = (4, 0, []) := by
  rw [hdGo, hn]; simp only [ne_eq, not_true_eq_false, if_false]; rw [if_pos h]
theorem hdGo_start (hn : nextL l = (x, u, 0)) (h : ¬ 16000 < a + u) (h0 : st x = 0) : hdGo st (f + 1) 0 l a xs = hdGo st f 1 (l.drop u) (a + u) xs := by
  rw [hdGo, hn]; simp only [ne_eq, not_true_eq_false, if_false]; rw [if_neg (by omega), if_pos trivial, if_neg (by simpa using h0)]
theorem hdGo_start_err (hn : nextL l = (x, u, 0)) (h : ¬ 16000 < a + u) (h0 : st x ≠ 0) : hdGo st (f + 1) 0 l a xs = (st x, 0, []) := by
  rw [hdGo, hn]; simp only [ne_eq, not_true_eq_false, if_false]; rw [if_neg (by omega), if_pos trivial, if_pos (by simpa using h0)]
theorem hdGo_end (hn : nextL l = ([], u, 0)) (h : ¬ 16000 < a + u) (h0 : n ≠ 0) : hdGo st (f + 1) n l a xs = (0, a + u, xs) := by
  rw [hdGo, hn]; simp only [ne_eq, not_true_eq_false, if_false]; rw [if_neg (by simp; omega), if_neg h0, if_pos trivial]
theorem hdGo_field_err (hn : nextL l = (x, u, 0)) (h : ¬ 16000 < a + u) (h6 : ¬ 64 < n) (h0 : n ≠ 0) (hx : x ≠ []) (he : (fieldL x).2 ≠ 0) : hdGo st (f + 1) n l a xs = ((fieldL x).2, 0, []) := by
  rw [hdGo, hn]; simp only [ne_eq, not_true_eq_false, if_false]; rw [if_neg (by simp; omega), if_neg h0, if_neg hx, if_pos (by simpa using he)]
theorem hdGo_field (hn : nextL l = (x, u, 0)) (h : ¬ 16000 < a + u) (h6 : ¬ 64 < n) (h0 : n ≠ 0) (hx : x ≠ []) (he : (fieldL x).2 = 0) : hdGo st (f + 1) n l a xs = hdGo st f (n + 1) (l.drop u) (a + u) (xs ++ [mkF (fieldL x).1]) := by
  rw [hdGo, hn]; simp only [ne_eq, not_true_eq_false, if_false]; rw [if_neg (by simp; omega), if_neg h0, if_neg hx, if_neg (by simpa using he)]
end
end Go.Proofs.YtfnmohaddkoalaaGreatDoor
