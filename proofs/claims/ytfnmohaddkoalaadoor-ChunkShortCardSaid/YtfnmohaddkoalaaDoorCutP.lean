/- Plain facts on the first place of a byte: a list cut there, and its index from a place on. No program in sight. -/
import Derived.Test.YtfnmohaddkoalaaDoorStrP
import Derived.Lib.CutLaws
namespace Go.Proofs.YtfnmohaddkoalaaDoor

/-- What stands ahead of the first c, what stands behind it, and whether there is one. -/
def cutB (c : UInt8) : List UInt8 → List UInt8 × List UInt8 × Bool
  | [] => ([], [], false)
  | b :: t => if b = c then ([], t, true) else (b :: (cutB c t).1, (cutB c t).2.1, (cutB c t).2.2)
theorem cutB_nil (c : UInt8) : cutB c [] = ([], [], false) := rfl
theorem cutB_same (c : UInt8) (t : List UInt8) : cutB c (c :: t) = ([], t, true) := by rw [cutB, if_pos rfl]
theorem cutB_other {c b : UInt8} (h : b ≠ c) (t : List UInt8) : cutB c (b :: t) = (b :: (cutB c t).1, (cutB c t).2.1, (cutB c t).2.2) := by rw [cutB, if_neg h]
theorem cutB_spec (c : UInt8) : ∀ l : List UInt8, ((cutB c l).2.2 = true ∧ l = (cutB c l).1 ++ c :: (cutB c l).2.1 ∧ c ∉ (cutB c l).1) ∨ (cutB c l = (l, [], false) ∧ c ∉ l)
  | [] => .inr ⟨rfl, by simp⟩
  | b :: t => by
    by_cases h : b = c
    · subst h
      rw [cutB_same]; exact .inl ⟨rfl, rfl, by simp⟩
    · rw [cutB_other h]
      rcases cutB_spec c t with ⟨h1, h2, h3⟩ | ⟨h1, h2⟩
      · refine .inl ⟨h1, ?_, ?_⟩
        · show b :: t = b :: ((cutB c t).1 ++ c :: (cutB c t).2.1)
          rw [← h2]
        · simp only [List.mem_cons, not_or]; exact ⟨fun e => h e.symm, h3⟩
      · rw [h1]
        refine .inr ⟨rfl, ?_⟩
        simp only [List.mem_cons, not_or]; exact ⟨fun e => h e.symm, h2⟩
theorem cutB_hit {c : UInt8} : ∀ {a : List UInt8}, c ∉ a → ∀ b : List UInt8, cutB c (a ++ c :: b) = (a, b, true)
  | [], _, b => cutB_same c b
  | x :: t, h, b => by
    simp only [List.mem_cons, not_or] at h
    rw [List.cons_append, cutB_other (fun e => h.1 e.symm), cutB_hit h.2 b]
theorem cutB_miss {c : UInt8} {l : List UInt8} (h : c ∉ l) : cutB c l = (l, [], false) := by
  rcases cutB_spec c l with ⟨_, h2, _⟩ | ⟨h1, _⟩
  · exact absurd (by rw [h2]; simp) h
  · exact h1
theorem cutB_cases (c : UInt8) (l : List UInt8) : (∃ a b, cutB c l = (a, b, true) ∧ l = a ++ c :: b ∧ c ∉ a) ∨ (cutB c l = (l, [], false) ∧ c ∉ l) := by
  rcases cutB_spec c l with ⟨h1, h2, h3⟩ | h
  · exact .inl ⟨_, _, by rw [← h1], h2, h3⟩
  · exact .inr h
theorem cutB_len (c : UInt8) (l : List UInt8) : (cutB c l).1.length + (cutB c l).2.1.length ≤ l.length := by
  rcases cutB_cases c l with ⟨a, b, h, h2, _⟩ | ⟨h, _⟩
  · rw [h, h2]; simp
  · rw [h]; simp
theorem index_one (c : UInt8) : ∀ l : List UInt8, Lib.index l [c] = if (cutB c l).2.2 then ((cutB c l).1.length : Int) else -1
  | [] => rfl
  | b :: t => by
    unfold Lib.index
    by_cases h : b = c
    · subst h
      rw [cutB_same, if_pos (by simp)]; rfl
    · rw [cutB_other h, if_neg (by simp; exact fun e => h e.symm), index_one c t]
      cases hb : (cutB c t).2.2 with
      | true => simp only [if_true]; rw [if_neg (by simp)]; simp
      | false => simp
theorem cut_one (c : UInt8) (l : List UInt8) : Lib.cut l [c] = cutB c l := by
  unfold Lib.cut
  rw [index_one]
  rcases cutB_cases c l with ⟨a, b, h, h2, _⟩ | ⟨h, _⟩
  · rw [h, if_pos rfl, if_pos (by omega), h2]
    simp
  · rw [h]; simp
/-- The index of the first c from k on, or -1. -/
def idxFrom (c : UInt8) (l : List UInt8) (k : Nat) : Int := if (cutB c (l.drop k)).2.2 then ((k + (cutB c (l.drop k)).1.length : Nat) : Int) else -1
theorem idxFrom_hit (s : ByteArray) {k : Nat} {c : UInt8} (hlt : k < s.size) (h : s[k] = c) : idxFrom c (bs s) k = k := by
  unfold idxFrom
  rw [drop_step s hlt, h, cutB_same]; simp
theorem idxFrom_step (s : ByteArray) {k : Nat} {c : UInt8} (hlt : k < s.size) (h : s[k] ≠ c) : idxFrom c (bs s) k = idxFrom c (bs s) (k + 1) := by
  unfold idxFrom
  rw [drop_step s hlt, cutB_other h]
  cases (cutB c ((bs s).drop (k + 1))).2.2 with
  | true => simp only [if_true, List.length_cons]; omega
  | false => rfl
theorem idxFrom_end (s : ByteArray) {k : Nat} (c : UInt8) (h : s.size ≤ k) : idxFrom c (bs s) k = -1 := by
  unfold idxFrom
  rw [drop_end s h]; rfl
theorem idxFrom_bd (c : UInt8) (l : List UInt8) (k : Nat) : (idxFrom c l k = -1 ∧ cutB c (l.drop k) = (l.drop k, [], false)) ∨ ∃ i : Nat, idxFrom c l k = i ∧ k ≤ i ∧ i < l.length ∧ cutB c (l.drop k) = ((l.drop k).take (i - k), l.drop (i + 1), true) := by
  unfold idxFrom
  rcases cutB_cases c (l.drop k) with ⟨a, b, h, h2, _⟩ | ⟨h, _⟩
  · right
    have hl := congrArg List.length h2
    simp at hl
    rw [h, if_pos rfl]
    refine ⟨k + a.length, rfl, by omega, by omega, ?_⟩
    have e2 : l.drop (k + a.length + 1) = b := by
      rw [show k + a.length + 1 = k + (a.length + 1) from by omega, ← List.drop_drop, h2]; simp
    rw [e2, show k + a.length - k = a.length from by omega, h2]; simp
  · left; rw [h]; exact ⟨rfl, rfl⟩
end Go.Proofs.YtfnmohaddkoalaaDoor
