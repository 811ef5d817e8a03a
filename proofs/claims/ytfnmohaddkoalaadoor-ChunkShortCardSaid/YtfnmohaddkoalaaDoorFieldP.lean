/- Lines and field lines in plain terms (layers 3 and 5). No program in sight. -/
import Derived.Test.YtfnmohaddkoalaaDoorTrimP
import Derived.Test.YtfnmohaddkoalaaDoorCutP
import Derived.Test.YtfnmohaddkoalaaDoorAsciiP
namespace Go.Proofs.YtfnmohaddkoalaaDoor

/-- A byte within a line. -/
def lineC (c : UInt8) : Bool := c != 13 && c != 10
theorem lineC_no {c : UInt8} : lineC c = false ↔ c = 13 ∨ c = 10 := by unfold lineC; simp only [Bool.and_eq_false_iff, bne_eq_false_iff_eq]
theorem lineC_yes {c : UInt8} : lineC c = true ↔ c ≠ 13 ∧ c ≠ 10 := by unfold lineC; simp
/-- What stands behind a line: the error, 0 if the line has its end. -/
def tailE : List UInt8 → Int
  | [] => 2
  | c :: t => if c = 10 then 1 else match t with | [] => 2 | d :: _ => if d = 10 then 0 else 1
/-- The first line, the bytes that it takes with its end, and the error. -/
def nextL (l : List UInt8) : List UInt8 × Nat × Int :=
  if 2000 < (l.takeWhile lineC).length then ([], 0, 4) else if tailE (l.dropWhile lineC) = 0 then (l.takeWhile lineC, (l.takeWhile lineC).length + 2, 0) else ([], 0, tailE (l.dropWhile lineC))
theorem tailE_end : tailE [] = 2 := rfl
theorem tailE_lf (t : List UInt8) : tailE (10 :: t) = 1 := rfl
theorem tailE_cr : tailE [13] = 2 := by decide
theorem tailE_crlf (t : List UInt8) : tailE (13 :: 10 :: t) = 0 := by unfold tailE; simp
theorem tailE_other {d : UInt8} (t : List UInt8) (h : d ≠ 10) : tailE (13 :: d :: t) = 1 := by unfold tailE; simp [h]
/-- The bytes ahead of the first end of a line. -/
theorem line_split (l : List UInt8) : ∃ a b, l = a ++ b ∧ a = l.takeWhile lineC ∧ b = l.dropWhile lineC ∧ (∀ c ∈ a, lineC c = true) ∧ (b = [] ∨ ∃ c t, b = c :: t ∧ lineC c = false) := by
  refine ⟨_, _, List.takeWhile_append_dropWhile.symm, rfl, rfl, fun c hc => ?_, ?_⟩
  · induction l with
    | nil => cases hc
    | cons x t ih =>
      rw [List.takeWhile_cons] at hc
      by_cases hx : lineC x = true
      · rw [if_pos hx] at hc
        rcases List.mem_cons.1 hc with rfl | hc
        · exact hx
        · exact ih hc
      · rw [if_neg hx] at hc; cases hc
  · induction l with
    | nil => exact .inl rfl
    | cons x t ih =>
      rw [List.dropWhile_cons]
      cases hx : lineC x with
      | true => exact ih
      | false => exact .inr ⟨x, t, rfl, hx⟩
theorem line_at : ∀ {a b : List UInt8}, (∀ c ∈ a, lineC c = true) → (b = [] ∨ ∃ c t, b = c :: t ∧ lineC c = false) → (a ++ b).takeWhile lineC = a ∧ (a ++ b).dropWhile lineC = b
  | [], b, _, hb => by
    rcases hb with rfl | ⟨c, t, rfl, hc⟩
    · exact ⟨rfl, rfl⟩
    · rw [List.nil_append, List.takeWhile_cons_of_neg (by rw [hc]; simp), List.dropWhile_cons_of_neg (by rw [hc]; simp)]
      exact ⟨rfl, rfl⟩
  | x :: a, b, ha, hb => by
    have ih := line_at (a := a) (b := b) (fun c hc => ha c (by simp [hc])) hb
    have hx := ha x (by simp)
    rw [List.cons_append, List.takeWhile_cons_of_pos hx, List.dropWhile_cons_of_pos hx, ih.1, ih.2]
    exact ⟨rfl, rfl⟩
theorem nextL_ok {a : List UInt8} (b : List UInt8) (ha : ∀ c ∈ a, lineC c = true) (hl : a.length ≤ 2000) : nextL (a ++ 13 :: 10 :: b) = (a, a.length + 2, 0) := by
  have h := line_at (a := a) (b := 13 :: 10 :: b) ha (.inr ⟨13, _, rfl, by decide⟩)
  unfold nextL
  rw [h.1, h.2, if_neg (by omega), tailE_crlf, if_pos rfl]
theorem nextL_short {a b : List UInt8} (ha : ∀ c ∈ a, lineC c = true) (hl : a.length ≤ 2000) (hb : b = [] ∨ b = [13]) : nextL (a ++ b) = ([], 0, 2) := by
  have h := line_at (a := a) (b := b) ha (by rcases hb with rfl | rfl; exact .inl rfl; exact .inr ⟨13, [], rfl, by decide⟩)
  unfold nextL
  rw [h.1, h.2, if_neg (by omega)]
  rcases hb with rfl | rfl <;> rfl
theorem nextL_inv {l x : List UInt8} {u : Nat} (h : nextL l = (x, u, 0)) : u = x.length + 2 ∧ u ≤ l.length ∧ x.length ≤ 2000 ∧ (∀ c ∈ x, lineC c = true) ∧ l = x ++ 13 :: 10 :: l.drop u := by
  obtain ⟨a, b, e, ea, eb, ha, hb⟩ := line_split l
  unfold nextL at h
  rw [← ea, ← eb] at h
  split at h
  · simp at h
  · rename_i hl
    split at h
    · rename_i ht
      simp at h
      obtain ⟨rfl, rfl⟩ := h
      rcases hb with rfl | ⟨c, t, rfl, hc⟩
      · rw [tailE_end] at ht; omega
      · rcases lineC_no.1 hc with rfl | rfl
        · cases t with
          | nil => rw [tailE_cr] at ht; omega
          | cons d t =>
            by_cases hd : d = 10
            · subst hd
              refine ⟨rfl, by rw [e]; simp, by omega, ha, ?_⟩
              have : l.drop (a.length + 2) = t := by rw [e, ← List.drop_drop, List.drop_left' rfl]; rfl
              rw [this]; exact e
            · rw [tailE_other t hd] at ht; omega
        · rw [tailE_lf] at ht; omega
    · rename_i ht
      simp at h
      exact absurd h.2.2 ht
/-- A field's line. -/
def formL (n v : List UInt8) : List UInt8 := if v = [] then n ++ [58] else n ++ 58 :: 32 :: v
def validF (n v : List UInt8) : Bool := tokenB n && (textB v && (trimL v == v && decide ((formL n v).length ≤ 2000)))
def formF (n v : List UInt8) : List UInt8 := if validF n v then formL n v else []
theorem formL_len (n v : List UInt8) : (formL n v).length ≤ n.length + v.length + 2 := by unfold formL; split <;> simp <;> omega
/-- The field of a line, and the error. -/
def fieldL (l : List UInt8) : (List UInt8 × List UInt8) × Int :=
  if 2000 < l.length then (([], []), 4) else
  if (cutB 58 l).2.2 && (tokenB (cutB 58 l).1 && textB (cutB 58 l).2.1) then
    (if validF (cutB 58 l).1 (trimL (cutB 58 l).2.1) then (((cutB 58 l).1, trimL (cutB 58 l).2.1), 0) else (([], []), 4)) else (([], []), 1)
theorem fieldL_long {l : List UInt8} (h : 2000 < l.length) : fieldL l = (([], []), 4) := by unfold fieldL; rw [if_pos h]
theorem fieldL_syn {l : List UInt8} (h : ¬ 2000 < l.length) (h1 : ((cutB 58 l).2.2 && (tokenB (cutB 58 l).1 && textB (cutB 58 l).2.1)) = false) : fieldL l = (([], []), 1) := by
  unfold fieldL; rw [if_neg h, h1]; rfl
theorem fieldL_big {l : List UInt8} (h : ¬ 2000 < l.length) (h1 : ((cutB 58 l).2.2 && (tokenB (cutB 58 l).1 && textB (cutB 58 l).2.1)) = true) (h2 : validF (cutB 58 l).1 (trimL (cutB 58 l).2.1) = false) : fieldL l = (([], []), 4) := by
  unfold fieldL; rw [if_neg h, h1, h2]; rfl
theorem fieldL_ok {l : List UInt8} (h : ¬ 2000 < l.length) (h1 : ((cutB 58 l).2.2 && (tokenB (cutB 58 l).1 && textB (cutB 58 l).2.1)) = true) (h2 : validF (cutB 58 l).1 (trimL (cutB 58 l).2.1) = true) : fieldL l = (((cutB 58 l).1, trimL (cutB 58 l).2.1), 0) := by
  unfold fieldL; rw [if_neg h, h1, h2]; rfl
theorem validF_iff {n v : List UInt8} : validF n v = true ↔ tokenB n = true ∧ textB v = true ∧ trimL v = v ∧ (formL n v).length ≤ 2000 := by
  unfold validF; simp
theorem token_no {n : List UInt8} (h : tokenB n = true) {c : UInt8} (hc : partB c = false) : c ∉ n := fun hm => by
  unfold tokenB at h
  rw [Bool.and_eq_true, List.all_eq_true] at h
  rw [h.1 c hm] at hc; cases hc
theorem part_text {c : UInt8} (h : partB c = true) : textC c = true := by
  refine textC_true fun hx => ?_
  rw [partB_iff] at h
  omega
/-- What is written is read. -/
theorem form_back {n v : List UInt8} (h : validF n v = true) : fieldL (formL n v) = ((n, v), 0) := by
  have hv := h
  obtain ⟨h1, h2, h3, h4⟩ := validF_iff.1 h
  have hc : 58 ∉ n := token_no h1 (by decide)
  unfold formL
  split
  · rename_i e; subst e
    have e1 : cutB 58 (n ++ [58]) = (n, [], true) := cutB_hit hc []
    have e2 : trimL [] = ([] : List UInt8) := h3
    have := fieldL_ok (l := n ++ [58]) (by have := h4; unfold formL at this; rw [if_pos rfl] at this; omega) (by rw [e1]; simp [h1, h2]) (by rw [e1, e2]; exact hv)
    rw [this, e1, e2]
  · rename_i e
    have e1 : cutB 58 (n ++ 58 :: 32 :: v) = (n, 32 :: v, true) := cutB_hit hc _
    have e2 : trimL (32 :: v) = v := by
      have := trimL_pad (l := v) (p := [32]) (q := []) (by intro x hx; simp at hx; subst hx; decide) (by simp)
      rw [List.append_nil] at this
      exact this.trans h3
    have e3 : textB (32 :: v) = true := by unfold textB at h2 ⊢; rw [List.all_cons, h2]; decide
    have := fieldL_ok (l := n ++ 58 :: 32 :: v) (by have := h4; unfold formL at this; rw [if_neg e] at this; omega) (by rw [e1]; simp [h1, e3]) (by rw [e1, e2]; exact hv)
    rw [this, e1, e2]
theorem text_line {c : UInt8} (h : textC c = true) : lineC c = true := by
  refine lineC_yes.2 ⟨fun e => ?_, fun e => ?_⟩ <;> (subst e; revert h; decide)
theorem form_line {n v : List UInt8} (h : validF n v = true) : (∀ c ∈ formL n v, lineC c = true) ∧ formL n v ≠ [] ∧ (formL n v).length ≤ 2000 := by
  obtain ⟨h1, h2, _, h4⟩ := validF_iff.1 h
  have hn : ∀ c ∈ n, lineC c = true := fun c hc => by
    unfold tokenB at h1
    rw [Bool.and_eq_true, List.all_eq_true] at h1
    exact text_line (part_text (h1.1 c hc))
  have hv : ∀ c ∈ v, lineC c = true := fun c hc => by
    unfold textB at h2
    rw [List.all_eq_true] at h2
    exact text_line (h2 c hc)
  refine ⟨fun c hc => ?_, ?_, h4⟩
  · unfold formL at hc
    split at hc
    · rcases List.mem_append.1 hc with hc | hc
      · exact hn c hc
      · simp at hc; subst hc; decide
    · rcases List.mem_append.1 hc with hc | hc
      · exact hn c hc
      · simp only [List.mem_cons] at hc
        rcases hc with rfl | rfl | hc
        · decide
        · decide
        · exact hv c hc
  · unfold formL; split <;> simp
end Go.Proofs.YtfnmohaddkoalaaDoor
