/- The size of a chunk, in the reference's words. No program in sight. -/
import Derived.Test.YtfnmohaddkoalaaGreatDoorQPre
namespace Go.Proofs.YtfnmohaddkoalaaGreatDoor

def hexOK (c : UInt8) : Bool := decide (0 ≤ hexV c)
theorem hexOK_no {c : UInt8} : hexOK c = false ↔ hexV c < 0 := by unfold hexOK; rw [decide_eq_false_iff_not]; omega
theorem hexOK_yes {c : UInt8} : hexOK c = true ↔ 0 ≤ hexV c := by unfold hexOK; rw [decide_eq_true_eq]
/-- The hexadecimal digits ahead of all else. -/
def hexP (l : List UInt8) : Nat := (l.takeWhile hexOK).length
theorem hexP_le (l : List UInt8) : hexP l ≤ l.length := by
  unfold hexP
  exact (List.takeWhile_prefix _).length_le
theorem hexP_split : ∀ (l : List UInt8), (∀ c ∈ l.take (hexP l), hexOK c = true) ∧ (hexP l = l.length ∨ ∃ c, l[hexP l]? = some c ∧ hexOK c = false)
  | [] => ⟨by simp, .inl rfl⟩
  | c :: t => by
    have ih := hexP_split t
    cases hc : hexOK c with
    | true =>
      have e : hexP (c :: t) = hexP t + 1 := by unfold hexP; rw [List.takeWhile_cons_of_pos hc]; rfl
      rw [e]
      refine ⟨fun x hx => ?_, ?_⟩
      · rw [List.take_succ_cons] at hx
        rcases List.mem_cons.1 hx with rfl | hx
        · exact hc
        · exact ih.1 x hx
      · rcases ih.2 with h | ⟨d, h1, h2⟩
        · left; rw [h]; rfl
        · right; exact ⟨d, by simpa using h1, h2⟩
    | false =>
      have e : hexP (c :: t) = 0 := by unfold hexP; rw [List.takeWhile_cons_of_neg (by rw [hc]; simp)]; rfl
      rw [e]
      exact ⟨by simp, .inr ⟨c, rfl, hc⟩⟩
theorem hexP_at {a b : List UInt8} (ha : ∀ c ∈ a, hexOK c = true) (hb : b = [] ∨ ∃ c t, b = c :: t ∧ hexOK c = false) : hexP (a ++ b) = a.length := by
  induction a with
  | nil =>
    rcases hb with rfl | ⟨c, t, rfl, hc⟩
    · rfl
    · unfold hexP; rw [List.nil_append, List.takeWhile_cons_of_neg (by rw [hc]; simp)]
  | cons x a ih =>
    have h1 := ih (fun c hc => ha c (by simp [hc]))
    unfold hexP at *
    rw [List.cons_append, List.takeWhile_cons_of_pos (ha x (by simp))]
    simp [h1]
def badSize (l : List UInt8) : Prop := hexP l < 1 ∨ 8 < hexP l ∨ (∃ c, l[hexP l]? = some c ∧ c ≠ 59) ∨ textB (l.drop (hexP l)) = false
theorem text59 (b : List UInt8) : textB (59 :: b) = textB b := by
  unfold textB
  rw [List.all_cons]
  have : textC 59 = true := by decide
  rw [this]; rfl
/-- Not all digits. -/
theorem size_stop {a : List UInt8} (b : List UInt8) (h59 : 59 ∉ a) (h : ¬ ∀ c ∈ a, hexOK c = true) : (∃ c, (a ++ b)[hexP (a ++ b)]? = some c ∧ c ≠ 59) ∧ hexGo a 0 = none := by
  obtain ⟨h1, h2⟩ := hexP_split a
  rcases h2 with h2 | ⟨c, hc, hn⟩
  · exact absurd (by rw [h2, List.take_length] at h1; exact h1) h
  · have hlt := (List.getElem?_eq_some_iff.1 hc).1
    have hmem := List.mem_of_getElem? hc
    have e : hexP (a ++ b) = hexP a := by
      have hsp : a ++ b = a.take (hexP a) ++ (c :: (a.drop (hexP a + 1) ++ b)) := by
        have : a = a.take (hexP a) ++ a.drop (hexP a) := (List.take_append_drop _ _).symm
        have h3 : a.drop (hexP a) = c :: a.drop (hexP a + 1) := by
          rw [List.drop_eq_getElem_cons hlt]
          congr 1
          rw [List.getElem?_eq_getElem hlt] at hc; exact Option.some.inj hc
        rw [h3] at this
        rw [← List.cons_append, ← List.append_assoc, ← this]
      rw [hsp, hexP_at h1 (.inr ⟨c, _, rfl, hn⟩), List.length_take]
      omega
    refine ⟨⟨c, ?_, fun e => h59 (e ▸ hmem)⟩, hexGo_none 0 ⟨c, hmem, hexOK_no.1 hn⟩⟩
    rw [e, List.getElem?_append_left hlt]; exact hc
theorem sizeL_bad {l : List UInt8} (h : badSize l) : sizeL l = none := by
  rcases cutB_cases 59 l with ⟨a, b, hc, rfl, h59⟩ | ⟨hc, h59⟩
  · by_cases hall : ∀ c ∈ a, hexOK c = true
    · have e := hexP_at (b := 59 :: b) hall (.inr ⟨59, b, rfl, by decide⟩)
      unfold badSize at h
      rw [e] at h
      have h1 : (a ++ 59 :: b)[a.length]? = some 59 := by rw [List.getElem?_append_right (Nat.le_refl _)]; simp
      have h2 : (a ++ 59 :: b).drop a.length = 59 :: b := List.drop_left' rfl
      rw [h1, h2, text59] at h
      refine sizeL_no ?_
      rw [hc]
      rcases h with h | h | ⟨c, h, hn⟩ | h
      · have : a = [] := List.length_eq_zero_iff.1 (by omega)
        subst this; rfl
      · simp [h]
      · cases h; exact absurd rfl hn
      · simp [h]
    · have hs := size_stop (59 :: b) h59 hall
      by_cases hg : ((cutB 59 (a ++ 59 :: b)).1.isEmpty || (decide (8 < (cutB 59 (a ++ 59 :: b)).1.length) || !textB (cutB 59 (a ++ 59 :: b)).2.1)) = true
      · exact sizeL_no hg
      · rw [sizeL_go (by simpa using hg), hc]; exact hs.2
  · by_cases hall : ∀ c ∈ l, hexOK c = true
    · have e : hexP l = l.length := by have := hexP_at (b := []) hall (.inl rfl); rwa [List.append_nil] at this
      unfold badSize at h
      rw [e] at h
      refine sizeL_no ?_
      rw [hc]
      rcases h with h | h | ⟨c, h, hn⟩ | h
      · have : l = [] := List.length_eq_zero_iff.1 (by omega)
        subst this; rfl
      · simp [h]
      · rw [List.getElem?_eq_none (Nat.le_refl _)] at h; cases h
      · rw [List.drop_length] at h; cases h
    · have hs := size_stop [] h59 hall
      by_cases hg : ((cutB 59 l).1.isEmpty || (decide (8 < (cutB 59 l).1.length) || !textB (cutB 59 l).2.1)) = true
      · exact sizeL_no hg
      · rw [sizeL_go (by simpa using hg), hc]; exact hs.2
theorem sizeL_good {l : List UInt8} (h1 : 1 ≤ hexP l) (h2 : hexP l ≤ 8) (h3 : hexP l = l.length ∨ l[hexP l]? = some 59) (h4 : textB (l.drop (hexP l)) = true) : sizeL l = hexGo (l.take (hexP l)) 0 := by
  rcases cutB_cases 59 l with ⟨a, b, hc, rfl, h59⟩ | ⟨hc, h59⟩
  · by_cases hall : ∀ c ∈ a, hexOK c = true
    · have e := hexP_at (b := 59 :: b) hall (.inr ⟨59, b, rfl, by decide⟩)
      rw [e] at h1 h2 h4 ⊢
      have hd : (a ++ 59 :: b).drop a.length = 59 :: b := List.drop_left' rfl
      rw [hd, text59] at h4
      have hne : a.isEmpty = false := by cases a with | nil => simp at h1 | cons => rfl
      rw [sizeL_go (by rw [hc]; simp [hne, h4]; omega), hc, List.take_left' rfl]
    · obtain ⟨⟨c, hg, hn⟩, _⟩ := size_stop (59 :: b) h59 hall
      rcases h3 with h3 | h3
      · rw [h3, List.getElem?_eq_none (Nat.le_refl _)] at hg; cases hg
      · rw [h3] at hg; cases hg; exact absurd rfl hn
  · by_cases hall : ∀ c ∈ l, hexOK c = true
    · have e : hexP l = l.length := by have := hexP_at (b := []) hall (.inl rfl); rwa [List.append_nil] at this
      rw [e] at h1 h2 ⊢
      have hne : l.isEmpty = false := by cases l with | nil => simp at h1 | cons => rfl
      rw [sizeL_go (by rw [hc]; simp [hne, textB]; omega), hc, List.take_length]
    · obtain ⟨⟨c, hg, hn⟩, _⟩ := size_stop [] h59 hall
      rw [List.append_nil] at hg
      rcases h3 with h3 | h3
      · rw [h3, List.getElem?_eq_none (Nat.le_refl _)] at hg; cases hg
      · have := List.mem_of_getElem? h3; exact absurd this h59
theorem hexGo_ok : ∀ {l : List UInt8} (n : Nat), (∀ c ∈ l, hexOK c = true) → ∃ m, hexGo l n = some m
  | [], n, _ => ⟨n, rfl⟩
  | c :: t, n, h => by
    rw [hexGo, if_neg (by have := hexOK_yes.1 (h c (by simp)); omega)]
    exact hexGo_ok _ fun x hx => h x (by simp [hx])
def chSizeV : Option Nat → Value
  | none => .tuple #[.int .i64 0, .bool false]
  | some n => .tuple #[.int .i64 n, .bool true]
end Go.Proofs.YtfnmohaddkoalaaGreatDoor
