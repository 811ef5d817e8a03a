/- Heads in plain terms (layer 6): what lines of fields are read as, whole and cut short. No program in sight. -/
import Derived.Test.YtfnmohaddkoalaaGreatDoorQPre
namespace Go.Proofs.YtfnmohaddkoalaaGreatDoor
set_option linter.unusedSimpArgs false

/-- Lines with their ends. -/
def linesB : List (List UInt8) → List UInt8
  | [] => []
  | x :: r => x ++ 13 :: 10 :: linesB r
/-- A line that is a line, not empty. -/
def FLine (x : List UInt8) : Prop := (∀ c ∈ x, lineC c = true) ∧ x ≠ [] ∧ x.length ≤ 2000 ∧ (fieldL x).2 = 0
/-- The field of a line. -/
def lineF (x : List UInt8) : Fd := mkF (fieldL x).1
theorem linesB_app (a b : List (List UInt8)) : linesB (a ++ b) = linesB a ++ linesB b := by
  induction a with
  | nil => rfl
  | cons x r ih => simp [linesB, ih]
theorem lines_len (L : List (List UInt8)) : 2 * L.length ≤ (linesB L).length := by
  induction L with
  | nil => simp [linesB]
  | cons x r ih => simp [linesB]; omega
theorem drop_line (x r : List UInt8) : (x ++ 13 :: 10 :: r).drop (x.length + 2) = r := by
  rw [← List.drop_drop, List.drop_left' rfl]; rfl
section
variable {st : List UInt8 → Int}
theorem hdGo_lines (more : List UInt8) : ∀ (L : List (List UInt8)) (f n a : Nat) (xs : List Fd), L.length < f → n ≠ 0 → n + L.length ≤ 65 → (∀ x ∈ L, FLine x) → a + (linesB L).length + 2 ≤ 16000 →
    hdGo st f n (linesB L ++ 13 :: 10 :: more) a xs = (0, a + (linesB L).length + 2, xs ++ L.map lineF)
  | [], f, n, a, xs, hf, hn, h6, hL, ha => by
    obtain ⟨g, rfl⟩ : ∃ g, f = g + 1 := ⟨f - 1, by omega⟩
    have h := nextL_ok (a := []) more (by simp) (by simp)
    simp only [linesB, List.nil_append, List.length_nil, Nat.add_zero, Nat.zero_add, List.map_nil, List.append_nil] at h ha ⊢
    rw [hdGo_end h (by omega) hn]
  | x :: r, f, n, a, xs, hf, hn, h6, hL, ha => by
    obtain ⟨g, rfl⟩ : ∃ g, f = g + 1 := ⟨f - 1, by omega⟩
    obtain ⟨h1, h2, h3, h4⟩ := hL x (by simp)
    simp only [List.length_cons] at hf h6
    simp only [linesB, List.length_append, List.length_cons] at ha
    have e : linesB (x :: r) ++ 13 :: 10 :: more = x ++ 13 :: 10 :: (linesB r ++ 13 :: 10 :: more) := by simp [linesB]
    rw [e, hdGo_field (nextL_ok _ h1 h3) (by omega) (by omega) hn h2 h4, drop_line, hdGo_lines more r g (n + 1) _ _ (by omega) (by omega) (by omega) (fun y hy => hL y (by simp [hy])) (by omega)]
    refine Prod.ext rfl (Prod.ext ?_ ?_)
    · simp only [linesB, List.length_append, List.length_cons]; omega
    · simp [lineF]
theorem hd_lines {x : List UInt8} {L : List (List UInt8)} (more : List UInt8) (hx : ∀ c ∈ x, lineC c = true) (hl : x.length ≤ 2000) (h0 : st x = 0) (h6 : L.length ≤ 64) (hL : ∀ y ∈ L, FLine y) (ha : (linesB (x :: L)).length + 2 ≤ 16000) :
    hdL st (linesB (x :: L) ++ 13 :: 10 :: more) = (0, (linesB (x :: L)).length + 2, L.map lineF) := by
  have e : linesB (x :: L) ++ 13 :: 10 :: more = x ++ 13 :: 10 :: (linesB L ++ 13 :: 10 :: more) := by simp [linesB]
  have hlen := lines_len L
  simp only [linesB, List.length_append, List.length_cons] at ha
  unfold hdL
  rw [e, hdGo_start (nextL_ok _ hx hl) (by omega) h0, drop_line, hdGo_lines more L _ 1 _ _ (by simp; omega) (by omega) (by omega) hL (by omega)]
  refine Prod.ext rfl (Prod.ext ?_ rfl)
  simp only [linesB, List.length_append, List.length_cons]; omega
/-- A line that is cut short. -/
theorem cut_line {x : List UInt8} (r : List UInt8) {i : Nat} (hx : ∀ c ∈ x, lineC c = true) (hl : x.length ≤ 2000) (hi : i < x.length + 2) : nextL ((x ++ 13 :: 10 :: r).take i) = ([], 0, 2) := by
  by_cases h : i ≤ x.length
  · have e : (x ++ 13 :: 10 :: r).take i = x.take i ++ [] := by rw [List.take_append_of_le_length h, List.append_nil]
    rw [e]
    exact nextL_short (fun c hc => hx c (List.mem_of_mem_take hc)) (by rw [List.length_take]; omega) (.inl rfl)
  · have e : (x ++ 13 :: 10 :: r).take i = x ++ [13] := by
      have : i = x.length + 1 := by omega
      subst this
      rw [List.take_append, List.take_of_length_le (by omega)]; simp
    rw [e]
    exact nextL_short hx hl (.inr rfl)
theorem take_line (x r : List UInt8) {i : Nat} (hi : ¬ i < x.length + 2) : (x ++ 13 :: 10 :: r).take i = x ++ 13 :: 10 :: r.take (i - (x.length + 2)) := by
  rw [List.take_append, List.take_of_length_le (by omega)]
  obtain ⟨k, hk⟩ : ∃ k, i = x.length + 2 + k := ⟨i - (x.length + 2), by omega⟩
  subst hk
  have e1 : x.length + 2 + k - x.length = k + 2 := by omega
  have e2 : x.length + 2 + k - (x.length + 2) = k := by omega
  rw [e1, e2]; rfl
theorem hdGo_cut (more : List UInt8) : ∀ (L : List (List UInt8)) (f n a i : Nat) (xs : List Fd), i < f → n ≠ 0 → n + L.length ≤ 65 → (∀ x ∈ L, FLine x) → a + (linesB L).length + 2 ≤ 16000 → i < (linesB L).length + 2 →
    hdGo st f n ((linesB L ++ 13 :: 10 :: more).take i) a xs = (2, 0, [])
  | [], f, n, a, i, xs, hf, hn, h6, hL, ha, hi => by
    obtain ⟨g, rfl⟩ : ∃ g, f = g + 1 := ⟨f - 1, by omega⟩
    have h := cut_line (x := []) more (i := i) (by simp) (by simp) (by simpa [linesB] using hi)
    exact hdGo_err h (by omega)
  | x :: r, f, n, a, i, xs, hf, hn, h6, hL, ha, hi => by
    obtain ⟨g, rfl⟩ : ∃ g, f = g + 1 := ⟨f - 1, by omega⟩
    obtain ⟨h1, h2, h3, h4⟩ := hL x (by simp)
    simp only [List.length_cons] at hf h6
    simp only [linesB, List.length_append, List.length_cons] at ha hi
    have e : linesB (x :: r) ++ 13 :: 10 :: more = x ++ 13 :: 10 :: (linesB r ++ 13 :: 10 :: more) := by simp [linesB]
    rw [e]
    by_cases hc : i < x.length + 2
    · exact hdGo_err (cut_line _ h1 h3 hc) (by omega)
    · rw [take_line _ _ hc, hdGo_field (nextL_ok _ h1 h3) (by omega) (by omega) hn h2 h4, drop_line]
      exact hdGo_cut more r g (n + 1) _ _ _ (by omega) (by omega) (by omega) (fun y hy => hL y (by simp [hy])) (by omega) (by omega)
theorem hd_cut {x : List UInt8} {L : List (List UInt8)} (more : List UInt8) {i : Nat} (hx : ∀ c ∈ x, lineC c = true) (hl : x.length ≤ 2000) (h0 : st x = 0) (h6 : L.length ≤ 64) (hL : ∀ y ∈ L, FLine y) (ha : (linesB (x :: L)).length + 2 ≤ 16000) (hi : i < (linesB (x :: L)).length + 2) :
    hdL st ((linesB (x :: L) ++ 13 :: 10 :: more).take i) = (2, 0, []) := by
  have e : linesB (x :: L) ++ 13 :: 10 :: more = x ++ 13 :: 10 :: (linesB L ++ 13 :: 10 :: more) := by simp [linesB]
  have hlen := lines_len L
  simp only [linesB, List.length_append, List.length_cons] at ha hi
  unfold hdL
  rw [e]
  by_cases hc : i < x.length + 2
  · exact hdGo_err (cut_line _ hx hl hc) (by omega)
  · rw [take_line _ _ hc, hdGo_start (nextL_ok _ hx hl) (by omega) h0, drop_line]
    have hi2 : i - (x.length + 2) < (linesB L).length + 2 := by omega
    exact hdGo_cut more L _ 1 _ _ _ (by simp only [List.length_append, List.length_cons, List.length_take]; omega) (by omega) (by omega) hL (by omega) hi2
end
end Go.Proofs.YtfnmohaddkoalaaGreatDoor
