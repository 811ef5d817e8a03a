/- A text without the spaces and tabs at its ends, in plain terms. No program in sight. -/
import Derived.Test.YtfnmohaddkoalaaDoorStrP
import Derived.Lib.SlTrimSet
namespace Go.Proofs.YtfnmohaddkoalaaDoor

def blankC (c : UInt8) : Bool := [(32 : UInt8), 9].contains c
theorem blankC_iff {c : UInt8} : blankC c = true ↔ c = 32 ∨ c = 9 := by unfold blankC; simp
/-- The text between the blanks at its ends. -/
def trimL (l : List UInt8) : List UInt8 := Lib.trimS l [32, 9]
def leftL (l : List UInt8) : List UInt8 := l.dropWhile blankC
def rightL (l : List UInt8) : List UInt8 := (l.reverse.dropWhile blankC).reverse
theorem drop_all {l m : List UInt8} (h : ∀ x ∈ l, blankC x = true) : (l ++ m).dropWhile blankC = m.dropWhile blankC := by
  induction l with
  | nil => rfl
  | cons c t ih =>
    rw [List.cons_append, List.dropWhile_cons, if_pos (h c (by simp))]
    exact ih fun x hx => h x (by simp [hx])
theorem drop_none {c : UInt8} {t : List UInt8} (h : blankC c = false) : (c :: t).dropWhile blankC = c :: t := by
  rw [List.dropWhile_cons, h]; rfl
/-- The form of a text: blanks, a middle part, blanks. -/
def Mid (l a m b : List UInt8) : Prop :=
  l = a ++ (m ++ b) ∧ (∀ x ∈ a, blankC x = true) ∧ (∀ x ∈ b, blankC x = true) ∧ (m = [] ∨ (∃ c t, m = c :: t ∧ blankC c = false) ∧ ∃ d u, m = u ++ [d] ∧ blankC d = false)
theorem take_blank (l : List UInt8) : ∀ x ∈ l.takeWhile blankC, blankC x = true := fun x hx => by
  induction l with
  | nil => cases hx
  | cons c t ih =>
    rw [List.takeWhile_cons] at hx
    by_cases hc : blankC c = true
    · rw [if_pos hc] at hx
      rcases List.mem_cons.1 hx with rfl | hx
      · exact hc
      · exact ih hx
    · rw [if_neg hc] at hx; cases hx
theorem drop_head (l : List UInt8) : l.dropWhile blankC = [] ∨ ∃ c t, l.dropWhile blankC = c :: t ∧ blankC c = false := by
  induction l with
  | nil => exact .inl rfl
  | cons c t ih =>
    rw [List.dropWhile_cons]
    cases hc : blankC c with
    | true => exact ih
    | false => exact .inr ⟨c, t, rfl, hc⟩
theorem mid_some (l : List UInt8) : ∃ a m b, Mid l a m b := by
  have h1 : l = l.takeWhile blankC ++ l.dropWhile blankC := List.takeWhile_append_dropWhile.symm
  rcases drop_head l with h | ⟨c, t, h, hc⟩
  · exact ⟨l.takeWhile blankC, [], [], by rw [h] at h1; simpa using h1, take_blank l, by simp, .inl rfl⟩
  · have h2 : (l.dropWhile blankC).reverse = (l.dropWhile blankC).reverse.takeWhile blankC ++ (l.dropWhile blankC).reverse.dropWhile blankC := List.takeWhile_append_dropWhile.symm
    have h3 : l.dropWhile blankC = ((l.dropWhile blankC).reverse.dropWhile blankC).reverse ++ ((l.dropWhile blankC).reverse.takeWhile blankC).reverse := by
      have := congrArg List.reverse h2
      rw [List.reverse_reverse, List.reverse_append] at this
      exact this
    rcases drop_head (l.dropWhile blankC).reverse with g | ⟨d, u, g, hd⟩
    · exfalso
      rw [g] at h2
      have hm : c ∈ (l.dropWhile blankC).reverse := by rw [h]; simp
      rw [h2, List.append_nil] at hm
      have := take_blank _ c hm
      rw [hc] at this; cases this
    · refine ⟨l.takeWhile blankC, ((l.dropWhile blankC).reverse.dropWhile blankC).reverse, ((l.dropWhile blankC).reverse.takeWhile blankC).reverse, ?_, take_blank l, ?_, .inr ⟨?_, ?_⟩⟩
      · rw [← h3]; exact h1
      · intro x hx
        exact take_blank _ x (by simpa using hx)
      · have h4 := h3
        rw [g] at h4 ⊢
        rw [h] at h4
        cases hr : (d :: u).reverse with
        | nil => simp at hr
        | cons c' t' =>
          rw [hr, List.cons_append] at h4
          injection h4 with e1 _
          exact ⟨c', t', rfl, by rw [← e1]; exact hc⟩
      · rw [g]
        exact ⟨d, u.reverse, by simp, hd⟩
theorem Mid.trim {l a m b : List UInt8} (h : Mid l a m b) : trimL l = m ∧ rightL (leftL l) = m := by
  obtain ⟨rfl, ha, hb, hm⟩ := h
  have hb' : ∀ x ∈ b.reverse, blankC x = true := fun x hx => hb x (by simpa using hx)
  have ha' : ∀ x ∈ a.reverse, blankC x = true := fun x hx => ha x (by simpa using hx)
  have nilA : ∀ {z : List UInt8}, (∀ x ∈ z, blankC x = true) → z.dropWhile blankC = [] := fun {z} hz => by
    have := drop_all (l := z) (m := []) hz
    rwa [List.append_nil] at this
  have hright : rightL (a ++ (m ++ b)) = if m = [] then [] else a ++ m := by
    unfold rightL
    rw [List.reverse_append, List.reverse_append, List.append_assoc, drop_all hb']
    rcases hm with rfl | ⟨_, d, u, rfl, hd⟩
    · rw [List.reverse_nil, List.nil_append, nilA ha', if_pos rfl]; rfl
    · rw [if_neg (by simp), List.reverse_append, List.reverse_singleton, List.singleton_append, List.cons_append, drop_none hd]; simp
  have hleft : leftL (a ++ (m ++ b)) = if m = [] then [] else m ++ b := by
    unfold leftL
    rw [drop_all ha]
    rcases hm with rfl | ⟨⟨c, t, rfl, hc⟩, _⟩
    · rw [List.nil_append, nilA hb, if_pos rfl]
    · rw [if_neg (by simp), List.cons_append, drop_none hc]
  constructor
  · show leftL (rightL (a ++ (m ++ b))) = m
    rw [hright]
    rcases hm with rfl | ⟨⟨c, t, rfl, hc⟩, _⟩
    · rw [if_pos rfl]; rfl
    · rw [if_neg (by simp)]
      unfold leftL
      rw [drop_all ha, drop_none hc]
  · rw [hleft]
    rcases hm with rfl | ⟨_, d, u, rfl, hd⟩
    · rw [if_pos rfl]; rfl
    · rw [if_neg (by simp)]
      unfold rightL
      rw [List.reverse_append, drop_all hb', List.reverse_append, List.reverse_singleton, List.singleton_append, drop_none hd]; simp
theorem trimL_eq (l : List UInt8) : rightL (leftL l) = trimL l := by
  obtain ⟨a, m, b, h⟩ := mid_some l
  rw [h.trim.1, h.trim.2]
theorem trimL_pad {l p q : List UInt8} (hp : ∀ x ∈ p, blankC x = true) (hq : ∀ x ∈ q, blankC x = true) : trimL (p ++ (l ++ q)) = trimL l := by
  obtain ⟨a, m, b, h⟩ := mid_some l
  have h' : Mid (p ++ (l ++ q)) (p ++ a) m (b ++ q) := by
    obtain ⟨rfl, ha, hb, hm⟩ := h
    refine ⟨by simp, ?_, ?_, hm⟩
    · intro x hx
      rcases List.mem_append.1 hx with hx | hx
      · exact hp x hx
      · exact ha x hx
    · intro x hx
      rcases List.mem_append.1 hx with hx | hx
      · exact hb x hx
      · exact hq x hx
  rw [h'.trim.1, h.trim.1]
theorem trimL_trim (l : List UInt8) : trimL (trimL l) = trimL l := by
  obtain ⟨a, m, b, h⟩ := mid_some l
  rw [h.trim.1]
  have h' : Mid m [] m [] := ⟨by simp, by simp, by simp, h.2.2.2⟩
  exact h'.trim.1
theorem trimL_len (l : List UInt8) : (trimL l).length ≤ l.length := by
  obtain ⟨a, m, b, h⟩ := mid_some l
  rw [h.trim.1, h.1]; simp; omega
theorem leftL_hit (s : ByteArray) (h0 : 0 < s.size) (h : blankC s[0] = true) : leftL (bs s) = leftL (bs (s.extract 1 s.size)) := by
  have e : bs (s.extract 1 s.size) = (bs s).drop 1 := by
    unfold bs; rw [Lib.extract_data]
    exact List.take_of_length_le (by rw [List.length_drop, ← Lib.size_eq]; exact Nat.le_refl _)
  have d := drop_step s h0
  rw [List.drop_zero] at d
  rw [e]
  conv => lhs; rw [d]
  unfold leftL
  rw [List.dropWhile_cons, if_pos h]
theorem leftL_stop (s : ByteArray) (h : s.size = 0 ∨ ∃ h0 : 0 < s.size, blankC s[0] = false) : leftL (bs s) = bs s := by
  rcases h with h | ⟨h0, h⟩
  · have : bs s = [] := List.length_eq_zero_iff.1 (by rw [bs_length]; exact h)
    rw [this]; rfl
  · have d := drop_step s h0
    rw [List.drop_zero] at d
    unfold leftL
    rw [d, drop_none h]
theorem snoc_last (s : ByteArray) (h0 : s.size - 1 < s.size) : bs s = bs (s.extract 0 (s.size - 1)) ++ [s[s.size - 1]] := by
  have e : bs (s.extract 0 (s.size - 1)) = (bs s).take (s.size - 1) := by unfold bs; rw [Lib.extract_data]; simp
  rw [e, ← take_step s h0, List.take_of_length_le (by rw [bs_length]; omega)]
theorem rightL_hit (s : ByteArray) (h0 : s.size - 1 < s.size) (h : blankC (s[s.size - 1]'h0) = true) : rightL (bs s) = rightL (bs (s.extract 0 (s.size - 1))) := by
  conv => lhs; rw [snoc_last s h0]
  unfold rightL
  rw [List.reverse_append, List.reverse_singleton, List.singleton_append, List.dropWhile_cons, if_pos h]
theorem rightL_stop (s : ByteArray) (h : s.size = 0 ∨ ∃ h0 : s.size - 1 < s.size, blankC (s[s.size - 1]'h0) = false) : rightL (bs s) = bs s := by
  rcases h with h | ⟨h0, h⟩
  · have : bs s = [] := List.length_eq_zero_iff.1 (by rw [bs_length]; exact h)
    rw [this]; rfl
  · unfold rightL
    conv => lhs; rw [snoc_last s h0]
    rw [List.reverse_append, List.reverse_singleton, List.singleton_append, drop_none h]
    conv => rhs; rw [snoc_last s h0]
    simp
end Go.Proofs.YtfnmohaddkoalaaDoor
