/- What Lookup finds matches as a range (layer 11). No program in sight. -/
import Derived.Test.YtfkgjjoejcbdnaaDoorLangR
namespace Go.Proofs.YtfkgjjoejcbdnaaDoor

theorem foldB_swap (a b : List UInt8) : foldB a b = foldB b a := by
  rw [foldB_low_eq, foldB_low_eq, Bool.eq_iff_iff, beq_iff_eq, beq_iff_eq]; exact ⟨Eq.symm, Eq.symm⟩
theorem findF_spec (r : List UInt8) : ∀ (k : Nat) (l : List (List UInt8)), findF r k l = -1 ∨ ∃ (j : Nat) (x : List UInt8), findF r k l = ((k + j : Nat) : Int) ∧ l[j]? = some x ∧ foldB r x = true
  | _, [] => .inl rfl
  | k, t :: ts => by
    rw [findF]
    by_cases h : foldB r t = true
    · right; exact ⟨0, t, by rw [if_pos h]; simp, by simp, h⟩
    · rw [if_neg h]
      rcases findF_spec r (k + 1) ts with h2 | ⟨j, x, h2, h3, h4⟩
      · exact .inl h2
      · right; exact ⟨j + 1, x, by rw [h2]; omega, by simpa using h3, h4⟩
theorem findF_first (r : List UInt8) : ∀ (k : Nat) (l : List (List UInt8)) (j : Nat) (x : List UInt8), l[j]? = some x → foldB r x = true → 0 ≤ findF r k l ∧ findF r k l ≤ ((k + j : Nat) : Int)
  | _, [], j, x, h, _ => by simp at h
  | k, t :: ts, j, x, h, hf => by
    rw [findF]
    by_cases h1 : foldB r t = true
    · rw [if_pos h1]; omega
    · rw [if_neg h1]
      rcases j with _ | j
      · simp at h; subst h; exact absurd hf h1
      · have := findF_first r (k + 1) ts j x (by simpa using h) hf
        omega
theorem lookF_spec (Inv : List UInt8 → Prop) (hI : ∀ q, Inv q → Inv (shortB q)) : ∀ (n : Nat) (p : List UInt8) (l : List (List UInt8)), Inv p →
    lookF n p l = -1 ∨ ∃ (k : Nat) (x q : List UInt8), lookF n p l = (k : Int) ∧ l[k]? = some x ∧ q ≠ [] ∧ Inv q ∧ foldB q x = true
  | 0, _, _, _ => .inl rfl
  | n + 1, p, l, h => by
    rw [lookF]
    by_cases hp : p = []
    · rw [if_pos hp]; exact .inl rfl
    · rw [if_neg hp]
      by_cases hf : 0 ≤ findF p 0 l
      · rw [if_pos hf]
        rcases findF_spec p 0 l with h2 | ⟨j, x, h2, h3, h4⟩
        · omega
        · right; exact ⟨j, x, p, by rw [h2]; simp, h3, hp, h, h4⟩
      · rw [if_neg hf]
        exact lookF_spec Inv hI n (shortB p) l (hI p h)
theorem cutLast_at (l : List UInt8) : cutLast l = [] ∨ ∃ s, l = cutLast l ++ 45 :: s := by
  unfold cutLast lastDash
  rcases Lib.lastIndexByte_spec ⟨l.toArray⟩ 45 with ⟨h, _⟩ | ⟨i, hi, h, hb, _⟩
  · left; rw [h]; rfl
  · right
    have hi' : i < l.length := hi
    rw [h]
    have e : (max (i : Int) 0).toNat = i := by omega
    rw [e]
    have e2 : (⟨l.toArray⟩ : ByteArray).data[i]! = l[i] := by
      rw [getElem!_pos _ i (by simpa using hi')]
      simp
    rw [e2] at hb
    have e3 : l[i] = 45 := UInt8.toNat_inj.1 (by have : (45 : UInt8).toNat = 45 := rfl; omega)
    refine ⟨l.drop (i + 1), ?_⟩
    rw [← e3, ← List.drop_eq_getElem_cons hi', List.take_append_drop]
/-- p is r, or a beginning of r ahead of a dash, or nothing. -/
def Head (r p : List UInt8) : Prop := p = [] ∨ p = r ∨ ∃ s, r = p ++ 45 :: s
theorem head_cut {r p : List UInt8} (h : Head r p) : Head r (cutLast p) := by
  rcases cutLast_at p with h0 | ⟨s, hs⟩
  · exact .inl h0
  · rcases h with h | h | ⟨s', h⟩
    · rw [h] at hs; simp at hs
    · right; right; exact ⟨s, by rw [← h]; exact hs⟩
    · right; right
      refine ⟨s ++ 45 :: s', ?_⟩
      rw [h]
      conv => lhs; rw [hs]
      simp
theorem head_short {r p : List UInt8} (h : Head r p) : Head r (shortB p) := by
  unfold shortB
  split
  · exact head_cut (head_cut h)
  · exact head_cut h
theorem tagsFrom_app : ∀ (i : Nat) (a b : List (List UInt8)), tagsFrom i (a ++ b) = true → tagsFrom i a = true
  | _, [], _, _ => rfl
  | i, x :: a, b, h => by
    rw [List.cons_append, tagsFrom, Bool.and_eq_true] at h
    rw [tagsFrom, Bool.and_eq_true]
    exact ⟨h.1, tagsFrom_app (i + 1) a b h.2⟩
theorem pre_split {a b : List (List UInt8)} (h : a.isPrefixOf b = true) : ∃ t, b = a ++ t := by
  rw [List.isPrefixOf_iff_prefix] at h
  obtain ⟨t, ht⟩ := h
  exact ⟨t, ht.symm⟩
theorem head_pre {r p : List UInt8} (hp : p ≠ []) (h : Head r p) : (p ++ [45]).isPrefixOf (r ++ [45]) = true := by
  rw [List.isPrefixOf_iff_prefix]
  rcases h with h | h | ⟨s, h⟩
  · exact absurd h hp
  · rw [h]; exact List.prefix_refl _
  · exact ⟨s ++ [45], by rw [h]; simp⟩
theorem head_tag {r p : List UInt8} (hp : p ≠ []) (h : Head r p) (ht : tagB r = true) : tagB p = true := by
  have h1 := head_pre hp h
  rw [← splitC_prefix] at h1
  obtain ⟨t, e⟩ := pre_split h1
  unfold tagB at ht ⊢
  rw [e] at ht
  exact tagsFrom_app 0 _ _ ht
theorem tag_ne {r : List UInt8} (h : tagB r = true) : r ≠ [] := by
  intro e; subst e; revert h; decide
theorem tag_star {r : List UInt8} (h : tagB r = true) : r ≠ [42] := by
  intro e; subst e; revert h; decide
/-- What is found matches, as a range. -/
theorem found_match {r p x : List UInt8} (hp : p ≠ []) (h : Head r p) (ht : tagB r = true) (hf : foldB p x = true) : 0 < matchI x r := by
  have hl : lowL p = lowL x := by rw [foldB_low_eq, beq_iff_eq] at hf; exact hf
  have hx : tagB x = true := by rw [← tagB_low x, ← hl, tagB_low]; exact head_tag hp h ht
  have hr : rangeB x = true := by unfold rangeB; rw [hx, Bool.or_true]
  have hs : x ≠ [42] := tag_star hx
  have hpre : Lib.hasPrefix (lowL r ++ [45]) (lowL x ++ [45]) = true := by
    have h1 := head_pre hp h
    show (lowL x ++ [45]).isPrefixOf (lowL r ++ [45]) = true
    rw [← hl, ← splitC_prefix, ← splitC_low, ← splitC_low]
    rw [← splitC_prefix] at h1
    obtain ⟨t, e⟩ := pre_split h1
    rw [e, List.map_append, List.isPrefixOf_iff_prefix]
    exact List.prefix_append _ _
  unfold matchI
  rw [hr, ht, Bool.and_self, if_pos rfl, if_neg hs, if_pos hpre]
  have := List.length_pos_iff.2 (splitC_ne 45 x)
  omega
/-- Where a tag of the list equals the text, Lookup finds the first such. -/
theorem look_eq {r : List UInt8} {l : List (List UInt8)} (ht : tagB r = true) {j : Nat} {x : List UInt8} (hx : l[j]? = some x) (hf : foldB x r = true) :
    ∃ (k : Nat) (y : List UInt8), lookI r l = (k : Int) ∧ k ≤ j ∧ l[k]? = some y ∧ foldB y r = true := by
  have hne := tag_ne ht
  rw [foldB_swap] at hf
  obtain ⟨h1, h2⟩ := findF_first r 0 l j x hx hf
  have e : lookI r l = findF r 0 l := by
    unfold lookI
    rw [if_pos ht]
    obtain ⟨n, hn⟩ : ∃ n, r.length = n + 1 := ⟨r.length - 1, by have := List.length_pos_iff.2 hne; omega⟩
    rw [hn, lookF, if_neg hne, if_pos h1]
  rcases findF_spec r 0 l with h | ⟨k, y, h3, h4, h5⟩
  · omega
  · exact ⟨k, y, by rw [e, h3]; simp, by omega, h4, by rw [foldB_swap]; exact h5⟩
/-- What Lookup answers: nothing, or a tag that matches as a range. -/
theorem look_found {r : List UInt8} {l : List (List UInt8)} (ht : tagB r = true) : lookI r l = -1 ∨ ∃ (k : Nat) (x : List UInt8), lookI r l = (k : Int) ∧ l[k]? = some x ∧ 0 < matchI x r := by
  unfold lookI
  rw [if_pos ht]
  rcases lookF_spec (Head r) (fun _ h => head_short h) r.length r l (.inr (.inl rfl)) with h | ⟨k, x, q, h1, h2, h3, h4, h5⟩
  · exact .inl h
  · exact .inr ⟨k, x, h1, h2, found_match h3 h4 ht h5⟩
end Go.Proofs.YtfkgjjoejcbdnaaDoor
