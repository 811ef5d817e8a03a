/- What a filter holds: each matched tag once (layer 11). No program in sight. -/
import Derived.Test.YtfkgjjoejcbdnaaDoorLangF
namespace Go.Proofs.YtfkgjjoejcbdnaaDoor

theorem countP_next (k : Nat) : ∀ L : List Nat, L.countP (fun x => decide (x < k + 1)) = L.countP (fun x => decide (x < k)) + L.count k
  | [] => rfl
  | x :: L => by
    have ih := countP_next k L
    rw [List.countP_cons, List.countP_cons, List.count_cons, ih]
    by_cases h : x < k
    · have h1 : x < k + 1 := by omega
      have h2 : ¬ x = k := by omega
      simp [h, h1, h2]; omega
    · by_cases h2 : x = k
      · subst h2; simp; omega
      · have h1 : ¬ x < k + 1 := by omega
        simp [h, h1, h2]
theorem countP_all {n : Nat} : ∀ {L : List Nat}, (∀ x ∈ L, x < n) → L.countP (fun x => decide (x < n)) = L.length
  | [], _ => rfl
  | x :: L, h => by
    rw [List.countP_cons, countP_all (fun y hy => h y (List.mem_cons_of_mem _ hy))]
    simp [h x (List.mem_cons_self ..)]
/-- The marks and the list agree. -/
structure FGood (n : Nat) (st : FSt) : Prop where
  len : st.2.length = n
  cnt : ∀ k, k < n → st.1.count k = if st.2[k]? = some true then 1 else 0
  lt : ∀ x ∈ st.1, x < n
theorem step_mark {m : List UInt8 → List UInt8 → Int} {r t : List UInt8} {k j : Nat} {st : FSt} (hk : k < st.2.length) :
    (filtStep m r t k st).2[j]? = some true ↔ st.2[j]? = some true ∨ (j = k ∧ 0 ≤ m r t) := by
  unfold filtStep
  by_cases h : st.2[k]? = some false ∧ 0 ≤ m r t
  · rw [if_pos h, List.getElem?_set]
    by_cases hj : k = j
    · subst hj; simp [hk, h.2]
    · rw [if_neg hj]
      constructor
      · exact .inl
      · rintro (h1 | ⟨h1, _⟩)
        · exact h1
        · exact absurd h1.symm hj
  · rw [if_neg h]
    constructor
    · exact .inl
    · rintro (h1 | ⟨rfl, h1⟩)
      · exact h1
      · have e : st.2[j]? = some st.2[j] := List.getElem?_eq_getElem hk
        cases hb : st.2[j] with
        | true => rw [e, hb]
        | false => exact absurd ⟨by rw [e, hb], h1⟩ h
theorem step_len {m : List UInt8 → List UInt8 → Int} {r t : List UInt8} {k : Nat} {st : FSt} : (filtStep m r t k st).2.length = st.2.length := by
  unfold filtStep; split <;> simp
theorem step_good {m : List UInt8 → List UInt8 → Int} {r t : List UInt8} {k n : Nat} {st : FSt} (h : FGood n st) (hk : k < n) : FGood n (filtStep m r t k st) := by
  unfold filtStep
  by_cases hc : st.2[k]? = some false ∧ 0 ≤ m r t
  · rw [if_pos hc]
    refine ⟨by simp [h.len], fun j hj => ?_, fun x hx => ?_⟩
    · have h1 := h.cnt j hj
      simp only [List.count_append, List.getElem?_set]
      by_cases e : k = j
      · subst e
        rw [hc.1] at h1
        have hk' : k < st.2.length := by rw [h.len]; exact hk
        simp [h1, hk']
      · have e2 : [k].count j = 0 := by simp [e]
        rw [if_neg e, e2, Nat.add_zero]; exact h1
    · rcases List.mem_append.1 hx with hx | hx
      · exact h.lt x hx
      · rw [List.mem_singleton] at hx; omega
  · rw [if_neg hc]; exact h
theorem in_good {m : List UInt8 → List UInt8 → Int} {r : List UInt8} {n : Nat} : ∀ (k : Nat) (ts : List (List UInt8)) (st : FSt), k + ts.length ≤ n → FGood n st → FGood n (filtIn m r k ts st)
  | _, [], _, _, h => h
  | k, t :: ts, st, hk, h => by
    rw [filtIn]
    simp at hk
    exact in_good (k + 1) ts _ (by omega) (step_good h (by omega))
theorem in_mark {m : List UInt8 → List UInt8 → Int} {r : List UInt8} {j : Nat} : ∀ (k : Nat) (ts : List (List UInt8)) (st : FSt), k + ts.length ≤ st.2.length →
    ((filtIn m r k ts st).2[j]? = some true ↔ st.2[j]? = some true ∨ ∃ i t, ts[i]? = some t ∧ j = k + i ∧ 0 ≤ m r t)
  | _, [], st, _ => by simp [filtIn]
  | k, t :: ts, st, hk => by
    simp at hk
    rw [filtIn, in_mark (k + 1) ts _ (by rw [step_len]; omega), step_mark (by omega)]
    constructor
    · rintro ((h | ⟨h1, h2⟩) | ⟨i, t', h1, h2, h3⟩)
      · exact .inl h
      · exact .inr ⟨0, t, rfl, by omega, h2⟩
      · exact .inr ⟨i + 1, t', by simpa using h1, by omega, h3⟩
    · rintro (h | ⟨i, t', h1, h2, h3⟩)
      · exact .inl (.inl h)
      · rcases i with _ | i
        · simp at h1; subst h1
          exact .inl (.inr ⟨by omega, h3⟩)
        · exact .inr ⟨i, t', by simpa using h1, by omega, h3⟩
theorem out_good {m : List UInt8 → List UInt8 → Int} {T : List (List UInt8)} : ∀ (rs : List (List UInt8)) (st : FSt), FGood T.length st → FGood T.length (filtOut m T rs st)
  | [], _, h => h
  | r :: rs, st, h => by
    rw [filtOut]
    exact out_good rs _ (in_good 0 T st (by omega) h)
theorem out_mark {m : List UInt8 → List UInt8 → Int} {T : List (List UInt8)} {j : Nat} : ∀ (rs : List (List UInt8)) (st : FSt), FGood T.length st →
    ((filtOut m T rs st).2[j]? = some true ↔ st.2[j]? = some true ∨ ∃ r ∈ rs, ∃ t, T[j]? = some t ∧ 0 ≤ m r t)
  | [], st, _ => by simp [filtOut]
  | r :: rs, st, h => by
    rw [filtOut, out_mark rs _ (in_good 0 T st (by omega) h), in_mark 0 T st (by rw [h.len]; omega)]
    constructor
    · rintro ((h1 | ⟨i, t, h1, h2, h3⟩) | ⟨r', h1, h2⟩)
      · exact .inl h1
      · exact .inr ⟨r, List.mem_cons_self .., t, by rw [h2, Nat.zero_add]; exact h1, h3⟩
      · exact .inr ⟨r', List.mem_cons_of_mem _ h1, h2⟩
    · rintro (h1 | ⟨r', h1, t, h2, h3⟩)
      · exact .inl (.inl h1)
      · rcases List.mem_cons.1 h1 with rfl | h1
        · exact .inl (.inr ⟨j, t, h2, by omega, h3⟩)
        · exact .inr ⟨r', h1, t, h2, h3⟩
theorem good_start (n : Nat) : FGood n ([], List.replicate n false) :=
  ⟨by simp, fun k hk => by simp [hk], fun x hx => by simp at hx⟩
/-- Each tag that some range matches stands once; no other does. -/
theorem filtL_count {m : List UInt8 → List UInt8 → Int} {R T : List (List UInt8)} {k : Nat} {t : List UInt8} (ht : T[k]? = some t) : (filtL m R T).count k = if R.any (fun r => decide (0 ≤ m r t)) = true then 1 else 0 := by
  have hk : k < T.length := (List.getElem?_eq_some_iff.1 ht).1
  have hg := good_start T.length
  have h1 := (out_good (m := m) R _ hg).cnt k hk
  have h2 := out_mark (m := m) (j := k) R _ hg
  unfold filtL
  rw [h1]
  congr 1
  rw [eq_iff_iff, h2, List.any_eq_true]
  constructor
  · rintro (h | ⟨r, hr, t', h3, h4⟩)
    · simp [hk] at h
    · rw [ht] at h3; cases h3
      exact ⟨r, hr, decide_eq_true h4⟩
  · rintro ⟨r, hr, h3⟩
    exact .inr ⟨r, hr, t, ht, of_decide_eq_true h3⟩
theorem filtL_lt {m : List UInt8 → List UInt8 → Int} {R T : List (List UInt8)} : ∀ x ∈ filtL m R T, x < T.length := (out_good (m := m) R _ (good_start T.length)).lt
end Go.Proofs.YtfkgjjoejcbdnaaDoor
