/- A status line by its places, and what the statements on layer 2 say in plain terms. -/
import Derived.Test.YtfnmohaddkoalaaGreatDoorQPre
namespace Go.Proofs.YtfnmohaddkoalaaGreatDoor

/-- The form of a status line by its places. -/
def statAt (l : List UInt8) : Bool :=
  decide (13 ≤ l.length) && (l.getD 8 0 == 32 && (decide (49 ≤ (l.getD 9 0).toNat) && (decide ((l.getD 9 0).toNat ≤ 53) && (digB (l.getD 10 0) && (digB (l.getD 11 0) && (l.getD 12 0 == 32 && textB (l.drop 13)))))))
theorem list13 {l : List UInt8} (h : 13 ≤ l.length) : ∃ a0 a1 a2 a3 a4 a5 a6 a7 a8 a9 a10 a11 a12 r, l = a0 :: a1 :: a2 :: a3 :: a4 :: a5 :: a6 :: a7 :: a8 :: a9 :: a10 :: a11 :: a12 :: r := by
  match l, h with
  | a0 :: a1 :: a2 :: a3 :: a4 :: a5 :: a6 :: a7 :: a8 :: a9 :: a10 :: a11 :: a12 :: r, _ => exact ⟨a0, a1, a2, a3, a4, a5, a6, a7, a8, a9, a10, a11, a12, r, rfl⟩
theorem list8 {l : List UInt8} (h : l.length = 8) : ∃ a0 a1 a2 a3 a4 a5 a6 a7, l = [a0, a1, a2, a3, a4, a5, a6, a7] := by
  match l, h with
  | [a0, a1, a2, a3, a4, a5, a6, a7], _ => exact ⟨a0, a1, a2, a3, a4, a5, a6, a7, rfl⟩
theorem list3 {l : List UInt8} (h : l.length = 3) : ∃ a0 a1 a2, l = [a0, a1, a2] := by
  match l, h with
  | [a0, a1, a2], _ => exact ⟨a0, a1, a2, rfl⟩
theorem dig_ne {c : UInt8} (h : digB c = true) : c ≠ 32 := by
  rintro rfl; revert h; decide
theorem verForm_list {l : List UInt8} (h : verForm l = true) : ∃ a5 a7, l = [72, 84, 84, 80, 47, a5, 46, a7] ∧ digB a5 = true ∧ digB a7 = true := by
  have h' := h
  unfold verForm at h
  simp only [Bool.and_eq_true, beq_iff_eq] at h
  obtain ⟨h8, ht, h5, h6, h7⟩ := h
  obtain ⟨a0, a1, a2, a3, a4, a5, a6, a7, rfl⟩ := list8 h8
  simp [httpL] at ht h5 h6 h7
  obtain ⟨rfl, rfl, rfl, rfl, rfl⟩ := ht
  subst h6
  exact ⟨a5, a7, rfl, h5, h7⟩
theorem statForm_list {l : List UInt8} (h : statForm l = true) : ∃ a0 a1 a2, l = [a0, a1, a2] ∧ 49 ≤ a0.toNat ∧ a0.toNat ≤ 53 ∧ digB a1 = true ∧ digB a2 = true := by
  unfold statForm at h
  simp only [Bool.and_eq_true, beq_iff_eq, decide_eq_true_eq] at h
  obtain ⟨h3, k0, k1, k2, k3⟩ := h
  obtain ⟨a0, a1, a2, rfl⟩ := list3 h3
  exact ⟨a0, a1, a2, rfl, k0, k1, k2, k3⟩
theorem statForm_mk {a0 a1 a2 : UInt8} (h0 : 49 ≤ a0.toNat) (h0' : a0.toNat ≤ 53) (h1 : digB a1 = true) (h2 : digB a2 = true) : statForm [a0, a1, a2] = true := by
  simp [statForm, h0, h0', h1, h2]
theorem first_ne {c : UInt8} (h : 49 ≤ c.toNat) : c ≠ 32 := by
  rintro rfl; revert h; decide
/-- A status line whose version has the form: cut at its places. -/
theorem stat_cut {l : List UInt8} (h : statAt l = true) (hv : verForm (l.take 8) = true) :
    cutB 32 l = (l.take 8, l.drop 9, true) ∧ cutB 32 (l.drop 9) = ((l.drop 9).take 3, l.drop 13, true) ∧ statForm ((l.drop 9).take 3) = true ∧ textB (l.drop 13) = true := by
  unfold statAt at h
  simp only [Bool.and_eq_true, decide_eq_true_eq, beq_iff_eq] at h
  obtain ⟨h13, h8, k0, k1, k2, k3, h12, ht⟩ := h
  obtain ⟨a0, a1, a2, a3, a4, a5, a6, a7, a8, a9, a10, a11, a12, r, rfl⟩ := list13 h13
  obtain ⟨b5, b7, hl, d5, d7⟩ := verForm_list hv
  simp at hl h8 k0 k1 k2 k3 h12 ht
  obtain ⟨rfl, rfl, rfl, rfl, rfl, rfl, rfl, rfl⟩ := hl
  subst h8 h12
  have n5 := dig_ne d5
  have n7 := dig_ne d7
  have n9 := first_ne k0
  have n10 := dig_ne k2
  have n11 := dig_ne k3
  refine ⟨?_, ?_, statForm_mk k0 k1 k2 k3, ht⟩
  · exact cutB_hit (a := [72, 84, 84, 80, 47, a5, 46, a7]) (by simp only [List.mem_cons, List.not_mem_nil, or_false, not_or]; exact ⟨by decide, by decide, by decide, by decide, by decide, n5.symm, by decide, n7.symm⟩) _
  · exact cutB_hit (a := [a9, a10, a11]) (by simp only [List.mem_cons, List.not_mem_nil, or_false, not_or]; exact ⟨n9.symm, n10.symm, n11.symm⟩) _
/-- A line that is read has the form by its places. -/
theorem stat_at {l p1 p2 q1 q2 : List UInt8} {p3 q3 : Bool} (hp : cutB 32 l = (p1, p2, p3)) (hq : cutB 32 p2 = (q1, q2, q3)) (hb : (q3 && (statForm q1 && textB q2)) = true) (hv : verForm p1 = true) :
    statAt l = true ∧ l.take 8 = p1 := by
  simp only [Bool.and_eq_true] at hb
  obtain ⟨rfl, hs, ht⟩ := hb
  obtain ⟨a5, a7, rfl, d5, d7⟩ := verForm_list hv
  obtain ⟨b0, b1, b2, rfl, k0, k1, k2, k3⟩ := statForm_list hs
  rcases cutB_cases 32 p2 with ⟨x, y, hx, hx2, _⟩ | ⟨hx, _⟩
  · rw [hq] at hx
    simp only [Prod.mk.injEq, and_true] at hx
    obtain ⟨rfl, rfl⟩ := hx
    rcases cutB_cases 32 l with ⟨x', y', hy, hy2, _⟩ | ⟨hy, _⟩
    · rw [hp] at hy
      simp only [Prod.mk.injEq] at hy
      obtain ⟨rfl, rfl, _⟩ := hy
      rw [hy2, hx2]
      refine ⟨?_, rfl⟩
      simp [statAt, k0, k1, k2, k3, ht]
    · rw [hp] at hy
      simp only [Prod.mk.injEq] at hy
      obtain ⟨_, h2, _⟩ := hy
      subst h2
      rw [cutB_nil] at hq
      simp at hq
  · rw [hq] at hx
    simp at hx
theorem stat_err {l : List UInt8} (h : ¬ 2000 < l.length) (hn : ¬ (statAt l = true ∧ verForm (l.take 8) = true)) : statL l = (0, 0, [], 1) := by
  obtain ⟨p1, p2, p3, hp⟩ : ∃ a b c, cutB 32 l = (a, b, c) := ⟨_, _, _, rfl⟩
  obtain ⟨q1, q2, q3, hq⟩ : ∃ a b c, cutB 32 p2 = (a, b, c) := ⟨_, _, _, rfl⟩
  cases hb : q3 && (statForm q1 && textB q2) with
  | false => exact statL_bad h hp hq hb
  | true =>
    cases hv : verForm p1 with
    | true =>
      obtain ⟨h1, h2⟩ := stat_at hp hq hb hv
      exact absurd ⟨h1, by rw [h2]; exact hv⟩ hn
    | false =>
      have e : verE p1 = 1 := by unfold verE; rw [hv]; rfl
      rw [statL_ver h hp hq hb (by rw [e]; decide), e]
theorem stat_ver {l : List UInt8} (h : ¬ 2000 < l.length) (ha : statAt l = true) (hv : verForm (l.take 8) = true) (hn : verE (l.take 8) ≠ 0) : statL l = (0, 0, [], verE (l.take 8)) := by
  obtain ⟨h1, h2, h3, h4⟩ := stat_cut ha hv
  exact statL_ver h h1 h2 (by rw [h3, h4]; rfl) hn
theorem stat_ok {l : List UInt8} (h : ¬ 2000 < l.length) (ha : statAt l = true) (hv : verForm (l.take 8) = true) (hn : verE (l.take 8) = 0) : statL l = (verN (l.take 8), statN ((l.drop 9).take 3), l.drop 13, 0) := by
  obtain ⟨h1, h2, h3, h4⟩ := stat_cut ha hv
  exact statL_ok h h1 h2 (by rw [h3, h4]; rfl) hn
end Go.Proofs.YtfnmohaddkoalaaGreatDoor
