/- What is written as a line is read back, and what is read is written as the same line (layer 2). No program in sight. -/
import Derived.Test.YtfnmohaddkoalaaGreatDoorQStartQ
namespace Go.Proofs.YtfnmohaddkoalaaGreatDoor

theorem itoa_bit {v : Int} (h : v = 0 ∨ v = 1) : Lib.itoa v = [UInt8.ofNat (48 + v.toNat)] := by
  rcases h with rfl | rfl
  · rw [show (0 : Int) = ((0 : Nat) : Int) from rfl, Lib.itoa_nonneg, Lib.decDigits_one (by omega)]; rfl
  · rw [show (1 : Int) = ((1 : Nat) : Int) from rfl, Lib.itoa_nonneg, Lib.decDigits_one (by omega)]; rfl
theorem itoa_three (u : Nat) (h1 : 100 ≤ u) (h2 : u ≤ 599) : Lib.itoa (u : Int) = [UInt8.ofNat (48 + u / 100), UInt8.ofNat (48 + u / 10 % 10), UInt8.ofNat (48 + u % 10)] := by
  rw [Lib.itoa_nonneg, Lib.decDigits, dif_neg (by omega), Lib.decDigits_two (by omega) (by omega)]
  rw [show u / 10 / 10 = u / 100 from by omega]; rfl
/-- The version of a minor number. -/
def verB (v : Int) : List UInt8 := [72, 84, 84, 80, 47, 49, 46, UInt8.ofNat (48 + v.toNat)]
theorem verB_ok {v : Int} (h : v = 0 ∨ v = 1) : verE (verB v) = 0 ∧ verN (verB v) = v ∧ verForm (verB v) = true := by
  rcases h with rfl | rfl <;> decide
theorem verE_zero {l : List UInt8} (h : verE l = 0) : (verN l = 0 ∨ verN l = 1) ∧ l = verB (verN l) ∧ verForm l = true := by
  have hf : verForm l = true := by
    cases hh : verForm l with
    | true => rfl
    | false => unfold verE at h; rw [hh] at h; cases h
  refine ⟨verN_bd l, ?_, hf⟩
  obtain ⟨a5, a7, rfl, d5, d7⟩ := verForm_list hf
  have h' : a5 = 49 ∧ a7.toNat ≤ 49 := by
    unfold verE at h
    rw [if_pos hf] at h
    by_cases hc : a5 = 49 ∧ a7.toNat ≤ 49
    · exact hc
    · rw [if_neg (by simpa using hc)] at h; cases h
  obtain ⟨rfl, h7⟩ := h'
  have b7 := of_digB d7
  have e : verN [72, 84, 84, 80, 47, 49, 46, a7] = (a7.toNat : Int) - 48 := by unfold verN; rw [if_pos h]; rfl
  rw [e]
  unfold verB
  have : UInt8.ofNat (48 + ((a7.toNat : Int) - 48).toNat) = a7 := by
    rw [show 48 + ((a7.toNat : Int) - 48).toNat = a7.toNat from by omega]; simp
  rw [this]
theorem reqL_inv {l m t : List UInt8} {v : Int} (h : reqL l = (m, t, v, 0)) :
    l.length ≤ 2000 ∧ ∃ q2 p2 q3, cutB 32 l = (m, p2, true) ∧ cutB 32 p2 = (t, q2, q3) ∧ q3 = true ∧ tokenB m = true ∧ visB t = true ∧ verE q2 = 0 ∧ verN q2 = v := by
  obtain ⟨p1, p2, p3, hp⟩ : ∃ a b c, cutB 32 l = (a, b, c) := ⟨_, _, _, rfl⟩
  obtain ⟨q1, q2, q3, hq⟩ : ∃ a b c, cutB 32 p2 = (a, b, c) := ⟨_, _, _, rfl⟩
  by_cases hl : 2000 < l.length
  · rw [reqL_long hl] at h; simp at h
  refine ⟨by omega, ?_⟩
  cases hb : tokenB p1 && visB q1 with
  | false => rw [reqL_bad hl hp hq hb] at h; simp at h
  | true =>
    by_cases hv : verE q2 = 0
    · rw [reqL_ok hl hp hq hb hv] at h
      simp only [Prod.mk.injEq, and_true] at h
      obtain ⟨rfl, rfl, rfl⟩ := h
      simp only [Bool.and_eq_true] at hb
      have hq3 : q3 = true := by
        rcases cutB_cases 32 p2 with ⟨x, y, hx, _, _⟩ | ⟨hx, _⟩
        · rw [hq] at hx; simp at hx; exact hx.2.2
        · rw [hq] at hx; simp at hx
          obtain ⟨_, rfl, _⟩ := hx
          exact absurd hv (by decide)
      have hp3 : p3 = true := by
        rcases cutB_cases 32 l with ⟨x, y, hx, _, _⟩ | ⟨hx, _⟩
        · rw [hp] at hx; simp at hx; exact hx.2.2
        · rw [hp] at hx; simp at hx
          obtain ⟨_, rfl, _⟩ := hx
          rw [cutB_nil] at hq
          simp at hq
          rw [hq.2.2] at hq3
          cases hq3
      subst hp3
      exact ⟨q2, p2, q3, hp, hq, hq3, hb.1, hb.2, hv, rfl⟩
    · rw [reqL_ver hl hp hq hb hv] at h
      simp at h
      exact absurd h.2.2.2 hv
theorem cut_join {c : UInt8} {l a b : List UInt8} (h : cutB c l = (a, b, true)) : l = a ++ c :: b := by
  rcases cutB_cases c l with ⟨x, y, hx, h2, _⟩ | ⟨hx, _⟩
  · rw [h] at hx; simp at hx
    obtain ⟨rfl, rfl⟩ := hx
    exact h2
  · rw [h] at hx; simp at hx
theorem req_back {l m t : List UInt8} {v : Int} (h : reqL l = (m, t, v, 0)) : reqLine m t v = l ∧ reqF m t v = l := by
  obtain ⟨hl, q2, p2, q3, hp, hq, rfl, _, _, hv, hn⟩ := reqL_inv h
  obtain ⟨hv1, hv2, _⟩ := verE_zero hv
  have e : reqLine m t v = l := by
    rw [cut_join hp, cut_join hq, hv2, hn]
    unfold reqLine
    rw [itoa_bit (by rw [← hn]; exact hv1)]
    simp [verB]
  exact ⟨e, by unfold reqF; rw [e, if_pos h]⟩
theorem reqF_no {m t : List UInt8} {v : Int} (h : v < 0 ∨ 1 < v ∨ 2000 < m.length ∨ 2000 < t.length) : reqF m t v = [] := by
  unfold reqF
  rw [if_neg]
  intro h'
  obtain ⟨hl, q2, p2, q3, hp, hq, rfl, _, _, hv, hn⟩ := reqL_inv h'
  have hb := verN_bd q2
  have hl2 : (reqLine m t v).length ≥ m.length + t.length := by unfold reqLine; simp; omega
  omega
theorem statL_inv {l r : List UInt8} {v s : Int} (h : statL l = (v, s, r, 0)) :
    l.length ≤ 2000 ∧ ∃ p1 p2 q1, cutB 32 l = (p1, p2, true) ∧ cutB 32 p2 = (q1, r, true) ∧ statForm q1 = true ∧ textB r = true ∧ verE p1 = 0 ∧ verN p1 = v ∧ statN q1 = s := by
  obtain ⟨p1, p2, p3, hp⟩ : ∃ a b c, cutB 32 l = (a, b, c) := ⟨_, _, _, rfl⟩
  obtain ⟨q1, q2, q3, hq⟩ : ∃ a b c, cutB 32 p2 = (a, b, c) := ⟨_, _, _, rfl⟩
  by_cases hl : 2000 < l.length
  · rw [statL_long hl] at h; simp at h
  refine ⟨by omega, ?_⟩
  cases hb : q3 && (statForm q1 && textB q2) with
  | false => rw [statL_bad hl hp hq hb] at h; simp at h
  | true =>
    by_cases hv : verE p1 = 0
    · rw [statL_ok hl hp hq hb hv] at h
      simp only [Prod.mk.injEq, and_true] at h
      obtain ⟨rfl, rfl, rfl⟩ := h
      simp only [Bool.and_eq_true] at hb
      obtain ⟨rfl, hs, ht⟩ := hb
      have hp3 : p3 = true := by
        rcases cutB_cases 32 l with ⟨x, y, hx, _, _⟩ | ⟨hx, _⟩
        · rw [hp] at hx; simp at hx; exact hx.2.2
        · rw [hp] at hx; simp at hx
          obtain ⟨_, rfl, _⟩ := hx
          rw [cutB_nil] at hq
          simp at hq
      subst hp3
      exact ⟨p1, p2, q1, hp, hq, hs, ht, hv, rfl, rfl⟩
    · rw [statL_ver hl hp hq hb hv] at h
      simp at h
      exact absurd h.2.2.2 hv
theorem numGo_three {a0 a1 a2 : UInt8} (h0 : 49 ≤ a0.toNat) (h0' : a0.toNat ≤ 53) (h1 : digB a1 = true) (h2 : digB a2 = true) :
    statN [a0, a1, a2] = ((100 * (a0.toNat - 48) + 10 * (a1.toNat - 48) + (a2.toNat - 48) : Nat) : Int) := by
  have b1 := of_digB h1
  have b2 := of_digB h2
  have d0 : digB a0 = true := digB_true (by omega)
  unfold statN
  simp only [numGo, d0, h1, h2, if_true]
  omega
theorem statN_itoa {q : List UInt8} (h : statForm q = true) : 100 ≤ statN q ∧ statN q ≤ 599 ∧ Lib.itoa (statN q) = q := by
  obtain ⟨a0, a1, a2, rfl, k0, k1, k2, k3⟩ := statForm_list h
  have b1 := of_digB k2
  have b2 := of_digB k3
  rw [numGo_three k0 k1 k2 k3]
  refine ⟨by omega, by omega, ?_⟩
  rw [itoa_three _ (by omega) (by omega)]
  have e0 : UInt8.ofNat (48 + (100 * (a0.toNat - 48) + 10 * (a1.toNat - 48) + (a2.toNat - 48)) / 100) = a0 := by
    rw [show 48 + (100 * (a0.toNat - 48) + 10 * (a1.toNat - 48) + (a2.toNat - 48)) / 100 = a0.toNat from by omega]; simp
  have e1 : UInt8.ofNat (48 + (100 * (a0.toNat - 48) + 10 * (a1.toNat - 48) + (a2.toNat - 48)) / 10 % 10) = a1 := by
    rw [show 48 + (100 * (a0.toNat - 48) + 10 * (a1.toNat - 48) + (a2.toNat - 48)) / 10 % 10 = a1.toNat from by omega]; simp
  have e2 : UInt8.ofNat (48 + (100 * (a0.toNat - 48) + 10 * (a1.toNat - 48) + (a2.toNat - 48)) % 10) = a2 := by
    rw [show 48 + (100 * (a0.toNat - 48) + 10 * (a1.toNat - 48) + (a2.toNat - 48)) % 10 = a2.toNat from by omega]; simp
  rw [e0, e1, e2]
theorem stat_back {l r : List UInt8} {v s : Int} (h : statL l = (v, s, r, 0)) : statLine v s r = l ∧ statF v s r = l := by
  obtain ⟨hl, p1, p2, q1, hp, hq, hs, ht, hv, hn, hm⟩ := statL_inv h
  obtain ⟨hv1, hv2, _⟩ := verE_zero hv
  obtain ⟨_, _, hi⟩ := statN_itoa hs
  have e : statLine v s r = l := by
    rw [cut_join hp, cut_join hq, hv2, hn]
    unfold statLine
    rw [itoa_bit (by rw [← hn]; exact hv1), ← hm, hi]
    simp [verB]
  exact ⟨e, by unfold statF; rw [e, if_pos h]⟩
theorem statF_no {r : List UInt8} {v s : Int} (h : v < 0 ∨ 1 < v ∨ s < 100 ∨ 599 < s ∨ 2000 < r.length) : statF v s r = [] := by
  unfold statF
  rw [if_neg]
  intro h'
  obtain ⟨hl, p1, p2, q1, hp, hq, hs, ht, hv, hn, hm⟩ := statL_inv h'
  have hb := verN_bd p1
  have hs2 := statN_itoa hs
  have hl2 : (statLine v s r).length ≥ r.length := by unfold statLine; simp; omega
  omega
/-- A status line that is written: its parts, or an error. -/
theorem stat_line {r : List UInt8} {v s : Int} (hv : v = 0 ∨ v = 1) (h1 : 100 ≤ s) (h2 : s ≤ 599) (he : (statL (statLine v s r)).2.2.2 = 0) : statL (statLine v s r) = (v, s, r, 0) := by
  obtain ⟨u, rfl⟩ := Int.eq_ofNat_of_zero_le (show 0 ≤ s by omega)
  have e : statLine v u r = verB v ++ 32 :: (Lib.itoa (u : Int) ++ 32 :: r) := by
    unfold statLine; rw [itoa_bit hv]; simp [verB]
  have d0 : (UInt8.ofNat (48 + u / 100)).toNat = 48 + u / 100 := by simp; omega
  have d1 : (UInt8.ofNat (48 + u / 10 % 10)).toNat = 48 + u / 10 % 10 := by simp; omega
  have d2 : (UInt8.ofNat (48 + u % 10)).toNat = 48 + u % 10 := by simp; omega
  have g1 : digB (UInt8.ofNat (48 + u / 10 % 10)) = true := digB_true (by omega)
  have g2 : digB (UInt8.ofNat (48 + u % 10)) = true := digB_true (by omega)
  have hi := itoa_three u (by omega) (by omega)
  have hsf : statForm (Lib.itoa (u : Int)) = true := by rw [hi]; exact statForm_mk (by omega) (by omega) g1 g2
  have hsn : statN (Lib.itoa (u : Int)) = u := by
    rw [hi, numGo_three (by omega) (by omega) g1 g2]; omega
  have c1 : cutB 32 (statLine v u r) = (verB v, Lib.itoa (u : Int) ++ 32 :: r, true) := by
    rw [e]; exact cutB_hit (by rcases hv with rfl | rfl <;> decide) _
  have c2 : cutB 32 (Lib.itoa (u : Int) ++ 32 :: r) = (Lib.itoa (u : Int), r, true) := by
    refine cutB_hit ?_ _
    rw [hi]
    simp only [List.mem_cons, List.not_mem_nil, or_false, not_or]
    exact ⟨(first_ne (by omega)).symm, (dig_ne g1).symm, (dig_ne g2).symm⟩
  obtain ⟨v1, v2, _⟩ := verB_ok hv
  by_cases hl : 2000 < (statLine v u r).length
  · rw [statL_long hl] at he; cases he
  cases ht : textB r with
  | false => rw [statL_bad hl c1 c2 (by rw [ht]; simp)] at he; cases he
  | true => rw [statL_ok hl c1 c2 (by rw [ht, hsf]; rfl) v1, v2, hsn]
theorem statF_in {r : List UInt8} {v s : Int} (hv : v = 0 ∨ v = 1) (h1 : 100 ≤ s) (h2 : s ≤ 599) : statF v s r = if (statL (statLine v s r)).2.2.2 = 0 then statLine v s r else [] := by
  unfold statF
  by_cases he : (statL (statLine v s r)).2.2.2 = 0
  · rw [if_pos (stat_line hv h1 h2 he), if_pos he]
  · rw [if_neg (fun h => he (by rw [h])), if_neg he]
theorem not_both {l m t r : List UInt8} {v n s : Int} (h : reqL l = (m, t, v, 0)) (h' : statL l = (n, s, r, 0)) : False := by
  obtain ⟨_, q2, p2, q3, hp, _, _, htok, _⟩ := reqL_inv h
  obtain ⟨_, p1, p2', q1, hp', _, _, _, hv, _⟩ := statL_inv h'
  rw [hp] at hp'
  simp only [Prod.mk.injEq] at hp'
  obtain ⟨rfl, _⟩ := hp'
  obtain ⟨_, e, _⟩ := verE_zero hv
  rw [e] at htok
  unfold tokenB verB at htok
  simp only [List.all_cons, Bool.and_eq_true] at htok
  have : partB 47 = false := by decide
  rw [this] at htok
  simp at htok
end Go.Proofs.YtfnmohaddkoalaaGreatDoor
