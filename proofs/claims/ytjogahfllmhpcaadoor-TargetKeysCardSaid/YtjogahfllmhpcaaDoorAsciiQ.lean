/- What the statements on layer 1 say in plain terms: quoting back, digits read back, fold an equivalence. -/
import Derived.Test.YtjogahfllmhpcaaDoorAsciiP
import Derived.Lib.ItoaNum
import Derived.Lib.ItoaMem
namespace Go.Proofs.YtjogahfllmhpcaaDoor

theorem resU_escL : ∀ (l acc : List UInt8), resU (escL l) acc = if textB l then some (acc ++ l) else none
  | [], acc => by rw [show escL [] = [] from rfl, resU_nil]; simp [textB]
  | c :: t, acc => by
    have ih := resU_escL t (acc ++ [c])
    rw [show escL (c :: t) = (if c = 34 ∨ c = 92 then [92, c] else [c]) ++ escL t from rfl]
    have ht : textB (c :: t) = (textC c && textB t) := by simp only [textB, List.all_cons]
    rw [ht]
    by_cases hq : c = 34 ∨ c = 92
    · have hc : textC c = true := by rcases hq with rfl | rfl <;> decide
      rw [if_pos hq, show [92, c] ++ escL t = 92 :: c :: escL t from rfl, resU_esc, hc, if_pos rfl, ih]
      simp
    · rw [if_neg hq, show [c] ++ escL t = c :: escL t from rfl, resU_plain _ _ _ (fun h => hq (.inl h)) (fun h => hq (.inr h)), ih]
      cases textC c <;> simp
theorem unquote_quote (l : List UInt8) : unquoteL (quoteL l) = if textB l then some l else none := by
  have hlen : (quoteL l).length = (escL l).length + 2 := by simp [quoteL]
  unfold unquoteL
  rw [if_neg]
  · have : ((quoteL l).drop 1).take ((quoteL l).length - 2) = escL l := by
      rw [hlen]; simp [quoteL]
    rw [this, resU_escL]; simp
  · rw [hlen]
    rintro (h | h | h)
    · omega
    · exact h (by simp [quoteL])
    · apply h
      unfold quoteL
      rw [List.getD_eq_getElem?_getD, List.getElem?_append_right (by simp)]; simp
theorem numGo_append : ∀ (l1 l2 : List UInt8) (a : Int), numGo (l1 ++ l2) a = (numGo l1 a).bind (numGo l2)
  | [], l2, a => by simp [numGo]
  | c :: t, l2, a => by
    rw [List.cons_append, numGo, numGo]
    split
    · exact numGo_append t l2 _
    · rfl
theorem numGo_digit (d : Nat) (hd : d < 10) (a : Int) : numGo [UInt8.ofNat (48 + d)] a = some (min (10 * a + d) 2147483647) := by
  have h : (UInt8.ofNat (48 + d)).toNat = 48 + d := by simp; omega
  rw [numGo, if_pos (digB_true (by omega)), numGo, h]
  congr 1; omega
theorem numGo_dec (u : Nat) : numGo (Lib.decDigits u) 0 = some (min (u : Int) 2147483647) := by
  induction u using Nat.strongRecOn with
  | ind u ih =>
    by_cases h : u < 10
    · rw [Lib.decDigits_one h, numGo_digit u h, show 10 * (0 : Int) + (u : Int) = u from by omega]
    · rw [Lib.decDigits, dif_neg h, numGo_append, ih (u / 10) (by omega), Option.bind_some, numGo_digit _ (by omega)]
      congr 1; omega
theorem decDigits_ne (u : Nat) : (Lib.decDigits u).isEmpty = false := by
  by_cases h : u < 10
  · rw [Lib.decDigits_one h]; rfl
  · rw [Lib.decDigits, dif_neg h]; simp
theorem numV_itoa_neg (n : Int) (h : n < 0) : numV (Lib.itoa n) = .tuple #[.int .i64 0, .bool false] := by
  refine numV_none ?_
  unfold Lib.itoa
  rw [if_pos h, numGo, if_neg (by decide)]
theorem numV_itoa (n : Int) (h : ¬ n < 0) : numV (Lib.itoa n) = .tuple #[.int .i64 (min n 2147483647), .bool true] := by
  obtain ⟨u, rfl⟩ : ∃ u : Nat, n = (u : Int) := ⟨n.toNat, by omega⟩
  rw [Lib.itoa_nonneg, numV_some (numGo_dec u), decDigits_ne]; rfl
theorem lowC_low (c : UInt8) : lowC (lowC c) = lowC c := by
  by_cases h : 65 ≤ c.toNat ∧ c.toNat ≤ 90
  · have := lowC_hit h
    exact lowC_miss (by omega)
  · rw [lowC_miss h, lowC_miss h]
theorem lowL_low (l : List UInt8) : lowL (lowL l) = lowL l := by
  unfold lowL; rw [List.map_map]; exact List.map_congr_left fun c _ => lowC_low c
theorem foldB_iff {a b : List UInt8} : foldB a b = true ↔ lowL a = lowL b := by
  unfold foldB
  rw [Bool.and_eq_true, decide_eq_true_eq, beq_iff_eq]
  exact ⟨fun h => h.2, fun h => ⟨by rw [← lowL_length a, h, lowL_length], h⟩⟩
theorem foldB_symm (a b : List UInt8) : foldB a b = foldB b a := by
  rw [Bool.eq_iff_iff, foldB_iff, foldB_iff]; exact ⟨Eq.symm, Eq.symm⟩
theorem foldB_refl (a : List UInt8) : foldB a a = true := foldB_iff.2 rfl
theorem foldB_low (a : List UInt8) : foldB a (lowL a) = true := foldB_iff.2 (lowL_low a).symm
theorem foldB_trans {a b c : List UInt8} (h : foldB a b = true) (k : foldB b c = true) : foldB a c = true := foldB_iff.2 ((foldB_iff.1 h).trans (foldB_iff.1 k))
end Go.Proofs.YtjogahfllmhpcaaDoor
