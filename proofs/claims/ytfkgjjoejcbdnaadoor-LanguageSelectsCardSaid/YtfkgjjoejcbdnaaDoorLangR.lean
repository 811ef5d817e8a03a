/- Case does not matter to matching and truncation (layer 11). No program in sight. -/
import Derived.Test.YtfkgjjoejcbdnaaDoorLangQ
namespace Go.Proofs.YtfkgjjoejcbdnaaDoor

theorem lowC_twice (c : UInt8) : lowC (lowC c) = lowC c := by
  by_cases h : 65 ≤ c.toNat ∧ c.toNat ≤ 90
  · have h2 := lowC_hit h
    exact lowC_miss (by omega)
  · rw [lowC_miss h, lowC_miss h]
theorem lowL_twice (l : List UInt8) : lowL (lowL l) = lowL l := by
  unfold lowL; rw [List.map_map]; congr 1; funext c; exact lowC_twice c
theorem subC_low (d : Bool) (c : UInt8) : subC d (lowC c) = subC d c := by
  have h1 : alC (lowC c) = alC c := by
    rw [Bool.eq_iff_iff, lowC_al, lowC_al, lowC_twice]
  have h2 : digB (lowC c) = digB c := by
    rw [Bool.eq_iff_iff, lowC_dig, lowC_dig, lowC_twice]
  unfold subC; rw [h1, h2]
theorem subB_low (d : Bool) (x : List UInt8) : subB d (lowL x) = subB d x := by
  have h1 : (lowL x).all (subC d) = x.all (subC d) := by
    unfold lowL; rw [List.all_map]; congr 1; funext c; exact subC_low d c
  have h2 : (lowL x).isEmpty = x.isEmpty := by cases x <;> rfl
  unfold subB; rw [h1, h2, lowL_length]
theorem tagsFrom_low : ∀ (i : Nat) (l : List (List UInt8)), tagsFrom i (l.map lowL) = tagsFrom i l
  | _, [] => rfl
  | i, x :: r => by rw [List.map_cons, tagsFrom, tagsFrom, subB_low, tagsFrom_low (i + 1) r]
theorem tagB_low (l : List UInt8) : tagB (lowL l) = tagB l := by
  unfold tagB; rw [← splitC_low, tagsFrom_low]
theorem lowC_star (c : UInt8) : lowC c = 42 ↔ c = 42 := by
  by_cases h : 65 ≤ c.toNat ∧ c.toNat ≤ 90
  · have h2 := lowC_hit h
    have e : (42 : UInt8).toNat = 42 := rfl
    constructor
    · intro e'; rw [e'] at h2; omega
    · intro e'; rw [e'] at h; omega
  · rw [lowC_miss h]
theorem lowL_star (l : List UInt8) : lowL l = [42] ↔ l = [42] := by
  rcases l with _ | ⟨a, _ | ⟨b, t⟩⟩
  · simp [lowL]
  · simp [lowL, lowC_star]
  · simp [lowL]
theorem rangeB_low (l : List UInt8) : rangeB (lowL l) = rangeB l := by
  unfold rangeB
  rw [tagB_low]
  congr 1
  rw [Bool.eq_iff_iff, beq_iff_eq, beq_iff_eq, lowL_star]
theorem matchI_low (r t : List UInt8) : matchI (lowL r) (lowL t) = matchI r t := by
  unfold matchI
  rw [rangeB_low, tagB_low, lowL_twice, lowL_twice, ← splitC_low, List.length_map]
  by_cases h : r = [42]
  · rw [if_pos h, if_pos ((lowL_star r).2 h)]
  · rw [if_neg h, if_neg (fun h' => h ((lowL_star r).1 h'))]
theorem lastIdx_low (l : List UInt8) : ∀ k : Nat, k ≤ l.length → Lib.lastIdx ⟨(lowL l).toArray⟩ 45 k = Lib.lastIdx ⟨l.toArray⟩ 45 k
  | 0, _ => rfl
  | k + 1, hk => by
    have ih := lastIdx_low l k (by omega)
    have hk' : k < l.length := by omega
    have e1 : (⟨(lowL l).toArray⟩ : ByteArray).data[k]! = lowC l[k] := by
      simp only [lowL]
      rw [getElem!_pos _ k (by simpa using hk')]
      simp
    have e2 : (⟨l.toArray⟩ : ByteArray).data[k]! = l[k] := by
      rw [getElem!_pos _ k (by simpa using hk')]
      simp
    have hi : ((lowC l[k]).toNat : Int) = 45 ↔ ((l[k]).toNat : Int) = 45 := by
      have a := lowC_dash l[k]
      have b : ∀ c : UInt8, ((c.toNat : Int) = 45) ↔ c = 45 := fun c => ⟨fun h => UInt8.toNat_inj.1 (by have : (45 : UInt8).toNat = 45 := rfl; omega), fun h => by rw [h]; rfl⟩
      rw [b, b]; exact a
    by_cases h : ((l[k]).toNat : Int) = 45
    · rw [Lib.lastIdx_hit _ _ _ (by rw [e1]; exact hi.2 h), Lib.lastIdx_hit _ _ _ (by rw [e2]; exact h)]
    · rw [Lib.lastIdx_miss _ _ _ (by rw [e1]; exact fun h' => h (hi.1 h')), Lib.lastIdx_miss _ _ _ (by rw [e2]; exact h), ih]
theorem lastDash_low (l : List UInt8) : lastDash (lowL l) = lastDash l := by
  unfold lastDash Lib.lastIndexByte
  have : (⟨(lowL l).toArray⟩ : ByteArray).size = (⟨l.toArray⟩ : ByteArray).size := by
    show (lowL l).length = l.length
    exact lowL_length l
  rw [this]
  exact lastIdx_low l _ (Nat.le_refl _)
theorem cutLast_low (l : List UInt8) : cutLast (lowL l) = lowL (cutLast l) := by
  unfold cutLast; rw [lastDash_low]; unfold lowL; rw [List.map_take]
theorem shortB_low (l : List UInt8) : shortB (lowL l) = lowL (shortB l) := by
  unfold shortB
  rw [cutLast_low, lowL_length, lastDash_low]
  split
  · rw [cutLast_low]
  · rfl
theorem foldB_lows (x y : List UInt8) : foldB (lowL x) (lowL y) = foldB x y := by rw [foldB_low_eq, foldB_low_eq, lowL_twice, lowL_twice]
theorem findF_low (r : List UInt8) : ∀ (k : Nat) (l : List (List UInt8)), findF (lowL r) k (l.map lowL) = findF r k l
  | _, [] => rfl
  | k, x :: t => by rw [List.map_cons, findF, findF, foldB_lows, findF_low r (k + 1) t]
theorem lookF_low : ∀ (n : Nat) (p : List UInt8) (l : List (List UInt8)), lookF n (lowL p) (l.map lowL) = lookF n p l
  | 0, _, _ => rfl
  | n + 1, p, l => by
    rw [lookF, lookF, findF_low, shortB_low, lookF_low n (shortB p) l]
    by_cases h : p = []
    · subst h; rfl
    · rw [if_neg h, if_neg (by intro h'; apply h; cases p with | nil => rfl | cons => simp [lowL] at h')]
theorem lookI_low (r : List UInt8) (l : List (List UInt8)) : lookI (lowL r) (l.map lowL) = lookI r l := by
  unfold lookI; rw [tagB_low, lowL_length, lookF_low]
end Go.Proofs.YtfkgjjoejcbdnaaDoor
