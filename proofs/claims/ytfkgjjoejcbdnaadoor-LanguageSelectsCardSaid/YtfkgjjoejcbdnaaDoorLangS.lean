/- Truncation by pieces and truncation of the text agree (layer 11). No program in sight. -/
import Derived.Test.YtfkgjjoejcbdnaaDoorLangT
namespace Go.Proofs.YtfkgjjoejcbdnaaDoor

/-- Pieces joined by dashes. -/
def joinD : List (List UInt8) → List UInt8
  | [] => []
  | [x] => x
  | x :: y :: r => x ++ 45 :: joinD (y :: r)
theorem joinD_split : ∀ l : List UInt8, joinD (splitC 45 l) = l
  | [] => rfl
  | b :: t => by
    have ih := joinD_split t
    cases hs : splitC 45 t with
    | nil => exact absurd hs (splitC_ne 45 t)
    | cons x r =>
      rw [hs] at ih
      by_cases hb : b = 45
      · subst hb
        rw [splitC, if_pos rfl, hs, joinD, ih]; rfl
      · rw [splitC_other hb hs]
        cases r with
        | nil => rw [joinD] at ih ⊢; rw [ih]
        | cons y r => rw [joinD] at ih ⊢; rw [← ih]; rfl
theorem joinD_snoc : ∀ (a : List (List UInt8)) (x : List UInt8), a ≠ [] → joinD (a ++ [x]) = joinD a ++ 45 :: x
  | [], _, h => absurd rfl h
  | [y], x, _ => rfl
  | y :: z :: r, x, _ => by
    have ih := joinD_snoc (z :: r) x (by simp)
    have ih' : joinD (z :: (r ++ [x])) = joinD (z :: r) ++ 45 :: x := ih
    show joinD (y :: z :: (r ++ [x])) = joinD (y :: z :: r) ++ 45 :: x
    rw [joinD, joinD, ih']
    simp
theorem lastDash_hit {a x : List UInt8} (h : 45 ∉ x) : lastDash (a ++ 45 :: x) = a.length := by
  unfold lastDash
  have hsz : (⟨(a ++ 45 :: x).toArray⟩ : ByteArray).size = (a ++ 45 :: x).length := rfl
  have hget : ∀ j (hj : j < (a ++ 45 :: x).length), (⟨(a ++ 45 :: x).toArray⟩ : ByteArray).data[j]! = (a ++ 45 :: x)[j] := fun j hj => by
    rw [getElem!_pos _ j (by simpa using hj)]; simp
  have hla : a.length < (a ++ 45 :: x).length := by simp
  rcases Lib.lastIndexByte_spec ⟨(a ++ 45 :: x).toArray⟩ 45 with ⟨h1, h2⟩ | ⟨i, hi, h1, h2, h3⟩
  · exfalso
    have := h2 a.length (by rw [hsz]; exact hla)
    rw [hget _ hla] at this
    apply this; simp
  · rw [h1]
    rw [hsz] at hi
    rw [hget _ hi] at h2
    rcases Nat.lt_trichotomy i a.length with hlt | heq | hgt
    · exfalso
      have := h3 a.length hlt (by rw [hsz]; exact hla)
      rw [hget _ hla] at this
      apply this; simp
    · rw [heq]
    · exfalso
      apply h
      obtain ⟨d, rfl⟩ : ∃ d, i = a.length + 1 + d := ⟨i - (a.length + 1), by omega⟩
      have hd : d < x.length := by simp at hi; omega
      have e : (a ++ 45 :: x)[a.length + 1 + d] = x[d] := by
        rw [List.getElem_append_right (by omega)]
        simp [show a.length + 1 + d - a.length = d + 1 from by omega]
      rw [e] at h2
      have e3 : x[d] = 45 := UInt8.toNat_inj.1 (by have : (45 : UInt8).toNat = 45 := rfl; omega)
      rw [← e3]; exact List.getElem_mem hd
theorem lastDash_miss {x : List UInt8} (h : 45 ∉ x) : lastDash x = -1 := by
  unfold lastDash
  rcases Lib.lastIndexByte_spec ⟨x.toArray⟩ 45 with ⟨h1, _⟩ | ⟨i, hi, _, h2, _⟩
  · exact h1
  · exfalso; apply h
    have hi' : i < x.length := hi
    rw [getElem!_pos _ i (by simpa using hi')] at h2
    have e3 : x[i] = 45 := UInt8.toNat_inj.1 (by have : (45 : UInt8).toNat = 45 := rfl; simp at h2; omega)
    rw [← e3]; exact List.getElem_mem hi'
/-- Pieces of a tag: none holds a dash, none is empty. -/
def Pieces (L : List (List UInt8)) : Prop := ∀ x ∈ L, 45 ∉ x ∧ x ≠ []
theorem cutLast_one {x : List UInt8} (h : 45 ∉ x) : cutLast x = [] := by
  unfold cutLast; rw [lastDash_miss h]; rfl
theorem cutLast_join {M : List (List UInt8)} {x : List UInt8} (hM : M ≠ []) (hx : 45 ∉ x) : cutLast (joinD (M ++ [x])) = joinD M := by
  rw [joinD_snoc M x hM]
  unfold cutLast
  rw [lastDash_hit hx]
  have : (max ((joinD M).length : Int) 0).toNat = (joinD M).length := by omega
  rw [this]; simp
/-- The pieces without the last, and without a last of one byte then. -/
def dropS (L : List (List UInt8)) : List (List UInt8) := if (L.dropLast.getLast?).map (·.length) = some 1 then L.dropLast.dropLast else L.dropLast
theorem pieces_drop {L : List (List UInt8)} (h : Pieces L) : Pieces L.dropLast := fun x hx => h x ((List.dropLast_sublist L).subset hx)
theorem shortB_join {L : List (List UInt8)} (h : Pieces L) (hL : L ≠ []) : shortB (joinD L) = joinD (dropS L) ∧ Pieces (dropS L) := by
  have hd : Pieces (dropS L) := by
    unfold dropS; split
    · exact pieces_drop (pieces_drop h)
    · exact pieces_drop h
  refine ⟨?_, hd⟩
  have e : L = L.dropLast ++ [L.getLast hL] := (List.dropLast_concat_getLast hL).symm
  have hx := (h _ (List.getLast_mem hL)).1
  generalize L.getLast hL = x at e hx
  have hp := pieces_drop h
  unfold dropS
  generalize L.dropLast = M at e hp
  subst e
  unfold shortB
  by_cases hM : M = []
  · subst hM
    have e0 : joinD ([] ++ [x]) = x := rfl
    rw [e0, cutLast_one hx]
    have : lastDash ([] : List UInt8) = -1 := lastDash_miss (by simp)
    rw [this]; rfl
  · rw [cutLast_join hM hx]
    have e : M = M.dropLast ++ [M.getLast hM] := (List.dropLast_concat_getLast hM).symm
    have hy := (hp _ (List.getLast_mem hM)).1
    have hgl : M.getLast? = some (M.getLast hM) := List.getLast?_eq_some_getLast hM
    rw [hgl]
    generalize M.getLast hM = y at e hy
    generalize M.dropLast = K at e
    subst e
    by_cases hK : K = []
    · subst hK
      have e0 : joinD ([] ++ [y]) = y := rfl
      rw [e0, cutLast_one hy, lastDash_miss hy]
      by_cases hl : y.length = 1
      · rw [if_pos (by rw [hl]; rfl), if_pos (by simp [hl])]; rfl
      · rw [if_neg (by omega), if_neg (by simp [hl])]; rfl
    · rw [cutLast_join hK hy, joinD_snoc K y hK, lastDash_hit hy]
      by_cases hl : y.length = 1
      · rw [if_pos (by simp; omega), if_pos (by simp [hl])]
      · rw [if_neg (by simp; omega), if_neg (by simp [hl]), joinD_snoc K y hK]
end Go.Proofs.YtfkgjjoejcbdnaaDoor
