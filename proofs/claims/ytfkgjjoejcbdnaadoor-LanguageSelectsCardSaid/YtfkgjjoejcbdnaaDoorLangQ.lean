/- Matching and truncation of language tags in plain terms (layer 11). No program in sight. -/
import Derived.Test.YtfkgjjoejcbdnaaDoorLangP
import Derived.Lib.LastIndexByte
import Derived.Lib.Strings
namespace Go.Proofs.YtfkgjjoejcbdnaaDoor

/-- What the program answers for a range and a tag. -/
def matchI (r t : List UInt8) : Int :=
  if rangeB r && tagB t then
    if r = [42] then 0 else if Lib.hasPrefix (lowL t ++ [45]) (lowL r ++ [45]) then (splitC 45 r).length else -1
  else -1
/-- Each subtag of the one equals its fellow of the other. -/
def foldPre : List (List UInt8) → List (List UInt8) → Bool
  | [], _ => true
  | _ :: _, [] => false
  | x :: r, y :: t => foldB x y && foldPre r t
def rmatchI (r t : List UInt8) : Int :=
  if rangeB r && tagB t then
    if r = [42] then 0 else if foldPre (splitC 45 r) (splitC 45 t) then (splitC 45 r).length else -1
  else -1
theorem foldB_low_eq (x y : List UInt8) : foldB x y = (lowL x == lowL y) := by
  unfold foldB
  by_cases h : lowL x = lowL y
  · have : x.length = y.length := by rw [← lowL_length x, h, lowL_length]
    simp [h, this]
  · rw [beq_eq_false_iff_ne.2 h, Bool.and_false]
theorem foldPre_low : ∀ a b : List (List UInt8), foldPre a b = (a.map lowL).isPrefixOf (b.map lowL)
  | [], _ => by simp [foldPre]
  | _ :: _, [] => by simp [foldPre]
  | x :: r, y :: t => by
    rw [foldPre, foldPre_low r t, foldB_low_eq]; rfl
theorem lowC_dash (c : UInt8) : lowC c = 45 ↔ c = 45 := by
  by_cases h : 65 ≤ c.toNat ∧ c.toNat ≤ 90
  · have h2 := lowC_hit h
    constructor
    · intro e; rw [e] at h2; have : (45 : UInt8).toNat = 45 := rfl; omega
    · intro e; rw [e] at h; have : (45 : UInt8).toNat = 45 := rfl; omega
  · rw [lowC_miss h]
theorem splitC_low : ∀ l : List UInt8, (splitC 45 l).map lowL = splitC 45 (lowL l)
  | [] => rfl
  | b :: t => by
    have ih := splitC_low t
    have e : lowL (b :: t) = lowC b :: lowL t := rfl
    rw [e]
    by_cases hb : b = 45
    · subst hb
      rw [splitC, if_pos rfl, splitC, if_pos (by decide), List.map_cons, ih]; rfl
    · have hb' : lowC b ≠ 45 := fun h => hb ((lowC_dash b).1 h)
      cases hs : splitC 45 t with
      | nil => exact absurd hs (splitC_ne 45 t)
      | cons x r =>
        rw [hs] at ih
        rw [splitC_other hb hs, splitC_other hb' ih.symm]; rfl
theorem pre_cons {α : Type} [BEq α] (a b : α) (as bs' : List α) : List.isPrefixOf (a :: as) (b :: bs') = (a == b && List.isPrefixOf as bs') := rfl
theorem pre_nil {α : Type} [BEq α] (bs' : List α) : List.isPrefixOf [] bs' = true := by cases bs' <;> rfl
theorem pre_cons_nil {α : Type} [BEq α] (a : α) (as : List α) : List.isPrefixOf (a :: as) [] = false := rfl
theorem beq_cons' (a b : UInt8) (as bs' : List UInt8) : (a :: as == b :: bs') = (a == b && as == bs') := rfl
theorem beq_nil_cons (b : UInt8) (bs' : List UInt8) : (([] : List UInt8) == b :: bs') = false := rfl
theorem beq_cons_nil (b : UInt8) (bs' : List UInt8) : (b :: bs' == ([] : List UInt8)) = false := rfl
theorem beq_nil_nil : (([] : List UInt8) == []) = true := rfl
theorem pre_end (c : UInt8) (l : List UInt8) : List.isPrefixOf (l ++ [c]) [] = false := by cases l <;> rfl
theorem splitC_prefix (c : UInt8) : ∀ l m : List UInt8, (splitC c l).isPrefixOf (splitC c m) = (l ++ [c]).isPrefixOf (m ++ [c])
  | [], [] => by
    rw [splitC, List.nil_append, pre_cons, pre_cons, pre_nil, pre_nil, beq_nil_nil]; simp
  | [], y :: m => by
    rw [List.nil_append, List.cons_append, pre_cons c y, pre_nil]
    by_cases hy : y = c
    · subst hy
      rw [splitC, splitC, if_pos rfl, pre_cons, pre_nil, beq_nil_nil]; simp
    · cases hs : splitC c m with
      | nil => exact absurd hs (splitC_ne c m)
      | cons x r =>
        rw [splitC_other hy hs, splitC, pre_cons, beq_nil_cons]
        have : (c == y) = false := beq_eq_false_iff_ne.2 (fun e => hy e.symm)
        rw [this]; rfl
  | x :: l, [] => by
    rw [List.nil_append, List.cons_append, pre_cons x c, pre_end]
    by_cases hx : x = c
    · subst hx
      have e : splitC x (x :: l) = [] :: splitC x l := by rw [splitC, if_pos rfl]
      rw [e, splitC, pre_cons]
      cases hs : splitC x l with
      | nil => exact absurd hs (splitC_ne x l)
      | cons p q => rw [pre_cons_nil]; simp
    · cases hs : splitC c l with
      | nil => exact absurd hs (splitC_ne c l)
      | cons p q =>
        rw [splitC_other hx hs, splitC, pre_cons, beq_cons_nil]; simp
  | x :: l, y :: m => by
    have ih := splitC_prefix c l m
    rw [List.cons_append, List.cons_append, pre_cons x y, ← ih]
    cases hl : splitC c l with
    | nil => exact absurd hl (splitC_ne c l)
    | cons p q =>
      cases hm : splitC c m with
      | nil => exact absurd hm (splitC_ne c m)
      | cons p' q' =>
        by_cases hx : x = c
        · by_cases hy : y = c
          · subst hx; subst hy
            have e1 : splitC y (y :: l) = [] :: p :: q := by rw [splitC, if_pos rfl, hl]
            have e2 : splitC y (y :: m) = [] :: p' :: q' := by rw [splitC, if_pos rfl, hm]
            rw [e1, e2, pre_cons [] [], beq_nil_nil]; simp
          · subst hx
            have e1 : splitC x (x :: l) = [] :: p :: q := by rw [splitC, if_pos rfl, hl]
            have : (x == y) = false := beq_eq_false_iff_ne.2 (fun e => hy e.symm)
            rw [e1, splitC_other hy hm, this, pre_cons [], beq_nil_cons]; rfl
        · by_cases hy : y = c
          · subst hy
            have e2 : splitC y (y :: m) = [] :: p' :: q' := by rw [splitC, if_pos rfl, hm]
            have : (x == y) = false := beq_eq_false_iff_ne.2 hx
            rw [splitC_other hx hl, e2, this, pre_cons (x :: p), beq_cons_nil]; rfl
          · rw [splitC_other hx hl, splitC_other hy hm, pre_cons (x :: p), pre_cons p, beq_cons', Bool.and_assoc]
/-- The program's answer is the reference's. -/
theorem match_same (r t : List UInt8) : matchI r t = rmatchI r t := by
  unfold matchI rmatchI
  have : foldPre (splitC 45 r) (splitC 45 t) = Lib.hasPrefix (lowL t ++ [45]) (lowL r ++ [45]) := by
    rw [foldPre_low, splitC_low, splitC_low, splitC_prefix]; rfl
  rw [this]
/-- The last dash, or -1. -/
def lastDash (l : List UInt8) : Int := Lib.lastIndexByte ⟨l.toArray⟩ 45
def cutLast (l : List UInt8) : List UInt8 := l.take (max (lastDash l) 0).toNat
def shortB (l : List UInt8) : List UInt8 := if ((cutLast l).length : Int) - lastDash (cutLast l) = 2 then cutLast (cutLast l) else cutLast l
theorem lastDash_bd (l : List UInt8) : -1 ≤ lastDash l ∧ lastDash l < l.length ∨ lastDash l = -1 := by
  unfold lastDash
  rcases Lib.lastIndexByte_spec ⟨l.toArray⟩ 45 with ⟨h, _⟩ | ⟨i, hi, h, _⟩
  · exact .inr h
  · left
    have : (⟨l.toArray⟩ : ByteArray).size = l.length := rfl
    omega
theorem cutLast_len (l : List UInt8) : (cutLast l).length ≤ l.length := by unfold cutLast; rw [List.length_take]; omega
theorem cutLast_lt {l : List UInt8} (h : l ≠ []) : (cutLast l).length < l.length := by
  have hp : 0 < l.length := List.length_pos_iff.2 h
  have hb := lastDash_bd l
  unfold cutLast
  rw [List.length_take]
  omega
theorem shortB_lt {l : List UInt8} (h : l ≠ []) : (shortB l).length < l.length := by
  have h1 := cutLast_lt h
  have h2 := cutLast_len (cutLast l)
  unfold shortB
  split <;> omega
/-- The first tag that equals a text, or -1. -/
def findF (r : List UInt8) : Nat → List (List UInt8) → Int
  | _, [] => -1
  | k, t :: ts => if foldB r t then k else findF r (k + 1) ts
def lookF : Nat → List UInt8 → List (List UInt8) → Int
  | 0, _, _ => -1
  | n + 1, p, tags => if p = [] then -1 else if 0 ≤ findF p 0 tags then findF p 0 tags else lookF n (shortB p) tags
def lookI (r : List UInt8) (tags : List (List UInt8)) : Int := if tagB r then lookF r.length r tags else -1
theorem lookF_nil (n : Nat) (tags : List (List UInt8)) : lookF n [] tags = -1 := by cases n <;> simp [lookF]
theorem lookF_step {n : Nat} {p : List UInt8} {tags : List (List UInt8)} (h : p ≠ []) (hn : p.length ≤ n) :
    ∃ n', n = n' + 1 ∧ (shortB p).length ≤ n' ∧ lookF n p tags = if 0 ≤ findF p 0 tags then findF p 0 tags else lookF n' (shortB p) tags := by
  have hp : 0 < p.length := List.length_pos_iff.2 h
  obtain ⟨n', rfl⟩ : ∃ n', n = n' + 1 := ⟨n - 1, by omega⟩
  have := shortB_lt h
  exact ⟨n', rfl, by omega, by rw [lookF, if_neg h]⟩
theorem findF_bd (r : List UInt8) : ∀ (k : Nat) (tags : List (List UInt8)), findF r k tags = -1 ∨ (k : Int) ≤ findF r k tags ∧ findF r k tags < k + tags.length
  | _, [] => .inl rfl
  | k, t :: ts => by
    rw [findF]
    split
    · right; simp; omega
    · rcases findF_bd r (k + 1) ts with h | h
      · exact .inl h
      · right; simp; omega
end Go.Proofs.YtfkgjjoejcbdnaaDoor
