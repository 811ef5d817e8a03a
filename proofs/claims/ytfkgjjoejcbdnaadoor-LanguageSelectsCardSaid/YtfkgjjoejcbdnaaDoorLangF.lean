/- Filtering in plain terms (layer 11). No program in sight. -/
import Derived.Test.YtfkgjjoejcbdnaaDoorLangQ
namespace Go.Proofs.YtfkgjjoejcbdnaaDoor

/-- What stands so far: the indices, and which are used. -/
abbrev FSt := List Nat × List Bool
def filtStep (m : List UInt8 → List UInt8 → Int) (r t : List UInt8) (k : Nat) (st : FSt) : FSt := if st.2[k]? = some false ∧ 0 ≤ m r t then (st.1 ++ [k], st.2.set k true) else st
def filtIn (m : List UInt8 → List UInt8 → Int) (r : List UInt8) : Nat → List (List UInt8) → FSt → FSt
  | _, [], st => st
  | k, t :: ts, st => filtIn m r (k + 1) ts (filtStep m r t k st)
def filtOut (m : List UInt8 → List UInt8 → Int) (tags : List (List UInt8)) : List (List UInt8) → FSt → FSt
  | [], st => st
  | r :: rs, st => filtOut m tags rs (filtIn m r 0 tags st)
def filtL (m : List UInt8 → List UInt8 → Int) (ranges tags : List (List UInt8)) : List Nat := (filtOut m tags ranges ([], List.replicate tags.length false)).1
theorem filtL_same (ranges tags : List (List UInt8)) : filtL matchI ranges tags = filtL rmatchI ranges tags := by
  have : matchI = rmatchI := by funext r t; exact match_same r t
  rw [this]
theorem filtIn_at {m : List UInt8 → List UInt8 → Int} {r : List UInt8} {xs : List ByteArray} {k : Nat} {x : ByteArray} (h : xs[k]? = some x) (st : FSt) :
    filtIn m r k ((xs.map bs).drop k) st = filtIn m r (k + 1) ((xs.map bs).drop (k + 1)) (filtStep m r (bs x) k st) := by
  have hk : k < xs.length := (List.getElem?_eq_some_iff.1 h).1
  have hx : xs[k] = x := (List.getElem?_eq_some_iff.1 h).2
  rw [List.drop_eq_getElem_cons (show k < (xs.map bs).length by simpa using hk), filtIn]
  simp [hx]
theorem filtIn_end {m : List UInt8 → List UInt8 → Int} {r : List UInt8} {xs : List ByteArray} (k : Nat) (h : xs.length ≤ k) (st : FSt) : filtIn m r k ((xs.map bs).drop k) st = st := by
  rw [List.drop_of_length_le (show (xs.map bs).length ≤ k by simpa using h)]; rfl
theorem filtOut_at {m : List UInt8 → List UInt8 → Int} {tags : List (List UInt8)} {xs : List ByteArray} {k : Nat} {x : ByteArray} (h : xs[k]? = some x) (st : FSt) :
    filtOut m tags ((xs.map bs).drop k) st = filtOut m tags ((xs.map bs).drop (k + 1)) (filtIn m (bs x) 0 tags st) := by
  have hk : k < xs.length := (List.getElem?_eq_some_iff.1 h).1
  have hx : xs[k] = x := (List.getElem?_eq_some_iff.1 h).2
  rw [List.drop_eq_getElem_cons (show k < (xs.map bs).length by simpa using hk), filtOut]
  simp [hx]
theorem filtOut_end {m : List UInt8 → List UInt8 → Int} {tags : List (List UInt8)} {xs : List ByteArray} (k : Nat) (h : xs.length ≤ k) (st : FSt) : filtOut m tags ((xs.map bs).drop k) st = st := by
  rw [List.drop_of_length_le (show (xs.map bs).length ≤ k by simpa using h)]; rfl
theorem filtStep_used {m : List UInt8 → List UInt8 → Int} {r t : List UInt8} {k : Nat} {st : FSt} (h : st.2[k]? = some true) : filtStep m r t k st = st := by
  unfold filtStep; rw [h]; simp
theorem filtStep_miss {m : List UInt8 → List UInt8 → Int} {r t : List UInt8} {k : Nat} {st : FSt} (h : ¬ 0 ≤ m r t) : filtStep m r t k st = st := by
  unfold filtStep; rw [if_neg (fun h' => h h'.2)]
theorem filtStep_hit {m : List UInt8 → List UInt8 → Int} {r t : List UInt8} {k : Nat} {st : FSt} (h : st.2[k]? = some false) (h2 : 0 ≤ m r t) : filtStep m r t k st = (st.1 ++ [k], st.2.set k true) := by
  unfold filtStep; rw [if_pos ⟨h, h2⟩]
end Go.Proofs.YtfkgjjoejcbdnaaDoor
