/- The walk of the reference's Lookup. -/
import Derived.Test.YtfkgjjoejcbdnaaDoorLangW4
import Derived.Test.YtfkgjjoejcbdnaaDoorLangW5
import Derived.Test.YtfkgjjoejcbdnaaDoorLangS
namespace Go.Proofs.YtfkgjjoejcbdnaaDoor
open Go.RowKit

theorem tags_ne : ∀ {i : Nat} {L : List (List UInt8)}, tagsFrom i L = true → ∀ x ∈ L, x ≠ []
  | _, [], _, x, h => by simp at h
  | i, y :: L, ht, x, h => by
    rw [tagsFrom, Bool.and_eq_true] at ht
    rcases List.mem_cons.1 h with rfl | h
    · intro e; subst e
      have := ht.1
      simp [subB] at this
    · exact tags_ne ht.2 x h
theorem SBuf.cap {w : World} {B g n cap : Nat} {xs : List ByteArray} (h : SBuf w B (.slice (some ⟨g, 0, none⟩) n cap) xs) : n ≤ cap := by
  rcases h.2 with ⟨h0, _⟩ | ⟨g', cap', cur, h1, _, _, h4, _⟩
  · cases h0
  · cases h1; exact h4
theorem join_first {xs : List ByteArray} {x : ByteArray} (h : xs[0]? = some x) : joinD ((xs.take 1).map bs) = bs x := by
  cases xs with
  | nil => simp at h
  | cons y r => simp at h; subst h; rfl
theorem join_next {xs : List ByteArray} {i : Nat} {x : ByteArray} (h : xs[i]? = some x) (hi : 1 ≤ i) : joinD ((xs.take (i + 1)).map bs) = joinD ((xs.take i).map bs) ++ 45 :: bs x := by
  have hk : i < xs.length := (List.getElem?_eq_some_iff.1 h).1
  have hx : xs[i] = x := (List.getElem?_eq_some_iff.1 h).2
  rw [List.take_succ_eq_append_getElem hk, List.map_append, hx]
  refine joinD_snoc _ _ ?_
  intro e
  have := congrArg List.length e
  rw [List.length_map, List.length_take] at this
  simp only [List.length_nil] at this; omega
/-- What the outer loop keeps: the first n pieces stand. -/
structure LookAt (r : List UInt8) (T : List (List UInt8)) (ps : List ByteArray) (n fuel : Nat) : Prop where
  eq : lookI r T = lookF fuel (joinD ((ps.take n).map bs)) T
  fuel : (joinD ((ps.take n).map bs)).length ≤ fuel
  pieces : Pieces ((ps.take n).map bs)
theorem joinD_ne {L : List (List UInt8)} (h : Pieces L) (hL : L ≠ []) : joinD L ≠ [] := by
  cases L with
  | nil => exact absurd rfl hL
  | cons x r =>
    have hx := (h x (List.mem_cons_self ..)).2
    cases r with
    | nil => exact hx
    | cons y r => rw [joinD]; intro e; exact hx (List.append_eq_nil_iff.1 e).1
theorem look_start {r : List UInt8} {T : List (List UInt8)} {ps : List ByteArray} (h : ps.map bs = splitC 45 r) (ht : tagB r = true) : LookAt r T ps ps.length r.length := by
  have e : (ps.take ps.length).map bs = splitC 45 r := by rw [List.take_length, h]
  refine ⟨?_, ?_, ?_⟩
  · rw [e, joinD_split]; unfold lookI; rw [if_pos ht]
  · rw [e, joinD_split]; exact Nat.le_refl _
  · rw [e]; exact fun x hx => ⟨splitC_mem hx, tags_ne ht x hx⟩
theorem look_miss {r : List UInt8} {T : List (List UInt8)} {ps : List ByteArray} {n fuel : Nat} (h : LookAt r T ps (n + 1) fuel) (hn : n + 1 ≤ ps.length) (hf : ¬ 0 ≤ findF (joinD ((ps.take (n + 1)).map bs)) 0 T) :
    ∃ n' fuel', LookAt r T ps n' fuel' ∧ (n' = if (ps[n - 1]?.map (·.size) = some 1 ∧ 0 < n) then n - 1 else n) := by
  have hne : (ps.take (n + 1)).map bs ≠ [] := by
    intro e; have := congrArg List.length e; rw [List.length_map, List.length_take] at this; simp only [List.length_nil] at this; omega
  obtain ⟨fuel', hfu, hle, hst⟩ := lookF_step (tags := T) (joinD_ne h.pieces hne) h.fuel
  obtain ⟨h1, h2⟩ := shortB_join h.pieces hne
  have e1 : ((ps.take (n + 1)).map bs).dropLast = (ps.take n).map bs := by
    rw [List.dropLast_eq_take, ← List.map_take, List.take_take, List.length_map, List.length_take]
    congr 2; omega
  have e2 : dropS ((ps.take (n + 1)).map bs) = (ps.take (if (ps[n - 1]?.map (·.size) = some 1 ∧ 0 < n) then n - 1 else n)).map bs := by
    unfold dropS
    rw [e1]
    have e3 : (((ps.take n).map bs).getLast?).map (·.length) = if 0 < n then ps[n - 1]?.map (·.size) else none := by
      by_cases h0 : 0 < n
      · rw [if_pos h0, List.getLast?_eq_getElem?, List.length_map, List.length_take, List.getElem?_map, List.getElem?_take]
        have : min n ps.length - 1 = n - 1 := by omega
        rw [this, if_pos (by omega), Option.map_map]
        congr 1
      · have : n = 0 := by omega
        subst this; rfl
    rw [e3]
    by_cases h0 : 0 < n
    · rw [if_pos h0]
      by_cases hs : ps[n - 1]?.map (·.size) = some 1
      · rw [if_pos hs, if_pos ⟨hs, h0⟩, List.dropLast_eq_take, ← List.map_take, List.take_take, List.length_map, List.length_take]
        congr 2; omega
      · rw [if_neg hs, if_neg (fun h' => hs h'.1)]
    · rw [if_neg h0, if_neg (by simp), if_neg (fun h' => h0 h'.2)]
  refine ⟨_, fuel', ⟨?_, ?_, ?_⟩, rfl⟩
  · rw [h.eq, hst, if_neg hf, h1, e2]
  · rw [← e2, ← h1]; exact hle
  · rw [← e2]; exact h2
end Go.Proofs.YtfkgjjoejcbdnaaDoor
