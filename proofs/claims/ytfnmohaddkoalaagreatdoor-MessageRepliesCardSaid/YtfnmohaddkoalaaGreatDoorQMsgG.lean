/- Messages as they are written, in plain terms: the parts of the writing (layer 6). No program in sight. -/
import Derived.Test.YtfnmohaddkoalaaGreatDoorQMsgF
namespace Go.Proofs.YtfnmohaddkoalaaGreatDoor
set_option linter.unusedSimpArgs false
set_option linter.unusedVariables false

theorem unfr_keep {xs : List Fd} {k : Nat} {x : Fd} (hx : xs[k]? = some x) (h : plainF x = true) : unfrL (xs.take (k + 1)) = unfrL (xs.take k) ++ [x] := ftake_keep hx h
theorem unfr_skip {xs : List Fd} {k : Nat} {x : Fd} (hx : xs[k]? = some x) (h : plainF x = false) : unfrL (xs.take (k + 1)) = unfrL (xs.take k) := ftake_skip hx h
theorem unfr_split (xs : List Fd) (k : Nat) : unfrL xs = unfrL (xs.take k) ++ unfrL (xs.drop k) := by
  unfold unfrL
  rw [← List.filter_append, List.take_append_drop]
theorem unfr_len (xs : List Fd) : (unfrL xs).length ≤ xs.length := List.length_filter_le _ _
theorem fmtF_len (f : Fd) : (fmtF f).length ≤ f.1.size + f.2.size + 2 := by
  have := formL_len (bs f.1) (bs f.2)
  rwa [bs_length, bs_length] at this
section
variable {st b : List UInt8} {fs : List Fd} {n : Int}
theorem msg_none (h : st = [] ∨ 63 < (unfrL fs).length ∨ (unfrL fs).all okF = false) : msgL st fs n b = [] := by unfold msgL; rw [if_pos h]
theorem msg_many (h : 63 < (unfrL fs).length) : msgL st fs n b = [] := msg_none (.inr (.inl h))
theorem msg_bad {f : Fd} (h : f ∈ unfrL fs) (hf : okF f = false) : msgL st fs n b = [] := msg_none (.inr (.inr (by
  cases hq : (unfrL fs).all okF with
  | false => rfl
  | true => rw [List.all_eq_true.1 hq f h] at hf; cases hf)))
theorem msg_some (h1 : st ≠ []) (h2 : (unfrL fs).length ≤ 63) (h3 : ∀ f ∈ unfrL fs, okF f = true) : msgL st fs n b = if 16000 < (linesB (headLs st fs n)).length + 2 then [] else linesB (headLs st fs n) ++ 13 :: 10 :: b := by
  unfold msgL
  rw [if_neg]
  rintro (h | h | h)
  · exact h1 h
  · omega
  · rw [List.all_eq_true.2 h3] at h; cases h
theorem msg_long {pre suf : List Fd} (h : unfrL fs = pre ++ suf) (hl : 16000 < (linesB (st :: pre.map fmtF)).length) : msgL st fs n b = [] := by
  unfold msgL
  split
  · rfl
  · rw [if_pos]
    unfold headLs
    rw [h, List.map_append, List.append_assoc, ← List.cons_append, linesB_app, List.length_append]
    omega
end
theorem linesB_snoc (L : List (List UInt8)) (x : List UInt8) : linesB (L ++ [x]) = linesB L ++ (x ++ [13, 10]) := by rw [linesB_app]; simp [linesB]
theorem lines_keep (st : List UInt8) (us : List Fd) (x : Fd) : linesB (st :: (us ++ [x]).map fmtF) = linesB (st :: us.map fmtF) ++ (fmtF x ++ [13, 10]) := by
  rw [List.map_append, ← List.cons_append]
  exact linesB_snoc _ _
theorem lines_head (st : List UInt8) (fs : List Fd) (n : Int) : linesB (headLs st fs n) = linesB (st :: (unfrL fs).map fmtF) ++ linesB (clLs n) := by
  unfold headLs
  rw [← List.cons_append, linesB_app]
theorem clLs_no {n : Int} (h : n < 0) : linesB (clLs n) = [] := by unfold clLs; rw [if_pos h]; rfl
theorem clLs_yes {n : Int} (h : ¬ n < 0) : linesB (clLs n) = clN ++ 58 :: 32 :: (Lib.itoa n ++ [13, 10]) := by unfold clLs; rw [if_neg h]; simp [linesB, lineS]
end Go.Proofs.YtfnmohaddkoalaaGreatDoor
