/- The walks of keep.Fields and keep.Response. -/
import Derived.Test.YtfnmohaddkoalaaDoorQFld
namespace Go.Proofs.YtfnmohaddkoalaaDoor
open Go.RowKit

def fdB (x : Fd) : Bool := decide (x.1.size ≤ 300) && decide (x.2.size ≤ 300)
def fieldsB (xs : List Fd) : Bool := (xs.take 71).all fdB && decide (xs.length ≤ 70)
theorem fieldsB_true {xs : List Fd} (h : fieldsB xs = true) : xs.length ≤ 70 ∧ FldZ xs 300 := by
  unfold fieldsB at h
  rw [Bool.and_eq_true, decide_eq_true_eq] at h
  refine ⟨h.2, fun x hx => ?_⟩
  have := List.all_eq_true.1 h.1 x (by rw [List.take_of_length_le (by omega)]; exact hx)
  unfold fdB at this
  rw [Bool.and_eq_true, decide_eq_true_eq, decide_eq_true_eq] at this
  exact this
theorem fieldsB_no {xs : List Fd} {k : Nat} {x : Fd} (h71 : k < 71) (hx : xs[k]? = some x) (h : fdB x = false) : fieldsB xs = false := by
  unfold fieldsB
  rw [Bool.and_eq_false_iff]
  left
  rw [List.all_eq_false]
  exact ⟨x, List.mem_of_getElem? (i := k) (by rw [List.getElem?_take, if_pos h71, hx]), by rw [h]; simp⟩
theorem fieldsB_end {xs : List Fd} {k : Nat} (h : ∀ (j : Nat) (x : Fd), j < k → xs[j]? = some x → fdB x = true) (hk : xs.length ≤ k ∨ 71 ≤ k) : fieldsB xs = decide (xs.length ≤ 70) := by
  unfold fieldsB
  rw [show (xs.take 71).all fdB = true from List.all_eq_true.2 fun x hx => by
    obtain ⟨j, hj, hx⟩ := List.mem_iff_getElem.1 hx
    rw [List.length_take] at hj
    rw [List.getElem_take] at hx
    exact h j x (by omega) (by rw [List.getElem?_eq_getElem (by omega), hx])]
  rfl
end Go.Proofs.YtfnmohaddkoalaaDoor
