/- The walks of keep.Fields and keep.Response. -/
import Derived.Test.YtglckhljpjcmaaaDoorFld
namespace Go.Proofs.YtglckhljpjcmaaaDoor
open Go.RowKit

def fdB (x : Fd) : Bool := decide (x.1.size ≤ 300) && decide (x.2.size ≤ 300)
def fieldsB (xs : List Fd) : Bool := (xs.take 71).all fdB && decide (xs.length ≤ 70)
theorem fieldsB_true {xs : List Fd} (h : fieldsB xs = true) : xs.length ≤ 70 ∧ FldZ xs 300 := by
  unfold fieldsB at h
  rw [Bool.and_eq_true, decide_eq_true_eq] at h
  refine ⟨h.2, fun x hx => ?_⟩
  have := List.all_eq_true.1 h.1 x (by rw [List.take_of_length_le (by omega)]; exact hx)
  unfold fdB at this
  rw [Bool.and_eq_true, decide_eq_true_eq, decide_eq_true_eq] at this
  exact this
theorem fieldsB_no {xs : List Fd} {k : Nat} {x : Fd} (h71 : k < 71) (hx : xs[k]? = some x) (h : fdB x = false) : fieldsB xs = false := by
  unfold fieldsB
  rw [Bool.and_eq_false_iff]
  left
  rw [List.all_eq_false]
  exact ⟨x, List.mem_of_getElem? (i := k) (by rw [List.getElem?_take, if_pos h71, hx]), by rw [h]; simp⟩
theorem fieldsB_end {xs : List Fd} {k : Nat} (h : ∀ (j : Nat) (x : Fd), j < k → xs[j]? = some x → fdB x = true) (hk : xs.length ≤ k ∨ 71 ≤ k) : fieldsB xs = decide (xs.length ≤ 70) := by
  unfold fieldsB
  rw [show (xs.take 71).all fdB = true from List.all_eq_true.2 fun x hx => by
    obtain ⟨j, hj, hx⟩ := List.mem_iff_getElem.1 hx
    rw [List.length_take] at hj
    rw [List.getElem_take] at hx
    exact h j x (by omega) (by rw [List.getElem?_eq_getElem (by omega), hx])]
  rfl
set_option maxHeartbeats 1600000 in
theorem keepF_any (oa : Option Addr) (xs : List Fd) (cap : Nat) (w : World) (hn : xs.length ≤ 9223372036854775807) (hc : FldO w oa xs) :
    Calls Tryd.prog 21 #[.slice oa xs.length cap] w fun e w' => e = .returned (.bool (fieldsB xs)) ∧ w' = w := by
  have HC := Lib.hid hc
  clear hc
  go_enter Tryd.func21, Tryd.ntmps21
  go_wp2_with fail
  go_loop [3] (fun j => ∃ k : Nat, k ≤ xs.length ∧ k ≤ 71 ∧ j = .int .i64 k ∧ Hid (∀ (i : Nat) (x : Fd), i < k → xs[i]? = some x → fdB x = true)) (fun j => xs.length - (intOf j).toNat)
  case atStart => exact ⟨0, by omega, by omega, rfl, Lib.hid fun i x hi => by omega⟩
  case round =>
    obtain ⟨k, hk, hk2, rfl, H⟩ := hrel
    by_cases hlt : k < xs.length
    · by_cases h71 : k < 71
      · obtain ⟨x, hx⟩ : ∃ x, xs[k]? = some x := ⟨_, List.getElem?_eq_getElem hlt⟩
        obtain ⟨ad, rfl, c0, c1⟩ := HC.out.at hx
        by_cases h1 : x.1.size ≤ 300
        · by_cases h2 : x.2.size ≤ 300
          · have HN : Hid (∀ (i : Nat) (y : Fd), i < k + 1 → xs[i]? = some y → fdB y = true) := Lib.hid fun i y hi hy => by
              by_cases e : i = k
              · subst e
                rw [hx] at hy; cases hy
                unfold fdB; simp [h1, h2]
              · exact H.out i y (by omega) hy
            clear hx
            go_wp2_with fail
            go_round
            case rel => exact ⟨k + 1, by omega, by omega, by go_num, HN⟩
            case measure => simp [intOf]; omega
          · have HF := Lib.hid (fieldsB_no h71 hx (by unfold fdB; simp [h2]))
            clear hx
            go_wp2_with fail
            go_ret
            exact ⟨by rw [HF.out]; rfl, rfl⟩
        · have HF := Lib.hid (fieldsB_no h71 hx (by unfold fdB; simp [h1]))
          clear hx
          go_wp2_with fail
          go_ret
          exact ⟨by rw [HF.out]; rfl, rfl⟩
      · have HF := Lib.hid (fieldsB_end H.out (.inr (by omega)))
        go_wp2_with fail
        go_ret
        exact ⟨by rw [HF.out]; first | rfl | (congr 2; simp; omega), rfl⟩
    · have HF := Lib.hid (fieldsB_end H.out (.inl (by omega)))
      go_wp2_with fail
      go_ret
      exact ⟨by rw [HF.out]; first | rfl | (congr 2; simp; omega), rfl⟩
end Go.Proofs.YtglckhljpjcmaaaDoor
