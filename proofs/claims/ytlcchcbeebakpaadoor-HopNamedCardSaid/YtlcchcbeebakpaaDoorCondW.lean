/- The walk of condition.one (layer 31). -/
import Derived.Test.YtlcchcbeebakpaaDoorLowA
import Derived.Test.YtlcchcbeebakpaaDoorStrs
namespace Go.Proofs.YtlcchcbeebakpaaDoor
open Go.RowKit

/-- The name equals one of these. -/
def oneB (n : List UInt8) : List (List UInt8) → Bool
  | [] => false
  | x :: t => foldB n x || oneB n t
theorem oneB_at {n : List UInt8} {xs : List ByteArray} {k : Nat} {x : ByteArray} (h : xs[k]? = some x) : oneB n ((xs.map bs).drop k) = (foldB n (bs x) || oneB n ((xs.map bs).drop (k + 1))) := by
  have hk : k < xs.length := (List.getElem?_eq_some_iff.1 h).1
  have hx : xs[k] = x := (List.getElem?_eq_some_iff.1 h).2
  rw [List.drop_eq_getElem_cons (show k < (xs.map bs).length by simpa using hk), oneB]
  simp [hx]
theorem oneB_end {n : List UInt8} (k : Nat) {xs : List ByteArray} (h : xs.length ≤ k) : oneB n ((xs.map bs).drop k) = false := by
  rw [List.drop_of_length_le (show (xs.map bs).length ≤ k by simpa using h)]; rfl
set_option maxHeartbeats 1600000 in
theorem one_any (s : ByteArray) (oa : Option Addr) (xs : List ByteArray) (cap : Nat) (w : World) (hs : s.size ≤ 100000) (hz : ∀ x ∈ xs, x.size ≤ 100000) (hn : xs.length ≤ 1000000) (hc : StrO w oa xs) :
    Calls Tryd.prog 75 #[.string s, .slice oa xs.length cap] w fun e w' => e = .returned (.bool (oneB (bs s) (xs.map bs))) ∧ Below w.heap.size w w' := by
  have HC := Lib.hid hc
  have HZ := Lib.hid hz
  clear hc hz
  go_enter Tryd.func75, Tryd.ntmps75
  go_wp2_with fail
  go_loopw [9] (fun j wr => ∃ k : Nat, k ≤ xs.length ∧ j = .int .i64 k ∧ Hid (oneB (bs s) (xs.map bs) = oneB (bs s) ((xs.map bs).drop k)) ∧ Below w.heap.size w wr) (fun j _ => xs.length - (intOf j).toNat)
  case atStart => exact ⟨0, by omega, rfl, Lib.hid rfl, Below.refl _ _⟩
  case round =>
    obtain ⟨k, hk, rfl, H, hb⟩ := hrel
    by_cases hlt : k < xs.length
    · obtain ⟨x, hx⟩ : ∃ x, xs[k]? = some x := ⟨_, List.getElem?_eq_getElem hlt⟩
      obtain ⟨ad, rfl, hcx⟩ := (HC.out.down hb) k x hx
      have Hs := Lib.hid (oneB_at (n := bs s) hx)
      have zx := HZ.out x (List.mem_of_getElem? hx)
      clear hx
      go_wp2_with fail
      refine (fold_any s x _ (by omega) (by omega)).mono ?_
      rintro e w2 ⟨rfl, hb2⟩
      have b2 := hb.trans (hb2.mono hb.size)
      clear hb2 hb
      cases hv : foldB (bs s) (bs x) with
      | true =>
        have HV := Lib.hid hv
        clear hv
        go_wp2_with fail
        go_ret
        exact ⟨ret_bool (by rw [H.out, Hs.out, HV.out]; rfl), b2⟩
      | false =>
        have HV := Lib.hid hv
        clear hv
        go_wp2_with fail
        go_roundw
        case rel => exact ⟨k + 1, by omega, by go_num, Lib.hid (by rw [H.out, Hs.out, HV.out]; rfl), b2⟩
        case measure => simp [intOf]; omega
    · have He := Lib.hid (oneB_end (n := bs s) k (xs := xs) (by omega))
      go_wp2_with fail
      go_ret
      exact ⟨ret_bool (by rw [H.out, He.out]), hb⟩
end Go.Proofs.YtlcchcbeebakpaaDoor
