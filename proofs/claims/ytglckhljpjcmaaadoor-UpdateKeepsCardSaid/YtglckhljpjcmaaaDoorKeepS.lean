/- The walk of variantproxykeep.Strings. -/
import Derived.Test.YtglckhljpjcmaaaDoorStrs
import Derived.WalkKit
import Derived.WalkSpells
import Derived.WalkLawsBesides
namespace Go.Proofs.YtglckhljpjcmaaaDoor
open Go.RowKit

/-- It answers; and true says that the list is short. -/
def KeepOf (xs : List ByteArray) (w : World) (e : Ending) (w' : World) : Prop := ∃ b : Bool, e = .returned (.bool b) ∧ w = w' ∧ (b = true → xs.length ≤ 20 ∧ ∀ x ∈ xs, x.size ≤ 100)
theorem keepstr_any (oa : Option Addr) (xs : List ByteArray) (cap : Nat) (w : World) (hc : StrO w oa xs) (hz : ∀ x ∈ xs, x.size ≤ 9223372036854775807) (hn : xs.length ≤ 9223372036854775807) :
    Calls Tryd.prog 20 #[.slice oa xs.length cap] w (KeepOf xs w) := by
  have HC := Lib.hid hc
  have HZ := Lib.hid hz
  clear hc hz
  go_enter Tryd.func20, Tryd.ntmps20
  go_wp2_with fail
  go_loop [3] (fun j => ∃ k : Nat, k ≤ xs.length ∧ k ≤ 21 ∧ j = .int .i64 k ∧ Hid (∀ (i : Nat) (x : ByteArray), i < k → xs[i]? = some x → x.size ≤ 100)) (fun j => xs.length - (intOf j).toNat)
  case atStart => exact ⟨0, by omega, by omega, rfl, Lib.hid (fun i x h => by omega)⟩
  case round =>
    obtain ⟨k, hk, hk2, rfl, H⟩ := hrel
    by_cases hlt : k < xs.length
    · by_cases h21 : k < 21
      · obtain ⟨x, hx⟩ : ∃ x, xs[k]? = some x := ⟨_, List.getElem?_eq_getElem hlt⟩
        obtain ⟨ad, rfl, hcx⟩ := HC.out k x hx
        have zx := HZ.out x (List.mem_of_getElem? hx)
        have HX := Lib.hid hx
        clear hx
        by_cases hb : 100 < (x.size : Int)
        · go_wp2_with fail
          go_ret
          exact ⟨false, rfl, rfl, fun h => by cases h⟩
        · go_wp2_with fail
          go_round
          case rel =>
            refine ⟨k + 1, by omega, by omega, by go_num, Lib.hid (fun i y hi hy => ?_)⟩
            by_cases he : i = k
            · subst he
              have := HX.out
              rw [this] at hy; cases hy; omega
            · exact H.out i y (by omega) hy
          case measure => simp [intOf]; omega
      · have hl : ¬ (xs.length : Int) ≤ 20 := by omega
        go_wp2_with fail
        go_ret
        exact ⟨false, rfl, rfl, fun h => by cases h⟩
    · by_cases hl : (xs.length : Int) ≤ 20
      · go_wp2_with fail
        go_ret
        refine ⟨true, rfl, rfl, fun _ => ⟨by omega, fun x hx => ?_⟩⟩
        obtain ⟨i, hi⟩ := List.getElem?_of_mem hx
        exact H.out i x (by have := (List.getElem?_eq_some_iff.1 hi).1; omega) hi
      · go_wp2_with fail
        go_ret
        exact ⟨false, rfl, rfl, fun h => by cases h⟩
end Go.Proofs.YtglckhljpjcmaaaDoor
