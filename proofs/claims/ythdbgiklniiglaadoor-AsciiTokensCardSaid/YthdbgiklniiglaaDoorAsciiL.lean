/- The walks of the statements on layer 1 and of their sanity check: each returns true. -/
import Derived.Test.YthdbgiklniiglaaDoorAsciiQ
import Derived.Test.YthdbgiklniiglaaDoorAsciiW4
namespace Go.Proofs.YthdbgiklniiglaaDoor
open Go.RowKit

theorem awake_unq : unqV (unquoteL (bs ⟨#[34, 97, 92, 34, 98, 34]⟩)) = .tuple #[.string ⟨#[97, 34, 98]⟩, .bool true] := by
  have : unquoteL (bs ⟨#[34, 97, 92, 34, 98, 34]⟩) = some [97, 34, 98] := by decide +kernel
  rw [this]; rfl
theorem awake_tok : tokenB (bs ⟨#[103, 122, 105, 112]⟩) = true := by decide +kernel
theorem awake_dec : Lib.itoa (-7) = [45, 55] := by
  rw [show (-7 : Int) = -((7 : Nat) : Int) from rfl, Lib.itoa_neg 7 (by omega), Lib.decDigits_one (by omega)]; rfl
set_option maxHeartbeats 400000 in
theorem awake_any (w : World) (htab : PowTab w) :
    Calls Tryd.prog 23 #[] w fun e w' => e = .returned (.bool true) ∧ Below w.heap.size w w' := by
  have H1 := Lib.hid awake_unq
  have H2 := Lib.hid awake_tok
  have H3 := Lib.hid awake_dec
  have HT := Lib.hid htab
  clear htab
  go_enter Tryd.func23, Tryd.ntmps23
  go_wp2_with fail
  refine (unquote_any _ _ (by decide)).mono ?_
  rintro e w1 ⟨rfl, hb1⟩
  rw [H1.out]
  go_wp2_with fail
  refine (token_any _ _ (by decide)).mono ?_
  rintro e w' ⟨rfl, rfl⟩
  rw [H2.out]
  go_wp2_with fail
  refine (decimal_any (-7) _ (by omega) (by omega) (HT.out.below hb1)).mono ?_
  rintro e w2 ⟨rfl, hb2⟩
  rw [H3.out]
  go_wp2_with fail
  go_ret
  exact ⟨rfl, hb1.trans (hb2.mono hb1.size)⟩
set_option maxHeartbeats 400000 in
theorem asciiTokens_walk (s : ByteArray) (w : World) (_ : s.size ≤ 9223372036854775807) (htab : PowTab w) :
    Calls Tryd.prog 4 #[.string s] w fun e w' => e = .returned (.bool true) ∧ Below w.heap.size w w' := by
  have HT := Lib.hid htab
  clear htab
  by_cases hl : 3000 < (s.size : Int)
  · go_enter Tryd.func4, Tryd.ntmps4
    go_wp2_with fail
    go_ret
    exact ⟨rfl, Below.refl _ _⟩
  · go_enter Tryd.func4, Tryd.ntmps4
    go_wp2_with fail
    refine (token_any _ _ (by omega)).mono ?_
    rintro e w' ⟨rfl, rfl⟩
    go_wp2_with fail
    refine (rtoken_any _ _ (by omega)).mono ?_
    rintro e w' ⟨rfl, rfl⟩
    generalize tokenB (bs s) = b1
    go_wp2_with fail
    refine (text_any _ _ (by omega)).mono ?_
    rintro e w' ⟨rfl, rfl⟩
    go_wp2_with fail
    refine (rtext_any _ _ (by omega)).mono ?_
    rintro e w' ⟨rfl, rfl⟩
    generalize textB (bs s) = b2
    go_wp2_with fail
    refine (awake_any _ HT.out).mono ?_
    rintro e w1 ⟨rfl, hb1⟩
    go_wp2_with fail
    go_ret
    exact ⟨rfl, hb1⟩
end Go.Proofs.YthdbgiklniiglaaDoor
