/- The sanity check of law 5. Printed by gen_chunkl.py. -/
import Derived.Test.YtfnmohaddkoalaaDoorDecodeX
namespace Go.Proofs.YtfnmohaddkoalaaDoor
open Go.RowKit Go.Shelf
set_option linter.unusedSimpArgs false

abbrev awC : ByteArray := ⟨#[51, 13, 10, 97, 98, 99, 13, 10, 48, 13, 10, 13, 10, 120]⟩
theorem awC_dec : decL (bs awC) = (bs ⟨#[97, 98, 99]⟩, 13, 0) := by decide +kernel
set_option maxHeartbeats 800000 in
theorem awake5_any (w : World) (hM : MaxOf w) : Calls Tryd.prog 11 #[] w fun e w' => e = .returned (.bool true) ∧ Below w.heap.size w w' := by
  have HD := Lib.hid (decode_any awC w (by decide) hM)
  rw [awC_dec] at HD
  have HV : Hid (decV (bs ⟨#[97, 98, 99]⟩, 13, 0) = .tuple #[.string ⟨#[97, 98, 99]⟩, .int .i64 13, .int .i64 0]) := Lib.hid rfl
  clear hM
  go_enter Tryd.func11, Tryd.ntmps11
  go_wp2_with fail
  refine HD.out.mono ?_
  rintro e w1 ⟨rfl, hb1⟩
  rw [HV.out]
  go_wp2_with fail
  go_ret
  exact ⟨rfl, hb1⟩
/-- A decoded body in the walk's words. -/
theorem dec_words (r : List UInt8 × Nat × Int) : ∃ (B : ByteArray) (n : Nat) (e : Int), r = (bs B, n, e) ∧ decV r = .tuple #[.string B, .int .i64 n, .int .i64 e] := ⟨⟨r.1.toArray⟩, r.2.1, r.2.2, rfl, rfl⟩
end Go.Proofs.YtfnmohaddkoalaaDoor
