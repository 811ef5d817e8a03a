/- What the listed variables give the walks that write dates: the table of powers of ten; and the walks that read it. -/
import Derived.Test.YtijifhkadkefaaaDoorDateFP
import Derived.Test.YtijifhkadkefaaaDoorDecR
import Derived.Test.YtijifhkadkefaaaDoorPost
import Derived.Test.YtijifhkadkefaaaDoorShelf
import Derived.Lib.ItoaLen
import Derived.WalkSmall
namespace Go.Proofs.YtijifhkadkefaaaDoor
open Go.RowKit
abbrev PowTab (w : World) : Prop := Lib.TabIs Tryd.prog w "internal/strconv.uint64pow10" .u64 Lib.pow10Tab
theorem pow_of_laid {W : World} (h : laidMetH Tryd.prog Rows.dateFormatsRow.laid W) : PowTab W := by
  rw [MakeChecks.laidMetH_plain _ _ _ (by kernel_rfl)] at h
  obtain ⟨ps, hv, _⟩ := h
  obtain ⟨q1, hv1⟩ := laid_rest hv
  obtain ⟨q2, hv2⟩ := laid_rest hv1
  exact laid_tab (rest := []) (g := 0) (t := 50) (e := 43) (n := 20) (by kernel_rfl) (by kernel_rfl) Tryd.underlying50 Tryd.underlying43 (by kernel_rfl) (by kernel_rfl) hv2
/-- The table of powers of ten stands behind a call. -/
theorem PowTab.below {w w' : World} (h : PowTab w) (hb : Below w.heap.size w w') : PowTab w' := by
  have hg : Tryd.prog.globalNamed "internal/strconv.uint64pow10" = some 0 := by kernel_rfl
  exact var?_below hb hg (World.block_lt_of_cell? _ _ (Lib.TabIs.cell h hg 0 (by decide))) h
theorem itoa_any (n : Int) (w : World) (h0 : -9223372036854775808 ≤ n) (h1 : n ≤ 9223372036854775807) (htab : PowTab w) :
    Calls Tryd.prog 15 #[.int .i64 n] w fun e w' => e = .returned (.string ⟨(Lib.itoa n).toArray⟩) ∧ Below w.heap.size w w' :=
  (Tryd.strconv_Itoa n h0 h1 w htab).mono fun _ _ ⟨he, _, _, hw⟩ => ⟨he, by rw [hw]; exact Lib.below_grow _ _ (Nat.le_refl _) _ _⟩
theorem rdecimal_any (n : Int) (w : World) (h0 : -9223372036854775808 ≤ n) (h1 : n ≤ 9223372036854775807) :
    Calls Tryd.prog 18 #[.int .i64 n] w fun e w' => e = .returned (.string ⟨(Lib.itoa n).toArray⟩) ∧ Below w.heap.size w w' := by
  by_cases hn : n < 0
  · obtain ⟨m, rfl⟩ : ∃ m : Nat, n = -(m : Int) := ⟨n.natAbs, by omega⟩
    rw [Lib.itoa_neg m (by omega)]
    exact rdecimal_neg m w (by omega) (by omega)
  · obtain ⟨m, rfl⟩ : ∃ m : Nat, n = (m : Int) := ⟨n.toNat, by omega⟩
    rw [Lib.itoa_nonneg]
    exact rdecimal_pos m w (by omega)
/-- What is written into what the call itself has made, or below: a chain of calls keeps the caller's memory. -/
theorem below_step {w w1 w2 : World} (h : Below w.heap.size w w1) (h' : Below w1.heap.size w1 w2) : Below w.heap.size w w2 := h.trans (h'.mono h.size)
theorem decDigits_len (n : Nat) (h : n < 100) : (Lib.decDigits n).length ≤ 2 := by
  by_cases h1 : n < 10
  · rw [Lib.decDigits_one h1]; simp
  · rw [Lib.decDigits_two (by omega) h]; simp
/-- A number below a hundred with two digits. -/
theorem pad_any (n : Nat) (w : World) (h : n < 100) (htab : PowTab w) :
    Calls Tryd.prog 13 #[.int .i64 n] w fun e w' => e = .returned (.string ⟨(twoL n).toArray⟩) ∧ Below w.heap.size w w' := by
  have HT := Lib.hid htab
  have H := Lib.hid (decDigits_two n h)
  clear htab
  by_cases h1 : n < 10
  · go_enter Tryd.func13, Tryd.ntmps13
    go_wp2_with fail
    refine (itoa_any _ _ (by omega) (by omega) HT.out).mono ?_
    rintro e w1 ⟨rfl, hb1⟩
    rw [Lib.itoa_nonneg]
    have hz := decDigits_len n h
    go_wp2_with fail
    go_ret
    exact ⟨by rw [← H.out, if_pos h1]; exact congrArg (fun b => Ending.returned (Value.string b)) (cat_mk [48] _), hb1⟩
  · go_enter Tryd.func13, Tryd.ntmps13
    go_wp2_with fail
    refine (itoa_any _ _ (by omega) (by omega) HT.out).mono ?_
    rintro e w1 ⟨rfl, hb1⟩
    rw [Lib.itoa_nonneg]
    go_wp2_with fail
    go_ret
    exact ⟨by rw [← H.out, if_neg h1]; rfl, hb1⟩
end Go.Proofs.YtijifhkadkefaaaDoor
