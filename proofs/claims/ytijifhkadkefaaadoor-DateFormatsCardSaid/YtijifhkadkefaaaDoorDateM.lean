/- The walks of the statements on the text of a date: each returns true. -/
import Derived.Test.YtijifhkadkefaaaDoorDateA
import Derived.Test.YtijifhkadkefaaaDoorDateW5
import Derived.Test.YtijifhkadkefaaaDoorDateW6
import Derived.OpenShut
import Derived.Deep.QuietTactic
import Derived.BigQuiet
import Derived.StillTailTactics
namespace Go.Proofs.YtijifhkadkefaaaDoor
open Go.RowKit

theorem parse_none : parseD [] = none := by decide +kernel
set_option maxHeartbeats 800000 in
theorem dateBack_walk (t : Int) (w : World) (ht : (Lit.int .i64 t).wf = true) (htab : PowTab w) :
    Calls Tryd.prog 4 #[.int .i64 t] w fun e w' => e = .returned (.bool true) ∧ Below w.heap.size w w' := by
  have HT := Lib.hid htab
  have htb := bounds_i64 ht
  clear htab ht
  by_cases hr : t < 0 ∨ 253402300799 < t
  · have hcase : t < 0 ∨ ¬ t < 0 ∧ 253402300799 < t := by omega
    have HP := Lib.hid (show dateV (parseD (bs ⟨#[]⟩)) = .tuple #[.int .i64 0, .bool false] by rw [show bs ⟨#[]⟩ = [] from rfl, parse_none]; rfl)
    rcases hcase with q | ⟨q, q'⟩
    all_goals
      have HF := Lib.hid (fun w1 => format_no t w1 hr)
      clear hr
      go_enter Tryd.func4, Tryd.ntmps4
      go_wp2_with fail
      refine (HF.out _).mono ?_
      rintro e w1 ⟨rfl, hb1⟩
      go_wp2_with fail
      refine (parse_any _ _ (by decide)).mono ?_
      rintro e w2 ⟨rfl, hb2⟩
      rw [HP.out]
      have b2 := below_step hb1 hb2
      clear hb1 hb2
      go_wp2_with fail
      refine (awake_any _).mono ?_
      rintro e w3 ⟨rfl, hb3⟩
      go_wp2_with fail
      go_ret
      exact ⟨rfl, below_step b2 hb3⟩
  · have q : ¬ t < 0 := by omega
    have q' : ¬ 253402300799 < t := by omega
    have HF := Lib.hid (fun w1 h => format_yes t w1 (by omega) (by omega) h)
    have h0 : 0 ≤ t := by omega
    clear hr
    go_enter Tryd.func4, Tryd.ntmps4
    go_wp2_with fail
    refine (HF.out _ HT.out).mono ?_
    rintro e w1 ⟨y, m, d, hD, rfl, hb1⟩
    have HP := Lib.hid (show dateV (parseD (bs ⟨(fmtL (t / 86400) y m d (t % 86400)).toArray⟩)) = .tuple #[.int .i64 t, .bool true] by rw [bs_mk, parse_fmt h0 hD]; rfl)
    have hz : (fmtL (t / 86400) y m d (t % 86400)).length ≤ 29 := Nat.le_of_eq (fmt_len hD)
    clear hD
    generalize fmtL (t / 86400) y m d (t % 86400) = s at HP hz
    go_wp2_with fail
    refine (parse_any _ _ (by rw [size_of_list]; omega)).mono ?_
    rintro e w2 ⟨rfl, hb2⟩
    rw [HP.out]
    have b2 := below_step hb1 hb2
    clear hb1 hb2
    go_wp2_with fail
    refine (awake_any _).mono ?_
    rintro e w3 ⟨rfl, hb3⟩
    go_wp2_with fail
    go_ret
    exact ⟨rfl, below_step b2 hb3⟩
set_option maxHeartbeats 800000 in
theorem dateWeeks_walk (t : Int) (w : World) (_ : (Lit.int .i64 t).wf = true) (htab : PowTab w) :
    Calls Tryd.prog 5 #[.int .i64 t] w fun e w' => e = .returned (.bool true) ∧ Below w.heap.size w w' := by
  have HT := Lib.hid htab
  clear htab
  by_cases hr : t < 0 ∨ 253400000000 < t
  · have hcase : t < 0 ∨ ¬ t < 0 ∧ 253400000000 < t := by omega
    rcases hcase with q | ⟨q, q'⟩
    all_goals
      clear hr
      go_enter Tryd.func5, Tryd.ntmps5
      go_wp2_with fail
      go_ret
      exact ⟨rfl, Below.refl _ _⟩
  · have q : ¬ t < 0 := by omega
    have q' : ¬ 253400000000 < t := by omega
    have HF := Lib.hid (fun w1 h => format_yes t w1 (by omega) (by omega) h)
    have HG := Lib.hid (fun w1 h => format_yes (t + 604800) w1 (by omega) (by omega) h)
    clear hr
    go_enter Tryd.func5, Tryd.ntmps5
    go_wp2_with fail
    refine (HF.out _ HT.out).mono ?_
    rintro e w1 ⟨y, m, d, hD, rfl, hb1⟩
    have T1 := Lib.hid (HT.out.below hb1)
    have hDD := Lib.hid hD
    have h29 := Lib.hid (fmt_len (r := t % 86400) hD)
    clear hD
    obtain ⟨s1, HS1⟩ : ∃ s1 : ByteArray, Hid (s1 = ⟨(fmtL (t / 86400) y m d (t % 86400)).toArray⟩) := ⟨_, Lib.hid rfl⟩
    rw [← HS1.out]
    go_wp2_with fail
    refine (HG.out _ T1.out).mono ?_
    rintro e w2 ⟨y', m', d', hD', rfl, hb2⟩
    obtain ⟨s2, HS2⟩ : ∃ s2 : ByteArray, Hid (s2 = ⟨(fmtL ((t + 604800) / 86400) y' m' d' ((t + 604800) % 86400)).toArray⟩) := ⟨_, Lib.hid rfl⟩
    rw [← HS2.out]
    have b2 := below_step hb1 hb2
    have HW := Lib.hid (week_text hDD.out hD' HS1.out HS2.out)
    clear hb1 hb2 hD'
    have e1 : s1.size = 29 := HW.out.1
    have e2 : s2.size = 29 := HW.out.2.1
    have e3 : (s1.extract 0 3).toList = (s2.extract 0 3).toList := HW.out.2.2.1
    have e4 : (s1.extract 17 29).toList = (s2.extract 17 29).toList := HW.out.2.2.2
    go_wp2_with fail
    go_still_tail 23, (by kernel_rfl)
    change wpList _ _ _ _ _ w2.drew
    have b3 : Below w.heap.size w w2.drew := b2.drew
    generalize w2.drew = w3 at b3
    go_wp2_with fail
    refine (awake_any _).mono ?_
    rintro e w4 ⟨rfl, hb4⟩
    go_wp2_with fail
    go_ret
    exact ⟨rfl, below_step b3 hb4⟩
set_option maxHeartbeats 800000 in
theorem dateFormats_walk (t : Int) (w : World) (ht : (Lit.int .i64 t).wf = true) (htab : PowTab w) :
    Calls Tryd.prog 3 #[.int .i64 t] w fun e w' => e = .returned (.bool true) ∧ Below w.heap.size w w' := by
  have HT := Lib.hid htab
  have htb := bounds_i64 ht
  clear htab ht
  by_cases hr : t < 0 ∨ 253402300799 < t
  · have HF := Lib.hid (fun w1 => format_no t w1 hr)
    have HG := Lib.hid (fun w1 => rformat_no t w1 hr)
    clear hr
    go_enter Tryd.func3, Tryd.ntmps3
    go_wp2_with fail
    refine (HF.out _).mono ?_
    rintro e w1 ⟨rfl, hb1⟩
    go_wp2_with fail
    refine (HG.out _).mono ?_
    rintro e w2 ⟨rfl, hb2⟩
    have b2 := below_step hb1 hb2
    clear hb1 hb2
    go_wp2_with fail
    refine (awake_any _).mono ?_
    rintro e w3 ⟨rfl, hb3⟩
    go_wp2_with fail
    go_ret
    exact ⟨rfl, below_step b2 hb3⟩
  · have HF := Lib.hid (fun w1 h => format_yes t w1 (by omega) (by omega) h)
    have HG := Lib.hid (fun w1 => rformat_yes t w1 (by omega) (by omega))
    clear hr
    go_enter Tryd.func3, Tryd.ntmps3
    go_wp2_with fail
    refine (HF.out _ HT.out).mono ?_
    rintro e w1 ⟨y, m, d, hD, rfl, hb1⟩
    obtain ⟨s1, HS1⟩ : ∃ s1 : ByteArray, Hid (s1 = ⟨(fmtL (t / 86400) y m d (t % 86400)).toArray⟩) := ⟨_, Lib.hid rfl⟩
    rw [← HS1.out]
    have HD := Lib.hid hD
    clear hD
    go_wp2_with fail
    refine (HG.out _).mono ?_
    rintro e w2 ⟨y', m', d', hD', rfl, hb2⟩
    obtain ⟨rfl, rfl, rfl⟩ := HD.out.unique hD'
    rw [← HS1.out]
    have b2 := below_step hb1 hb2
    clear hb1 hb2 hD'
    go_wp2_with fail
    refine (awake_any _).mono ?_
    rintro e w3 ⟨rfl, hb3⟩
    go_wp2_with fail
    go_ret
    exact ⟨rfl, below_step b2 hb3⟩
end Go.Proofs.YtijifhkadkefaaaDoor
