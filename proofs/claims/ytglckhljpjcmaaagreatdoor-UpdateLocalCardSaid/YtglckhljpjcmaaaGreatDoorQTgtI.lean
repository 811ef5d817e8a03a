/- The walks of Unsafe and Invalidates, of the program and of the reference. Printed by gen_tgtw.py. -/
import Derived.Test.YtglckhljpjcmaaaGreatDoorQPre
import Derived.Test.YtglckhljpjcmaaaGreatDoorProg
import Derived.Test.YtglckhljpjcmaaaGreatDoorShelf
namespace Go.Proofs.YtglckhljpjcmaaaGreatDoor
open Go.RowKit Go.Shelf
set_option linter.unusedSimpArgs false

def safeB (m : List UInt8) : Bool := m == [71, 69, 84] || (m == [72, 69, 65, 68] || (m == [79, 80, 84, 73, 79, 78, 83] || (m == [84, 82, 65, 67, 69])))
def invB (m : ByteArray) (st : Int) : Bool := !safeB m.toList && (decide (200 ≤ st) && decide (st ≤ 399))
set_option maxHeartbeats 800000 in
theorem unsafe_any (m : ByteArray) (w : World) : Calls Tryz.prog 22 #[.string m] w fun e w' => e = .returned (.bool (!safeB m.toList)) ∧ w = w' := by
  obtain ⟨l, hl⟩ : ∃ l, l = m.toList := ⟨_, rfl⟩
  clear hl
  cases hc0 : (m.toList == [71, 69, 84]) with
  | true =>
    have HR : Hid ((!safeB m.toList) = false) := Lib.hid (by unfold safeB; simp only [hc0]; rfl)
    have hd0 : (m.toList != [71, 69, 84]) = false := by unfold bne; rw [hc0]; rfl
    go_enter Tryz.func22, Tryz.ntmps22
    go_wp2_with fail
    go_ret
    exact ⟨ret_bool HR.out.symm, rfl⟩
  | false =>
    cases hc1 : (m.toList == [72, 69, 65, 68]) with
    | true =>
      have HR : Hid ((!safeB m.toList) = false) := Lib.hid (by unfold safeB; simp only [hc0, hc1]; rfl)
      have hd0 : (m.toList != [71, 69, 84]) = true := by unfold bne; rw [hc0]; rfl
      have hd1 : (m.toList != [72, 69, 65, 68]) = false := by unfold bne; rw [hc1]; rfl
      go_enter Tryz.func22, Tryz.ntmps22
      go_wp2_with fail
      go_ret
      exact ⟨ret_bool HR.out.symm, rfl⟩
    | false =>
      cases hc2 : (m.toList == [79, 80, 84, 73, 79, 78, 83]) with
      | true =>
        have HR : Hid ((!safeB m.toList) = false) := Lib.hid (by unfold safeB; simp only [hc0, hc1, hc2]; rfl)
        have hd0 : (m.toList != [71, 69, 84]) = true := by unfold bne; rw [hc0]; rfl
        have hd1 : (m.toList != [72, 69, 65, 68]) = true := by unfold bne; rw [hc1]; rfl
        have hd2 : (m.toList != [79, 80, 84, 73, 79, 78, 83]) = false := by unfold bne; rw [hc2]; rfl
        go_enter Tryz.func22, Tryz.ntmps22
        go_wp2_with fail
        go_ret
        exact ⟨ret_bool HR.out.symm, rfl⟩
      | false =>
        cases hc3 : (m.toList == [84, 82, 65, 67, 69]) with
        | true =>
          have HR : Hid ((!safeB m.toList) = false) := Lib.hid (by unfold safeB; simp only [hc0, hc1, hc2, hc3]; rfl)
          have hd0 : (m.toList != [71, 69, 84]) = true := by unfold bne; rw [hc0]; rfl
          have hd1 : (m.toList != [72, 69, 65, 68]) = true := by unfold bne; rw [hc1]; rfl
          have hd2 : (m.toList != [79, 80, 84, 73, 79, 78, 83]) = true := by unfold bne; rw [hc2]; rfl
          have hd3 : (m.toList != [84, 82, 65, 67, 69]) = false := by unfold bne; rw [hc3]; rfl
          go_enter Tryz.func22, Tryz.ntmps22
          go_wp2_with fail
          go_ret
          exact ⟨ret_bool HR.out.symm, rfl⟩
        | false =>
          have HR : Hid ((!safeB m.toList) = true) := Lib.hid (by unfold safeB; simp only [hc0, hc1, hc2, hc3]; rfl)
          have hd0 : (m.toList != [71, 69, 84]) = true := by unfold bne; rw [hc0]; rfl
          have hd1 : (m.toList != [72, 69, 65, 68]) = true := by unfold bne; rw [hc1]; rfl
          have hd2 : (m.toList != [79, 80, 84, 73, 79, 78, 83]) = true := by unfold bne; rw [hc2]; rfl
          have hd3 : (m.toList != [84, 82, 65, 67, 69]) = true := by unfold bne; rw [hc3]; rfl
          go_enter Tryz.func22, Tryz.ntmps22
          go_wp2_with fail
          go_ret
          exact ⟨ret_bool HR.out.symm, rfl⟩
set_option maxHeartbeats 800000 in
theorem runsafe_any (m : ByteArray) (w : World) : Calls Tryz.prog 23 #[.string m] w fun e w' => e = .returned (.bool (!safeB m.toList)) ∧ w = w' := by
  obtain ⟨l, hl⟩ : ∃ l, l = m.toList := ⟨_, rfl⟩
  clear hl
  cases hc0 : (m.toList == [71, 69, 84]) with
  | true =>
    have HR : Hid ((!safeB m.toList) = false) := Lib.hid (by unfold safeB; simp only [hc0]; rfl)
    have hd0 : (m.toList != [71, 69, 84]) = false := by unfold bne; rw [hc0]; rfl
    go_enter Tryz.func23, Tryz.ntmps23
    go_wp2_with fail
    go_ret
    exact ⟨ret_bool HR.out.symm, rfl⟩
  | false =>
    cases hc1 : (m.toList == [72, 69, 65, 68]) with
    | true =>
      have HR : Hid ((!safeB m.toList) = false) := Lib.hid (by unfold safeB; simp only [hc0, hc1]; rfl)
      have hd0 : (m.toList != [71, 69, 84]) = true := by unfold bne; rw [hc0]; rfl
      have hd1 : (m.toList != [72, 69, 65, 68]) = false := by unfold bne; rw [hc1]; rfl
      go_enter Tryz.func23, Tryz.ntmps23
      go_wp2_with fail
      go_ret
      exact ⟨ret_bool HR.out.symm, rfl⟩
    | false =>
      cases hc2 : (m.toList == [79, 80, 84, 73, 79, 78, 83]) with
      | true =>
        have HR : Hid ((!safeB m.toList) = false) := Lib.hid (by unfold safeB; simp only [hc0, hc1, hc2]; rfl)
        have hd0 : (m.toList != [71, 69, 84]) = true := by unfold bne; rw [hc0]; rfl
        have hd1 : (m.toList != [72, 69, 65, 68]) = true := by unfold bne; rw [hc1]; rfl
        have hd2 : (m.toList != [79, 80, 84, 73, 79, 78, 83]) = false := by unfold bne; rw [hc2]; rfl
        go_enter Tryz.func23, Tryz.ntmps23
        go_wp2_with fail
        go_ret
        exact ⟨ret_bool HR.out.symm, rfl⟩
      | false =>
        cases hc3 : (m.toList == [84, 82, 65, 67, 69]) with
        | true =>
          have HR : Hid ((!safeB m.toList) = false) := Lib.hid (by unfold safeB; simp only [hc0, hc1, hc2, hc3]; rfl)
          have hd0 : (m.toList != [71, 69, 84]) = true := by unfold bne; rw [hc0]; rfl
          have hd1 : (m.toList != [72, 69, 65, 68]) = true := by unfold bne; rw [hc1]; rfl
          have hd2 : (m.toList != [79, 80, 84, 73, 79, 78, 83]) = true := by unfold bne; rw [hc2]; rfl
          have hd3 : (m.toList != [84, 82, 65, 67, 69]) = false := by unfold bne; rw [hc3]; rfl
          go_enter Tryz.func23, Tryz.ntmps23
          go_wp2_with fail
          go_ret
          exact ⟨ret_bool HR.out.symm, rfl⟩
        | false =>
          have HR : Hid ((!safeB m.toList) = true) := Lib.hid (by unfold safeB; simp only [hc0, hc1, hc2, hc3]; rfl)
          have hd0 : (m.toList != [71, 69, 84]) = true := by unfold bne; rw [hc0]; rfl
          have hd1 : (m.toList != [72, 69, 65, 68]) = true := by unfold bne; rw [hc1]; rfl
          have hd2 : (m.toList != [79, 80, 84, 73, 79, 78, 83]) = true := by unfold bne; rw [hc2]; rfl
          have hd3 : (m.toList != [84, 82, 65, 67, 69]) = true := by unfold bne; rw [hc3]; rfl
          go_enter Tryz.func23, Tryz.ntmps23
          go_wp2_with fail
          go_ret
          exact ⟨ret_bool HR.out.symm, rfl⟩
set_option maxHeartbeats 800000 in
theorem inval_any (m : ByteArray) (st : Int) (w : World) (h0 : -9223372036854775808 ≤ st) (h1 : st ≤ 9223372036854775807) : Calls Tryz.prog 9 #[.string m, .int .i64 st] w fun e w' => e = .returned (.bool (invB m st)) ∧ w = w' := by
  obtain ⟨r, hr⟩ : ∃ r, r = invB m st := ⟨_, rfl⟩
  have HR := Lib.hid hr
  rw [← hr]
  clear hr
  go_enter Tryz.func9, Tryz.ntmps9
  go_wp2_with fail
  refine (unsafe_any m w).mono ?_
  rintro e w1 ⟨he, rfl⟩
  cases hs : safeB m.toList with
  | true =>
    rw [hs] at he
    subst he
    have HQ : Hid (false = r) := Lib.hid (by rw [HR.out]; unfold invB; rw [hs]; rfl)
    clear hs
    go_wp2_with fail
    go_ret
    exact ⟨ret_bool HQ.out, rfl⟩
  | false =>
    rw [hs] at he
    subst he
    by_cases h2 : 200 ≤ st
    · have HQ : Hid (decide (st ≤ 399) = r) := Lib.hid (by rw [HR.out]; unfold invB; rw [hs, decide_eq_true h2]; simp)
      clear hs
      go_wp2_with fail
      go_ret
      exact ⟨ret_bool HQ.out, rfl⟩
    · have HQ : Hid (false = r) := Lib.hid (by rw [HR.out]; unfold invB; rw [hs, decide_eq_false h2]; rfl)
      clear hs
      go_wp2_with fail
      go_ret
      exact ⟨ret_bool HQ.out, rfl⟩
set_option maxHeartbeats 800000 in
theorem rinval_any (m : ByteArray) (st : Int) (w : World) (h0 : -9223372036854775808 ≤ st) (h1 : st ≤ 9223372036854775807) : Calls Tryz.prog 10 #[.string m, .int .i64 st] w fun e w' => e = .returned (.bool (invB m st)) ∧ w = w' := by
  obtain ⟨r, hr⟩ : ∃ r, r = invB m st := ⟨_, rfl⟩
  have HR := Lib.hid hr
  rw [← hr]
  clear hr
  go_enter Tryz.func10, Tryz.ntmps10
  go_wp2_with fail
  refine (runsafe_any m w).mono ?_
  rintro e w1 ⟨he, rfl⟩
  cases hs : safeB m.toList with
  | true =>
    rw [hs] at he
    subst he
    have HQ : Hid (false = r) := Lib.hid (by rw [HR.out]; unfold invB; rw [hs]; rfl)
    clear hs
    go_wp2_with fail
    go_ret
    exact ⟨ret_bool HQ.out, rfl⟩
  | false =>
    rw [hs] at he
    subst he
    by_cases h2 : 200 ≤ st
    · have HQ : Hid (decide (st ≤ 399) = r) := Lib.hid (by rw [HR.out]; unfold invB; rw [hs, decide_eq_true h2]; simp)
      clear hs
      go_wp2_with fail
      go_ret
      exact ⟨ret_bool HQ.out, rfl⟩
    · have HQ : Hid (false = r) := Lib.hid (by rw [HR.out]; unfold invB; rw [hs, decide_eq_false h2]; rfl)
      clear hs
      go_wp2_with fail
      go_ret
      exact ⟨ret_bool HQ.out, rfl⟩
end Go.Proofs.YtglckhljpjcmaaaGreatDoor
