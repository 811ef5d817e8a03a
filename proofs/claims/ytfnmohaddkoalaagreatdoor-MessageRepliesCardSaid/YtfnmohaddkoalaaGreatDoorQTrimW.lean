/- The walks of Trim (1.2), of the program and of the reference. -/
import Derived.Test.YtfnmohaddkoalaaGreatDoorQPre
import Derived.Test.YtfnmohaddkoalaaGreatDoorTrim
import Derived.Lib.Hide
namespace Go.Proofs.YtfnmohaddkoalaaGreatDoor
open Go.RowKit

theorem str_of {s : ByteArray} {l : List UInt8} (h : bs s = l) : s = ⟨l.toArray⟩ := by rw [← h]
set_option maxHeartbeats 400000 in
theorem trim_any (s : ByteArray) (w : World) (hs : s.size ≤ 9223372036854775807) :
    Calls Tryz.prog 97 #[.string s] w fun e w' => e = .returned (.string ⟨(trimL (bs s)).toArray⟩) ∧ Below w.heap.size w w' := by
  have hcon : Calls Tryz.prog 109 #[.string s, .string ⟨#[32, 9]⟩] w fun e w' => e = .returned (.string ⟨(trimL (bs s)).toArray⟩) ∧ Below w.heap.size w w' := Tryz.strings_Trim s ⟨#[32, 9]⟩ w hs (by decide) (ascii_of_all (by decide))
  have HC := Lib.hid hcon
  clear hcon
  go_enter Tryz.func97, Tryz.ntmps97
  go_wp2_with fail
  refine HC.out.mono ?_
  rintro e w1 ⟨rfl, hb1⟩
  go_wp2_with fail
  go_ret
  exact ⟨rfl, hb1⟩
set_option maxHeartbeats 400000 in
theorem rblank_any (c : UInt8) (w : World) :
    Calls Tryz.prog 92 #[.int .u8 c.toNat] w fun e w' => e = .returned (.bool (blankC c)) ∧ w = w' := by
  by_cases h1 : c = 32
  · have q1 : ((c.toNat : Int) == 32) = true := u8_eq (n := 32) (by decide) h1
    have H := Lib.hid (blankC_iff.2 (.inl h1))
    clear h1
    go_enter Tryz.func92, Tryz.ntmps92
    go_wp2_with fail
    go_ret
    exact ⟨by rw [H.out]; rfl, rfl⟩
  · have q1 : ((c.toNat : Int) == 32) = false := u8_ne (n := 32) (by decide) h1
    by_cases h2 : c = 9
    · have q2 : ((c.toNat : Int) == 9) = true := u8_eq (n := 9) (by decide) h2
      have H := Lib.hid (blankC_iff.2 (.inr h2))
      clear h1 h2
      go_enter Tryz.func92, Tryz.ntmps92
      go_wp2_with fail
      go_ret
      exact ⟨by rw [H.out]; rfl, rfl⟩
    · have q2 : ((c.toNat : Int) == 9) = false := u8_ne (n := 9) (by decide) h2
      have H : Hid (blankC c = false) := Lib.hid (Bool.eq_false_iff.2 fun h => (blankC_iff.1 h).elim h1 h2)
      clear h1 h2
      go_enter Tryz.func92, Tryz.ntmps92
      go_wp2_with fail
      go_ret
      exact ⟨by rw [H.out]; rfl, rfl⟩
def sizeV : Value → Nat
  | .string t => t.size
  | _ => 0
set_option maxHeartbeats 1600000 in
theorem rtrim_any (s : ByteArray) (w : World) (hs : s.size ≤ 9223372036854775807) :
    Calls Tryz.prog 65 #[.string s] w fun e w' => e = .returned (.string ⟨(trimL (bs s)).toArray⟩) ∧ w = w' := by
  go_enter Tryz.func65, Tryz.ntmps65
  go_wp2_with fail
  go_loop [0] (fun v => ∃ t : ByteArray, v = .string t ∧ t.size ≤ s.size ∧ Hid (leftL (bs t) = leftL (bs s))) (fun v => sizeV v)
  case atStart => exact ⟨s, rfl, Nat.le_refl _, Lib.hid rfl⟩
  case round =>
    obtain ⟨t, rfl, ht, H⟩ := hrel
    have hcase : (∃ h0 : 0 < t.size, blankC t[0] = true) ∨ (t.size = 0 ∨ ∃ h0 : 0 < t.size, blankC t[0] = false) := by
      rcases Nat.eq_zero_or_pos t.size with h | h
      · exact .inr (.inl h)
      · cases hb : blankC t[0] with
        | true => exact .inl ⟨h, hb⟩
        | false => exact .inr (.inr ⟨h, hb⟩)
    rcases hcase with ⟨h0, hb⟩ | hstop
    · have HL := Lib.hid (leftL_hit t h0 hb)
      have h0' : (0 : Int) < (t.size : Int) := by omega
      have h1' : (1 : Int) ≤ (t.size : Int) := by omega
      go_wp2_with (go_at_call 92; refine (rblank_any _ _).mono ?_; rintro e w' ⟨rfl, rfl⟩)
      go_round
      case rel => exact ⟨_, rfl, by rw [ByteArray.size_extract]; omega, Lib.hid (by rw [← H.out, HL.out])⟩
      case measure => show (t.extract _ _).size < t.size; rw [ByteArray.size_extract]; simp; omega
    · have HS := Lib.hid (leftL_stop t hstop)
      have hcase : (t.size : Int) = 0 ∨ ∃ h0 : 0 < t.size, blankC t[0] = false := by
        rcases hstop with h | h
        · exact .inl (by omega)
        · exact .inr h
      clear hstop
      rcases hcase with hz | ⟨h0, hb⟩
      all_goals
        go_wp2_with (go_at_call 92; refine (rblank_any _ _).mono ?_; rintro e w' ⟨rfl, rfl⟩)
        try clear hz
        try clear hb
        go_loop [0] (fun v => ∃ u : ByteArray, v = .string u ∧ u.size ≤ t.size ∧ Hid (rightL (bs u) = rightL (bs t))) (fun v => sizeV v)
        case atStart => exact ⟨t, rfl, Nat.le_refl _, Lib.hid rfl⟩
        case round =>
          obtain ⟨u, rfl, hu, K⟩ := hrel
          have hcase : (∃ h0 : u.size - 1 < u.size, blankC (u[u.size - 1]'h0) = true) ∨ (u.size = 0 ∨ ∃ h0 : u.size - 1 < u.size, blankC (u[u.size - 1]'h0) = false) := by
            rcases Nat.eq_zero_or_pos u.size with h | h
            · exact .inr (.inl h)
            · have h0 : u.size - 1 < u.size := by omega
              cases hb : blankC (u[u.size - 1]'h0) with
              | true => exact .inl ⟨h0, hb⟩
              | false => exact .inr (.inr ⟨h0, hb⟩)
          rcases hcase with ⟨h0, hb⟩ | hstop
          · have KL := Lib.hid (rightL_hit u h0 hb)
            have h0' : (0 : Int) < (u.size : Int) := by omega
            have e1 : ((u.size : Int) - 1).toNat = u.size - 1 := by omega
            have g0 : (0 : Int) ≤ (u.size : Int) - 1 := by omega
            go_wp2_with (go_at_call 92; refine (rblank_any _ _).mono ?_; rintro e w' ⟨rfl, rfl⟩)
            go_round
            case rel => exact ⟨_, rfl, by rw [ByteArray.size_extract]; omega, Lib.hid (by rw [← K.out, KL.out])⟩
            case measure => show (u.extract _ _).size < u.size; rw [ByteArray.size_extract]; omega
          · have KS := Lib.hid (rightL_stop u hstop)
            have HF : Hid (u = ⟨(trimL (bs s)).toArray⟩) := Lib.hid (str_of (by rw [← KS.out, K.out, ← trimL_eq, ← H.out, HS.out]))
            have hcase : (u.size : Int) = 0 ∨ ∃ h0 : u.size - 1 < u.size, blankC (u[u.size - 1]'h0) = false := by
              rcases hstop with h | h
              · exact .inl (by omega)
              · exact .inr h
            clear hstop
            rcases hcase with hz2 | ⟨h2, hb2⟩
            · go_wp2_with (go_at_call 92; refine (rblank_any _ _).mono ?_; rintro e w' ⟨rfl, rfl⟩)
              go_ret
              exact ⟨by rw [← HF.out]; rfl, rfl⟩
            · have e1 : ((u.size : Int) - 1).toNat = u.size - 1 := by omega
              have g1 : (0 : Int) < (u.size : Int) := by omega
              have g0 : (0 : Int) ≤ (u.size : Int) - 1 := by omega
              go_wp2_with (go_at_call 92; refine (rblank_any _ _).mono ?_; rintro e w' ⟨rfl, rfl⟩)
              go_ret
              exact ⟨by rw [← HF.out]; rfl, rfl⟩
end Go.Proofs.YtfnmohaddkoalaaGreatDoor
