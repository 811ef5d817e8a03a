/- The walks of layer 1 (ascii) and of its reference: tokens, texts, lower case. -/
import Derived.Test.YtfnmohaddkoalaaGreatDoorQPre
import Derived.Test.YtfnmohaddkoalaaGreatDoorQLowW
import Derived.Test.YtfnmohaddkoalaaGreatDoorQNumW
namespace Go.Proofs.YtfnmohaddkoalaaGreatDoor
open Go.RowKit

set_option maxHeartbeats 800000 in
theorem part_any (c : UInt8) (w : World) :
    Calls Tryz.prog 99 #[.int .u8 c.toNat] w fun e w' => e = .returned (.bool (partB c)) ∧ w = w' := by
  go_enter Tryz.func99, Tryz.ntmps99
  go_wp2
  all_goals (go_ret; exact ⟨ret_bool (by rw [Bool.eq_iff_iff]; simp only [partB, Bool.or_eq_true, Bool.and_eq_true, beq_iff_eq, decide_eq_true_eq, true_iff, Bool.false_eq_true, false_iff]; simp only [beq_eq_false_iff_ne, beq_iff_eq, ne_eq] at *; omega), rfl⟩)
set_option maxHeartbeats 400000 in
theorem token_any (s : ByteArray) (w : World) (hs : s.size ≤ 9223372036854775807) :
    Calls Tryz.prog 72 #[.string s] w fun e w' => e = .returned (.bool (tokenB (bs s))) ∧ w = w' := by
  go_enter Tryz.func72, Tryz.ntmps72
  go_wp2
  go_loop [6] (fun j => ∃ k : Nat, k ≤ s.size ∧ j = .int .i64 k ∧ Hid ((bs s).all partB = ((bs s).drop k).all partB)) (fun j => s.size - (intOf j).toNat)
  case atStart => exact ⟨0, by omega, rfl, Lib.hid rfl⟩
  case round =>
    obtain ⟨k, hk, rfl, H⟩ := hrel
    by_cases hlt : k < s.size
    · have Hs := Lib.hid (all_step partB s hlt)
      cases hd : partB s[k] with
      | false =>
        go_wp2_with (go_at_call 99; refine (part_any _ _).mono ?_; rintro e w' ⟨rfl, rfl⟩)
        go_ret
        exact ⟨ret_bool (by unfold tokenB; rw [H.out, Hs.out, hd]; rfl), rfl⟩
      | true =>
        go_wp2_with (go_at_call 99; refine (part_any _ _).mono ?_; rintro e w' ⟨rfl, rfl⟩)
        go_round
        case rel => exact ⟨k + 1, by omega, by go_num, Lib.hid (by rw [H.out, Hs.out, hd]; rfl)⟩
        case measure => simp [intOf]; omega
    · have He := Lib.hid (all_end partB s (k := k) (by omega))
      go_wp2
      go_ret
      exact ⟨ret_bool (by unfold tokenB; rw [H.out, He.out]; simp [Lib.toList_data]), rfl⟩
set_option maxHeartbeats 400000 in
theorem text_any (s : ByteArray) (w : World) (hs : s.size ≤ 9223372036854775807) :
    Calls Tryz.prog 87 #[.string s] w fun e w' => e = .returned (.bool (textB (bs s))) ∧ w = w' := by
  go_enter Tryz.func87, Tryz.ntmps87
  go_wp2
  go_loop [6] (fun j => ∃ k : Nat, k ≤ s.size ∧ j = .int .i64 k ∧ Hid ((bs s).all textC = ((bs s).drop k).all textC)) (fun j => s.size - (intOf j).toNat)
  case atStart => exact ⟨0, by omega, rfl, Lib.hid rfl⟩
  case round =>
    obtain ⟨k, hk, rfl, H⟩ := hrel
    by_cases hlt : k < s.size
    · have Hs := Lib.hid (all_step textC s hlt)
      by_cases h1 : s[k].toNat < 32 ∧ s[k].toNat ≠ 9 ∨ s[k].toNat = 127
      · have hd : textC s[k] = false := textC_false h1
        rcases h1 with ⟨h1, h2⟩ | h1
        · have k1 : (s[k].toNat : Int) < 32 := by omega
          have k2 : ((s[k].toNat : Int) != 9) = true := by simp; omega
          clear h1 h2
          go_wp2
          go_ret
          exact ⟨ret_bool (by unfold textB; rw [H.out, Hs.out, hd]; rfl), rfl⟩
        · have k1 : ¬ (s[k].toNat : Int) < 32 := by omega
          have k2 : ((s[k].toNat : Int) == 127) = true := by simp; omega
          clear h1
          go_wp2
          go_ret
          exact ⟨ret_bool (by unfold textB; rw [H.out, Hs.out, hd]; rfl), rfl⟩
      · have hd : textC s[k] = true := textC_true h1
        have k3 : ((s[k].toNat : Int) == 127) = false := by simp; omega
        by_cases h2 : (s[k].toNat : Int) < 32
        · have k2 : ((s[k].toNat : Int) != 9) = false := by simp; omega
          clear h1
          go_wp2
          go_round
          case rel => exact ⟨k + 1, by omega, by go_num, Lib.hid (by rw [H.out, Hs.out, hd]; rfl)⟩
          case measure => simp [intOf]; omega
        · clear h1
          go_wp2
          go_round
          case rel => exact ⟨k + 1, by omega, by go_num, Lib.hid (by rw [H.out, Hs.out, hd]; rfl)⟩
          case measure => simp [intOf]; omega
    · have He := Lib.hid (all_end textC s (k := k) (by omega))
      go_wp2
      go_ret
      exact ⟨ret_bool (by unfold textB; rw [H.out, He.out]), rfl⟩
-- the reference's byte of a token: letters and digits, or one of the signs
set_option maxHeartbeats 1600000 in
theorem rpart_any (c : UInt8) (w : World) :
    Calls Tryz.prog 90 #[.int .u8 c.toNat] w fun e w' => e = .returned (.bool (partB c)) ∧ w = w' := by
  by_cases h1 : 97 ≤ c.toNat ∧ c.toNat ≤ 122 ∨ 65 ≤ c.toNat ∧ c.toNat ≤ 90 ∨ 48 ≤ c.toNat ∧ c.toNat ≤ 57
  · go_enter Tryz.func90, Tryz.ntmps90
    go_wp2
    all_goals (go_ret; exact ⟨ret_bool (partB_true (by omega)), rfl⟩)
  · skip
    by_cases hq : (c.toNat : Int) < 48
    · have f0 : ¬ 48 ≤ (c.toNat : Int) := by omega
      have f1 : ¬ 65 ≤ (c.toNat : Int) := by omega
      have f2 : ¬ 97 ≤ (c.toNat : Int) := by omega
      have H := Lib.hid h1
      clear h1
      go_enter Tryz.func90, Tryz.ntmps90
      go_wp2
      go_loop [3] (fun j => ∃ k : Nat, k ≤ 15 ∧ j = .int .i64 k ∧ Hid (∀ (i : Nat) (h : i < signs.size), i < k → ((signs[i].toNat : Int) == (c.toNat : Int)) = false)) (fun j => 15 - (intOf j).toNat)
      case atStart => exact ⟨0, by omega, rfl, Lib.hid fun i _ h => absurd h (by omega)⟩
      case round =>
        obtain ⟨k, hk, rfl, HN⟩ := hrel
        by_cases hlt : k < 15
        · have hks : k < signs.size := hlt
          cases hd : ((signs[k].toNat : Int) == (c.toNat : Int)) with
          | true =>
            have Hd := Lib.hid hd
            go_wp2
            go_ret
            exact ⟨ret_bool (sign_hit k hks Hd.out), rfl⟩
          | false =>
            have Hd := Lib.hid hd
            go_wp2
            go_round
            case rel => exact ⟨k + 1, by omega, by go_num, Lib.hid fun i hi hik => if e : i = k then by subst e; exact Hd.out else HN.out i hi (by omega)⟩
            case measure => simp [intOf]; omega
        · obtain rfl : k = 15 := by omega
          go_wp2
          go_ret
          exact ⟨ret_bool (sign_miss (fun i hi => HN.out i hi hi) H.out), rfl⟩
    by_cases hq : (c.toNat : Int) < 65
    · have f0 : 48 ≤ (c.toNat : Int) := by omega
      have f1 : ¬ (c.toNat : Int) ≤ 57 := by omega
      have f2 : ¬ 65 ≤ (c.toNat : Int) := by omega
      have f3 : ¬ 97 ≤ (c.toNat : Int) := by omega
      have H := Lib.hid h1
      clear h1
      go_enter Tryz.func90, Tryz.ntmps90
      go_wp2
      go_loop [3] (fun j => ∃ k : Nat, k ≤ 15 ∧ j = .int .i64 k ∧ Hid (∀ (i : Nat) (h : i < signs.size), i < k → ((signs[i].toNat : Int) == (c.toNat : Int)) = false)) (fun j => 15 - (intOf j).toNat)
      case atStart => exact ⟨0, by omega, rfl, Lib.hid fun i _ h => absurd h (by omega)⟩
      case round =>
        obtain ⟨k, hk, rfl, HN⟩ := hrel
        by_cases hlt : k < 15
        · have hks : k < signs.size := hlt
          cases hd : ((signs[k].toNat : Int) == (c.toNat : Int)) with
          | true =>
            have Hd := Lib.hid hd
            go_wp2
            go_ret
            exact ⟨ret_bool (sign_hit k hks Hd.out), rfl⟩
          | false =>
            have Hd := Lib.hid hd
            go_wp2
            go_round
            case rel => exact ⟨k + 1, by omega, by go_num, Lib.hid fun i hi hik => if e : i = k then by subst e; exact Hd.out else HN.out i hi (by omega)⟩
            case measure => simp [intOf]; omega
        · obtain rfl : k = 15 := by omega
          go_wp2
          go_ret
          exact ⟨ret_bool (sign_miss (fun i hi => HN.out i hi hi) H.out), rfl⟩
    by_cases hq : (c.toNat : Int) < 97
    · have f0 : 48 ≤ (c.toNat : Int) := by omega
      have f1 : ¬ (c.toNat : Int) ≤ 57 := by omega
      have f2 : 65 ≤ (c.toNat : Int) := by omega
      have f3 : ¬ (c.toNat : Int) ≤ 90 := by omega
      have f4 : ¬ 97 ≤ (c.toNat : Int) := by omega
      have H := Lib.hid h1
      clear h1
      go_enter Tryz.func90, Tryz.ntmps90
      go_wp2
      go_loop [3] (fun j => ∃ k : Nat, k ≤ 15 ∧ j = .int .i64 k ∧ Hid (∀ (i : Nat) (h : i < signs.size), i < k → ((signs[i].toNat : Int) == (c.toNat : Int)) = false)) (fun j => 15 - (intOf j).toNat)
      case atStart => exact ⟨0, by omega, rfl, Lib.hid fun i _ h => absurd h (by omega)⟩
      case round =>
        obtain ⟨k, hk, rfl, HN⟩ := hrel
        by_cases hlt : k < 15
        · have hks : k < signs.size := hlt
          cases hd : ((signs[k].toNat : Int) == (c.toNat : Int)) with
          | true =>
            have Hd := Lib.hid hd
            go_wp2
            go_ret
            exact ⟨ret_bool (sign_hit k hks Hd.out), rfl⟩
          | false =>
            have Hd := Lib.hid hd
            go_wp2
            go_round
            case rel => exact ⟨k + 1, by omega, by go_num, Lib.hid fun i hi hik => if e : i = k then by subst e; exact Hd.out else HN.out i hi (by omega)⟩
            case measure => simp [intOf]; omega
        · obtain rfl : k = 15 := by omega
          go_wp2
          go_ret
          exact ⟨ret_bool (sign_miss (fun i hi => HN.out i hi hi) H.out), rfl⟩
    have f0 : 48 ≤ (c.toNat : Int) := by omega
    have f1 : ¬ (c.toNat : Int) ≤ 57 := by omega
    have f2 : 65 ≤ (c.toNat : Int) := by omega
    have f3 : ¬ (c.toNat : Int) ≤ 90 := by omega
    have f4 : 97 ≤ (c.toNat : Int) := by omega
    have f5 : ¬ (c.toNat : Int) ≤ 122 := by omega
    have H := Lib.hid h1
    clear h1
    go_enter Tryz.func90, Tryz.ntmps90
    go_wp2
    go_loop [3] (fun j => ∃ k : Nat, k ≤ 15 ∧ j = .int .i64 k ∧ Hid (∀ (i : Nat) (h : i < signs.size), i < k → ((signs[i].toNat : Int) == (c.toNat : Int)) = false)) (fun j => 15 - (intOf j).toNat)
    case atStart => exact ⟨0, by omega, rfl, Lib.hid fun i _ h => absurd h (by omega)⟩
    case round =>
      obtain ⟨k, hk, rfl, HN⟩ := hrel
      by_cases hlt : k < 15
      · have hks : k < signs.size := hlt
        cases hd : ((signs[k].toNat : Int) == (c.toNat : Int)) with
        | true =>
          have Hd := Lib.hid hd
          go_wp2
          go_ret
          exact ⟨ret_bool (sign_hit k hks Hd.out), rfl⟩
        | false =>
          have Hd := Lib.hid hd
          go_wp2
          go_round
          case rel => exact ⟨k + 1, by omega, by go_num, Lib.hid fun i hi hik => if e : i = k then by subst e; exact Hd.out else HN.out i hi (by omega)⟩
          case measure => simp [intOf]; omega
      · obtain rfl : k = 15 := by omega
        go_wp2
        go_ret
        exact ⟨ret_bool (sign_miss (fun i hi => HN.out i hi hi) H.out), rfl⟩
set_option maxHeartbeats 400000 in
theorem rtoken_any (s : ByteArray) (w : World) (hs : s.size ≤ 9223372036854775807) :
    Calls Tryz.prog 63 #[.string s] w fun e w' => e = .returned (.bool (tokenB (bs s))) ∧ w = w' := by
  go_enter Tryz.func63, Tryz.ntmps63
  go_wp2
  go_loop [3] (fun j => ∃ k : Nat, k ≤ s.size ∧ j = .int .i64 k ∧ Hid ((bs s).all partB = ((bs s).drop k).all partB)) (fun j => s.size - (intOf j).toNat)
  case atStart => exact ⟨0, by omega, rfl, Lib.hid rfl⟩
  case round =>
    obtain ⟨k, hk, rfl, H⟩ := hrel
    by_cases hlt : k < s.size
    · have Hs := Lib.hid (all_step partB s hlt)
      cases hd : partB s[k] with
      | false =>
        go_wp2_with (go_at_call 90; refine (rpart_any _ _).mono ?_; rintro e w' ⟨rfl, rfl⟩)
        go_ret
        exact ⟨ret_bool (by unfold tokenB; rw [H.out, Hs.out, hd]; rfl), rfl⟩
      | true =>
        go_wp2_with (go_at_call 90; refine (rpart_any _ _).mono ?_; rintro e w' ⟨rfl, rfl⟩)
        go_round
        case rel => exact ⟨k + 1, by omega, by go_num, Lib.hid (by rw [H.out, Hs.out, hd]; rfl)⟩
        case measure => simp [intOf]; omega
    · have He := Lib.hid (all_end partB s (k := k) (by omega))
      go_wp2
      go_ret
      exact ⟨ret_bool (by unfold tokenB; rw [H.out, He.out]; simp [Lib.toList_data]), rfl⟩
theorem rtextc_any (c : UInt8) (w : World) :
    Calls Tryz.prog 91 #[.int .u8 c.toNat] w fun e w' => e = .returned (.bool (textC c)) ∧ w = w' := by
  have hc := UInt8.toNat_lt c
  by_cases hq : c.toNat = 9
  · have hv : textC c = true := textC_true (by omega)
    have f0 : ((c.toNat : Int) == 9) = true := by simp; omega
    have Hv := Lib.hid hv
    clear hv hq
    go_enter Tryz.func91, Tryz.ntmps91
    go_wp2
    go_ret
    exact ⟨ret_bool (by rw [Hv.out]), rfl⟩
  by_cases hq : c.toNat < 32
  · have hv : textC c = false := textC_false (by omega)
    have f0 : ((c.toNat : Int) == 9) = false := by simp; omega
    have f1 : ¬ 32 ≤ (c.toNat : Int) := by omega
    have f2 : ¬ 128 ≤ (c.toNat : Int) := by omega
    have Hv := Lib.hid hv
    clear hv hq
    go_enter Tryz.func91, Tryz.ntmps91
    go_wp2
    go_ret
    exact ⟨ret_bool (by rw [Hv.out]), rfl⟩
  by_cases hq : c.toNat ≤ 126
  · have hv : textC c = true := textC_true (by omega)
    have f0 : ((c.toNat : Int) == 9) = false := by simp; omega
    have f1 : 32 ≤ (c.toNat : Int) := by omega
    have f2 : (c.toNat : Int) ≤ 126 := by omega
    have Hv := Lib.hid hv
    clear hv hq
    go_enter Tryz.func91, Tryz.ntmps91
    go_wp2
    go_ret
    exact ⟨ret_bool (by rw [Hv.out]), rfl⟩
  by_cases hq : c.toNat = 127
  · have hv : textC c = false := textC_false (by omega)
    have f0 : ((c.toNat : Int) == 9) = false := by simp; omega
    have f1 : 32 ≤ (c.toNat : Int) := by omega
    have f2 : ¬ (c.toNat : Int) ≤ 126 := by omega
    have f3 : ¬ 128 ≤ (c.toNat : Int) := by omega
    have Hv := Lib.hid hv
    clear hv hq
    go_enter Tryz.func91, Tryz.ntmps91
    go_wp2
    go_ret
    exact ⟨ret_bool (by rw [Hv.out]), rfl⟩
  by_cases hq : True
  · have hv : textC c = true := textC_true (by omega)
    have f0 : ((c.toNat : Int) == 9) = false := by simp; omega
    have f1 : 32 ≤ (c.toNat : Int) := by omega
    have f2 : ¬ (c.toNat : Int) ≤ 126 := by omega
    have f3 : 128 ≤ (c.toNat : Int) := by omega
    have Hv := Lib.hid hv
    clear hv hq
    go_enter Tryz.func91, Tryz.ntmps91
    go_wp2
    go_ret
    exact ⟨ret_bool (by rw [Hv.out]), rfl⟩
  · exact absurd trivial hq
set_option maxHeartbeats 400000 in
theorem rtext_any (s : ByteArray) (w : World) (hs : s.size ≤ 9223372036854775807) :
    Calls Tryz.prog 64 #[.string s] w fun e w' => e = .returned (.bool (textB (bs s))) ∧ w = w' := by
  go_enter Tryz.func64, Tryz.ntmps64
  go_wp2
  go_loop [3] (fun j => ∃ k : Nat, k ≤ s.size ∧ j = .int .i64 k ∧ Hid ((bs s).all textC = ((bs s).drop k).all textC)) (fun j => s.size - (intOf j).toNat)
  case atStart => exact ⟨0, by omega, rfl, Lib.hid rfl⟩
  case round =>
    obtain ⟨k, hk, rfl, H⟩ := hrel
    by_cases hlt : k < s.size
    · have Hs := Lib.hid (all_step textC s hlt)
      cases hd : textC s[k] with
      | false =>
        go_wp2_with (go_at_call 91; refine (rtextc_any _ _).mono ?_; rintro e w' ⟨rfl, rfl⟩)
        go_ret
        exact ⟨ret_bool (by unfold textB; rw [H.out, Hs.out, hd]; rfl), rfl⟩
      | true =>
        go_wp2_with (go_at_call 91; refine (rtextc_any _ _).mono ?_; rintro e w' ⟨rfl, rfl⟩)
        go_round
        case rel => exact ⟨k + 1, by omega, by go_num, Lib.hid (by rw [H.out, Hs.out, hd]; rfl)⟩
        case measure => simp [intOf]; omega
    · have He := Lib.hid (all_end textC s (k := k) (by omega))
      go_wp2
      go_ret
      exact ⟨ret_bool (by unfold textB; rw [H.out, He.out]), rfl⟩
end Go.Proofs.YtfnmohaddkoalaaGreatDoor
