/- The walks that read a date: the names, index, Parse, and the reference's ParseDate. -/
import Derived.Test.YtlcchcbeebakpaaDateQ
import Derived.Test.YtlcchcbeebakpaaDateW1
import Derived.Test.YtlcchcbeebakpaaNumW
import Derived.Test.YtlcchcbeebakpaaLib
namespace Go.Proofs.Ytlcchcbeebakpaa
open Go.RowKit

theorem isAggStr : ∀ w, (isAgg 9).run Try.prog w = .ok false w := fun _ => by kernel_rfl
theorem sizeOfStr : ∀ w, (sizeOf 9).run Try.prog w = .ok 1 w := fun _ => by kernel_rfl
theorem run_month (k : Nat) (hk : k < 12) (w : World) : (Instr.index 73 (.agg #[.string ⟨#[74, 97, 110]⟩, .string ⟨#[70, 101, 98]⟩, .string ⟨#[77, 97, 114]⟩, .string ⟨#[65, 112, 114]⟩, .string ⟨#[77, 97, 121]⟩, .string ⟨#[74, 117, 110]⟩, .string ⟨#[74, 117, 108]⟩, .string ⟨#[65, 117, 103]⟩, .string ⟨#[83, 101, 112]⟩, .string ⟨#[79, 99, 116]⟩, .string ⟨#[78, 111, 118]⟩, .string ⟨#[68, 101, 99]⟩]) (.int .i64 k)).run Try.prog w = .ok (.string (monthS k)) w := by
  refine run_index_agg 73 9 12 _ _ _ _ Try.underlying73 isAggStr sizeOfStr (by omega) (by omega) ?_ w
  rw [Int.toNat_natCast]
  match k, hk with
  | 0, _ | 1, _ | 2, _ | 3, _ | 4, _ | 5, _ | 6, _ | 7, _ | 8, _ | 9, _ | 10, _ | 11, _ => rfl
theorem run_wday (k : Nat) (hk : k < 7) (w : World) : (Instr.index 76 (.agg #[.string ⟨#[77, 111, 110]⟩, .string ⟨#[84, 117, 101]⟩, .string ⟨#[87, 101, 100]⟩, .string ⟨#[84, 104, 117]⟩, .string ⟨#[70, 114, 105]⟩, .string ⟨#[83, 97, 116]⟩, .string ⟨#[83, 117, 110]⟩]) (.int .i64 k)).run Try.prog w = .ok (.string (wdayS k)) w := by
  refine run_index_agg 76 9 7 _ _ _ _ Try.underlying76 isAggStr sizeOfStr (by omega) (by omega) ?_ w
  rw [Int.toNat_natCast]
  match k, hk with
  | 0, _ | 1, _ | 2, _ | 3, _ | 4, _ | 5, _ | 6, _ => rfl

set_option maxHeartbeats 400000 in
theorem month_any (k : Nat) (w : World) (hk : k < 12) :
    Calls Try.prog 32 #[.int .i64 k] w fun e w' => e = .returned (.string (monthS k)) ∧ w = w' := by
  have hi := run_month k hk
  go_enter Try.func32, Try.ntmps32
  go_wp2
  go_ret
  exact ⟨rfl, rfl⟩
set_option maxHeartbeats 400000 in
theorem wday_any (k : Nat) (w : World) (hk : k < 7) :
    Calls Try.prog 34 #[.int .i64 k] w fun e w' => e = .returned (.string (wdayS k)) ∧ w = w' := by
  have hi := run_wday k hk
  go_enter Try.func34, Try.ntmps34
  go_wp2
  go_ret
  exact ⟨rfl, rfl⟩

set_option maxHeartbeats 400000 in
theorem index_month (s : ByteArray) (w : World) :
    Calls Try.prog 31 #[.int .i64 12, .func (.func 32) #[] #[], .string s] w fun e w' => e = .returned (.int .i64 (nameFrom monthS (bs s) 12 0)) ∧ w = w' := by
  go_enter Try.func31, Try.ntmps31
  go_wp2
  go_loop [9] (fun j => ∃ k : Nat, k ≤ 12 ∧ j = .int .i64 k ∧ Hid (nameFrom monthS (bs s) 12 0 = nameFrom monthS (bs s) (12 - k) k)) (fun j => 12 - (intOf j).toNat)
  case atStart => exact ⟨0, by omega, rfl, Lib.hid rfl⟩
  case round =>
    obtain ⟨k, hk, rfl, H⟩ := hrel
    by_cases hlt : k < 12
    · have Hs : Hid (nameFrom monthS (bs s) (12 - k) k = if (bs (monthS k) == bs s) = true then (k : Int) else nameFrom monthS (bs s) (12 - (k + 1)) (k + 1)) := Lib.hid (by
        rw [show 12 - k = (12 - (k + 1)) + 1 from by omega, nameFrom])
      cases hb : ((monthS k).toList == s.toList) with
      | true =>
        go_wp2_with (go_at_call 32; refine (month_any _ _ hlt).mono ?_; rintro e w' ⟨rfl, rfl⟩)
        go_ret
        exact ⟨ret_int (by rw [H.out, Hs.out, if_pos (by rw [Lib.toList_data, Lib.toList_data] at hb; exact hb)]), rfl⟩
      | false =>
        go_wp2_with (go_at_call 32; refine (month_any _ _ hlt).mono ?_; rintro e w' ⟨rfl, rfl⟩)
        go_round
        case rel => exact ⟨k + 1, by omega, by go_num, Lib.hid (by rw [H.out, Hs.out, if_neg (by rw [Lib.toList_data, Lib.toList_data] at hb; rw [hb]; decide)])⟩
        case measure => simp [intOf]; omega
    · obtain rfl : k = 12 := by omega
      go_wp2
      go_ret
      exact ⟨ret_int (by rw [H.out]; rfl), rfl⟩
set_option maxHeartbeats 400000 in
theorem index_wday (s : ByteArray) (w : World) :
    Calls Try.prog 31 #[.int .i64 7, .func (.func 34) #[] #[], .string s] w fun e w' => e = .returned (.int .i64 (nameFrom wdayS (bs s) 7 0)) ∧ w = w' := by
  go_enter Try.func31, Try.ntmps31
  go_wp2
  go_loop [9] (fun j => ∃ k : Nat, k ≤ 7 ∧ j = .int .i64 k ∧ Hid (nameFrom wdayS (bs s) 7 0 = nameFrom wdayS (bs s) (7 - k) k)) (fun j => 7 - (intOf j).toNat)
  case atStart => exact ⟨0, by omega, rfl, Lib.hid rfl⟩
  case round =>
    obtain ⟨k, hk, rfl, H⟩ := hrel
    by_cases hlt : k < 7
    · have Hs : Hid (nameFrom wdayS (bs s) (7 - k) k = if (bs (wdayS k) == bs s) = true then (k : Int) else nameFrom wdayS (bs s) (7 - (k + 1)) (k + 1)) := Lib.hid (by
        rw [show 7 - k = (7 - (k + 1)) + 1 from by omega, nameFrom])
      cases hb : ((wdayS k).toList == s.toList) with
      | true =>
        go_wp2_with (go_at_call 34; refine (wday_any _ _ hlt).mono ?_; rintro e w' ⟨rfl, rfl⟩)
        go_ret
        exact ⟨ret_int (by rw [H.out, Hs.out, if_pos (by rw [Lib.toList_data, Lib.toList_data] at hb; exact hb)]), rfl⟩
      | false =>
        go_wp2_with (go_at_call 34; refine (wday_any _ _ hlt).mono ?_; rintro e w' ⟨rfl, rfl⟩)
        go_round
        case rel => exact ⟨k + 1, by omega, by go_num, Lib.hid (by rw [H.out, Hs.out, if_neg (by rw [Lib.toList_data, Lib.toList_data] at hb; rw [hb]; decide)])⟩
        case measure => simp [intOf]; omega
    · obtain rfl : k = 7 := by omega
      go_wp2
      go_ret
      exact ⟨ret_int (by rw [H.out]; rfl), rfl⟩

end Go.Proofs.Ytlcchcbeebakpaa
