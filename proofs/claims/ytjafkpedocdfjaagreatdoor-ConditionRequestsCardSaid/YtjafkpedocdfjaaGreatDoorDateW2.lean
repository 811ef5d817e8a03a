/- The walks that read a date: the names, index, Parse, and the reference's ParseDate. -/
import Derived.Test.YtjafkpedocdfjaaGreatDoorDateQ
import Derived.Test.YtjafkpedocdfjaaGreatDoorDateW1
import Derived.Test.YtjafkpedocdfjaaGreatDoorNumW
import Derived.Test.YtjafkpedocdfjaaGreatDoorLib
namespace Go.Proofs.YtjafkpedocdfjaaGreatDoor
open Go.RowKit

theorem isAggStr : ∀ w, (isAgg 9).run Tryz.prog w = .ok false w := fun _ => by kernel_rfl
theorem sizeOfStr : ∀ w, (sizeOf 9).run Tryz.prog w = .ok 1 w := fun _ => by kernel_rfl
theorem run_month (k : Nat) (hk : k < 12) (w : World) : (Instr.index 129 (.agg #[.string ⟨#[74, 97, 110]⟩, .string ⟨#[70, 101, 98]⟩, .string ⟨#[77, 97, 114]⟩, .string ⟨#[65, 112, 114]⟩, .string ⟨#[77, 97, 121]⟩, .string ⟨#[74, 117, 110]⟩, .string ⟨#[74, 117, 108]⟩, .string ⟨#[65, 117, 103]⟩, .string ⟨#[83, 101, 112]⟩, .string ⟨#[79, 99, 116]⟩, .string ⟨#[78, 111, 118]⟩, .string ⟨#[68, 101, 99]⟩]) (.int .i64 k)).run Tryz.prog w = .ok (.string (monthS k)) w := by
  refine run_index_agg 129 9 12 _ _ _ _ Tryz.underlying129 isAggStr sizeOfStr (by omega) (by omega) ?_ w
  rw [Int.toNat_natCast]
  match k, hk with
  | 0, _ | 1, _ | 2, _ | 3, _ | 4, _ | 5, _ | 6, _ | 7, _ | 8, _ | 9, _ | 10, _ | 11, _ => rfl
theorem run_wday (k : Nat) (hk : k < 7) (w : World) : (Instr.index 131 (.agg #[.string ⟨#[77, 111, 110]⟩, .string ⟨#[84, 117, 101]⟩, .string ⟨#[87, 101, 100]⟩, .string ⟨#[84, 104, 117]⟩, .string ⟨#[70, 114, 105]⟩, .string ⟨#[83, 97, 116]⟩, .string ⟨#[83, 117, 110]⟩]) (.int .i64 k)).run Tryz.prog w = .ok (.string (wdayS k)) w := by
  refine run_index_agg 131 9 7 _ _ _ _ Tryz.underlying131 isAggStr sizeOfStr (by omega) (by omega) ?_ w
  rw [Int.toNat_natCast]
  match k, hk with
  | 0, _ | 1, _ | 2, _ | 3, _ | 4, _ | 5, _ | 6, _ => rfl

set_option maxHeartbeats 400000 in
theorem month_any (k : Nat) (w : World) (hk : k < 12) :
    Calls Tryz.prog 110 #[.int .i64 k] w fun e w' => e = .returned (.string (monthS k)) ∧ w = w' := by
  have hi := run_month k hk
  go_enter Tryz.func110, Tryz.ntmps110
  go_wp2
  go_ret
  exact ⟨rfl, rfl⟩
set_option maxHeartbeats 400000 in
theorem wday_any (k : Nat) (w : World) (hk : k < 7) :
    Calls Tryz.prog 112 #[.int .i64 k] w fun e w' => e = .returned (.string (wdayS k)) ∧ w = w' := by
  have hi := run_wday k hk
  go_enter Tryz.func112, Tryz.ntmps112
  go_wp2
  go_ret
  exact ⟨rfl, rfl⟩

set_option maxHeartbeats 400000 in
theorem index_month (s : ByteArray) (w : World) :
    Calls Tryz.prog 109 #[.int .i64 12, .func (.func 110) #[] #[], .string s] w fun e w' => e = .returned (.int .i64 (nameFrom monthS (bs s) 12 0)) ∧ w = w' := by
  go_enter Tryz.func109, Tryz.ntmps109
  go_wp2
  go_loop [9] (fun j => ∃ k : Nat, k ≤ 12 ∧ j = .int .i64 k ∧ Hid (nameFrom monthS (bs s) 12 0 = nameFrom monthS (bs s) (12 - k) k)) (fun j => 12 - (intOf j).toNat)
  case atStart => exact ⟨0, by omega, rfl, Lib.hid rfl⟩
  case round =>
    obtain ⟨k, hk, rfl, H⟩ := hrel
    by_cases hlt : k < 12
    · have Hs : Hid (nameFrom monthS (bs s) (12 - k) k = if (bs (monthS k) == bs s) = true then (k : Int) else nameFrom monthS (bs s) (12 - (k + 1)) (k + 1)) := Lib.hid (by
        rw [show 12 - k = (12 - (k + 1)) + 1 from by omega, nameFrom])
      cases hb : ((monthS k).toList == s.toList) with
      | true =>
        go_wp2_with (go_at_call 110; refine (month_any _ _ hlt).mono ?_; rintro e w' ⟨rfl, rfl⟩)
        go_ret
        exact ⟨ret_int (by rw [H.out, Hs.out, if_pos (by rw [Lib.toList_data, Lib.toList_data] at hb; exact hb)]), rfl⟩
      | false =>
        go_wp2_with (go_at_call 110; refine (month_any _ _ hlt).mono ?_; rintro e w' ⟨rfl, rfl⟩)
        go_round
        case rel => exact ⟨k + 1, by omega, by go_num, Lib.hid (by rw [H.out, Hs.out, if_neg (by rw [Lib.toList_data, Lib.toList_data] at hb; rw [hb]; decide)])⟩
        case measure => simp [intOf]; omega
    · obtain rfl : k = 12 := by omega
      go_wp2
      go_ret
      exact ⟨ret_int (by rw [H.out]; rfl), rfl⟩
set_option maxHeartbeats 400000 in
theorem index_wday (s : ByteArray) (w : World) :
    Calls Tryz.prog 109 #[.int .i64 7, .func (.func 112) #[] #[], .string s] w fun e w' => e = .returned (.int .i64 (nameFrom wdayS (bs s) 7 0)) ∧ w = w' := by
  go_enter Tryz.func109, Tryz.ntmps109
  go_wp2
  go_loop [9] (fun j => ∃ k : Nat, k ≤ 7 ∧ j = .int .i64 k ∧ Hid (nameFrom wdayS (bs s) 7 0 = nameFrom wdayS (bs s) (7 - k) k)) (fun j => 7 - (intOf j).toNat)
  case atStart => exact ⟨0, by omega, rfl, Lib.hid rfl⟩
  case round =>
    obtain ⟨k, hk, rfl, H⟩ := hrel
    by_cases hlt : k < 7
    · have Hs : Hid (nameFrom wdayS (bs s) (7 - k) k = if (bs (wdayS k) == bs s) = true then (k : Int) else nameFrom wdayS (bs s) (7 - (k + 1)) (k + 1)) := Lib.hid (by
        rw [show 7 - k = (7 - (k + 1)) + 1 from by omega, nameFrom])
      cases hb : ((wdayS k).toList == s.toList) with
      | true =>
        go_wp2_with (go_at_call 112; refine (wday_any _ _ hlt).mono ?_; rintro e w' ⟨rfl, rfl⟩)
        go_ret
        exact ⟨ret_int (by rw [H.out, Hs.out, if_pos (by rw [Lib.toList_data, Lib.toList_data] at hb; exact hb)]), rfl⟩
      | false =>
        go_wp2_with (go_at_call 112; refine (wday_any _ _ hlt).mono ?_; rintro e w' ⟨rfl, rfl⟩)
        go_round
        case rel => exact ⟨k + 1, by omega, by go_num, Lib.hid (by rw [H.out, Hs.out, if_neg (by rw [Lib.toList_data, Lib.toList_data] at hb; rw [hb]; decide)])⟩
        case measure => simp [intOf]; omega
    · obtain rfl : k = 7 := by omega
      go_wp2
      go_ret
      exact ⟨ret_int (by rw [H.out]; rfl), rfl⟩

-- the reference's reader of digits at an index
set_option maxHeartbeats 400000 in
theorem digits_any (s : ByteArray) (i n j : Nat) (ai an : Int) (w : World) (h1 : ai = i) (h2 : an = n) (h3 : j = i + n) (hs : s.size ≤ 100000) (hi : j ≤ s.size) :
    Calls Tryz.prog 88 #[.string s, .int .i64 ai, .int .i64 an] w fun e w' => e = .returned (numV (bs (s.extract i j))) ∧ w = w' := by
  subst h1 h2
  have hij : i ≤ j := by omega
  have hji : j ≤ i + n := by omega
  have h4 := Lib.hid h3
  clear h3
  have ej : (i : Int) + (n : Int) = (j : Int) := by have := h4.out; omega
  go_enter Tryz.func88, Tryz.ntmps88
  go_wp2
  go_loop [8] (fun x => ∃ k : Nat, i ≤ k ∧ k ≤ j ∧ x = .int .i64 k) (fun x => j - (intOf x).toNat)
  case atStart => exact ⟨i, by omega, by omega, by go_num⟩
  case round =>
    obtain ⟨k, hik, hk, rfl⟩ := hrel
    by_cases hlt : k < j
    · have hks : k < s.size := by omega
      cases hd : digB s[k] with
      | false =>
        go_wp2_with (go_at_call 102; refine (digit_any _ _).mono ?_; rintro e w' ⟨rfl, rfl⟩)
        go_ret2
        exact ⟨by rw [numV_none (numGo_bad _ _ ⟨s[k], mem_extract s hik hlt hi, hd⟩)]; rfl, rfl⟩
      | true =>
        go_wp2_with (go_at_call 102; refine (digit_any _ _).mono ?_; rintro e w' ⟨rfl, rfl⟩)
        go_round
        case rel => exact ⟨k + 1, by omega, by omega, by go_num⟩
        case measure => simp [intOf]; omega
    · obtain rfl : k = j := by omega
      have hsz : (s.extract i k).size ≤ 140737488355328 := by simp; omega
      cases hn : numGo (bs (s.extract i k)) 0 with
      | none =>
        have Hv := numV_none hn
        clear hn
        go_wp2_with (go_at_call 73; refine (rnumber_any _ _ hsz).mono ?_; rintro e w' ⟨rfl, rfl⟩)
        go_ret2
        exact ⟨by rw [Hv]; rfl, rfl⟩
      | some a =>
        have Hv := numV_some hn
        clear hn
        generalize (!(bs (s.extract i k)).isEmpty) = b at Hv
        go_wp2_with (go_at_call 73; refine (rnumber_any _ _ hsz).mono ?_; rintro e w' ⟨rfl, rfl⟩)
        go_ret2
        exact ⟨by rw [Hv]; rfl, rfl⟩
end Go.Proofs.YtjafkpedocdfjaaGreatDoor
