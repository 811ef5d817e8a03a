/- The walks of lower case and fold (1.2) of the reference. -/
import Derived.Test.YtfnmohaddkoalaaGreatDoorQPre
namespace Go.Proofs.YtfnmohaddkoalaaGreatDoor
open Go.RowKit

set_option maxHeartbeats 400000 in
theorem rlower_any (s : ByteArray) (w : World) (hs : s.size ≤ 9223372036854775807) :
    Calls Tryz.prog 60 #[.string s] w fun e w' => e = .returned (.string ⟨(lowL (bs s)).toArray⟩) ∧ Below w.heap.size w w' := by
  obtain ⟨cap, w1, hcv, hB, hbel, hsz⟩ := conv_to_bytes (P := Tryz.prog) 9 85 5 s w Tryz.underlying9 Tryz.underlying85 Tryz.underlying5
  go_enter Tryz.func60, Tryz.ntmps60
  go_wp2
  go_loopw [4] (fun j wr => ∃ k : Nat, k ≤ s.size ∧ j = .int .i64 k ∧ BytesAt wr w.heap.size (lowUpTo (bs s) k) ∧ Below w.heap.size w wr) (fun j _ => s.size - (intOf j).toNat)
  case atStart => exact ⟨0, by omega, rfl, by rw [lowUpTo_zero]; exact hB, hbel⟩
  case round =>
    obtain ⟨k, hk, rfl, hB1, hb1⟩ := hrel
    clear hB hbel hsz hcv
    by_cases hlt : k < s.size
    · obtain ⟨c, hc, hf, hkeep, hset⟩ := low_facts hB1 hlt
      clear hB1
      have hcb : c.toNat < 256 := UInt8.toNat_lt c
      by_cases hu : 65 ≤ c.toNat ∧ c.toNat ≤ 90
      · have h1 : 65 ≤ (c.toNat : Int) := by omega
        have h2 : (c.toNat : Int) ≤ 90 := by omega
        rw [lowC_hit hu] at hset
        clear hkeep
        have H := Lib.hid hset
        clear hset
        go_wp2
        go_roundw
        case rel => exact ⟨k + 1, by omega, by go_num, H.out, hb1.setCell (Nat.le_refl _) _⟩
        case measure => simp [intOf]; omega
      · have hset' := hkeep (lowC_miss hu)
        clear hset hkeep
        have H := Lib.hid hset'
        clear hset'
        by_cases h65 : 65 ≤ (c.toNat : Int)
        · have h90 : ¬ (c.toNat : Int) ≤ 90 := by omega
          go_wp2
          go_roundw
          case rel => exact ⟨k + 1, by omega, by go_num, H.out, hb1⟩
          case measure => simp [intOf]; omega
        · go_wp2
          go_roundw
          case rel => exact ⟨k + 1, by omega, by go_num, H.out, hb1⟩
          case measure => simp [intOf]; omega
    · have hcv := conv_from_bytes (P := Tryz.prog) 85 9 5 w.heap.size s.size cap (lowL (bs s)) wr Tryz.underlying85 Tryz.underlying5 Tryz.underlying9 (by rw [lowL_length, bs_length]) (low_end hB1 (by omega))
      clear hB1
      go_wp2
      go_ret
      exact ⟨rfl, hb1⟩
set_option maxHeartbeats 400000 in
theorem rfold_any (s t : ByteArray) (w : World) (hs : s.size ≤ 9223372036854775807) (ht : t.size ≤ 9223372036854775807) :
    Calls Tryz.prog 38 #[.string s, .string t] w fun e w' => e = .returned (.bool (foldB (bs s) (bs t))) ∧ Below w.heap.size w w' := by
  by_cases hl : s.size = t.size
  · have hl' : ((s.size : Int) == (t.size : Int)) = true := by simp [hl]
    have H := Lib.hid hl
    clear hl
    go_enter Tryz.func38, Tryz.ntmps38
    go_wp2_with fail
    refine (rlower_any s _ hs).mono ?_
    rintro e w1 ⟨rfl, hb1⟩
    go_wp2_with fail
    refine (rlower_any t _ ht).mono ?_
    rintro e w2 ⟨rfl, hb2⟩
    go_wp2_with fail
    go_ret
    exact ⟨ret_bool (by simp [foldB, H.out]), hb1.trans (hb2.mono hb1.size)⟩
  · have hl' : ((s.size : Int) == (t.size : Int)) = false := by simp; omega
    have H := Lib.hid hl
    clear hl
    go_enter Tryz.func38, Tryz.ntmps38
    go_wp2_with fail
    go_ret
    exact ⟨ret_bool (by simp [foldB, H.out]), Below.refl _ _⟩
end Go.Proofs.YtfnmohaddkoalaaGreatDoor
