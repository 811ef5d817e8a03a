/- The walks of lower case and fold (1.2) of the program. -/
import Derived.Test.YtfnmohaddkoalaaDoorQPre
import Derived.Test.YtfnmohaddkoalaaDoorQBuf
import Derived.Test.YtfnmohaddkoalaaDoorProg
import Derived.WalkKit
import Derived.WalkSpells
import Derived.WalkLawsBesides
namespace Go.Proofs.YtfnmohaddkoalaaDoor
open Go.RowKit

theorem low_facts {wr : World} {g k : Nat} {s : ByteArray} (hB : BytesAt wr g (lowUpTo (bs s) k)) (hlt : k < s.size) :
    ∃ c : UInt8, wr.cell? ⟨g, k, none⟩ = some (.int .u8 (c.toNat : Int)) ∧ wr.frozen? ⟨g, k, none⟩ = false ∧ (lowC c = c → BytesAt wr g (lowUpTo (bs s) (k + 1))) ∧
      BytesAt (wr.setCell ⟨g, k, none⟩ (.int .u8 ((lowC c).toNat : Int))) g (lowUpTo (bs s) (k + 1)) := by
  have hkl : k < (bs s).length := by rw [bs_length]; exact hlt
  have hkl' : k < (lowUpTo (bs s) k).length := by rw [lowUpTo_length]; exact hkl
  refine ⟨(bs s)[k], ?_, hB.free k hkl', fun h => ?_, ?_⟩
  · rw [hB.cell k hkl', lowUpTo_get _ hkl]
  · rw [← lowUpTo_keep _ hkl h]; exact hB
  · rw [← lowUpTo_step _ hkl]; exact hB.set hkl' _
theorem low_end {wr : World} {g k : Nat} {s : ByteArray} (hB : BytesAt wr g (lowUpTo (bs s) k)) (hk : s.size ≤ k) : BytesAt wr g (lowL (bs s)) := by
  rw [← lowUpTo_end (bs s) (by rw [bs_length]; exact hk)]; exact hB
set_option maxHeartbeats 400000 in
theorem lower_any (s : ByteArray) (w : World) (hs : s.size ≤ 9223372036854775807) :
    Calls Tryd.prog 46 #[.string s] w fun e w' => e = .returned (.string ⟨(lowL (bs s)).toArray⟩) ∧ Below w.heap.size w w' := by
  obtain ⟨cap, w1, hcv, hB, hbel, hsz⟩ := conv_to_bytes (P := Tryd.prog) 9 45 5 s w Tryd.underlying9 Tryd.underlying45 Tryd.underlying5
  go_enter Tryd.func46, Tryd.ntmps46
  go_wp2
  go_loopw [10] (fun j wr => ∃ k : Nat, k ≤ s.size ∧ j = .int .i64 k ∧ BytesAt wr w.heap.size (lowUpTo (bs s) k) ∧ Below w.heap.size w wr) (fun j _ => s.size - (intOf j).toNat)
  case atStart => exact ⟨0, by omega, rfl, by rw [lowUpTo_zero]; exact hB, hbel⟩
  case round =>
    obtain ⟨k, hk, rfl, hB1, hb1⟩ := hrel
    clear hB hbel hsz hcv
    by_cases hlt : k < s.size
    · obtain ⟨c, hc, hf, hkeep, hset⟩ := low_facts hB1 hlt
      clear hB1
      have hcb : c.toNat < 256 := UInt8.toNat_lt c
      by_cases hu : 65 ≤ c.toNat ∧ c.toNat ≤ 90
      · have h1 : 65 ≤ (c.toNat : Int) := by omega
        have h2 : (c.toNat : Int) ≤ 90 := by omega
        have e : (c.toNat : Int) + 97 - 65 = (c.toNat : Int) + 32 := by omega
        rw [lowC_hit hu, ← e] at hset
        clear hkeep e
        have H := Lib.hid hset
        clear hset
        go_wp2
        go_roundw
        case rel => exact ⟨k + 1, by omega, by go_num, H.out, hb1.setCell (Nat.le_refl _) _⟩
        case measure => simp [intOf]; omega
      · have hset' := hkeep (lowC_miss hu)
        clear hset hkeep
        have H := Lib.hid hset'
        clear hset'
        go_wp2
        all_goals
          go_roundw
          case rel => exact ⟨k + 1, by omega, by go_num, H.out, hb1⟩
          case measure => simp [intOf]; omega
    · have hcv := conv_from_bytes (P := Tryd.prog) 45 9 5 w.heap.size s.size cap (lowL (bs s)) wr Tryd.underlying45 Tryd.underlying5 Tryd.underlying9 (by rw [lowL_length, bs_length]) (low_end hB1 (by omega))
      clear hB1
      go_wp2
      go_ret
      exact ⟨rfl, hb1⟩

set_option maxHeartbeats 400000 in
theorem fold_any (s t : ByteArray) (w : World) (hs : s.size ≤ 9223372036854775807) (ht : t.size ≤ 9223372036854775807) :
    Calls Tryd.prog 57 #[.string s, .string t] w fun e w' => e = .returned (.bool (foldB (bs s) (bs t))) ∧ Below w.heap.size w w' := by
  by_cases hl : s.size = t.size
  · have hl' : ((s.size : Int) == (t.size : Int)) = true := by simp [hl]
    have H := Lib.hid hl
    clear hl
    go_enter Tryd.func57, Tryd.ntmps57
    go_wp2_with fail
    refine (lower_any s _ hs).mono ?_
    rintro e w1 ⟨rfl, hb1⟩
    go_wp2_with fail
    refine (lower_any t _ ht).mono ?_
    rintro e w2 ⟨rfl, hb2⟩
    go_wp2_with fail
    go_ret
    exact ⟨ret_bool (by simp [foldB, H.out]), hb1.trans (hb2.mono hb1.size)⟩
  · have hl' : ((s.size : Int) == (t.size : Int)) = false := by simp; omega
    have H := Lib.hid hl
    clear hl
    go_enter Tryd.func57, Tryd.ntmps57
    go_wp2_with fail
    go_ret
    exact ⟨ret_bool (by simp [foldB, H.out]), Below.refl _ _⟩
end Go.Proofs.YtfnmohaddkoalaaDoor
