/- The walk of the reference's search in a string: the index of a byte. -/
import Derived.Test.YtfnmohaddkoalaaGreatDoorQPre
namespace Go.Proofs.YtfnmohaddkoalaaGreatDoor
open Go.RowKit

set_option maxHeartbeats 400000 in
theorem index_any (s : ByteArray) (c : UInt8) (from_ : Nat) (ci fi : Int) (w : World) (h1 : ci = c.toNat) (h2 : fi = from_) (hs : s.size ≤ 9223372036854775807) (hf : from_ ≤ s.size) :
    Calls Tryz.prog 66 #[.string s, .int .u8 ci, .int .i64 fi] w fun e w' => e = .returned (.int .i64 (idxFrom c (bs s) from_)) ∧ w = w' := by
  subst h1 h2
  go_enter Tryz.func66, Tryz.ntmps66
  go_wp2
  go_loop [7] (fun j => ∃ k : Nat, k ≤ s.size ∧ j = .int .i64 k ∧ Hid (idxFrom c (bs s) from_ = idxFrom c (bs s) k)) (fun j => s.size - (intOf j).toNat)
  case atStart => exact ⟨from_, hf, rfl, Lib.hid rfl⟩
  case round =>
    obtain ⟨k, hk, rfl, H⟩ := hrel
    clear hf
    by_cases hlt : k < s.size
    · by_cases he : s[k] = c
      · have q : ((s[k].toNat : Int) == (c.toNat : Int)) = true := by rw [he]; simp
        have Hs := Lib.hid (idxFrom_hit s hlt he)
        clear he
        go_wp2
        go_ret
        exact ⟨ret_int (by rw [H.out, Hs.out]), rfl⟩
      · have q : ((s[k].toNat : Int) == (c.toNat : Int)) = false := by
          rw [beq_eq_false_iff_ne]; intro e; apply he
          rw [← UInt8.toNat_inj]; omega
        have Hs := Lib.hid (idxFrom_step s hlt he)
        clear he
        go_wp2
        go_round
        case rel => exact ⟨k + 1, by omega, by go_num, Lib.hid (by rw [H.out, Hs.out])⟩
        case measure => simp [intOf]; omega
    · have He := Lib.hid (idxFrom_end s (k := k) c (by omega))
      go_wp2
      go_ret
      exact ⟨ret_int (by rw [H.out, He.out]), rfl⟩
theorem bs_take (s : ByteArray) (i : Nat) : bs (s.extract 0 i) = (bs s).take i := by unfold bs; rw [Lib.extract_data]; simp
theorem bs_from (s : ByteArray) (i : Nat) : bs (s.extract i s.size) = (bs s).drop i := by
  unfold bs; rw [Lib.extract_data]
  exact List.take_of_length_le (by rw [List.length_drop, ← Lib.size_eq]; exact Nat.le_refl _)
theorem bs_mid_ix (s : ByteArray) (i j : Nat) : bs (s.extract i j) = ((bs s).drop i).take (j - i) := Lib.extract_data s i j
theorem of_bs {s : ByteArray} {l : List UInt8} (h : bs s = l) : s = ⟨l.toArray⟩ := by rw [← h]
end Go.Proofs.YtfnmohaddkoalaaGreatDoor
