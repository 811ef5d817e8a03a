/- The walks of the reference's searches in a string: the index of a byte, visible text. -/
import Derived.Test.YthdbgiklniiglaaDoorCutP
import Derived.Test.YthdbgiklniiglaaDoorStartP
import Derived.Test.YthdbgiklniiglaaDoorBufW
namespace Go.Proofs.YthdbgiklniiglaaDoor
open Go.RowKit

set_option maxHeartbeats 400000 in
theorem index_any (s : ByteArray) (c : UInt8) (from_ : Nat) (ci fi : Int) (w : World) (h1 : ci = c.toNat) (h2 : fi = from_) (hs : s.size ≤ 9223372036854775807) (hf : from_ ≤ s.size) :
    Calls Tryd.prog 48 #[.string s, .int .u8 ci, .int .i64 fi] w fun e w' => e = .returned (.int .i64 (idxFrom c (bs s) from_)) ∧ w = w' := by
  subst h1 h2
  go_enter Tryd.func48, Tryd.ntmps48
  go_wp2
  go_loop [7] (fun j => ∃ k : Nat, k ≤ s.size ∧ j = .int .i64 k ∧ Hid (idxFrom c (bs s) from_ = idxFrom c (bs s) k)) (fun j => s.size - (intOf j).toNat)
  case atStart => exact ⟨from_, hf, rfl, Lib.hid rfl⟩
  case round =>
    obtain ⟨k, hk, rfl, H⟩ := hrel
    clear hf
    by_cases hlt : k < s.size
    · by_cases he : s[k] = c
      · have q : ((s[k].toNat : Int) == (c.toNat : Int)) = true := by rw [he]; simp
        have Hs := Lib.hid (idxFrom_hit s hlt he)
        clear he
        go_wp2
        go_ret
        exact ⟨ret_int (by rw [H.out, Hs.out]), rfl⟩
      · have q : ((s[k].toNat : Int) == (c.toNat : Int)) = false := by
          rw [beq_eq_false_iff_ne]; intro e; apply he
          rw [← UInt8.toNat_inj]; omega
        have Hs := Lib.hid (idxFrom_step s hlt he)
        clear he
        go_wp2
        go_round
        case rel => exact ⟨k + 1, by omega, by go_num, Lib.hid (by rw [H.out, Hs.out])⟩
        case measure => simp [intOf]; omega
    · have He := Lib.hid (idxFrom_end s (k := k) c (by omega))
      go_wp2
      go_ret
      exact ⟨ret_int (by rw [H.out, He.out]), rfl⟩
set_option maxHeartbeats 400000 in
theorem rvisible_any (s : ByteArray) (w : World) (hs : s.size ≤ 9223372036854775807) :
    Calls Tryd.prog 49 #[.string s] w fun e w' => e = .returned (.bool (visB (bs s))) ∧ w = w' := by
  go_enter Tryd.func49, Tryd.ntmps49
  go_wp2
  go_loop [3] (fun j => ∃ k : Nat, k ≤ s.size ∧ j = .int .i64 k ∧ Hid ((bs s).all visC = ((bs s).drop k).all visC)) (fun j => s.size - (intOf j).toNat)
  case atStart => exact ⟨0, by omega, rfl, Lib.hid rfl⟩
  case round =>
    obtain ⟨k, hk, rfl, H⟩ := hrel
    by_cases hlt : k < s.size
    · have Hs := Lib.hid (all_step visC s hlt)
      by_cases h1 : 33 ≤ s[k].toNat
      · have k1 : ¬ (s[k].toNat : Int) < 33 := by omega
        by_cases h2 : s[k].toNat ≤ 126
        · have k2 : ¬ 126 < (s[k].toNat : Int) := by omega
          have hd := Lib.hid (visC_true ⟨h1, h2⟩)
          clear h1 h2
          go_wp2
          go_round
          case rel => exact ⟨k + 1, by omega, by go_num, Lib.hid (by rw [H.out, Hs.out, hd.out]; rfl)⟩
          case measure => simp [intOf]; omega
        · have k2 : 126 < (s[k].toNat : Int) := by omega
          have hd := Lib.hid (visC_false (c := s[k]) fun h => h2 h.2)
          clear h1 h2
          go_wp2
          go_ret
          exact ⟨ret_bool (by unfold visB; rw [H.out, Hs.out, hd.out]; rfl), rfl⟩
      · have k1 : (s[k].toNat : Int) < 33 := by omega
        have hd := Lib.hid (visC_false (c := s[k]) fun h => h1 h.1)
        clear h1
        go_wp2
        go_ret
        exact ⟨ret_bool (by unfold visB; rw [H.out, Hs.out, hd.out]; rfl), rfl⟩
    · have He := Lib.hid (all_end visC s (k := k) (by omega))
      go_wp2
      go_ret
      exact ⟨ret_bool (by unfold visB; rw [H.out, He.out]; simp [Lib.toList_data]), rfl⟩
theorem bs_take (s : ByteArray) (i : Nat) : bs (s.extract 0 i) = (bs s).take i := by unfold bs; rw [Lib.extract_data]; simp
theorem bs_from (s : ByteArray) (i : Nat) : bs (s.extract i s.size) = (bs s).drop i := by
  unfold bs; rw [Lib.extract_data]
  exact List.take_of_length_le (by rw [List.length_drop, ← Lib.size_eq]; exact Nat.le_refl _)
theorem bs_mid (s : ByteArray) (i j : Nat) : bs (s.extract i j) = ((bs s).drop i).take (j - i) := Lib.extract_data s i j
theorem of_bs {s : ByteArray} {l : List UInt8} (h : bs s = l) : s = ⟨l.toArray⟩ := by rw [← h]
end Go.Proofs.YthdbgiklniiglaaDoor
