/- The walk of the reference's Decimal (1.3). -/
import Derived.Test.YtfnmohaddkoalaaGreatDoorQPre
import Derived.Lib.ItoaLen
import Derived.Lib.ItoaMem
namespace Go.Proofs.YtfnmohaddkoalaaGreatDoor
open Go.RowKit

def digC (u : Nat) : UInt8 := UInt8.ofNat (48 + u % 10)
/-- After k digits of m have been written: what is left, and the digits that stand. -/
def DecAtR (m u k : Nat) (l : List UInt8) : Prop := (k = 0 ∧ l = [] ∧ u = m) ∨ (0 < k ∧ Lib.decDigits m = (if u = 0 then [] else Lib.decDigits u) ++ l)
theorem DecAtR.step {m u k : Nat} {l : List UInt8} (h : DecAtR m u k l) (hk : u ≠ 0 ∨ k = 0) : DecAtR m (u / 10) (k + 1) (digC u :: l) := by
  refine .inr ⟨by omega, ?_⟩
  have hd : Lib.decDigits m = Lib.decDigits u ++ l := by
    rcases h with ⟨_, rfl, rfl⟩ | ⟨h1, h2⟩
    · simp
    · rw [h2, if_neg (by omega)]
  rw [hd]
  by_cases h10 : u < 10
  · rw [Lib.decDigits_one h10, show u / 10 = 0 from by omega, show digC u = UInt8.ofNat (48 + u) from by unfold digC; rw [show u % 10 = u from by omega]]; rfl
  · rw [if_neg (by omega)]
    conv => lhs; rw [Lib.decDigits, dif_neg h10]
    rw [List.append_assoc]; rfl
theorem DecAtR.done {m u k : Nat} {l : List UInt8} (h : DecAtR m u k l) (hu : u = 0) (hk : 0 < k) : l = Lib.decDigits m := by
  rcases h with ⟨h, _⟩ | ⟨_, h⟩
  · omega
  · rw [h, if_pos hu, List.nil_append]
theorem cat_mk (a b : List UInt8) : (⟨a.toArray⟩ : ByteArray) ++ ⟨b.toArray⟩ = ⟨(a ++ b).toArray⟩ := by
  apply ByteArray.ext; simp
theorem DecAtR.len {m u k : Nat} {l : List UInt8} (h : DecAtR m u k l) (hm : m ≤ 9223372036854775808) : l.length ≤ 21 := by
  rcases h with ⟨_, rfl, _⟩ | ⟨_, h⟩
  · simp
  · have h1 : (Lib.itoa (-(m : Int))).length ≤ 21 := Lib.itoa_length_le _ (by omega) (by omega)
    have h2 : (Lib.decDigits m).length ≤ 21 := by
      by_cases h0 : m = 0
      · subst h0; rw [Lib.decDigits_one (by omega)]; simp
      · rw [Lib.itoa_neg m (by omega)] at h1; simp at h1; omega
    rw [h] at h2
    simp only [List.length_append] at h2
    omega
theorem digit_nat (u : Nat) : ((digC u).toNat : Int) = 48 + (u : Int) % 10 := by simp [digC]; omega
theorem Buf.digit (w : World) (B : Nat) (e : TypeId) (u : Nat) (hB : B ≤ w.heap.size) : Buf (w.alloc (.cells #[.int .u8 (48 + (u : Int) % 10)] e)) B e (.slice (some ⟨w.heap.size, 0, none⟩) 1 1) [digC u] := by
  rw [← digit_nat]; exact Buf.one w B e _ hB
set_option maxHeartbeats 800000 in
theorem rdecimal_pos (m : Nat) (w : World) (hm : m ≤ 9223372036854775807) :
    Calls Tryz.prog 44 #[.int .i64 m] w fun e w' => e = .returned (.string ⟨(Lib.decDigits m).toArray⟩) ∧ Below w.heap.size w w' := by
  have hm1 : ¬ (m : Int) < 0 := by omega
  go_enter Tryz.func44, Tryz.ntmps44
  go_wp2
  go_loopw [0, 3, 5] (fun n v j wr => ∃ (u k : Nat) (l : List UInt8), n = .int .i64 ((u : Int)) ∧ j = .int .i64 k ∧ Buf wr w.heap.size 5 v l ∧ DecAtR m u k l ∧ u ≤ m ∧ l.length = k ∧ Below w.heap.size w wr ∧ w.heap.size ≤ wr.heap.size) (fun n _ j _ => (intOf n).natAbs + (1 - (intOf j).toNat))
  case atStart => exact ⟨m, 0, [], rfl, rfl, Buf.none_ _ _ _, .inl ⟨rfl, rfl, rfl⟩, Nat.le_refl _, rfl, Below.refl _ _, Nat.le_refl _⟩
  case round =>
    obtain ⟨u, k, l, rfl, rfl, hB, hD0, hu, hkm0, hb, hz⟩ := hrel
    have hkm : k ≤ 21 := by have := hD0.len (by omega); omega
    have Hkm := Lib.hid hkm0
    clear hkm0
    have hll := hD0.len (by omega)
    have hlen : [digC u].length + l.length ≤ 140737488355328 := by simp; omega
    by_cases h0 : u = 0
    · subst h0
      by_cases hk0 : k = 0
      · subst hk0
        have hD := Lib.hid hD0
        clear hD0
        go_wp2_with (at_builtin; refine wpList_append_bufs rfl (.tmp 26) (.tmp 27) 85 rfl w _ w.heap.size w.heap.size 5 Tryz.underlying85 infoU8 _ _ _ _ rfl (Buf.digit wr w.heap.size 5 0 hz) (hb.alloc hz _) (le_alloc hz _) rfl (hB.alloc _) hlen ?_)
        intro v1 w1 hB1 hb1 hz1
        clear hB hb hz
        go_wp2
        go_roundw
        case rel => exact ⟨0 / 10, 0 + 1, _, rfl, rfl, hB1, hD.out.step (.inr rfl), by omega, by simp [Hkm.out], hb1, hz1⟩
        case measure => simp [intOf]
      · have b2 : ((k : Int) == 0) = false := by simp; omega
        have HE := Lib.hid (hD0.done rfl (by omega))
        have hcv := conv_from_buf (P := Tryz.prog) 85 9 5 w.heap.size _ _ wr Tryz.underlying85 Tryz.underlying5 Tryz.underlying9 hB
        clear hD0 hB
        go_wp2
        go_ret
        exact ⟨by rw [← HE.out]; rfl, hb⟩
    · have b1 : ((u : Int) != 0) = true := by simp; omega
      have hD := Lib.hid hD0
      have hup : 0 < u := by omega
      clear hD0 h0
      go_wp2_with (at_builtin; refine wpList_append_bufs rfl (.tmp 26) (.tmp 27) 85 rfl w _ w.heap.size w.heap.size 5 Tryz.underlying85 infoU8 _ _ _ _ rfl (Buf.digit wr w.heap.size 5 u hz) (hb.alloc hz _) (le_alloc hz _) rfl (hB.alloc _) hlen ?_)
      intro v1 w1 hB1 hb1 hz1
      clear hB hb hz
      go_wp2
      go_roundw
      case rel => exact ⟨u / 10, k + 1, _, by go_num, by go_num, hB1, hD.out.step (.inl (by omega)), by omega, by simp [Hkm.out], hb1, hz1⟩
      case measure => simp [intOf]; omega
set_option maxHeartbeats 800000 in
theorem rdecimal_neg (m : Nat) (w : World) (hm : 0 < m) (hm2 : m ≤ 9223372036854775808) :
    Calls Tryz.prog 44 #[.int .i64 (-(m : Int))] w fun e w' => e = .returned (.string ⟨(45 :: Lib.decDigits m).toArray⟩) ∧ Below w.heap.size w w' := by
  have hm1 : -(m : Int) < 0 := by omega
  go_enter Tryz.func44, Tryz.ntmps44
  go_wp2
  go_loopw [0, 3, 5] (fun n v j wr => ∃ (u k : Nat) (l : List UInt8), n = .int .i64 (-(u : Int)) ∧ j = .int .i64 k ∧ Buf wr w.heap.size 5 v l ∧ DecAtR m u k l ∧ u ≤ m ∧ l.length = k ∧ Below w.heap.size w wr ∧ w.heap.size ≤ wr.heap.size) (fun n _ j _ => (intOf n).natAbs + (1 - (intOf j).toNat))
  case atStart => exact ⟨m, 0, [], rfl, rfl, Buf.none_ _ _ _, .inl ⟨rfl, rfl, rfl⟩, Nat.le_refl _, rfl, Below.refl _ _, Nat.le_refl _⟩
  case round =>
    obtain ⟨u, k, l, rfl, rfl, hB, hD0, hu, hkm0, hb, hz⟩ := hrel
    have hkm : k ≤ 21 := by have := hD0.len (by omega); omega
    have Hkm := Lib.hid hkm0
    clear hkm0
    have hll := hD0.len (by omega)
    have hlen : [digC u].length + l.length ≤ 140737488355328 := by simp; omega
    by_cases h0 : u = 0
    · subst h0
      by_cases hk0 : k = 0
      · exfalso
        subst hk0
        rcases hD0 with ⟨_, _, h⟩ | ⟨h, _⟩ <;> omega
      · have b2 : ((k : Int) == 0) = false := by simp; omega
        have HE := Lib.hid (hD0.done rfl (by omega))
        have hcv := conv_from_buf (P := Tryz.prog) 85 9 5 w.heap.size _ _ wr Tryz.underlying85 Tryz.underlying5 Tryz.underlying9 hB
        clear hD0 hB hk0 hm
        go_wp2
        go_ret
        exact ⟨by rw [← HE.out]; exact congrArg (fun b => Ending.returned (Value.string b)) (cat_mk [45] l), hb⟩
    · have b1 : (-(u : Int) != 0) = true := by simp; omega
      have t1 : (-(u : Int)).tmod 10 = -((u : Int) % 10) := by rw [Int.neg_tmod, Int.tmod_eq_emod_of_nonneg (by omega)]
      have t2 : (-(u : Int)).tdiv 10 = -((u : Int) / 10) := by rw [Int.neg_tdiv, Int.tdiv_eq_ediv_of_nonneg (by omega)]
      have hD := Lib.hid hD0
      have hup : 0 < u := by omega
      clear hD0 h0
      by_cases hr0 : (u : Int) % 10 = 0
      · have d1 : ¬ -((u : Int) % 10) < 0 := by omega
        have d0 : -((u : Int) % 10) = (u : Int) % 10 := by omega
        rw [d0] at t1 d1
        clear hr0 d0
        go_wp2_with (at_builtin; refine wpList_append_bufs rfl (.tmp 26) (.tmp 27) 85 rfl w _ w.heap.size w.heap.size 5 Tryz.underlying85 infoU8 _ _ _ _ rfl (Buf.digit wr w.heap.size 5 u hz) (hb.alloc hz _) (le_alloc hz _) rfl (hB.alloc _) hlen ?_)
        intro v1 w1 hB1 hb1 hz1
        clear hB hb hz
        go_wp2
        go_roundw
        case rel => exact ⟨u / 10, k + 1, _, by go_num, by go_num, hB1, hD.out.step (.inl (by omega)), by omega, by simp [Hkm.out], hb1, hz1⟩
        case measure => simp [intOf]; omega
      · have d1 : -((u : Int) % 10) < 0 := by omega
        clear hr0
        go_wp2_with (at_builtin; refine wpList_append_bufs rfl (.tmp 26) (.tmp 27) 85 rfl w _ w.heap.size w.heap.size 5 Tryz.underlying85 infoU8 _ _ _ _ rfl (Buf.digit wr w.heap.size 5 u hz) (hb.alloc hz _) (le_alloc hz _) rfl (hB.alloc _) hlen ?_)
        intro v1 w1 hB1 hb1 hz1
        clear hB hb hz
        go_wp2
        go_roundw
        case rel => exact ⟨u / 10, k + 1, _, by go_num, by go_num, hB1, hD.out.step (.inl (by omega)), by omega, by simp [Hkm.out], hb1, hz1⟩
        case measure => simp [intOf]; omega
end Go.Proofs.YtfnmohaddkoalaaGreatDoor
