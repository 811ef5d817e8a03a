/- The walks of strconv.FormatInt at the base 16. Printed by gen_fmtw.py. -/
import Derived.Test.YtfnmohaddkoalaaDoorChunkP
import Derived.Test.YtfnmohaddkoalaaDoorRowW
import Derived.Test.YtfnmohaddkoalaaDoorEnvW
import Derived.Test.YtfnmohaddkoalaaDoorBufW
import Derived.IntWalk
namespace Go.Proofs.YtfnmohaddkoalaaDoor
open Go.RowKit Go.Shelf
set_option linter.unusedSimpArgs false

abbrev DeB (w : World) : Prop := w.cell? ⟨5, 15, none⟩ = some (.int .u8 4)
theorem DeB.below {w w' : World} (h : DeB w) (hb : Below w.heap.size w w') : DeB w' := (hb.cell (World.block_lt_of_cell? _ _ h)).trans h
set_option maxHeartbeats 800000 in
theorem tz64_16 (w : World) (h : DeB w) : Calls Tryd.prog 104 #[.int .u64 16] w fun e w' => e = .returned (.int .i64 4) ∧ w' = w := by
  have a0 : bits .and .u64 16 18446744073709551600 = 16 := by decide +kernel
  have a1 : IntKind.u64.wrap (-16) = 18446744073709551600 := by decide +kernel
  have a2 : IntKind.u64.wrap 4573923408821661840 = 4573923408821661840 := by decide +kernel
  go_enter Tryd.func104, Tryd.ntmps104
  go_wp2_with fail
  go_ret
  exact ⟨rfl, rfl⟩
theorem tz_16 (w : World) (h : DeB w) : Calls Tryd.prog 93 #[.int .u64 16] w fun e w' => e = .returned (.int .i64 4) ∧ w' = w := by
  have H := Lib.hid (tz64_16 w h)
  clear h
  go_enter Tryd.func93, Tryd.ntmps93
  go_wp2_with fail
  refine H.out.mono ?_
  rintro e w1 ⟨rfl, rfl⟩
  go_wp2_with fail
  go_ret
  exact ⟨rfl, rfl⟩
theorem pow2_16 (w : World) : Calls Tryd.prog 92 #[.int .i64 16] w fun e w' => e = .returned (.bool true) ∧ w' = w := by
  have a0 : bits .and .i64 16 15 = 0 := by decide +kernel
  go_enter Tryd.func92, Tryd.ntmps92
  go_wp2_with fail
  go_ret
  exact ⟨rfl, rfl⟩
abbrev digC : ByteArray := ⟨#[48, 49, 50, 51, 52, 53, 54, 55, 56, 57, 97, 98, 99, 100, 101, 102, 103, 104, 105, 106, 107, 108, 109, 110, 111, 112, 113, 114, 115, 116, 117, 118, 119, 120, 121, 122]⟩
theorem run_digU (n : Nat) (h : n < 16) (w : World) : (Instr.index 9 (.string digC) (.int .u64 (n : Int))).run Tryd.prog w = .ok (.int .u8 ((lowD n).toNat : Int)) w := by
  rcases (show n = 0 ∨ n = 1 ∨ n = 2 ∨ n = 3 ∨ n = 4 ∨ n = 5 ∨ n = 6 ∨ n = 7 ∨ n = 8 ∨ n = 9 ∨ n = 10 ∨ n = 11 ∨ n = 12 ∨ n = 13 ∨ n = 14 ∨ n = 15 from by omega) with rfl | rfl | rfl | rfl | rfl | rfl | rfl | rfl | rfl | rfl | rfl | rfl | rfl | rfl | rfl | rfl <;> kernel_rfl
theorem and15_64 (n : Nat) (h : n < 18446744073709551616) : bits .and .u64 (n : Int) 15 = ((n % 16 : Nat) : Int) := by
  have e1 : (BitVec.ofInt IntKind.u64.bits (n : Int) &&& BitVec.ofInt IntKind.u64.bits 15).toNat = n % 16 := by
    show (BitVec.ofInt 64 (n : Int) &&& BitVec.ofInt 64 15).toNat = n % 16
    rw [BitVec.toNat_and, BitVec.ofInt_natCast, BitVec.toNat_ofNat, Nat.mod_eq_of_lt h]
    exact Nat.and_two_pow_sub_one_eq_mod n 4
  unfold bits
  simp only [e1]
  show IntKind.u64.wrap ((n % 16 : Nat) : Int) = _
  unfold IntKind.wrap
  simp [IntKind.bits, IntKind.signed]
  omega
abbrev dgV (l : List UInt8) : List Value := l.map fun c => Value.int .u8 (c.toNat : Int)
theorem set_front (z v : Value) (L : List Value) : ∀ k : Nat, (List.replicate (k + 1) z ++ L).set k v = List.replicate k z ++ v :: L
  | 0 => rfl
  | k + 1 => by rw [List.replicate_succ, List.cons_append, List.set_cons_succ, set_front z v L k, List.replicate_succ]; rfl
theorem front_cell (k : Nat) (z : Value) (L : List Value) : (List.replicate (k + 1) z ++ L)[k]? = some z := by
  rw [List.getElem?_append_left (by simp)]; simp
theorem conv_from_row {P : Program} (src dst e t : TypeId) (g k n cap : Nat) (z : Value) (l : List UInt8) (w : World) (hs : P.underlying src = some (.slice e)) (he : P.underlying e = some (.int .u8)) (hd : P.underlying dst = some .string)
    (hn : l.length = n) (h : RowAt w g t (List.replicate k z ++ dgV l)) : (convert src dst (.slice (some ⟨g, k, none⟩) n cap)).run P w = .ok (.string ⟨l.toArray⟩) w := by
  subst hn
  refine run_convert_bytes_back w src dst e ⟨g, k, none⟩ cap l hs he hd fun j hj => ?_
  have : (⟨g, k, none⟩ : Addr).add j = ⟨g, k + j, none⟩ := by unfold Addr.add; by_cases h0 : j = 0 <;> simp [h0]
  rw [this]
  refine h.cell (k + j) ?_
  rw [List.getElem?_append_right (by simp)]
  simp [dgV, List.getElem?_eq_getElem hj]
theorem run_sl65 (g K n : Nat) (h : K + n = 65) (hn : 0 < n) (w : World) : (Instr.sliceAt 112 (.pointer (some ⟨g, 0, none⟩)) (some (.int .i64 (K : Int))) none none).run Tryd.prog w = .ok (.slice (some ⟨g, K, none⟩) n n) w := by
  have e0 : Tryd.prog.arrayLen 112 = 65 := by kernel_rfl
  have e1 : (sizeOf (Tryd.prog.elem 112)).run Tryd.prog w = .ok 1 w := by kernel_rfl
  rw [run_sliceAt_array_l w 112 ⟨g, 0, none⟩ (by kernel_rfl) .i64 (K : Int) (by omega) (by rw [e0]; omega), e1]
  rw [Result.andThen_ok]
  unfold slicedAt
  rw [e0, Int.toNat_natCast, if_neg (by omega), Nat.mul_one, show 65 - K = n by omega]
  have e2 : (⟨g, 0, none⟩ : Addr).add K = ⟨g, K, none⟩ := by unfold Addr.add; by_cases h0 : K = 0 <;> simp [h0]
  rw [e2]
set_option maxRecDepth 100000 in
set_option maxHeartbeats 3200000 in
theorem fbits_any (n : Nat) (w : World) (hn : n < 9223372036854775808) (hD : DeB w) :
    Calls Tryd.prog 76 #[.slice none 0 0, .int .u64 n, .int .i64 16, .bool false, .bool false] w fun e w' => e = .returned (.tuple #[.slice none 0 0, .string ⟨(hexN n).toArray⟩]) ∧ Below w.heap.size w w' := by
  have H64 := Lib.hid hD
  have hlen : (hexN n).length ≤ 16 := hexN_len 16 n (by omega) (by have : (16 : Nat) ^ 16 = 18446744073709551616 := by decide
                                                                   omega)
  have HL := Lib.hid hlen
  clear hD hlen
  go_enter Tryd.func76, Tryd.ntmps76
  go_wp2_with fail
  refine (pow2_16 _).mono ?_
  rintro e w1 ⟨rfl, rfl⟩
  go_wp2_with fail
  refine (tz_16 _ (H64.out.below ((Below.refl _ _).alloc (Nat.le_refl _) _))).mono ?_
  rintro e w1 ⟨rfl, rfl⟩
  go_wp2_with fail
  go_loopw [1, 13] (fun u i wr => ∃ (x k : Nat) (l : List UInt8), u = .int .u64 x ∧ i = .int .i64 k ∧ x ≤ n ∧ k + l.length = 65 ∧ Hid (hexN n = hexN x ++ l) ∧ RowAt wr w.heap.size 112 (List.replicate k (.int .u8 0) ++ dgV l) ∧ Below w.heap.size w wr) (fun u _ _ => (intOf u).toNat)
  case atStart => exact ⟨n, 65, [], rfl, rfl, Nat.le_refl _, rfl, Lib.hid (List.append_nil _).symm, RowAt.new w _ _, (Below.refl _ _).alloc (Nat.le_refl _) _⟩
  case round =>
    obtain ⟨x, k, l, rfl, rfl, hx, hkl, HH, R, hb⟩ := hrel
    have hk1 : 50 ≤ k := by
      have h1 := congrArg List.length HH.out
      rw [List.length_append] at h1
      have h2 := HL.out
      have h3 := List.length_pos_iff.2 (hexN_ne x)
      omega
    obtain ⟨K, hK⟩ : ∃ K, k = K + 1 := ⟨k - 1, by omega⟩
    obtain ⟨d, hd⟩ : ∃ d : Nat, d = x % 16 := ⟨_, rfl⟩
    have hd16 : d < 16 := by omega
    have hm1 : (k : Int) - 1 = (K : Int) := by omega
    have hand : bits .and .u64 (x : Int) 15 = (d : Int) := by rw [and15_64 x (by omega), hd]
    have u1 := run_digU d hd16
    have R' := Lib.hid R
    rw [hK] at R
    have cK := R.cell K (front_cell K _ _)
    have fK := R.free K
    have hK65 : (K : Int) < 65 := by omega
    obtain ⟨c, hc⟩ : ∃ c, c = lowD d := ⟨_, rfl⟩
    rw [← hc] at u1
    have RS : Hid (RowAt (wr.setCell ⟨w.heap.size, K, none⟩ (.int .u8 (c.toNat : Int))) w.heap.size 112 (List.replicate K (.int .u8 0) ++ dgV (c :: l))) := Lib.hid (by
      have := R.set K (.int .u8 (c.toNat : Int))
      rw [set_front] at this
      exact this)
    have bS : Below w.heap.size w (wr.setCell ⟨w.heap.size, K, none⟩ (.int .u8 (c.toNat : Int))) := hb.setCell (Nat.le_refl _) _
    by_cases h16 : 16 ≤ x
    · have h16' : (16 : Int) ≤ (x : Int) := by omega
      obtain ⟨q, hq⟩ : ∃ q : Nat, q = x / 16 := ⟨_, rfl⟩
      have a2 : (x : Int) / 16 = (q : Int) := by omega
      have a4 : Op.shift .shr .u64 (x : Int) .u64 4 = pure (.int .u64 (q : Int)) := by
        rw [shift_shr_any _ _ _ _ (by omega)]
        rw [show min (Int.toNat 4) IntKind.u64.bits = 4 from rfl, show (2 : Int) ^ 4 = 16 from rfl, a2]
      have HH2 : Hid (hexN n = hexN q ++ (c :: l)) := Lib.hid (by rw [HH.out, hexN_more (u := x) (by omega), ← hq, ← hd, ← hc]; simp)
      have hqx : q < x := by omega
      have hKl : K + (c :: l).length = 65 := by rw [List.length_cons]; omega
      have HK := Lib.hid hK
      have HKl := Lib.hid hKl
      clear hK hd hq hc R hkl hKl
      go_wp2_with fail
      go_round
      case rel => exact ⟨q, K, c :: l, rfl, rfl, by omega, HKl.out, HH2, RS.out, bS⟩
      case measure => simp [intOf]; omega
    · have h16' : ¬ (16 : Int) ≤ (x : Int) := by omega
      have HC : Hid (hexN n = c :: l) := Lib.hid (by rw [HH.out, hexN_one (u := x) (by omega), show x = d by omega, hc]; rfl)
      have HK := Lib.hid hK
      have hKl : K + (c :: l).length = 65 := by rw [List.length_cons]; omega
      have HKl := Lib.hid hKl
      have h16x : x = d := by omega
      clear hK hd hc R hkl hKl
      subst h16x
      obtain ⟨m, hm⟩ : ∃ m, m = (c :: l).length := ⟨_, rfl⟩
      have sl := run_sl65 w.heap.size K m (by rw [hm]; exact HKl.out) (by rw [hm, List.length_cons]; omega)
      have cv := conv_from_row (P := Tryd.prog) 45 9 5 112 w.heap.size K m m (.int .u8 0) (c :: l) _ Tryd.underlying45 Tryd.underlying5 Tryd.underlying9 hm.symm RS.out
      obtain ⟨X, hX⟩ : ∃ X : ByteArray, X = ⟨(c :: l).toArray⟩ := ⟨_, rfl⟩
      have HX : Hid (X = ⟨(hexN n).toArray⟩) := Lib.hid (by rw [hX, HC.out])
      rw [← hX] at cv
      clear hm hX
      go_wp2_with fail
      go_ret2
      exact ⟨by rw [HX.out]; rfl, bS⟩
theorem fint0_any (n : Nat) (w : World) (hn : n < 9223372036854775808) (hD : DeB w) :
    Calls Tryd.prog 54 #[.int .i64 n, .int .i64 16] w fun e w' => e = .returned (.string ⟨(hexN n).toArray⟩) ∧ Below w.heap.size w w' := by
  have H := Lib.hid (fbits_any n w hn hD)
  clear hD
  have n0 : ¬ (n : Int) < 0 := by omega
  have hw : IntKind.u64.wrap (n : Int) = (n : Int) := by unfold IntKind.wrap; simp [IntKind.bits, IntKind.signed]; omega
  go_enter Tryd.func54, Tryd.ntmps54
  go_wp2_with fail
  refine H.out.mono ?_
  rintro e w1 ⟨rfl, hb⟩
  go_wp2_with fail
  go_ret
  exact ⟨rfl, hb⟩
theorem fint_any (n : Nat) (w : World) (hn : n < 9223372036854775808) (hD : DeB w) :
    Calls Tryd.prog 37 #[.int .i64 n, .int .i64 16] w fun e w' => e = .returned (.string ⟨(hexN n).toArray⟩) ∧ Below w.heap.size w w' := by
  have H := Lib.hid (fint0_any n w hn hD)
  clear hD
  go_enter Tryd.func37, Tryd.ntmps37
  go_wp2_with fail
  refine H.out.mono ?_
  rintro e w1 ⟨rfl, hb⟩
  go_wp2_with fail
  go_ret
  exact ⟨rfl, hb⟩
end Go.Proofs.YtfnmohaddkoalaaDoor
