/- The walks of layer 1 (ascii) and of its reference: tokens, texts, lower case. -/
import Derived.Test.YthdbgiklniiglaaDoorAsciiP
import Derived.Test.YthdbgiklniiglaaDoorBuf
import Derived.Test.YthdbgiklniiglaaDoorNumW
namespace Go.Proofs.YthdbgiklniiglaaDoor
open Go.RowKit

set_option maxHeartbeats 800000 in
theorem part_any (c : UInt8) (w : World) :
    Calls Tryd.prog 51 #[.int .u8 c.toNat] w fun e w' => e = .returned (.bool (partB c)) ∧ w = w' := by
  go_enter Tryd.func51, Tryd.ntmps51
  go_wp2
  all_goals (go_ret; exact ⟨ret_bool (by rw [Bool.eq_iff_iff]; simp only [partB, Bool.or_eq_true, Bool.and_eq_true, beq_iff_eq, decide_eq_true_eq, true_iff, Bool.false_eq_true, false_iff]; simp only [beq_eq_false_iff_ne, beq_iff_eq, ne_eq] at *; omega), rfl⟩)
theorem low_facts {wr : World} {g k : Nat} {s : ByteArray} (hB : BytesAt wr g (lowUpTo (bs s) k)) (hlt : k < s.size) :
    ∃ c : UInt8, wr.cell? ⟨g, k, none⟩ = some (.int .u8 (c.toNat : Int)) ∧ wr.frozen? ⟨g, k, none⟩ = false ∧ (lowC c = c → BytesAt wr g (lowUpTo (bs s) (k + 1))) ∧
      BytesAt (wr.setCell ⟨g, k, none⟩ (.int .u8 ((lowC c).toNat : Int))) g (lowUpTo (bs s) (k + 1)) := by
  have hkl : k < (bs s).length := by rw [bs_length]; exact hlt
  have hkl' : k < (lowUpTo (bs s) k).length := by rw [lowUpTo_length]; exact hkl
  refine ⟨(bs s)[k], ?_, hB.free k hkl', fun h => ?_, ?_⟩
  · rw [hB.cell k hkl', lowUpTo_get _ hkl]
  · rw [← lowUpTo_keep _ hkl h]; exact hB
  · rw [← lowUpTo_step _ hkl]; exact hB.set hkl' _
theorem low_end {wr : World} {g k : Nat} {s : ByteArray} (hB : BytesAt wr g (lowUpTo (bs s) k)) (hk : s.size ≤ k) : BytesAt wr g (lowL (bs s)) := by
  rw [← lowUpTo_end (bs s) (by rw [bs_length]; exact hk)]; exact hB
set_option maxHeartbeats 400000 in
theorem lower_any (s : ByteArray) (w : World) (hs : s.size ≤ 9223372036854775807) :
    Calls Tryd.prog 35 #[.string s] w fun e w' => e = .returned (.string ⟨(lowL (bs s)).toArray⟩) ∧ Below w.heap.size w w' := by
  obtain ⟨cap, w1, hcv, hB, hbel, hsz⟩ := conv_to_bytes (P := Tryd.prog) 9 55 5 s w Tryd.underlying9 Tryd.underlying55 Tryd.underlying5
  go_enter Tryd.func35, Tryd.ntmps35
  go_wp2
  go_loopw [10] (fun j wr => ∃ k : Nat, k ≤ s.size ∧ j = .int .i64 k ∧ BytesAt wr w.heap.size (lowUpTo (bs s) k) ∧ Below w.heap.size w wr) (fun j _ => s.size - (intOf j).toNat)
  case atStart => exact ⟨0, by omega, rfl, by rw [lowUpTo_zero]; exact hB, hbel⟩
  case round =>
    obtain ⟨k, hk, rfl, hB1, hb1⟩ := hrel
    clear hB hbel hsz hcv
    by_cases hlt : k < s.size
    · obtain ⟨c, hc, hf, hkeep, hset⟩ := low_facts hB1 hlt
      clear hB1
      have hcb : c.toNat < 256 := UInt8.toNat_lt c
      by_cases hu : 65 ≤ c.toNat ∧ c.toNat ≤ 90
      · have h1 : 65 ≤ (c.toNat : Int) := by omega
        have h2 : (c.toNat : Int) ≤ 90 := by omega
        have e : (c.toNat : Int) + 97 - 65 = (c.toNat : Int) + 32 := by omega
        rw [lowC_hit hu, ← e] at hset
        clear hkeep e
        have H := Lib.hid hset
        clear hset
        go_wp2
        go_roundw
        case rel => exact ⟨k + 1, by omega, by go_num, H.out, hb1.setCell (Nat.le_refl _) _⟩
        case measure => simp [intOf]; omega
      · have hset' := hkeep (lowC_miss hu)
        clear hset hkeep
        have H := Lib.hid hset'
        clear hset'
        go_wp2
        all_goals
          go_roundw
          case rel => exact ⟨k + 1, by omega, by go_num, H.out, hb1⟩
          case measure => simp [intOf]; omega
    · have hcv := conv_from_bytes (P := Tryd.prog) 55 9 5 w.heap.size s.size cap (lowL (bs s)) wr Tryd.underlying55 Tryd.underlying5 Tryd.underlying9 (by rw [lowL_length, bs_length]) (low_end hB1 (by omega))
      clear hB1
      go_wp2
      go_ret
      exact ⟨rfl, hb1⟩

set_option maxHeartbeats 400000 in
theorem fold_any (s t : ByteArray) (w : World) (hs : s.size ≤ 9223372036854775807) (ht : t.size ≤ 9223372036854775807) :
    Calls Tryd.prog 34 #[.string s, .string t] w fun e w' => e = .returned (.bool (foldB (bs s) (bs t))) ∧ Below w.heap.size w w' := by
  by_cases hl : s.size = t.size
  · have hl' : ((s.size : Int) == (t.size : Int)) = true := by simp [hl]
    have H := Lib.hid hl
    clear hl
    go_enter Tryd.func34, Tryd.ntmps34
    go_wp2_with fail
    refine (lower_any s _ hs).mono ?_
    rintro e w1 ⟨rfl, hb1⟩
    go_wp2_with fail
    refine (lower_any t _ ht).mono ?_
    rintro e w2 ⟨rfl, hb2⟩
    go_wp2_with fail
    go_ret
    exact ⟨ret_bool (by simp [foldB, H.out]), hb1.trans (hb2.mono hb1.size)⟩
  · have hl' : ((s.size : Int) == (t.size : Int)) = false := by simp; omega
    have H := Lib.hid hl
    clear hl
    go_enter Tryd.func34, Tryd.ntmps34
    go_wp2_with fail
    go_ret
    exact ⟨ret_bool (by simp [foldB, H.out]), Below.refl _ _⟩
set_option maxHeartbeats 400000 in
theorem token_any (s : ByteArray) (w : World) (hs : s.size ≤ 9223372036854775807) :
    Calls Tryd.prog 19 #[.string s] w fun e w' => e = .returned (.bool (tokenB (bs s))) ∧ w = w' := by
  go_enter Tryd.func19, Tryd.ntmps19
  go_wp2
  go_loop [6] (fun j => ∃ k : Nat, k ≤ s.size ∧ j = .int .i64 k ∧ Hid ((bs s).all partB = ((bs s).drop k).all partB)) (fun j => s.size - (intOf j).toNat)
  case atStart => exact ⟨0, by omega, rfl, Lib.hid rfl⟩
  case round =>
    obtain ⟨k, hk, rfl, H⟩ := hrel
    by_cases hlt : k < s.size
    · have Hs := Lib.hid (all_step partB s hlt)
      cases hd : partB s[k] with
      | false =>
        go_wp2_with (go_at_call 51; refine (part_any _ _).mono ?_; rintro e w' ⟨rfl, rfl⟩)
        go_ret
        exact ⟨ret_bool (by unfold tokenB; rw [H.out, Hs.out, hd]; rfl), rfl⟩
      | true =>
        go_wp2_with (go_at_call 51; refine (part_any _ _).mono ?_; rintro e w' ⟨rfl, rfl⟩)
        go_round
        case rel => exact ⟨k + 1, by omega, by go_num, Lib.hid (by rw [H.out, Hs.out, hd]; rfl)⟩
        case measure => simp [intOf]; omega
    · have He := Lib.hid (all_end partB s (k := k) (by omega))
      go_wp2
      go_ret
      exact ⟨ret_bool (by unfold tokenB; rw [H.out, He.out]; simp [Lib.toList_data]), rfl⟩
set_option maxHeartbeats 400000 in
theorem text_any (s : ByteArray) (w : World) (hs : s.size ≤ 9223372036854775807) :
    Calls Tryd.prog 21 #[.string s] w fun e w' => e = .returned (.bool (textB (bs s))) ∧ w = w' := by
  go_enter Tryd.func21, Tryd.ntmps21
  go_wp2
  go_loop [6] (fun j => ∃ k : Nat, k ≤ s.size ∧ j = .int .i64 k ∧ Hid ((bs s).all textC = ((bs s).drop k).all textC)) (fun j => s.size - (intOf j).toNat)
  case atStart => exact ⟨0, by omega, rfl, Lib.hid rfl⟩
  case round =>
    obtain ⟨k, hk, rfl, H⟩ := hrel
    by_cases hlt : k < s.size
    · have Hs := Lib.hid (all_step textC s hlt)
      by_cases h1 : s[k].toNat < 32 ∧ s[k].toNat ≠ 9 ∨ s[k].toNat = 127
      · have hd : textC s[k] = false := textC_false h1
        rcases h1 with ⟨h1, h2⟩ | h1
        · have k1 : (s[k].toNat : Int) < 32 := by omega
          have k2 : ((s[k].toNat : Int) != 9) = true := by simp; omega
          clear h1 h2
          go_wp2
          go_ret
          exact ⟨ret_bool (by unfold textB; rw [H.out, Hs.out, hd]; rfl), rfl⟩
        · have k1 : ¬ (s[k].toNat : Int) < 32 := by omega
          have k2 : ((s[k].toNat : Int) == 127) = true := by simp; omega
          clear h1
          go_wp2
          go_ret
          exact ⟨ret_bool (by unfold textB; rw [H.out, Hs.out, hd]; rfl), rfl⟩
      · have hd : textC s[k] = true := textC_true h1
        have k3 : ((s[k].toNat : Int) == 127) = false := by simp; omega
        by_cases h2 : (s[k].toNat : Int) < 32
        · have k2 : ((s[k].toNat : Int) != 9) = false := by simp; omega
          clear h1
          go_wp2
          go_round
          case rel => exact ⟨k + 1, by omega, by go_num, Lib.hid (by rw [H.out, Hs.out, hd]; rfl)⟩
          case measure => simp [intOf]; omega
        · clear h1
          go_wp2
          go_round
          case rel => exact ⟨k + 1, by omega, by go_num, Lib.hid (by rw [H.out, Hs.out, hd]; rfl)⟩
          case measure => simp [intOf]; omega
    · have He := Lib.hid (all_end textC s (k := k) (by omega))
      go_wp2
      go_ret
      exact ⟨ret_bool (by unfold textB; rw [H.out, He.out]), rfl⟩
-- the reference's byte of a token: letters and digits, or one of the signs
set_option maxHeartbeats 1600000 in
theorem rpart_any (c : UInt8) (w : World) :
    Calls Tryd.prog 52 #[.int .u8 c.toNat] w fun e w' => e = .returned (.bool (partB c)) ∧ w = w' := by
  by_cases h1 : 97 ≤ c.toNat ∧ c.toNat ≤ 122 ∨ 65 ≤ c.toNat ∧ c.toNat ≤ 90 ∨ 48 ≤ c.toNat ∧ c.toNat ≤ 57
  · go_enter Tryd.func52, Tryd.ntmps52
    go_wp2
    all_goals (go_ret; exact ⟨ret_bool (partB_true (by omega)), rfl⟩)
  · skip
    by_cases hq : (c.toNat : Int) < 48
    · have f0 : ¬ 48 ≤ (c.toNat : Int) := by omega
      have f1 : ¬ 65 ≤ (c.toNat : Int) := by omega
      have f2 : ¬ 97 ≤ (c.toNat : Int) := by omega
      have H := Lib.hid h1
      clear h1
      go_enter Tryd.func52, Tryd.ntmps52
      go_wp2
      go_loop [3] (fun j => ∃ k : Nat, k ≤ 15 ∧ j = .int .i64 k ∧ Hid (∀ (i : Nat) (h : i < signs.size), i < k → ((signs[i].toNat : Int) == (c.toNat : Int)) = false)) (fun j => 15 - (intOf j).toNat)
      case atStart => exact ⟨0, by omega, rfl, Lib.hid fun i _ h => absurd h (by omega)⟩
      case round =>
        obtain ⟨k, hk, rfl, HN⟩ := hrel
        by_cases hlt : k < 15
        · have hks : k < signs.size := hlt
          cases hd : ((signs[k].toNat : Int) == (c.toNat : Int)) with
          | true =>
            have Hd := Lib.hid hd
            go_wp2
            go_ret
            exact ⟨ret_bool (sign_hit k hks Hd.out), rfl⟩
          | false =>
            have Hd := Lib.hid hd
            go_wp2
            go_round
            case rel => exact ⟨k + 1, by omega, by go_num, Lib.hid fun i hi hik => if e : i = k then by subst e; exact Hd.out else HN.out i hi (by omega)⟩
            case measure => simp [intOf]; omega
        · obtain rfl : k = 15 := by omega
          go_wp2
          go_ret
          exact ⟨ret_bool (sign_miss (fun i hi => HN.out i hi hi) H.out), rfl⟩
    by_cases hq : (c.toNat : Int) < 65
    · have f0 : 48 ≤ (c.toNat : Int) := by omega
      have f1 : ¬ (c.toNat : Int) ≤ 57 := by omega
      have f2 : ¬ 65 ≤ (c.toNat : Int) := by omega
      have f3 : ¬ 97 ≤ (c.toNat : Int) := by omega
      have H := Lib.hid h1
      clear h1
      go_enter Tryd.func52, Tryd.ntmps52
      go_wp2
      go_loop [3] (fun j => ∃ k : Nat, k ≤ 15 ∧ j = .int .i64 k ∧ Hid (∀ (i : Nat) (h : i < signs.size), i < k → ((signs[i].toNat : Int) == (c.toNat : Int)) = false)) (fun j => 15 - (intOf j).toNat)
      case atStart => exact ⟨0, by omega, rfl, Lib.hid fun i _ h => absurd h (by omega)⟩
      case round =>
        obtain ⟨k, hk, rfl, HN⟩ := hrel
        by_cases hlt : k < 15
        · have hks : k < signs.size := hlt
          cases hd : ((signs[k].toNat : Int) == (c.toNat : Int)) with
          | true =>
            have Hd := Lib.hid hd
            go_wp2
            go_ret
            exact ⟨ret_bool (sign_hit k hks Hd.out), rfl⟩
          | false =>
            have Hd := Lib.hid hd
            go_wp2
            go_round
            case rel => exact ⟨k + 1, by omega, by go_num, Lib.hid fun i hi hik => if e : i = k then by subst e; exact Hd.out else HN.out i hi (by omega)⟩
            case measure => simp [intOf]; omega
        · obtain rfl : k = 15 := by omega
          go_wp2
          go_ret
          exact ⟨ret_bool (sign_miss (fun i hi => HN.out i hi hi) H.out), rfl⟩
    by_cases hq : (c.toNat : Int) < 97
    · have f0 : 48 ≤ (c.toNat : Int) := by omega
      have f1 : ¬ (c.toNat : Int) ≤ 57 := by omega
      have f2 : 65 ≤ (c.toNat : Int) := by omega
      have f3 : ¬ (c.toNat : Int) ≤ 90 := by omega
      have f4 : ¬ 97 ≤ (c.toNat : Int) := by omega
      have H := Lib.hid h1
      clear h1
      go_enter Tryd.func52, Tryd.ntmps52
      go_wp2
      go_loop [3] (fun j => ∃ k : Nat, k ≤ 15 ∧ j = .int .i64 k ∧ Hid (∀ (i : Nat) (h : i < signs.size), i < k → ((signs[i].toNat : Int) == (c.toNat : Int)) = false)) (fun j => 15 - (intOf j).toNat)
      case atStart => exact ⟨0, by omega, rfl, Lib.hid fun i _ h => absurd h (by omega)⟩
      case round =>
        obtain ⟨k, hk, rfl, HN⟩ := hrel
        by_cases hlt : k < 15
        · have hks : k < signs.size := hlt
          cases hd : ((signs[k].toNat : Int) == (c.toNat : Int)) with
          | true =>
            have Hd := Lib.hid hd
            go_wp2
            go_ret
            exact ⟨ret_bool (sign_hit k hks Hd.out), rfl⟩
          | false =>
            have Hd := Lib.hid hd
            go_wp2
            go_round
            case rel => exact ⟨k + 1, by omega, by go_num, Lib.hid fun i hi hik => if e : i = k then by subst e; exact Hd.out else HN.out i hi (by omega)⟩
            case measure => simp [intOf]; omega
        · obtain rfl : k = 15 := by omega
          go_wp2
          go_ret
          exact ⟨ret_bool (sign_miss (fun i hi => HN.out i hi hi) H.out), rfl⟩
    have f0 : 48 ≤ (c.toNat : Int) := by omega
    have f1 : ¬ (c.toNat : Int) ≤ 57 := by omega
    have f2 : 65 ≤ (c.toNat : Int) := by omega
    have f3 : ¬ (c.toNat : Int) ≤ 90 := by omega
    have f4 : 97 ≤ (c.toNat : Int) := by omega
    have f5 : ¬ (c.toNat : Int) ≤ 122 := by omega
    have H := Lib.hid h1
    clear h1
    go_enter Tryd.func52, Tryd.ntmps52
    go_wp2
    go_loop [3] (fun j => ∃ k : Nat, k ≤ 15 ∧ j = .int .i64 k ∧ Hid (∀ (i : Nat) (h : i < signs.size), i < k → ((signs[i].toNat : Int) == (c.toNat : Int)) = false)) (fun j => 15 - (intOf j).toNat)
    case atStart => exact ⟨0, by omega, rfl, Lib.hid fun i _ h => absurd h (by omega)⟩
    case round =>
      obtain ⟨k, hk, rfl, HN⟩ := hrel
      by_cases hlt : k < 15
      · have hks : k < signs.size := hlt
        cases hd : ((signs[k].toNat : Int) == (c.toNat : Int)) with
        | true =>
          have Hd := Lib.hid hd
          go_wp2
          go_ret
          exact ⟨ret_bool (sign_hit k hks Hd.out), rfl⟩
        | false =>
          have Hd := Lib.hid hd
          go_wp2
          go_round
          case rel => exact ⟨k + 1, by omega, by go_num, Lib.hid fun i hi hik => if e : i = k then by subst e; exact Hd.out else HN.out i hi (by omega)⟩
          case measure => simp [intOf]; omega
      · obtain rfl : k = 15 := by omega
        go_wp2
        go_ret
        exact ⟨ret_bool (sign_miss (fun i hi => HN.out i hi hi) H.out), rfl⟩
set_option maxHeartbeats 400000 in
theorem rtoken_any (s : ByteArray) (w : World) (hs : s.size ≤ 9223372036854775807) :
    Calls Tryd.prog 20 #[.string s] w fun e w' => e = .returned (.bool (tokenB (bs s))) ∧ w = w' := by
  go_enter Tryd.func20, Tryd.ntmps20
  go_wp2
  go_loop [3] (fun j => ∃ k : Nat, k ≤ s.size ∧ j = .int .i64 k ∧ Hid ((bs s).all partB = ((bs s).drop k).all partB)) (fun j => s.size - (intOf j).toNat)
  case atStart => exact ⟨0, by omega, rfl, Lib.hid rfl⟩
  case round =>
    obtain ⟨k, hk, rfl, H⟩ := hrel
    by_cases hlt : k < s.size
    · have Hs := Lib.hid (all_step partB s hlt)
      cases hd : partB s[k] with
      | false =>
        go_wp2_with (go_at_call 52; refine (rpart_any _ _).mono ?_; rintro e w' ⟨rfl, rfl⟩)
        go_ret
        exact ⟨ret_bool (by unfold tokenB; rw [H.out, Hs.out, hd]; rfl), rfl⟩
      | true =>
        go_wp2_with (go_at_call 52; refine (rpart_any _ _).mono ?_; rintro e w' ⟨rfl, rfl⟩)
        go_round
        case rel => exact ⟨k + 1, by omega, by go_num, Lib.hid (by rw [H.out, Hs.out, hd]; rfl)⟩
        case measure => simp [intOf]; omega
    · have He := Lib.hid (all_end partB s (k := k) (by omega))
      go_wp2
      go_ret
      exact ⟨ret_bool (by unfold tokenB; rw [H.out, He.out]; simp [Lib.toList_data]), rfl⟩
theorem rtextc_any (c : UInt8) (w : World) :
    Calls Tryd.prog 53 #[.int .u8 c.toNat] w fun e w' => e = .returned (.bool (textC c)) ∧ w = w' := by
  have hc := UInt8.toNat_lt c
  by_cases hq : c.toNat = 9
  · have hv : textC c = true := textC_true (by omega)
    have f0 : ((c.toNat : Int) == 9) = true := by simp; omega
    have Hv := Lib.hid hv
    clear hv hq
    go_enter Tryd.func53, Tryd.ntmps53
    go_wp2
    go_ret
    exact ⟨ret_bool (by rw [Hv.out]), rfl⟩
  by_cases hq : c.toNat < 32
  · have hv : textC c = false := textC_false (by omega)
    have f0 : ((c.toNat : Int) == 9) = false := by simp; omega
    have f1 : ¬ 32 ≤ (c.toNat : Int) := by omega
    have f2 : ¬ 128 ≤ (c.toNat : Int) := by omega
    have Hv := Lib.hid hv
    clear hv hq
    go_enter Tryd.func53, Tryd.ntmps53
    go_wp2
    go_ret
    exact ⟨ret_bool (by rw [Hv.out]), rfl⟩
  by_cases hq : c.toNat ≤ 126
  · have hv : textC c = true := textC_true (by omega)
    have f0 : ((c.toNat : Int) == 9) = false := by simp; omega
    have f1 : 32 ≤ (c.toNat : Int) := by omega
    have f2 : (c.toNat : Int) ≤ 126 := by omega
    have Hv := Lib.hid hv
    clear hv hq
    go_enter Tryd.func53, Tryd.ntmps53
    go_wp2
    go_ret
    exact ⟨ret_bool (by rw [Hv.out]), rfl⟩
  by_cases hq : c.toNat = 127
  · have hv : textC c = false := textC_false (by omega)
    have f0 : ((c.toNat : Int) == 9) = false := by simp; omega
    have f1 : 32 ≤ (c.toNat : Int) := by omega
    have f2 : ¬ (c.toNat : Int) ≤ 126 := by omega
    have f3 : ¬ 128 ≤ (c.toNat : Int) := by omega
    have Hv := Lib.hid hv
    clear hv hq
    go_enter Tryd.func53, Tryd.ntmps53
    go_wp2
    go_ret
    exact ⟨ret_bool (by rw [Hv.out]), rfl⟩
  by_cases hq : True
  · have hv : textC c = true := textC_true (by omega)
    have f0 : ((c.toNat : Int) == 9) = false := by simp; omega
    have f1 : 32 ≤ (c.toNat : Int) := by omega
    have f2 : ¬ (c.toNat : Int) ≤ 126 := by omega
    have f3 : 128 ≤ (c.toNat : Int) := by omega
    have Hv := Lib.hid hv
    clear hv hq
    go_enter Tryd.func53, Tryd.ntmps53
    go_wp2
    go_ret
    exact ⟨ret_bool (by rw [Hv.out]), rfl⟩
  · exact absurd trivial hq
set_option maxHeartbeats 400000 in
theorem rtext_any (s : ByteArray) (w : World) (hs : s.size ≤ 9223372036854775807) :
    Calls Tryd.prog 22 #[.string s] w fun e w' => e = .returned (.bool (textB (bs s))) ∧ w = w' := by
  go_enter Tryd.func22, Tryd.ntmps22
  go_wp2
  go_loop [3] (fun j => ∃ k : Nat, k ≤ s.size ∧ j = .int .i64 k ∧ Hid ((bs s).all textC = ((bs s).drop k).all textC)) (fun j => s.size - (intOf j).toNat)
  case atStart => exact ⟨0, by omega, rfl, Lib.hid rfl⟩
  case round =>
    obtain ⟨k, hk, rfl, H⟩ := hrel
    by_cases hlt : k < s.size
    · have Hs := Lib.hid (all_step textC s hlt)
      cases hd : textC s[k] with
      | false =>
        go_wp2_with (go_at_call 53; refine (rtextc_any _ _).mono ?_; rintro e w' ⟨rfl, rfl⟩)
        go_ret
        exact ⟨ret_bool (by unfold textB; rw [H.out, Hs.out, hd]; rfl), rfl⟩
      | true =>
        go_wp2_with (go_at_call 53; refine (rtextc_any _ _).mono ?_; rintro e w' ⟨rfl, rfl⟩)
        go_round
        case rel => exact ⟨k + 1, by omega, by go_num, Lib.hid (by rw [H.out, Hs.out, hd]; rfl)⟩
        case measure => simp [intOf]; omega
    · have He := Lib.hid (all_end textC s (k := k) (by omega))
      go_wp2
      go_ret
      exact ⟨ret_bool (by unfold textB; rw [H.out, He.out]), rfl⟩
end Go.Proofs.YthdbgiklniiglaaDoor
