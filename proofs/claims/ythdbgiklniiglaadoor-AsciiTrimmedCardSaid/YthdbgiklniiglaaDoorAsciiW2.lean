/- The walks of layer 1: quoted strings (1.4), and numbers as digits (1.3). -/
import Derived.Test.YthdbgiklniiglaaDoorAsciiW1
import Derived.Test.YthdbgiklniiglaaDoorBufW
import Derived.Test.YthdbgiklniiglaaDoorShelf
namespace Go.Proofs.YthdbgiklniiglaaDoor
open Go.RowKit

set_option maxHeartbeats 800000 in
theorem quote_any (s : ByteArray) (w : World) (hs : s.size ≤ 1000000) :
    Calls Tryd.prog 32 #[.string s] w fun e w' => e = .returned (.string ⟨(quoteL (bs s)).toArray⟩) ∧ Below w.heap.size w w' := by
  have hb0 := Buf.one w w.heap.size 5 34 (Nat.le_refl _)
  go_enter Tryd.func32, Tryd.ntmps32
  go_wp2
  go_loopw [3, 8] (fun v j wr => ∃ k : Nat, k ≤ s.size ∧ j = .int .i64 k ∧ Buf wr w.heap.size 5 v (34 :: escL ((bs s).take k)) ∧ Below w.heap.size w wr ∧ w.heap.size ≤ wr.heap.size) (fun _ j _ => s.size - (intOf j).toNat)
  case atStart => exact ⟨0, by omega, rfl, hb0, (Below.refl _ _).alloc (Nat.le_refl _) _, by simp⟩
  case round =>
    obtain ⟨k, hk, rfl, hB, hb, hz⟩ := hrel
    clear hb0
    have hel := escL_length_le ((bs s).take k)
    have htl : ((bs s).take k).length ≤ k := by simp; omega
    have hlen : (34 :: escL ((bs s).take k)).length + 1 ≤ 140737488355328 := by simp only [List.length_cons]; omega
    by_cases hlt : k < s.size
    · have Hst := Lib.hid (escL_step s hlt)
      by_cases hq : s[k] = 34 ∨ s[k] = 92
      · have hlen2 : (34 :: escL ((bs s).take k) ++ [92]).length + 1 ≤ 140737488355328 := by simp only [List.length_cons, List.length_append, List.length_nil]; omega
        have Hq := Lib.hid hq
        have qq : ((s[k].toNat : Int) == 34) = true ∨ ((s[k].toNat : Int) == 34) = false ∧ ((s[k].toNat : Int) == 92) = true := by
          by_cases h4 : s[k] = 34
          · exact .inl (u8_eq (n := 34) (by decide) h4)
          · exact .inr ⟨u8_ne (n := 34) (by decide) h4, u8_eq (n := 92) (by decide) (hq.resolve_left h4)⟩
        clear hq
        rcases qq with q1 | ⟨q1, q2⟩
        all_goals
          go_wp2_with (at_builtin; refine wpList_append_byte rfl (.tmp 21) (.tmp 22) 55 rfl w _ w.heap.size 5 Tryd.underlying55 infoU8 _ _ rfl (hB.alloc _) (hb.alloc hz _) (le_alloc hz _) ⟨wr.heap.size, 0, none⟩ 92 rfl (cell_new wr _ _) hlen ?_)
          intro v1 w1 hB1 hb1 hz1
          clear hB hb hz
          go_wp2_with (at_builtin; refine wpList_append_byte rfl (.tmp 24) (.tmp 28) 55 rfl w _ w.heap.size 5 Tryd.underlying55 infoU8 _ _ rfl (hB1.alloc _) (hb1.alloc hz1 _) (le_alloc hz1 _) ⟨w1.heap.size, 0, none⟩ s[k] rfl (cell_new w1 _ _) hlen2 ?_)
          intro v2 w2 hB2 hb2 hz2
          clear hB1 hb1 hz1
          go_wp2
          go_roundw
          case rel => exact ⟨k + 1, by omega, by go_num, by rw [Hst.out, if_pos Hq.out]; simpa using hB2, hb2, hz2⟩
          case measure => simp [intOf]; omega
      · have q1 : ((s[k].toNat : Int) == 34) = false := u8_ne (n := 34) (by decide) fun h => hq (.inl h)
        have q2 : ((s[k].toNat : Int) == 92) = false := u8_ne (n := 92) (by decide) fun h => hq (.inr h)
        have Hq := Lib.hid hq
        clear hq
        go_wp2_with (at_builtin; refine wpList_append_byte rfl (.tmp 24) (.tmp 28) 55 rfl w _ w.heap.size 5 Tryd.underlying55 infoU8 _ _ rfl (hB.alloc _) (hb.alloc hz _) (le_alloc hz _) ⟨wr.heap.size, 0, none⟩ s[k] rfl (cell_new wr _ _) hlen ?_)
        intro v1 w1 hB1 hb1 hz1
        clear hB hb hz
        go_wp2
        go_roundw
        case rel => exact ⟨k + 1, by omega, by go_num, by rw [Hst.out, if_neg Hq.out]; simpa using hB1, hb1, hz1⟩
        case measure => simp [intOf]; omega
    · have hkk : k = s.size := by omega
      have htk : (bs s).take k = bs s := List.take_of_length_le (by rw [bs_length]; omega)
      have Hk := Lib.hid htk
      clear hkk htk
      go_wp2_with (at_builtin; refine wpList_append_byte rfl (.tmp 31) (.tmp 32) 55 rfl w _ w.heap.size 5 Tryd.underlying55 infoU8 _ _ rfl (hB.alloc _) (hb.alloc hz _) (le_alloc hz _) ⟨wr.heap.size, 0, none⟩ 34 rfl (cell_new wr _ _) hlen ?_)
      intro v1 w1 hB1 hb1 hz1
      have hcv := conv_from_buf (P := Tryd.prog) 55 9 5 w.heap.size v1 _ w1 Tryd.underlying55 Tryd.underlying5 Tryd.underlying9 hB1
      clear hB hb hz
      go_wp2
      go_ret
      exact ⟨by rw [Hk.out]; rfl, hb1⟩
set_option maxHeartbeats 800000 in
theorem rquote_any (s : ByteArray) (w : World) (hs : s.size ≤ 1000000) :
    Calls Tryd.prog 33 #[.string s] w fun e w' => e = .returned (.string ⟨(quoteL (bs s)).toArray⟩) ∧ Below w.heap.size w w' := by
  have hb0 := Buf.one w w.heap.size 5 34 (Nat.le_refl _)
  go_enter Tryd.func33, Tryd.ntmps33
  go_wp2
  go_loopw [3, 4] (fun v j wr => ∃ k : Nat, k ≤ s.size ∧ j = .int .i64 k ∧ Buf wr w.heap.size 5 v (34 :: escL ((bs s).take k)) ∧ Below w.heap.size w wr ∧ w.heap.size ≤ wr.heap.size) (fun _ j _ => s.size - (intOf j).toNat)
  case atStart => exact ⟨0, by omega, rfl, hb0, (Below.refl _ _).alloc (Nat.le_refl _) _, by simp⟩
  case round =>
    obtain ⟨k, hk, rfl, hB, hb, hz⟩ := hrel
    clear hb0
    have hel := escL_length_le ((bs s).take k)
    have htl : ((bs s).take k).length ≤ k := by simp; omega
    have hlen : (34 :: escL ((bs s).take k)).length + 1 ≤ 140737488355328 := by simp only [List.length_cons]; omega
    by_cases hlt : k < s.size
    · have Hst := Lib.hid (escL_step s hlt)
      by_cases hq : s[k] = 34 ∨ s[k] = 92
      · have hlen2 : (34 :: escL ((bs s).take k) ++ [92]).length + 1 ≤ 140737488355328 := by simp only [List.length_cons, List.length_append, List.length_nil]; omega
        have Hq := Lib.hid hq
        have qq : ((s[k].toNat : Int) == 34) = true ∨ ((s[k].toNat : Int) == 34) = false ∧ ((s[k].toNat : Int) == 92) = true := by
          by_cases h4 : s[k] = 34
          · exact .inl (u8_eq (n := 34) (by decide) h4)
          · exact .inr ⟨u8_ne (n := 34) (by decide) h4, u8_eq (n := 92) (by decide) (hq.resolve_left h4)⟩
        clear hq
        rcases qq with q1 | ⟨q1, q2⟩
        all_goals
          go_wp2_with (at_builtin; refine wpList_append_byte rfl (.tmp 22) (.tmp 23) 55 rfl w _ w.heap.size 5 Tryd.underlying55 infoU8 _ _ rfl (hB.alloc _) (hb.alloc hz _) (le_alloc hz _) ⟨wr.heap.size, 0, none⟩ 92 rfl (cell_new wr _ _) hlen ?_)
          intro v1 w1 hB1 hb1 hz1
          clear hB hb hz
          go_wp2_with (at_builtin; refine wpList_append_byte rfl (.tmp 25) (.tmp 29) 55 rfl w _ w.heap.size 5 Tryd.underlying55 infoU8 _ _ rfl (hB1.alloc _) (hb1.alloc hz1 _) (le_alloc hz1 _) ⟨w1.heap.size, 0, none⟩ s[k] rfl (cell_new w1 _ _) hlen2 ?_)
          intro v2 w2 hB2 hb2 hz2
          clear hB1 hb1 hz1
          go_wp2
          go_roundw
          case rel => exact ⟨k + 1, by omega, by go_num, by rw [Hst.out, if_pos Hq.out]; simpa using hB2, hb2, hz2⟩
          case measure => simp [intOf]; omega
      · have q1 : ((s[k].toNat : Int) == 34) = false := u8_ne (n := 34) (by decide) fun h => hq (.inl h)
        have q2 : ((s[k].toNat : Int) == 92) = false := u8_ne (n := 92) (by decide) fun h => hq (.inr h)
        have Hq := Lib.hid hq
        clear hq
        go_wp2_with (at_builtin; refine wpList_append_byte rfl (.tmp 25) (.tmp 29) 55 rfl w _ w.heap.size 5 Tryd.underlying55 infoU8 _ _ rfl (hB.alloc _) (hb.alloc hz _) (le_alloc hz _) ⟨wr.heap.size, 0, none⟩ s[k] rfl (cell_new wr _ _) hlen ?_)
        intro v1 w1 hB1 hb1 hz1
        clear hB hb hz
        go_wp2
        go_roundw
        case rel => exact ⟨k + 1, by omega, by go_num, by rw [Hst.out, if_neg Hq.out]; simpa using hB1, hb1, hz1⟩
        case measure => simp [intOf]; omega
    · have hkk : k = s.size := by omega
      have htk : (bs s).take k = bs s := List.take_of_length_le (by rw [bs_length]; omega)
      have Hk := Lib.hid htk
      clear hkk htk
      go_wp2_with (at_builtin; refine wpList_append_byte rfl (.tmp 31) (.tmp 32) 55 rfl w _ w.heap.size 5 Tryd.underlying55 infoU8 _ _ rfl (hB.alloc _) (hb.alloc hz _) (le_alloc hz _) ⟨wr.heap.size, 0, none⟩ 34 rfl (cell_new wr _ _) hlen ?_)
      intro v1 w1 hB1 hb1 hz1
      have hcv := conv_from_buf (P := Tryd.prog) 55 9 5 w.heap.size v1 _ w1 Tryd.underlying55 Tryd.underlying5 Tryd.underlying9 hB1
      clear hB hb hz
      go_wp2
      go_ret
      exact ⟨by rw [Hk.out]; rfl, hb1⟩

-- a text that is no quoted string by its form
set_option maxHeartbeats 800000 in
theorem unquote_bad (s : ByteArray) (w : World) (hs : s.size ≤ 1000000) (h : s.size < 2 ∨ (∃ h0 : 0 < s.size, s[0] ≠ 34) ∨ ∃ h0 : s.size - 1 < s.size, s[s.size - 1] ≠ 34) :
    Calls Tryd.prog 30 #[.string s] w fun e w' => e = .returned (unqV none) ∧ Below w.heap.size w w' := by
  by_cases h2 : s.size < 2
  · have h2' : (s.size : Int) < 2 := by omega
    clear h
    go_enter Tryd.func30, Tryd.ntmps30
    go_wp2_with fail
    go_ret2
    exact ⟨rfl, Below.refl _ _⟩
  have h2' : ¬ (s.size : Int) < 2 := by omega
  have hn : 0 < s.size := by omega
  by_cases h0 : s[0] = 34
  · have q0 : ((s[0].toNat : Int) != 34) = false := u8_bf (n := 34) (by decide) h0
    have hl : s.size - 1 < s.size := by omega
    have h1 : s[s.size - 1] ≠ 34 := by
      rcases h with h | ⟨_, h⟩ | ⟨_, h⟩
      · exact absurd h h2
      · exact absurd h0 h
      · exact h
    have q1 : ((s[s.size - 1].toNat : Int) != 34) = true := u8_bt (n := 34) (by decide) h1
    have e1 : ((s.size : Int) - 1).toNat = s.size - 1 := by omega
    clear h h0 h1
    go_enter Tryd.func30, Tryd.ntmps30
    go_wp2_with fail
    go_ret2
    exact ⟨rfl, Below.refl _ _⟩
  · have q0 : ((s[0].toNat : Int) != 34) = true := u8_bt (n := 34) (by decide) h0
    clear h h0
    go_enter Tryd.func30, Tryd.ntmps30
    go_wp2_with fail
    go_ret2
    exact ⟨rfl, Below.refl _ _⟩

-- the loop over what stands between the quotes, and the whole of the program's Unquote
set_option maxHeartbeats 1600000 in
theorem unquote_any (s : ByteArray) (w : World) (hs : s.size ≤ 1000000) :
    Calls Tryd.prog 30 #[.string s] w fun e w' => e = .returned (unqV (unquoteL (bs s))) ∧ Below w.heap.size w w' := by
  by_cases hbad : s.size < 2 ∨ (∃ h0 : 0 < s.size, s[0] ≠ 34) ∨ ∃ h0 : s.size - 1 < s.size, s[s.size - 1] ≠ 34
  · rw [unquoteL_bad hbad]; exact unquote_bad s w hs hbad
  have h2 : ¬ s.size < 2 := fun h => hbad (.inl h)
  have p0 : 0 < s.size := by omega
  have p1 : s.size - 1 < s.size := by omega
  have h0 : s[0]'p0 = 34 := Decidable.byContradiction fun h => hbad (.inr (.inl ⟨p0, h⟩))
  have h1 : s[s.size - 1]'p1 = 34 := Decidable.byContradiction fun h => hbad (.inr (.inr ⟨p1, h⟩))
  rw [unquoteL_ok h2 h0 h1]
  clear hbad
  have h2' : ¬ (s.size : Int) < 2 := by omega
  have q0 : ((s[0].toNat : Int) != 34) = false := u8_bf (n := 34) (by decide) h0
  have q1 : ((s[s.size - 1].toNat : Int) != 34) = false := u8_bf (n := 34) (by decide) h1
  have e1 : ((s.size : Int) - 1).toNat = s.size - 1 := by omega
  obtain ⟨t, ht⟩ : ∃ t, s.extract 1 (s.size - 1) = t := ⟨_, rfl⟩
  have htz : t.size ≤ 1000000 := by rw [← ht]; simp; omega
  rw [ht]
  cases htb : textB (bs t) with
  | false =>
    rw [textB_false_res htb]
    clear h0 h1
    go_enter Tryd.func30, Tryd.ntmps30
    go_wp2_with fail
    refine (text_any t _ (by omega)).mono ?_
    rintro e w' ⟨rfl, rfl⟩
    rw [htb]
    go_wp2_with fail
    go_ret2
    exact ⟨rfl, Below.refl _ _⟩
  | true =>
    have Htb := Lib.hid htb
    clear h0 h1 htb
    go_enter Tryd.func30, Tryd.ntmps30
    go_wp2_with fail
    refine (text_any t _ (by omega)).mono ?_
    rintro e w' ⟨rfl, rfl⟩
    rw [Htb.out]
    go_wp2_with fail
    go_loopw [5, 6] (fun v j wr => ∃ (k : Nat) (acc : List UInt8), k ≤ t.size ∧ j = .int .i64 k ∧ Buf wr w.heap.size 5 v acc ∧ acc.length ≤ k ∧ Below w.heap.size w wr ∧ w.heap.size ≤ wr.heap.size ∧ Hid (resU (bs t) [] = resU ((bs t).drop k) acc)) (fun _ j _ => t.size - (intOf j).toNat)
    case atStart => exact ⟨0, [], by omega, rfl, Buf.none_ _ _ _, by simp, Below.refl _ _, Nat.le_refl _, Lib.hid rfl⟩
    case round =>
      obtain ⟨k, acc, hk, rfl, hB, hla, hb, hz, HR⟩ := hrel
      clear q0 q1
      by_cases hlt : k < t.size
      · have HS := Lib.hid (resU_at t acc hlt)
        have htk := Lib.hid (textB_at Htb.out hlt)
        have hlen : acc.length + 1 ≤ 140737488355328 := by omega
        by_cases c1 : t[k] = 34
        · have r1 : ((t[k].toNat : Int) == 34) = true := u8_eq (n := 34) (by decide) c1
          have HE := Lib.hid (HS.out.1 c1)
          clear c1
          go_wp2
          go_ret2
          exact ⟨by rw [HR.out, HE.out]; rfl, hb⟩
        have r1 : ((t[k].toNat : Int) == 34) = false := u8_ne (n := 34) (by decide) c1
        by_cases c2 : t[k] = 92
        · have r2 : ((t[k].toNat : Int) == 92) = true := u8_eq (n := 92) (by decide) c2
          by_cases hlt2 : k + 1 < t.size
          · have HE := Lib.hid (HS.out.2.2.1 c2 hlt2)
            have htk2 := Lib.hid (textB_at Htb.out hlt2)
            have r3 : (((k : Int) + 1) == (t.size : Int)) = false := by simp; omega
            clear c1 c2
            go_wp2_with (at_builtin; refine wpList_append_byte rfl (.tmp 56) (.tmp 60) 55 rfl w _ w.heap.size 5 Tryd.underlying55 infoU8 _ _ rfl (hB.alloc _) (hb.alloc hz _) (le_alloc hz _) ⟨wr.heap.size, 0, none⟩ t[k + 1] rfl (cell_new wr _ _) hlen ?_)
            intro v1 w1 hB1 hb1 hz1
            clear hB hb hz
            go_wp2
            go_roundw
            case rel => exact ⟨k + 2, acc ++ [t[k + 1]], by omega, by go_num, hB1, by simp; omega, hb1, hz1, Lib.hid (by rw [HR.out, HE.out, htk2.out]; rfl)⟩
            case measure => simp [intOf]; omega
          · have HE := Lib.hid (HS.out.2.1 c2 (by omega))
            have r3 : (((k : Int) + 1) == (t.size : Int)) = true := by simp; omega
            clear c1 c2
            go_wp2
            go_ret2
            exact ⟨by rw [HR.out, HE.out]; rfl, hb⟩
        · have r2 : ((t[k].toNat : Int) == 92) = false := u8_ne (n := 92) (by decide) c2
          have HE := Lib.hid (HS.out.2.2.2 c1 c2)
          clear c1 c2
          go_wp2_with (at_builtin; refine wpList_append_byte rfl (.tmp 56) (.tmp 60) 55 rfl w _ w.heap.size 5 Tryd.underlying55 infoU8 _ _ rfl (hB.alloc _) (hb.alloc hz _) (le_alloc hz _) ⟨wr.heap.size, 0, none⟩ t[k] rfl (cell_new wr _ _) hlen ?_)
          intro v1 w1 hB1 hb1 hz1
          clear hB hb hz
          go_wp2
          go_roundw
          case rel => exact ⟨k + 1, acc ++ [t[k]], by omega, by go_num, hB1, by simp; omega, hb1, hz1, Lib.hid (by rw [HR.out, HE.out, htk.out]; rfl)⟩
          case measure => simp [intOf]; omega
      · have HE := Lib.hid (resU_end t acc (k := k) (by omega))
        have hcv := conv_from_buf (P := Tryd.prog) 55 9 5 w.heap.size _ _ wr Tryd.underlying55 Tryd.underlying5 Tryd.underlying9 hB
        clear hB
        go_wp2
        go_ret2
        exact ⟨by rw [HR.out, HE.out]; rfl, hb⟩
set_option maxHeartbeats 800000 in
theorem runquote_bad (s : ByteArray) (w : World) (hs : s.size ≤ 1000000) (h : s.size < 2 ∨ (∃ h0 : 0 < s.size, s[0] ≠ 34) ∨ ∃ h0 : s.size - 1 < s.size, s[s.size - 1] ≠ 34) :
    Calls Tryd.prog 31 #[.string s] w fun e w' => e = .returned (unqV none) ∧ Below w.heap.size w w' := by
  by_cases h2 : s.size < 2
  · have h2' : (s.size : Int) < 2 := by omega
    clear h
    go_enter Tryd.func31, Tryd.ntmps31
    go_wp2_with fail
    go_ret2
    exact ⟨rfl, Below.refl _ _⟩
  have h2' : ¬ (s.size : Int) < 2 := by omega
  have hn : 0 < s.size := by omega
  by_cases h0 : s[0] = 34
  · have q0 : ((s[0].toNat : Int) != 34) = false := u8_bf (n := 34) (by decide) h0
    have hl : s.size - 1 < s.size := by omega
    have h1 : s[s.size - 1] ≠ 34 := by
      rcases h with h | ⟨_, h⟩ | ⟨_, h⟩
      · exact absurd h h2
      · exact absurd h0 h
      · exact h
    have q1 : ((s[s.size - 1].toNat : Int) != 34) = true := u8_bt (n := 34) (by decide) h1
    have e1 : ((s.size : Int) - 1).toNat = s.size - 1 := by omega
    clear h h0 h1
    go_enter Tryd.func31, Tryd.ntmps31
    go_wp2_with fail
    go_ret2
    exact ⟨rfl, Below.refl _ _⟩
  · have q0 : ((s[0].toNat : Int) != 34) = true := u8_bt (n := 34) (by decide) h0
    clear h h0
    go_enter Tryd.func31, Tryd.ntmps31
    go_wp2_with fail
    go_ret2
    exact ⟨rfl, Below.refl _ _⟩

-- the loop over what stands between the quotes, and the whole of the program's Unquote
set_option maxHeartbeats 1600000 in
theorem runquote_any (s : ByteArray) (w : World) (hs : s.size ≤ 1000000) :
    Calls Tryd.prog 31 #[.string s] w fun e w' => e = .returned (unqV (unquoteL (bs s))) ∧ Below w.heap.size w w' := by
  by_cases hbad : s.size < 2 ∨ (∃ h0 : 0 < s.size, s[0] ≠ 34) ∨ ∃ h0 : s.size - 1 < s.size, s[s.size - 1] ≠ 34
  · rw [unquoteL_bad hbad]; exact runquote_bad s w hs hbad
  have h2 : ¬ s.size < 2 := fun h => hbad (.inl h)
  have p0 : 0 < s.size := by omega
  have p1 : s.size - 1 < s.size := by omega
  have h0 : s[0]'p0 = 34 := Decidable.byContradiction fun h => hbad (.inr (.inl ⟨p0, h⟩))
  have h1 : s[s.size - 1]'p1 = 34 := Decidable.byContradiction fun h => hbad (.inr (.inr ⟨p1, h⟩))
  rw [unquoteL_ok h2 h0 h1]
  clear hbad
  have h2' : ¬ (s.size : Int) < 2 := by omega
  have q0 : ((s[0].toNat : Int) != 34) = false := u8_bf (n := 34) (by decide) h0
  have q1 : ((s[s.size - 1].toNat : Int) != 34) = false := u8_bf (n := 34) (by decide) h1
  have e1 : ((s.size : Int) - 1).toNat = s.size - 1 := by omega
  obtain ⟨t, ht⟩ : ∃ t, s.extract 1 (s.size - 1) = t := ⟨_, rfl⟩
  have htz : t.size ≤ 1000000 := by rw [← ht]; simp; omega
  rw [ht]
  clear h0 h1
  go_enter Tryd.func31, Tryd.ntmps31
  go_wp2_with fail
  go_loopw [4, 5] (fun v j wr => ∃ (k : Nat) (acc : List UInt8), k ≤ t.size ∧ j = .int .i64 k ∧ Buf wr w.heap.size 5 v acc ∧ acc.length ≤ k ∧ Below w.heap.size w wr ∧ w.heap.size ≤ wr.heap.size ∧ Hid (resU (bs t) [] = resU ((bs t).drop k) acc)) (fun _ j _ => t.size - (intOf j).toNat)
  case atStart => exact ⟨0, [], by omega, rfl, Buf.none_ _ _ _, by simp, Below.refl _ _, Nat.le_refl _, Lib.hid rfl⟩
  case round =>
    obtain ⟨k, acc, hk, rfl, hB, hla, hb, hz, HR⟩ := hrel
    clear q0 q1
    by_cases hlt : k < t.size
    · have HS := Lib.hid (resU_at t acc hlt)
      have hlen : acc.length + 1 ≤ 140737488355328 := by omega
      by_cases c1 : t[k] = 34
      · have r1 : ((t[k].toNat : Int) == 34) = true := u8_eq (n := 34) (by decide) c1
        have HE := Lib.hid (HS.out.1 c1)
        clear c1
        go_wp2
        go_ret2
        exact ⟨by rw [HR.out, HE.out]; rfl, hb⟩
      have r1 : ((t[k].toNat : Int) == 34) = false := u8_ne (n := 34) (by decide) c1
      by_cases c2 : t[k] = 92
      · have r2 : ((t[k].toNat : Int) == 92) = true := u8_eq (n := 92) (by decide) c2
        by_cases hlt2 : k + 1 < t.size
        · have HE := Lib.hid (HS.out.2.2.1 c2 hlt2)
          have r3 : (((k : Int) + 1) == (t.size : Int)) = false := by simp; omega
          clear c1 c2
          cases hd : textC t[k + 1] with
          | false =>
            go_wp2_with (go_at_call 53; refine (rtextc_any _ _).mono ?_; rintro e w' ⟨rfl, rfl⟩)
            go_ret2
            exact ⟨by rw [HR.out, HE.out, hd]; rfl, hb⟩
          | true =>
            go_wp2_with (first | (go_at_call 53; refine (rtextc_any _ _).mono ?_; rintro e w' ⟨rfl, rfl⟩) | (at_builtin; refine wpList_append_byte rfl (.tmp 52) (.tmp 56) 55 rfl w _ w.heap.size 5 Tryd.underlying55 infoU8 _ _ rfl (hB.alloc _) (hb.alloc hz _) (le_alloc hz _) ⟨wr.heap.size, 0, none⟩ t[k + 1] rfl (cell_new wr _ _) hlen ?_))
            intro v1 w1 hB1 hb1 hz1
            clear hB hb hz
            go_wp2
            go_roundw
            case rel => exact ⟨k + 2, acc ++ [t[k + 1]], by omega, by go_num, hB1, by simp; omega, hb1, hz1, Lib.hid (by rw [HR.out, HE.out, hd]; rfl)⟩
            case measure => simp [intOf]; omega
        · have HE := Lib.hid (HS.out.2.1 c2 (by omega))
          have r3 : (((k : Int) + 1) == (t.size : Int)) = true := by simp; omega
          clear c1 c2
          go_wp2
          go_ret2
          exact ⟨by rw [HR.out, HE.out]; rfl, hb⟩
      · have r2 : ((t[k].toNat : Int) == 92) = false := u8_ne (n := 92) (by decide) c2
        have HE := Lib.hid (HS.out.2.2.2 c1 c2)
        clear c1 c2
        cases hd : textC t[k] with
        | false =>
          go_wp2_with (go_at_call 53; refine (rtextc_any _ _).mono ?_; rintro e w' ⟨rfl, rfl⟩)
          go_ret2
          exact ⟨by rw [HR.out, HE.out, hd]; rfl, hb⟩
        | true =>
          go_wp2_with (first | (go_at_call 53; refine (rtextc_any _ _).mono ?_; rintro e w' ⟨rfl, rfl⟩) | (at_builtin; refine wpList_append_byte rfl (.tmp 52) (.tmp 56) 55 rfl w _ w.heap.size 5 Tryd.underlying55 infoU8 _ _ rfl (hB.alloc _) (hb.alloc hz _) (le_alloc hz _) ⟨wr.heap.size, 0, none⟩ t[k] rfl (cell_new wr _ _) hlen ?_))
          intro v1 w1 hB1 hb1 hz1
          clear hB hb hz
          go_wp2
          go_roundw
          case rel => exact ⟨k + 1, acc ++ [t[k]], by omega, by go_num, hB1, by simp; omega, hb1, hz1, Lib.hid (by rw [HR.out, HE.out, hd]; rfl)⟩
          case measure => simp [intOf]; omega
    · have HE := Lib.hid (resU_end t acc (k := k) (by omega))
      have hcv := conv_from_buf (P := Tryd.prog) 55 9 5 w.heap.size _ _ wr Tryd.underlying55 Tryd.underlying5 Tryd.underlying9 hB
      clear hB
      go_wp2
      go_ret2
      exact ⟨by rw [HR.out, HE.out]; rfl, hb⟩
end Go.Proofs.YthdbgiklniiglaaDoor
