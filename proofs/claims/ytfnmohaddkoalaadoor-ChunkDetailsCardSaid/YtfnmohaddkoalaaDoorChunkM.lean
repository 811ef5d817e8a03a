/- The walk of ChunkDetails (law 5). Printed by gen_chunkm.py. -/
import Derived.Test.YtfnmohaddkoalaaDoorChunkA
import Derived.Test.YtfnmohaddkoalaaDoorRDecW
import Derived.Test.YtfnmohaddkoalaaDoorREncW
import Derived.Deep.RegionHeld3
namespace Go.Proofs.YtfnmohaddkoalaaDoor
open Go.RowKit Go.Shelf
set_option linter.unusedSimpArgs false

theorem idxFrom_front {c : UInt8} {a : List UInt8} (h : c ∉ a) (b : List UInt8) : idxFrom c (a ++ c :: b) 0 = (a.length : Nat) := by
  unfold idxFrom
  rw [List.drop_zero, cutB_hit h]; simp
theorem enc_front {l : List UInt8} (h : l ≠ []) : ∃ r, encL l 0 = hexN l.length ++ 13 :: r := by
  unfold encL
  rw [if_pos (by omega), enc_step h, Nat.min_self]
  exact ⟨_, rfl⟩
theorem hexN_no13 (u : Nat) : 13 ∉ hexN u := fun hc => (lineC_yes.1 (hexN_line u 13 hc)).1 rfl
set_option maxRecDepth 100000 in
set_option maxHeartbeats 3200000 in
theorem details_walk (body ext n v : ByteArray) (z : Int) (w : World) (hs1 : body.size ≤ 9223372036854775807) (hs2 : ext.size ≤ 9223372036854775807) (hs3 : n.size ≤ 9223372036854775807) (hs4 : v.size ≤ 9223372036854775807) (_ : (Lit.int .i64 z).wf = true) (hM : MaxOf w) :
    Calls Tryd.prog 4 #[.string body, .string ext, .string n, .string v, .int .i64 z] w fun e w' => e = .returned (.bool true) ∧ Below w.heap.size w w' := by
  by_cases h : 1000 < (body.size : Int)
  · go_enter Tryd.func4, Tryd.ntmps4
    go_wp2_with fail
    go_ret
    exact ⟨rfl, Below.refl _ _⟩
  have h0 := h; clear h
  by_cases h : 100 < (ext.size : Int)
  · go_enter Tryd.func4, Tryd.ntmps4
    go_wp2_with fail
    go_ret
    exact ⟨rfl, Below.refl _ _⟩
  have h1 := h; clear h
  by_cases h : 100 < (n.size : Int)
  · go_enter Tryd.func4, Tryd.ntmps4
    go_wp2_with fail
    go_ret
    exact ⟨rfl, Below.refl _ _⟩
  have h2 := h; clear h
  by_cases h : 100 < (v.size : Int)
  · go_enter Tryd.func4, Tryd.ntmps4
    go_wp2_with fail
    go_ret
    exact ⟨rfl, Below.refl _ _⟩
  have h3 := h; clear h
  cases ht : textB (bs ext) with
  | false =>
    go_enter Tryd.func4, Tryd.ntmps4
    go_wp2_with fail
    refine (rtext_any ext w (by omega)).mono ?_
    rintro e w0 ⟨he, rfl⟩
    rw [ht] at he; subst he
    go_wp2_with fail
    go_ret
    exact ⟨rfl, Below.refl _ _⟩
  | true =>
  cases hf : validF (bs n) (bs v) with
  | false =>
    go_enter Tryd.func4, Tryd.ntmps4
    go_wp2_with fail
    refine (rtext_any ext w (by omega)).mono ?_
    rintro e w0 ⟨he, rfl⟩
    rw [ht] at he; subst he
    go_wp2_with fail
    refine (rfvalid_any n v w (by omega) (by omega)).mono ?_
    rintro e w1 ⟨he, hb1⟩
    rw [hf] at he; subst he
    go_wp2_with fail
    go_ret
    exact ⟨rfl, hb1⟩
  | true =>
  by_cases h : z < 0
  · go_enter Tryd.func4, Tryd.ntmps4
    go_wp2_with fail
    refine (rtext_any ext w (by omega)).mono ?_
    rintro e w0 ⟨he, rfl⟩
    rw [ht] at he; subst he
    go_wp2_with fail
    refine (rfvalid_any n v w (by omega) (by omega)).mono ?_
    rintro e w1 ⟨he, hb1⟩
    rw [hf] at he; subst he
    go_wp2_with fail
    go_ret
    exact ⟨rfl, hb1⟩
  have k0 := h; clear h
  by_cases h : 4 < z
  · go_enter Tryd.func4, Tryd.ntmps4
    go_wp2_with fail
    refine (rtext_any ext w (by omega)).mono ?_
    rintro e w0 ⟨he, rfl⟩
    rw [ht] at he; subst he
    go_wp2_with fail
    refine (rfvalid_any n v w (by omega) (by omega)).mono ?_
    rintro e w1 ⟨he, hb1⟩
    rw [hf] at he; subst he
    go_wp2_with fail
    go_ret
    exact ⟨rfl, hb1⟩
  have k1 := h; clear h
  by_cases h0 : body.size = 0
  · obtain ⟨e1, e2⟩ := femp_yes h0
    go_enter Tryd.func4, Tryd.ntmps4
    go_wp2_with fail
    refine (rtext_any ext w (by omega)).mono ?_
    rintro e w0 ⟨he, rfl⟩
    rw [ht] at he; subst he
    go_wp2_with fail
    refine (rfvalid_any n v w (by omega) (by omega)).mono ?_
    rintro e w1 ⟨he, hb1⟩
    rw [hf] at he; subst he
    go_wp2_with fail
    go_ret
    exact ⟨rfl, hb1⟩
  obtain ⟨e1, e2⟩ := femp_no h0
  obtain ⟨z', hz⟩ : ∃ z' : Nat, z = z' := ⟨z.toNat, by omega⟩
  subst hz
  have HM := Lib.hid hM
  clear hM
  obtain ⟨Z, hZ⟩ : ∃ Z : ByteArray, Z = ⟨(encL (bs body) 0).toArray⟩ := ⟨_, rfl⟩
  obtain ⟨rr, hrr⟩ := enc_front e2
  rw [bs_length] at hrr
  have hbz : bs Z = hexN body.size ++ 13 :: rr := by rw [hZ, ← hrr]
  obtain ⟨q, hq⟩ : ∃ q : Nat, q = (hexN body.size).length := ⟨_, rfl⟩
  have hqZ : q < Z.size := by rw [← bs_length, hbz, hq, List.length_append, List.length_cons]; omega
  have hq8 : q ≤ 8 := by
    rw [hq]; exact hexN_len 8 body.size (by omega) (by have : (16 : Nat) ^ 8 = 4294967296 := by decide
                                                       omega)
  have zZ : Z.size ≤ 1000000 := by
    rw [hZ]; show (encL (bs body) 0).length ≤ _
    unfold encL
    rw [if_pos (by omega), enc_step e2, Nat.min_self, bs_length, List.take_of_length_le (by rw [bs_length]; exact Nat.le_refl _), List.drop_of_length_le (by rw [bs_length]; exact Nat.le_refl _), enc_nil]
    simp only [List.length_append, List.length_cons, List.length_nil, bs_length]
    omega
  have HE : Hid (∀ wx, Calls Tryd.prog 14 #[.string body, .int .i64 0] wx fun e w' => e = .returned (.string Z) ∧ Below wx.heap.size wx w') := Lib.hid fun wx => by
    rw [hZ]; exact rencode_any body 0 wx (by omega)
  have HI : Hid (∀ wx, Calls Tryd.prog 15 #[.string Z, .int .u8 13, .int .i64 0] wx fun e w' => e = .returned (.int .i64 (q : Int)) ∧ wx = w') := Lib.hid fun wx => by
    have := index_any Z 13 0 13 0 wx rfl rfl (by omega) (by omega)
    rw [hbz, idxFrom_front (hexN_no13 _), ← hq] at this
    exact this
  obtain ⟨H, hH⟩ : ∃ H : ByteArray, H = Z.extract 0 q := ⟨_, rfl⟩
  have p1 : ∀ wx, (Instr.slice 9 (.string Z) none (some (.int .i64 (q : Int))) none).run Tryd.prog wx = .ok (.string H) wx := fun wx => by rw [hH]; exact run_to2 Z q _ rfl (by omega) wx
  have zH : H.size ≤ 8 := by rw [hH, ByteArray.size_extract]; omega
  have HH : Hid (bs H = hexN body.size) := Lib.hid (by rw [hH, ext_take, hbz, hq, List.take_left' rfl])
  obtain ⟨Fx, hFx⟩ : ∃ Fx : ByteArray, Fx = ⟨(formF (bs n) (bs v)).toArray⟩ := ⟨_, rfl⟩
  have HFb : Hid (bs Fx = formL (bs n) (bs v)) := Lib.hid (by rw [hFx]; unfold formF; rw [hf]; rfl)
  have zF : Fx.size ≤ 202 := by
    have := formL_len (bs n) (bs v)
    rw [← bs_length, HFb.out]
    rw [bs_length, bs_length] at this
    omega
  have HF : Hid (∀ wx, Calls Tryd.prog 16 #[.agg #[.string n, .string v]] wx fun e w' => e = .returned (.string Fx) ∧ Below wx.heap.size wx w') := Lib.hid fun wx => by
    rw [hFx]; exact rfformat_any n v wx (by omega) (by omega)
  clear hZ hrr hbz hq hH hFx
  go_enter Tryd.func4, Tryd.ntmps4
  go_wp2_with fail
  refine (rtext_any ext w (by omega)).mono ?_
  rintro e w0 ⟨he, rfl⟩
  rw [ht] at he; subst he
  go_wp2_with fail
  refine (rfvalid_any n v w (by omega) (by omega)).mono ?_
  rintro e w1 ⟨he, hb1⟩
  rw [hf] at he; subst he
  go_wp2_with fail
  refine (HE.out _).mono ?_
  rintro e w2 ⟨rfl, hb2⟩
  have b2 := step_b hb1 hb2
  clear hb2
  go_wp2_with fail
  refine (HI.out _).mono ?_
  rintro e w3 ⟨rfl, rfl⟩
  go_wp2_with fail
  go_loop [13, 14] (fun o j => ∃ (i : Nat) (O : ByteArray), i ≤ z' ∧ j = .int .i64 i ∧ o = .string O ∧ O.size = i ∧ Hid (bs O = List.replicate i 48)) (fun _ j => z' - (intOf j).toNat)
  case atStart => exact ⟨0, ⟨#[]⟩, by omega, rfl, rfl, rfl, Lib.hid rfl⟩
  case round =>
    obtain ⟨i, O, hi, rfl, rfl, zO, HO⟩ := hrel
    by_cases hlt : i < z'
    · have hlt' : (i : Int) < (z' : Int) := by omega
      obtain ⟨E4, hE4⟩ : ∃ E : ByteArray, E = O ++ ⟨#[48]⟩ := ⟨_, rfl⟩
      have s4 : ∀ wx, (Op.stringOp .add O ⟨#[48]⟩).run Tryd.prog wx = .ok (.string E4) wx := fun wx => by rw [hE4]; exact run_string_add_sum wx _ _ (by show _ + 1 ≤ _; omega)
      have z4 : E4.size = i + 1 := by rw [hE4, ByteArray.size_append, zO]; rfl
      have HO4 : Hid (bs E4 = List.replicate (i + 1) 48) := Lib.hid (by rw [hE4, bs_cat, HO.out, List.replicate_succ'])
      have zO4 := Lib.hid z4
      clear hE4 zO z4
      go_wp2_with fail
      go_round
      case rel => exact ⟨i + 1, E4, by omega, by go_num, rfl, zO4.out, HO4⟩
      case measure => simp [intOf]; omega
    · have hlt' : ¬ (i : Int) < (z' : Int) := by omega
      have hiz : i = z' := by omega
      obtain ⟨T1, hT1⟩ : ∃ E : ByteArray, E = H ++ ⟨#[59]⟩ := ⟨_, rfl⟩
      obtain ⟨T2, hT2⟩ : ∃ E : ByteArray, E = T1 ++ ext := ⟨_, rfl⟩
      obtain ⟨T3, hT3⟩ : ∃ E : ByteArray, E = T2 ++ ⟨#[13, 10]⟩ := ⟨_, rfl⟩
      obtain ⟨T4, hT4⟩ : ∃ E : ByteArray, E = T3 ++ body := ⟨_, rfl⟩
      obtain ⟨T5, hT5⟩ : ∃ E : ByteArray, E = T4 ++ ⟨#[13, 10, 48, 48, 59]⟩ := ⟨_, rfl⟩
      obtain ⟨T6, hT6⟩ : ∃ E : ByteArray, E = T5 ++ ext := ⟨_, rfl⟩
      obtain ⟨T7, hT7⟩ : ∃ E : ByteArray, E = T6 ++ ⟨#[13, 10]⟩ := ⟨_, rfl⟩
      obtain ⟨T8, hT8⟩ : ∃ E : ByteArray, E = T7 ++ Fx := ⟨_, rfl⟩
      obtain ⟨T9, hT9⟩ : ∃ E : ByteArray, E = T8 ++ ⟨#[13, 10, 13, 10]⟩ := ⟨_, rfl⟩
      obtain ⟨T10, hT10⟩ : ∃ E : ByteArray, E = O ++ T9 := ⟨_, rfl⟩
      have zT1 : T1.size = H.size + 1 := by rw [hT1, ByteArray.size_append]; rfl
      have zT2 : T2.size = T1.size + ext.size := by rw [hT2, ByteArray.size_append]
      have zT3 : T3.size = T2.size + 2 := by rw [hT3, ByteArray.size_append]; rfl
      have zT4 : T4.size = T3.size + body.size := by rw [hT4, ByteArray.size_append]
      have zT5 : T5.size = T4.size + 5 := by rw [hT5, ByteArray.size_append]; rfl
      have zT6 : T6.size = T5.size + ext.size := by rw [hT6, ByteArray.size_append]
      have zT7 : T7.size = T6.size + 2 := by rw [hT7, ByteArray.size_append]; rfl
      have zT8 : T8.size = T7.size + Fx.size := by rw [hT8, ByteArray.size_append]
      have zT9 : T9.size = T8.size + 4 := by rw [hT9, ByteArray.size_append]; rfl
      have zT10 : T10.size = O.size + T9.size := by rw [hT10, ByteArray.size_append]
      have sT1 : ∀ wx, (Op.stringOp .add H ⟨#[59]⟩).run Tryd.prog wx = .ok (.string T1) wx := fun wx => by rw [hT1]; exact run_string_add_sum wx _ _ (by show _ + 1 ≤ _; omega)
      have sT2 : ∀ wx, (Op.stringOp .add T1 ext).run Tryd.prog wx = .ok (.string T2) wx := fun wx => by rw [hT2]; exact run_string_add_sum wx _ _ (by omega)
      have sT3 : ∀ wx, (Op.stringOp .add T2 ⟨#[13, 10]⟩).run Tryd.prog wx = .ok (.string T3) wx := fun wx => by rw [hT3]; exact run_string_add_sum wx _ _ (by show _ + 2 ≤ _; omega)
      have sT4 : ∀ wx, (Op.stringOp .add T3 body).run Tryd.prog wx = .ok (.string T4) wx := fun wx => by rw [hT4]; exact run_string_add_sum wx _ _ (by omega)
      have sT5 : ∀ wx, (Op.stringOp .add T4 ⟨#[13, 10, 48, 48, 59]⟩).run Tryd.prog wx = .ok (.string T5) wx := fun wx => by rw [hT5]; exact run_string_add_sum wx _ _ (by show _ + 5 ≤ _; omega)
      have sT6 : ∀ wx, (Op.stringOp .add T5 ext).run Tryd.prog wx = .ok (.string T6) wx := fun wx => by rw [hT6]; exact run_string_add_sum wx _ _ (by omega)
      have sT7 : ∀ wx, (Op.stringOp .add T6 ⟨#[13, 10]⟩).run Tryd.prog wx = .ok (.string T7) wx := fun wx => by rw [hT7]; exact run_string_add_sum wx _ _ (by show _ + 2 ≤ _; omega)
      have sT8 : ∀ wx, (Op.stringOp .add T7 Fx).run Tryd.prog wx = .ok (.string T8) wx := fun wx => by rw [hT8]; exact run_string_add_sum wx _ _ (by omega)
      have sT9 : ∀ wx, (Op.stringOp .add T8 ⟨#[13, 10, 13, 10]⟩).run Tryd.prog wx = .ok (.string T9) wx := fun wx => by rw [hT9]; exact run_string_add_sum wx _ _ (by show _ + 4 ≤ _; omega)
      have sT10 : ∀ wx, (Op.stringOp .add O T9).run Tryd.prog wx = .ok (.string T10) wx := fun wx => by rw [hT10]; exact run_string_add_sum wx _ _ (by omega)
      have hT : bs T10 = detL (bs body) (bs ext) (bs n) (bs v) z' := by
        rw [hT10, bs_cat, hT9, bs_cat, hT8, bs_cat, hT7, bs_cat, hT6, bs_cat, hT5, bs_cat, hT4, bs_cat, hT3, bs_cat, hT2, bs_cat, hT1, bs_cat, HO.out, HH.out, HFb.out, hiz]
        unfold detL
        rw [bs_length]
        simp [bs]
      have hdec := dec_details (z := z') (n := bs n) (v := bs v) e2 (by rw [bs_length]; omega) (by rw [bs_length]; omega) ht hf (by omega)
      rw [← hT, bs_length] at hdec
      have zT : T10.size ≤ 1000000 := by omega
      have HD : Hid (∀ wx, MaxOf wx → Calls Tryd.prog 9 #[.string T10] wx fun e w' => e = .returned (.tuple #[.string body, .int .i64 (T10.size : Int), .int .i64 0]) ∧ Below wx.heap.size wx w') := Lib.hid fun wx hm => by
        have := decode_any T10 wx zT hm
        rw [hdec] at this
        exact this
      clear hT1 hT2 hT3 hT4 hT5 hT6 hT7 hT8 hT9 hT10 zT1 zT2 zT3 zT4 zT5 zT6 zT7 zT8 zT9 zT10 hT hdec zO hiz
      go_wp2_with fail
      go_region_held3 (fun w' => Below w.heap.size w w') (first | assumption | exact step_b b2 ((Below.refl _ _).drew) | exact b2 | (exact step_b (by assumption) hb)) ((go_at_call 16; refine (HF.out _).mono ?_; rintro e w' ⟨rfl, hb⟩))
      have hq : Below w.heap.size w w' := by assumption
      go_wp2_with fail
      refine (HD.out _ (HM.out.below hq)).mono ?_
      rintro e w5 ⟨rfl, hb5⟩
      have b5 := step_b hq hb5
      go_wp2_with fail
      refine (awake5_any w5 (HM.out.below b5)).mono ?_
      rintro e w6 ⟨rfl, hb6⟩
      go_wp2_with fail
      go_ret
      exact ⟨rfl, step_b b5 hb6⟩
end Go.Proofs.YtfnmohaddkoalaaDoor
