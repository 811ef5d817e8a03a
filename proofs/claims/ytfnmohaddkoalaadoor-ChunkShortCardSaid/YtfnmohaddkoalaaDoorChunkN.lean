/- The walks of ChunkEncodes, ChunkBack, ChunkShort (law 5). Printed by gen_chunke.py. -/
import Derived.Test.YtfnmohaddkoalaaDoorChunkA
import Derived.Test.YtfnmohaddkoalaaDoorEncW
namespace Go.Proofs.YtfnmohaddkoalaaDoor
open Go.RowKit Go.Shelf
set_option linter.unusedSimpArgs false

theorem encGo_len {n : Nat} (hn : 0 < n) : ∀ (f : Nat) (l : List UInt8), l.length ≤ 3000 → (encGo f n l).length ≤ 13 * l.length + 5
  | 0, l, _ => by rw [encGo]; simp
  | f + 1, l, hl => by
    by_cases h : l = []
    · rw [h, enc_nil]; simp
    · have hp := List.length_pos_iff.2 h
      rw [enc_step h]
      have h1 := hexN_len 8 (min n l.length) (by omega) (by have : (16 : Nat) ^ 8 = 4294967296 := by decide
                                                            omega)
      have h2 := encGo_len hn f (l.drop (min n l.length)) (by rw [List.length_drop]; omega)
      simp only [List.length_append, List.length_cons, List.length_take]
      rw [List.length_drop] at h2
      omega
theorem enc_len {l : List UInt8} (n : Int) (hl : l.length ≤ 3000) : (encL l n).length ≤ 39005 := by
  unfold encL
  by_cases h : l = []
  · rw [h, enc_nil]; simp
  · have hp := List.length_pos_iff.2 h
    by_cases h1 : n < 1
    · rw [if_pos h1]; have := encGo_len hp (l.length + 1) l hl; omega
    · rw [if_neg h1]; have := encGo_len (n := n.toNat) (by omega) (l.length + 1) l hl; omega
set_option maxHeartbeats 1600000 in
theorem encodes_walk (body : ByteArray) (sz : Int) (w : World) (_ : body.size ≤ 9223372036854775807) (_ : (Lit.int .i64 sz).wf = true) (hD : DeB w) (hM : MaxOf w) :
    Calls Tryd.prog 5 #[.string body, .int .i64 sz] w fun e w' => e = .returned (.bool true) ∧ Below w.heap.size w w' := by
  by_cases h : 3000 < (body.size : Int)
  · go_enter Tryd.func5, Tryd.ntmps5
    go_wp2_with fail
    go_ret
    exact ⟨rfl, Below.refl _ _⟩
  obtain ⟨Z, hZ⟩ : ∃ Z : ByteArray, Z = ⟨(encL (bs body) sz).toArray⟩ := ⟨_, rfl⟩
  have HE : Hid (∀ wx, DeB wx → Calls Tryd.prog 17 #[.string body, .int .i64 sz] wx fun e w' => e = .returned (.string Z) ∧ Below wx.heap.size wx w') := Lib.hid fun wx hd => by
    rw [hZ]; exact encode_any body sz wx (by omega) hd
  have zZ : Z.size ≤ 39005 := by rw [hZ]; exact enc_len sz (by rw [bs_length]; omega)
  have HD := Lib.hid hD
  have HM := Lib.hid hM
  clear hD hM
  have HR : Hid (∀ wx, Calls Tryd.prog 14 #[.string body, .int .i64 sz] wx fun e w' => e = .returned (.string Z) ∧ Below wx.heap.size wx w') := Lib.hid fun wx => by
    rw [hZ]; exact rencode_any body sz wx (by omega)
  clear hZ
  go_enter Tryd.func5, Tryd.ntmps5
  go_wp2_with fail
  refine (HE.out w HD.out).mono ?_
  rintro e w1 ⟨rfl, hb1⟩
  go_wp2_with fail
  refine (HR.out w1).mono ?_
  rintro e w2 ⟨rfl, hb2⟩
  have b2 := step_b hb1 hb2
  go_wp2_with fail
  refine (awake5_any w2 (HM.out.below b2)).mono ?_
  rintro e w3 ⟨rfl, hb3⟩
  go_wp2_with fail
  go_ret
  exact ⟨rfl, step_b b2 hb3⟩
set_option maxHeartbeats 1600000 in
theorem back_walk (body more : ByteArray) (sz : Int) (w : World) (_ : body.size ≤ 9223372036854775807) (_ : more.size ≤ 9223372036854775807) (_ : (Lit.int .i64 sz).wf = true) (hD : DeB w) (hM : MaxOf w) :
    Calls Tryd.prog 6 #[.string body, .string more, .int .i64 sz] w fun e w' => e = .returned (.bool true) ∧ Below w.heap.size w w' := by
  by_cases h : 2000 < (body.size : Int)
  · go_enter Tryd.func6, Tryd.ntmps6
    go_wp2_with fail
    go_ret
    exact ⟨rfl, Below.refl _ _⟩
  by_cases h2 : 1000 < (more.size : Int)
  · go_enter Tryd.func6, Tryd.ntmps6
    go_wp2_with fail
    go_ret
    exact ⟨rfl, Below.refl _ _⟩
  obtain ⟨Z, hZ⟩ : ∃ Z : ByteArray, Z = ⟨(encL (bs body) sz).toArray⟩ := ⟨_, rfl⟩
  have HE : Hid (∀ wx, DeB wx → Calls Tryd.prog 17 #[.string body, .int .i64 sz] wx fun e w' => e = .returned (.string Z) ∧ Below wx.heap.size wx w') := Lib.hid fun wx hd => by
    rw [hZ]; exact encode_any body sz wx (by omega) hd
  have zZ : Z.size ≤ 39005 := by rw [hZ]; exact enc_len sz (by rw [bs_length]; omega)
  have HD := Lib.hid hD
  have HM := Lib.hid hM
  clear hD hM
  obtain ⟨E, hE⟩ : ∃ E : ByteArray, E = Z ++ more := ⟨_, rfl⟩
  have zE : E.size = Z.size + more.size := by rw [hE, ByteArray.size_append]
  have s1 : ∀ wx, (Op.stringOp .add Z more).run Tryd.prog wx = .ok (.string E) wx := fun wx => by rw [hE]; exact run_string_add_sum wx _ _ (by omega)
  have zE2 : E.size ≤ 1000000 := by omega
  have HX : Hid (∀ wx, MaxOf wx → Calls Tryd.prog 9 #[.string E] wx fun e w' => e = .returned (.tuple #[.string body, .int .i64 (Z.size : Int), .int .i64 0]) ∧ Below wx.heap.size wx w') := Lib.hid fun wx hm => by
    have := decode_any E wx zE2 hm
    have hb : bs Z = encL (bs body) sz := by rw [hZ]
    rw [hE, bs_cat, hb, dec_back (bs body) (bs more) sz (by rw [bs_length]; omega), ← hb, bs_length, ← hE] at this
    exact this
  clear hZ hE zE
  go_enter Tryd.func6, Tryd.ntmps6
  go_wp2_with fail
  refine (HE.out w HD.out).mono ?_
  rintro e w1 ⟨rfl, hb1⟩
  go_wp2_with fail
  refine (HX.out w1 (HM.out.below hb1)).mono ?_
  rintro e w2 ⟨rfl, hb2⟩
  have b2 := step_b hb1 hb2
  go_wp2_with fail
  refine (awake5_any w2 (HM.out.below b2)).mono ?_
  rintro e w3 ⟨rfl, hb3⟩
  go_wp2_with fail
  go_ret
  exact ⟨rfl, step_b b2 hb3⟩
set_option maxHeartbeats 1600000 in
theorem short_walk (body : ByteArray) (sz cut : Int) (w : World) (_ : body.size ≤ 9223372036854775807) (_ : (Lit.int .i64 sz).wf = true) (_ : (Lit.int .i64 cut).wf = true) (hD : DeB w) (hM : MaxOf w) :
    Calls Tryd.prog 7 #[.string body, .int .i64 sz, .int .i64 cut] w fun e w' => e = .returned (.bool true) ∧ Below w.heap.size w w' := by
  by_cases h : 2000 < (body.size : Int)
  · go_enter Tryd.func7, Tryd.ntmps7
    go_wp2_with fail
    go_ret
    exact ⟨rfl, Below.refl _ _⟩
  by_cases h2 : cut < 0
  · go_enter Tryd.func7, Tryd.ntmps7
    go_wp2_with fail
    go_ret
    exact ⟨rfl, Below.refl _ _⟩
  obtain ⟨Z, hZ⟩ : ∃ Z : ByteArray, Z = ⟨(encL (bs body) sz).toArray⟩ := ⟨_, rfl⟩
  have HE : Hid (∀ wx, DeB wx → Calls Tryd.prog 17 #[.string body, .int .i64 sz] wx fun e w' => e = .returned (.string Z) ∧ Below wx.heap.size wx w') := Lib.hid fun wx hd => by
    rw [hZ]; exact encode_any body sz wx (by omega) hd
  have zZ : Z.size ≤ 39005 := by rw [hZ]; exact enc_len sz (by rw [bs_length]; omega)
  have HD := Lib.hid hD
  have HM := Lib.hid hM
  clear hD hM
  obtain ⟨c, hc⟩ : ∃ c : Nat, cut = c := ⟨cut.toNat, by omega⟩
  subst hc
  have hb : bs Z = encL (bs body) sz := by rw [hZ]
  have hZ0 : 0 < Z.size := by
    rw [← bs_length, hb]; exact List.length_pos_iff.2 (enc_ne _ _)
  obtain ⟨i, hi⟩ : ∃ i : Nat, i = c % Z.size := ⟨_, rfl⟩
  have hiZ : i < Z.size := by rw [hi]; exact Nat.mod_lt _ hZ0
  have hm : (c : Int) % (Z.size : Int) = (i : Int) := by omega
  have hm2 : Int.tmod (c : Int) (Z.size : Int) = (i : Int) := by rw [Int.tmod_eq_emod_of_nonneg (by omega)]; exact hm
  have hz0 : ((Z.size : Int) == 0) = false := by rw [beq_eq_false_iff_ne]; omega
  obtain ⟨E, hE⟩ : ∃ E : ByteArray, E = Z.extract 0 i := ⟨_, rfl⟩
  have zE : E.size ≤ 1000000 := by rw [hE, ByteArray.size_extract]; omega
  have p1 : ∀ wx, (Instr.slice 9 (.string Z) none (some (.int .i64 (i : Int))) none).run Tryd.prog wx = .ok (.string E) wx := fun wx => by rw [hE]; exact run_to2 Z i _ rfl (by omega) wx
  have HX : Hid (∀ wx, MaxOf wx → Calls Tryd.prog 9 #[.string E] wx fun e w' => e = .returned (.tuple #[.string ⟨#[]⟩, .int .i64 0, .int .i64 2]) ∧ Below wx.heap.size wx w') := Lib.hid fun wx hm => by
    have := decode_any E wx zE hm
    rw [hE, ext_take, hb, dec_early (bs body) sz i (by rw [bs_length]; omega) (by rw [← hb, bs_length]; exact hiZ), ← hE] at this
    exact this
  clear hZ hE hi hb
  go_enter Tryd.func7, Tryd.ntmps7
  go_wp2_with fail
  refine (HE.out w HD.out).mono ?_
  rintro e w1 ⟨rfl, hb1⟩
  go_wp2_with fail
  refine (HX.out w1 (HM.out.below hb1)).mono ?_
  rintro e w2 ⟨rfl, hb2⟩
  have b2 := step_b hb1 hb2
  go_wp2_with fail
  refine (awake5_any w2 (HM.out.below b2)).mono ?_
  rintro e w3 ⟨rfl, hb3⟩
  go_wp2_with fail
  go_ret
  exact ⟨rfl, step_b b2 hb3⟩
end Go.Proofs.YtfnmohaddkoalaaDoor
