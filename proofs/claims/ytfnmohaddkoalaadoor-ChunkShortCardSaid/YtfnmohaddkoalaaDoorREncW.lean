/- The walks of the reference's hexadecimal and EncodeChunks (5.4). Printed by gen_chunkl.py. -/
import Derived.Test.YtfnmohaddkoalaaDoorFieldW
import Derived.Test.YtfnmohaddkoalaaDoorChunkQ
import Derived.Test.YtfnmohaddkoalaaDoorDecodeW
import Derived.Test.YtfnmohaddkoalaaDoorRParseW
import Derived.Deep.RegionHeld3
import Derived.IntWalk
namespace Go.Proofs.YtfnmohaddkoalaaDoor
open Go.RowKit Go.Shelf
set_option linter.unusedSimpArgs false

theorem bs_cat (a b : ByteArray) : bs (a ++ b) = bs a ++ bs b := by unfold bs; rw [ByteArray.data_append, Array.toList_append]
theorem hexN_cons {u : Nat} (h : 16 ≤ u) : hexN u = hexN (u / 16) ++ [lowD (u % 16)] := hexN_more (by omega)
/-- The digits of a number, nothing for 0. -/
def hexR (u : Nat) : List UInt8 := if u = 0 then [] else hexN u
theorem hexR_step {u : Nat} (h : 0 < u) : hexR u = hexR (u / 16) ++ [lowD (u % 16)] := by
  unfold hexR
  rw [if_neg (by omega)]
  by_cases h16 : u < 16
  · rw [hexN_one h16, if_pos (by omega), show u % 16 = u by omega]; rfl
  · rw [if_neg (by omega), hexN_more h16]
theorem hexR_pos {u : Nat} (h : 0 < u) : hexR u = hexN u := by unfold hexR; rw [if_neg (by omega)]
theorem hexR_len {u : Nat} (h : u ≤ 4294967295) : (hexR u).length ≤ 8 := by
  unfold hexR
  split
  · simp
  · exact hexN_len 8 u (by omega) (by have : (16 : Nat) ^ 8 = 4294967296 := by decide
                                      omega)
theorem run_dig (n : Nat) (h : n < 16) (w : World) : (Instr.slice 9 (.string hexTc) (some (.int .i64 (n : Int))) (some (.int .i64 ((n : Int) + 1))) none).run Tryd.prog w = .ok (.string ⟨[lowD n].toArray⟩) w := by
  rcases (show n = 0 ∨ n = 1 ∨ n = 2 ∨ n = 3 ∨ n = 4 ∨ n = 5 ∨ n = 6 ∨ n = 7 ∨ n = 8 ∨ n = 9 ∨ n = 10 ∨ n = 11 ∨ n = 12 ∨ n = 13 ∨ n = 14 ∨ n = 15 from by omega) with rfl | rfl | rfl | rfl | rfl | rfl | rfl | rfl | rfl | rfl | rfl | rfl | rfl | rfl | rfl | rfl <;> kernel_rfl
set_option maxHeartbeats 1600000 in
theorem rhexa_any (n : Nat) (w : World) (hn : n ≤ 4294967295) :
    Calls Tryd.prog 36 #[.int .i64 n] w fun e w' => e = .returned (.string ⟨(hexR n).toArray⟩) ∧ w = w' := by
  go_enter Tryd.func36, Tryd.ntmps36
  go_wp2_with fail
  go_loop [0, 3] (fun j v => ∃ (u : Nat) (B : ByteArray), u ≤ 4294967295 ∧ j = .int .i64 u ∧ v = .string B ∧ Hid (hexR n = hexR u ++ bs B) ∧ B.size ≤ 8) (fun j _ => (intOf j).toNat)
  case atStart => exact ⟨n, ⟨#[]⟩, hn, rfl, rfl, Lib.hid (by show hexR n = hexR n ++ []; simp), by show 0 ≤ 8; omega⟩
  case round =>
    obtain ⟨u, B, hu, rfl, rfl, HH, hB⟩ := hrel
    by_cases h0 : 0 < u
    · have h0' : 0 < (u : Int) := by omega
      obtain ⟨d, hd⟩ : ∃ d : Nat, d = u % 16 := ⟨_, rfl⟩
      have hd16 : d < 16 := by omega
      have hm : (u : Int) % 16 = (d : Int) := by omega
      obtain ⟨q, hq⟩ : ∃ q : Nat, q = u / 16 := ⟨_, rfl⟩
      have hq' : (u : Int) / 16 = (q : Int) := by omega
      obtain ⟨B2, hB2⟩ : ∃ B2 : ByteArray, B2 = ⟨[lowD d].toArray⟩ ++ B := ⟨_, rfl⟩
      obtain ⟨E, hE⟩ : ∃ E : ByteArray, E = ⟨[lowD d].toArray⟩ := ⟨_, rfl⟩
      have zE : E.size = 1 := by rw [hE]; rfl
      have p1 : ∀ wx, (Instr.slice 9 (.string hexTc) (some (.int .i64 (d : Int))) (some (.int .i64 ((d : Int) + 1))) none).run Tryd.prog wx = .ok (.string E) wx := fun wx => by rw [hE]; exact run_dig d hd16 wx
      have s1 : ∀ wx, (Op.stringOp .add E B).run Tryd.prog wx = .ok (.string B2) wx := fun wx => by
        rw [hB2, ← hE]; exact run_string_add_sum wx _ _ (by omega)
      have hst := hexR_step h0
      have HH2 : Hid (hexR n = hexR q ++ bs B2) := Lib.hid (by
        rw [HH.out, hst, ← hd, ← hq, hB2, bs_cat, List.append_assoc])
      have hl8 := hexR_len hn
      have zB2 : B2.size ≤ 8 := by
        rw [HH2.out, List.length_append, bs_length] at hl8; omega
      have hqu : q < u := by omega
      clear hd hq hB2 hE hst hl8 zE
      go_wp2_with fail
      go_round
      case rel => exact ⟨q, B2, by omega, by rw [← hq'], rfl, HH2, zB2⟩
      case measure => simp [intOf]; omega
    · have h0' : ¬ 0 < (u : Int) := by omega
      have HE : Hid (B = ⟨(hexR n).toArray⟩) := Lib.hid (by
        rw [HH.out, show u = 0 by omega]; rfl)
      go_wp2_with fail
      go_ret
      exact ⟨by rw [← HE.out]; rfl, rfl⟩
theorem enc_step2 {f N : Nat} {C D P X : ByteArray} {m : Nat} (h : 0 < C.size) (hm : m = min N C.size) (hm0 : 0 < m) (hP : P = C.extract 0 m) (hD : D = C.extract m C.size) (hX : X = ⟨(hexR m).toArray⟩) :
    encGo (f + 1) N (bs C) = bs X ++ ([13, 10] ++ (bs P ++ ([13, 10] ++ encGo f N (bs D)))) := by
  have hl : (bs C).length = C.size := bs_length C
  have hne : bs C ≠ [] := fun e => by rw [e] at hl; simp at hl; omega
  rw [enc_step hne, hl, ← hm, hP, hD, ext_take, ext_from, hX, hexR_pos hm0]; simp [bs]
set_option maxRecDepth 100000 in
set_option maxHeartbeats 1600000 in
theorem rencode_any (s : ByteArray) (sz : Int) (w : World) (hs : s.size ≤ 3000) :
    Calls Tryd.prog 14 #[.string s, .int .i64 sz] w fun e w' => e = .returned (.string ⟨(encL (bs s) sz).toArray⟩) ∧ Below w.heap.size w w' := by
  by_cases h1 : sz < 1
  · go_enter Tryd.func14, Tryd.ntmps14
    go_wp2_with fail
    have hN : s.size = 0 ∨ 1 ≤ s.size := by omega
    have HE0 : Hid (encL (bs s) sz = [] ++ encGo (s.size + 1) s.size (bs s)) := Lib.hid (by rw [List.nil_append]; unfold encL; rw [bs_length]; rw [if_pos (by omega)])
    generalize hL : encL (bs s) sz = L at HE0
    have HL := Lib.hid hL
    clear hL
    go_loopw [0, 5] (fun j v wr => ∃ (C O : ByteArray) (f : Nat), Below w.heap.size w wr ∧ j = .string C ∧ v = .string O ∧ C.size < f ∧ C.size ≤ s.size ∧ O.size + 13 * C.size ≤ 13 * s.size ∧ Hid (L = bs O ++ encGo f s.size (bs C))) (fun j _ _ => match j with | .string c => c.size | _ => 0)
    case atStart => exact ⟨s, ⟨#[]⟩, s.size + 1, Below.refl _ _, rfl, rfl, by omega, by omega, by show 0 + _ ≤ _; omega, HE0⟩
    case round =>
      obtain ⟨C, O, f, hbr, rfl, rfl, hf, hC, hO, HE⟩ := hrel
      by_cases h0 : 0 < C.size
      · have h0' : 0 < (C.size : Int) := by omega
        obtain ⟨g, hg⟩ : ∃ g, f = g + 1 := ⟨f - 1, by omega⟩
        obtain ⟨m, hm⟩ : ∃ m : Nat, m = min s.size C.size := ⟨_, rfl⟩
        have hmC : m ≤ C.size := by omega
        have hm0 : 0 < m := by omega
        have hmi : min (s.size : Int) (C.size : Int) = (m : Int) := by omega
        obtain ⟨X, hX⟩ : ∃ X : ByteArray, X = ⟨(hexR m).toArray⟩ := ⟨_, rfl⟩
        have zX : X.size ≤ 8 := by rw [hX]; exact hexR_len (by omega)
        have HX : ∀ wx, Calls Tryd.prog 36 #[.int .i64 (m : Int)] wx fun e w' => e = .returned (.string X) ∧ w' = wx := fun wx => by rw [hX]; exact (rhexa_any m wx (by omega)).mono fun _ _ h => ⟨h.1, h.2.symm⟩
        obtain ⟨P, hP⟩ : ∃ P : ByteArray, P = C.extract 0 m := ⟨_, rfl⟩
        obtain ⟨Q, hQ⟩ : ∃ Q : ByteArray, Q = C.extract m C.size := ⟨_, rfl⟩
        have zP : P.size = m := by rw [hP, ByteArray.size_extract]; omega
        have zQ : Q.size = C.size - m := by rw [hQ, ByteArray.size_extract]; omega
        have p1 : ∀ wx, (Instr.slice 9 (.string C) none (some (.int .i64 (m : Int))) none).run Tryd.prog wx = .ok (.string P) wx := fun wx => by rw [hP]; exact run_to2 C m _ rfl hmC wx
        have p2 : ∀ wx, (Instr.slice 9 (.string C) (some (.int .i64 (m : Int))) none none).run Tryd.prog wx = .ok (.string Q) wx := fun wx => by rw [hQ]; exact run_from2 C m _ rfl hmC wx
        obtain ⟨E1, hE1⟩ : ∃ E : ByteArray, E = X ++ ⟨#[13, 10]⟩ := ⟨_, rfl⟩
        obtain ⟨E2, hE2⟩ : ∃ E : ByteArray, E = E1 ++ P := ⟨_, rfl⟩
        obtain ⟨E3, hE3⟩ : ∃ E : ByteArray, E = E2 ++ ⟨#[13, 10]⟩ := ⟨_, rfl⟩
        obtain ⟨E4, hE4⟩ : ∃ E : ByteArray, E = O ++ E3 := ⟨_, rfl⟩
        have z1 : E1.size = X.size + 2 := by rw [hE1, ByteArray.size_append]; rfl
        have z2 : E2.size = E1.size + P.size := by rw [hE2, ByteArray.size_append]
        have z3 : E3.size = E2.size + 2 := by rw [hE3, ByteArray.size_append]; rfl
        have z4 : E4.size = O.size + E3.size := by rw [hE4, ByteArray.size_append]
        have s1 : ∀ wx, (Op.stringOp .add X ⟨#[13, 10]⟩).run Tryd.prog wx = .ok (.string E1) wx := fun wx => by rw [hE1]; exact run_string_add_sum wx _ _ (by show _ + 2 ≤ _; omega)
        have s2 : ∀ wx, (Op.stringOp .add E1 P).run Tryd.prog wx = .ok (.string E2) wx := fun wx => by rw [hE2]; exact run_string_add_sum wx _ _ (by omega)
        have s3 : ∀ wx, (Op.stringOp .add E2 ⟨#[13, 10]⟩).run Tryd.prog wx = .ok (.string E3) wx := fun wx => by rw [hE3]; exact run_string_add_sum wx _ _ (by show _ + 2 ≤ _; omega)
        have s4 : ∀ wx, (Op.stringOp .add O E3).run Tryd.prog wx = .ok (.string E4) wx := fun wx => by rw [hE4]; exact run_string_add_sum wx _ _ (by omega)
        have HE2 : Hid (L = bs E4 ++ encGo g s.size (bs Q)) := Lib.hid (by
          rw [HE.out, hg, enc_step2 h0 hm hm0 hP hQ hX, hE4, hE3, hE2, hE1]
          simp only [bs_cat, List.append_assoc])
        have hO2 : E4.size + 13 * Q.size ≤ 13 * s.size := by omega
        have hQs : Q.size < C.size := by omega
        have hQg : Q.size < g := by omega
        clear hE1 hE2 hE3 hE4 z1 z2 z3 z4 hP hQ hX zX zP zQ hm hg
        go_wp2_with fail
        go_quiet ((go_at_call 36; exact Calls.quiet_of_same (HX _)))
        have b4 := below_drewN hbr nq
        generalize wr.drewN nq = w4 at b4 ⊢
        go_wp2_with fail
        go_round
        case rel => exact ⟨Q, E4, g, b4, rfl, rfl, hQg, by omega, hO2, HE2⟩
        case measure => exact hQs
      · have h0' : ¬ 0 < (C.size : Int) := by omega
        obtain ⟨E4, hE4⟩ : ∃ E : ByteArray, E = O ++ ⟨#[48, 13, 10, 13, 10]⟩ := ⟨_, rfl⟩
        have s4 : ∀ wx, (Op.stringOp .add O ⟨#[48, 13, 10, 13, 10]⟩).run Tryd.prog wx = .ok (.string E4) wx := fun wx => by rw [hE4]; exact run_string_add_sum wx _ _ (by show _ + 5 ≤ _; omega)
        have HE2 : Hid (E4 = ⟨L.toArray⟩) := Lib.hid (by
          have hl : (bs C).length = C.size := bs_length C
          have e0 : bs C = [] := List.length_eq_zero_iff.1 (by omega)
          rw [HE.out, e0, enc_nil, hE4]
          apply ByteArray.ext
          simp [bs])
        clear hE4
        go_wp2_with fail
        go_ret
        exact ⟨by rw [HE2.out, HL.out]; rfl, hbr⟩
  · obtain ⟨N, hNz⟩ : ∃ N : Nat, sz = N := ⟨sz.toNat, by omega⟩
    subst hNz
    go_enter Tryd.func14, Tryd.ntmps14
    go_wp2_with fail
    have hN : s.size = 0 ∨ 1 ≤ N := by omega
    have HE0 : Hid (encL (bs s) (N : Int) = [] ++ encGo (s.size + 1) N (bs s)) := Lib.hid (by rw [List.nil_append]; unfold encL; rw [bs_length]; rw [if_neg (by omega)]; rfl)
    generalize hL : encL (bs s) (N : Int) = L at HE0
    have HL := Lib.hid hL
    clear hL
    go_loopw [0, 5] (fun j v wr => ∃ (C O : ByteArray) (f : Nat), Below w.heap.size w wr ∧ j = .string C ∧ v = .string O ∧ C.size < f ∧ C.size ≤ s.size ∧ O.size + 13 * C.size ≤ 13 * s.size ∧ Hid (L = bs O ++ encGo f N (bs C))) (fun j _ _ => match j with | .string c => c.size | _ => 0)
    case atStart => exact ⟨s, ⟨#[]⟩, s.size + 1, Below.refl _ _, rfl, rfl, by omega, by omega, by show 0 + _ ≤ _; omega, HE0⟩
    case round =>
      obtain ⟨C, O, f, hbr, rfl, rfl, hf, hC, hO, HE⟩ := hrel
      by_cases h0 : 0 < C.size
      · have h0' : 0 < (C.size : Int) := by omega
        obtain ⟨g, hg⟩ : ∃ g, f = g + 1 := ⟨f - 1, by omega⟩
        obtain ⟨m, hm⟩ : ∃ m : Nat, m = min N C.size := ⟨_, rfl⟩
        have hmC : m ≤ C.size := by omega
        have hm0 : 0 < m := by omega
        have hmi : min (N : Int) (C.size : Int) = (m : Int) := by omega
        obtain ⟨X, hX⟩ : ∃ X : ByteArray, X = ⟨(hexR m).toArray⟩ := ⟨_, rfl⟩
        have zX : X.size ≤ 8 := by rw [hX]; exact hexR_len (by omega)
        have HX : ∀ wx, Calls Tryd.prog 36 #[.int .i64 (m : Int)] wx fun e w' => e = .returned (.string X) ∧ w' = wx := fun wx => by rw [hX]; exact (rhexa_any m wx (by omega)).mono fun _ _ h => ⟨h.1, h.2.symm⟩
        obtain ⟨P, hP⟩ : ∃ P : ByteArray, P = C.extract 0 m := ⟨_, rfl⟩
        obtain ⟨Q, hQ⟩ : ∃ Q : ByteArray, Q = C.extract m C.size := ⟨_, rfl⟩
        have zP : P.size = m := by rw [hP, ByteArray.size_extract]; omega
        have zQ : Q.size = C.size - m := by rw [hQ, ByteArray.size_extract]; omega
        have p1 : ∀ wx, (Instr.slice 9 (.string C) none (some (.int .i64 (m : Int))) none).run Tryd.prog wx = .ok (.string P) wx := fun wx => by rw [hP]; exact run_to2 C m _ rfl hmC wx
        have p2 : ∀ wx, (Instr.slice 9 (.string C) (some (.int .i64 (m : Int))) none none).run Tryd.prog wx = .ok (.string Q) wx := fun wx => by rw [hQ]; exact run_from2 C m _ rfl hmC wx
        obtain ⟨E1, hE1⟩ : ∃ E : ByteArray, E = X ++ ⟨#[13, 10]⟩ := ⟨_, rfl⟩
        obtain ⟨E2, hE2⟩ : ∃ E : ByteArray, E = E1 ++ P := ⟨_, rfl⟩
        obtain ⟨E3, hE3⟩ : ∃ E : ByteArray, E = E2 ++ ⟨#[13, 10]⟩ := ⟨_, rfl⟩
        obtain ⟨E4, hE4⟩ : ∃ E : ByteArray, E = O ++ E3 := ⟨_, rfl⟩
        have z1 : E1.size = X.size + 2 := by rw [hE1, ByteArray.size_append]; rfl
        have z2 : E2.size = E1.size + P.size := by rw [hE2, ByteArray.size_append]
        have z3 : E3.size = E2.size + 2 := by rw [hE3, ByteArray.size_append]; rfl
        have z4 : E4.size = O.size + E3.size := by rw [hE4, ByteArray.size_append]
        have s1 : ∀ wx, (Op.stringOp .add X ⟨#[13, 10]⟩).run Tryd.prog wx = .ok (.string E1) wx := fun wx => by rw [hE1]; exact run_string_add_sum wx _ _ (by show _ + 2 ≤ _; omega)
        have s2 : ∀ wx, (Op.stringOp .add E1 P).run Tryd.prog wx = .ok (.string E2) wx := fun wx => by rw [hE2]; exact run_string_add_sum wx _ _ (by omega)
        have s3 : ∀ wx, (Op.stringOp .add E2 ⟨#[13, 10]⟩).run Tryd.prog wx = .ok (.string E3) wx := fun wx => by rw [hE3]; exact run_string_add_sum wx _ _ (by show _ + 2 ≤ _; omega)
        have s4 : ∀ wx, (Op.stringOp .add O E3).run Tryd.prog wx = .ok (.string E4) wx := fun wx => by rw [hE4]; exact run_string_add_sum wx _ _ (by omega)
        have HE2 : Hid (L = bs E4 ++ encGo g N (bs Q)) := Lib.hid (by
          rw [HE.out, hg, enc_step2 h0 hm hm0 hP hQ hX, hE4, hE3, hE2, hE1]
          simp only [bs_cat, List.append_assoc])
        have hO2 : E4.size + 13 * Q.size ≤ 13 * s.size := by omega
        have hQs : Q.size < C.size := by omega
        have hQg : Q.size < g := by omega
        clear hE1 hE2 hE3 hE4 z1 z2 z3 z4 hP hQ hX zX zP zQ hm hg
        go_wp2_with fail
        go_quiet ((go_at_call 36; exact Calls.quiet_of_same (HX _)))
        have b4 := below_drewN hbr nq
        generalize wr.drewN nq = w4 at b4 ⊢
        go_wp2_with fail
        go_round
        case rel => exact ⟨Q, E4, g, b4, rfl, rfl, hQg, by omega, hO2, HE2⟩
        case measure => exact hQs
      · have h0' : ¬ 0 < (C.size : Int) := by omega
        obtain ⟨E4, hE4⟩ : ∃ E : ByteArray, E = O ++ ⟨#[48, 13, 10, 13, 10]⟩ := ⟨_, rfl⟩
        have s4 : ∀ wx, (Op.stringOp .add O ⟨#[48, 13, 10, 13, 10]⟩).run Tryd.prog wx = .ok (.string E4) wx := fun wx => by rw [hE4]; exact run_string_add_sum wx _ _ (by show _ + 5 ≤ _; omega)
        have HE2 : Hid (E4 = ⟨L.toArray⟩) := Lib.hid (by
          have hl : (bs C).length = C.size := bs_length C
          have e0 : bs C = [] := List.length_eq_zero_iff.1 (by omega)
          rw [HE.out, e0, enc_nil, hE4]
          apply ByteArray.ext
          simp [bs])
        clear hE4
        go_wp2_with fail
        go_ret
        exact ⟨by rw [HE2.out, HL.out]; rfl, hbr⟩
end Go.Proofs.YtfnmohaddkoalaaDoor
