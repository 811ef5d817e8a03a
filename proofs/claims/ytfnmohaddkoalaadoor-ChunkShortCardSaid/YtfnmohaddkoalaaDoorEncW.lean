/- The walk of chunk.Encode (5.4). Printed by gen_encw.py. -/
import Derived.Test.YtfnmohaddkoalaaDoorREncW
import Derived.Test.YtfnmohaddkoalaaDoorFmtW
import Derived.Test.YtfnmohaddkoalaaDoorBldW
import Derived.Deep.RegionHeld3
import Derived.IntWalk
namespace Go.Proofs.YtfnmohaddkoalaaDoor
open Go.RowKit Go.Shelf
set_option linter.unusedSimpArgs false

set_option maxRecDepth 100000 in
set_option maxHeartbeats 1600000 in
theorem encode_any (s : ByteArray) (sz : Int) (w : World) (hs : s.size ≤ 3000) (hD : DeB w) :
    Calls Tryd.prog 17 #[.string s, .int .i64 sz] w fun e w' => e = .returned (.string ⟨(encL (bs s) sz).toArray⟩) ∧ Below w.heap.size w w' := by
  have H64 := Lib.hid hD
  clear hD
  by_cases h1 : sz < 1
  · go_enter Tryd.func17, Tryd.ntmps17
    go_wp2_with fail
    have hN : s.size = 0 ∨ 1 ≤ s.size := by omega
    have HE0 : Hid (encL (bs s) sz = [] ++ encGo (s.size + 1) s.size (bs s)) := Lib.hid (by rw [List.nil_append]; unfold encL; rw [bs_length]; rw [if_pos (by omega)])
    generalize hL : encL (bs s) sz = L at HE0
    have HL := Lib.hid hL
    clear hL
    go_loopw [0] (fun j wr => ∃ (C : ByteArray) (l : List UInt8) (f : Nat), j = .string C ∧ C.size < f ∧ C.size ≤ s.size ∧ l.length + 13 * C.size ≤ 13 * s.size ∧ Hid (L = l ++ encGo f s.size (bs C)) ∧ BldAt wr w.heap.size w.heap.size l ∧ Below w.heap.size w wr ∧ w.heap.size + 1 ≤ wr.heap.size) (fun j _ => match j with | .string c => c.size | _ => 0)
    case atStart => exact ⟨s, [], s.size + 1, rfl, by omega, by omega, by show 0 + _ ≤ _; omega, HE0, BldAt.fresh w, (Below.refl _ _).alloc (Nat.le_refl _) _, by simp⟩
    case round =>
      obtain ⟨C, l, f, rfl, hf, hC, hO, HE, BB, hbr, hz⟩ := hrel
      by_cases h0 : C.size = 0
      · obtain ⟨e1, e2⟩ := femp_yes h0
        have hl3 : l.length + 5 ≤ 1000000 := by omega
        have HE2 : Hid ((⟨(l ++ [48, 13, 10, 13, 10]).toArray⟩ : ByteArray) = ⟨L.toArray⟩) := Lib.hid (by
          rw [HE.out, e2, enc_nil])
        clear e2
        go_wp2_with fail
        refine (wrs_any _ _ l ⟨#[48, 13, 10, 13, 10]⟩ _ BB hl3 (by omega)).mono ?_
        rintro e w5 ⟨rfl, BB5, hb5, hz5, _⟩
        have D5 := hbr.trans hb5
        have z5 : w.heap.size ≤ w5.heap.size := by omega
        go_wp2_with fail
        refine (bstr_any _ _ _ w5 BB5 z5).mono ?_
        rintro e w6 ⟨rfl, hb6, _⟩
        have D6 := D5.trans hb6
        go_wp2_with fail
        go_ret
        exact ⟨by rw [← HL.out] at HE2; exact congrArg (fun b => Ending.returned (Value.string b)) HE2.out, D6⟩
      · obtain ⟨e1, e2⟩ := femp_no h0
        obtain ⟨g, hg⟩ : ∃ g, f = g + 1 := ⟨f - 1, by omega⟩
        obtain ⟨m, hm⟩ : ∃ m : Nat, m = min s.size C.size := ⟨_, rfl⟩
        have hmC : m ≤ C.size := by omega
        have hm0 : 0 < m := by omega
        have hmi : min (s.size : Int) (C.size : Int) = (m : Int) := by omega
        obtain ⟨X, hX⟩ : ∃ X : ByteArray, X = ⟨(hexR m).toArray⟩ := ⟨_, rfl⟩
        have zX : X.size ≤ 8 := by rw [hX]; exact hexR_len (by omega)
        have HX : Hid (∀ wx, DeB wx → Calls Tryd.prog 37 #[.int .i64 (m : Int), .int .i64 16] wx fun e w' => e = .returned (.string X) ∧ Below wx.heap.size wx w') := Lib.hid fun wx hd => by rw [hX, hexR_pos hm0]; exact fint_any m wx (by omega) hd
        obtain ⟨P, hP⟩ : ∃ P : ByteArray, P = C.extract 0 m := ⟨_, rfl⟩
        obtain ⟨Q, hQ⟩ : ∃ Q : ByteArray, Q = C.extract m C.size := ⟨_, rfl⟩
        have zP : P.size = m := by rw [hP, ByteArray.size_extract]; omega
        have zQ : Q.size = C.size - m := by rw [hQ, ByteArray.size_extract]; omega
        have p1 : ∀ wx, (Instr.slice 9 (.string C) none (some (.int .i64 (m : Int))) none).run Tryd.prog wx = .ok (.string P) wx := fun wx => by rw [hP]; exact run_to2 C m _ rfl hmC wx
        have p2 : ∀ wx, (Instr.slice 9 (.string C) (some (.int .i64 (m : Int))) none none).run Tryd.prog wx = .ok (.string Q) wx := fun wx => by rw [hQ]; exact run_from2 C m _ rfl hmC wx
        obtain ⟨E1, hE1⟩ : ∃ E : ByteArray, E = X ++ ⟨#[13, 10]⟩ := ⟨_, rfl⟩
        obtain ⟨E2, hE2⟩ : ∃ E : ByteArray, E = E1 ++ P := ⟨_, rfl⟩
        obtain ⟨E3, hE3⟩ : ∃ E : ByteArray, E = E2 ++ ⟨#[13, 10]⟩ := ⟨_, rfl⟩
        have z1 : E1.size = X.size + 2 := by rw [hE1, ByteArray.size_append]; rfl
        have z2 : E2.size = E1.size + P.size := by rw [hE2, ByteArray.size_append]
        have z3 : E3.size = E2.size + 2 := by rw [hE3, ByteArray.size_append]; rfl
        have s1 : ∀ wx, (Op.stringOp .add X ⟨#[13, 10]⟩).run Tryd.prog wx = .ok (.string E1) wx := fun wx => by rw [hE1]; exact run_string_add_sum wx _ _ (by show _ + 2 ≤ _; omega)
        have s2 : ∀ wx, (Op.stringOp .add E1 P).run Tryd.prog wx = .ok (.string E2) wx := fun wx => by rw [hE2]; exact run_string_add_sum wx _ _ (by omega)
        have s3 : ∀ wx, (Op.stringOp .add E2 ⟨#[13, 10]⟩).run Tryd.prog wx = .ok (.string E3) wx := fun wx => by rw [hE3]; exact run_string_add_sum wx _ _ (by show _ + 2 ≤ _; omega)
        have HE2 : Hid (L = (l ++ bs E3) ++ encGo g s.size (bs Q)) := Lib.hid (by
          rw [HE.out, hg, enc_step2 (by omega) hm hm0 hP hQ hX, hE3, hE2, hE1]
          simp only [bs_cat, List.append_assoc])
        have hl3 : l.length + E3.size ≤ 1000000 := by omega
        have hO2 : (l ++ bs E3).length + 13 * Q.size ≤ 13 * s.size := by rw [List.length_append, bs_length]; omega
        have hQs : Q.size < C.size := by omega
        have hQg : Q.size < g := by omega
        have hQ3 : Q.size ≤ s.size := by omega
        have BD : BldAt wr.drew w.heap.size w.heap.size l := BB.below ((Below.refl _ _).drew)
        have DD : Below w.heap.size w wr.drew := hbr.drew
        have zd : w.heap.size + 1 ≤ wr.drew.heap.size := hz
        have HDe := Lib.hid (H64.out.below DD)
        clear hE1 hE2 hE3 z1 z2 z3 hP hQ hX zX zP zQ hm hg e2 BB hbr hz HE0
        go_wp2_with fail
        go_region_held3 (fun _ => True) (trivial) (first | (go_at_call 37; refine (HX.out _ HDe.out).mono ?_; rintro e w4 ⟨rfl, hbx⟩; have BD4 := BD.below hbx; have D4 := step_b DD hbx; have z4 := Nat.le_trans zd hbx.size) | (go_at_call 27; refine (wrs_any _ _ l E3 _ BD4 hl3 (by omega)).mono ?_; rintro e w5 ⟨rfl, BB5, hb5, hz5, _⟩))
        have D5 := D4.trans hb5
        have z5 := Nat.le_trans z4 hz5
        clear BD BD4 D4 hb5 DD zd z4 hz5
        go_wp2_with fail
        go_roundw
        case rel => exact ⟨Q, l ++ bs E3, g, rfl, hQg, hQ3, hO2, HE2, BB5, D5, z5⟩
        case measure => exact hQs
  · obtain ⟨N, hNz⟩ : ∃ N : Nat, sz = N := ⟨sz.toNat, by omega⟩
    subst hNz
    go_enter Tryd.func17, Tryd.ntmps17
    go_wp2_with fail
    have hN : s.size = 0 ∨ 1 ≤ N := by omega
    have HE0 : Hid (encL (bs s) (N : Int) = [] ++ encGo (s.size + 1) N (bs s)) := Lib.hid (by rw [List.nil_append]; unfold encL; rw [bs_length]; rw [if_neg (by omega)]; rfl)
    generalize hL : encL (bs s) (N : Int) = L at HE0
    have HL := Lib.hid hL
    clear hL
    go_loopw [0] (fun j wr => ∃ (C : ByteArray) (l : List UInt8) (f : Nat), j = .string C ∧ C.size < f ∧ C.size ≤ s.size ∧ l.length + 13 * C.size ≤ 13 * s.size ∧ Hid (L = l ++ encGo f N (bs C)) ∧ BldAt wr w.heap.size w.heap.size l ∧ Below w.heap.size w wr ∧ w.heap.size + 1 ≤ wr.heap.size) (fun j _ => match j with | .string c => c.size | _ => 0)
    case atStart => exact ⟨s, [], s.size + 1, rfl, by omega, by omega, by show 0 + _ ≤ _; omega, HE0, BldAt.fresh w, (Below.refl _ _).alloc (Nat.le_refl _) _, by simp⟩
    case round =>
      obtain ⟨C, l, f, rfl, hf, hC, hO, HE, BB, hbr, hz⟩ := hrel
      by_cases h0 : C.size = 0
      · obtain ⟨e1, e2⟩ := femp_yes h0
        have hl3 : l.length + 5 ≤ 1000000 := by omega
        have HE2 : Hid ((⟨(l ++ [48, 13, 10, 13, 10]).toArray⟩ : ByteArray) = ⟨L.toArray⟩) := Lib.hid (by
          rw [HE.out, e2, enc_nil])
        clear e2
        go_wp2_with fail
        refine (wrs_any _ _ l ⟨#[48, 13, 10, 13, 10]⟩ _ BB hl3 (by omega)).mono ?_
        rintro e w5 ⟨rfl, BB5, hb5, hz5, _⟩
        have D5 := hbr.trans hb5
        have z5 : w.heap.size ≤ w5.heap.size := by omega
        go_wp2_with fail
        refine (bstr_any _ _ _ w5 BB5 z5).mono ?_
        rintro e w6 ⟨rfl, hb6, _⟩
        have D6 := D5.trans hb6
        go_wp2_with fail
        go_ret
        exact ⟨by rw [← HL.out] at HE2; exact congrArg (fun b => Ending.returned (Value.string b)) HE2.out, D6⟩
      · obtain ⟨e1, e2⟩ := femp_no h0
        obtain ⟨g, hg⟩ : ∃ g, f = g + 1 := ⟨f - 1, by omega⟩
        obtain ⟨m, hm⟩ : ∃ m : Nat, m = min N C.size := ⟨_, rfl⟩
        have hmC : m ≤ C.size := by omega
        have hm0 : 0 < m := by omega
        have hmi : min (N : Int) (C.size : Int) = (m : Int) := by omega
        obtain ⟨X, hX⟩ : ∃ X : ByteArray, X = ⟨(hexR m).toArray⟩ := ⟨_, rfl⟩
        have zX : X.size ≤ 8 := by rw [hX]; exact hexR_len (by omega)
        have HX : Hid (∀ wx, DeB wx → Calls Tryd.prog 37 #[.int .i64 (m : Int), .int .i64 16] wx fun e w' => e = .returned (.string X) ∧ Below wx.heap.size wx w') := Lib.hid fun wx hd => by rw [hX, hexR_pos hm0]; exact fint_any m wx (by omega) hd
        obtain ⟨P, hP⟩ : ∃ P : ByteArray, P = C.extract 0 m := ⟨_, rfl⟩
        obtain ⟨Q, hQ⟩ : ∃ Q : ByteArray, Q = C.extract m C.size := ⟨_, rfl⟩
        have zP : P.size = m := by rw [hP, ByteArray.size_extract]; omega
        have zQ : Q.size = C.size - m := by rw [hQ, ByteArray.size_extract]; omega
        have p1 : ∀ wx, (Instr.slice 9 (.string C) none (some (.int .i64 (m : Int))) none).run Tryd.prog wx = .ok (.string P) wx := fun wx => by rw [hP]; exact run_to2 C m _ rfl hmC wx
        have p2 : ∀ wx, (Instr.slice 9 (.string C) (some (.int .i64 (m : Int))) none none).run Tryd.prog wx = .ok (.string Q) wx := fun wx => by rw [hQ]; exact run_from2 C m _ rfl hmC wx
        obtain ⟨E1, hE1⟩ : ∃ E : ByteArray, E = X ++ ⟨#[13, 10]⟩ := ⟨_, rfl⟩
        obtain ⟨E2, hE2⟩ : ∃ E : ByteArray, E = E1 ++ P := ⟨_, rfl⟩
        obtain ⟨E3, hE3⟩ : ∃ E : ByteArray, E = E2 ++ ⟨#[13, 10]⟩ := ⟨_, rfl⟩
        have z1 : E1.size = X.size + 2 := by rw [hE1, ByteArray.size_append]; rfl
        have z2 : E2.size = E1.size + P.size := by rw [hE2, ByteArray.size_append]
        have z3 : E3.size = E2.size + 2 := by rw [hE3, ByteArray.size_append]; rfl
        have s1 : ∀ wx, (Op.stringOp .add X ⟨#[13, 10]⟩).run Tryd.prog wx = .ok (.string E1) wx := fun wx => by rw [hE1]; exact run_string_add_sum wx _ _ (by show _ + 2 ≤ _; omega)
        have s2 : ∀ wx, (Op.stringOp .add E1 P).run Tryd.prog wx = .ok (.string E2) wx := fun wx => by rw [hE2]; exact run_string_add_sum wx _ _ (by omega)
        have s3 : ∀ wx, (Op.stringOp .add E2 ⟨#[13, 10]⟩).run Tryd.prog wx = .ok (.string E3) wx := fun wx => by rw [hE3]; exact run_string_add_sum wx _ _ (by show _ + 2 ≤ _; omega)
        have HE2 : Hid (L = (l ++ bs E3) ++ encGo g N (bs Q)) := Lib.hid (by
          rw [HE.out, hg, enc_step2 (by omega) hm hm0 hP hQ hX, hE3, hE2, hE1]
          simp only [bs_cat, List.append_assoc])
        have hl3 : l.length + E3.size ≤ 1000000 := by omega
        have hO2 : (l ++ bs E3).length + 13 * Q.size ≤ 13 * s.size := by rw [List.length_append, bs_length]; omega
        have hQs : Q.size < C.size := by omega
        have hQg : Q.size < g := by omega
        have hQ3 : Q.size ≤ s.size := by omega
        have BD : BldAt wr.drew w.heap.size w.heap.size l := BB.below ((Below.refl _ _).drew)
        have DD : Below w.heap.size w wr.drew := hbr.drew
        have zd : w.heap.size + 1 ≤ wr.drew.heap.size := hz
        have HDe := Lib.hid (H64.out.below DD)
        clear hE1 hE2 hE3 z1 z2 z3 hP hQ hX zX zP zQ hm hg e2 BB hbr hz HE0
        go_wp2_with fail
        go_region_held3 (fun _ => True) (trivial) (first | (go_at_call 37; refine (HX.out _ HDe.out).mono ?_; rintro e w4 ⟨rfl, hbx⟩; have BD4 := BD.below hbx; have D4 := step_b DD hbx; have z4 := Nat.le_trans zd hbx.size) | (go_at_call 27; refine (wrs_any _ _ l E3 _ BD4 hl3 (by omega)).mono ?_; rintro e w5 ⟨rfl, BB5, hb5, hz5, _⟩))
        have D5 := D4.trans hb5
        have z5 := Nat.le_trans z4 hz5
        clear BD BD4 D4 hb5 DD zd z4 hz5
        go_wp2_with fail
        go_roundw
        case rel => exact ⟨Q, l ++ bs E3, g, rfl, hQg, hQ3, hO2, HE2, BB5, D5, z5⟩
        case measure => exact hQs
end Go.Proofs.YtfnmohaddkoalaaDoor
