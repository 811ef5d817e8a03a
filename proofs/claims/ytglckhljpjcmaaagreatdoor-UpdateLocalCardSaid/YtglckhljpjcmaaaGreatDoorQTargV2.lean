/- The walk of Normalize (4.2) in the reference. -/
import Derived.Test.YtglckhljpjcmaaaGreatDoorQTargV1
import Derived.Test.YtglckhljpjcmaaaGreatDoorQTargW2
import Derived.Deep.QuietTactic
import Derived.BigQuiet
namespace Go.Proofs.YtglckhljpjcmaaaGreatDoor
open Go.RowKit

theorem rhex_nat (c : UInt8) (n : Nat) (h : Hid (hexV c = n)) (w : World) :
    Calls Tryz.prog 45 #[.int .u8 c.toNat] w fun e w' => e = .returned (.int .i64 (n : Int)) ∧ w' = w :=
  (rhex_any c w).mono fun e w' ⟨h1, h2⟩ => ⟨by rw [h1, h.out], h2.symm⟩
theorem run_trip2 (i j : Nat) (hi : i < 16) (hj : j < 16) (w : World) : (convert 3 5 (.int .i64 ((i : Int) * 16 + (j : Int)))).run Tryz.prog w = .ok (.int .u8 ((tripC i j).toNat : Int)) w := by
  rw [show (i : Int) * 16 + (j : Int) = 16 * (i : Int) + (j : Int) from by omega]
  exact run_trip i j hi hj w
theorem run_hexU8 (n : Nat) (h : n < 16) (w : World) : (Instr.index 9 (.string ⟨#[48, 49, 50, 51, 52, 53, 54, 55, 56, 57, 65, 66, 67, 68, 69, 70]⟩) (.int .u8 (n : Int))).run Tryz.prog w = .ok (.int .u8 ((hexD n).toNat : Int)) w := by
  rcases (show n = 0 ∨ n = 1 ∨ n = 2 ∨ n = 3 ∨ n = 4 ∨ n = 5 ∨ n = 6 ∨ n = 7 ∨ n = 8 ∨ n = 9 ∨ n = 10 ∨ n = 11 ∨ n = 12 ∨ n = 13 ∨ n = 14 ∨ n = 15 from by omega) with rfl | rfl | rfl | rfl | rfl | rfl | rfl | rfl | rfl | rfl | rfl | rfl | rfl | rfl | rfl | rfl <;> kernel_rfl
theorem and15 (n : Nat) (h : n < 256) : bits .and .u8 (n : Int) 15 = ((n % 16 : Nat) : Int) := by
  have : ∀ n : Fin 256, bits .and .u8 (n.val : Int) 15 = ((n.val % 16 : Nat) : Int) := by decide +kernel
  exact this ⟨n, h⟩
theorem plain_ways {x : UInt8} (h : alnC x = false) :
    (plainC x = true ∧ ((x.toNat : Int) == 45) = true) ∨ (plainC x = true ∧ ((x.toNat : Int) == 45) = false ∧ ((x.toNat : Int) == 46) = true) ∨
    (plainC x = true ∧ ((x.toNat : Int) == 45) = false ∧ ((x.toNat : Int) == 46) = false ∧ ((x.toNat : Int) == 95) = true) ∨
    (plainC x = true ∧ ((x.toNat : Int) == 45) = false ∧ ((x.toNat : Int) == 46) = false ∧ ((x.toNat : Int) == 95) = false ∧ ((x.toNat : Int) == 126) = true) ∨
    (plainC x = false ∧ ((x.toNat : Int) == 45) = false ∧ ((x.toNat : Int) == 46) = false ∧ ((x.toNat : Int) == 95) = false ∧ ((x.toNat : Int) == 126) = false) := by
  unfold plainC
  rw [h]
  by_cases h1 : x = 45
  · left; exact ⟨by rw [h1]; rfl, u8_eq (n := 45) (by decide) h1⟩
  right
  have e1 := u8_ne (n := 45) (by decide) h1
  by_cases h2 : x = 46
  · left; exact ⟨by rw [h2]; rfl, e1, u8_eq (n := 46) (by decide) h2⟩
  right
  have e2 := u8_ne (n := 46) (by decide) h2
  by_cases h3 : x = 95
  · left; exact ⟨by rw [h3]; rfl, e1, e2, u8_eq (n := 95) (by decide) h3⟩
  right
  have e3 := u8_ne (n := 95) (by decide) h3
  by_cases h4 : x = 126
  · left; exact ⟨by rw [h4]; rfl, e1, e2, e3, u8_eq (n := 126) (by decide) h4⟩
  right
  exact ⟨by simp [h1, h2, h3, h4], e1, e2, e3, u8_ne (n := 126) (by decide) h4⟩
set_option maxHeartbeats 6400000 in
set_option maxRecDepth 100000 in
theorem rnormalize_any (s : ByteArray) (w : World) (hs : s.size ≤ 100000) :
    Calls Tryz.prog 27 #[.string s] w fun e w' => e = .returned (normV (normL (bs s))) ∧ Below w.heap.size w w' := by
  go_enter Tryz.func27, Tryz.ntmps27
  go_wp2_with fail
  go_loopw [4, 5] (fun v j wr => ∃ (k : Nat) (out : List UInt8), k ≤ s.size ∧ j = .int .i64 k ∧ Hid (NormAt s k out) ∧ out.length ≤ k ∧ Buf wr w.heap.size 5 v out ∧ Below w.heap.size w wr ∧ w.heap.size ≤ wr.heap.size) (fun _ j _ => s.size - (intOf j).toNat)
  case atStart => exact ⟨0, [], by omega, rfl, Lib.hid (NormAt.start s), by simp, Buf.none_ _ _ _, Below.refl _ _, Nat.le_refl _⟩
  case round =>
    obtain ⟨k, out, hk, rfl, H, hol, hB, hb, hz⟩ := hrel
    have hlen : out.length + 3 ≤ 1000000 := by omega
    by_cases hlt : k < s.size
    · cases hbad : badC s[k] with
      | true =>
        have HF := Lib.hid (H.out.bad hlt hbad)
        have hw := badC_iff.1 hbad
        have hw' : (s[k].toNat : Int) < 33 ∨ (¬ (s[k].toNat : Int) < 33 ∧ 126 < (s[k].toNat : Int)) ∨ (¬ (s[k].toNat : Int) < 33 ∧ ¬ 126 < (s[k].toNat : Int) ∧ (s[k].toNat : Int) = 35) := by omega
        clear hbad hw
        rcases hw' with q | ⟨q1, q2⟩ | ⟨q1, q2, q3⟩
        all_goals
          go_wp2_with fail
          go_ret2
          exact ⟨by rw [HF.out]; rfl, hb⟩
      | false =>
        have hw := badC_false.1 hbad
        have q1 : ¬ (s[k].toNat : Int) < 33 := by omega
        have q2 : ¬ 126 < (s[k].toNat : Int) := by omega
        have q3 : ¬ (s[k].toNat : Int) = 35 := by omega
        by_cases hc : s[k] = 37
        · have q4 : ((s[k].toNat : Int) != 37) = false := u8_bf (n := 37) (by decide) hc
          by_cases h2 : k + 2 < s.size
          · have h1 : k + 1 < s.size := by omega
            have HX := Lib.hid (fun hx => H.out.hex hlt h1 h2 hc hx)
            have HT := Lib.hid (fun (i j : Nat) hi hj => H.out.trip hlt h1 h2 hc (i := i) (j := j) hi hj)
            have hx1 := hexV_bd s[k + 1]
            have hx2 := hexV_bd s[k + 2]
            obtain ⟨c1, hc1⟩ : ∃ c, c = s[k + 1] := ⟨_, rfl⟩
            obtain ⟨c2, hc2⟩ : ∃ c, c = s[k + 2] := ⟨_, rfl⟩
            have g0 : ¬ (s.size : Int) ≤ (k : Int) + 2 := by omega
            have p1 : ∀ wx, (Instr.index 9 (.string s) (.int .i64 ((k : Int) + 1))).run Tryz.prog wx = .ok (.int .u8 (c1.toNat : Int)) wx := fun wx => by
              rw [hc1]; exact run_at s (k + 1) _ h1 (by omega) wx
            have p2 : ∀ wx, (Instr.index 9 (.string s) (.int .i64 ((k : Int) + 2))).run Tryz.prog wx = .ok (.int .u8 (c2.toNat : Int)) wx := fun wx => by
              rw [hc2]; exact run_at s (k + 2) _ h2 (by omega) wx
            have v1 : IntKind.i64.wrap ((k : Int) + 1) = (k : Int) + 1 := IntWalk.i64_in _ (by omega)
            have v2 : IntKind.i64.wrap ((k : Int) + 2) = (k : Int) + 2 := IntWalk.i64_in _ (by omega)
            rw [← hc1, ← hc2] at HX HT
            rw [← hc1] at hx1
            rw [← hc2] at hx2
            clear hc1 hc2 hbad hw hc
            rcases hx1 with m1 | ⟨m1, m1'⟩
            · have HF := Lib.hid (HX.out (.inl (by omega)))
              have HV := Lib.hid m1
              clear m1 HX HT hx2
              go_wp2_with fail
              refine (rhex_any c1 _).mono ?_
              rintro e w2 ⟨rfl, rfl⟩
              rw [HV.out]
              go_wp2_with fail
              go_ret2
              exact ⟨by rw [HF.out]; rfl, hb⟩
            obtain ⟨i, ei⟩ : ∃ i : Nat, hexV c1 = i := ⟨(hexV c1).toNat, by omega⟩
            have ib : i < 16 := by omega
            have HI := Lib.hid ei
            clear m1 m1' ei
            rcases hx2 with m2 | ⟨m2, m2'⟩
            · have HF := Lib.hid (HX.out (.inr (by omega)))
              have HV := Lib.hid m2
              clear m2 HX HT
              go_wp2_with fail
              refine (rhex_any c1 _).mono ?_
              rintro e w2 ⟨rfl, rfl⟩
              rw [HI.out]
              go_wp2_with fail
              refine (rhex_any c2 _).mono ?_
              rintro e w3 ⟨rfl, rfl⟩
              rw [HV.out]
              go_wp2_with fail
              go_ret2
              exact ⟨by rw [HF.out]; rfl, hb⟩
            obtain ⟨j, ej⟩ : ∃ j : Nat, hexV c2 = j := ⟨(hexV c2).toNat, by omega⟩
            have jb : j < 16 := by omega
            have HJ := Lib.hid ej
            have HS := Lib.hid (HT.out i j HI.out HJ.out)
            have htr := run_trip2 i j ib jb
            have xn := trip_nat ib jb
            obtain ⟨x, hx⟩ : ∃ x, x = tripC i j := ⟨_, rfl⟩
            have Y1 := Lib.hid (fun e => tripL_yes (h := (i : Int)) (l := (j : Int)) e)
            have Y2 := Lib.hid (fun e => tripL_no (h := (i : Int)) (l := (j : Int)) e)
            rw [← hx] at htr Y1 Y2 xn
            have XN := Lib.hid xn
            have v3 : IntKind.i64.wrap ((i : Int) * 16) = (i : Int) * 16 := IntWalk.i64_in _ (by omega)
            have v4 : IntKind.i64.wrap ((i : Int) * 16 + (j : Int)) = (i : Int) * 16 + (j : Int) := IntWalk.i64_in _ (by omega)
            clear m2 m2' ej HX HT hx xn
            go_wp2_with fail
            refine (rhex_any c1 _).mono ?_
            rintro e w2 ⟨rfl, rfl⟩
            rw [HI.out]
            go_wp2_with fail
            refine (rhex_any c2 _).mono ?_
            rintro e w3 ⟨rfl, rfl⟩
            rw [HJ.out]
            go_wp2_with fail
            go_quiet ((go_at_call 45; (first | (with_reducible exact Calls.quiet_of_same (rhex_nat c1 i HI _)) | (with_reducible exact Calls.quiet_of_same (rhex_nat c2 j HJ _)))))
            have b4 := below_drewN hb nq
            have z4 : w.heap.size ≤ (wr.drewN nq).heap.size := hz
            have B4 : Buf (wr.drewN nq) w.heap.size 5 _ out := hB.below (below_draws _ nq) (Nat.le_refl _)
            generalize wr.drewN nq = w4 at b4 z4 B4 ⊢
            clear hB hb hz v3 v4
            cases hal : alnC x with
            | true =>
              have HA := Lib.hid hal
              have HP := Lib.hid (Y1.out (show (alnC x || _) = true by rw [hal]; rfl))
              rw [HP.out] at HS
              clear hal Y1 Y2
              go_wp2_with (first | (go_at_call 46; refine (rletter_any x _).mono ?_; rintro e w5 ⟨rfl, rfl⟩; rw [HA.out]) | (at_builtin; refine wpList_append_byte rfl (.tmp 85) (.tmp 87) 65 rfl w _ w.heap.size 5 Tryz.underlying65 infoU8 _ out rfl (B4.alloc _) (b4.alloc z4 _) (le_alloc z4 _) ⟨w4.heap.size, 0, none⟩ x rfl (cell_new w4 _ _) (len_big hlen) ?_))
              intro v3 w5 hB1 hb1 hz1
              clear B4 b4 z4
              go_wp2_with fail
              go_roundw
              case rel => exact ⟨k + 2 + 1, out ++ [x], by omega, by go_num, HS, by simp; omega, hB1, hb1, hz1⟩
              case measure => simp [intOf]; omega
            | false =>
              have HA := Lib.hid hal
              rcases plain_ways hal with ⟨hp, q5⟩ | ⟨hp, q5, q6⟩ | ⟨hp, q5, q6, q7⟩ | ⟨hp, q5, q6, q7, q8⟩ | ⟨hp, q5, q6, q7, q8⟩
              rotate_right
              · have HP := Lib.hid (Y2.out hp)
                rw [HP.out] at HS
                have u1 := run_hexU8 i ib
                have u2 := run_hexU8 j jb
                have xm : x.toNat = 16 * i + j := by have := XN.out; omega
                have a1 : bits .and .u8 (x.toNat : Int) 15 = (j : Int) := by rw [and15 _ x.toNat_lt]; omega
                have a2 : (x.toNat : Int) / 16 = (i : Int) := by omega
                have a3 : (x.toNat : Int) / 2 ^ 4 = (i : Int) := by rw [show (2 : Int) ^ 4 = 16 from rfl]; exact a2
                have a4 : Op.shift .shr .u8 (x.toNat : Int) .u64 4 = pure (.int .u8 (i : Int)) := by
                  rw [shift_shr_any _ _ _ _ (by omega)]
                  rw [show min (Int.toNat 4) IntKind.u8.bits = 4 from rfl, a3]
                clear xm
                obtain ⟨d1, hd1⟩ : ∃ d, d = hexD i := ⟨_, rfl⟩
                obtain ⟨d2, hd2⟩ : ∃ d, d = hexD j := ⟨_, rfl⟩
                rw [Int.toNat_natCast, Int.toNat_natCast, ← hd1, ← hd2] at HS
                rw [← hd1] at u1
                rw [← hd2] at u2
                clear hal hp Y1 Y2 hd1 hd2
                go_wp2_with (go_at_call 46; refine (rletter_any x _).mono ?_; rintro e w5 ⟨rfl, rfl⟩; rw [HA.out])
                go_region_held3 (fun _ => True) (trivial) (first | (refine step_append_bytes rfl (.tmp 89) (.tmp 96) rfl w _ w.heap.size _ out [37, d1, d2] rfl (B4.alloc _) (b4.alloc z4 _).drew (le_alloc z4 _) ⟨w4.heap.size, 0, none⟩ 3 rfl rfl (cells_three w4 37 d1 d2 _) hlen ?_; intro v3 w5 hB1 hb1 hz1))
                all_goals
                  clear B4 b4 z4
                  go_wp2_with fail
                  go_roundw
                  case rel => exact ⟨k + 2 + 1, out ++ [37, d1, d2], by omega, by go_num, HS, by simp; omega, hB1, hb1, hz1⟩
                  case measure => simp [intOf]; omega
              all_goals
                have HP := Lib.hid (Y1.out hp)
                rw [HP.out] at HS
                clear hal hp Y1 Y2
                go_wp2_with (first | (go_at_call 46; refine (rletter_any x _).mono ?_; rintro e w5 ⟨rfl, rfl⟩; rw [HA.out]) | (at_builtin; refine wpList_append_byte rfl (.tmp 85) (.tmp 87) 65 rfl w _ w.heap.size 5 Tryz.underlying65 infoU8 _ out rfl (B4.alloc _) (b4.alloc z4 _) (le_alloc z4 _) ⟨w4.heap.size, 0, none⟩ x rfl (cell_new w4 _ _) (len_big hlen) ?_))
                intro v3 w5 hB1 hb1 hz1
                clear B4 b4 z4
                go_wp2_with fail
                go_roundw
                case rel => exact ⟨k + 2 + 1, out ++ [x], by omega, by go_num, HS, by simp; omega, hB1, hb1, hz1⟩
                case measure => simp [intOf]; omega
          · have HF := Lib.hid (H.out.short hlt hc (by omega))
            have g0 : (s.size : Int) ≤ (k : Int) + 2 := by omega
            clear hbad hw hc h2
            go_wp2_with fail
            go_ret2
            exact ⟨by rw [HF.out]; rfl, hb⟩
        · have q4 : ((s[k].toNat : Int) != 37) = true := u8_bt (n := 37) (by decide) hc
          have HS := Lib.hid (H.out.step hlt hbad hc)
          clear hbad hw hc
          go_wp2_with (at_builtin; refine wpList_append_byte rfl (.tmp 29) (.tmp 31) 65 rfl w _ w.heap.size 5 Tryz.underlying65 infoU8 _ out rfl (hB.alloc _) (hb.alloc hz _) (le_alloc hz _) ⟨wr.heap.size, 0, none⟩ s[k] rfl (cell_new wr _ _) (len_big hlen) ?_)
          intro v1 w2 hB1 hb1 hz1
          clear hB hb hz
          go_wp2_with fail
          go_roundw
          case rel => exact ⟨k + 1, out ++ [s[k]], by omega, by go_num, HS, by simp; omega, hB1, hb1, hz1⟩
          case measure => simp [intOf]; omega
    · have HF := Lib.hid (H.out.done (by omega))
      have hcv := conv_from_buf (P := Tryz.prog) 65 9 5 w.heap.size _ out wr Tryz.underlying65 Tryz.underlying5 Tryz.underlying9 hB
      clear hB
      go_wp2_with fail
      go_ret2
      exact ⟨by rw [HF.out]; rfl, hb⟩
end Go.Proofs.YtglckhljpjcmaaaGreatDoor
