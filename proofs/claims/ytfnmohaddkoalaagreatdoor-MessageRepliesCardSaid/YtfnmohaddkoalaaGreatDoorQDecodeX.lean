/- The walk of Decode (5.3). Printed by gen_decw.py. -/
import Derived.Test.YtfnmohaddkoalaaGreatDoorQDecodeW
import Derived.Deep.RegionHeld3
namespace Go.Proofs.YtfnmohaddkoalaaGreatDoor
open Go.RowKit Go.Shelf
set_option linter.unusedSimpArgs false

theorem run_mid (s : ByteArray) (i j : Nat) (i' j' : Int) (hi : i' = i) (hj : j' = j) (h : i ≤ j) (h2 : j ≤ s.size) (wx : World) : (Instr.slice 9 (.string s) (some (.int .i64 i')) (some (.int .i64 j')) none).run Tryz.prog wx = .ok (.string (s.extract i j)) wx := by
  subst hi; subst hj
  rw [run_slice_string wx 9 s .i64 .i64 (i : Int) (j : Int) Tryz.underlying9 (by omega) (by omega) (by omega)]; simp
theorem ext_mid (s : ByteArray) (i j : Nat) : bs (s.extract i j) = ((bs s).drop i).take (j - i) := Lib.extract_data s i j
theorem decV_err (e : Int) : decV ([], 0, e) = .tuple #[.string ⟨#[]⟩, .int .i64 0, .int .i64 e] := rfl
/-- What the loop knows. -/
structure DecAt (s : ByteArray) (r : List UInt8 × Nat × Int) (a : Nat) (l : List UInt8) (f : Nat) : Prop where
  fuel : ((bs s).drop a).length < f
  run : r = decGo f ((bs s).drop a) l a
  size : l.length ≤ a
set_option maxHeartbeats 12800000 in
set_option maxRecDepth 100000 in
theorem decode_any (s : ByteArray) (w : World) (hs : s.size ≤ 1000000) (hM : MaxOf w) :
    Calls Tryz.prog 53 #[.string s] w fun e w' => e = .returned (decV (decL (bs s))) ∧ Below w.heap.size w w' := by
  obtain ⟨r, hr⟩ : ∃ r, r = decL (bs s) := ⟨_, rfl⟩
  have HR := Lib.hid hr
  have hrun : r = decGo (((bs s).drop 0).length + 1) ((bs s).drop 0) [] 0 := hr
  have HD0 : Hid (DecAt s r 0 [] (((bs s).drop 0).length + 1)) := Lib.hid ⟨Nat.lt_succ_self _, hrun, Nat.le_refl _⟩
  rw [← hr]
  have HM := Lib.hid hM
  have R1 := RowAt.new w [.string s] 9
  have B2 := BldAt.fresh (w.alloc (.cells #[.string s] 9))
  have s1 : (w.alloc (.cells #[.string s] 9)).heap.size = w.heap.size + 1 := Array.size_push _
  have s2 : ((w.alloc (.cells #[.string s] 9)).alloc (.cells #[.pointer none, .slice none 0 0] 87)).heap.size = w.heap.size + 1 + 1 := (Array.size_push _).trans (by rw [s1])
  have R3 := RowAt.new ((w.alloc (.cells #[.string s] 9)).alloc (.cells #[.pointer none, .slice none 0 0] 87)) [.int .i64 0] 3
  rw [s1] at B2
  rw [s2] at R3
  have a1 := alloc_b w (.cells #[.string s] 9)
  have a2 := alloc_b (w.alloc (.cells #[.string s] 9)) (.cells #[.pointer none, .slice none 0 0] 87)
  have a3 := alloc_b ((w.alloc (.cells #[.string s] 9)).alloc (.cells #[.pointer none, .slice none 0 0] 87)) (.cells #[.int .i64 0] 3)
  have b3 := step_b (step_b a1 a2) a3
  have RS := (R1.below a2).below a3
  have BB := B2.below a3
  have s3 : (((w.alloc (.cells #[.string s] 9)).alloc (.cells #[.pointer none, .slice none 0 0] 87)).alloc (.cells #[.int .i64 0] 3)).heap.size = w.heap.size + 1 + 1 + 1 := (Array.size_push _).trans (by rw [s2])
  have z3 : w.heap.size + 3 ≤ (((w.alloc (.cells #[.string s] 9)).alloc (.cells #[.pointer none, .slice none 0 0] 87)).alloc (.cells #[.int .i64 0] 3)).heap.size := by omega
  have HMM : Hid (∀ w', Below w.heap.size w w' → MaxOf w' ∧ 2 ≠ w.heap.size + 1 + 1) := Lib.hid fun w' hb => ⟨hM.below hb, by have := hM.lt; omega⟩
  clear hr hrun hM R1 B2 s1 s2 s3 a1 a2 a3
  go_enter Tryz.func53, Tryz.ntmps53
  go_wp2_with fail
  generalize (((w.alloc (.cells #[.string s] 9)).alloc (.cells #[.pointer none, .slice none 0 0] 87)).alloc (.cells #[.int .i64 0] 3)) = W3 at *
  go_loopw [8] (fun u wr => ∃ (a f : Nat) (l : List UInt8), a ≤ s.size ∧ l.length ≤ 100000 ∧ Hid (DecAt s r a l f) ∧ RowAt wr w.heap.size 9 [.string s] ∧ RowAt wr (w.heap.size + 1 + 1) 3 [.int .i64 a] ∧ BldAt wr (w.heap.size + 1) (w.heap.size + 1) l ∧ Below w.heap.size w wr ∧ w.heap.size + 3 ≤ wr.heap.size) (fun _ wr => s.size - (intOf ((wr.cell? ⟨w.heap.size + 1 + 1, 0, none⟩).getD undef)).toNat)
  case atStart => exact ⟨0, _, [], by omega, by simp, HD0, RS, R3, BB, b3, z3⟩
  case round =>
    clear RS R3 BB b3 z3 HD0
    obtain ⟨a, f, l, ha, hl, HD, RS, RA, BB, hb, hz⟩ := hrel
    obtain ⟨f', hf⟩ : ∃ f', f = f' + 1 := ⟨f - 1, by have := HD.out.fuel; omega⟩
    subst hf
    have ca := RA.cell 0 rfl
    have CA := Lib.hid ca
    have hne : w.heap.size ≠ w.heap.size + 1 + 1 := by omega
    have HC := Lib.hid (cut1_any s a w.heap.size (w.heap.size + 1 + 1) wr ha hs hne RS RA)
    have hu := next_used ((bs s).drop a)
    rw [List.length_drop, bs_length] at hu
    have hl2 := next_len ((bs s).drop a)
    obtain ⟨x, u, er, hn⟩ : ∃ x u er, nextL ((bs s).drop a) = (x, u, er) := ⟨_, _, _, rfl⟩
    have HNX := Lib.hid hn
    rw [hn] at HC hu hl2
    obtain ⟨X, hX⟩ : ∃ X : ByteArray, X = ⟨x.toArray⟩ := ⟨_, rfl⟩
    have hXb : bs X = x := by rw [hX]
    have hXz : X.size ≤ 2000 := by rw [← bs_length, hXb]; exact hl2
    have HXX : Hid ((⟨x.toArray⟩ : ByteArray) = X) := Lib.hid hX.symm
    have HXB := Lib.hid hXb
    have eg := eg_cut
    have hua : a + u ≤ s.size := by have h : u ≤ s.size - a := hu; omega
    clear hn hX hXb hl2 hu ca
    go_wp2_with fail
    refine HC.out.mono ?_
    rintro e w1 ⟨rfl, RA1, T1⟩
    rw [HXX.out]
    have RS1 := RS.turn T1 hne
    have BB1 := BB.turn T1 RA (by decide)
    have D1 := hb.trans (T1.2.2.mono (by omega))
    have z1 := Nat.le_trans hz T1.2.1
    clear HC RS RA BB hb hz T1 eg
    by_cases her : er = 0
    · subst her
      have HSZ := Lib.hid (size_any X w1 (by omega) (HMM.out w1 D1).1)
      rw [HXB.out] at HSZ
      cases hsz : sizeL x with
      | none =>
        rw [hsz] at HSZ
        have HF : Hid (r = ([], 0, 1)) := Lib.hid (by rw [HD.out.run]; exact decGo_size HNX.out hsz)
        clear hsz RS1 RA1 BB1
        go_wp2_with fail
        refine HSZ.out.mono ?_
        rintro e w2 ⟨rfl, hb2⟩
        have DD := step_b D1 hb2
        clear D1 hb2 HSZ
        unfold chSizeV
        go_wp2_with fail
        go_ret3
        exact ⟨by rw [HF.out]; rfl, DD⟩
      | some k =>
        rw [hsz] at HSZ
        have HV : Hid (chSizeV (some k) = .tuple #[.int .i64 k, .bool true]) := Lib.hid rfl
        have hkb := sizeL_bd hsz
        have HS := Lib.hid hsz
        clear hsz
        go_wp2_with fail
        refine HSZ.out.mono ?_
        rintro e w2 ⟨rfl, hb2⟩
        rw [HV.out]
        have RS2 := RS1.below hb2
        have RA2 := RA1.below hb2
        have BB2 := BB1.below hb2
        have D2 := step_b D1 hb2
        have z2 := Nat.le_trans z1 hb2.size
        clear RS1 RA1 BB1 D1 hb2 z1 HSZ HV
        go_wp2_with fail
        refine (blen_any _ _ l w2 BB2).mono ?_
        rintro e w2' ⟨rfl, rfl⟩
        by_cases hbig : 100000 < l.length + k
        · have HF : Hid (r = ([], 0, 5)) := Lib.hid (by rw [HD.out.run]; exact decGo_big HNX.out HS.out hbig)
          have hb' : 100000 < (l.length : Int) + (k : Int) := by omega
          have DD := D2
          clear RS2 RA2 BB2 D2 hbig
          go_wp2_with fail
          go_ret3
          exact ⟨by rw [HF.out]; rfl, DD⟩
        · have hb' : ¬ 100000 < (l.length : Int) + (k : Int) := by omega
          by_cases hk : k = 0
          · subst hk
            have HTR := Lib.hid (trail_any s (a + u) w.heap.size (w.heap.size + 1 + 1) w2 hua hs hne RS2 RA2 (HMM.out w2 D2).1 (HMM.out w2 D2).2)
            obtain ⟨q, hq⟩ : ∃ q, q = trailL ((bs s).drop (a + u)) (a + u) := ⟨_, rfl⟩
            rw [← hq] at HTR
            have HQ := Lib.hid hq
            have hdd : ((bs s).drop a).drop u = (bs s).drop (a + u) := by rw [List.drop_drop]
            have HDD := Lib.hid hdd
            clear hq hdd
            go_wp2_with fail
            refine HTR.out.mono ?_
            rintro e w3 ⟨rfl, ⟨a1, ha1, hq1, RA3⟩, T3⟩
            have HQ1 := Lib.hid hq1
            have BB3 := BB2.turn T3 RA2 (by decide)
            have D3 := D2.trans (T3.2.2.mono (by omega))
            have z3 := Nat.le_trans z2 T3.2.1
            clear RS2 RA2 BB2 D2 T3 z2 HTR hq1
            obtain ⟨e3, he3⟩ : ∃ e3, e3 = q.2 := ⟨_, rfl⟩
            have HE3 := Lib.hid he3
            rw [← he3]
            clear he3
            by_cases h0 : e3 = 0
            · have HF : Hid (r = (l, a1, 0)) := Lib.hid (by
                have h1 := decGo_last (f := f') (a := a) HNX.out HS.out hbig (by rw [HDD.out, ← HQ.out, ← HE3.out]; exact h0)
                rw [HD.out.run, h1, HDD.out, ← HQ.out, ← HQ1.out (by rw [← HE3.out]; exact h0)])
              subst h0
              have c3 := RA3.cell 0 rfl
              have dd : Below w3.heap.size w3 w3.drew := (Below.refl _ _).drew
              have RA4 := RA3.below dd
              have c4 := RA4.cell 0 rfl
              have BB4 := BB3.below dd
              have D4 := step_b D3 dd
              have z4 : w.heap.size + 1 ≤ w3.drew.heap.size := by have := dd.size; omega
              clear BB3 RA3 D3 dd c3
              go_wp2_with fail
              go_region_held3 (fun w' => w'.cell? ⟨w.heap.size + 1 + 1, 0, none⟩ = some (.int .i64 a1) ∧ Below w.heap.size w w') (first | assumption | exact ⟨c4, D4⟩ | exact ⟨(hst (w.heap.size + 1 + 1) _ _ (by omega) (by decide) RA4).cell 0 rfl, D4.trans (hbx.mono (by omega))⟩) ((go_at_call 58; refine (bstr_any (w.heap.size + 1) (w.heap.size + 1) l _ BB4 z4).mono ?_; rintro e w' ⟨rfl, hbx, hst⟩))
              all_goals
                have DD : Below w.heap.size w _ := And.right (by assumption)
                go_wp2_with fail
                go_ret3
                exact ⟨by rw [HF.out]; rfl, DD⟩
            · have HF : Hid (r = ([], 0, e3)) := Lib.hid (by
                have h1 := decGo_trail (f := f') (a := a) HNX.out HS.out hbig (by rw [HDD.out, ← HQ.out, ← HE3.out]; exact h0)
                rw [HD.out.run, h1, HDD.out, ← HQ.out, ← HE3.out])
              have h0' : (e3 != 0) = true := by simp [h0]
              have DD := D3
              clear RA3 BB3 D3
              go_wp2_with fail
              go_ret3
              exact ⟨by rw [HF.out]; rfl, DD⟩
          · have hk' : ((k : Int) == 0) = false := by rw [beq_eq_false_iff_ne]; omega
            have hll : ((bs s).drop a).length = s.size - a := by rw [List.length_drop, bs_length]
            have cS := RS2.cell 0 rfl
            have cA := RA2.cell 0 rfl
            have au : ((a + u : Nat) : Int) = (a : Int) + (u : Int) := by omega
            obtain ⟨p, hp⟩ : ∃ p : Nat, p = a + u := ⟨_, rfl⟩
            rw [← hp] at cA RA2 hua
            have HP := Lib.hid hp
            clear au
            by_cases hsh : ((bs s).drop a).length < u + k
            · have HF : Hid (r = ([], 0, 2)) := Lib.hid (by rw [HD.out.run]; exact decGo_short HNX.out HS.out hbig hk hsh)
              have hsh' : (s.size : Int) - (p : Int) < (k : Int) := by omega
              have DD := D2
              clear RS2 RA2 BB2 D2 hll hsh hp
              go_wp2_with fail
              go_ret3
              exact ⟨by rw [HF.out]; rfl, DD⟩
            · have hsh' : ¬ (s.size : Int) - (p : Int) < (k : Int) := by omega
              have hpk : p + k ≤ s.size := by omega
              obtain ⟨y, hy⟩ : ∃ y : ByteArray, y = s.extract p (p + k) := ⟨_, rfl⟩
              have hyb : bs y = ((bs s).drop p).take k := by rw [hy, ext_mid, show p + k - p = k by omega]
              have hyz : y.size = k := by rw [← bs_length, hyb, List.length_take, List.length_drop, bs_length]; omega
              have p1 : ∀ wx, (Instr.slice 9 (.string s) (some (.int .i64 (p : Int))) (some (.int .i64 ((p : Int) + (k : Int)))) none).run Tryz.prog wx = .ok (.string y) wx := fun wx => by rw [hy]; exact run_mid s p (p + k) _ _ rfl (by omega) (by omega) hpk wx
              have HYB := Lib.hid hyb
              have HYZ := Lib.hid hyz
              have hyz2 : l.length + y.size ≤ 1000000 := by omega
              have HEN : Hid (decGo (f' + 1) ((bs s).drop a) l a = if endE ((bs s).drop (p + k)) = 0 then decGo f' ((bs s).drop (p + k + 2)) (l ++ bs y) (p + k + 2) else ([], 0, endE ((bs s).drop (p + k)))) := Lib.hid (by
                have e1 : ((bs s).drop a).drop (u + k) = (bs s).drop (p + k) := by rw [List.drop_drop, hp]; congr 1; omega
                have e2 : ((bs s).drop a).drop (u + k + 2) = (bs s).drop (p + k + 2) := by rw [List.drop_drop, hp]; congr 1; omega
                have e3 : ((bs s).drop a).drop u = (bs s).drop p := by rw [List.drop_drop, hp]
                by_cases he : endE ((bs s).drop (p + k)) = 0
                · rw [if_pos he, decGo_step HNX.out HS.out hbig hk hsh (by rw [e1]; exact he), e2, e3, hyb, hp]
                · rw [if_neg he, decGo_end HNX.out HS.out hbig hk hsh (by rw [e1]; exact he), e1])
              clear hy hyb hyz hll hsh hp
              go_wp2_with fail
              refine (wrs_any _ _ l y w2 BB2 hyz2 (by omega)).mono ?_
              rintro e w4 ⟨rfl, BB4, hb4, hz4, hst4⟩
              have RS4 := hst4 w.heap.size _ _ (by omega) (by decide) RS2
              have RA4 := hst4 (w.heap.size + 1 + 1) _ _ (by omega) (by decide) RA2
              have D4 := D2.trans (hb4.mono (by omega))
              have z4 := Nat.le_trans z2 hz4
              clear cS cA RS2 RA2 BB2 D2 hb4 hz4 hst4 z2 p1
              have hpk' : ((p + k : Nat) : Int) = (p : Int) + (k : Int) := by omega
              have cA := RA4.cell 0 rfl
              have fA := RA4.free 0
              have RA5 := RA4.set 0 (.int .i64 ((p : Int) + (k : Int)))
              have T5 := Turn.set (w.heap.size + 1 + 1) w4 (.int .i64 ((p : Int) + (k : Int)))
              have RS5 := RS4.turn T5 hne
              have BB5 := BB4.turn T5 RA4 (by decide)
              have D5 := D4.trans (T5.2.2.mono (by omega))
              have z5 := Nat.le_trans z4 T5.2.1
              have cA5 := RA5.cell 0 rfl
              have cS5 := RS5.cell 0 rfl
              obtain ⟨t, ht⟩ : ∃ t : ByteArray, t = s.extract (p + k) s.size := ⟨_, rfl⟩
              have p2 : ∀ wx, (Instr.slice 9 (.string s) (some (.int .i64 ((p : Int) + (k : Int)))) none none).run Tryz.prog wx = .ok (.string t) wx := fun wx => by rw [ht]; exact run_from2 s (p + k) _ (by omega) hpk wx
              have htb : bs t = (bs s).drop (p + k) := by rw [ht]; exact ext_from s (p + k)
              obtain ⟨e5, he5⟩ : ∃ e5, e5 = endE (bs t) := ⟨_, rfl⟩
              have HE5 : Hid (e5 = endE ((bs s).drop (p + k))) := Lib.hid (by rw [he5, htb])
              have HCE := Lib.hid (cend_any t (w4.setCell ⟨w.heap.size + 1 + 1, 0, none⟩ (.int .i64 ((p : Int) + (k : Int)))))
              rw [← he5] at HCE
              clear RS4 RA4 BB4 D4 T5 z4 ht htb he5 hpk'
              go_wp2_with fail
              refine HCE.out.mono ?_
              rintro e w5 ⟨rfl, hw5⟩
              clear HCE
              by_cases h5 : e5 = 0
              · have HRN : Hid (r = decGo f' ((bs s).drop (p + k + 2)) (l ++ bs y) (p + k + 2)) := Lib.hid (by rw [HD.out.run, HEN.out, if_pos (by rw [← HE5.out]; exact h5)])
                have hp2 : p + k + 2 ≤ s.size := by
                  have h6 : endE ((bs s).drop (p + k)) = 0 := by rw [← HE5.out]; exact h5
                  unfold endE at h6
                  split at h6
                  · cases h6
                  · split at h6
                    · rename_i h7
                      have h8 := congrArg List.length h7
                      rw [List.length_take, List.length_drop, bs_length] at h8
                      simp at h8
                      omega
                    · cases h6
                have HDN : Hid (DecAt s r (p + k + 2) (l ++ bs y) f') := Lib.hid ⟨by
                  have h := HD.out.fuel
                  rw [List.length_drop, bs_length] at h ⊢
                  have := HP.out
                  omega, HRN.out, by
                  have := HD.out.size
                  have := HP.out
                  rw [List.length_append, bs_length, HYZ.out]
                  omega⟩
                have hl6 : (l ++ bs y).length ≤ 100000 := by rw [List.length_append, bs_length, HYZ.out]; omega
                have hm6 : a < p + k + 2 := by have := HP.out; omega
                subst h5 hw5
                have fA5 := RA5.free 0
                have RA6 := RA5.set 0 (.int .i64 ((p : Int) + (k : Int) + 2))
                have T6 := Turn.set (w.heap.size + 1 + 1) (w4.setCell ⟨w.heap.size + 1 + 1, 0, none⟩ (.int .i64 ((p : Int) + (k : Int)))) (.int .i64 ((p : Int) + (k : Int) + 2))
                have RS6 := RS5.turn T6 hne
                have BB6 := BB5.turn T6 RA5 (by decide)
                have D6 := D5.trans (T6.2.2.mono (by omega))
                have z6 := Nat.le_trans z5 T6.2.1
                have hpe : (p : Int) + (k : Int) + 2 = ((p + k + 2 : Nat) : Int) := by omega
                have RA7 := RA6
                rw [hpe] at RA7
                have cc7 := RA6.cell 0 rfl
                have CC7 := Lib.hid cc7
                have HPE := Lib.hid hpe
                have HR7 := Lib.hid RA7
                clear RA6 RA7 T6 hpe cc7 RS5 BB5 D5 z5 RA5
                go_wp2_with fail
                go_roundw
                case rel => exact ⟨p + k + 2, f', l ++ bs y, hp2, hl6, HDN, RS6, HR7.out, BB6, D6, z6⟩
                case measure =>
                  rw [CC7.out, CA.out]
                  simp [intOf]
                  omega
              · have HF : Hid (r = ([], 0, e5)) := Lib.hid (by rw [HD.out.run, HEN.out, if_neg (by rw [← HE5.out]; exact h5), ← HE5.out])
                have h5' : (e5 != 0) = true := by simp [h5]
                subst hw5
                have DD := D5
                clear RS5 RA5 BB5 D5
                go_wp2_with fail
                go_ret3
                exact ⟨by rw [HF.out]; rfl, DD⟩
    · have HF : Hid (r = ([], 0, er)) := Lib.hid (by rw [HD.out.run, decGo_err (by rw [HNX.out]; exact her), HNX.out])
      have her' : (er != 0) = true := by simp [her]
      have DD := D1
      clear RS1 RA1 BB1 D1
      go_wp2_with fail
      go_ret3
      exact ⟨by rw [HF.out]; rfl, DD⟩
end Go.Proofs.YtfnmohaddkoalaaGreatDoor
