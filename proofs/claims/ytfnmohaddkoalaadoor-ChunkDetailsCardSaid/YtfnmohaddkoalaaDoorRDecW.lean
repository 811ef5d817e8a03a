/- The walk of the reference's DecodeChunks (5.3). Printed by gen_rdecx.py. -/
import Derived.Test.YtfnmohaddkoalaaDoorRSizeW
import Derived.Test.YtfnmohaddkoalaaDoorRParseW
import Derived.Test.YtfnmohaddkoalaaDoorDecodeX
namespace Go.Proofs.YtfnmohaddkoalaaDoor
open Go.RowKit Go.Shelf
set_option linter.unusedSimpArgs false

def finL (l : List UInt8) (q : Nat × Int) : List UInt8 × Nat × Int := if q.2 = 0 then (l, q.1, 0) else ([], 0, q.2)
theorem finL_ok (l : List UInt8) (n : Nat) : finL l (n, 0) = (l, n, 0) := by unfold finL; rw [if_pos rfl]
theorem finL_err (l : List UInt8) (n : Nat) {e : Int} (h : e ≠ 0) : finL l (n, e) = ([], 0, e) := by unfold finL; rw [if_neg h]
theorem endE_short {l : List UInt8} (h0 : l ≠ []) (h1 : l ≠ [13]) (h : l.length < 2) : endE l = 1 := by
  unfold endE
  rw [if_neg (by simp [h0, h1]), if_neg (fun e => by have := congrArg List.length e; rw [List.length_take] at this; simp at this; omega)]
theorem endE_take {l : List UInt8} (h0 : l ≠ []) (h1 : l ≠ [13]) : endE l = if l.take 2 = [13, 10] then 0 else 1 := by
  unfold endE
  rw [if_neg (by simp [h0, h1])]
theorem rnextV_ok (a u : Nat) (x : List UInt8) : rnextV a (x, u, 0) = .tuple #[.string ⟨x.toArray⟩, .int .i64 ((a + u : Nat) : Int), .int .i64 0] := by unfold rnextV; rw [if_pos rfl]
theorem rnextV_err (a u : Nat) (x : List UInt8) {e : Int} (h : e ≠ 0) : rnextV a (x, u, e) = .tuple #[.string ⟨x.toArray⟩, .int .i64 0, .int .i64 e] := by unfold rnextV; rw [if_neg h]
set_option maxHeartbeats 12800000 in
set_option maxRecDepth 100000 in
theorem rdec_any (s : ByteArray) (w : World) (hs : s.size ≤ 1000000) :
    Calls Tryd.prog 10 #[.string s] w fun e w' => e = .returned (decV (decL (bs s))) ∧ Below w.heap.size w w' := by
  obtain ⟨r, hr⟩ : ∃ r, r = decL (bs s) := ⟨_, rfl⟩
  have hrun : r = decGo (((bs s).drop 0).length + 1) ((bs s).drop 0) (bs ⟨#[]⟩) 0 := hr
  have HD0 : Hid (DecAt s r 0 (bs ⟨#[]⟩) (((bs s).drop 0).length + 1)) := Lib.hid ⟨Nat.lt_succ_self _, hrun, Nat.le_refl _⟩
  rw [← hr]
  clear hr hrun
  go_enter Tryd.func10, Tryd.ntmps10
  go_wp2_with fail
  go_loop [5, 6] (fun b j => ∃ (a f : Nat) (B : ByteArray), a ≤ s.size ∧ b = .string B ∧ j = .int .i64 a ∧ B.size ≤ 100000 ∧ Hid (DecAt s r a (bs B) f)) (fun _ j => s.size - (intOf j).toNat)
  case atStart => exact ⟨0, _, ⟨#[]⟩, by omega, rfl, rfl, by show 0 ≤ _; omega, HD0⟩
  case round =>
    clear HD0
    obtain ⟨a, f, B, ha, rfl, rfl, hl, HD⟩ := hrel
    obtain ⟨f', hf⟩ : ∃ f', f = f' + 1 := ⟨f - 1, by have := HD.out.fuel; omega⟩
    subst hf
    have HC := Lib.hid (rnext_any s a w ha hs)
    have hu := next_used ((bs s).drop a)
    rw [List.length_drop, bs_length] at hu
    have hl2 := next_len ((bs s).drop a)
    obtain ⟨x, u, er, hn⟩ : ∃ x u er, nextL ((bs s).drop a) = (x, u, er) := ⟨_, _, _, rfl⟩
    have HNX := Lib.hid hn
    rw [hn] at HC hu hl2
    obtain ⟨X, hX⟩ : ∃ X : ByteArray, X = ⟨x.toArray⟩ := ⟨_, rfl⟩
    have hXb : bs X = x := by rw [hX]
    have hXz : X.size ≤ 2000 := by rw [← bs_length, hXb]; exact hl2
    have HXB := Lib.hid hXb
    have hua : a + u ≤ s.size := by have h : u ≤ s.size - a := hu; omega
    have HXX := Lib.hid hX
    clear hn hX hXb hl2 hu
    by_cases her : er = 0
    · subst her
      have HV : Hid (rnextV a (x, u, 0) = .tuple #[.string X, .int .i64 ((a + u : Nat) : Int), .int .i64 0]) := Lib.hid (by rw [rnextV_ok, HXX.out])
      have HSZ := Lib.hid (rsize_any X w (by omega))
      rw [HXB.out] at HSZ
      obtain ⟨p, hp⟩ : ∃ p : Nat, p = a + u := ⟨_, rfl⟩
      rw [← hp] at HV hua
      have HP := Lib.hid hp
      cases hsz : sizeL x with
      | none =>
        rw [hsz] at HSZ
        have HF : Hid (r = ([], 0, 1)) := Lib.hid (by rw [HD.out.run]; exact decGo_size HNX.out hsz)
        clear hsz hp
        go_wp2_with fail
        refine HC.out.mono ?_
        rintro e w1 ⟨rfl, hw1⟩
        subst hw1
        rw [HV.out]
        go_wp2_with fail
        refine HSZ.out.mono ?_
        rintro e w2 ⟨rfl, hw2⟩
        subst hw2
        unfold chSizeV
        go_wp2_with fail
        go_ret3
        exact ⟨by rw [HF.out]; rfl, Below.refl _ _⟩
      | some k =>
        rw [hsz] at HSZ
        have HV2 : Hid (chSizeV (some k) = .tuple #[.int .i64 k, .bool true]) := Lib.hid rfl
        have hkb := sizeL_bd hsz
        have HS := Lib.hid hsz
        clear hsz hp
        go_wp2_with fail
        refine HC.out.mono ?_
        rintro e w1 ⟨rfl, hw1⟩
        subst hw1
        rw [HV.out]
        go_wp2_with fail
        refine HSZ.out.mono ?_
        rintro e w2 ⟨rfl, hw2⟩
        subst hw2
        rw [HV2.out]
        have hp := HP.out
        have HBL : Hid ((bs B).length = B.size) := Lib.hid (bs_length B)
        by_cases hbig : 100000 < (bs B).length + k
        · have HF : Hid (r = ([], 0, 5)) := Lib.hid (by rw [HD.out.run]; exact decGo_big HNX.out HS.out hbig)
          have hb' : 100000 - (B.size : Int) < (k : Int) := by rw [HBL.out] at hbig; omega
          clear hbig hp
          go_wp2_with fail
          go_ret3
          exact ⟨by rw [HF.out]; rfl, Below.refl _ _⟩
        · have hb' : ¬ 100000 - (B.size : Int) < (k : Int) := by have h := hbig; rw [HBL.out] at h; omega
          by_cases hk : k = 0
          · subst hk
            have hdd : ((bs s).drop a).drop u = (bs s).drop p := by rw [List.drop_drop, hp]
            have HT : Hid (r = finL (bs B) (trGo (((bs s).drop p).length + 1) 0 ((bs s).drop p) p)) := Lib.hid (by
              rw [HD.out.run]
              by_cases ht : (trailL ((bs s).drop p) p).2 = 0
              · rw [decGo_last HNX.out HS.out hbig (by rw [hdd, ← hp]; exact ht), hdd, ← hp]
                have ht' : (trGo (((bs s).drop p).length + 1) 0 ((bs s).drop p) p).2 = 0 := ht
                unfold finL
                rw [if_pos ht']; rfl
              · rw [decGo_trail HNX.out HS.out hbig (by rw [hdd, ← hp]; exact ht), hdd, ← hp]
                have ht' : ¬ (trGo (((bs s).drop p).length + 1) 0 ((bs s).drop p) p).2 = 0 := ht
                unfold finL
                rw [if_neg ht']; rfl)
            clear hdd hbig hp HC HSZ HV HV2 HNX HS HXX HXB HD
            go_wp2_with fail
            go_loopw [6, 13] (fun j c wr => ∃ (i a' f : Nat), i ≤ 64 ∧ c = .int .i64 i ∧ j = .int .i64 a' ∧ a' ≤ s.size ∧ Hid (((bs s).drop a').length < f) ∧ Hid (r = finL (bs B) (trGo f i ((bs s).drop a') a')) ∧ Below w.heap.size w wr) (fun _ c _ => 65 - (intOf c).toNat)
            case atStart => exact ⟨0, p, _, by omega, rfl, rfl, hua, Lib.hid (Nat.lt_succ_self _), HT, Below.refl _ _⟩
            case round =>
              clear HT hua ha
              obtain ⟨i, a', f, hi, rfl, rfl, ha, HFU, HT, hb⟩ := hrel
              obtain ⟨f', hf⟩ : ∃ f', f = f' + 1 := ⟨f - 1, by have := HFU.out; omega⟩
              subst hf
              have HC := Lib.hid (rnext_any s a' wr ha hs)
              have hu := next_used ((bs s).drop a')
              rw [List.length_drop, bs_length] at hu
              have hl2 := next_len ((bs s).drop a')
              obtain ⟨x, u, er, hn⟩ : ∃ x u er, nextL ((bs s).drop a') = (x, u, er) := ⟨_, _, _, rfl⟩
              have HNX := Lib.hid hn
              rw [hn] at HC hu hl2
              obtain ⟨X, hX⟩ : ∃ X : ByteArray, X = ⟨x.toArray⟩ := ⟨_, rfl⟩
              have hXb : bs X = x := by rw [hX]
              have hXz : X.size ≤ 2000 := by rw [← bs_length, hXb]; exact hl2
              have HXB := Lib.hid hXb
              have HXX := Lib.hid hX
              have hua : a' + u ≤ s.size := by have h : u ≤ s.size - a' := hu; omega
              clear hn hX hXb hl2 hu
              by_cases her : er = 0
              · subst her
                have HV : Hid (rnextV a' (x, u, 0) = .tuple #[.string X, .int .i64 ((a' + u : Nat) : Int), .int .i64 0]) := Lib.hid (by rw [rnextV_ok, HXX.out])
                cases hz : decide (X.size = 0) with
                | true =>
                  obtain ⟨e1, e2⟩ := femp_yes (of_decide_eq_true hz)
                  have HF : Hid (r = (bs B, a' + u, 0)) := Lib.hid (by rw [HT.out, trGo_end (by rw [HNX.out, ← HXB.out, e2]), finL_ok])
                  clear hz e2
                  go_wp2_with fail
                  refine HC.out.mono ?_
                  rintro e w1 ⟨rfl, hw1⟩
                  subst hw1
                  rw [HV.out]
                  go_wp2_with fail
                  go_ret3
                  exact ⟨by rw [HF.out]; rfl, hb⟩
                | false =>
                  obtain ⟨e1, e2⟩ := femp_no (of_decide_eq_false hz)
                  have HXN : Hid (x ≠ []) := Lib.hid (by rw [← HXB.out]; exact e2)
                  by_cases h64 : i = 64
                  · subst h64
                    have HF : Hid (r = ([], 0, 4)) := Lib.hid (by rw [HT.out, trGo_many HNX.out HXN.out, finL_err _ _ (by decide)])
                    clear hz e2
                    go_wp2_with fail
                    refine HC.out.mono ?_
                    rintro e w1 ⟨rfl, hw1⟩
                    subst hw1
                    rw [HV.out]
                    go_wp2_with fail
                    go_ret3
                    exact ⟨by rw [HF.out]; rfl, hb⟩
                  · have h64' : ((i : Int) == 64) = false := by rw [beq_eq_false_iff_ne]; omega
                    obtain ⟨n, v, ef, hfl⟩ : ∃ n v ef, fieldL (bs X) = ((n, v), ef) := ⟨_, _, _, rfl⟩
                    have HFX : Hid (fieldL x = ((n, v), ef)) := Lib.hid (by rw [← HXB.out]; exact hfl)
                    have HPF := Lib.hid (rfparse_any X wr (by omega))
                    rw [hfl] at HPF
                    obtain ⟨Nm, hNm⟩ : ∃ Nm : ByteArray, Nm = ⟨n.toArray⟩ := ⟨_, rfl⟩
                    obtain ⟨Vl, hVl⟩ : ∃ Vl : ByteArray, Vl = ⟨v.toArray⟩ := ⟨_, rfl⟩
                    have HFV : Hid (fieldV ((n, v), ef) = .tuple #[.agg #[.string Nm, .string Vl], .int .i64 ef]) := Lib.hid (by rw [hNm, hVl]; rfl)
                    clear hz e2 hfl hNm hVl
                    go_wp2_with fail
                    refine HC.out.mono ?_
                    rintro e w1 ⟨rfl, hw1⟩
                    subst hw1
                    rw [HV.out]
                    go_wp2_with fail
                    refine HPF.out.mono ?_
                    rintro e w3 ⟨rfl, hb3⟩
                    rw [HFV.out]
                    have b4 := step_b hb (step_b hb3 (alloc_b w3 (.cells #[.string Nm, .string Vl] 29)))
                    clear HC HPF hb3 hb
                    by_cases hef : ef = 0
                    · subst hef
                      have HF : Hid (r = finL (bs B) (trGo f' (i + 1) ((bs s).drop (a' + u)) (a' + u))) := Lib.hid (by
                        rw [HT.out, trGo_step HNX.out HXN.out h64 (by rw [HFX.out]), List.drop_drop])
                      have HFU2 : Hid (((bs s).drop (a' + u)).length < f') := Lib.hid (by
                        have h := HFU.out
                        have h2 := (nextL_inv HNX.out).1
                        rw [List.length_drop, bs_length] at h ⊢
                        omega)
                      have hi2 : i + 1 ≤ 64 := by omega
                      go_wp2_with fail
                      go_roundw
                      case rel => exact ⟨i + 1, a' + u, f', hi2, by go_num, rfl, hua, HFU2, HF, b4⟩
                      case measure => simp [intOf]; omega
                    · have HF : Hid (r = ([], 0, ef)) := Lib.hid (by rw [HT.out, trGo_bad HNX.out HXN.out h64 (by rw [HFX.out]; exact hef), HFX.out, finL_err _ _ hef])
                      have hef' : (ef != 0) = true := by simp [hef]
                      go_wp2_with fail
                      go_ret3
                      exact ⟨by rw [HF.out]; rfl, b4⟩
              · have HV := Lib.hid (rnextV_err a' u x her)
                have HF : Hid (r = ([], 0, er)) := Lib.hid (by rw [HT.out, trGo_err (by rw [HNX.out]; exact her), HNX.out, finL_err _ _ her])
                have her' : (er != 0) = true := by simp [her]
                go_wp2_with fail
                refine HC.out.mono ?_
                rintro e w1 ⟨rfl, hw1⟩
                subst hw1
                rw [HV.out]
                go_wp2_with fail
                go_ret3
                exact ⟨by rw [HF.out]; rfl, hb⟩
          · have hk' : ((k : Int) == 0) = false := by rw [beq_eq_false_iff_ne]; omega
            have hll : ((bs s).drop a).length = s.size - a := by rw [List.length_drop, bs_length]
            by_cases hsh : ((bs s).drop a).length < u + k
            · have HF : Hid (r = ([], 0, 2)) := Lib.hid (by rw [HD.out.run]; exact decGo_short HNX.out HS.out hbig hk hsh)
              have hsh' : (s.size : Int) - (p : Int) < (k : Int) := by omega
              clear hll hsh hp hbig
              go_wp2_with fail
              go_ret3
              exact ⟨by rw [HF.out]; rfl, Below.refl _ _⟩
            · have hsh' : ¬ (s.size : Int) - (p : Int) < (k : Int) := by omega
              have hpk : p + k ≤ s.size := by omega
              obtain ⟨y, hy⟩ : ∃ y : ByteArray, y = s.extract p (p + k) := ⟨_, rfl⟩
              have hyb : bs y = ((bs s).drop p).take k := by rw [hy, ext_mid, show p + k - p = k by omega]
              have hyz : y.size = k := by rw [← bs_length, hyb, List.length_take, List.length_drop, bs_length]; omega
              have p1 : ∀ wx, (Instr.slice 9 (.string s) (some (.int .i64 (p : Int))) (some (.int .i64 ((p : Int) + (k : Int)))) none).run Tryd.prog wx = .ok (.string y) wx := fun wx => by rw [hy]; exact run_mid s p (p + k) _ _ rfl (by omega) (by omega) hpk wx
              obtain ⟨B2, hB2⟩ : ∃ B2 : ByteArray, B2 = B ++ y := ⟨_, rfl⟩
              have s1 : ∀ wx, (Op.stringOp .add B y).run Tryd.prog wx = .ok (.string B2) wx := fun wx => by
                rw [hB2]; exact run_string_add_sum wx _ _ (by omega)
              have hB2b : bs B2 = bs B ++ bs y := by rw [hB2]; unfold bs; rw [ByteArray.data_append, Array.toList_append]
              have hB2z : B2.size ≤ 100000 := by rw [hB2, ByteArray.size_append]; rw [HBL.out] at hbig; omega
              have HYZ := Lib.hid hyz
              obtain ⟨t, ht⟩ : ∃ t : ByteArray, t = s.extract (p + k) s.size := ⟨_, rfl⟩
              have p2 : ∀ wx, (Instr.slice 9 (.string s) (some (.int .i64 ((p : Int) + (k : Int)))) none none).run Tryd.prog wx = .ok (.string t) wx := fun wx => by rw [ht]; exact run_from2 s (p + k) _ (by omega) hpk wx
              have htb : bs t = (bs s).drop (p + k) := by rw [ht]; exact ext_from s (p + k)
              have HEN : Hid (r = if endE (bs t) = 0 then decGo f' ((bs s).drop (p + k + 2)) (bs B2) (p + k + 2) else ([], 0, endE (bs t))) := Lib.hid (by
                have e1 : ((bs s).drop a).drop (u + k) = (bs s).drop (p + k) := by rw [List.drop_drop, hp]; congr 1; omega
                have e2 : ((bs s).drop a).drop (u + k + 2) = (bs s).drop (p + k + 2) := by rw [List.drop_drop, hp]; congr 1; omega
                have e3 : ((bs s).drop a).drop u = (bs s).drop p := by rw [List.drop_drop, hp]
                rw [HD.out.run, htb]
                by_cases he : endE ((bs s).drop (p + k)) = 0
                · rw [if_pos he, decGo_step HNX.out HS.out hbig hk hsh (by rw [e1]; exact he), e2, e3, hB2b, hyb, hp]
                · rw [if_neg he, decGo_end HNX.out HS.out hbig hk hsh (by rw [e1]; exact he), e1])
              have htz : t.size = s.size - (p + k) := by rw [← bs_length, htb, List.length_drop, bs_length]
              have HTZ := Lib.hid htz
              have HB2B := Lib.hid hB2b
              have HBG := Lib.hid hbig
              clear hy hyb hyz hll hsh hp hB2 hB2b ht htb htz hbig
              by_cases hz : t.size = 0
              · obtain ⟨e1, e2⟩ := femp_yes hz
                have HF : Hid (r = ([], 0, 2)) := Lib.hid (by rw [HEN.out, endE_2a e2, if_neg (by decide)])
                clear hz e2
                go_wp2_with fail
                go_ret3
                exact ⟨by rw [HF.out]; rfl, Below.refl _ _⟩
              · obtain ⟨e1, e2⟩ := femp_no hz
                cases h13 : (t.toList == [13]) with
                | true =>
                  have HF : Hid (r = ([], 0, 2)) := Lib.hid (by
                    rw [HEN.out, endE_2b (by rw [Lib.toList_data, beq_iff_eq] at h13; exact h13), if_neg (by decide)])
                  clear hz e2
                  go_wp2_with fail
                  go_ret3
                  exact ⟨by rw [HF.out]; rfl, Below.refl _ _⟩
                | false =>
                  have hn13 : bs t ≠ [13] := by rw [Lib.toList_data, beq_eq_false_iff_ne] at h13; exact h13
                  by_cases h2 : (t.size : Int) < 2
                  · have HF : Hid (r = ([], 0, 1)) := Lib.hid (by rw [HEN.out, endE_short e2 hn13 (by rw [bs_length]; omega), if_neg (by decide)])
                    clear hz e2 hn13
                    go_wp2_with fail
                    go_ret3
                    exact ⟨by rw [HF.out]; rfl, Below.refl _ _⟩
                  · obtain ⟨v, hv⟩ : ∃ v : ByteArray, v = t.extract 0 2 := ⟨_, rfl⟩
                    have p3 : ∀ wx, (Instr.slice 9 (.string t) none (some (.int .i64 2)) none).run Tryd.prog wx = .ok (.string v) wx := fun wx => by rw [hv]; exact run_to2 t 2 2 rfl (by omega) wx
                    have hvb : bs v = (bs t).take 2 := by rw [hv]; exact ext_take t 2
                    have hen := endE_take e2 hn13
                    cases hq : (v.toList == [13, 10]) with
                    | false =>
                      have HF : Hid (r = ([], 0, 1)) := Lib.hid (by
                        rw [HEN.out, hen, if_neg (show ¬ (bs t).take 2 = [13, 10] by rw [← hvb]; rw [Lib.toList_data, beq_eq_false_iff_ne] at hq; exact hq), if_neg (by decide)])
                      have hq' : (v.toList != [13, 10]) = true := by unfold bne; rw [hq]; rfl
                      clear hz e2 hn13 hv hvb hen
                      go_wp2_with fail
                      go_ret3
                      exact ⟨by rw [HF.out]; rfl, Below.refl _ _⟩
                    | true =>
                      have HRN : Hid (r = decGo f' ((bs s).drop (p + k + 2)) (bs B2) (p + k + 2)) := Lib.hid (by
                        rw [HEN.out, hen, if_pos (show (bs t).take 2 = [13, 10] by rw [← hvb]; rw [Lib.toList_data, beq_iff_eq] at hq; exact hq), if_pos rfl])
                      have hq' : (v.toList != [13, 10]) = false := by unfold bne; rw [hq]; rfl
                      have hp2 : p + k + 2 ≤ s.size := by have := HTZ.out; omega
                      have HDN : Hid (DecAt s r (p + k + 2) (bs B2) f') := Lib.hid ⟨by
                        have h := HD.out.fuel
                        rw [List.length_drop, bs_length] at h ⊢
                        have := HP.out
                        omega, HRN.out, by
                        have := HD.out.size
                        have := HP.out
                        rw [HB2B.out, List.length_append, bs_length y, HYZ.out]
                        omega⟩
                      have hm6 : a < p + k + 2 := by have := HP.out; omega
                      clear hz e2 hn13 hv hvb hen
                      go_wp2_with fail
                      go_round
                      case rel => exact ⟨p + k + 2, f', B2, hp2, rfl, by go_num, hB2z, HDN⟩
                      case measure => simp [intOf]; omega
    · have HV := Lib.hid (rnextV_err a u x her)
      have HF : Hid (r = ([], 0, er)) := Lib.hid (by rw [HD.out.run, decGo_err (by rw [HNX.out]; exact her), HNX.out])
      have her' : (er != 0) = true := by simp [her]
      go_wp2_with fail
      refine HC.out.mono ?_
      rintro e w1 ⟨rfl, hw1⟩
      subst hw1
      rw [HV.out]
      go_wp2_with fail
      go_ret3
      exact ⟨by rw [HF.out]; rfl, Below.refl _ _⟩
end Go.Proofs.YtfnmohaddkoalaaDoor
