/- The walk of ParseURI (4.4) in the reference. -/
import Derived.Test.YtglckhljpjcmaaaGreatDoorQTargV2
import Derived.Test.YtglckhljpjcmaaaGreatDoorQTargV3
import Derived.Test.YtglckhljpjcmaaaGreatDoorQTargV4
import Derived.Test.YtglckhljpjcmaaaGreatDoorQTargW5
import Derived.BigRegion
import Derived.Deep.DeepCutAuto
import Derived.Deep.CutBlock
namespace Go.Proofs.YtglckhljpjcmaaaGreatDoor
open Go.RowKit

theorem run_mid (s : ByteArray) (i k : Nat) (a b : Int) (ha : a = i) (hb : b = k) (hi : i ≤ k) (h : k ≤ s.size) (wx : World) : (Instr.slice 9 (.string s) (some (.int .i64 a)) (some (.int .i64 b)) none).run Tryz.prog wx = .ok (.string (s.extract i k)) wx := by
  subst ha hb
  rw [run_slice_string_if (h := Tryz.underlying9), if_pos ⟨by omega, by omega⟩, if_pos ⟨by omega, by omega⟩]
  simp
theorem auth_at {l : List UInt8} {k : Nat} (h1 : ∀ j c, j < k → l[j]? = some c → stopC c = true) (hk : k ≤ l.length) (h2 : l.length ≤ k ∨ ∃ c, l[k]? = some c ∧ stopC c = false) : auth1 l = l.take k ∧ rest1 l = l.drop k := by
  have := take_stop (l.take k) (l.drop k) (fun c hc => by
    obtain ⟨j, hj, hx⟩ := List.mem_iff_getElem.1 hc
    rw [List.length_take] at hj
    rw [List.getElem_take] at hx
    exact h1 j c (by omega) (by rw [List.getElem?_eq_getElem (by omega), hx])) (by
    rcases h2 with h2 | ⟨c, h2, h3⟩
    · exact .inl (List.drop_of_length_le h2)
    · obtain ⟨hlt, hx⟩ := List.getElem?_eq_some_iff.1 h2
      exact .inr ⟨c, l.drop (k + 1), by rw [List.drop_eq_getElem_cons hlt, hx], h3⟩)
  rwa [List.take_append_drop] at this
theorem uri_new {w w1 w2 : World} (hw : w2 = w1.alloc (.cells uri0C.toArray 23)) (R1 : RowAt w1 w.heap.size 23 uri0C) (b1 : Below w.heap.size w w1) :
    ∃ V, V = w1.heap.size ∧ RowAt w2 V 23 uri0C ∧ RowAt w2 w.heap.size 23 uri0C ∧ Below w.heap.size w w2 ∧ w.heap.size ≤ V ∧ w.heap.size ≠ V := by
  subst hw
  exact ⟨_, rfl, RowAt.new _ _ _, R1.alloc _, b1.alloc b1.size _, b1.size, Nat.ne_of_lt R1.lt⟩
set_option maxHeartbeats 12800000 in
set_option maxRecDepth 100000 in
theorem ruparse_any (t h : ByteArray) (w : World) (ht : t.size ≤ 100000) (hh : h.size ≤ 100000) :
    Calls Tryz.prog 12 #[.string t, .string h] w fun e w' => e = .returned (parseV (parseU (bs t) (bs h))) ∧ Below w.heap.size w w' := by
  have R0 := Lib.hid (RowAt.new w uri0C 23)
  have B0 := Lib.hid (below_alloc w (.cells uri0C.toArray 23))
  go_enter Tryz.func12, Tryz.ntmps12
  go_upto_block 0 with fail
  go_cut [1, 6] (fun a r wx => RowAt wx w.heap.size 23 uri0C ∧ Below w.heap.size w wx ∧ ∃ ha rb : ByteArray, a = .string ha ∧ r = .string rb ∧ ha.size ≤ 100000 ∧ rb.size ≤ 100000 ∧ Hid (parseU (bs t) (bs h) = parse2 (bs ha) (bs rb)))
  case first =>
    by_cases hz : t.size = 0
    · obtain ⟨e1, e2⟩ := empty_yes hz
      have HF2 : Hid (parseU (bs t) (bs h) = (uri0, 9)) := Lib.hid (by rw [e2]; rfl)
      have HA : Hid (absB (bs t) = false) := Lib.hid (by rw [e2]; rfl)
      have R1 := R0.out
      have b1 := B0.out
      clear hz e2
      go_wp2_with (first | (go_at_call 25; refine (rscheme_any t _ ht).mono ?_; rintro e w2 ⟨rfl, hb2⟩; rw [HA.out]; have R2 := R1.below hb2; have b2 := b1.trans (hb2.mono b1.size)) | (refine wpList_store_row rfl _ 23 (.tmp 4) (.tmp 17) rfl w.heap.size 23 uri0C uri0C R2 rfl rfl rfl uri_size (one_uri _ _ _ _ _) ?_; intro w3 R3 f1 f2 f3))
      refine bodyPost_ret (results_row2 rfl _ _ w.heap.size 23 uri0C R3 rfl _ Tryz.underlying23 uri_size) rfl ?_
      exact ⟨by rw [HF2.out]; rfl, b2.trans (f1 _ (Nat.le_refl _))⟩
    have e1 := empty_no hz
    have hp0 : 0 < t.size := by omega
    have hl : bs t = t[0] :: (bs t).drop 1 := by
      have := drop_step t hp0
      rwa [List.drop_zero] at this
    by_cases h0 : t[0] = 47
    · have HF : Hid (parseU (bs t) (bs h) = parse2 (bs h) (bs t)) := Lib.hid (by
        unfold parseU
        rw [hl, h0, abs_root, if_neg (by simp), if_pos (show (47 :: (bs t).drop 1).head? = some 47 from rfl)])
      have q0 : ((t[0].toNat : Int) == 47) = true := u8_eq (n := 47) (by decide) h0
      have R1 := R0.out
      have b1 := B0.out
      clear hz h0 hl
      go_wp2_with fail
      go_meet
      exact ⟨R1, b1, h, t, rfl, rfl, hh, ht, HF⟩
    have q0 : ((t[0].toNat : Int) == 47) = false := u8_ne (n := 47) (by decide) h0
    cases hab : absB (bs t) with
    | false =>
      have HF2 : Hid (parseU (bs t) (bs h) = (uri0, 9)) := Lib.hid (by
        unfold parseU
        rw [hab, if_neg (by simp), if_neg (by rw [hl]; simpa using h0)])
      have HA := Lib.hid hab
      have R1 := R0.out
      have b1 := B0.out
      clear hz h0 hl hab
      go_wp2_with (first | (go_at_call 25; refine (rscheme_any t _ ht).mono ?_; rintro e w2 ⟨rfl, hb2⟩; rw [HA.out]; have R2 := R1.below hb2; have b2 := b1.trans (hb2.mono b1.size)) | (refine wpList_store_row rfl _ 23 (.tmp 4) (.tmp 17) rfl w.heap.size 23 uri0C uri0C R2 rfl rfl rfl uri_size (one_uri _ _ _ _ _) ?_; intro w3 R3 f1 f2 f3))
      refine bodyPost_ret (results_row2 rfl _ _ w.heap.size 23 uri0C R3 rfl _ Tryz.underlying23 uri_size) rfl ?_
      exact ⟨by rw [HF2.out]; rfl, b2.trans (f1 _ (Nat.le_refl _))⟩
    | true =>
      have hl7 := abs_len hab
      have HP : Hid (∀ a b : ByteArray, bs a = auth1 ((bs t).drop 7) → bs b = rest1 ((bs t).drop 7) → parseU (bs t) (bs h) = parse2 (bs a) (bs b)) := Lib.hid (by
        intro a b ha hb
        unfold parseU
        rw [hab, if_pos rfl, ha, hb])
      have HA := Lib.hid hab
      have R1 := R0.out
      have b1 := B0.out
      clear hz h0 hl hab
      go_wp2_with fail
      refine (rscheme_any t _ ht).mono ?_
      rintro e w2 ⟨rfl, hb2⟩
      rw [HA.out]
      have R2 := R1.below hb2
      have b2 := b1.trans (hb2.mono b1.size)
      clear R1 b1 hb2
      go_wp2_with fail
      go_loop [7] (fun i => ∃ k : Nat, 7 ≤ k ∧ k ≤ t.size ∧ i = .int .i64 k ∧ Hid (∀ j c, j < k - 7 → ((bs t).drop 7)[j]? = some c → stopC c = true)) (fun i => t.size - (intOf i).toNat)
      case atStart => exact ⟨7, by omega, by omega, rfl, Lib.hid fun j c hj => by omega⟩
      case round =>
        obtain ⟨k, hk7, hk, rfl, H⟩ := hrel
        have hd7 : k < t.size → ∀ (hlt : k < t.size), ((bs t).drop 7)[k - 7]? = some t[k] := fun _ hlt => by
          rw [List.getElem?_drop, show 7 + (k - 7) = k from by omega]
          exact (List.getElem?_eq_getElem (by rw [bs_length]; exact hlt)).trans rfl
        have HD7 := Lib.hid hd7
        clear hd7
        by_cases hgo : ∃ hlt : k < t.size, stopC t[k] = true
        · obtain ⟨hlt, hst⟩ := hgo
          have n47 : t[k] ≠ 47 := fun e => by rw [e] at hst; revert hst; decide
          have n63 : t[k] ≠ 63 := fun e => by rw [e] at hst; revert hst; decide
          have q1 : ((t[k].toNat : Int) != 47) = true := u8_bt (n := 47) (by decide) n47
          have q2 : ((t[k].toNat : Int) != 63) = true := u8_bt (n := 63) (by decide) n63
          have HN : Hid (∀ j c, j < k + 1 - 7 → ((bs t).drop 7)[j]? = some c → stopC c = true) := Lib.hid fun j c hj hc => by
            by_cases e : j = k - 7
            · subst e
              rw [HD7.out hlt hlt] at hc
              cases hc; exact hst
            · exact H.out j c (by omega) hc
          clear hst n47 n63
          go_wp2_with fail
          go_round
          case rel => exact ⟨k + 1, by omega, by omega, by go_num, HN⟩
          case measure => simp [intOf]; omega
        · have hau := auth_at (l := (bs t).drop 7) (k := k - 7) H.out (by rw [List.length_drop, bs_length]; omega) (by
            by_cases hlt : k < t.size
            · right
              refine ⟨t[k], HD7.out hlt hlt, ?_⟩
              cases hs : stopC t[k] with
              | false => rfl
              | true => exact absurd ⟨hlt, hs⟩ hgo
            · left; rw [List.length_drop, bs_length]; omega)
          obtain ⟨a, ha⟩ : ∃ a : ByteArray, a = t.extract 7 k := ⟨_, rfl⟩
          obtain ⟨b, hb⟩ : ∃ b : ByteArray, b = t.extract k t.size := ⟨_, rfl⟩
          have s2 := fun wx => run_mid t 7 k 7 (k : Int) rfl rfl hk7 hk wx
          have s3 := fun wx => run_from t k k rfl hk wx
          rw [← ha] at s2
          rw [← hb] at s3
          have HF := Lib.hid (HP.out a b (by rw [ha, hau.1]; exact Lib.extract_data t 7 k) (by rw [hb, extract_from, hau.2, List.drop_drop]; congr 1; omega))
          have za : a.size ≤ 100000 := by rw [ha, ByteArray.size_extract]; omega
          have zb : b.size ≤ 100000 := by rw [hb, ByteArray.size_extract]; omega
          have way : (t.size : Int) ≤ (k : Int) ∨ ∃ hlt : k < t.size, ((t[k].toNat : Int) != 47) = false ∨ ((t[k].toNat : Int) != 47) = true ∧ ((t[k].toNat : Int) != 63) = false := by
            by_cases hlt : k < t.size
            · right
              refine ⟨hlt, ?_⟩
              have hs : stopC t[k] = false := by
                cases hs : stopC t[k] with
                | false => rfl
                | true => exact absurd ⟨hlt, hs⟩ hgo
              by_cases c47 : t[k] = 47
              · exact .inl (u8_bf (n := 47) (by decide) c47)
              · rcases stopC_iff.1 hs with e | e
                · exact absurd e c47
                · exact .inr ⟨u8_bt (n := 47) (by decide) c47, u8_bf (n := 63) (by decide) e⟩
            · left; omega
          clear hau ha hb hgo HD7
          rcases way with q1 | ⟨hlt, q1 | ⟨q1, q2⟩⟩
          all_goals
            go_wp2_with fail
            go_quiet (fail)
            have R3 := R2.below (below_draws _ nq)
            have b3 := below_drewN b2 nq
            generalize w2.drewN nq = w3 at R3 b3 ⊢
            go_wp2_with fail
            go_meet
            exact ⟨R3, b3, a, b, rfl, rfl, za, zb, HF⟩
  case rest =>
    obtain ⟨R1, b1, ha, rb, rfl, rfl, za, zb, HF⟩ := hcut
    obtain ⟨v, hv⟩ : ∃ v, v = idxFrom 63 (bs rb) 0 := ⟨_, rfl⟩
    have HIV := Lib.hid hv
    clear hv
    go_upto_if 56 with (go_at_call 26; refine (index_any rb 63 0 _ _ _ rfl rfl (by omega) (by omega)).mono ?_; rintro e w2 ⟨rfl, hw2⟩; rw [← HIV.out]; obtain ⟨U, hU, U2, R2, b2, hUw, hne⟩ := uri_new hw2.symm R1 b1; rw [← hU]; clear hw2 hU R1 b1)
    go_cut [6, 10, 11] (fun r _ _ wx => ∃ (p1 Q q1 : ByteArray) (hs : Bool), r = .string p1 ∧ p1.size ≤ 100000 ∧ Hid (cutB 63 (bs rb) = (bs p1, bs q1, hs)) ∧ Hid (normL (bs q1) = some (bs Q)) ∧ RowAt wx U 23 (uriC ⟨#[]⟩ 0 ⟨#[]⟩ Q hs) ∧ RowAt wx w.heap.size 23 uri0C ∧ Below w.heap.size w wx)
    case first =>
      have hv := HIV.out
      clear HIV
      rcases idx_cut (c := 63) zb with ⟨hi, hic⟩ | ⟨i, hi, hil, hic⟩
      · rw [hi] at hv
        subst hv
        have HC := Lib.hid hic
        clear hi hic
        go_wp2_with fail
        go_meet
        exact ⟨rb, ⟨#[]⟩, ⟨#[]⟩, false, rfl, zb, HC, Lib.hid rfl, U2, R2, b2⟩
      · rw [hi] at hv
        subst hv
        obtain ⟨p1, hp1⟩ : ∃ p1 : ByteArray, p1 = rb.extract 0 i := ⟨_, rfl⟩
        obtain ⟨q1, hq1⟩ : ∃ q1 : ByteArray, q1 = rb.extract (i + 1) rb.size := ⟨_, rfl⟩
        have s1 := fun wx => run_from rb (i + 1) ((i : Int) + 1) (by omega) (by omega) wx
        have s2 := fun wx => run_to rb i (i : Int) rfl (by omega) wx
        have v1 : IntKind.i64.wrap ((i : Int) + 1) = (i : Int) + 1 := IntWalk.i64_in _ (by omega)
        rw [← hp1] at s2 hic
        rw [← hq1] at s1 hic
        have zp : p1.size ≤ 100000 := by rw [hp1, ByteArray.size_extract]; omega
        have zq : q1.size ≤ 100000 := by rw [hq1, ByteArray.size_extract]; omega
        have EP := Lib.hid hic
        clear hp1 hq1 hic hi
        go_wp2_with fail
        refine (rnormalize_any q1 _ zq).mono ?_
        rintro e w4 ⟨rfl, hb4⟩
        have U4 := U2.below hb4
        have R4 := R2.below hb4
        have b4 := b2.trans (hb4.mono b2.size)
        clear hb4 U2 R2 b2
        cases hnq : normL (bs q1) with
        | none =>
          have HF2 : Hid (parseU (bs t) (bs h) = (uri0, 9)) := Lib.hid (by rw [HF.out]; unfold parse2; rw [EP.out, hnq]; cases normL (bs p1) <;> rfl)
          have HV : Hid (normV none = .tuple #[.string ⟨#[]⟩, .bool false]) := Lib.hid rfl
          clear hnq HF EP
          rw [HV.out]
          go_wp2_with (refine wpList_store_row rfl _ 23 (.tmp 4) (.tmp 67) rfl w.heap.size 23 uri0C uri0C R4 rfl rfl rfl uri_size (one_uri _ _ _ _ _) ?_; intro w7 R7 f1 f2 f3)
          refine bodyPost_ret (results_row2 rfl _ _ w.heap.size 23 uri0C R7 rfl _ Tryz.underlying23 uri_size) rfl ?_
          exact ⟨by rw [HF2.out]; rfl, b4.trans (f1 _ (Nat.le_refl _))⟩
        | some ql =>
          obtain ⟨Q, hQ⟩ : ∃ Q : ByteArray, Q = ⟨ql.toArray⟩ := ⟨_, rfl⟩
          have HV : Hid (normV (some ql) = .tuple #[.string Q, .bool true]) := Lib.hid (by rw [hQ]; rfl)
          have HNQ : Hid (normL (bs q1) = some (bs Q)) := Lib.hid (by rw [hnq, hQ])
          have c3 := U4.cell 3 rfl
          have f3 := U4.free 3
          have c4 := U4.cell 4 rfl
          have f4 := U4.free 4
          clear hnq hQ
          rw [HV.out]
          go_wp2_with fail
          go_region
          all_goals
            go_wp2_with fail
            go_meet
            exact ⟨p1, Q, q1, true, rfl, zp, EP, HNQ, (U4.set 3 (.string Q)).set 4 (.bool true), (R4.setOther hne 3 (.string Q)).setOther hne 4 (.bool true), ((b4.setCell (p := ⟨U, 3, none⟩) hUw (.string Q)).setCell (p := ⟨U, 4, none⟩) hUw (.bool true)).drew⟩
    case rest =>
      obtain ⟨p1, Q, q1, hs, rfl, zp, EP, HNQ, U5, R5, b5⟩ := hcut
      clear HIV
      go_wp2_with fail
      cases hnp : normL (bs p1) with
      | none =>
        have HF2 : Hid (parseU (bs t) (bs h) = (uri0, 9)) := Lib.hid (by rw [HF.out]; unfold parse2; rw [EP.out, hnp])
        have HV : Hid (normV none = .tuple #[.string ⟨#[]⟩, .bool false]) := Lib.hid rfl
        have HNP := Lib.hid hnp
        clear hnp HF EP HNQ
        refine (rnormalize_any p1 _ zp).mono ?_
        rintro e w6 ⟨rfl, hb6⟩
        rw [HNP.out, HV.out]
        have R6 := R5.below hb6
        have b6 := b5.trans (hb6.mono b5.size)
        go_wp2_with (refine wpList_store_row rfl _ 23 (.tmp 4) (.tmp 81) rfl w.heap.size 23 uri0C uri0C R6 rfl rfl rfl uri_size (one_uri _ _ _ _ _) ?_; intro w7 R7 f1 f2 f3)
        refine bodyPost_ret (results_row2 rfl _ _ w.heap.size 23 uri0C R7 rfl _ Tryz.underlying23 uri_size) rfl ?_
        exact ⟨by rw [HF2.out]; rfl, b6.trans (f1 _ (Nat.le_refl _))⟩
      | some pl =>
        have zpl := norm_len _ _ _ (Nat.le_refl _) hnp
        rw [bs_length] at zpl
        have HNP := Lib.hid hnp
        obtain ⟨P, hP⟩ : ∃ P : ByteArray, P = ⟨pl.toArray⟩ := ⟨_, rfl⟩
        have hPb : pl = bs P := by rw [hP]
        have HV : Hid (normV (some pl) = .tuple #[.string P, .bool true]) := Lib.hid (by rw [hP]; rfl)
        obtain ⟨X, hX, way⟩ : ∃ X : ByteArray, Hid (bs X = rootL pl) ∧ ((P.toList.isEmpty = true ∧ X = ⟨#[47]⟩) ∨ (P.toList.isEmpty = false ∧ X = P)) := by
          by_cases hz : P.size = 0
          · obtain ⟨e1, e2⟩ := empty_yes hz
            exact ⟨⟨#[47]⟩, Lib.hid (by rw [hPb, e2]; rfl), .inl ⟨e1, rfl⟩⟩
          · refine ⟨P, Lib.hid (by rw [hPb]; unfold rootL; rw [if_neg (empty_ne hz)]), .inr ⟨empty_no hz, rfl⟩⟩
        have zX : X.size ≤ 100000 := by
          rw [← bs_length, hX.out]
          unfold rootL
          split
          · simp
          · omega
        obtain ⟨Y, hY⟩ : ∃ Y : ByteArray, Y = ⟨(segsL (bs X)).toArray⟩ := ⟨_, rfl⟩
        have HY : Hid (segsL (bs X) = bs Y) := Lib.hid (by rw [hY])
        have HSG : Hid (∀ wx, Calls Tryz.prog 28 #[.string X] wx fun e w' => e = .returned (.string Y) ∧ Below wx.heap.size wx w') := Lib.hid (by
          intro wx
          rw [hY]; exact rsegments_any X wx zX)
        clear hnp hP hPb zpl hY
        refine (rnormalize_any p1 _ zp).mono ?_
        rintro e w6 ⟨rfl, hb6⟩
        rw [HNP.out, HV.out]
        have R6 := R5.below hb6
        have U6 := U5.below hb6
        have b6 := b5.trans (hb6.mono b5.size)
        clear R5 U5 b5 hb6
        cases hna : authL (bs ha) with
        | none =>
          have HF2 : Hid (parseU (bs t) (bs h) = (uri0, 6)) := Lib.hid (by rw [HF.out]; unfold parse2; rw [EP.out, HNP.out, HNQ.out, hna])
          have HVA : Hid (authV none = .tuple #[.string ⟨#[]⟩, .int .i64 0, .bool false]) := Lib.hid rfl
          have HA := Lib.hid hna
          clear hna HF EP HNQ hX zX HNP HY
          rcases way with ⟨e1, rfl⟩ | ⟨e1, rfl⟩
          all_goals
            go_wp2_with (first | (go_at_call 28; refine (HSG.out _).mono ?_; rintro e w7 ⟨rfl, hb7⟩; have R7 := R6.below hb7; have U7 := U6.below hb7; have b7 := b6.trans (hb7.mono b6.size); have c2 := U7.cell 2 rfl; have f2 := U7.free 2) | (go_at_call 29; refine (rauthority_any ha _ za).mono ?_; rintro e w8 ⟨rfl, hb8⟩; rw [HA.out, HVA.out]; have R8 := (R7.setOther hne 2 (.string Y)).below hb8; have U8 := (U7.set 2 (.string Y)).below hb8; have b8 := (b7.setCell (p := ⟨U, 2, none⟩) hUw (.string Y)).trans (hb8.mono (Nat.le_trans b7.size (by simp)))) | (refine wpList_store_row rfl _ 23 (.tmp 4) (.tmp 95) rfl w.heap.size 23 uri0C uri0C R8 rfl rfl rfl uri_size (one_uri _ _ _ _ _) ?_; intro w9 R9 f1 f3 f4))
            refine bodyPost_ret (results_row2 rfl _ _ w.heap.size 23 uri0C R9 rfl _ Tryz.underlying23 uri_size) rfl ?_
            exact ⟨by rw [HF2.out]; rfl, b8.trans (f1 _ (Nat.le_refl _))⟩
        | some nk =>
          obtain ⟨nl, k⟩ := nk
          obtain ⟨N, hN⟩ : ∃ N : ByteArray, N = ⟨nl.toArray⟩ := ⟨_, rfl⟩
          have HA := Lib.hid hna
          have HVA : Hid (authV (some (nl, k)) = .tuple #[.string N, .int .i64 k, .bool true]) := Lib.hid (by rw [hN]; rfl)
          have HF2 : Hid (parseU (bs t) (bs h) = (⟨nl, k, segsL (bs X), bs Q, hs⟩, 0)) := Lib.hid (by rw [HF.out, hX.out]; exact (parse2_mk (by rw [EP.out]; exact HNP.out) (by rw [EP.out]; exact HNQ.out) hna).trans (by rw [EP.out]))
          have HN : Hid (nl = bs N) := Lib.hid (by rw [hN])
          clear hna HF EP HNQ hX zX hN HNP
          rcases way with ⟨e1, rfl⟩ | ⟨e1, rfl⟩
          all_goals
            go_wp2_with (first | (go_at_call 28; refine (HSG.out _).mono ?_; rintro e w7 ⟨rfl, hb7⟩; have R7 := R6.below hb7; have U7 := U6.below hb7; have b7 := b6.trans (hb7.mono b6.size); have c2 := U7.cell 2 rfl; have f2 := U7.free 2) | (go_at_call 29; refine (rauthority_any ha _ za).mono ?_; rintro e w8 ⟨rfl, hb8⟩; rw [HA.out, HVA.out]; have R8 := (R7.setOther hne 2 (.string Y)).below hb8; have U8 := (U7.set 2 (.string Y)).below hb8; have b8 := (b7.setCell (p := ⟨U, 2, none⟩) hUw (.string Y)).trans (hb8.mono (Nat.le_trans b7.size (by simp))); have d0 := U8.cell 0 rfl; have e0 := U8.free 0; have d1 := U8.cell 1 rfl; have e1' := U8.free 1; have R10 := (R8.setOther hne 0 (.string N)).setOther hne 1 (.int .i64 k); have U10 := (U8.set 0 (.string N)).set 1 (.int .i64 k); have b10 := (b8.setCell (p := ⟨U, 0, none⟩) hUw (.string N)).setCell (p := ⟨U, 1, none⟩) hUw (.int .i64 k)) | (refine wpList_load_rowAt rfl _ 23 (.tmp 8) rfl U 23 (uriC N k Y Q hs) U10 rfl _ Tryz.underlying23 uri_size ?_) | (refine wpList_store_row rfl _ 23 (.tmp 4) (.tmp 100) rfl w.heap.size 23 uri0C (uriC N k Y Q hs) R10 rfl rfl rfl uri_size (one_uri _ _ _ _ _) ?_; intro w11 R11 f1 f3 f4))
            refine bodyPost_ret (results_row2 rfl _ _ w.heap.size 23 (uriC N k Y Q hs) R11 rfl _ Tryz.underlying23 uri_size) rfl ?_
            exact ⟨by rw [HF2.out, HN.out, HY.out]; rfl, b10.trans (f1 _ (Nat.le_refl _))⟩
end Go.Proofs.YtglckhljpjcmaaaGreatDoor
