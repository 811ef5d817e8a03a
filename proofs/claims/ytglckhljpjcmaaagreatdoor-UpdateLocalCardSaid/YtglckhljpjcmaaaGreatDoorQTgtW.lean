/- The walks of slices.Contains at strings and of update.Targets. Printed by gen_tgtw.py. -/
import Derived.Test.YtglckhljpjcmaaaGreatDoorQPre
import Derived.Test.YtglckhljpjcmaaaGreatDoorQTargO
import Derived.Test.YtglckhljpjcmaaaGreatDoorQREtagW
import Derived.Test.YtglckhljpjcmaaaGreatDoorQRListX
namespace Go.Proofs.YtglckhljpjcmaaaGreatDoor
open Go.RowKit Go.Shelf
set_option linter.unusedSimpArgs false

theorem known_hit {xs : List ByteArray} {k : Nat} {x v : ByteArray} (hx : xs[k]? = some x) (hq : (v.toList == x.toList) = true) : knownB xs (bs v) = true := by
  unfold knownB
  rw [List.any_eq_true]
  refine ⟨x, List.mem_of_getElem? hx, ?_⟩
  rw [Lib.toList_data, Lib.toList_data, beq_iff_eq] at hq
  exact beq_iff_eq.2 hq.symm
theorem known_next {xs : List ByteArray} {k : Nat} {x : ByteArray} {b : List UInt8} (h : knownB (xs.take k) b = false) (hx : xs[k]? = some x) (hq : (bs x == b) = false) : knownB (xs.take (k + 1)) b = false := by
  unfold knownB at *
  rw [List.take_add_one, hx, List.any_append, h]
  show (false || (bs x == b || false)) = false
  rw [hq]; rfl
theorem beq_turn {v x : ByteArray} (hq : (v.toList == x.toList) = false) : (bs x == bs v) = false := by
  rw [Lib.toList_data, Lib.toList_data] at hq
  rw [Bool.eq_false_iff] at hq ⊢
  intro e
  exact hq (by rw [beq_iff_eq] at e ⊢; exact e.symm)
theorem known_all {xs : List ByteArray} {k : Nat} {b : List UInt8} (h : knownB (xs.take k) b = false) (hk : xs.length ≤ k) : knownB xs b = false := by rwa [List.take_of_length_le hk] at h
def IdxOf (xs : List ByteArray) (v : ByteArray) (w : World) (e : Ending) (w' : World) : Prop := ∃ i : Int, e = .returned (.int .i64 i) ∧ Hid (decide (0 ≤ i) = knownB xs (bs v)) ∧ w = w'
set_option maxHeartbeats 800000 in
theorem sidx_any (oa : Option Addr) (xs : List ByteArray) (cap : Nat) (v : ByteArray) (w : World) (hn : xs.length ≤ 1000000) (hc : StrO w oa xs) :
    Calls Tryz.prog 37 #[.slice oa xs.length cap, .string v] w (IdxOf xs v w) := by
  have HC := Lib.hid hc
  clear hc
  go_enter Tryz.func37, Tryz.ntmps37
  go_wp2_with fail
  go_loop [8] (fun j => ∃ k : Nat, k ≤ xs.length ∧ j = .int .i64 k ∧ Hid (knownB (xs.take k) (bs v) = false)) (fun j => xs.length - (intOf j).toNat)
  case atStart => exact ⟨0, by omega, rfl, Lib.hid rfl⟩
  case round =>
    obtain ⟨k, hk, rfl, HK⟩ := hrel
    by_cases hlt : k < xs.length
    · obtain ⟨x, hx⟩ : ∃ x, xs[k]? = some x := ⟨_, List.getElem?_eq_getElem hlt⟩
      obtain ⟨ad, rfl, c0⟩ := HC.out k x hx
      cases hq : (v.toList == x.toList) with
      | true =>
        have HQ := Lib.hid (known_hit hx hq)
        clear hx
        go_wp2_with fail
        go_ret
        exact ⟨k, rfl, Lib.hid (by rw [HQ.out]; exact decide_eq_true (by omega)), rfl⟩
      | false =>
        have HQ := Lib.hid (known_next HK.out hx (beq_turn hq))
        clear hx
        go_wp2_with fail
        go_round
        case rel => exact ⟨k + 1, by omega, by go_num, HQ⟩
        case measure => simp [intOf]; omega
    · go_wp2_with fail
      go_ret
      exact ⟨-1, rfl, Lib.hid (by rw [known_all HK.out (by omega)]; rfl), rfl⟩
theorem scontains_any (oa : Option Addr) (xs : List ByteArray) (cap : Nat) (v : ByteArray) (w : World) (hn : xs.length ≤ 1000000) (hc : StrO w oa xs) :
    Calls Tryz.prog 19 #[.slice oa xs.length cap, .string v] w fun e w' => e = .returned (.bool (knownB xs (bs v))) ∧ w = w' := by
  go_enter Tryz.func19, Tryz.ntmps19
  go_wp2_with fail
  refine (sidx_any oa xs cap v w hn hc).mono ?_
  rintro e w1 ⟨i, rfl, HI, rfl⟩
  go_wp2_with fail
  go_ret
  exact ⟨ret_bool HI.out, rfl⟩
theorem SBuf.lit1 (w : World) (B : Nat) (c : ByteArray) (hB : B ≤ w.heap.size) : SBuf (w.alloc (.cells #[.string c] 9)) B (.slice (some ⟨w.heap.size, 0, none⟩) 1 1) [c] :=
  ⟨by simp, .inr ⟨w.heap.size, 1, #[.string c], rfl, hB, by simp [World.alloc, -World.alloc_eq], by simp, by simp [maxLen], by simp, by simp⟩⟩
/-- What a reference is resolved to is no longer than both. -/
theorem resolve_len {u v : Uri} {s : List UInt8} {b : Bool} (h : resolveU u s = (v, b)) : v.host.length ≤ s.length + (siteL u.host u.port).length ∧ v.path.length ≤ s.length + 1 ∧ v.query.length ≤ s.length ∧ 0 ≤ v.port ∧ v.port ≤ 65535 := by
  unfold resolveU at h
  split at h
  · have e1 : (parseU s (siteL u.host u.port)).1 = v := congrArg Prod.fst h
    by_cases he : (parseU s (siteL u.host u.port)).2 = 0
    · have pl := parse_len (t := s) (h := siteL u.host u.port) (u := v) (Prod.ext e1 he)
      refine ⟨pl.1, pl.2.1, pl.2.2.1, ?_⟩
      rcases pl.2.2.2 with hp | hp <;> omega
    · have e0 := parseU_err (t := s) (h := siteL u.host u.port) (u := v) (Prod.ext e1 rfl) he
      subst e0
      simp [uri0]
  · cases h
    simp [uri0]
theorem site_le {h : List UInt8} {n : Int} (h0 : -9223372036854775808 ≤ n) (h1 : n ≤ 9223372036854775807) : (siteL h n).length ≤ h.length + 50 := by
  have := site_len (h := h) h0 h1
  omega
/-- A resolved URI in the walk's words. -/
theorem res_words (u : Uri) (s : ByteArray) (h0 : -9223372036854775808 ≤ u.port) (h1 : u.port ≤ 9223372036854775807) (hh : u.host.length ≤ 1000) (hs : s.size ≤ 90000) : ∃ (N : ByteArray) (k : Int) (P Q : ByteArray) (c g : Bool), resolveU u (bs s) = (mkU N k P Q c, g) ∧ resolveV (resolveU u (bs s)) = .tuple #[.agg #[.string N, .int .i64 k, .string P, .string Q, .bool c], .bool g] ∧ N.size ≤ 100000 ∧ P.size ≤ 100000 ∧ Q.size ≤ 100000 ∧ 0 ≤ k ∧ k ≤ 65535 := by
  obtain ⟨v, g, hr⟩ : ∃ v g, resolveU u (bs s) = (v, g) := ⟨_, _, rfl⟩
  have rl := resolve_len hr
  have sl := site_le (h := u.host) h0 h1
  rw [bs_length] at rl
  refine ⟨⟨v.host.toArray⟩, v.port, ⟨v.path.toArray⟩, ⟨v.query.toArray⟩, v.has, g, hr, by rw [hr]; rfl, ?_, ?_, ?_, rl.2.2.2.1, rl.2.2.2.2⟩
  · show v.host.length ≤ _; omega
  · show v.path.length ≤ _; omega
  · show v.query.length ≤ _; omega
theorem NsAt.down {w w' : World} {v : Value} {oc : Option Addr} {ns : List ByteArray} (h : NsAt w v oc ns) (hb : Below w.heap.size w w') : NsAt w' v oc ns := fun j x hx => by
  obtain ⟨g, h1, h2, h3⟩ := h j x hx
  exact ⟨g, h1, h2, (hb.cell (cell_lt h3)).trans h3⟩
theorem NsAt.lit (w : World) (v : Value) (xs : List ByteArray) (hv : some w.heap.size ≠ v.ownBlock) : NsAt (w.alloc (.cells (xs.map Value.string).toArray 9)) v (some ⟨w.heap.size, 0, none⟩) xs := fun j x hx =>
  ⟨w.heap.size, rfl, hv, (RowAt.new w (xs.map Value.string) 9).cell j (by rw [List.getElem?_map, hx]; rfl)⟩
theorem tgtN_z : ∀ x ∈ tgtN, x.size ≤ 100000 := by decide
set_option maxHeartbeats 12800000 in
set_option maxRecDepth 100000 in
theorem targets_any (h : ByteArray) (n : Int) (p q : ByteArray) (b : Bool) (m st : Int) (rs : ByteArray) (ox : Option Addr) (xs : List Fd) (cx : Nat) (bd : ByteArray) (w : World) (hh : h.size ≤ 1000) (hp : p.size ≤ 2000) (hq : q.size ≤ 2000) (h0 : -9223372036854775808 ≤ n) (h1 : n ≤ 9223372036854775807) (hn : xs.length ≤ 100000) (hz : FldZ xs 300) (hx : FldO w ox xs) (hT : PowTab w) (hM : MaxOf w) :
    Calls Tryz.prog 7 #[.agg #[.string h, .int .i64 n, .string p, .string q, .bool b], respV m st rs ox xs.length cx bd] w fun e w' => ∃ v, e = .returned v ∧ SBuf w' w.heap.size v (tgtL (mkU h n p q b) xs) ∧ Below w.heap.size w w' := by
  obtain ⟨R0, P0, b0⟩ := rows2 w (uriC h n p q b) 23 (respC m st rs ox xs.length cx bd) 26
  have HZ : Hid (FldZ xs 100000) := Lib.hid fun x hx => by have := hz x hx; omega
  have HZ3 := Lib.hid hz
  have HX := Lib.hid (hx.down b0)
  have HT := Lib.hid (hT.below b0)
  have HM := Lib.hid (hM.below b0)
  clear hT hM
  obtain ⟨U, hU⟩ : ∃ U, U = mkU h n p q b := ⟨_, rfl⟩
  have HU := Lib.hid hU
  obtain ⟨K, hK⟩ : ∃ K, K = keyB U := ⟨_, rfl⟩
  have HK := Lib.hid hK
  obtain ⟨ls, hls⟩ : ∃ ls, ls = tgtL U xs := ⟨_, rfl⟩
  have HLS := Lib.hid hls
  have hKA : ∀ wx, PowTab wx → Calls Tryz.prog 16 #[.agg #[.string h, .int .i64 n, .string p, .string q, .bool b]] wx fun e w' => e = .returned (.string K) ∧ Below wx.heap.size wx w' := fun wx hx => by
    rw [hK, hU]; exact key_any h n p q b wx (by omega) (by omega) (by omega) h0 h1 hx
  have HKA := Lib.hid hKA
  have z0 : w.heap.size ≤ ((w.alloc (.cells (uriC h n p q b).toArray 23)).alloc (.cells (respC m st rs ox xs.length cx bd).toArray 26)).heap.size := b0.size
  clear hz hx hU hK hls hKA
  go_enter Tryz.func7, Tryz.ntmps7
  go_wp2_with fail
  generalize (w.alloc (.cells (uriC h n p q b).toArray 23)).alloc (.cells (respC m st rs ox xs.length cx bd).toArray 26) = W0 at *
  refine (HKA.out _ HT.out).mono ?_
  rintro e w1 ⟨rfl, hb1⟩
  have a2 := alloc_b w1 (.cells #[.string K] 9)
  have S2 := SBuf.lit1 w1 W0.heap.size K hb1.size
  have s2 : (w1.alloc (.cells #[.string K] 9)).heap.size = w1.heap.size + 1 := Array.size_push _
  have a3 := alloc_b (w1.alloc (.cells #[.string K] 9)) (.cells #[.string ⟨#[76, 111, 99, 97, 116, 105, 111, 110]⟩, .string ⟨#[67, 111, 110, 116, 101, 110, 116, 45, 76, 111, 99, 97, 116, 105, 111, 110]⟩] 9)
  have N3 := NsAt.lit (w1.alloc (.cells #[.string K] 9)) (.slice (some ⟨w1.heap.size, 0, none⟩) 1 1) tgtN (by rw [s2]; simp [Value.ownBlock])
  rw [show (tgtN.map Value.string).toArray = #[.string ⟨#[76, 111, 99, 97, 116, 105, 111, 110]⟩, .string ⟨#[67, 111, 110, 116, 101, 110, 116, 45, 76, 111, 99, 97, 116, 105, 111, 110]⟩] from rfl, s2] at N3
  have HN3 := Lib.hid N3
  have S3 := S2.alloc (.cells #[.string ⟨#[76, 111, 99, 97, 116, 105, 111, 110]⟩, .string ⟨#[67, 111, 110, 116, 101, 110, 116, 45, 76, 111, 99, 97, 116, 105, 111, 110]⟩] 9)
  have b3 := step_b hb1 (step_b a2 a3)
  clear hb1 a2 S2 s2 a3 N3 HKA
  go_wp2_with fail
  generalize (w1.alloc (.cells #[.string K] 9)).alloc (.cells #[.string ⟨#[76, 111, 99, 97, 116, 105, 111, 110]⟩, .string ⟨#[67, 111, 110, 116, 101, 110, 116, 45, 76, 111, 99, 97, 116, 105, 111, 110]⟩] 9) = W3 at *
  generalize w1.heap.size + 1 = gn at *
  generalize (⟨w1.heap.size, 0, none⟩ : Addr) = ak at *
  clear w1
  go_loopw [5, 18] (fun u j wr => ∃ (k : Nat) (ys : List ByteArray) (v : Value), v = u ∧ k ≤ 2 ∧ j = .int .i64 k ∧ Hid (ls = tgtGo U xs (tgtN.drop k) ys) ∧ ys.length ≤ k + 1 ∧ SBuf wr W0.heap.size v ys ∧ Hid (NsAt wr v (some ⟨gn, 0, none⟩) tgtN) ∧ Below W0.heap.size W0 wr) (fun _ j _ => 2 - (intOf j).toNat)
  case atStart => exact ⟨0, [K], _, rfl, by omega, rfl, Lib.hid (by rw [HLS.out, HK.out]; rfl), by simp, S3, HN3, b3⟩
  case round =>
    clear S3 HN3 b3
    obtain ⟨k, ys, v, rfl, hk, rfl, HY, hyl, SB, HN, hb⟩ := hrel
    by_cases hlt : k < 2
    · 
      obtain ⟨nm, hnm⟩ : ∃ x, tgtN[k]? = some x := ⟨_, List.getElem?_eq_getElem (show k < tgtN.length from hlt)⟩
      obtain ⟨gm, had, _, c0⟩ := HN.out k nm hnm
      cases had
      have zn := tgtN_z nm (List.mem_of_getElem? hnm)
      obtain ⟨S, hS⟩ : ∃ S, S = firstS (bs nm) xs := ⟨_, rfl⟩
      have zS : S.size ≤ 300 := by rw [hS]; exact firstS_len HZ3.out
      have HY2 : Hid (ls = tgtGo U xs (tgtN.drop (k + 1)) (stepT U ys S)) := Lib.hid (by rw [hS, HY.out]; exact tgtGo_drop hnm)
      obtain ⟨fo, hfo⟩ : ∃ fo : Bool, firstV (getF (bs nm) xs) = .tuple #[.string S, .bool fo] := ⟨_, by rw [hS]; exact firstV_eq _ _⟩
      have HFO := Lib.hid hfo
      obtain ⟨N, k', P', Q, c, g, hr, hrv, zN, zP, zQ, p0, p1⟩ := res_words (mkU h n p q b) S h0 h1 (show (bs h).length ≤ 1000 by rw [bs_length]; exact hh) (by omega)
      have HR := Lib.hid hr
      have HRV := Lib.hid hrv
      have q3 := (P0.below hb).cell 3 rfl
      have hz := hb.size
      clear hnm hS hfo hr hrv HY
      have HF := Lib.hid (first_any ox xs cx nm wr zn hn HZ.out (HX.out.down hb))
      go_wp2_with fail
      refine HF.out.mono ?_
      rintro e w2 ⟨rfl, hb2⟩
      rw [HFO.out]
      have b2 := step_b hb hb2
      have SB2 := SB.below hb2 (Nat.le_refl _)
      have HN2 := Lib.hid (HN.out.down hb2)
      have R2 := R0.below b2
      have HRE := Lib.hid (resolve_any h n p q b S w2 (by omega) (by omega) h0 h1 (HT.out.below b2) (HM.out.below b2))
      have r0 := R2.cell 0 rfl
      have r1 := R2.cell 1 rfl
      have r2 := R2.cell 2 rfl
      have r3 := R2.cell 3 rfl
      have r4 := R2.cell 4 rfl
      clear c0 q3 SB HN hb hb2 HF HFO R2 hz
      go_wp2_with fail
      refine HRE.out.mono ?_
      rintro e w4 ⟨rfl, hb4⟩
      rw [HRV.out]
      have a5 := alloc_b w4 (.cells (uriC N k' P' Q c).toArray 23)
      have V5 := RowAt.new w4 (uriC N k' P' Q c) 23
      have b25 := step_b hb4 a5
      have b5 := step_b b2 b25
      have SB5 := SB2.below b25 (Nat.le_refl _)
      have HN5 := Lib.hid (HN2.out.down b25)
      have hgV : W0.heap.size ≤ w4.heap.size := Nat.le_trans b2.size hb4.size
      clear r0 r1 r2 r3 r4 SB2 HN2 b2 hb4 b25 a5 HRV HRE
      go_wp2_with fail
      generalize w4.alloc (.cells (uriC N k' P' Q c).toArray 23) = w5 at *
      generalize w4.heap.size = gV at *
      obtain ⟨K2, hK2⟩ : ∃ K2 : ByteArray, K2 = keyB (mkU N k' P' Q c) := ⟨_, rfl⟩
      have HK2 := Lib.hid hK2
      have HKB : Hid (Calls Tryz.prog 16 #[.agg #[.string N, .int .i64 k', .string P', .string Q, .bool c]] w5 fun e w' => e = .returned (.string K2) ∧ Below w5.heap.size w5 w') := Lib.hid (by
        rw [hK2]; exact key_any N k' P' Q c w5 (by omega) (by omega) (by omega) (by omega) (by omega) (HT.out.below b5))
      clear hK2
      refine HKB.out.mono ?_
      rintro e w6 ⟨rfl, hb6⟩
      have b6 := step_b b5 hb6
      have SB6 := SB5.below hb6 (Nat.le_refl _)
      have HN6 := Lib.hid (HN5.out.down hb6)
      have V6 := V5.below hb6
      have R6 := R0.below b6
      have z6 := b6.size
      have r0 := R6.cell 0 rfl
      have r1 := R6.cell 1 rfl
      have v0 := V6.cell 0 rfl
      have v1 := V6.cell 1 rfl
      clear SB5 HN5 V5 b5 hb6 HKB V6 R6
      have HNO : Hid (∀ (_ : g = false ∨ sameU U (mkU N k' P' Q c) = false ∨ knownB ys (keyL (mkU N k' P' Q c)) = true), ls = tgtGo U xs (tgtN.drop (k + 1)) ys) := Lib.hid fun hc => by
        rw [HY2.out, stepT_no (by rw [HU.out]; exact HR.out) hc]
      cases g with
      | false =>
        have HY3 := Lib.hid (HNO.out (.inl rfl))
        go_wp2_with fail
        go_roundw
        case rel => exact ⟨k + 1, ys, _, rfl, by omega, by go_num, HY3, by omega, SB6, HN6, b6⟩
        case measure => simp [intOf]; omega
      | true =>
        cases hs1 : (N.toList == h.toList) with
        | false =>
          have HY3 := Lib.hid (HNO.out (.inr (.inl (by rw [HU.out]; unfold sameU; rw [Lib.toList_data, Lib.toList_data] at hs1; rw [show ((mkU N k' P' Q c).host == (mkU h n p q b).host) = false from hs1]; rfl))))
          go_wp2_with fail
          go_roundw
          case rel => exact ⟨k + 1, ys, _, rfl, by omega, by go_num, HY3, by omega, SB6, HN6, b6⟩
          case measure => simp [intOf]; omega
        | true =>
          cases hs2 : ((k' : Int) == n) with
          | false =>
            have HY3 := Lib.hid (HNO.out (.inr (.inl (by rw [HU.out]; unfold sameU; rw [show ((mkU N k' P' Q c).port == (mkU h n p q b).port) = false from hs2]; simp))))
            go_wp2_with fail
            go_roundw
            case rel => exact ⟨k + 1, ys, _, rfl, by omega, by go_num, HY3, by omega, SB6, HN6, b6⟩
            case measure => simp [intOf]; omega
          | true =>
            have HSM : Hid (sameU U (mkU N k' P' Q c) = true) := Lib.hid (by rw [HU.out]; unfold sameU; rw [Lib.toList_data, Lib.toList_data] at hs1; rw [show ((mkU N k' P' Q c).host == (mkU h n p q b).host) = true from hs1, show ((mkU N k' P' Q c).port == (mkU h n p q b).port) = true from hs2]; rfl)
            obtain ⟨oy, cy, rfl, so⟩ := StrO.ofS SB6
            have hy10 : ys.length ≤ 1000000 := by omega
            have HCO := Lib.hid (scontains_any oy ys cy K2 w6 hy10 so)
            clear so
            go_wp2_with fail
            refine HCO.out.mono ?_
            rintro e w7 ⟨he, rfl⟩
            clear r0 r1 v0 v1 HCO
            cases hkn : knownB ys (bs K2) with
            | true =>
              rw [hkn] at he
              subst he
              have HY3 := Lib.hid (HNO.out (.inr (.inr (by rw [HK2.out] at hkn; exact hkn))))
              clear hkn
              go_wp2_with fail
              go_roundw
              case rel => exact ⟨k + 1, ys, _, rfl, by omega, by go_num, HY3, by omega, SB6, HN6, b6⟩
              case measure => simp [intOf]; omega
            | false =>
              rw [hkn] at he
              subst he
              have HY3 : Hid (ls = tgtGo U xs (tgtN.drop (k + 1)) (ys ++ [K2])) := Lib.hid (by
                rw [HY2.out, stepT_yes (by rw [HU.out]; exact HR.out) HSM.out (by rw [HK2.out] at hkn; exact hkn), ← HK2.out])
              have hyl2 : (ys ++ [K2]).length ≤ k + 1 + 1 := by simp; omega
              have hl10 : ys.length + 1 ≤ 1000000 := by omega
              clear hkn HNO
              go_wp2_with (at_builtin; refine wpList_append_str_at rfl (.tmp 58) (.tmp 60) rfl W0 _ W0.heap.size _ ys rfl (SB6.alloc _) (b6.alloc z6 _) (le_alloc z6 _) ⟨w6.heap.size, 0, none⟩ K2 rfl (StrO.new1 w6 _ _) hl10 ?_)
              intro v8 w8 SB8 b8 z8 t8
              have HN8 := Lib.hid ((HN6.out.alloc (.cells #[.string K2] 9)).turn t8)
              clear SB6 HN6 b6 t8
              go_wp2_with fail
              go_roundw
              case rel => exact ⟨k + 1, ys ++ [K2], _, rfl, by omega, by go_num, HY3, hyl2, SB8, HN8, b8⟩
              case measure => simp [intOf]; omega
    · have HE : Hid (ys = ls) := Lib.hid (by rw [HY.out, List.drop_of_length_le (by show 2 ≤ k; omega)]; rfl)
      have z2 := hb.size
      go_wp2_with fail
      go_ret
      exact ⟨_, rfl, by rw [← HU.out, ← HLS.out, ← HE.out]; exact SB.lower z0, step_b b0 hb⟩
end Go.Proofs.YtglckhljpjcmaaaGreatDoor
