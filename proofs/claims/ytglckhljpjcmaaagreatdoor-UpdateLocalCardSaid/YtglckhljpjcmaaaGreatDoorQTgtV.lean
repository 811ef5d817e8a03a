/- The walk of the reference's Targets. Printed by gen_tgtw.py. -/
import Derived.Test.YtglckhljpjcmaaaGreatDoorQTgtW
import Derived.Test.YtglckhljpjcmaaaGreatDoorQRFld
import Derived.StillTailTactics
import Derived.Deep.RegionHeld3
namespace Go.Proofs.YtglckhljpjcmaaaGreatDoor
open Go.RowKit Go.Shelf
set_option linter.unusedSimpArgs false

theorem SBuf.strT {w : World} {B : Nat} {oa : Option Addr} {n cap : Nat} {xs : List ByteArray} (h : SBuf w B (.slice oa n cap) xs) : StrO w oa xs := by
  obtain ⟨oa', cap', e, so⟩ := StrO.ofS h
  cases e
  exact so
theorem tgk2 {w1 w2 w3 : World} {p0 p1 : Addr} {v0 v1 : Value} (h : w1.cell? p0 = some v0 ∧ w1.cell? p1 = some v1 ∧ Below w3.heap.size w3 w1) (hb : Below w1.heap.size w1 w2) : w2.cell? p0 = some v0 ∧ w2.cell? p1 = some v1 ∧ Below w3.heap.size w3 w2 := ⟨(hb.cell (cell_lt h.1)).trans h.1, (hb.cell (cell_lt h.2.1)).trans h.2.1, step_b h.2.2 hb⟩
theorem tgl2 {w1 w3 : World} {p0 p1 : Addr} {v0 v1 : Value} (h : w1.cell? p0 = some v0 ∧ w1.cell? p1 = some v1 ∧ Below w3.heap.size w3 w1) : Below w3.heap.size w3 w1 := h.2.2
theorem wpAnyH_takeT {P : Program} {ops : Array Oper} {Q : Exit → Act → World → Prop} {md : Region.Mode} {S : World → Prop} {i : Nat} {oi : Oper} {v : Value} {d : Option Tmp} {fuel : Nat} {listed : Array Bool} {a : Act} {w : World} (hi : ops[i]? = some oi) (hd : oi.dst = d)
    (hs : Region.noSelect ops = true) (hf : Region.free md ops listed i = true) (hr : (Region.ready md ops listed).contains i = true)
    (hQ : ∀ c a w, Q (.panic c) (a.put d v) w → Q (.panic c) a w) (hy : YieldsIf P ops S oi v a) (hS : S w)
    (h : wpAnyH P md ops Q S fuel (listed.setIfInBounds i true) (a.put d v) w) : wpAnyH P md ops Q S (fuel + 1) listed a w := by
  subst hd
  exact wpAnyH_take hi hs hf hr hQ hy hS h
theorem known_more {xs : List ByteArray} {k : Nat} {b : List UInt8} (h : knownB (xs.take k) b = true) : knownB (xs.take (k + 1)) b = true := by
  unfold knownB at *
  rw [List.any_eq_true] at *
  obtain ⟨x, hx, hb⟩ := h
  refine ⟨x, ?_, hb⟩
  rw [List.take_add_one]
  exact List.mem_append_left _ hx
theorem known_got {xs : List ByteArray} {k : Nat} {y K : ByteArray} (hx : xs[k]? = some y) (hq : (y.toList == K.toList) = true) : knownB (xs.take (k + 1)) (bs K) = true := by
  unfold knownB
  rw [List.any_eq_true]
  refine ⟨y, ?_, by rw [Lib.toList_data, Lib.toList_data] at hq; exact hq⟩
  rw [List.take_add_one, hx]
  exact List.mem_append_right _ (by simp)
theorem known_not {xs : List ByteArray} {k : Nat} {y K : ByteArray} (h : knownB (xs.take k) (bs K) = false) (hx : xs[k]? = some y) (hq : (y.toList == K.toList) = false) : knownB (xs.take (k + 1)) (bs K) = false :=
  known_next h hx (by rw [Lib.toList_data, Lib.toList_data] at hq; exact hq)
theorem tgk6 {w1 w2 w3 : World} {p0 p1 p2 p3 p4 p5 : Addr} {v0 v1 v2 v3 v4 v5 : Value} (h : w1.cell? p0 = some v0 ∧ w1.cell? p1 = some v1 ∧ w1.cell? p2 = some v2 ∧ w1.cell? p3 = some v3 ∧ w1.cell? p4 = some v4 ∧ w1.cell? p5 = some v5 ∧ Below w3.heap.size w3 w1) (hb : Below w1.heap.size w1 w2) : w2.cell? p0 = some v0 ∧ w2.cell? p1 = some v1 ∧ w2.cell? p2 = some v2 ∧ w2.cell? p3 = some v3 ∧ w2.cell? p4 = some v4 ∧ w2.cell? p5 = some v5 ∧ Below w3.heap.size w3 w2 := by
  obtain ⟨h0, h1, h2, h3, h4, h5, hl⟩ := h
  exact ⟨(hb.cell (cell_lt h0)).trans h0, (hb.cell (cell_lt h1)).trans h1, (hb.cell (cell_lt h2)).trans h2, (hb.cell (cell_lt h3)).trans h3, (hb.cell (cell_lt h4)).trans h4, (hb.cell (cell_lt h5)).trans h5, step_b hl hb⟩
theorem tgl6 {w1 w3 : World} {p0 p1 p2 p3 p4 p5 : Addr} {v0 v1 v2 v3 v4 v5 : Value} (h : w1.cell? p0 = some v0 ∧ w1.cell? p1 = some v1 ∧ w1.cell? p2 = some v2 ∧ w1.cell? p3 = some v3 ∧ w1.cell? p4 = some v4 ∧ w1.cell? p5 = some v5 ∧ Below w3.heap.size w3 w1) : Below w3.heap.size w3 w1 := h.2.2.2.2.2.2
set_option maxHeartbeats 12800000 in
set_option maxRecDepth 100000 in
theorem rtargets_any (h : ByteArray) (n : Int) (p q : ByteArray) (b : Bool) (m st : Int) (rs : ByteArray) (ox : Option Addr) (xs : List Fd) (cx : Nat) (bd : ByteArray) (w : World) (hh : h.size ≤ 1000) (hp : p.size ≤ 2000) (hq : q.size ≤ 2000) (h0 : -9223372036854775808 ≤ n) (h1 : n ≤ 9223372036854775807) (hn : xs.length ≤ 100000) (hz : FldZ xs 300) (hx : FldO w ox xs) :
    Calls Tryz.prog 8 #[.agg #[.string h, .int .i64 n, .string p, .string q, .bool b], respV m st rs ox xs.length cx bd] w fun e w' => ∃ v, e = .returned v ∧ SBuf w' w.heap.size v (tgtL (mkU h n p q b) xs) ∧ Below w.heap.size w w' := by
  obtain ⟨R0, P0, b0⟩ := rows2 w (uriC h n p q b) 23 (respC m st rs ox xs.length cx bd) 26
  have HZ : Hid (FldZ xs 100000) := Lib.hid fun x hx => by have := hz x hx; omega
  have HZ3 := Lib.hid hz
  have HX := Lib.hid (hx.down b0)
  obtain ⟨U, hU⟩ : ∃ U, U = mkU h n p q b := ⟨_, rfl⟩
  have HU := Lib.hid hU
  obtain ⟨K, hK⟩ : ∃ K, K = keyB U := ⟨_, rfl⟩
  have HK := Lib.hid hK
  obtain ⟨ls, hls⟩ : ∃ ls, ls = tgtL U xs := ⟨_, rfl⟩
  have HLS := Lib.hid hls
  have hKA : ∀ wx, Calls Tryz.prog 13 #[.agg #[.string h, .int .i64 n, .string p, .string q, .bool b]] wx fun e w' => e = .returned (.string K) ∧ Below wx.heap.size wx w' := fun wx => by
    rw [hK, hU]; exact rkey_any h n p q b wx (by omega) (by omega) (by omega) h0 h1
  have HKA := Lib.hid hKA
  have z0 : w.heap.size ≤ ((w.alloc (.cells (uriC h n p q b).toArray 23)).alloc (.cells (respC m st rs ox xs.length cx bd).toArray 26)).heap.size := b0.size
  clear hz hx hU hK hls hKA
  go_enter Tryz.func8, Tryz.ntmps8
  go_wp2_with fail
  generalize (w.alloc (.cells (uriC h n p q b).toArray 23)).alloc (.cells (respC m st rs ox xs.length cx bd).toArray 26) = W0 at *
  refine (HKA.out _).mono ?_
  rintro e w1 ⟨rfl, hb1⟩
  have a2 := alloc_b w1 (.cells #[.string K] 9)
  have S2 := SBuf.lit1 w1 W0.heap.size K hb1.size
  have s2 : (w1.alloc (.cells #[.string K] 9)).heap.size = w1.heap.size + 1 := Array.size_push _
  have a3 := alloc_b (w1.alloc (.cells #[.string K] 9)) (.cells #[.string ⟨#[76, 111, 99, 97, 116, 105, 111, 110]⟩, .string ⟨#[67, 111, 110, 116, 101, 110, 116, 45, 76, 111, 99, 97, 116, 105, 111, 110]⟩] 9)
  have N3 := NsAt.lit (w1.alloc (.cells #[.string K] 9)) (.slice (some ⟨w1.heap.size, 0, none⟩) 1 1) tgtN (by rw [s2]; simp [Value.ownBlock])
  rw [show (tgtN.map Value.string).toArray = #[.string ⟨#[76, 111, 99, 97, 116, 105, 111, 110]⟩, .string ⟨#[67, 111, 110, 116, 101, 110, 116, 45, 76, 111, 99, 97, 116, 105, 111, 110]⟩] from rfl, s2] at N3
  have HN3 := Lib.hid N3
  have S3 := S2.alloc (.cells #[.string ⟨#[76, 111, 99, 97, 116, 105, 111, 110]⟩, .string ⟨#[67, 111, 110, 116, 101, 110, 116, 45, 76, 111, 99, 97, 116, 105, 111, 110]⟩] 9)
  have b3 := step_b hb1 (step_b a2 a3)
  clear hb1 a2 S2 s2 a3 N3 HKA
  go_wp2_with fail
  generalize (w1.alloc (.cells #[.string K] 9)).alloc (.cells #[.string ⟨#[76, 111, 99, 97, 116, 105, 111, 110]⟩, .string ⟨#[67, 111, 110, 116, 101, 110, 116, 45, 76, 111, 99, 97, 116, 105, 111, 110]⟩] 9) = W3 at *
  generalize w1.heap.size + 1 = gn at *
  generalize (⟨w1.heap.size, 0, none⟩ : Addr) = ak at *
  clear w1
  go_loopw [5, 7] (fun u j wr => ∃ (k : Nat) (ys : List ByteArray) (v : Value), v = u ∧ k ≤ 2 ∧ j = .int .i64 k ∧ Hid (ls = tgtGo U xs (tgtN.drop k) ys) ∧ ys.length ≤ k + 1 ∧ SBuf wr W0.heap.size v ys ∧ Hid (NsAt wr v (some ⟨gn, 0, none⟩) tgtN) ∧ Below W0.heap.size W0 wr) (fun _ j _ => 2 - (intOf j).toNat)
  case atStart => exact ⟨0, [K], _, rfl, by omega, rfl, Lib.hid (by rw [HLS.out, HK.out]; rfl), by simp, S3, HN3, b3⟩
  case round =>
    clear S3 HN3 b3
    obtain ⟨k, ys, v, rfl, hk, rfl, HY, hyl, SB, HN, hb⟩ := hrel
    by_cases hlt : k < 2
    · 
      obtain ⟨nm, hnm⟩ : ∃ x, tgtN[k]? = some x := ⟨_, List.getElem?_eq_getElem (show k < tgtN.length from hlt)⟩
      obtain ⟨gm, had, _, c0⟩ := HN.out k nm hnm
      cases had
      have zn := tgtN_z nm (List.mem_of_getElem? hnm)
      obtain ⟨S, hS⟩ : ∃ S, S = firstS (bs nm) xs := ⟨_, rfl⟩
      have zS : S.size ≤ 300 := by rw [hS]; exact firstS_len HZ3.out
      have HY2 : Hid (ls = tgtGo U xs (tgtN.drop (k + 1)) (stepT U ys S)) := Lib.hid (by rw [hS, HY.out]; exact tgtGo_drop hnm)
      obtain ⟨fo, hfo⟩ : ∃ fo : Bool, firstV (getF (bs nm) xs) = .tuple #[.string S, .bool fo] := ⟨_, by rw [hS]; exact firstV_eq _ _⟩
      have HFO := Lib.hid hfo
      obtain ⟨N, k', P', Q, c, g, hr, hrv, zN, zP, zQ, p0, p1⟩ := res_words (mkU h n p q b) S h0 h1 (show (bs h).length ≤ 1000 by rw [bs_length]; exact hh) (by omega)
      have HR := Lib.hid hr
      have HRV := Lib.hid hrv
      have q3 := (P0.below hb).cell 3 rfl
      have hz := hb.size
      clear hnm hS hfo hr hrv HY
      have hk2 : (k : Int) < 2 := by omega
      have HF := Lib.hid (fun (wl : World) (hl : Below wr.heap.size wr wl) => rfirst_any ox xs cx nm wl zn hn HZ.out ((HX.out.down hb).down hl))
      clear hz
      go_wp2_with fail
      go_region_held3 (fun w' => w'.cell? ⟨w.heap.size + 1, 3, none⟩ = some (.slice ox xs.length cx) ∧ w'.cell? ⟨gn, k, none⟩ = some (.string nm) ∧ Below wr.heap.size wr w') (first | assumption | exact ⟨q3, c0, (Below.refl _ _).drew⟩ | (exact tgk2 (by first | assumption | exact ⟨q3, c0, (Below.refl _ _).drew⟩) hbx)) ((go_at_call 20; (with_reducible refine (HF.out _ (by first | exact (Below.refl _ _).drew | exact tgl2 (by assumption))).mono ?_); rintro e w2 ⟨rfl, hbx⟩; rw [HFO.out]))
      have d2 := tgl2 (w1 := w2) (w3 := wr) (by assumption)
      have b2 := step_b hb d2
      have SB2 := SB.below d2 (Nat.le_refl _)
      have HN2 := Lib.hid (HN.out.down d2)
      have R2 := R0.below b2
      have HRE := Lib.hid (rresolve_any h n p q b S w2 (by omega) (by omega) h0 h1)
      have r0 := R2.cell 0 rfl
      have r1 := R2.cell 1 rfl
      have r2 := R2.cell 2 rfl
      have r3 := R2.cell 3 rfl
      have r4 := R2.cell 4 rfl
      clear SB HN hb d2 c0 q3 HF HFO R2
      go_wp2_with fail
      refine HRE.out.mono ?_
      rintro e w4 ⟨rfl, hb4⟩
      rw [HRV.out]
      have a5 := alloc_b w4 (.cells (uriC N k' P' Q c).toArray 23)
      have V5 := RowAt.new w4 (uriC N k' P' Q c) 23
      have b25 := step_b hb4 a5
      have b5 := step_b b2 b25
      have SB5 := SB2.below b25 (Nat.le_refl _)
      have HN5 := Lib.hid (HN2.out.down b25)
      have R5 := R0.below b5
      have v0 := V5.cell 0 rfl
      have v1 := V5.cell 1 rfl
      have e0 := R5.cell 0 rfl
      have e1 := R5.cell 1 rfl
      obtain ⟨K2, hK2⟩ : ∃ K2 : ByteArray, K2 = keyB (mkU N k' P' Q c) := ⟨_, rfl⟩
      have HK2 := Lib.hid hK2
      have HKB : Hid (∀ wx, Calls Tryz.prog 13 #[.agg #[.string N, .int .i64 k', .string P', .string Q, .bool c]] wx fun e w' => e = .returned (.string K2) ∧ Below wx.heap.size wx w') := Lib.hid (fun wx => by
        rw [hK2]; exact rkey_any N k' P' Q c wx (by omega) (by omega) (by omega) (by omega) (by omega))
      clear r0 r1 r2 r3 r4 SB2 HN2 b2 hb4 b25 a5 HRV HRE R5 hK2
      have HNO : Hid (∀ (_ : g = false ∨ sameU U (mkU N k' P' Q c) = false ∨ knownB ys (keyL (mkU N k' P' Q c)) = true), ls = tgtGo U xs (tgtN.drop (k + 1)) ys) := Lib.hid fun hc => by
        rw [HY2.out, stepT_no (by rw [HU.out]; exact HR.out) hc]
      cases g with
      | false =>
        have HY3 := Lib.hid (HNO.out (.inl rfl))
        have S9 := SB5
        go_wp2_with fail
        go_roundw
        case rel => exact ⟨k + 1, ys, _, rfl, by omega, by go_num, HY3, by omega, SB5, HN5, b5⟩
        case measure => simp [intOf]; omega
      | true =>
        cases hs1 : (N.toList == h.toList) with
        | false =>
          have HY3 := Lib.hid (HNO.out (.inr (.inl (by rw [HU.out]; unfold sameU; rw [Lib.toList_data, Lib.toList_data] at hs1; rw [show ((mkU N k' P' Q c).host == (mkU h n p q b).host) = false from hs1]; rfl))))
          have hs1' : (N.toList != h.toList) = true := by unfold bne; rw [hs1]; rfl
          go_wp2_with fail
          go_roundw
          case rel => exact ⟨k + 1, ys, _, rfl, by omega, by go_num, HY3, by omega, SB5, HN5, b5⟩
          case measure => simp [intOf]; omega
        | true =>
          have hs1' : (N.toList != h.toList) = false := by unfold bne; rw [hs1]; rfl
          cases hs2 : ((k' : Int) == n) with
          | false =>
            have HY3 := Lib.hid (HNO.out (.inr (.inl (by rw [HU.out]; unfold sameU; rw [show ((mkU N k' P' Q c).port == (mkU h n p q b).port) = false from hs2]; simp))))
            have hs2' : ((k' : Int) != n) = true := by unfold bne; rw [hs2]; rfl
            go_wp2_with fail
            go_roundw
            case rel => exact ⟨k + 1, ys, _, rfl, by omega, by go_num, HY3, by omega, SB5, HN5, b5⟩
            case measure => simp [intOf]; omega
          | true =>
            have hs2' : ((k' : Int) != n) = false := by unfold bne; rw [hs2]; rfl
            have HSM : Hid (sameU U (mkU N k' P' Q c) = true) := Lib.hid (by rw [HU.out]; unfold sameU; rw [Lib.toList_data, Lib.toList_data] at hs1; rw [show ((mkU N k' P' Q c).host == (mkU h n p q b).host) = true from hs1, show ((mkU N k' P' Q c).port == (mkU h n p q b).port) = true from hs2]; rfl)
            obtain ⟨oy, cy, rfl, _⟩ := StrO.ofS SB5
            have hy10 : ys.length ≤ 1000000 := by omega
            go_wp2_with fail
            generalize w4.alloc (.cells (uriC N k' P' Q c).toArray 23) = w5 at *
            generalize w4.heap.size = gV at *
            clear v0 v1 e0 e1 hs1 hs1' hs2 hs2'
            go_loopw [12, 13] (fun kn cc wi => ∃ (i : Nat) (kb : Bool), i ≤ ys.length ∧ cc = .int .i64 i ∧ kn = .bool kb ∧ Hid (kb = knownB (ys.take i) (bs K2)) ∧ SBuf wi W0.heap.size (.slice oy ys.length cy) ys ∧ Hid (NsAt wi (.slice oy ys.length cy) (some ⟨gn, 0, none⟩) tgtN) ∧ RowAt wi gV 23 (uriC N k' P' Q c) ∧ Below W0.heap.size W0 wi) (fun _ cc _ => ys.length - (intOf cc).toNat)
            case atStart => exact ⟨0, false, by omega, rfl, rfl, Lib.hid rfl, SB5, HN5, V5, b5⟩
            case round =>
              clear SB5 HN5 V5 b5
              obtain ⟨i, kb, hi, rfl, rfl, HKB2, SB, HN, V, hb⟩ := hrel
              by_cases hil : i < ys.length
              · obtain ⟨y, hy⟩ : ∃ y, ys[i]? = some y := ⟨_, List.getElem?_eq_getElem hil⟩
                cases kb with
                | true =>
                  have HK3 : Hid (true = knownB (ys.take (i + 1)) (bs K2)) := Lib.hid (known_more HKB2.out.symm).symm
                  have d1 : Below wr.heap.size wr wr.drew := (Below.refl _ _).drew
                  clear hy
                  go_wp2_with fail
                  refine wp_region_held_drew (S := fun w' => Below wr.heap.size wr w') (by kernel_rfl) d1 (fun hH => ?_)
                  refine wpAnyH_takeT (i := 0) (v := .bool true) (d := some 62) rfl rfl (by kernel_rfl) (by kernel_rfl) (by kernel_rfl) (fun _ _ _ h => h) (Or.inl ⟨by kernel_rfl, fun w9 h9 => by go_simp⟩) hH ?_
                  try simp only [Act.put, List.setIfInBounds_toArray, List.set_cons_zero, List.set_cons_succ]
                  refine wpAnyH_takeT (i := 1) (v := .bool true) (d := some 63) rfl rfl (by kernel_rfl) (by kernel_rfl) (by kernel_rfl) (fun _ _ _ h => h) (Or.inl ⟨by kernel_rfl, fun w9 h9 => by go_simp⟩) hH ?_
                  try simp only [Act.put, List.setIfInBounds_toArray, List.set_cons_zero, List.set_cons_succ]
                  refine wpAnyH_takeT (i := 2) (v := undef) (d := some 64) rfl rfl (by kernel_rfl) (by kernel_rfl) (by kernel_rfl) (fun _ _ _ h => h) (Or.inr ⟨by kernel_rfl, rfl⟩) hH ?_
                  try simp only [Act.put, List.setIfInBounds_toArray, List.set_cons_zero, List.set_cons_succ]
                  refine wpAnyH_takeT (i := 3) (v := undef) (d := some 65) rfl rfl (by kernel_rfl) (by kernel_rfl) (by kernel_rfl) (fun _ _ _ h => h) (Or.inr ⟨by kernel_rfl, rfl⟩) hH ?_
                  try simp only [Act.put, List.setIfInBounds_toArray, List.set_cons_zero, List.set_cons_succ]
                  refine wpAnyH_takeT (i := 4) (v := undef) (d := some 66) rfl rfl (by kernel_rfl) (by kernel_rfl) (by kernel_rfl) (fun _ _ _ h => h) (Or.inr ⟨by kernel_rfl, rfl⟩) hH ?_
                  try simp only [Act.put, List.setIfInBounds_toArray, List.set_cons_zero, List.set_cons_succ]
                  refine wpAnyH_takeT (i := 5) (v := undef) (d := some 67) rfl rfl (by kernel_rfl) (by kernel_rfl) (by kernel_rfl) (fun _ _ _ h => h) (Or.inr ⟨by kernel_rfl, rfl⟩) hH ?_
                  try simp only [Act.put, List.setIfInBounds_toArray, List.set_cons_zero, List.set_cons_succ]
                  refine wpAnyH_takeT (i := 6) (v := undef) (d := some 68) rfl rfl (by kernel_rfl) (by kernel_rfl) (by kernel_rfl) (fun _ _ _ h => h) (Or.inr ⟨by kernel_rfl, rfl⟩) hH ?_
                  try simp only [Act.put, List.setIfInBounds_toArray, List.set_cons_zero, List.set_cons_succ]
                  refine wpAnyH_takeT (i := 7) (v := undef) (d := some 69) rfl rfl (by kernel_rfl) (by kernel_rfl) (by kernel_rfl) (fun _ _ _ h => h) (Or.inr ⟨by kernel_rfl, rfl⟩) hH ?_
                  try simp only [Act.put, List.setIfInBounds_toArray, List.set_cons_zero, List.set_cons_succ]
                  refine wpAnyH_takeT (i := 8) (v := undef) (d := some 70) rfl rfl (by kernel_rfl) (by kernel_rfl) (by kernel_rfl) (fun _ _ _ h => h) (Or.inr ⟨by kernel_rfl, rfl⟩) hH ?_
                  try simp only [Act.put, List.setIfInBounds_toArray, List.set_cons_zero, List.set_cons_succ]
                  refine wpAnyH_takeT (i := 9) (v := .bool true) (d := some 71) rfl rfl (by kernel_rfl) (by kernel_rfl) (by kernel_rfl) (fun _ _ _ h => h) (Or.inl ⟨by kernel_rfl, fun w9 h9 => by go_simp⟩) hH ?_
                  try simp only [Act.put, List.setIfInBounds_toArray, List.set_cons_zero, List.set_cons_succ]
                  refine wpAnyH_takeT (i := 10) (v := .bool true) (d := some 12) rfl rfl (by kernel_rfl) (by kernel_rfl) (by kernel_rfl) (fun _ _ _ h => h) (Or.inl ⟨by kernel_rfl, fun w9 h9 => by go_simp⟩) hH ?_
                  try simp only [Act.put, List.setIfInBounds_toArray, List.set_cons_zero, List.set_cons_succ]
                  refine wpAnyH_done (by kernel_rfl) ?_ _
                  have SB9 := SB.below d1 (Nat.le_refl _)
                  have HN9 := Lib.hid (HN.out.down d1)
                  have V9 := V.below d1
                  have b9 := step_b hb d1
                  clear hH
                  go_wp2_with fail
                  go_roundw
                  case rel => exact ⟨i + 1, true, by omega, by go_num, rfl, HK3, SB9, HN9, V9, b9⟩
                  case measure => simp [intOf]; omega
                | false =>
                  obtain ⟨ad, rfl, c0⟩ := SBuf.strT SB i y hy
                  have v0 := V.cell 0 rfl
                  have v1 := V.cell 1 rfl
                  have v2 := V.cell 2 rfl
                  have v3 := V.cell 3 rfl
                  have v4 := V.cell 4 rfl
                  have hi1 : (0 : Int) ≤ (i : Int) := by omega
                  have hi2 : (i : Int) < (ys.length : Int) := by omega
                  obtain ⟨kq, hkq⟩ : ∃ kq, (y.toList == K2.toList) = kq := ⟨_, rfl⟩
                  have HK3 : Hid (kq = knownB (ys.take (i + 1)) (bs K2)) := Lib.hid (by
                    cases kq with
                    | true => exact (known_got hy hkq).symm
                    | false => exact (known_not HKB2.out.symm hy hkq).symm)
                  clear hy
                  go_wp2_with fail
                  go_region_held3 (fun w' => w'.cell? (ad.add i) = some (.string y) ∧ w'.cell? ⟨gV, 0, none⟩ = some (.string N) ∧ w'.cell? ⟨gV, 1, none⟩ = some (.int .i64 k') ∧ w'.cell? ⟨gV, 2, none⟩ = some (.string P') ∧ w'.cell? ⟨gV, 3, none⟩ = some (.string Q) ∧ w'.cell? ⟨gV, 4, none⟩ = some (.bool c) ∧ Below wr.heap.size wr w') (first | assumption | exact ⟨c0, v0, v1, v2, v3, v4, (Below.refl _ _).drew⟩ | (exact tgk6 (by first | assumption | exact ⟨c0, v0, v1, v2, v3, v4, (Below.refl _ _).drew⟩) hbx)) ((go_at_call 13; refine (HKB.out _).mono ?_; rintro e w' ⟨rfl, hbx⟩))
                  all_goals
                    have d9 := tgl6 (w3 := wr) (by assumption)
                    have SB9 := SB.below d9 (Nat.le_refl _)
                    have HN9 := Lib.hid (HN.out.down d9)
                    have V9 := V.below d9
                    have b9 := step_b hb d9
                    clear c0 v0 v1 v2 v3 v4
                    go_wp2_with fail
                    go_roundw
                    case rel => exact ⟨i + 1, kq, by omega, by go_num, rfl, HK3, SB9, HN9, V9, b9⟩
                    case measure => simp [intOf]; omega
              · have HKF : Hid (kb = knownB ys (keyL (mkU N k' P' Q c))) := Lib.hid (by rw [HKB2.out, List.take_of_length_le (by omega), HK2.out]; rfl)
                have hi3 : ¬ (i : Int) < (ys.length : Int) := by omega
                cases kb with
                | true =>
                  have HY3 := Lib.hid (HNO.out (.inr (.inr HKF.out.symm)))
                  go_wp2_with fail
                  go_roundw
                  case rel => exact ⟨k + 1, ys, _, rfl, by omega, by go_num, HY3, by omega, SB, HN, hb⟩
                  case measure => simp [intOf]; omega
                | false =>
                  have HY3 : Hid (ls = tgtGo U xs (tgtN.drop (k + 1)) (ys ++ [K2])) := Lib.hid (by
                    rw [HY2.out, stepT_yes (by rw [HU.out]; exact HR.out) HSM.out HKF.out.symm, ← HK2.out])
                  have hyl2 : (ys ++ [K2]).length ≤ k + 1 + 1 := by simp; omega
                  have hl10 : ys.length + 1 ≤ 1000000 := by omega
                  have v0 := V.cell 0 rfl
                  have v1 := V.cell 1 rfl
                  have v2 := V.cell 2 rfl
                  have v3 := V.cell 3 rfl
                  have v4 := V.cell 4 rfl
                  clear HNO
                  go_wp2_with fail
                  refine (HKB.out _).mono ?_
                  rintro e w6 ⟨rfl, hb6⟩
                  have SB6 := SB.below hb6 (Nat.le_refl _)
                  have HN6 := Lib.hid (HN.out.down hb6)
                  have b6 := step_b hb hb6
                  have z6 := b6.size
                  clear v0 v1 v2 v3 v4 SB HN hb hb6
                  go_wp2_with (at_builtin; refine wpList_append_str_at rfl (.tmp 74) (.tmp 77) rfl W0 _ W0.heap.size _ ys rfl (SB6.alloc _) (b6.alloc z6 _) (le_alloc z6 _) ⟨w6.heap.size, 0, none⟩ K2 rfl (StrO.new1 w6 _ _) hl10 ?_)
                  intro v8 w8 SB8 b8 z8 t8
                  have HN8 := Lib.hid ((HN6.out.alloc (.cells #[.string K2] 9)).turn t8)
                  clear SB6 HN6 b6 t8
                  go_wp2_with fail
                  go_roundw
                  case rel => exact ⟨k + 1, ys ++ [K2], _, rfl, by omega, by go_num, HY3, hyl2, SB8, HN8, b8⟩
                  case measure => simp [intOf]; omega
    · have HE : Hid (ys = ls) := Lib.hid (by rw [HY.out, List.drop_of_length_le (by show 2 ≤ k; omega)]; rfl)
      have hk3 : ¬ (k : Int) < 2 := by omega
      go_wp2_with fail
      go_ret
      exact ⟨_, rfl, by rw [← HU.out, ← HLS.out, ← HE.out]; exact SB.lower z0, step_b b0 hb⟩
end Go.Proofs.YtglckhljpjcmaaaGreatDoor
