/- The walk of UpdateRefreshes (law 29). Printed by gen_updl.py. -/
import Derived.Test.YtglckhljpjcmaaaDoorUpdY
namespace Go.Proofs.YtglckhljpjcmaaaDoor
open Go.RowKit Go.Shelf
set_option linter.unusedSimpArgs false

set_option maxHeartbeats 12800000 in
set_option maxRecDepth 100000 in
theorem refreshes_walk (ok : Option Addr) (ks : List (List ByteArray)) (ck : Nat) (ov : Option Addr) (vs : List ByteArray) (cv : Nat) (os : Option Addr) (ss : List ByteArray) (cs : Nat) (rs : ByteArray) (oe : Option Addr) (es : List Fd) (ce : Nat) (be : ByteArray) (r1 r2 : Int) (m st : Int) (rr : ByteArray) (ox : Option Addr) (xs : List Fd) (cx : Nat) (bd : ByteArray) (rq rc : Int) (w : World)
    (hk1 : MatO w ok ks) (hk2 : MatZ ks bigN bigN) (hk3 : ks.length ≤ bigN) (hv1 : StrO w ov vs) (hv2 : ∀ x ∈ vs, x.size ≤ bigN) (hv3 : vs.length ≤ bigN) (hs1 : StrO w os ss) (hs2 : ∀ x ∈ ss, x.size ≤ bigN) (hs3 : ss.length ≤ bigN) (_ : rs.size ≤ bigN) (hf1 : FldO w oe es) (hf3 : es.length ≤ bigN) (_ : be.size ≤ bigN) (_ : (Lit.int .i64 r1).wf = true) (_ : (Lit.int .i64 r2).wf = true) (hn : xs.length ≤ bigN) (_ : rr.size ≤ bigN) (_ : bd.size ≤ bigN) (hc : FldO w ox xs) (_ : (Lit.int .i64 rq).wf = true) (_ : (Lit.int .i64 rc).wf = true) :
    Calls Tryd.prog 4 #[entV8 ok ks.length ck ov vs.length cv os ss.length cs rs oe es.length ce be r1 r2, respV m st rr ox xs.length cx bd, .int .i64 rq, .int .i64 rc] w fun e w' => e = .returned (.bool true) ∧ Below w.heap.size w w' := by
  obtain ⟨R0, R1, b0⟩ := rows2 w (entC8 ok ks.length ck ov vs.length cv os ss.length cs rs oe es.length ce be r1 r2) 26 (respC m st rr ox xs.length cx bd) 28
  have HX := Lib.hid hc
  have hn9 : xs.length ≤ 9223372036854775807 := hn
  have HK := Lib.hid hk1
  have HV := Lib.hid hv1
  have HS := Lib.hid hs1
  have HF := Lib.hid hf1
  have HKE := fun (wl : World) (hb : Below w.heap.size w wl) => keepE_any ok ks ck ov vs cv os ss cs rs oe es ce be r1 r2 wl (hk1.down hb) hk2 hk3 (hv1.down hb) hv2 hv3 (hs1.down hb) hs2 hs3 (hf1.down hb) hf3
  have HKH := Lib.hid HKE
  clear hc hf1 HKE hk1 hk2 hv1 hv2 hs1 hs2
  go_enter Tryd.func4, Tryd.ntmps4
  go_wp2_with fail
  refine (HKH.out _ b0).mono ?_
  rintro e w1 ⟨b, rfl, hb1, hbz⟩
  have b1 := step_b b0 hb1
  have E1 := R0.below hb1
  have P1 := R1.below hb1
  clear R0 R1 b0 hb1 HKH
  cases b with
  | false =>
    clear hbz E1 P1
    go_wp2_with fail
    go_ret
    exact ⟨rfl, b1⟩
  | true =>
    obtain ⟨⟨hkl, hkz⟩, ⟨hvl, _⟩, ⟨hsl, _⟩, _, _, hne70, hze⟩ := hbz rfl
    clear hbz
    have HKZ : Hid (MatZ ks 1000 1000) := Lib.hid fun r hr => ⟨by have := (hkz r hr).1; omega, fun x hx => by have := (hkz r hr).2 x hx; omega⟩
    have HEZ : Hid (FldZ es 100000) := Lib.hid fun x hx => by have := hze x hx; omega
    clear hkz hze
    have d0 := P1.cell 0 rfl
    have d1 := P1.cell 1 rfl
    have d2 := P1.cell 2 rfl
    have d3 := P1.cell 3 rfl
    have d4 := P1.cell 4 rfl
    have HX1 := Lib.hid (HX.out.down b1)
    go_wp2_with fail
    refine (keepR_any m st rr ox xs cx bd w1 hn9 HX1.out).mono ?_
    rintro e w2 ⟨he, hb2⟩
    have b2 := step_b b1 hb2
    have E2 := E1.below hb2
    have P2 := P1.below hb2
    clear d0 d1 d2 d3 d4 E1 P1 HX1 hb2 b1
    cases hq : keepRB rr bd xs with
    | false =>
      rw [hq] at he
      subst he
      clear hq E2 P2
      go_wp2_with fail
      go_ret
      exact ⟨rfl, b2⟩
    | true =>
      rw [hq] at he
      subst he
      obtain ⟨_, hn70, hzx, _⟩ : rr.size ≤ 2100 ∧ xs.length ≤ 70 ∧ FldZ xs 300 ∧ bd.size ≤ 2000 := by
        unfold keepRB at hq
        simp only [Bool.and_eq_true, decide_eq_true_eq] at hq
        exact ⟨hq.1.1, (fieldsB_true hq.1.2).1, (fieldsB_true hq.1.2).2, hq.2⟩
      have HXZ : Hid (FldZ xs 100000) := Lib.hid fun x hx => by have := hzx x hx; omega
      clear hq hzx
      obtain ⟨us, hus⟩ : ∃ us, us = updL es xs := ⟨_, rfl⟩
      have hul : us.length ≤ 200 := by rw [hus]; have := upd_len es xs; omega
      have HUZ : Hid (FldZ us 100000) := Lib.hid (by rw [hus]; exact upd_z HEZ.out HXZ.out)
      have HRF : Hid (∀ (ok : Option Addr) (ck : Nat) (ov : Option Addr) (cv : Nat) (os : Option Addr) (cs : Nat) (oe : Option Addr) (ce : Nat) (W : World), MatO W ok ks → StrO W ov vs → StrO W os ss → FldO W oe es → FldO W ox xs → Calls Tryd.prog 7 #[entV8 ok ks.length ck ov vs.length cv os ss.length cs rs oe es.length ce be r1 r2, respV m st rr ox xs.length cx bd, .int .i64 rq, .int .i64 rc] W (EntOut ks vs ss rs us be rq rc W)) := Lib.hid (fun ok ck ov cv os cs oe ce W h1 h2 h3 h4 h5 => by
        rw [hus]
        exact refresh_any ok ks ck ov vs cv os ss cs rs oe es ce be r1 r2 m st rr ox xs cx bd rq rc W h1 HKZ.out (by omega) h2 (by omega) h3 (by omega) h4 (by omega) HEZ.out h5 (by omega) HXZ.out)
      have HRR : Hid (∀ (W : World), MatO W ok ks → StrO W ov vs → StrO W os ss → FldO W oe es → FldO W ox xs → Calls Tryd.prog 16 #[entV8 ok ks.length ck ov vs.length cv os ss.length cs rs oe es.length ce be r1 r2, respV m st rr ox xs.length cx bd, .int .i64 rq, .int .i64 rc] W (EntOut ks vs ss rs us be rq rc W)) := Lib.hid (fun W h1 h2 h3 h4 h5 => by
        rw [hus]
        exact rrefresh_any ok ks ck ov vs cv os ss cs rs oe es ce be r1 r2 m st rr ox xs cx bd rq rc W h1 HKZ.out (by omega) h2 (by omega) h3 (by omega) h4 (by omega) HEZ.out h5 (by omega) HXZ.out)
      obtain ⟨q, hq⟩ : ∃ q, q = mtB xs es := ⟨_, rfl⟩
      have HQ := Lib.hid hq
      have HK2 := Lib.hid (HK.out.down b2)
      have HV2 := Lib.hid (HV.out.down b2)
      have HS2 := Lib.hid (HS.out.down b2)
      have HF2 := Lib.hid (HF.out.down b2)
      have HX2 := Lib.hid (HX.out.down b2)
      have e0 := E2.cell 0 rfl
      have e1 := E2.cell 1 rfl
      have e2 := E2.cell 2 rfl
      have e3 := E2.cell 3 rfl
      have e4 := E2.cell 4 rfl
      have e5 := E2.cell 5 rfl
      have e6 := E2.cell 6 rfl
      have e7 := E2.cell 7 rfl
      have p0 := P2.cell 0 rfl
      have p1 := P2.cell 1 rfl
      have p2 := P2.cell 2 rfl
      have p3 := P2.cell 3 rfl
      have p4 := P2.cell 4 rfl
      clear hq hus HUZ HK HV HS HF HX E2 P2
      go_wp2_with fail
      go_region_held3 (fun w' => w'.cell? ⟨w.heap.size, 0, none⟩ = some (.slice ok ks.length ck) ∧ w'.cell? ⟨w.heap.size, 1, none⟩ = some (.slice ov vs.length cv) ∧ w'.cell? ⟨w.heap.size, 2, none⟩ = some (.slice os ss.length cs) ∧ w'.cell? ⟨w.heap.size, 3, none⟩ = some (.string rs) ∧ w'.cell? ⟨w.heap.size, 4, none⟩ = some (.slice oe es.length ce) ∧ w'.cell? ⟨w.heap.size, 5, none⟩ = some (.string be) ∧ w'.cell? ⟨w.heap.size, 6, none⟩ = some (.int .i64 r1) ∧ w'.cell? ⟨w.heap.size, 7, none⟩ = some (.int .i64 r2) ∧ w'.cell? ⟨w.heap.size + 1, 0, none⟩ = some (.int .i64 m) ∧ w'.cell? ⟨w.heap.size + 1, 1, none⟩ = some (.int .i64 st) ∧ w'.cell? ⟨w.heap.size + 1, 2, none⟩ = some (.string rr) ∧ w'.cell? ⟨w.heap.size + 1, 3, none⟩ = some (.slice ox xs.length cx) ∧ w'.cell? ⟨w.heap.size + 1, 4, none⟩ = some (.string bd) ∧ Below w2.heap.size w2 w') (first | assumption | exact ⟨e0, e1, e2, e3, e4, e5, e6, e7, p0, p1, p2, p3, p4, (Below.refl _ _).drew⟩ | (exact upk13 (by first | assumption | exact ⟨e0, e1, e2, e3, e4, e5, e6, e7, p0, p1, p2, p3, p4, (Below.refl _ _).drew⟩) hb)) (first | (go_at_call 15; refine (own_any ok ks ck ov vs cv os ss cs rs oe es ce be r1 r2 _ (HK2.out.down (by first | exact (Below.refl _ _).drew | exact upl13 (by assumption))) HKZ.out (by omega) (HV2.out.down (by first | exact (Below.refl _ _).drew | exact upl13 (by assumption))) (by omega) (HS2.out.down (by first | exact (Below.refl _ _).drew | exact upl13 (by assumption))) (by omega) (HF2.out.down (by first | exact (Below.refl _ _).drew | exact upl13 (by assumption))) (by omega)).mono ?_; rintro e w' ⟨ok1, ck1, ov1, cv1, os1, cs1, oe1, ce1, rfl, X1, hb⟩) | (go_at_call 7; refine (HRF.out ok1 ck1 ov1 cv1 os1 cs1 oe1 ce1 _ X1.1.mat X1.2.1.str X1.2.2.1.str X1.2.2.2.fld (HX2.out.down (by first | exact (Below.refl _ _).drew | exact upl13 (by assumption)))).mono ?_; rintro e w' ⟨ok2, ck2, ov2, cv2, os2, cs2, oe2, ce2, rfl, X2, hb⟩) | (go_at_call 16; refine (HRR.out _ (HK2.out.down (by first | exact (Below.refl _ _).drew | exact upl13 (by assumption))) (HV2.out.down (by first | exact (Below.refl _ _).drew | exact upl13 (by assumption))) (HS2.out.down (by first | exact (Below.refl _ _).drew | exact upl13 (by assumption))) (HF2.out.down (by first | exact (Below.refl _ _).drew | exact upl13 (by assumption))) (HX2.out.down (by first | exact (Below.refl _ _).drew | exact upl13 (by assumption)))).mono ?_; rintro e w' ⟨ok3, ck3, ov3, cv3, os3, cs3, oe3, ce3, rfl, X3, hb⟩; have X2 := X2.below hb (Nat.le_refl _)) | (go_at_call 14; refine (equal_any ok2 ks ck2 ov2 vs cv2 os2 ss cs2 rs oe2 us ce2 be rq rc ok3 ck3 ov3 cv3 os3 cs3 oe3 ce3 _ X2.1.mat X3.1.mat HKZ.out (by omega) X2.2.1.str X3.2.1.str (by omega) X2.2.2.1.str X3.2.2.1.str (by omega) X2.2.2.2.fld X3.2.2.2.fld (by omega)).mono ?_; rintro e w' ⟨rfl, hb⟩) | (go_at_call 17; refine (matches_any ok ks ck ov vs cv os ss cs rs oe es ce be r1 r2 m st rr ox xs cx bd _ (by omega) HEZ.out (HF2.out.down (by first | exact (Below.refl _ _).drew | exact upl13 (by assumption))) (by omega) HXZ.out (HX2.out.down (by first | exact (Below.refl _ _).drew | exact upl13 (by assumption)))).mono ?_; rintro e w' ⟨he, hb⟩; rw [← HQ.out] at he; subst he) | (go_at_call 18; refine (rmatches_any ok ks ck ov vs cv os ss cs rs oe es ce be r1 r2 m st rr ox xs cx bd _ (by omega) HEZ.out (HF2.out.down (by first | exact (Below.refl _ _).drew | exact upl13 (by assumption))) (by omega) HXZ.out (HX2.out.down (by first | exact (Below.refl _ _).drew | exact upl13 (by assumption)))).mono ?_; rintro e w' ⟨he, hb⟩; rw [← HQ.out] at he; subst he) | (go_at_call 13; refine (awake29_any _).mono ?_; rintro e w' ⟨rfl, hb⟩))
      all_goals
        have hq : Below w2.heap.size w2 _ := upl13 (by assumption)
        go_wp2_with fail
        go_ret
        exact ⟨rfl, step_b b2 hq⟩
end Go.Proofs.YtglckhljpjcmaaaDoor
