/- The walk of UpdateKeeps (law 29). Printed by gen_updl.py. -/
import Derived.Test.YtglckhljpjcmaaaDoorUpdY
namespace Go.Proofs.YtglckhljpjcmaaaDoor
open Go.RowKit Go.Shelf
set_option linter.unusedSimpArgs false

def StrsOut (L : List ByteArray) (w : World) (e : Ending) (w' : World) : Prop := ∃ (ob : Option Addr) (cb : Nat), e = .returned (.slice ob L.length cb) ∧ StrO w' ob L ∧ Below w.heap.size w w'
theorem rget_str (oa : Option Addr) (xs : List Fd) (cap : Nat) (s : ByteArray) (w : World) (hs : s.size ≤ 100000) (hn : xs.length ≤ 100000) (hz : FldZ xs 100000) (hc : FldO w oa xs) : Calls Tryd.prog 12 #[.slice oa xs.length cap, .string s] w (StrsOut (getF (bs s) xs) w) :=
  (rget_any oa xs cap s w hs hn hz hc).mono fun e w' h => by
    obtain ⟨v, rfl, SB, hb⟩ := h
    obtain ⟨ob, cb, rfl, so⟩ := StrO.ofS SB
    exact ⟨ob, cb, rfl, so, hb⟩
set_option maxHeartbeats 12800000 in
set_option maxRecDepth 100000 in
theorem keeps_walk (ok : Option Addr) (ks : List (List ByteArray)) (ck : Nat) (ov : Option Addr) (vs : List ByteArray) (cv : Nat) (os : Option Addr) (ss : List ByteArray) (cs : Nat) (rs : ByteArray) (oe : Option Addr) (es : List Fd) (ce : Nat) (be : ByteArray) (r1 r2 : Int) (m st : Int) (rr : ByteArray) (ox : Option Addr) (xs : List Fd) (cx : Nat) (bd : ByteArray) (rq rc : Int) (name : ByteArray) (w : World)
    (hk1 : MatO w ok ks) (hk2 : MatZ ks bigN bigN) (hk3 : ks.length ≤ bigN) (hv1 : StrO w ov vs) (hv2 : ∀ x ∈ vs, x.size ≤ bigN) (hv3 : vs.length ≤ bigN) (hs1 : StrO w os ss) (hs2 : ∀ x ∈ ss, x.size ≤ bigN) (hs3 : ss.length ≤ bigN) (_ : rs.size ≤ bigN) (hf1 : FldO w oe es) (hf3 : es.length ≤ bigN) (_ : be.size ≤ bigN) (_ : (Lit.int .i64 r1).wf = true) (_ : (Lit.int .i64 r2).wf = true) (hn : xs.length ≤ bigN) (_ : rr.size ≤ bigN) (_ : bd.size ≤ bigN) (hc : FldO w ox xs) (_ : (Lit.int .i64 rq).wf = true) (_ : (Lit.int .i64 rc).wf = true) (hnm : name.size ≤ bigN) :
    Calls Tryd.prog 3 #[entV8 ok ks.length ck ov vs.length cv os ss.length cs rs oe es.length ce be r1 r2, respV m st rr ox xs.length cx bd, .int .i64 rq, .int .i64 rc, .string name] w fun e w' => e = .returned (.bool true) ∧ Below w.heap.size w w' := by
  obtain ⟨R0, R1, b0⟩ := rows2 w (entC8 ok ks.length ck ov vs.length cv os ss.length cs rs oe es.length ce be r1 r2) 26 (respC m st rr ox xs.length cx bd) 28
  have HX := Lib.hid hc
  have hn9 : xs.length ≤ 9223372036854775807 := hn
  have hnm9 : name.size ≤ 9223372036854775807 := hnm
  have HK := Lib.hid hk1
  have HV := Lib.hid hv1
  have HS := Lib.hid hs1
  have HF := Lib.hid hf1
  have HKE := fun (wl : World) (hb : Below w.heap.size w wl) => keepE_any ok ks ck ov vs cv os ss cs rs oe es ce be r1 r2 wl (hk1.down hb) hk2 hk3 (hv1.down hb) hv2 hv3 (hs1.down hb) hs2 hs3 (hf1.down hb) hf3
  have HKH := Lib.hid HKE
  clear hc hf1 HKE hk1 hk2 hv1 hv2 hs1 hs2 hnm
  go_enter Tryd.func3, Tryd.ntmps3
  go_wp2_with fail
  refine (HKH.out _ b0).mono ?_
  rintro e w1 ⟨b, rfl, hb1, hbz⟩
  have b1 := step_b b0 hb1
  have E1 := R0.below hb1
  have P1 := R1.below hb1
  clear R0 R1 b0 hb1 HKH
  cases b with
  | false =>
    clear hbz E1 P1
    go_wp2_with fail
    go_ret
    exact ⟨rfl, b1⟩
  | true =>
    obtain ⟨⟨hkl, hkz⟩, ⟨hvl, _⟩, ⟨hsl, _⟩, _, _, hne70, hze⟩ := hbz rfl
    clear hbz
    have HKZ : Hid (MatZ ks 1000 1000) := Lib.hid fun r hr => ⟨by have := (hkz r hr).1; omega, fun x hx => by have := (hkz r hr).2 x hx; omega⟩
    have HEZ : Hid (FldZ es 100000) := Lib.hid fun x hx => by have := hze x hx; omega
    clear hkz hze
    have d0 := P1.cell 0 rfl
    have d1 := P1.cell 1 rfl
    have d2 := P1.cell 2 rfl
    have d3 := P1.cell 3 rfl
    have d4 := P1.cell 4 rfl
    have HX1 := Lib.hid (HX.out.down b1)
    go_wp2_with fail
    refine (keepR_any m st rr ox xs cx bd w1 hn9 HX1.out).mono ?_
    rintro e w2 ⟨he, hb2⟩
    have b2 := step_b b1 hb2
    have E2 := E1.below hb2
    have P2 := P1.below hb2
    clear d0 d1 d2 d3 d4 E1 P1 HX1 hb2 b1
    cases hq : keepRB rr bd xs with
    | false =>
      rw [hq] at he
      subst he
      clear hq E2 P2
      go_wp2_with fail
      go_ret
      exact ⟨rfl, b2⟩
    | true =>
      rw [hq] at he
      subst he
      obtain ⟨_, hn70, hzx, _⟩ : rr.size ≤ 2100 ∧ xs.length ≤ 70 ∧ FldZ xs 300 ∧ bd.size ≤ 2000 := by
        unfold keepRB at hq
        simp only [Bool.and_eq_true, decide_eq_true_eq] at hq
        exact ⟨hq.1.1, (fieldsB_true hq.1.2).1, (fieldsB_true hq.1.2).2, hq.2⟩
      have HXZ : Hid (FldZ xs 100000) := Lib.hid fun x hx => by have := hzx x hx; omega
      clear hq hzx
      obtain ⟨us, hus⟩ : ∃ us, us = updL es xs := ⟨_, rfl⟩
      have hul : us.length ≤ 200 := by rw [hus]; have := upd_len es xs; omega
      have HUZ : Hid (FldZ us 100000) := Lib.hid (by rw [hus]; exact upd_z HEZ.out HXZ.out)
      have HRF : Hid (∀ (ok : Option Addr) (ck : Nat) (ov : Option Addr) (cv : Nat) (os : Option Addr) (cs : Nat) (oe : Option Addr) (ce : Nat) (W : World), MatO W ok ks → StrO W ov vs → StrO W os ss → FldO W oe es → FldO W ox xs → Calls Tryd.prog 7 #[entV8 ok ks.length ck ov vs.length cv os ss.length cs rs oe es.length ce be r1 r2, respV m st rr ox xs.length cx bd, .int .i64 rq, .int .i64 rc] W (EntOut ks vs ss rs us be rq rc W)) := Lib.hid (fun ok ck ov cv os cs oe ce W h1 h2 h3 h4 h5 => by
        rw [hus]
        exact refresh_any ok ks ck ov vs cv os ss cs rs oe es ce be r1 r2 m st rr ox xs cx bd rq rc W h1 HKZ.out (by omega) h2 (by omega) h3 (by omega) h4 (by omega) HEZ.out h5 (by omega) HXZ.out)
      have HK2 := Lib.hid (HK.out.down b2)
      have HV2 := Lib.hid (HV.out.down b2)
      have HS2 := Lib.hid (HS.out.down b2)
      have HF2 := Lib.hid (HF.out.down b2)
      have HX2 := Lib.hid (HX.out.down b2)
      have e0 := E2.cell 0 rfl
      have e1 := E2.cell 1 rfl
      have e2 := E2.cell 2 rfl
      have e3 := E2.cell 3 rfl
      have e4 := E2.cell 4 rfl
      have e5 := E2.cell 5 rfl
      have e6 := E2.cell 6 rfl
      have e7 := E2.cell 7 rfl
      have p0 := P2.cell 0 rfl
      have p1 := P2.cell 1 rfl
      have p2 := P2.cell 2 rfl
      have p3 := P2.cell 3 rfl
      have p4 := P2.cell 4 rfl
      have HCT : Hid (∀ (n : ByteArray), n ∈ [nCT, nCE] → getF (bs n) us = getF (bs n) es) := Lib.hid fun n hn => by
        rw [hus]
        simp only [List.mem_cons, List.not_mem_nil, or_false] at hn
        rcases hn with rfl | rfl
        · exact keeps_ct es xs
        · exact keeps_ce es xs
      have HNM : Hid (decide (0 < (getF (bs name) xs).length) = false → foldB (bs name) (bs nAge) = false → getF (bs name) us = getF (bs name) es) := Lib.hid fun h1 h2 => by
        rw [hus]; exact keeps_name (of_decide_eq_false h1) h2
      clear hus HK HV HS HF HX
      by_cases hnl : name.size ≤ 100
      · go_wp2_with fail
        refine (HRF.out ok ck ov cv os cs oe ce _ HK2.out HV2.out HS2.out HF2.out HX2.out).mono ?_
        rintro e w3 ⟨okF, ckF, ovF, cvF, osF, csF, oF, cF, rfl, XF, hb3⟩
        have a4 := alloc_b w3 (.cells (entC8 okF ks.length ckF ovF vs.length cvF osF ss.length csF rs oF us.length cF be rq rc).toArray 26)
        have N4 := RowAt.new w3 (entC8 okF ks.length ckF ovF vs.length cvF osF ss.length csF rs oF us.length cF be rq rc) 26
        have E4 := (E2.below hb3).below a4
        have P4 := (P2.below hb3).below a4
        have b4 := step_b (step_b b2 hb3) a4
        have b24 := step_b hb3 a4
        have HX4 := Lib.hid (HX2.out.down b24)
        have HK4 := Lib.hid (HK2.out.down b24)
        have HV4 := Lib.hid (HV2.out.down b24)
        have HS4 := Lib.hid (HS2.out.down b24)
        have HF4 := Lib.hid (HF2.out.down b24)
        have HFK := Lib.hid (XF.1.mat.down a4)
        have HFV := Lib.hid (XF.2.1.str.down a4)
        have HFS := Lib.hid (XF.2.2.1.str.down a4)
        have HFF := Lib.hid (XF.2.2.2.fld.down a4)
        clear e0 e1 e2 e3 e4 e5 e6 e7 p0 p1 p2 p3 p4 E2 P2 b2 hb3 XF a4 b24 HRF HK2 HV2 HS2 HF2 HX2
        have n0 := N4.cell 0 rfl
        have n3 := N4.cell 3 rfl
        have n5 := N4.cell 5 rfl
        have e0 := E4.cell 0 rfl
        have e3 := E4.cell 3 rfl
        have e5 := E4.cell 5 rfl
        go_wp2_with fail
        generalize w3.alloc (.cells (entC8 okF ks.length ckF ovF vs.length cvF osF ss.length csF rs oF us.length cF be rq rc).toArray 26) = w4 at *
        generalize w3.heap.size = gF at *
        refine (samekeys_any okF ok ks ckF ck _ HFK.out HK4.out HKZ.out (by omega)).mono ?_
        rintro e w5 ⟨rfl, hb5⟩
        have N5 := N4.below hb5
        have E5 := E4.below hb5
        have P5 := P4.below hb5
        have b5 := step_b b4 hb5
        have n1 := N5.cell 1 rfl
        have e1 := E5.cell 1 rfl
        have HV5 := Lib.hid (HV4.out.down hb5)
        have HFV5 := Lib.hid (HFV.out.down hb5)
        have HS5 := Lib.hid (HS4.out.down hb5)
        have HFS5 := Lib.hid (HFS.out.down hb5)
        have HF5 := Lib.hid (HF4.out.down hb5)
        have HFF5 := Lib.hid (HFF.out.down hb5)
        have HX5 := Lib.hid (HX4.out.down hb5)
        clear n0 n3 n5 e0 e3 e5 N4 E4 P4 b4 hb5 HK4 HV4 HS4 HF4 HX4 HFK HFV HFS HFF
        go_wp2_with fail
        refine (ksamestr_any ovF ov vs cvF cv _ HFV5.out HV5.out (by omega)).mono ?_
        rintro e w6 ⟨rfl, hb6⟩
        have N6 := N5.below hb6
        have E6 := E5.below hb6
        have P6 := P5.below hb6
        have b6 := step_b b5 hb6
        have n2 := N6.cell 2 rfl
        have e2 := E6.cell 2 rfl
        have HS6 := Lib.hid (HS5.out.down hb6)
        have HFS6 := Lib.hid (HFS5.out.down hb6)
        have HF6 := Lib.hid (HF5.out.down hb6)
        have HFF6 := Lib.hid (HFF5.out.down hb6)
        have HX6 := Lib.hid (HX5.out.down hb6)
        clear n1 e1 N5 E5 P5 b5 hb6 HV5 HFV5 HS5 HFS5 HF5 HFF5 HX5
        go_wp2_with fail
        refine (ksamestr_any osF os ss csF cs _ HFS6.out HS6.out (by omega)).mono ?_
        rintro e w7 ⟨rfl, hb7⟩
        have N7 := N6.below hb7
        have E7 := E6.below hb7
        have P7 := P6.below hb7
        have b7 := step_b b6 hb7
        have n4 := N7.cell 4 rfl
        have n6 := N7.cell 6 rfl
        have n7 := N7.cell 7 rfl
        have e4 := E7.cell 4 rfl
        have p3 := P7.cell 3 rfl
        have HF7 := Lib.hid (HF6.out.down hb7)
        have HFF7 := Lib.hid (HFF6.out.down hb7)
        have HX7 := Lib.hid (HX6.out.down hb7)
        clear n2 e2 N6 E6 P6 b6 hb7 HS6 HFS6 HF6 HFF6 HX6
        have h7 : Below w7.heap.size w7 w7.drew := (Below.refl _ _).drew
        cases hh : decide (0 < (getF (bs name) xs).length) with
        | true =>
          have HH := Lib.hid hh
          clear hh HNM h7
          go_wp2_with fail
          refine wp_region_held_drew (S := fun w' => w'.cell? ⟨w.heap.size + 1, 3, none⟩ = some (.slice ox xs.length cx) ∧ w'.cell? ⟨gF, 4, none⟩ = some (.slice oF us.length cF) ∧ w'.cell? ⟨w.heap.size, 4, none⟩ = some (.slice oe es.length ce) ∧ Below w7.heap.size w7 w') (by kernel_rfl) ⟨p3, n4, e4, (Below.refl _ _).drew⟩ (fun hH => ?_)
          generalize w7.drew = y1 at *
          refine wpAnyH_takeD (i := 0) (v := .pointer (some ⟨w.heap.size + 1, 3, none⟩)) (d := some 78) rfl rfl (by kernel_rfl) (by kernel_rfl) (by kernel_rfl) (fun _ _ _ h => h) (Or.inl ⟨by kernel_rfl, fun w9 h9 => by go_simp⟩) hH ?_
          try simp only [Act.put, List.setIfInBounds_toArray, List.set_cons_zero, List.set_cons_succ]
          refine wpAnyH_takeD (i := 1) (v := .slice ox xs.length cx) (d := some 79) rfl rfl (by kernel_rfl) (by kernel_rfl) (by kernel_rfl) (fun _ _ _ h => h) (Or.inl ⟨by kernel_rfl, fun w9 h9 => by have c9 := h9.1; go_simp⟩) hH ?_
          try simp only [Act.put, List.setIfInBounds_toArray, List.set_cons_zero, List.set_cons_succ]
          refine wpAnyH_takeD (i := 2) (v := .string name) (d := some 80) rfl rfl (by kernel_rfl) (by kernel_rfl) (by kernel_rfl) (fun _ _ _ h => h) (Or.inl ⟨by kernel_rfl, fun w9 h9 => by go_simp⟩) hH ?_
          try simp only [Act.put, List.setIfInBounds_toArray, List.set_cons_zero, List.set_cons_succ]
          refine wpAnyH_ready (rs := [3]) (by kernel_rfl) (by simp) ?_
          refine AllReadyH.cons rfl (fun K hK => ?_) AllReadyH.nil
          go_simp
          go_at_call 10
          refine (rhas_any ox xs cx name _ (by omega) (by omega) HXZ.out (HX7.out.down (upl3 hH))).mono ?_
          rintro e w' ⟨he, hb⟩
          rw [HH.out] at he
          subst he
          have hS := upk3 hH hb
          clear hb hH
          refine hK.out _ _ hS (fun hH => ?_)
          clear hK K hS
          try simp only [Act.put, List.setIfInBounds_toArray, List.set_cons_zero, List.set_cons_succ]
          refine wpAnyH_takeD (i := 4) (v := .bool false) (d := some 82) rfl rfl (by kernel_rfl) (by kernel_rfl) (by kernel_rfl) (fun _ _ _ h => h) (Or.inl ⟨by kernel_rfl, fun w9 h9 => by go_simp⟩) hH ?_
          try simp only [Act.put, List.setIfInBounds_toArray, List.set_cons_zero, List.set_cons_succ]
          refine wpAnyH_takeD (i := 5) (v := .bool false) (d := some 83) rfl rfl (by kernel_rfl) (by kernel_rfl) (by kernel_rfl) (fun _ _ _ h => h) (Or.inl ⟨by kernel_rfl, fun w9 h9 => by go_simp⟩) hH ?_
          try simp only [Act.put, List.setIfInBounds_toArray, List.set_cons_zero, List.set_cons_succ]
          refine wpAnyH_takeD (i := 6) (v := undef) (d := some 84) rfl rfl (by kernel_rfl) (by kernel_rfl) (by kernel_rfl) (fun _ _ _ h => h) (Or.inr ⟨by kernel_rfl, rfl⟩) hH ?_
          try simp only [Act.put, List.setIfInBounds_toArray, List.set_cons_zero, List.set_cons_succ]
          refine wpAnyH_takeD (i := 7) (v := undef) (d := some 85) rfl rfl (by kernel_rfl) (by kernel_rfl) (by kernel_rfl) (fun _ _ _ h => h) (Or.inr ⟨by kernel_rfl, rfl⟩) hH ?_
          try simp only [Act.put, List.setIfInBounds_toArray, List.set_cons_zero, List.set_cons_succ]
          refine wpAnyH_takeD (i := 8) (v := undef) (d := some 86) rfl rfl (by kernel_rfl) (by kernel_rfl) (by kernel_rfl) (fun _ _ _ h => h) (Or.inr ⟨by kernel_rfl, rfl⟩) hH ?_
          try simp only [Act.put, List.setIfInBounds_toArray, List.set_cons_zero, List.set_cons_succ]
          refine wpAnyH_takeD (i := 9) (v := .bool false) (d := some 87) rfl rfl (by kernel_rfl) (by kernel_rfl) (by kernel_rfl) (fun _ _ _ h => h) (Or.inl ⟨by kernel_rfl, fun w9 h9 => by go_simp⟩) hH ?_
          try simp only [Act.put, List.setIfInBounds_toArray, List.set_cons_zero, List.set_cons_succ]
          refine wpAnyH_takeD (i := 10) (v := .bool false) (d := some 88) rfl rfl (by kernel_rfl) (by kernel_rfl) (by kernel_rfl) (fun _ _ _ h => h) (Or.inl ⟨by kernel_rfl, fun w9 h9 => by go_simp⟩) hH ?_
          try simp only [Act.put, List.setIfInBounds_toArray, List.set_cons_zero, List.set_cons_succ]
          refine wpAnyH_takeD (i := 11) (v := undef) (d := some 89) rfl rfl (by kernel_rfl) (by kernel_rfl) (by kernel_rfl) (fun _ _ _ h => h) (Or.inr ⟨by kernel_rfl, rfl⟩) hH ?_
          try simp only [Act.put, List.setIfInBounds_toArray, List.set_cons_zero, List.set_cons_succ]
          refine wpAnyH_takeD (i := 12) (v := undef) (d := some 90) rfl rfl (by kernel_rfl) (by kernel_rfl) (by kernel_rfl) (fun _ _ _ h => h) (Or.inr ⟨by kernel_rfl, rfl⟩) hH ?_
          try simp only [Act.put, List.setIfInBounds_toArray, List.set_cons_zero, List.set_cons_succ]
          refine wpAnyH_takeD (i := 13) (v := undef) (d := some 91) rfl rfl (by kernel_rfl) (by kernel_rfl) (by kernel_rfl) (fun _ _ _ h => h) (Or.inr ⟨by kernel_rfl, rfl⟩) hH ?_
          try simp only [Act.put, List.setIfInBounds_toArray, List.set_cons_zero, List.set_cons_succ]
          refine wpAnyH_takeD (i := 14) (v := undef) (d := some 92) rfl rfl (by kernel_rfl) (by kernel_rfl) (by kernel_rfl) (fun _ _ _ h => h) (Or.inr ⟨by kernel_rfl, rfl⟩) hH ?_
          try simp only [Act.put, List.setIfInBounds_toArray, List.set_cons_zero, List.set_cons_succ]
          refine wpAnyH_takeD (i := 15) (v := undef) (d := some 93) rfl rfl (by kernel_rfl) (by kernel_rfl) (by kernel_rfl) (fun _ _ _ h => h) (Or.inr ⟨by kernel_rfl, rfl⟩) hH ?_
          try simp only [Act.put, List.setIfInBounds_toArray, List.set_cons_zero, List.set_cons_succ]
          refine wpAnyH_takeD (i := 16) (v := undef) (d := some 94) rfl rfl (by kernel_rfl) (by kernel_rfl) (by kernel_rfl) (fun _ _ _ h => h) (Or.inr ⟨by kernel_rfl, rfl⟩) hH ?_
          try simp only [Act.put, List.setIfInBounds_toArray, List.set_cons_zero, List.set_cons_succ]
          refine wpAnyH_takeD (i := 17) (v := undef) (d := some 95) rfl rfl (by kernel_rfl) (by kernel_rfl) (by kernel_rfl) (fun _ _ _ h => h) (Or.inr ⟨by kernel_rfl, rfl⟩) hH ?_
          try simp only [Act.put, List.setIfInBounds_toArray, List.set_cons_zero, List.set_cons_succ]
          refine wpAnyH_takeD (i := 18) (v := undef) (d := some 96) rfl rfl (by kernel_rfl) (by kernel_rfl) (by kernel_rfl) (fun _ _ _ h => h) (Or.inr ⟨by kernel_rfl, rfl⟩) hH ?_
          try simp only [Act.put, List.setIfInBounds_toArray, List.set_cons_zero, List.set_cons_succ]
          refine wpAnyH_takeD (i := 19) (v := undef) (d := some 97) rfl rfl (by kernel_rfl) (by kernel_rfl) (by kernel_rfl) (fun _ _ _ h => h) (Or.inr ⟨by kernel_rfl, rfl⟩) hH ?_
          try simp only [Act.put, List.setIfInBounds_toArray, List.set_cons_zero, List.set_cons_succ]
          refine wpAnyH_takeD (i := 20) (v := undef) (d := some 98) rfl rfl (by kernel_rfl) (by kernel_rfl) (by kernel_rfl) (fun _ _ _ h => h) (Or.inr ⟨by kernel_rfl, rfl⟩) hH ?_
          try simp only [Act.put, List.setIfInBounds_toArray, List.set_cons_zero, List.set_cons_succ]
          refine wpAnyH_takeD (i := 21) (v := .bool false) (d := some 99) rfl rfl (by kernel_rfl) (by kernel_rfl) (by kernel_rfl) (fun _ _ _ h => h) (Or.inl ⟨by kernel_rfl, fun w9 h9 => by go_simp⟩) hH ?_
          try simp only [Act.put, List.setIfInBounds_toArray, List.set_cons_zero, List.set_cons_succ]
          refine wpAnyH_done (by kernel_rfl) ?_ _
          obtain ⟨_, j4, k4, d8⟩ := hH
          clear p3 n4 e4 n6 n7 N7 E7 P7
          generalize w' = w8 at *
          have HF8 := Lib.hid (HF7.out.down d8)
          have HFF8 := Lib.hid (HFF7.out.down d8)
          have HT1 : Hid (∀ (W : World), FldO W oF us → Calls Tryd.prog 12 #[.slice oF us.length cF, .string nCT] W (StrsOut (getF (bs nCT) es) W)) := Lib.hid fun W hW => by
            rw [← HCT.out nCT (by simp)]
            exact rget_str oF us cF nCT W (by decide) (by omega) HUZ.out hW
          have HT2 : Hid (∀ (W : World), FldO W oF us → Calls Tryd.prog 12 #[.slice oF us.length cF, .string nCE] W (StrsOut (getF (bs nCE) es) W)) := Lib.hid fun W hW => by
            rw [← HCT.out nCE (by simp)]
            exact rget_str oF us cF nCE W (by decide) (by omega) HUZ.out hW
          have HT3 : Hid (∀ (W : World), FldO W oe es → Calls Tryd.prog 12 #[.slice oe es.length ce, .string nCT] W (StrsOut (getF (bs nCT) es) W)) := Lib.hid fun W hW => by
            exact rget_str oe es ce nCT W (by decide) (by omega) HEZ.out hW
          have HT4 : Hid (∀ (W : World), FldO W oe es → Calls Tryd.prog 12 #[.slice oe es.length ce, .string nCE] W (StrsOut (getF (bs nCE) es) W)) := Lib.hid fun W hW => by
            exact rget_str oe es ce nCE W (by decide) (by omega) HEZ.out hW
          clear HF7 HFF7 HX7 HCT HH
          go_wp2_with fail
          go_region_held3 (fun w' => w'.cell? ⟨gF, 4, none⟩ = some (.slice oF us.length cF) ∧ w'.cell? ⟨w.heap.size, 4, none⟩ = some (.slice oe es.length ce) ∧ Below w8.heap.size w8 w') (first | assumption | exact ⟨j4, k4, (Below.refl _ _).drew⟩ | (exact upk2 (by first | assumption | exact ⟨j4, k4, (Below.refl _ _).drew⟩) hb)) (first | (go_at_call 12; (with_reducible refine (HT1.out _ (HFF8.out.down (by first | exact (Below.refl _ _).drew | exact upl2 (by assumption)))).mono ?_); rintro e w' ⟨ob1, cb1, rfl, G1, hb⟩) | (go_at_call 12; (with_reducible refine (HT3.out _ (HF8.out.down (by first | exact (Below.refl _ _).drew | exact upl2 (by assumption)))).mono ?_); rintro e w' ⟨ob2, cb2, rfl, G2, hb⟩; have G1 := G1.down hb) | (go_at_call 12; (with_reducible refine (HT2.out _ (HFF8.out.down (by first | exact (Below.refl _ _).drew | exact upl2 (by assumption)))).mono ?_); rintro e w' ⟨ob1, cb1, rfl, G1, hb⟩) | (go_at_call 12; (with_reducible refine (HT4.out _ (HF8.out.down (by first | exact (Below.refl _ _).drew | exact upl2 (by assumption)))).mono ?_); rintro e w' ⟨ob2, cb2, rfl, G2, hb⟩; have G1 := G1.down hb) | (go_at_call 9; refine (ksamestr_any _ _ _ _ _ _ G1 G2 (Nat.le_trans (getF_len _ _) (by omega))).mono ?_; rintro e w' ⟨rfl, hb⟩) | (go_at_call 13; refine (awake29_any _).mono ?_; rintro e w' ⟨rfl, hb⟩))
          all_goals
            have hq := upl2 (w3 := w8) (by assumption)
            go_wp2_with fail
            go_ret
            exact ⟨rfl, step_b (step_b b7 d8) hq⟩
        | false =>
          cases ha : foldB (bs name) (bs nAge) with
          | true =>
            have HH := Lib.hid hh
            have HA := Lib.hid ha
            clear hh HNM h7 ha
            go_wp2_with fail
            refine wp_region_held_drew (S := fun w' => w'.cell? ⟨w.heap.size + 1, 3, none⟩ = some (.slice ox xs.length cx) ∧ w'.cell? ⟨gF, 4, none⟩ = some (.slice oF us.length cF) ∧ w'.cell? ⟨w.heap.size, 4, none⟩ = some (.slice oe es.length ce) ∧ Below w7.heap.size w7 w') (by kernel_rfl) ⟨p3, n4, e4, (Below.refl _ _).drew⟩ (fun hH => ?_)
            generalize w7.drew = y1 at *
            refine wpAnyH_takeD (i := 0) (v := .pointer (some ⟨w.heap.size + 1, 3, none⟩)) (d := some 78) rfl rfl (by kernel_rfl) (by kernel_rfl) (by kernel_rfl) (fun _ _ _ h => h) (Or.inl ⟨by kernel_rfl, fun w9 h9 => by go_simp⟩) hH ?_
            try simp only [Act.put, List.setIfInBounds_toArray, List.set_cons_zero, List.set_cons_succ]
            refine wpAnyH_takeD (i := 1) (v := .slice ox xs.length cx) (d := some 79) rfl rfl (by kernel_rfl) (by kernel_rfl) (by kernel_rfl) (fun _ _ _ h => h) (Or.inl ⟨by kernel_rfl, fun w9 h9 => by have c9 := h9.1; go_simp⟩) hH ?_
            try simp only [Act.put, List.setIfInBounds_toArray, List.set_cons_zero, List.set_cons_succ]
            refine wpAnyH_takeD (i := 2) (v := .string name) (d := some 80) rfl rfl (by kernel_rfl) (by kernel_rfl) (by kernel_rfl) (fun _ _ _ h => h) (Or.inl ⟨by kernel_rfl, fun w9 h9 => by go_simp⟩) hH ?_
            try simp only [Act.put, List.setIfInBounds_toArray, List.set_cons_zero, List.set_cons_succ]
            refine wpAnyH_ready (rs := [3]) (by kernel_rfl) (by simp) ?_
            refine AllReadyH.cons rfl (fun K hK => ?_) AllReadyH.nil
            go_simp
            go_at_call 10
            refine (rhas_any ox xs cx name _ (by omega) (by omega) HXZ.out (HX7.out.down (upl3 hH))).mono ?_
            rintro e w' ⟨he, hb⟩
            rw [HH.out] at he
            subst he
            have hS := upk3 hH hb
            clear hb hH
            refine hK.out _ _ hS (fun hH => ?_)
            clear hK K hS
            try simp only [Act.put, List.setIfInBounds_toArray, List.set_cons_zero, List.set_cons_succ]
            refine wpAnyH_takeD (i := 4) (v := .bool true) (d := some 82) rfl rfl (by kernel_rfl) (by kernel_rfl) (by kernel_rfl) (fun _ _ _ h => h) (Or.inl ⟨by kernel_rfl, fun w9 h9 => by go_simp⟩) hH ?_
            try simp only [Act.put, List.setIfInBounds_toArray, List.set_cons_zero, List.set_cons_succ]
            refine wpAnyH_takeD (i := 5) (v := .bool true) (d := some 83) rfl rfl (by kernel_rfl) (by kernel_rfl) (by kernel_rfl) (fun _ _ _ h => h) (Or.inl ⟨by kernel_rfl, fun w9 h9 => by go_simp⟩) hH ?_
            try simp only [Act.put, List.setIfInBounds_toArray, List.set_cons_zero, List.set_cons_succ]
            refine wpAnyH_takeD (i := 6) (v := .string name) (d := some 84) rfl rfl (by kernel_rfl) (by kernel_rfl) (by kernel_rfl) (fun _ _ _ h => h) (Or.inl ⟨by kernel_rfl, fun w9 h9 => by go_simp⟩) hH ?_
            try simp only [Act.put, List.setIfInBounds_toArray, List.set_cons_zero, List.set_cons_succ]
            refine wpAnyH_ready (rs := [7]) (by kernel_rfl) (by simp) ?_
            refine AllReadyH.cons rfl (fun K hK => ?_) AllReadyH.nil
            go_simp
            go_at_call 11
            refine (rfold_any name nAge _ (by omega) (by decide)).mono ?_
            rintro e w' ⟨he, hb⟩
            rw [HA.out] at he
            subst he
            have hS := upk3 hH hb
            clear hb hH
            refine hK.out _ _ hS (fun hH => ?_)
            clear hK K hS
            try simp only [Act.put, List.setIfInBounds_toArray, List.set_cons_zero, List.set_cons_succ]
            refine wpAnyH_takeD (i := 8) (v := .bool false) (d := some 86) rfl rfl (by kernel_rfl) (by kernel_rfl) (by kernel_rfl) (fun _ _ _ h => h) (Or.inl ⟨by kernel_rfl, fun w9 h9 => by go_simp⟩) hH ?_
            try simp only [Act.put, List.setIfInBounds_toArray, List.set_cons_zero, List.set_cons_succ]
            refine wpAnyH_takeD (i := 9) (v := .bool false) (d := some 87) rfl rfl (by kernel_rfl) (by kernel_rfl) (by kernel_rfl) (fun _ _ _ h => h) (Or.inl ⟨by kernel_rfl, fun w9 h9 => by go_simp⟩) hH ?_
            try simp only [Act.put, List.setIfInBounds_toArray, List.set_cons_zero, List.set_cons_succ]
            refine wpAnyH_takeD (i := 10) (v := .bool false) (d := some 88) rfl rfl (by kernel_rfl) (by kernel_rfl) (by kernel_rfl) (fun _ _ _ h => h) (Or.inl ⟨by kernel_rfl, fun w9 h9 => by go_simp⟩) hH ?_
            try simp only [Act.put, List.setIfInBounds_toArray, List.set_cons_zero, List.set_cons_succ]
            refine wpAnyH_takeD (i := 11) (v := undef) (d := some 89) rfl rfl (by kernel_rfl) (by kernel_rfl) (by kernel_rfl) (fun _ _ _ h => h) (Or.inr ⟨by kernel_rfl, rfl⟩) hH ?_
            try simp only [Act.put, List.setIfInBounds_toArray, List.set_cons_zero, List.set_cons_succ]
            refine wpAnyH_takeD (i := 12) (v := undef) (d := some 90) rfl rfl (by kernel_rfl) (by kernel_rfl) (by kernel_rfl) (fun _ _ _ h => h) (Or.inr ⟨by kernel_rfl, rfl⟩) hH ?_
            try simp only [Act.put, List.setIfInBounds_toArray, List.set_cons_zero, List.set_cons_succ]
            refine wpAnyH_takeD (i := 13) (v := undef) (d := some 91) rfl rfl (by kernel_rfl) (by kernel_rfl) (by kernel_rfl) (fun _ _ _ h => h) (Or.inr ⟨by kernel_rfl, rfl⟩) hH ?_
            try simp only [Act.put, List.setIfInBounds_toArray, List.set_cons_zero, List.set_cons_succ]
            refine wpAnyH_takeD (i := 14) (v := undef) (d := some 92) rfl rfl (by kernel_rfl) (by kernel_rfl) (by kernel_rfl) (fun _ _ _ h => h) (Or.inr ⟨by kernel_rfl, rfl⟩) hH ?_
            try simp only [Act.put, List.setIfInBounds_toArray, List.set_cons_zero, List.set_cons_succ]
            refine wpAnyH_takeD (i := 15) (v := undef) (d := some 93) rfl rfl (by kernel_rfl) (by kernel_rfl) (by kernel_rfl) (fun _ _ _ h => h) (Or.inr ⟨by kernel_rfl, rfl⟩) hH ?_
            try simp only [Act.put, List.setIfInBounds_toArray, List.set_cons_zero, List.set_cons_succ]
            refine wpAnyH_takeD (i := 16) (v := undef) (d := some 94) rfl rfl (by kernel_rfl) (by kernel_rfl) (by kernel_rfl) (fun _ _ _ h => h) (Or.inr ⟨by kernel_rfl, rfl⟩) hH ?_
            try simp only [Act.put, List.setIfInBounds_toArray, List.set_cons_zero, List.set_cons_succ]
            refine wpAnyH_takeD (i := 17) (v := undef) (d := some 95) rfl rfl (by kernel_rfl) (by kernel_rfl) (by kernel_rfl) (fun _ _ _ h => h) (Or.inr ⟨by kernel_rfl, rfl⟩) hH ?_
            try simp only [Act.put, List.setIfInBounds_toArray, List.set_cons_zero, List.set_cons_succ]
            refine wpAnyH_takeD (i := 18) (v := undef) (d := some 96) rfl rfl (by kernel_rfl) (by kernel_rfl) (by kernel_rfl) (fun _ _ _ h => h) (Or.inr ⟨by kernel_rfl, rfl⟩) hH ?_
            try simp only [Act.put, List.setIfInBounds_toArray, List.set_cons_zero, List.set_cons_succ]
            refine wpAnyH_takeD (i := 19) (v := undef) (d := some 97) rfl rfl (by kernel_rfl) (by kernel_rfl) (by kernel_rfl) (fun _ _ _ h => h) (Or.inr ⟨by kernel_rfl, rfl⟩) hH ?_
            try simp only [Act.put, List.setIfInBounds_toArray, List.set_cons_zero, List.set_cons_succ]
            refine wpAnyH_takeD (i := 20) (v := undef) (d := some 98) rfl rfl (by kernel_rfl) (by kernel_rfl) (by kernel_rfl) (fun _ _ _ h => h) (Or.inr ⟨by kernel_rfl, rfl⟩) hH ?_
            try simp only [Act.put, List.setIfInBounds_toArray, List.set_cons_zero, List.set_cons_succ]
            refine wpAnyH_takeD (i := 21) (v := .bool false) (d := some 99) rfl rfl (by kernel_rfl) (by kernel_rfl) (by kernel_rfl) (fun _ _ _ h => h) (Or.inl ⟨by kernel_rfl, fun w9 h9 => by go_simp⟩) hH ?_
            try simp only [Act.put, List.setIfInBounds_toArray, List.set_cons_zero, List.set_cons_succ]
            refine wpAnyH_done (by kernel_rfl) ?_ _
            obtain ⟨_, j4, k4, d8⟩ := hH
            clear p3 n4 e4 n6 n7 N7 E7 P7
            generalize w' = w8 at *
            have HF8 := Lib.hid (HF7.out.down d8)
            have HFF8 := Lib.hid (HFF7.out.down d8)
            have HT1 : Hid (∀ (W : World), FldO W oF us → Calls Tryd.prog 12 #[.slice oF us.length cF, .string nCT] W (StrsOut (getF (bs nCT) es) W)) := Lib.hid fun W hW => by
              rw [← HCT.out nCT (by simp)]
              exact rget_str oF us cF nCT W (by decide) (by omega) HUZ.out hW
            have HT2 : Hid (∀ (W : World), FldO W oF us → Calls Tryd.prog 12 #[.slice oF us.length cF, .string nCE] W (StrsOut (getF (bs nCE) es) W)) := Lib.hid fun W hW => by
              rw [← HCT.out nCE (by simp)]
              exact rget_str oF us cF nCE W (by decide) (by omega) HUZ.out hW
            have HT3 : Hid (∀ (W : World), FldO W oe es → Calls Tryd.prog 12 #[.slice oe es.length ce, .string nCT] W (StrsOut (getF (bs nCT) es) W)) := Lib.hid fun W hW => by
              exact rget_str oe es ce nCT W (by decide) (by omega) HEZ.out hW
            have HT4 : Hid (∀ (W : World), FldO W oe es → Calls Tryd.prog 12 #[.slice oe es.length ce, .string nCE] W (StrsOut (getF (bs nCE) es) W)) := Lib.hid fun W hW => by
              exact rget_str oe es ce nCE W (by decide) (by omega) HEZ.out hW
            clear HF7 HFF7 HX7 HCT HH
            go_wp2_with fail
            go_region_held3 (fun w' => w'.cell? ⟨gF, 4, none⟩ = some (.slice oF us.length cF) ∧ w'.cell? ⟨w.heap.size, 4, none⟩ = some (.slice oe es.length ce) ∧ Below w8.heap.size w8 w') (first | assumption | exact ⟨j4, k4, (Below.refl _ _).drew⟩ | (exact upk2 (by first | assumption | exact ⟨j4, k4, (Below.refl _ _).drew⟩) hb)) (first | (go_at_call 12; (with_reducible refine (HT1.out _ (HFF8.out.down (by first | exact (Below.refl _ _).drew | exact upl2 (by assumption)))).mono ?_); rintro e w' ⟨ob1, cb1, rfl, G1, hb⟩) | (go_at_call 12; (with_reducible refine (HT3.out _ (HF8.out.down (by first | exact (Below.refl _ _).drew | exact upl2 (by assumption)))).mono ?_); rintro e w' ⟨ob2, cb2, rfl, G2, hb⟩; have G1 := G1.down hb) | (go_at_call 12; (with_reducible refine (HT2.out _ (HFF8.out.down (by first | exact (Below.refl _ _).drew | exact upl2 (by assumption)))).mono ?_); rintro e w' ⟨ob1, cb1, rfl, G1, hb⟩) | (go_at_call 12; (with_reducible refine (HT4.out _ (HF8.out.down (by first | exact (Below.refl _ _).drew | exact upl2 (by assumption)))).mono ?_); rintro e w' ⟨ob2, cb2, rfl, G2, hb⟩; have G1 := G1.down hb) | (go_at_call 9; refine (ksamestr_any _ _ _ _ _ _ G1 G2 (Nat.le_trans (getF_len _ _) (by omega))).mono ?_; rintro e w' ⟨rfl, hb⟩) | (go_at_call 13; refine (awake29_any _).mono ?_; rintro e w' ⟨rfl, hb⟩))
            all_goals
              have hq := upl2 (w3 := w8) (by assumption)
              go_wp2_with fail
              go_ret
              exact ⟨rfl, step_b (step_b b7 d8) hq⟩
          | false =>
            have HH := Lib.hid hh
            have HA := Lib.hid ha
            have HGF : Hid (∀ (W : World), FldO W oF us → Calls Tryd.prog 12 #[.slice oF us.length cF, .string name] W (StrsOut (getF (bs name) es) W)) := Lib.hid fun W hW => by
              rw [← HNM.out hh ha]; exact rget_str oF us cF name W (by omega) (by omega) HUZ.out hW
            have HGG : Hid (∀ (W : World), FldO W oe es → Calls Tryd.prog 12 #[.slice oe es.length ce, .string name] W (StrsOut (getF (bs name) es) W)) := Lib.hid fun W hW => rget_str oe es ce name W (by omega) (by omega) HEZ.out hW
            clear hh HNM h7 ha
            go_wp2_with fail
            go_region_held3 (fun w' => w'.cell? ⟨w.heap.size + 1, 3, none⟩ = some (.slice ox xs.length cx) ∧ w'.cell? ⟨gF, 4, none⟩ = some (.slice oF us.length cF) ∧ w'.cell? ⟨w.heap.size, 4, none⟩ = some (.slice oe es.length ce) ∧ Below w7.heap.size w7 w') (first | assumption | exact ⟨p3, n4, e4, (Below.refl _ _).drew⟩ | (exact upk3 (by first | assumption | exact ⟨p3, n4, e4, (Below.refl _ _).drew⟩) hb)) (first | (go_at_call 10; refine (rhas_any ox xs cx name _ (by omega) (by omega) HXZ.out (HX7.out.down (by first | exact (Below.refl _ _).drew | exact upl3 (by assumption)))).mono ?_; rintro e w' ⟨he, hb⟩; rw [HH.out] at he; subst he) | (go_at_call 11; refine (rfold_any name nAge _ (by omega) (by decide)).mono ?_; rintro e w' ⟨he, hb⟩; rw [HA.out] at he; subst he) | (go_at_call 12; (with_reducible refine (HGF.out _ (HFF7.out.down (by first | exact (Below.refl _ _).drew | exact upl3 (by assumption)))).mono ?_); rintro e w' ⟨ob1, cb1, rfl, G1, hb⟩) | (go_at_call 12; (with_reducible refine (HGG.out _ (HF7.out.down (by first | exact (Below.refl _ _).drew | exact upl3 (by assumption)))).mono ?_); rintro e w' ⟨ob2, cb2, rfl, G2, hb⟩; have G1 := G1.down hb) | (go_at_call 9; refine (ksamestr_any _ _ _ _ _ _ G1 G2 (Nat.le_trans (getF_len _ _) (by omega))).mono ?_; rintro e w' ⟨rfl, hb⟩))
            have hH := uph3 (w3 := w7) (w1 := w') (by assumption)
            obtain ⟨_, j4, k4, d8⟩ := hH
            clear p3 n4 e4 n6 n7 N7 E7 P7
            generalize w' = w8 at *
            have HF8 := Lib.hid (HF7.out.down d8)
            have HFF8 := Lib.hid (HFF7.out.down d8)
            have HT1 : Hid (∀ (W : World), FldO W oF us → Calls Tryd.prog 12 #[.slice oF us.length cF, .string nCT] W (StrsOut (getF (bs nCT) es) W)) := Lib.hid fun W hW => by
              rw [← HCT.out nCT (by simp)]
              exact rget_str oF us cF nCT W (by decide) (by omega) HUZ.out hW
            have HT2 : Hid (∀ (W : World), FldO W oF us → Calls Tryd.prog 12 #[.slice oF us.length cF, .string nCE] W (StrsOut (getF (bs nCE) es) W)) := Lib.hid fun W hW => by
              rw [← HCT.out nCE (by simp)]
              exact rget_str oF us cF nCE W (by decide) (by omega) HUZ.out hW
            have HT3 : Hid (∀ (W : World), FldO W oe es → Calls Tryd.prog 12 #[.slice oe es.length ce, .string nCT] W (StrsOut (getF (bs nCT) es) W)) := Lib.hid fun W hW => by
              exact rget_str oe es ce nCT W (by decide) (by omega) HEZ.out hW
            have HT4 : Hid (∀ (W : World), FldO W oe es → Calls Tryd.prog 12 #[.slice oe es.length ce, .string nCE] W (StrsOut (getF (bs nCE) es) W)) := Lib.hid fun W hW => by
              exact rget_str oe es ce nCE W (by decide) (by omega) HEZ.out hW
            clear HF7 HFF7 HX7 HCT HH
            go_wp2_with fail
            go_region_held3 (fun w' => w'.cell? ⟨gF, 4, none⟩ = some (.slice oF us.length cF) ∧ w'.cell? ⟨w.heap.size, 4, none⟩ = some (.slice oe es.length ce) ∧ Below w8.heap.size w8 w') (first | assumption | exact ⟨j4, k4, (Below.refl _ _).drew⟩ | (exact upk2 (by first | assumption | exact ⟨j4, k4, (Below.refl _ _).drew⟩) hb)) (first | (go_at_call 12; (with_reducible refine (HT1.out _ (HFF8.out.down (by first | exact (Below.refl _ _).drew | exact upl2 (by assumption)))).mono ?_); rintro e w' ⟨ob1, cb1, rfl, G1, hb⟩) | (go_at_call 12; (with_reducible refine (HT3.out _ (HF8.out.down (by first | exact (Below.refl _ _).drew | exact upl2 (by assumption)))).mono ?_); rintro e w' ⟨ob2, cb2, rfl, G2, hb⟩; have G1 := G1.down hb) | (go_at_call 12; (with_reducible refine (HT2.out _ (HFF8.out.down (by first | exact (Below.refl _ _).drew | exact upl2 (by assumption)))).mono ?_); rintro e w' ⟨ob1, cb1, rfl, G1, hb⟩) | (go_at_call 12; (with_reducible refine (HT4.out _ (HF8.out.down (by first | exact (Below.refl _ _).drew | exact upl2 (by assumption)))).mono ?_); rintro e w' ⟨ob2, cb2, rfl, G2, hb⟩; have G1 := G1.down hb) | (go_at_call 9; refine (ksamestr_any _ _ _ _ _ _ G1 G2 (Nat.le_trans (getF_len _ _) (by omega))).mono ?_; rintro e w' ⟨rfl, hb⟩) | (go_at_call 13; refine (awake29_any _).mono ?_; rintro e w' ⟨rfl, hb⟩))
            all_goals
              have hq := upl2 (w3 := w8) (by assumption)
              go_wp2_with fail
              go_ret
              exact ⟨rfl, step_b (step_b b7 d8) hq⟩
      · clear e0 e1 e2 e3 e4 e5 e6 e7 p0 p1 p2 p3 p4 E2 P2
        go_wp2_with fail
        go_ret
        exact ⟨rfl, b2⟩
end Go.Proofs.YtglckhljpjcmaaaDoor
