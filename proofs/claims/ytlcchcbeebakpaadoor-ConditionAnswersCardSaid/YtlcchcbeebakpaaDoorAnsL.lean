/- The walks of keep.Request and of ConditionAnswers (law 31). Printed by gen_ansl.py. -/
import Derived.Test.YtlcchcbeebakpaaDoorRRedu
namespace Go.Proofs.YtlcchcbeebakpaaDoor
open Go.RowKit Go.Shelf

def keepQB (m tg bd : ByteArray) (xs : List Fd) : Bool := decide (m.size ≤ 100) && decide (tg.size ≤ 2100) && fieldsB xs && decide (bd.size ≤ 2000)
theorem keepQB_true {m tg bd : ByteArray} {xs : List Fd} (h : keepQB m tg bd xs = true) : m.size ≤ 100 ∧ tg.size ≤ 2100 ∧ bd.size ≤ 2000 ∧ xs.length ≤ 70 ∧ FldZ xs 300 := by
  unfold keepQB at h
  rw [Bool.and_eq_true, Bool.and_eq_true, Bool.and_eq_true, decide_eq_true_eq, decide_eq_true_eq, decide_eq_true_eq] at h
  obtain ⟨⟨⟨h1, h2⟩, h3⟩, h4⟩ := h
  have := fieldsB_true h3
  exact ⟨h1, h2, h4, this.1, this.2⟩
set_option maxHeartbeats 1600000 in
theorem keepQ_any (m tg : ByteArray) (mn : Int) (oa : Option Addr) (xs : List Fd) (cap : Nat) (bd : ByteArray) (w : World) (hn : xs.length ≤ 9223372036854775807) (hc : FldO w oa xs) :
    Calls Tryd.prog 35 #[reqV m tg mn oa xs.length cap bd] w fun e w' => e = .returned (.bool (keepQB m tg bd xs)) ∧ Below w.heap.size w w' := by
  have HC := Lib.hid (hc.down (alloc_b w (.cells (reqC m tg mn oa xs.length cap bd).toArray 54)))
  clear hc
  by_cases h1 : m.size ≤ 100
  · have h1' : decide ((m.size : Int) ≤ 100) = true := by simp; omega
    by_cases h2 : tg.size ≤ 2100
    · have h2' : decide ((tg.size : Int) ≤ 2100) = true := by simp; omega
      cases hf : fieldsB xs with
      | true =>
        have HF := Lib.hid hf
        have HR : Hid (keepQB m tg bd xs = decide ((bd.size : Int) ≤ 2000)) := Lib.hid (by
          unfold keepQB; rw [hf, decide_eq_true h1, decide_eq_true h2]; simp; omega)
        clear hf
        go_enter Tryd.func35, Tryd.ntmps35
        go_wp2_with fail
        refine (keepF_any oa xs cap _ hn HC.out).mono ?_
        rintro e w2 ⟨rfl, hw2⟩
        rw [HF.out]
        subst hw2
        go_wp2_with fail
        go_ret
        exact ⟨by rw [HR.out]; rfl, alloc_b w _⟩
      | false =>
        have HF := Lib.hid hf
        have HR : Hid (keepQB m tg bd xs = false) := Lib.hid (by unfold keepQB; rw [hf]; simp)
        clear hf
        go_enter Tryd.func35, Tryd.ntmps35
        go_wp2_with fail
        refine (keepF_any oa xs cap _ hn HC.out).mono ?_
        rintro e w2 ⟨rfl, hw2⟩
        rw [HF.out]
        subst hw2
        go_wp2_with fail
        go_ret
        exact ⟨by rw [HR.out]; rfl, alloc_b w _⟩
    · have h2' : decide ((tg.size : Int) ≤ 2100) = false := by simp; omega
      have HR : Hid (keepQB m tg bd xs = false) := Lib.hid (by unfold keepQB; rw [decide_eq_false h2]; simp)
      go_enter Tryd.func35, Tryd.ntmps35
      go_wp2_with fail
      go_ret
      exact ⟨by rw [HR.out]; rfl, alloc_b w _⟩
  · have h1' : decide ((m.size : Int) ≤ 100) = false := by simp; omega
    have HR : Hid (keepQB m tg bd xs = false) := Lib.hid (by unfold keepQB; rw [decide_eq_false h1]; rfl)
    go_enter Tryd.func35, Tryd.ntmps35
    go_wp2_with fail
    go_ret
    exact ⟨by rw [HR.out]; rfl, alloc_b w _⟩
theorem keep11 {w1 w2 w3 : World} {p0 p1 p2 p3 p4 p5 p6 p7 p8 p9 : Addr} {v0 v1 v2 v3 v4 v5 v6 v7 v8 v9 : Value} (h : w1.cell? p0 = some v0 ∧ w1.cell? p1 = some v1 ∧ w1.cell? p2 = some v2 ∧ w1.cell? p3 = some v3 ∧ w1.cell? p4 = some v4 ∧ w1.cell? p5 = some v5 ∧ w1.cell? p6 = some v6 ∧ w1.cell? p7 = some v7 ∧ w1.cell? p8 = some v8 ∧ w1.cell? p9 = some v9 ∧ Below w3.heap.size w3 w1) (hb : Below w1.heap.size w1 w2) : w2.cell? p0 = some v0 ∧ w2.cell? p1 = some v1 ∧ w2.cell? p2 = some v2 ∧ w2.cell? p3 = some v3 ∧ w2.cell? p4 = some v4 ∧ w2.cell? p5 = some v5 ∧ w2.cell? p6 = some v6 ∧ w2.cell? p7 = some v7 ∧ w2.cell? p8 = some v8 ∧ w2.cell? p9 = some v9 ∧ Below w3.heap.size w3 w2 := by
  obtain ⟨h0, h1, h2, h3, h4, h5, h6, h7, h8, h9, hl⟩ := h
  exact ⟨(hb.cell (cell_lt h0)).trans h0, (hb.cell (cell_lt h1)).trans h1, (hb.cell (cell_lt h2)).trans h2, (hb.cell (cell_lt h3)).trans h3, (hb.cell (cell_lt h4)).trans h4, (hb.cell (cell_lt h5)).trans h5, (hb.cell (cell_lt h6)).trans h6, (hb.cell (cell_lt h7)).trans h7, (hb.cell (cell_lt h8)).trans h8, (hb.cell (cell_lt h9)).trans h9, step_b hl hb⟩
theorem last11 {w1 w3 : World} {p0 p1 p2 p3 p4 p5 p6 p7 p8 p9 : Addr} {v0 v1 v2 v3 v4 v5 v6 v7 v8 v9 : Value} (h : w1.cell? p0 = some v0 ∧ w1.cell? p1 = some v1 ∧ w1.cell? p2 = some v2 ∧ w1.cell? p3 = some v3 ∧ w1.cell? p4 = some v4 ∧ w1.cell? p5 = some v5 ∧ w1.cell? p6 = some v6 ∧ w1.cell? p7 = some v7 ∧ w1.cell? p8 = some v8 ∧ w1.cell? p9 = some v9 ∧ Below w3.heap.size w3 w1) : Below w3.heap.size w3 w1 := h.2.2.2.2.2.2.2.2.2.2
set_option maxHeartbeats 12800000 in
set_option maxRecDepth 100000 in
theorem answers_walk (m tg : ByteArray) (mn : Int) (oa : Option Addr) (xs : List Fd) (cap : Nat) (bd : ByteArray) (rm st : Int) (rs : ByteArray) (oe : Option Addr) (es : List Fd) (cape : Nat) (be : ByteArray) (w : World)
    (hn : xs.length ≤ 9223372036854775807) (_ : m.size ≤ 9223372036854775807) (_ : tg.size ≤ 9223372036854775807) (_ : bd.size ≤ 9223372036854775807) (_ : (Lit.int .i64 mn).wf = true) (hc : FldO w oa xs)
    (hne : es.length ≤ 9223372036854775807) (_ : rs.size ≤ 9223372036854775807) (_ : be.size ≤ 9223372036854775807) (hce : FldO w oe es) :
    Calls Tryd.prog 9 #[reqV m tg mn oa xs.length cap bd, respV rm st rs oe es.length cape be] w fun e w' => e = .returned (.bool true) ∧ Below w.heap.size w w' := by
  obtain ⟨R0, R1, b0⟩ := rows2 w (reqC m tg mn oa xs.length cap bd) 54 (respC rm st rs oe es.length cape be) 42
  have HC := Lib.hid (hc.down b0)
  have HE := Lib.hid (hce.down b0)
  clear hc hce
  cases hk : keepQB m tg bd xs with
  | false =>
    have HK := Lib.hid hk
    clear hk
    go_enter Tryd.func9, Tryd.ntmps9
    go_wp2_with fail
    refine (keepQ_any m tg mn oa xs cap bd _ hn HC.out).mono ?_
    rintro e w1 ⟨rfl, hb1⟩
    rw [HK.out]
    go_wp2_with fail
    go_ret
    exact ⟨rfl, step_b b0 hb1⟩
  | true =>
    obtain ⟨_, _, _, hn70, hz⟩ := keepQB_true hk
    have HZ := Lib.hid hz
    have HK := Lib.hid hk
    clear hk hz
    cases hke : keepRB rs be es with
    | false =>
      have HKE := Lib.hid hke
      clear hke
      go_enter Tryd.func9, Tryd.ntmps9
      go_wp2_with fail
      refine (keepQ_any m tg mn oa xs cap bd _ hn HC.out).mono ?_
      rintro e w1 ⟨rfl, hb1⟩
      rw [HK.out]
      have E1 := R1.below hb1
      have c0 := E1.cell 0 rfl
      have c1 := E1.cell 1 rfl
      have c2 := E1.cell 2 rfl
      have c3 := E1.cell 3 rfl
      have c4 := E1.cell 4 rfl
      go_wp2_with fail
      refine (keepR_any rm st rs oe es cape be _ hne (HE.out.down hb1)).mono ?_
      rintro e w2 ⟨rfl, hb2⟩
      rw [HKE.out]
      go_wp2_with fail
      go_ret
      exact ⟨rfl, step_b (step_b b0 hb1) hb2⟩
    | true =>
      have hf : es.length ≤ 70 ∧ FldZ es 300 := by
        unfold keepRB at hke
        rw [Bool.and_eq_true, Bool.and_eq_true] at hke
        exact fieldsB_true hke.1.2
      obtain ⟨hne70, hze⟩ := hf
      have HZE := Lib.hid hze
      have HKE := Lib.hid hke
      have HZ2 : Hid (FldZ xs 100000) := Lib.hid fun x hx => by have := HZ.out x hx; omega
      have HZE2 : Hid (FldZ es 100000) := Lib.hid fun x hx => by have := HZE.out x hx; omega
      have hkl : (es.filter keptB).length ≤ es.length := List.length_filter_le _ _
      clear hke hze
      go_enter Tryd.func9, Tryd.ntmps9
      go_wp2_with fail
      refine (keepQ_any m tg mn oa xs cap bd _ hn HC.out).mono ?_
      rintro e w1 ⟨rfl, hb1⟩
      rw [HK.out]
      have E1 := R1.below hb1
      have Q1 := R0.below hb1
      have c0 := E1.cell 0 rfl
      have c1 := E1.cell 1 rfl
      have c2 := E1.cell 2 rfl
      have c3 := E1.cell 3 rfl
      have c4 := E1.cell 4 rfl
      go_wp2_with fail
      refine (keepR_any rm st rs oe es cape be _ hne (HE.out.down hb1)).mono ?_
      rintro e w2 ⟨rfl, hb2⟩
      rw [HKE.out]
      have b2 := step_b (step_b b0 hb1) hb2
      have HC2 := Lib.hid ((HC.out.down hb1).down hb2)
      have HE2 := Lib.hid ((HE.out.down hb1).down hb2)
      have E2 := E1.below hb2
      have Q2 := Q1.below hb2
      clear c0 c1 c2 c3 c4 hb1 hb2 E1 Q1 R0 R1 HC HE b0
      have a0 := Q2.cell 0 rfl
      have a1 := Q2.cell 1 rfl
      have a2 := Q2.cell 2 rfl
      have a3 := Q2.cell 3 rfl
      have a4 := Q2.cell 4 rfl
      have c0 := E2.cell 0 rfl
      have c1 := E2.cell 1 rfl
      have c2 := E2.cell 2 rfl
      have c3 := E2.cell 3 rfl
      have c4 := E2.cell 4 rfl
      obtain ⟨nm, hnm⟩ : ∃ nm, nm = nmB m st xs es := ⟨_, rfl⟩
      have HNM := Lib.hid hnm
      obtain ⟨ys, hys⟩ : ∃ ys, ys = es.filter keptB := ⟨_, rfl⟩
      rw [← hys] at hkl
      have HYS := Lib.hid hys
      have HRED := Lib.hid (fun (wl : World) (h : FldO wl oe es) => reduce_any rm st rs oe es cape be wl hne70 HZE.out h)
      have HRRED := Lib.hid (fun (wl : World) (h : FldO wl oe es) => rreduce_any rm st rs oe es cape be wl hne70 HZE.out h)
      rw [← hys] at HRED HRRED
      clear hnm hys E2 Q2
      go_wp2_with fail
      go_region_held3 (fun w' => w'.cell? ⟨w.heap.size, 0, none⟩ = some (.string m) ∧ w'.cell? ⟨w.heap.size, 1, none⟩ = some (.string tg) ∧ w'.cell? ⟨w.heap.size, 2, none⟩ = some (.int .i64 mn) ∧ w'.cell? ⟨w.heap.size, 3, none⟩ = some (.slice oa xs.length cap) ∧ w'.cell? ⟨w.heap.size, 4, none⟩ = some (.string bd) ∧ w'.cell? ⟨w.heap.size + 1, 0, none⟩ = some (.int .i64 rm) ∧ w'.cell? ⟨w.heap.size + 1, 1, none⟩ = some (.int .i64 st) ∧ w'.cell? ⟨w.heap.size + 1, 2, none⟩ = some (.string rs) ∧ w'.cell? ⟨w.heap.size + 1, 3, none⟩ = some (.slice oe es.length cape) ∧ w'.cell? ⟨w.heap.size + 1, 4, none⟩ = some (.string be) ∧ Below w2.heap.size w2 w') (first | assumption | exact ⟨a0, a1, a2, a3, a4, c0, c1, c2, c3, c4, (Below.refl _ _).drew⟩ | (exact keep11 (by first | assumption | exact ⟨a0, a1, a2, a3, a4, c0, c1, c2, c3, c4, (Below.refl _ _).drew⟩) hb)) (first | (go_at_call 37; refine (notmod_any m tg mn oa xs cap bd rm st rs oe es cape be _ (by omega) HZ2.out (HC2.out.down (by first | exact (Below.refl _ _).drew | exact last11 (by assumption))) (by omega) HZE2.out (HE2.out.down (by first | exact (Below.refl _ _).drew | exact last11 (by assumption)))).mono ?_; rintro e w' ⟨he, hb⟩; rw [← HNM.out] at he; subst he) | (go_at_call 41; refine (rnotmod_any m tg mn oa xs cap bd rm st rs oe es cape be _ (by omega) HZ2.out (HC2.out.down (by first | exact (Below.refl _ _).drew | exact last11 (by assumption))) (by omega) HZE2.out (HE2.out.down (by first | exact (Below.refl _ _).drew | exact last11 (by assumption)))).mono ?_; rintro e w' ⟨he, hb⟩; rw [← HNM.out] at he; subst he) | (go_at_call 43; refine (HRED.out _ (HE2.out.down (by first | exact (Below.refl _ _).drew | exact last11 (by assumption)))).mono ?_; rintro e w' ⟨ob1, cb1, rfl, F1, hb⟩) | (go_at_call 44; refine (HRRED.out _ (HE2.out.down (by first | exact (Below.refl _ _).drew | exact last11 (by assumption)))).mono ?_; rintro e w' ⟨ob2, cb2, rfl, F2, hb⟩; have F1 := F1.down hb) | (go_at_call 42; refine (sameResp_any rm 304 notMod _ ys _ _ _ ⟨#[]⟩ _ (by omega) F1 F2).mono ?_; rintro e w' ⟨rfl, hb⟩) | (go_at_call 40; refine (awake31_any _).mono ?_; rintro e w' ⟨rfl, hb⟩))
      all_goals
        have hq : Below w2.heap.size w2 _ := last11 (by assumption)
        go_wp2_with fail
        go_ret
        exact ⟨rfl, step_b b2 hq⟩
end Go.Proofs.YtlcchcbeebakpaaDoor
