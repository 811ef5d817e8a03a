/- The walk of ConditionReduces (law 31). -/
import Derived.Test.YtlcchcbeebakpaaCondX
namespace Go.Proofs.Ytlcchcbeebakpaa
open Go.RowKit Go.Shelf

theorem kept_idem (xs : List Fd) : (xs.filter keptB).filter keptB = xs.filter keptB := by rw [List.filter_filter]; simp
theorem reduce_two (m : Int) (oa : Option Addr) (ys : List Fd) (cap : Nat) (w : World) (hn : ys.length ≤ 70) (hz : FldZ ys 300) (hi : ys.filter keptB = ys) (hc : FldO w oa ys) :
    Calls Try.prog 5 #[respV m 304 notMod oa ys.length cap ⟨#[]⟩] w fun e w' => ∃ (ob : Option Addr) (cb : Nat), e = .returned (respV m 304 notMod ob ys.length cb ⟨#[]⟩) ∧ FldO w' ob ys ∧ Below w.heap.size w w' := by
  have h := reduce_any m 304 notMod oa ys cap ⟨#[]⟩ w hn hz hc
  rw [hi] at h
  exact h
theorem keep8 {w1 w2 w3 : World} {p1 p2 p3 p4 p5 p6 p7 : Addr} {v1 v2 v3 v4 v5 v6 v7 : Value} (h : w1.cell? p1 = some v1 ∧ w1.cell? p2 = some v2 ∧ w1.cell? p3 = some v3 ∧ w1.cell? p4 = some v4 ∧ w1.cell? p5 = some v5 ∧ w1.cell? p6 = some v6 ∧ w1.cell? p7 = some v7 ∧ Below w3.heap.size w3 w1) (hb : Below w1.heap.size w1 w2) :
    w2.cell? p1 = some v1 ∧ w2.cell? p2 = some v2 ∧ w2.cell? p3 = some v3 ∧ w2.cell? p4 = some v4 ∧ w2.cell? p5 = some v5 ∧ w2.cell? p6 = some v6 ∧ w2.cell? p7 = some v7 ∧ Below w3.heap.size w3 w2 := by
  obtain ⟨h1, h2, h3, h4, h5, h6, h7, h8⟩ := h
  exact ⟨(hb.cell (cell_lt h1)).trans h1, (hb.cell (cell_lt h2)).trans h2, (hb.cell (cell_lt h3)).trans h3, (hb.cell (cell_lt h4)).trans h4, (hb.cell (cell_lt h5)).trans h5, (hb.cell (cell_lt h6)).trans h6, (hb.cell (cell_lt h7)).trans h7, step_b h8 hb⟩
theorem last8 {w1 w3 : World} {p1 p2 p3 p4 p5 p6 p7 : Addr} {v1 v2 v3 v4 v5 v6 v7 : Value} (h : w1.cell? p1 = some v1 ∧ w1.cell? p2 = some v2 ∧ w1.cell? p3 = some v3 ∧ w1.cell? p4 = some v4 ∧ w1.cell? p5 = some v5 ∧ w1.cell? p6 = some v6 ∧ w1.cell? p7 = some v7 ∧ Below w3.heap.size w3 w1) : Below w3.heap.size w3 w1 := h.2.2.2.2.2.2.2
set_option maxHeartbeats 6400000 in
set_option maxRecDepth 100000 in
theorem reduces_walk (m st : Int) (rs : ByteArray) (oa : Option Addr) (xs : List Fd) (cap : Nat) (bd : ByteArray) (w : World) (hn : xs.length ≤ 9223372036854775807) (_ : rs.size ≤ 9223372036854775807) (_ : bd.size ≤ 9223372036854775807) (hc : FldO w oa xs) :
    Calls Try.prog 3 #[respV m st rs oa xs.length cap bd] w fun e w' => e = .returned (.bool true) ∧ Below w.heap.size w w' := by
  have b0 := alloc_b w (.cells (respC m st rs oa xs.length cap bd).toArray 24)
  have R0 := RowAt.new w (respC m st rs oa xs.length cap bd) 24
  have HC := Lib.hid (hc.down b0)
  clear hc
  cases hk : keepRB rs bd xs with
  | false =>
    have HK := Lib.hid hk
    clear hk
    go_enter Try.func3, Try.ntmps3
    go_wp2_with fail
    refine (keepR_any m st rs oa xs cap bd _ hn HC.out).mono ?_
    rintro e w1 ⟨rfl, hb1⟩
    rw [HK.out]
    go_wp2_with fail
    go_ret
    exact ⟨rfl, step_b b0 hb1⟩
  | true =>
    have hf : xs.length ≤ 70 ∧ FldZ xs 300 := by
      unfold keepRB at hk
      rw [Bool.and_eq_true, Bool.and_eq_true] at hk
      exact fieldsB_true hk.1.2
    obtain ⟨hn70, hz⟩ := hf
    have HZ := Lib.hid hz
    have HK := Lib.hid hk
    obtain ⟨ys, hys⟩ : ∃ ys, ys = xs.filter keptB := ⟨_, rfl⟩
    have hyl : ys.length ≤ xs.length := by rw [hys]; exact List.length_filter_le _ _
    have HYI : Hid (ys.filter keptB = ys) := Lib.hid (by rw [hys]; exact kept_idem xs)
    have HYZ : Hid (FldZ ys 300) := Lib.hid (by rw [hys]; exact hz.filter _)
    have HYS := Lib.hid hys
    clear hk hz hys
    go_enter Try.func3, Try.ntmps3
    go_wp2_with fail
    refine (keepR_any m st rs oa xs cap bd _ hn HC.out).mono ?_
    rintro e w1 ⟨rfl, hb1⟩
    rw [HK.out]
    have R1 := R0.below hb1
    have b1 := step_b b0 hb1
    have HR := Lib.hid (reduce_any m st rs oa xs cap bd w1 hn70 HZ.out (HC.out.down hb1))
    rw [← HYS.out] at HR
    have k0 := R1.cell 0 rfl
    have k1 := R1.cell 1 rfl
    have k2 := R1.cell 2 rfl
    have k3 := R1.cell 3 rfl
    have k4 := R1.cell 4 rfl
    clear R0 hb1 b0 HC
    go_wp2_with fail
    refine HR.out.mono ?_
    rintro e w2 ⟨ob, cb, rfl, FO, hb2⟩
    have R2 := (R1.below hb2).alloc (.cells (respC m 304 notMod ob ys.length cb ⟨#[]⟩).toArray 24)
    have X2 := RowAt.new w2 (respC m 304 notMod ob ys.length cb ⟨#[]⟩) 24
    have b2 := step_b (step_b b1 hb2) (alloc_b w2 (.cells (respC m 304 notMod ob ys.length cb ⟨#[]⟩).toArray 24))
    have HO := Lib.hid (FO.down (alloc_b w2 (.cells (respC m 304 notMod ob ys.length cb ⟨#[]⟩).toArray 24)))
    clear k0 k1 k2 k3 k4 R1 b1 HR hb2 FO
    have a0 := R2.cell 0 rfl
    have a3 := R2.cell 3 rfl
    have c0 := X2.cell 0 rfl
    have c1 := X2.cell 1 rfl
    have c2 := X2.cell 2 rfl
    have c3 := X2.cell 3 rfl
    have c4 := X2.cell 4 rfl
    have hle : ((ys.length : Int) ≤ (xs.length : Int)) := by omega
    go_wp2_with fail
    generalize hw3 : w2.alloc (.cells (respC m 304 notMod ob ys.length cb ⟨#[]⟩).toArray 24) = w3 at *
    clear hw3 R2 X2
    go_region_held3 (fun w' => w'.cell? ⟨w.heap.size, 0, none⟩ = some (.int .i64 m) ∧ w'.cell? ⟨w.heap.size, 3, none⟩ = some (.slice oa xs.length cap) ∧ w'.cell? ⟨w2.heap.size, 0, none⟩ = some (.int .i64 m) ∧ w'.cell? ⟨w2.heap.size, 1, none⟩ = some (.int .i64 304) ∧ w'.cell? ⟨w2.heap.size, 2, none⟩ = some (.string notMod) ∧ w'.cell? ⟨w2.heap.size, 3, none⟩ = some (.slice ob ys.length cb) ∧ w'.cell? ⟨w2.heap.size, 4, none⟩ = some (.string ⟨#[]⟩) ∧ Below w3.heap.size w3 w') (first | assumption | exact ⟨a0, a3, c0, c1, c2, c3, c4, (Below.refl _ _).drew⟩ | (exact keep8 (by first | assumption | exact ⟨a0, a3, c0, c1, c2, c3, c4, (Below.refl _ _).drew⟩) hb)) (first | (go_at_call 5; refine (reduce_two m ob ys cb _ (by omega) HYZ.out HYI.out (HO.out.down (by first | exact (Below.refl _ _).drew | exact last8 (by assumption)))).mono ?_; rintro e w' ⟨ob2, cb2, rfl, F2, hb⟩) | (go_at_call 6; refine (sameResp_any m 304 notMod _ ys _ _ _ ⟨#[]⟩ _ (by omega) (by assumption) (HO.out.down (by first | exact (Below.refl _ _).drew | exact last8 (by assumption)))).mono ?_; rintro e w' ⟨rfl, hb⟩) | (go_at_call 7; refine (awake31_any _).mono ?_; rintro e w' ⟨rfl, hb⟩))
    all_goals
      have hq : Below w3.heap.size w3 _ := last8 (by assumption)
      go_wp2_with fail
      go_ret
      exact ⟨rfl, step_b b2 hq⟩
end Go.Proofs.Ytlcchcbeebakpaa
