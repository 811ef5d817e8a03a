/- The walk of the statement on layer 4 (target) that holds keys and references against the reference: TargetKeys. -/
import Derived.Test.YtjogahfllmhpcaaDoorTargL
import Derived.Test.YtjogahfllmhpcaaDoorTargO
namespace Go.Proofs.YtjogahfllmhpcaaDoor
open Go.RowKit

theorem res_form (r : Uri × Bool) : ∃ (N : ByteArray) (k : Int) (P Q : ByteArray) (b c : Bool), resolveV r = .tuple #[.agg #[.string N, .int .i64 k, .string P, .string Q, .bool b], .bool c] := ⟨⟨r.1.host.toArray⟩, r.1.port, ⟨r.1.path.toArray⟩, ⟨r.1.query.toArray⟩, r.1.has, r.2, rfl⟩
theorem keep15 {w1 w2 w3 : World} {a0 a1 a2 a3 a4 a5 a6 a7 a8 a9 a10 a11 a12 a13 a14 : Addr} {v0 v1 v2 v3 v4 v5 v6 v7 v8 v9 v10 v11 v12 v13 v14 : Value} (h : w2.cell? a0 = some v0 ∧ w2.cell? a1 = some v1 ∧ w2.cell? a2 = some v2 ∧ w2.cell? a3 = some v3 ∧ w2.cell? a4 = some v4 ∧ w2.cell? a5 = some v5 ∧ w2.cell? a6 = some v6 ∧ w2.cell? a7 = some v7 ∧ w2.cell? a8 = some v8 ∧ w2.cell? a9 = some v9 ∧ w2.cell? a10 = some v10 ∧ w2.cell? a11 = some v11 ∧ w2.cell? a12 = some v12 ∧ w2.cell? a13 = some v13 ∧ w2.cell? a14 = some v14 ∧ Below w1.heap.size w1 w2) (hb : Below w2.heap.size w2 w3) : w3.cell? a0 = some v0 ∧ w3.cell? a1 = some v1 ∧ w3.cell? a2 = some v2 ∧ w3.cell? a3 = some v3 ∧ w3.cell? a4 = some v4 ∧ w3.cell? a5 = some v5 ∧ w3.cell? a6 = some v6 ∧ w3.cell? a7 = some v7 ∧ w3.cell? a8 = some v8 ∧ w3.cell? a9 = some v9 ∧ w3.cell? a10 = some v10 ∧ w3.cell? a11 = some v11 ∧ w3.cell? a12 = some v12 ∧ w3.cell? a13 = some v13 ∧ w3.cell? a14 = some v14 ∧ Below w1.heap.size w1 w3 :=
  ⟨(hb.cell (cell_blt h.1)).trans h.1, (hb.cell (cell_blt h.2.1)).trans h.2.1, (hb.cell (cell_blt h.2.2.1)).trans h.2.2.1, (hb.cell (cell_blt h.2.2.2.1)).trans h.2.2.2.1, (hb.cell (cell_blt h.2.2.2.2.1)).trans h.2.2.2.2.1, (hb.cell (cell_blt h.2.2.2.2.2.1)).trans h.2.2.2.2.2.1, (hb.cell (cell_blt h.2.2.2.2.2.2.1)).trans h.2.2.2.2.2.2.1, (hb.cell (cell_blt h.2.2.2.2.2.2.2.1)).trans h.2.2.2.2.2.2.2.1, (hb.cell (cell_blt h.2.2.2.2.2.2.2.2.1)).trans h.2.2.2.2.2.2.2.2.1, (hb.cell (cell_blt h.2.2.2.2.2.2.2.2.2.1)).trans h.2.2.2.2.2.2.2.2.2.1, (hb.cell (cell_blt h.2.2.2.2.2.2.2.2.2.2.1)).trans h.2.2.2.2.2.2.2.2.2.2.1, (hb.cell (cell_blt h.2.2.2.2.2.2.2.2.2.2.2.1)).trans h.2.2.2.2.2.2.2.2.2.2.2.1, (hb.cell (cell_blt h.2.2.2.2.2.2.2.2.2.2.2.2.1)).trans h.2.2.2.2.2.2.2.2.2.2.2.2.1, (hb.cell (cell_blt h.2.2.2.2.2.2.2.2.2.2.2.2.2.1)).trans h.2.2.2.2.2.2.2.2.2.2.2.2.2.1, (hb.cell (cell_blt h.2.2.2.2.2.2.2.2.2.2.2.2.2.2.1)).trans h.2.2.2.2.2.2.2.2.2.2.2.2.2.2.1, below_step h.2.2.2.2.2.2.2.2.2.2.2.2.2.2.2 hb⟩
theorem last15 {w1 w2 : World} {a0 a1 a2 a3 a4 a5 a6 a7 a8 a9 a10 a11 a12 a13 a14 : Addr} {v0 v1 v2 v3 v4 v5 v6 v7 v8 v9 v10 v11 v12 v13 v14 : Value} (h : w2.cell? a0 = some v0 ∧ w2.cell? a1 = some v1 ∧ w2.cell? a2 = some v2 ∧ w2.cell? a3 = some v3 ∧ w2.cell? a4 = some v4 ∧ w2.cell? a5 = some v5 ∧ w2.cell? a6 = some v6 ∧ w2.cell? a7 = some v7 ∧ w2.cell? a8 = some v8 ∧ w2.cell? a9 = some v9 ∧ w2.cell? a10 = some v10 ∧ w2.cell? a11 = some v11 ∧ w2.cell? a12 = some v12 ∧ w2.cell? a13 = some v13 ∧ w2.cell? a14 = some v14 ∧ Below w1.heap.size w1 w2) : Below w1.heap.size w1 w2 := h.2.2.2.2.2.2.2.2.2.2.2.2.2.2.2
set_option maxHeartbeats 6400000 in
theorem targetKeys_walk (h : ByteArray) (n : Int) (p q : ByteArray) (b : Bool) (s : ByteArray) (w : World) (hn : (Lit.int .i64 n).wf = true) (_ : s.size ≤ 9223372036854775807) (hT : PowTab w) (hM : MaxOf w) :
    Calls Tryd.prog 9 #[.agg #[.string h, .int .i64 n, .string p, .string q, .bool b], .string s] w fun e w' => e = .returned (.bool true) ∧ Below w.heap.size w w' := by
  have HM := Lib.hid hM
  have HT := Lib.hid hT
  have hn2 : -9223372036854775808 ≤ n ∧ n ≤ 9223372036854775807 := by simpa [Lit.wf, IntKind.min, IntKind.max, IntKind.signed, IntKind.bits] using hn
  obtain ⟨i1, i2⟩ := hn2
  clear hM hT hn
  by_cases k1 : 300 < (h.size : Int)
  · go_enter Tryd.func9, Tryd.ntmps9
    go_wp2_with fail
    go_ret
    exact ⟨rfl, below_alloc w _⟩
  by_cases k2 : 3000 < (p.size : Int)
  · go_enter Tryd.func9, Tryd.ntmps9
    go_wp2_with fail
    go_ret
    exact ⟨rfl, below_alloc w _⟩
  by_cases k3 : 3000 < (q.size : Int)
  · go_enter Tryd.func9, Tryd.ntmps9
    go_wp2_with fail
    go_ret
    exact ⟨rfl, below_alloc w _⟩
  by_cases k4 : 3000 < (s.size : Int)
  · go_enter Tryd.func9, Tryd.ntmps9
    go_wp2_with fail
    go_ret
    exact ⟨rfl, below_alloc w _⟩
  obtain ⟨N, k, P, Q, c, g, hv⟩ := res_form (resolveU (mkU h n p q b) (bs s))
  obtain ⟨K, hK⟩ : ∃ K : ByteArray, K = ⟨(keyL (mkU h n p q b)).toArray⟩ := ⟨_, rfl⟩
  have HV := Lib.hid hv
  have HK := Lib.hid hK
  have R0 := RowAt.new w (uriC h n p q b) 23
  have b0 := below_alloc w (.cells (uriC h n p q b).toArray 23)
  have HM0 := Lib.hid (HM.out.below b0)
  have HT0 := Lib.hid (HT.out.below b0)
  clear hv hK
  go_enter Tryd.func9, Tryd.ntmps9
  go_wp2_with fail
  refine (resolve_any h n p q b s _ (by omega) (by omega) i1 i2 HT0.out HM0.out).mono ?_
  rintro e w1 ⟨rfl, hb1⟩
  rw [HV.out]
  have R1 := R0.below hb1
  have V1 := RowAt.new w1 (uriC N k P Q c) 23
  have R2 := R1.alloc (.cells (uriC N k P Q c).toArray 23)
  have b2 := below_step (below_step b0 hb1) (below_alloc w1 (.cells (uriC N k P Q c).toArray 23))
  have d0 := R2.cell 0 rfl
  have d1 := R2.cell 1 rfl
  have d2 := R2.cell 2 rfl
  have d3 := R2.cell 3 rfl
  have d4 := R2.cell 4 rfl
  clear hb1 b0 R0 R1 HM0 HT0
  go_wp2_with (refine wpList_load_rowAt rfl _ 23 (.tmp 2) rfl w.heap.size 23 (uriC h n p q b) R2 rfl _ Tryd.underlying23 uri_size ?_)
  refine (rresolve_any h n p q b s _ (by omega) (by omega) i1 i2).mono ?_
  rintro e w3 ⟨rfl, hb3⟩
  rw [HV.out]
  have R4 := (R2.below hb3).alloc (.cells (uriC N k P Q c).toArray 23)
  have V4 := (V1.below hb3).alloc (.cells (uriC N k P Q c).toArray 23)
  have W4 := RowAt.new w3 (uriC N k P Q c) 23
  have b4 := below_step (below_step b2 hb3) (below_alloc w3 (.cells (uriC N k P Q c).toArray 23))
  clear hb3 b2 R2 V1 d0 d1 d2 d3 d4
  obtain ⟨B1, hB1⟩ : ∃ B1, B1 = w1.heap.size := ⟨_, rfl⟩
  obtain ⟨B2, hB2⟩ : ∃ B2, B2 = w3.heap.size := ⟨_, rfl⟩
  rw [← hB1] at V4
  rw [← hB2] at W4
  have HM4 := Lib.hid (HM.out.below b4)
  have HT4 := Lib.hid (HT.out.below b4)
  have HD : Hid (∀ wx, PowTab wx → Calls Tryd.prog 19 #[.agg #[.string h, .int .i64 n, .string p, .string q, .bool b]] wx fun e w' => e = .returned (.string K) ∧ Below wx.heap.size wx w') := Lib.hid (by
    intro wx hx
    rw [HK.out]; exact key_any h n p q b wx (by omega) (by omega) (by omega) i1 i2 hx)
  have HR : Hid (∀ wx, Calls Tryd.prog 22 #[.agg #[.string h, .int .i64 n, .string p, .string q, .bool b]] wx fun e w' => e = .returned (.string K) ∧ Below wx.heap.size wx w') := Lib.hid (by
    intro wx
    rw [HK.out]; exact rkey_any h n p q b wx (by omega) (by omega) (by omega) i1 i2)
  go_wp2_with fail
  rw [← hB1, ← hB2]
  generalize w3.alloc (.cells (uriC N k P Q c).toArray 23) = w4 at R4 V4 W4 b4 HM4 HT4 ⊢
  have c00 := R4.cell 0 rfl
  have c01 := R4.cell 1 rfl
  have c02 := R4.cell 2 rfl
  have c03 := R4.cell 3 rfl
  have c04 := R4.cell 4 rfl
  have c10 := V4.cell 0 rfl
  have c11 := V4.cell 1 rfl
  have c12 := V4.cell 2 rfl
  have c13 := V4.cell 3 rfl
  have c14 := V4.cell 4 rfl
  have c20 := W4.cell 0 rfl
  have c21 := W4.cell 1 rfl
  have c22 := W4.cell 2 rfl
  have c23 := W4.cell 3 rfl
  have c24 := W4.cell 4 rfl
  clear hB1 hB2 R4 V4 W4 HV HK HM HT k1 k2 k3 k4 i1 i2
  go_region_held3 (fun w' => w'.cell? ⟨w.heap.size, 0, none⟩ = some (.string h) ∧ w'.cell? ⟨w.heap.size, 1, none⟩ = some (.int .i64 n) ∧ w'.cell? ⟨w.heap.size, 2, none⟩ = some (.string p) ∧ w'.cell? ⟨w.heap.size, 3, none⟩ = some (.string q) ∧ w'.cell? ⟨w.heap.size, 4, none⟩ = some (.bool b) ∧ w'.cell? ⟨B1, 0, none⟩ = some (.string N) ∧ w'.cell? ⟨B1, 1, none⟩ = some (.int .i64 k) ∧ w'.cell? ⟨B1, 2, none⟩ = some (.string P) ∧ w'.cell? ⟨B1, 3, none⟩ = some (.string Q) ∧ w'.cell? ⟨B1, 4, none⟩ = some (.bool c) ∧ w'.cell? ⟨B2, 0, none⟩ = some (.string N) ∧ w'.cell? ⟨B2, 1, none⟩ = some (.int .i64 k) ∧ w'.cell? ⟨B2, 2, none⟩ = some (.string P) ∧ w'.cell? ⟨B2, 3, none⟩ = some (.string Q) ∧ w'.cell? ⟨B2, 4, none⟩ = some (.bool c) ∧ Below w4.heap.size w4 w') (first | assumption | exact ⟨c00, c01, c02, c03, c04, c10, c11, c12, c13, c14, c20, c21, c22, c23, c24, (Below.refl _ _).drew⟩ | (exact keep15 (by assumption) hb)) (first | (go_at_call 19; refine (HD.out _ (HT4.out.below (by first | exact (Below.refl _ _).drew | exact last15 (by assumption)))).mono ?_; rintro e w5 ⟨rfl, hb⟩) | (go_at_call 22; refine (HR.out _).mono ?_; rintro e w5 ⟨rfl, hb⟩) | (go_at_call 12; refine (awake4_any _ (HT4.out.below (by first | exact (Below.refl _ _).drew | exact last15 (by assumption))) (HM4.out.below (by first | exact (Below.refl _ _).drew | exact last15 (by assumption)))).mono ?_; rintro e w5 ⟨rfl, hb⟩))
  all_goals
    have hq : Below w4.heap.size w4 _ := last15 (by assumption)
    go_wp2_with fail
    go_ret
    exact ⟨rfl, below_step b4 hq⟩
end Go.Proofs.YtjogahfllmhpcaaDoor
