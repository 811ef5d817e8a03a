/- The walks of the reference's Reduce (31.4) and of keep.Request. -/
import Derived.Test.YtlcchcbeebakpaaDoorRNotM
namespace Go.Proofs.YtlcchcbeebakpaaDoor
open Go.RowKit Go.Shelf

theorem oneB_hit {n : List UInt8} {xs : List ByteArray} {k : Nat} {y : ByteArray} (hx : xs[k]? = some y) (h : foldB n (bs y) = true) : oneB n (xs.map bs) = true := by
  induction xs generalizing k with
  | nil => simp at hx
  | cons x t ih =>
    cases k with
    | zero =>
      have e : x = y := by simpa using hx
      subst e
      simp [oneB, h]
    | succ k =>
      have := ih (by simpa using hx)
      simp [oneB, this]
theorem oneB_next {n : List UInt8} {xs : List ByteArray} {k : Nat} {y : ByteArray} (h0 : oneB n ((xs.take k).map bs) = false) (hx : xs[k]? = some y) (h : foldB n (bs y) = false) : oneB n ((xs.take (k + 1)).map bs) = false := by
  obtain ⟨hk, he⟩ := List.getElem?_eq_some_iff.1 hx
  rw [List.take_succ_eq_append_getElem hk, List.map_append, List.map_singleton, oneB_snoc, h0, he, h]; rfl
theorem keep4 {w1 w2 w3 : World} {p1 p2 p3 : Addr} {v1 v2 v3 : Value} (h : w1.cell? p1 = some v1 ∧ w1.cell? p2 = some v2 ∧ w1.cell? p3 = some v3 ∧ Below w3.heap.size w3 w1) (hb : Below w1.heap.size w1 w2) :
    w2.cell? p1 = some v1 ∧ w2.cell? p2 = some v2 ∧ w2.cell? p3 = some v3 ∧ Below w3.heap.size w3 w2 := by
  obtain ⟨h1, h2, h3, h8⟩ := h
  exact ⟨(hb.cell (cell_lt h1)).trans h1, (hb.cell (cell_lt h2)).trans h2, (hb.cell (cell_lt h3)).trans h3, step_b h8 hb⟩
theorem last4 {w1 w3 : World} {p1 p2 p3 : Addr} {v1 v2 v3 : Value} (h : w1.cell? p1 = some v1 ∧ w1.cell? p2 = some v2 ∧ w1.cell? p3 = some v3 ∧ Below w3.heap.size w3 w1) : Below w3.heap.size w3 w1 := h.2.2.2
theorem redu_names (w : World) (A B : Obj) : ∃ W, W = ((w.alloc A).alloc B).alloc (.cells (reduN.map Value.string).toArray 9) ∧ StrO W (some ⟨w.heap.size + 1 + 1, 0, none⟩) reduN ∧ W.heap.size = w.heap.size + 1 + 1 + 1 := by
  have s1 : (w.alloc A).heap.size = w.heap.size + 1 := Array.size_push _
  have s2 : ((w.alloc A).alloc B).heap.size = w.heap.size + 1 + 1 := (Array.size_push _).trans (by rw [s1])
  have h := StrO.new ((w.alloc A).alloc B) reduN
  rw [s2] at h
  exact ⟨_, rfl, h, (Array.size_push _).trans (by rw [s2])⟩
set_option maxHeartbeats 6400000 in
set_option maxRecDepth 100000 in
theorem rreduce_any (m st : Int) (rs : ByteArray) (oa : Option Addr) (xs : List Fd) (cap : Nat) (bd : ByteArray) (w : World) (hn : xs.length ≤ 70) (hz : FldZ xs 300) (hc : FldO w oa xs) :
    Calls Tryd.prog 44 #[respV m st rs oa xs.length cap bd] w fun e w' => ∃ (ob : Option Addr) (cb : Nat), e = .returned (respV m 304 notMod ob (xs.filter keptB).length cb ⟨#[]⟩) ∧ FldO w' ob (xs.filter keptB) ∧ Below w.heap.size w w' := by
  obtain ⟨R0, R1, b0⟩ := rows2 w (respC m st rs oa xs.length cap bd) 42 zeroC 42
  obtain ⟨W, hW, SN, zW⟩ := redu_names w (.cells (respC m st rs oa xs.length cap bd).toArray 42) (.cells zeroC.toArray 42)
  have R0 := R0.alloc (.cells (reduN.map Value.string).toArray 9)
  have R1 := R1.alloc (.cells (reduN.map Value.string).toArray 9)
  have b0 := step_b b0 (alloc_b _ (.cells (reduN.map Value.string).toArray 9))
  rw [← hW] at R0 R1 b0
  have HSN := Lib.hid SN
  have HW : Hid (W = ((w.alloc (.cells (respC m st rs oa xs.length cap bd).toArray 42)).alloc (.cells zeroC.toArray 42)).alloc (.cells (reduN.map Value.string).toArray 9)) := Lib.hid hW
  have HZW := Lib.hid zW
  have HC := Lib.hid hc
  have HZ := Lib.hid hz
  clear hc hz SN zW
  rw [reduA_eq] at hW
  go_enter Tryd.func44, Tryd.ntmps44
  clear hW
  go_wp2_with fail
  go_loopw [4, 5] (fun v c wr => ∃ (k : Nat) (ys : List Fd), k ≤ xs.length ∧ c = .int .i64 k ∧ Hid (ys = (xs.take k).filter keptB) ∧ ys.length ≤ k ∧ FBuf wr (w.heap.size + 1 + 1 + 1) v ys ∧ RowAt wr w.heap.size 42 (respC m st rs oa xs.length cap bd) ∧ RowAt wr (w.heap.size + 1) 42 zeroC ∧ Hid (StrO wr (some ⟨w.heap.size + 1 + 1, 0, none⟩) reduN) ∧ Below w.heap.size w wr ∧ w.heap.size + 1 + 1 + 1 ≤ wr.heap.size) (fun _ c _ => xs.length - (intOf c).toNat)
  case atStart =>
    have e := HW.out
    rw [reduA_eq] at e
    exact ⟨0, [], by omega, rfl, Lib.hid rfl, by simp, FBuf.nil_ _ _, e ▸ R0, e ▸ R1, e ▸ HSN, e ▸ b0, e ▸ Nat.le_of_eq HZW.out.symm⟩
  case round =>
    clear R0 R1 b0 HSN HW HZW
    obtain ⟨k, ys, hk, rfl, HY, hyl, FB, Q, O, HN, hb, hz⟩ := hrel
    have q3 := Q.cell 3 rfl
    by_cases hlt : k < xs.length
    · obtain ⟨x, hx⟩ : ∃ x, xs[k]? = some x := ⟨_, List.getElem?_eq_getElem hlt⟩
      have zx := (HZ.out x (List.mem_of_getElem? hx)).1
      have HX := Lib.hid hx
      clear hx
      go_wp2_with fail
      go_loopw [4, 6] (fun v c wi => ∃ (j : Nat), j ≤ 11 ∧ c = .int .i64 j ∧ Hid (oneB (bs x.1) ((reduN.take j).map bs) = false) ∧ FBuf wi (w.heap.size + 1 + 1 + 1) v ys ∧ RowAt wi w.heap.size 42 (respC m st rs oa xs.length cap bd) ∧ RowAt wi (w.heap.size + 1) 42 zeroC ∧ Hid (StrO wi (some ⟨w.heap.size + 1 + 1, 0, none⟩) reduN) ∧ Below w.heap.size w wi ∧ w.heap.size + 1 + 1 + 1 ≤ wi.heap.size) (fun _ c _ => 11 - (intOf c).toNat)
      case atStart => exact ⟨0, by omega, rfl, Lib.hid rfl, FB, Q, O, HN, hb, hz⟩
      case round =>
        clear FB Q O HN hb hz q3
        obtain ⟨j, hj, rfl, HM, FB, Q, O, HN, hb, hz⟩ := hrel
        have q3 := Q.cell 3 rfl
        obtain ⟨ad, had, c0, c1⟩ := (HC.out.down hb).at HX.out
        by_cases hjl : j < 11
        · obtain ⟨y, hy⟩ : ∃ y, reduN[j]? = some y := ⟨_, List.getElem?_eq_getElem (show j < reduN.length from hjl)⟩
          obtain ⟨an, han, n0⟩ := HN.out j y hy
          cases han
          have ea : (⟨w.heap.size + 1 + 1, 0, none⟩ : Addr).add j = ⟨w.heap.size + 1 + 1, j, none⟩ := by unfold Addr.add; by_cases h0 : j = 0 <;> simp [h0]
          rw [ea] at n0
          have zy := reduN_z y (List.mem_of_getElem? hy)
          have HAD := Lib.hid had
          subst had
          cases hq : foldB (bs x.1) (bs y) with
          | true =>
            have HK : Hid (keptB x = true) := Lib.hid (oneB_hit hy hq)
            have HQ := Lib.hid hq
            have hl10 : ys.length + 1 ≤ 1000000 := by omega
            clear hy hq ea
            go_wp2_with fail
            go_region_held3 (fun w' => w'.cell? ⟨w.heap.size, 3, none⟩ = some (.slice (some ad) xs.length cap) ∧ w'.cell? (ad.add (k * 2)) = some (.string x.1) ∧ w'.cell? ⟨w.heap.size + 1 + 1, j, none⟩ = some (.string y) ∧ Below wr.heap.size wr w') (first | assumption | exact ⟨q3, c0, n0, (Below.refl _ _).drew⟩ | (exact keep4 (by first | assumption | exact ⟨q3, c0, n0, (Below.refl _ _).drew⟩) hb')) (first | (go_at_call 20; refine (rfold_any x.1 y _ (by omega) (by omega)).mono ?_; rintro e w' ⟨he, hb'⟩; rw [HQ.out] at he; subst he))
            have hq4 : Below wr.heap.size wr w' := last4 (by assumption)
            have Q4 := Q.below hq4
            have O4 := O.below hq4
            have HN4 := Lib.hid (HN.out.down hq4)
            have FB4 := FB.below hq4 (Nat.le_refl _)
            have b4 := step_b hb hq4
            have z4 := Nat.le_trans hz hq4.size
            have d0 := (hq4.cell (cell_lt c0)).trans c0
            have d1 := (hq4.cell (cell_lt c1)).trans c1
            have q34 := Q4.cell 3 rfl
            clear Q O HN FB hb hz c0 c1 q3 n0
            go_wp2_with (at_builtin; refine wpList_append_fld rfl (.tmp 32) (.tmp 38) rfl w' _ (w.heap.size + 1 + 1 + 1) _ ys rfl (FB4.alloc _) ((Below.refl _ _).alloc z4 _) (le_alloc z4 _) ⟨w'.heap.size, 0, none⟩ x rfl (new_f0 w' x _) (new_f1 w' x _) hl10 ?_)
            intro v5 w5 FB5 hb5 z5
            have Q5 := Q4.belowB hb5 (by omega)
            have O5 := O4.belowB hb5 (by omega)
            have HN5 : Hid (StrO w5 (some ⟨w.heap.size + 1 + 1, 0, none⟩) reduN) := Lib.hid fun i u hu => by
              obtain ⟨a1, h1, h2⟩ := HN4.out i u hu
              cases h1
              exact ⟨_, rfl, (hb5.cell (p := (⟨w.heap.size + 1 + 1, 0, none⟩ : Addr).add i) (by show ((⟨w.heap.size + 1 + 1, 0, none⟩ : Addr).add i).block < _; unfold Addr.add; split <;> (show w.heap.size + 1 + 1 < _; omega))).trans h2⟩
            have b5 := b4.trans (hb5.mono (by omega))
            have HS := Lib.hid (take_keep HX.out HK.out)
            clear Q4 O4 HN4 FB4 b4 z4 d0 d1 q34 hb5
            go_wp2_with fail
            go_roundw
            case rel => exact ⟨k + 1, ys ++ [x], by omega, by go_num, Lib.hid (by rw [HS.out, HY.out]), by simp; omega, FB5, Q5, O5, HN5, b5, z5⟩
            case measure => simp [intOf]; omega
          | false =>
            have HM2 := Lib.hid (oneB_next HM.out hy hq)
            have HQ := Lib.hid hq
            clear hy hq ea
            go_wp2_with fail
            go_region_held3 (fun w' => w'.cell? ⟨w.heap.size, 3, none⟩ = some (.slice (some ad) xs.length cap) ∧ w'.cell? (ad.add (k * 2)) = some (.string x.1) ∧ w'.cell? ⟨w.heap.size + 1 + 1, j, none⟩ = some (.string y) ∧ Below wr.heap.size wr w') (first | assumption | exact ⟨q3, c0, n0, (Below.refl _ _).drew⟩ | (exact keep4 (by first | assumption | exact ⟨q3, c0, n0, (Below.refl _ _).drew⟩) hb')) (first | (go_at_call 20; refine (rfold_any x.1 y _ (by omega) (by omega)).mono ?_; rintro e w' ⟨he, hb'⟩; rw [HQ.out] at he; subst he))
            have hq4 : Below wr.heap.size wr w' := last4 (by assumption)
            have Q4 := Q.below hq4
            have O4 := O.below hq4
            have HN4 := Lib.hid (HN.out.down hq4)
            have FB4 := FB.below hq4 (Nat.le_refl _)
            have b4 := step_b hb hq4
            have z4 := Nat.le_trans hz hq4.size
            clear Q O HN FB hb hz c0 c1 q3 n0
            go_wp2_with fail
            go_roundw
            case rel => exact ⟨j + 1, by omega, by go_num, HM2, FB4, Q4, O4, HN4, b4, z4⟩
            case measure => simp [intOf]; omega
        · have hj11 : j = 11 := by omega
          have HK : Hid (keptB x = false) := Lib.hid (by
            have := HM.out
            rw [hj11] at this
            exact this)
          have HS := Lib.hid (take_skip HX.out HK.out)
          clear hj11 had c0 c1
          go_wp2_with fail
          go_roundw
          case rel => exact ⟨k + 1, ys, by omega, by go_num, Lib.hid (by rw [HS.out]; exact HY.out), by omega, FB, Q, O, HN, hb, hz⟩
          case measure => simp [intOf]; omega
    · have HF : Hid (xs.filter keptB = ys) := Lib.hid (by rw [HY.out, List.take_of_length_le (by omega)])
      obtain ⟨ob, cb, rfl, _⟩ := FB.shape
      have q0 := Q.cell 0 rfl
      go_wp2_with (refine wpList_store_row rfl _ 42 (.tmp 2) (.tmp 43) rfl (w.heap.size + 1) 42 zeroC (reduC m (.slice ob ys.length cb)) O rfl rfl rfl resp_size (by intro u hu; simp at hu; rcases hu with rfl | rfl | rfl | rfl | rfl <;> rfl) ?_; intro w5 R5 f1 f2 f3)
      refine bodyPost_ret (results_row1 rfl _ _ (w.heap.size + 1) 42 (reduC m (.slice ob ys.length cb)) R5 rfl _ Tryd.underlying42 resp_size) rfl ?_
      rw [HF.out]
      exact ⟨ob, cb, rfl, (FB.others (by omega) f2).fld, hb.trans (f1 _ (Nat.le_succ _))⟩
end Go.Proofs.YtlcchcbeebakpaaDoor
