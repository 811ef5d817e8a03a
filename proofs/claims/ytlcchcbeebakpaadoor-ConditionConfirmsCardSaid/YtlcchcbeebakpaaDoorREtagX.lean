/- The walks of the reference's ETagOf, firstDate, Validator (layers 21, 23, 24). -/
import Derived.Test.YtlcchcbeebakpaaDoorREtagW
namespace Go.Proofs.YtlcchcbeebakpaaDoor
open Go.RowKit Go.Shelf

set_option maxHeartbeats 800000 in
theorem rof_any (oa : Option Addr) (xs : List Fd) (cap : Nat) (w : World) (hn : xs.length ≤ 100000) (hz : FldZ xs 100000) (hc : FldO w oa xs) :
    Calls Tryd.prog 65 #[.slice oa xs.length cap] w fun e w' => e = .returned (etagV (ofE xs)) ∧ Below w.heap.size w w' := by
  have R := RowAt.new w (etC false ⟨#[]⟩) 77
  have hb := alloc_b w (.cells #[.bool false, .string ⟨#[]⟩] 77)
  have HFi := Lib.hid (rfirst_any oa xs cap nETag (w.alloc (.cells #[.bool false, .string ⟨#[]⟩] 77)) (by decide) hn hz (hc.down hb))
  cases hg : getF (bs nETag) xs with
  | nil =>
    rw [hg] at HFi
    have HE : Hid (ofE xs = none) := Lib.hid (by unfold ofE; rw [hg])
    clear hg hz hc
    go_enter Tryd.func65, Tryd.ntmps65
    go_wp2_with fail
    refine HFi.out.mono ?_
    rintro e w1 ⟨he, hb1⟩
    rw [firstV] at he
    subst he
    have R1 := R.below hb1
    have b1 := step_b hb hb1
    clear R hb hb1 HFi
    go_wp2_with (refine wpList_store_row rfl _ 77 (.tmp 2) (.tmp 13) rfl w.heap.size 77 (etC false ⟨#[]⟩) (etC false ⟨#[]⟩) R1 rfl rfl rfl et_size (et_one _ _) ?_; intro w5 R5 f1 f2 f3)
    refine bodyPost_ret (results_row2 rfl _ _ w.heap.size 77 (etC false ⟨#[]⟩) R5 rfl _ Tryd.underlying77 et_size) rfl ?_
    exact ⟨by rw [HE.out]; rfl, b1.trans (f1 _ (Nat.le_refl _))⟩
  | cons x t =>
    rw [hg] at HFi
    have hx : x.size ≤ 100000 := getF_mem hz (n := bs nETag) (by rw [hg]; simp)
    have HE : Hid (ofE xs = etagL (bs x)) := Lib.hid (by unfold ofE; rw [hg])
    clear hg hz hc
    go_enter Tryd.func65, Tryd.ntmps65
    go_wp2_with fail
    refine HFi.out.mono ?_
    rintro e w1 ⟨he, hb1⟩
    rw [firstV] at he
    subst he
    have R1 := R.below hb1
    have b1 := step_b hb hb1
    clear R hb hb1 HFi
    go_wp2_with fail
    refine (retag_any x _ (by omega)).mono ?_
    rintro e w2 ⟨he, hb2⟩
    obtain ⟨b, l, ok, hV⟩ := etagV_form (etagL (bs x))
    rw [hV] at he
    subst he
    have R2 := R1.below hb2
    have b2 := step_b b1 hb2
    have HV := Lib.hid hV
    clear R1 b1 hb2 hV
    go_wp2_with (refine wpList_store_row rfl _ 77 (.tmp 2) (.tmp 16) rfl w.heap.size 77 (etC false ⟨#[]⟩) (etC b l) R2 rfl rfl rfl et_size (et_one _ _) ?_; intro w5 R5 f1 f2 f3)
    refine bodyPost_ret (results_row2 rfl _ _ w.heap.size 77 (etC b l) R5 rfl _ Tryd.underlying77 et_size) rfl ?_
    exact ⟨by rw [HE.out, HV.out]; rfl, b2.trans (f1 _ (Nat.le_refl _))⟩
theorem rdateV_form (l : List UInt8) : dateV (parseD l) = .tuple #[.int .i64 (dpt l).1, .bool (dpt l).2] := dateV_form l
set_option maxHeartbeats 800000 in
theorem firstDate_any (oa : Option Addr) (xs : List Fd) (cap : Nat) (s : ByteArray) (w : World) (hs : s.size ≤ 100000) (hn : xs.length ≤ 100000) (hz : FldZ xs 100000) (hc : FldO w oa xs) :
    Calls Tryd.prog 71 #[.slice oa xs.length cap, .string s] w fun e w' => e = .returned (.tuple #[.int .i64 (dpt (bs (datedS (bs s) xs))).1, .bool (dpt (bs (datedS (bs s) xs))).2]) ∧ Below w.heap.size w w' := by
  have HFi := Lib.hid (rfirst_any oa xs cap s w hs hn hz hc)
  cases hg : getF (bs s) xs with
  | nil =>
    rw [hg] at HFi
    have HE : Hid ((dpt (bs (datedS (bs s) xs))).1 = 0 ∧ (dpt (bs (datedS (bs s) xs))).2 = false) := Lib.hid (by unfold datedS; rw [hg]; exact ⟨by decide +kernel, by decide +kernel⟩)
    clear hg hz hc
    go_enter Tryd.func71, Tryd.ntmps71
    go_wp2_with fail
    refine HFi.out.mono ?_
    rintro e w1 ⟨he, hb1⟩
    rw [firstV] at he
    subst he
    go_wp2_with fail
    go_ret2
    exact ⟨by rw [HE.out.1, HE.out.2]; rfl, hb1⟩
  | cons x t =>
    rw [hg] at HFi
    have HE : Hid (datedS (bs s) xs = x) := Lib.hid (by unfold datedS; rw [hg]; rfl)
    clear hg hz hc
    go_enter Tryd.func71, Tryd.ntmps71
    go_wp2_with fail
    refine HFi.out.mono ?_
    rintro e w1 ⟨he, hb1⟩
    rw [firstV] at he
    subst he
    go_wp2_with fail
    refine (rparse_any x _).mono ?_
    rintro e w2 ⟨he, hb2⟩
    rw [dateV_form] at he
    subst he
    go_wp2_with fail
    go_ret2
    exact ⟨by rw [HE.out]; rfl, step_b hb1 hb2⟩
def validTB (es : List Fd) : Bool := (ofE es).isSome || (dpt (bs (datedS (bs nLM) es))).2
theorem etagV_ok (o : Option (Bool × List UInt8)) : ∃ (b : Bool) (l : ByteArray), etagV o = .tuple #[.agg #[.bool b, .string l], .bool o.isSome] := by
  cases o with
  | none => exact ⟨false, ⟨#[]⟩, rfl⟩
  | some p => exact ⟨p.1, ⟨p.2.toArray⟩, rfl⟩
set_option maxHeartbeats 800000 in
theorem validator_any (oa : Option Addr) (xs : List Fd) (cap : Nat) (w : World) (hn : xs.length ≤ 100000) (hz : FldZ xs 100000) (hc : FldO w oa xs) :
    Calls Tryd.prog 38 #[.slice oa xs.length cap] w fun e w' => e = .returned (.bool (validTB xs)) ∧ Below w.heap.size w w' := by
  have HO := Lib.hid (rof_any oa xs cap w hn hz hc)
  have HC := Lib.hid hc
  have HZ := Lib.hid hz
  obtain ⟨b, l, hV⟩ := etagV_ok (ofE xs)
  have HV := Lib.hid hV
  have HB : Hid (validTB xs = ((ofE xs).isSome || (dpt (bs (datedS (bs nLM) xs))).2)) := Lib.hid rfl
  clear hc hz hV
  cases ho : (ofE xs).isSome with
  | true =>
    have HS := Lib.hid ho
    clear ho
    go_enter Tryd.func38, Tryd.ntmps38
    go_wp2_with fail
    refine HO.out.mono ?_
    rintro e w1 ⟨he, hb1⟩
    rw [HV.out, HS.out] at he
    subst he
    have b1 := step_b hb1 (alloc_b w1 (.cells #[.bool b, .string l] 77))
    have HD := Lib.hid (firstDate_any oa xs cap nLM (w1.alloc (.cells #[.bool b, .string l] 77)) (by decide) hn HZ.out (HC.out.down b1))
    clear hb1
    go_wp2_with fail
    refine HD.out.mono ?_
    rintro e w2 ⟨rfl, hb2⟩
    go_wp2_with fail
    go_ret
    exact ⟨ret_bool (by rw [HB.out, HS.out]; rfl), step_b b1 hb2⟩
  | false =>
    have HS := Lib.hid ho
    clear ho
    go_enter Tryd.func38, Tryd.ntmps38
    go_wp2_with fail
    refine HO.out.mono ?_
    rintro e w1 ⟨he, hb1⟩
    rw [HV.out, HS.out] at he
    subst he
    have b1 := step_b hb1 (alloc_b w1 (.cells #[.bool b, .string l] 77))
    have HD := Lib.hid (firstDate_any oa xs cap nLM (w1.alloc (.cells #[.bool b, .string l] 77)) (by decide) hn HZ.out (HC.out.down b1))
    clear hb1
    go_wp2_with fail
    refine HD.out.mono ?_
    rintro e w2 ⟨rfl, hb2⟩
    go_wp2_with fail
    go_ret
    exact ⟨ret_bool (by rw [HB.out, HS.out]; rfl), step_b b1 hb2⟩
end Go.Proofs.YtlcchcbeebakpaaDoor
