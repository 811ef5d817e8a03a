/- The walks of the reference's ETagOf, firstDate, Validator (layers 21, 23, 24). -/
import Derived.Test.YtglckhljpjcmaaaDoorREtagW
namespace Go.Proofs.YtglckhljpjcmaaaDoor
open Go.RowKit Go.Shelf

set_option maxHeartbeats 800000 in
theorem rof_any (oa : Option Addr) (xs : List Fd) (cap : Nat) (w : World) (hn : xs.length ≤ 100000) (hz : FldZ xs 100000) (hc : FldO w oa xs) :
    Calls Tryd.prog 35 #[.slice oa xs.length cap] w fun e w' => e = .returned (etagV (ofE xs)) ∧ Below w.heap.size w w' := by
  have R := RowAt.new w (etC false ⟨#[]⟩) 55
  have hb := alloc_b w (.cells #[.bool false, .string ⟨#[]⟩] 55)
  have HFi := Lib.hid (rfirst_any oa xs cap nETag (w.alloc (.cells #[.bool false, .string ⟨#[]⟩] 55)) (by decide) hn hz (hc.down hb))
  cases hg : getF (bs nETag) xs with
  | nil =>
    rw [hg] at HFi
    have HE : Hid (ofE xs = none) := Lib.hid (by unfold ofE; rw [hg])
    clear hg hz hc
    go_enter Tryd.func35, Tryd.ntmps35
    go_wp2_with fail
    refine HFi.out.mono ?_
    rintro e w1 ⟨he, hb1⟩
    rw [firstV] at he
    subst he
    have R1 := R.below hb1
    have b1 := step_b hb hb1
    clear R hb hb1 HFi
    go_wp2_with (refine wpList_store_row rfl _ 55 (.tmp 2) (.tmp 13) rfl w.heap.size 55 (etC false ⟨#[]⟩) (etC false ⟨#[]⟩) R1 rfl rfl rfl et_size (et_one _ _) ?_; intro w5 R5 f1 f2 f3)
    refine bodyPost_ret (results_row2 rfl _ _ w.heap.size 55 (etC false ⟨#[]⟩) R5 rfl _ Tryd.underlying55 et_size) rfl ?_
    exact ⟨by rw [HE.out]; rfl, b1.trans (f1 _ (Nat.le_refl _))⟩
  | cons x t =>
    rw [hg] at HFi
    have hx : x.size ≤ 100000 := getF_mem hz (n := bs nETag) (by rw [hg]; simp)
    have HE : Hid (ofE xs = etagL (bs x)) := Lib.hid (by unfold ofE; rw [hg])
    clear hg hz hc
    go_enter Tryd.func35, Tryd.ntmps35
    go_wp2_with fail
    refine HFi.out.mono ?_
    rintro e w1 ⟨he, hb1⟩
    rw [firstV] at he
    subst he
    have R1 := R.below hb1
    have b1 := step_b hb hb1
    clear R hb hb1 HFi
    go_wp2_with fail
    refine (retag_any x _ (by omega)).mono ?_
    rintro e w2 ⟨he, hb2⟩
    obtain ⟨b, l, ok, hV⟩ := etagV_form (etagL (bs x))
    rw [hV] at he
    subst he
    have R2 := R1.below hb2
    have b2 := step_b b1 hb2
    have HV := Lib.hid hV
    clear R1 b1 hb2 hV
    go_wp2_with (refine wpList_store_row rfl _ 55 (.tmp 2) (.tmp 16) rfl w.heap.size 55 (etC false ⟨#[]⟩) (etC b l) R2 rfl rfl rfl et_size (et_one _ _) ?_; intro w5 R5 f1 f2 f3)
    refine bodyPost_ret (results_row2 rfl _ _ w.heap.size 55 (etC b l) R5 rfl _ Tryd.underlying55 et_size) rfl ?_
    exact ⟨by rw [HE.out, HV.out]; rfl, b2.trans (f1 _ (Nat.le_refl _))⟩
theorem rdateV_form (l : List UInt8) : dateV (parseD l) = .tuple #[.int .i64 (dpt l).1, .bool (dpt l).2] := dateV_form l
def validTB (es : List Fd) : Bool := (ofE es).isSome || (dpt (bs (datedS (bs nLM) es))).2
theorem etagV_ok (o : Option (Bool × List UInt8)) : ∃ (b : Bool) (l : ByteArray), etagV o = .tuple #[.agg #[.bool b, .string l], .bool o.isSome] := by
  cases o with
  | none => exact ⟨false, ⟨#[]⟩, rfl⟩
  | some p => exact ⟨p.1, ⟨p.2.toArray⟩, rfl⟩
end Go.Proofs.YtglckhljpjcmaaaDoor
