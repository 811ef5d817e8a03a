/- The walks of the program's etag.Format and etag.Of (layer 21). -/
import Derived.Test.YtglckhljpjcmaaaDoorEtagW
namespace Go.Proofs.YtglckhljpjcmaaaDoor
open Go.RowKit Go.Shelf

theorem cat_bs (a b : ByteArray) : a ++ b = ⟨(bs a ++ bs b).toArray⟩ := by
  apply ByteArray.ext
  simp [bs]
theorem etagV_form (o : Option (Bool × List UInt8)) : ∃ (b : Bool) (l : ByteArray) (ok : Bool), etagV o = .tuple #[.agg #[.bool b, .string l], .bool ok] := by
  cases o with
  | none => exact ⟨false, ⟨#[]⟩, false, rfl⟩
  | some p => exact ⟨p.1, ⟨p.2.toArray⟩, true, rfl⟩
abbrev nETag : ByteArray := ⟨#[69, 84, 97, 103]⟩
/-- The tag of a list of fields. -/
def ofE (xs : List Fd) : Option (Bool × List UInt8) := match getF (bs nETag) xs with | [] => none | x :: _ => etagL (bs x)
theorem getF_mem {n : List UInt8} {xs : List Fd} {x : ByteArray} {b : Nat} (hz : FldZ xs b) (h : x ∈ getF n xs) : x.size ≤ b := by
  unfold getF at h
  obtain ⟨f, hf, rfl⟩ := List.mem_map.1 h
  exact (hz f (List.mem_filter.1 hf).1).2
set_option maxHeartbeats 800000 in
theorem of_any (oa : Option Addr) (xs : List Fd) (cap : Nat) (w : World) (hn : xs.length ≤ 100000) (hz : FldZ xs 100000) (hc : FldO w oa xs) :
    Calls Tryd.prog 33 #[.slice oa xs.length cap] w fun e w' => e = .returned (etagV (ofE xs)) ∧ Below w.heap.size w w' := by
  have R := RowAt.new w (etC false ⟨#[]⟩) 55
  have hb := alloc_b w (.cells #[.bool false, .string ⟨#[]⟩] 55)
  have HFi := Lib.hid (first_any oa xs cap nETag (w.alloc (.cells #[.bool false, .string ⟨#[]⟩] 55)) (by decide) hn hz (hc.down hb))
  cases hg : getF (bs nETag) xs with
  | nil =>
    rw [hg] at HFi
    have HE : Hid (ofE xs = none) := Lib.hid (by unfold ofE; rw [hg])
    clear hg hz hc
    go_enter Tryd.func33, Tryd.ntmps33
    go_wp2_with fail
    refine HFi.out.mono ?_
    rintro e w1 ⟨he, hb1⟩
    rw [firstV] at he
    subst he
    have R1 := R.below hb1
    have b1 := step_b hb hb1
    clear R hb hb1 HFi
    go_wp2_with (refine wpList_store_row rfl _ 55 (.tmp 2) (.tmp 13) rfl w.heap.size 55 (etC false ⟨#[]⟩) (etC false ⟨#[]⟩) R1 rfl rfl rfl et_size (et_one _ _) ?_; intro w5 R5 f1 f2 f3)
    refine bodyPost_ret (results_row2 rfl _ _ w.heap.size 55 (etC false ⟨#[]⟩) R5 rfl _ Tryd.underlying55 et_size) rfl ?_
    exact ⟨by rw [HE.out]; rfl, b1.trans (f1 _ (Nat.le_refl _))⟩
  | cons x t =>
    rw [hg] at HFi
    have hx : x.size ≤ 100000 := getF_mem hz (n := bs nETag) (by rw [hg]; simp)
    have HE : Hid (ofE xs = etagL (bs x)) := Lib.hid (by unfold ofE; rw [hg])
    clear hg hz hc
    go_enter Tryd.func33, Tryd.ntmps33
    go_wp2_with fail
    refine HFi.out.mono ?_
    rintro e w1 ⟨he, hb1⟩
    rw [firstV] at he
    subst he
    have R1 := R.below hb1
    have b1 := step_b hb hb1
    clear R hb hb1 HFi
    go_wp2_with fail
    refine (etag_any x _ (by omega)).mono ?_
    rintro e w2 ⟨he, hb2⟩
    obtain ⟨b, l, ok, hV⟩ := etagV_form (etagL (bs x))
    rw [hV] at he
    subst he
    have R2 := R1.below hb2
    have b2 := step_b b1 hb2
    have HV := Lib.hid hV
    clear R1 b1 hb2 hV
    go_wp2_with (refine wpList_store_row rfl _ 55 (.tmp 2) (.tmp 16) rfl w.heap.size 55 (etC false ⟨#[]⟩) (etC b l) R2 rfl rfl rfl et_size (et_one _ _) ?_; intro w5 R5 f1 f2 f3)
    refine bodyPost_ret (results_row2 rfl _ _ w.heap.size 55 (etC b l) R5 rfl _ Tryd.underlying55 et_size) rfl ?_
    exact ⟨by rw [HE.out, HV.out]; rfl, b2.trans (f1 _ (Nat.le_refl _))⟩
end Go.Proofs.YtglckhljpjcmaaaDoor
