/- The walks of the program's etag.Format and etag.Of (layer 21). -/
import Derived.Test.YtjafkpedocdfjaaGreatDoorEtagW
namespace Go.Proofs.YtjafkpedocdfjaaGreatDoor
open Go.RowKit Go.Shelf

theorem cat_bs (a b : ByteArray) : a ++ b = ⟨(bs a ++ bs b).toArray⟩ := by
  apply ByteArray.ext
  simp [bs]
set_option maxHeartbeats 800000 in
theorem efmt_any (wk : Bool) (t : ByteArray) (w : World) (hs : t.size ≤ 1000000) :
    Calls Tryz.prog 53 #[.agg #[.bool wk, .string t]] w fun e w' => e = .returned (.string ⟨(etfmtL (wk, bs t)).toArray⟩) ∧ Below w.heap.size w w' := by
  have hb := alloc_b w (.cells #[.bool wk, .string t] 73)
  have R := RowAt.new w (etC wk t) 73
  have c0 := R.cell 0 rfl
  have c1 := R.cell 1 rfl
  have z1 : ((⟨#[34]⟩ : ByteArray).size : Int) = 1 := rfl
  have z2 : ((⟨#[87, 47]⟩ : ByteArray).size : Int) = 2 := rfl
  clear R
  cases hp : permB (bs t) with
  | false =>
    have HF : Hid (etfmtL (wk, bs t) = []) := Lib.hid (by unfold etfmtL; rw [hp]; rfl)
    have HP := Lib.hid hp
    clear hp
    go_enter Tryz.func53, Tryz.ntmps53
    go_wp2_with fail
    refine (permitted_any t _ (by omega)).mono ?_
    rintro e w1 ⟨rfl, hw1⟩
    rw [HP.out]
    subst hw1
    go_wp2_with fail
    go_ret
    exact ⟨by rw [HF.out]; rfl, hb⟩
  | true =>
    have HF : Hid (etfmtL (wk, bs t) = if wk then [87, 47] ++ ([34] ++ bs t ++ [34]) else [34] ++ bs t ++ [34]) := Lib.hid (by unfold etfmtL; rw [hp]; rfl)
    have HP := Lib.hid hp
    clear hp
    obtain ⟨x, hx⟩ : ∃ x : ByteArray, (⟨#[34]⟩ : ByteArray) ++ t = x := ⟨_, rfl⟩
    obtain ⟨y, hy⟩ : ∃ y : ByteArray, x ++ (⟨#[34]⟩ : ByteArray) = y := ⟨_, rfl⟩
    have hxb : bs x = [34] ++ bs t := by rw [← hx, cat_bs]
    have hyb : bs y = [34] ++ bs t ++ [34] := by rw [← hy, cat_bs]; show bs x ++ [34] = _; rw [hxb]
    have hxz : x.size = t.size + 1 := by rw [← bs_length, hxb]; simp
    have hyz : y.size = t.size + 2 := by rw [← bs_length, hyb]; simp
    have s1 : ∀ wx, (Op.stringOp .add ⟨#[34]⟩ t).run Tryz.prog wx = .ok (.string x) wx := fun wx => (run_string_add_sum (P := Tryz.prog) (w := wx) ⟨#[34]⟩ t (by show 1 + t.size ≤ _; omega)).trans (by rw [hx])
    have s2 : ∀ wx, (Op.stringOp .add x ⟨#[34]⟩).run Tryz.prog wx = .ok (.string y) wx := fun wx => (run_string_add_sum (P := Tryz.prog) (w := wx) x ⟨#[34]⟩ (by show x.size + 1 ≤ _; omega)).trans (by rw [hy])
    have HY := Lib.hid hyb
    clear hx hy hxb hyb
    cases wk with
    | true =>
      obtain ⟨v, hv⟩ : ∃ v : ByteArray, (⟨#[87, 47]⟩ : ByteArray) ++ y = v := ⟨_, rfl⟩
      have s3 : ∀ wx, (Op.stringOp .add ⟨#[87, 47]⟩ y).run Tryz.prog wx = .ok (.string v) wx := fun wx => (run_string_add_sum (P := Tryz.prog) (w := wx) ⟨#[87, 47]⟩ y (by show 2 + y.size ≤ _; omega)).trans (by rw [hv])
      have HV : Hid (v = ⟨(etfmtL (true, bs t)).toArray⟩) := Lib.hid (by rw [HF.out, if_pos rfl, ← hv, cat_bs, HY.out])
      clear hv
      go_enter Tryz.func53, Tryz.ntmps53
      go_wp2_with fail
      refine (permitted_any t _ (by omega)).mono ?_
      rintro e w1 ⟨rfl, hw1⟩
      rw [HP.out]
      subst hw1
      go_wp2_with fail
      go_ret
      exact ⟨by rw [← HV.out]; rfl, hb⟩
    | false =>
      have HV : Hid (y = ⟨(etfmtL (false, bs t)).toArray⟩) := Lib.hid (by rw [HF.out, if_neg (by decide), ← HY.out])
      go_enter Tryz.func53, Tryz.ntmps53
      go_wp2_with fail
      refine (permitted_any t _ (by omega)).mono ?_
      rintro e w1 ⟨rfl, hw1⟩
      rw [HP.out]
      subst hw1
      go_wp2_with fail
      go_ret
      exact ⟨by rw [← HV.out]; rfl, hb⟩
theorem etagV_form (o : Option (Bool × List UInt8)) : ∃ (b : Bool) (l : ByteArray) (ok : Bool), etagV o = .tuple #[.agg #[.bool b, .string l], .bool ok] := by
  cases o with
  | none => exact ⟨false, ⟨#[]⟩, false, rfl⟩
  | some p => exact ⟨p.1, ⟨p.2.toArray⟩, true, rfl⟩
abbrev nETag : ByteArray := ⟨#[69, 84, 97, 103]⟩
/-- The tag of a list of fields. -/
def ofE (xs : List Fd) : Option (Bool × List UInt8) := match getF (bs nETag) xs with | [] => none | x :: _ => etagL (bs x)
theorem getF_mem {n : List UInt8} {xs : List Fd} {x : ByteArray} {b : Nat} (hz : FldZ xs b) (h : x ∈ getF n xs) : x.size ≤ b := by
  unfold getF at h
  obtain ⟨f, hf, rfl⟩ := List.mem_map.1 h
  exact (hz f (List.mem_filter.1 hf).1).2
set_option maxHeartbeats 800000 in
theorem of_any (oa : Option Addr) (xs : List Fd) (cap : Nat) (w : World) (hn : xs.length ≤ 100000) (hz : FldZ xs 100000) (hc : FldO w oa xs) :
    Calls Tryz.prog 52 #[.slice oa xs.length cap] w fun e w' => e = .returned (etagV (ofE xs)) ∧ Below w.heap.size w w' := by
  have R := RowAt.new w (etC false ⟨#[]⟩) 73
  have hb := alloc_b w (.cells #[.bool false, .string ⟨#[]⟩] 73)
  have HFi := Lib.hid (first_any oa xs cap nETag (w.alloc (.cells #[.bool false, .string ⟨#[]⟩] 73)) (by decide) hn hz (hc.down hb))
  cases hg : getF (bs nETag) xs with
  | nil =>
    rw [hg] at HFi
    have HE : Hid (ofE xs = none) := Lib.hid (by unfold ofE; rw [hg])
    clear hg hz hc
    go_enter Tryz.func52, Tryz.ntmps52
    go_wp2_with fail
    refine HFi.out.mono ?_
    rintro e w1 ⟨he, hb1⟩
    rw [firstV] at he
    subst he
    have R1 := R.below hb1
    have b1 := step_b hb hb1
    clear R hb hb1 HFi
    go_wp2_with (refine wpList_store_row rfl _ 73 (.tmp 2) (.tmp 13) rfl w.heap.size 73 (etC false ⟨#[]⟩) (etC false ⟨#[]⟩) R1 rfl rfl rfl et_size (et_one _ _) ?_; intro w5 R5 f1 f2 f3)
    refine bodyPost_ret (results_row2 rfl _ _ w.heap.size 73 (etC false ⟨#[]⟩) R5 rfl _ Tryz.underlying73 et_size) rfl ?_
    exact ⟨by rw [HE.out]; rfl, b1.trans (f1 _ (Nat.le_refl _))⟩
  | cons x t =>
    rw [hg] at HFi
    have hx : x.size ≤ 100000 := getF_mem hz (n := bs nETag) (by rw [hg]; simp)
    have HE : Hid (ofE xs = etagL (bs x)) := Lib.hid (by unfold ofE; rw [hg])
    clear hg hz hc
    go_enter Tryz.func52, Tryz.ntmps52
    go_wp2_with fail
    refine HFi.out.mono ?_
    rintro e w1 ⟨he, hb1⟩
    rw [firstV] at he
    subst he
    have R1 := R.below hb1
    have b1 := step_b hb hb1
    clear R hb hb1 HFi
    go_wp2_with fail
    refine (etag_any x _ (by omega)).mono ?_
    rintro e w2 ⟨he, hb2⟩
    obtain ⟨b, l, ok, hV⟩ := etagV_form (etagL (bs x))
    rw [hV] at he
    subst he
    have R2 := R1.below hb2
    have b2 := step_b b1 hb2
    have HV := Lib.hid hV
    clear R1 b1 hb2 hV
    go_wp2_with (refine wpList_store_row rfl _ 73 (.tmp 2) (.tmp 16) rfl w.heap.size 73 (etC false ⟨#[]⟩) (etC b l) R2 rfl rfl rfl et_size (et_one _ _) ?_; intro w5 R5 f1 f2 f3)
    refine bodyPost_ret (results_row2 rfl _ _ w.heap.size 73 (etC b l) R5 rfl _ Tryz.underlying73 et_size) rfl ?_
    exact ⟨by rw [HE.out, HV.out]; rfl, b2.trans (f1 _ (Nat.le_refl _))⟩
end Go.Proofs.YtjafkpedocdfjaaGreatDoor
