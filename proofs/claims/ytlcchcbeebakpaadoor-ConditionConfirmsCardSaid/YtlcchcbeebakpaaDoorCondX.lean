/- The walks of condition.Conditional, keep.SameResponse and the sanity check of layer 31. -/
import Derived.Test.YtlcchcbeebakpaaDoorCondV
import Derived.Test.YtlcchcbeebakpaaDoorReduW
namespace Go.Proofs.YtlcchcbeebakpaaDoor
open Go.RowKit Go.Shelf

def condB (xs : List Fd) : Bool := decide (0 < (getF (bs nINM) xs).length) || decide (0 < (getF (bs nIMS) xs).length)
set_option maxHeartbeats 800000 in
theorem conditional_any (m tg : ByteArray) (mn : Int) (oa : Option Addr) (xs : List Fd) (cap : Nat) (bd : ByteArray) (w : World) (hn : xs.length ≤ 100000) (hz : FldZ xs 100000) (hc : FldO w oa xs) :
    Calls Tryd.prog 39 #[reqV m tg mn oa xs.length cap bd] w fun e w' => e = .returned (.bool (condB xs)) ∧ Below w.heap.size w w' := by
  have b0 := alloc_b w (.cells (reqC m tg mn oa xs.length cap bd).toArray 54)
  have R := RowAt.new w (reqC m tg mn oa xs.length cap bd) 54
  have HC := Lib.hid (hc.down b0)
  have HZ := Lib.hid hz
  clear hc hz
  cases h1 : decide (0 < (getF (bs nINM) xs).length) with
  | true =>
    have HD := Lib.hid h1
    clear h1
    go_enter Tryd.func39, Tryd.ntmps39
    go_wp2_with fail
    refine (has_any oa xs cap nINM _ (by decide) hn HZ.out HC.out).mono ?_
    rintro e w1 ⟨rfl, hb1⟩
    rw [HD.out]
    go_wp2_with fail
    go_ret
    exact ⟨ret_bool (by unfold condB; rw [HD.out]; rfl), step_b b0 hb1⟩
  | false =>
    have HD := Lib.hid h1
    clear h1
    go_enter Tryd.func39, Tryd.ntmps39
    go_wp2_with fail
    refine (has_any oa xs cap nINM _ (by decide) hn HZ.out HC.out).mono ?_
    rintro e w1 ⟨rfl, hb1⟩
    rw [HD.out]
    have R1 := R.below hb1
    have c3 := R1.cell 3 rfl
    have HC1 := Lib.hid (HC.out.down hb1)
    clear R R1
    go_wp2_with fail
    refine (has_any oa xs cap nIMS _ (by decide) hn HZ.out HC1.out).mono ?_
    rintro e w2 ⟨rfl, hb2⟩
    go_wp2_with fail
    go_ret
    exact ⟨ret_bool (by unfold condB; rw [HD.out]; rfl), step_b (step_b b0 hb1) hb2⟩
theorem FldO.new1 (w : World) (x : Fd) (t : TypeId) : FldO (w.alloc (.cells #[.string x.1, .string x.2] t)) (some ⟨w.heap.size, 0, none⟩) [x] := fun i y hy => by
  match i, hy with
  | 0, hy =>
    have hx : x = y := by simpa using hy
    subst hx
    exact ⟨_, rfl, new_f0 w x t, new_f1 w x t⟩
theorem valid_one : validL [(nINM, ⟨#[34, 98, 34]⟩)] [(nETag, ⟨#[34, 97, 34]⟩)] = [(nINM, ⟨#[34, 97, 34]⟩)] := by decide +kernel
theorem condB_one : condB [(nINM, ⟨#[34, 98, 34]⟩)] = true := by decide +kernel
abbrev gET : ByteArray := ⟨#[71, 69, 84]⟩
set_option maxHeartbeats 3200000 in
set_option maxRecDepth 100000 in
theorem awake31_any (w : World) :
    Calls Tryd.prog 40 #[] w fun e w' => e = .returned (.bool true) ∧ Below w.heap.size w w' := by
  have a1 := FldO.new1 w (nINM, ⟨#[34, 98, 34]⟩) 35
  have q0 := RowAt.new (w.alloc (.cells #[.string nINM, .string ⟨#[34, 98, 34]⟩] 35)) (reqC gET ⟨#[]⟩ 0 (some ⟨w.heap.size, 0, none⟩) 1 1 ⟨#[]⟩) 54
  have s1 : (w.alloc (.cells #[.string nINM, .string ⟨#[34, 98, 34]⟩] 35)).heap.size = w.heap.size + 1 := Array.size_push _
  have s2 : ((w.alloc (.cells #[.string nINM, .string ⟨#[34, 98, 34]⟩] 35)).alloc (.cells (reqC gET ⟨#[]⟩ 0 (some ⟨w.heap.size, 0, none⟩) 1 1 ⟨#[]⟩).toArray 54)).heap.size = w.heap.size + 1 + 1 := (Array.size_push _).trans (by rw [s1])
  have b1 := alloc_b w (.cells #[.string nINM, .string ⟨#[34, 98, 34]⟩] 35)
  have b2 := step_b b1 (alloc_b _ (.cells (reqC gET ⟨#[]⟩ 0 (some ⟨w.heap.size, 0, none⟩) 1 1 ⟨#[]⟩).toArray 54))
  have b3 := step_b b2 (alloc_b _ (.cells #[.string nETag, .string ⟨#[34, 97, 34]⟩] 35))
  have a3 := (a1.down (alloc_b _ (.cells (reqC gET ⟨#[]⟩ 0 (some ⟨w.heap.size, 0, none⟩) 1 1 ⟨#[]⟩).toArray 54))).down (alloc_b _ (.cells #[.string nETag, .string ⟨#[34, 97, 34]⟩] 35))
  have e3 := FldO.new1 ((w.alloc (.cells #[.string nINM, .string ⟨#[34, 98, 34]⟩] 35)).alloc (.cells (reqC gET ⟨#[]⟩ 0 (some ⟨w.heap.size, 0, none⟩) 1 1 ⟨#[]⟩).toArray 54)) (nETag, ⟨#[34, 97, 34]⟩) 35
  have q3 := q0.alloc (.cells #[.string nETag, .string ⟨#[34, 97, 34]⟩] 35)
  rw [s2] at e3
  rw [s1] at q3
  have HV := Lib.hid (valid_any gET ⟨#[]⟩ 0 (some ⟨w.heap.size, 0, none⟩) [(nINM, ⟨#[34, 98, 34]⟩)] 1 ⟨#[]⟩ (.slice none 0 0) (.slice none 0 0) (.slice none 0 0) ⟨#[]⟩ (some ⟨w.heap.size + 1 + 1, 0, none⟩) [(nETag, ⟨#[34, 97, 34]⟩)] 1 ⟨#[]⟩ 0 0 _ (by decide) (by intro x hx; simp at hx; subst hx; decide) a3 (by decide) (by intro x hx; simp at hx; subst hx; decide) e3)
  have A3 := Lib.hid a3
  clear a1 q0 s1 s2 b1 b2 a3 e3
  rw [valid_one] at HV
  go_enter Tryd.func40, Tryd.ntmps40
  go_wp2_with fail
  refine HV.out.mono ?_
  rintro e w1 ⟨ob, cb, rfl, FB1, hb1⟩
  obtain ⟨oa', cap', ev, FO⟩ := FB1.shape
  cases ev
  obtain ⟨ad, rfl, c0, c1⟩ := FO.at (i := 0) (x := (nINM, ⟨#[34, 97, 34]⟩)) rfl
  rw [show ad.add (0 * 2) = ad from by unfold Addr.add; simp] at c1
  have q1 := q3.below hb1
  have A1 := Lib.hid (A3.out.down hb1)
  have b4 := step_b b3 hb1
  clear HV FB1 q3 A3 b3 hb1 FO c0
  have q1' := q1.alloc (.cells (reqC gET ⟨#[]⟩ 0 (some ad) 1 cb ⟨#[]⟩).toArray 54)
  have n1 := RowAt.new w1 (reqC gET ⟨#[]⟩ 0 (some ad) 1 cb ⟨#[]⟩) 54
  have c3 := n1.cell 3 rfl
  have c1' := ((alloc_b w1 (.cells (reqC gET ⟨#[]⟩ 0 (some ad) 1 cb ⟨#[]⟩).toArray 54)).cell (cell_lt c1)).trans c1
  have A2 := Lib.hid (A1.out.down (alloc_b w1 (.cells (reqC gET ⟨#[]⟩ 0 (some ad) 1 cb ⟨#[]⟩).toArray 54)))
  have b5 := step_b b4 (alloc_b w1 (.cells (reqC gET ⟨#[]⟩ 0 (some ad) 1 cb ⟨#[]⟩).toArray 54))
  clear q1 n1 c1 A1 b4
  have k0 := q1'.cell 0 rfl
  have k1 := q1'.cell 1 rfl
  have k2 := q1'.cell 2 rfl
  have k3 := q1'.cell 3 rfl
  have k4 := q1'.cell 4 rfl
  clear q1'
  go_wp2_with fail
  refine (conditional_any gET ⟨#[]⟩ 0 (some ⟨w.heap.size, 0, none⟩) [(nINM, ⟨#[34, 98, 34]⟩)] 1 ⟨#[]⟩ _ (by decide) (by intro x hx; simp at hx; subst hx; decide) A2.out).mono ?_
  rintro e w2 ⟨rfl, hb2⟩
  rw [condB_one]
  go_wp2_with fail
  go_ret
  exact ⟨rfl, step_b b5 hb2⟩
set_option maxHeartbeats 1600000 in
theorem sameResp_any (m st : Int) (rs : ByteArray) (oa : Option Addr) (xs : List Fd) (ca : Nat) (ob : Option Addr) (cb : Nat) (bd : ByteArray) (w : World) (hn : xs.length ≤ 1000000) (ha : FldO w oa xs) (hb : FldO w ob xs) :
    Calls Tryd.prog 42 #[respV m st rs oa xs.length ca bd, respV m st rs ob xs.length cb bd] w fun e w' => e = .returned (.bool true) ∧ Below w.heap.size w w' := by
  have b2 := step_b (alloc_b w (.cells (respC m st rs oa xs.length ca bd).toArray 42)) (alloc_b _ (.cells (respC m st rs ob xs.length cb bd).toArray 42))
  have R1 := (RowAt.new w (respC m st rs oa xs.length ca bd) 42).alloc (.cells (respC m st rs ob xs.length cb bd).toArray 42)
  have R2 := RowAt.new (w.alloc (.cells (respC m st rs oa xs.length ca bd).toArray 42)) (respC m st rs ob xs.length cb bd) 42
  rw [show (w.alloc (.cells (respC m st rs oa xs.length ca bd).toArray 42)).heap.size = w.heap.size + 1 from Array.size_push _] at R2
  have HS := Lib.hid (sameFields_any oa ob xs ca cb _ hn ((ha.down (alloc_b w (.cells (respC m st rs oa xs.length ca bd).toArray 42))).down (alloc_b _ (.cells (respC m st rs ob xs.length cb bd).toArray 42))) ((hb.down (alloc_b w (.cells (respC m st rs oa xs.length ca bd).toArray 42))).down (alloc_b _ (.cells (respC m st rs ob xs.length cb bd).toArray 42))))
  clear ha hb
  go_enter Tryd.func42, Tryd.ntmps42
  go_wp2_with fail
  refine HS.out.mono ?_
  rintro e w1 ⟨rfl, hb1⟩
  have c1 := (R1.below hb1).cell 4 rfl
  have c2 := (R2.below hb1).cell 4 rfl
  have b3 := step_b b2 hb1
  clear R1 R2 HS hb1 b2
  go_wp2_with fail
  go_ret
  exact ⟨rfl, b3⟩
end Go.Proofs.YtlcchcbeebakpaaDoor
