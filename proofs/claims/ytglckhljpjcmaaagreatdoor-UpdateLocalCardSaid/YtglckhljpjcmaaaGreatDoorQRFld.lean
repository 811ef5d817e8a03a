/- The walks of the reference's fields by name: Get, Has, First, Remove. -/
import Derived.Test.YtglckhljpjcmaaaGreatDoorQPre
import Derived.Test.YtglckhljpjcmaaaGreatDoorQLowW
namespace Go.Proofs.YtglckhljpjcmaaaGreatDoor
open Go.RowKit Go.Shelf

theorem getF_keep {n : List UInt8} {xs : List Fd} {k : Nat} {x : Fd} (hx : xs[k]? = some x) (h : isF n x = true) : getF n (xs.take (k + 1)) = getF n (xs.take k) ++ [x.2] := by
  unfold getF
  rw [ftake_keep hx h, List.map_append]; rfl
theorem getF_skip {n : List UInt8} {xs : List Fd} {k : Nat} {x : Fd} (hx : xs[k]? = some x) (h : isF n x = false) : getF n (xs.take (k + 1)) = getF n (xs.take k) := by
  unfold getF
  rw [ftake_skip hx h]
theorem getF_mem' {n : List UInt8} {xs : List Fd} {x : ByteArray} {b : Nat} (hz : FldZ xs b) (h : x ∈ getF n xs) : x.size ≤ b := by
  unfold getF at h
  obtain ⟨f, hf, rfl⟩ := List.mem_map.1 h
  exact (hz f (List.mem_filter.1 hf).1).2
theorem getF_len (n : List UInt8) (xs : List Fd) : (getF n xs).length ≤ xs.length := by
  unfold getF; rw [List.length_map]; exact List.length_filter_le _ _
set_option maxHeartbeats 1600000 in
theorem rget_any (oa : Option Addr) (xs : List Fd) (cap : Nat) (s : ByteArray) (w : World) (hs : s.size ≤ 100000) (hn : xs.length ≤ 100000) (hz : FldZ xs 100000) (hc : FldO w oa xs) :
    Calls Tryz.prog 38 #[.slice oa xs.length cap, .string s] w fun e w' => ∃ v, e = .returned v ∧ SBuf w' w.heap.size v (getF (bs s) xs) ∧ Below w.heap.size w w' := by
  have HC := Lib.hid hc
  have HZ := Lib.hid hz
  clear hc hz
  go_enter Tryz.func38, Tryz.ntmps38
  go_wp2_with fail
  go_loopw [5, 6] (fun v j wr => ∃ (k : Nat) (ys : List ByteArray), k ≤ xs.length ∧ j = .int .i64 k ∧ Hid (ys = getF (bs s) (xs.take k)) ∧ ys.length ≤ k ∧ SBuf wr w.heap.size v ys ∧ Below w.heap.size w wr) (fun _ j _ => xs.length - (intOf j).toNat)
  case atStart => exact ⟨0, [], by omega, rfl, Lib.hid rfl, by simp, SBuf.nil_ _ _, Below.refl _ _⟩
  case round =>
    obtain ⟨k, ys, hk, rfl, HY, hyl, SB, hb⟩ := hrel
    by_cases hlt : k < xs.length
    · obtain ⟨x, hx⟩ : ∃ x, xs[k]? = some x := ⟨_, List.getElem?_eq_getElem hlt⟩
      obtain ⟨ad, rfl, c0, c1⟩ := (HC.out.down hb).at hx
      have zx := (HZ.out x (List.mem_of_getElem? hx)).1
      have hl10 : ys.length + 1 ≤ 1000000 := by omega
      cases hkp : isF (bs s) x with
      | true =>
        have HS := Lib.hid (getF_keep hx hkp)
        have HK : Hid (foldB (bs x.1) (bs s) = true) := Lib.hid hkp
        clear hx hkp
        go_wp2_with fail
        refine (rfold_any x.1 s wr (by omega) (by omega)).mono ?_
        rintro e w4 ⟨rfl, bb⟩
        rw [HK.out]
        have d1 := (bb.cell (cell_lt c1)).trans c1
        have SB4 := SB.below bb (Nat.le_refl _)
        have b4 := step_b hb bb
        have z4 := b4.size
        clear bb SB hb c0 c1
        go_wp2_with (at_builtin; refine wpList_append_str rfl (.tmp 20) (.tmp 26) rfl w _ w.heap.size _ ys rfl (SB4.alloc _) (b4.alloc z4 _) (le_alloc z4 _) ⟨w4.heap.size, 0, none⟩ x.2 rfl (cell_new w4 _ _) hl10 ?_)
        intro v5 w5 SB5 hb5 z5
        clear SB4 b4 z4 d1
        go_wp2_with fail
        go_roundw
        case rel => exact ⟨k + 1, ys ++ [x.2], by omega, by go_num, Lib.hid (by rw [HS.out, HY.out]), by simp; omega, SB5, hb5⟩
        case measure => simp [intOf]; omega
      | false =>
        have HS := Lib.hid (getF_skip hx hkp)
        have HK : Hid (foldB (bs x.1) (bs s) = false) := Lib.hid hkp
        clear hx hkp
        go_wp2_with fail
        refine (rfold_any x.1 s wr (by omega) (by omega)).mono ?_
        rintro e w4 ⟨rfl, bb⟩
        rw [HK.out]
        have SB4 := SB.below bb (Nat.le_refl _)
        have b4 := step_b hb bb
        clear bb SB hb c0 c1
        go_wp2_with fail
        go_roundw
        case rel => exact ⟨k + 1, ys, by omega, by go_num, Lib.hid (by rw [HS.out]; exact HY.out), by omega, SB4, b4⟩
        case measure => simp [intOf]; omega
    · have HF : Hid (getF (bs s) xs = ys) := Lib.hid (by rw [HY.out, List.take_of_length_le (by omega)])
      go_wp2_with fail
      go_ret
      exact ⟨_, rfl, by rw [HF.out]; exact SB, hb⟩
set_option maxHeartbeats 800000 in
theorem rfirst_any (oa : Option Addr) (xs : List Fd) (cap : Nat) (s : ByteArray) (w : World) (hs : s.size ≤ 100000) (hn : xs.length ≤ 100000) (hz : FldZ xs 100000) (hc : FldO w oa xs) :
    Calls Tryz.prog 20 #[.slice oa xs.length cap, .string s] w fun e w' => e = .returned (firstV (getF (bs s) xs)) ∧ Below w.heap.size w w' := by
  have HG := Lib.hid (rget_any oa xs cap s w hs hn hz hc)
  clear hz hc
  go_enter Tryz.func20, Tryz.ntmps20
  go_wp2_with fail
  refine HG.out.mono ?_
  rintro e w1 ⟨v, rfl, SB, hb1⟩
  obtain ⟨ob, cb, rfl, SO⟩ := StrO.ofS SB
  cases hg : getF (bs s) xs with
  | nil =>
    clear SO SB HG
    have hl : ((getF (bs s) xs).length : Int) = 0 := by rw [hg]; rfl
    have HGG := Lib.hid hg
    clear hg
    go_wp2_with fail
    go_ret2
    exact ⟨by rw [HGG.out]; rfl, hb1⟩
  | cons x t =>
    have hl0 : ¬ ((getF (bs s) xs).length : Int) = 0 := by rw [hg, List.length_cons]; omega
    have hl1 : (0 : Int) < ((getF (bs s) xs).length : Int) := by rw [hg, List.length_cons]; omega
    obtain ⟨ad, rfl, c0⟩ := SO 0 x (by rw [hg]; rfl)
    have ea : ad.add 0 = ad := by unfold Addr.add; simp
    rw [ea] at c0
    have HGG := Lib.hid hg
    clear hg SO SB HG ea
    go_wp2_with fail
    go_ret2
    exact ⟨by rw [HGG.out]; rfl, hb1⟩
end Go.Proofs.YtglckhljpjcmaaaGreatDoor
