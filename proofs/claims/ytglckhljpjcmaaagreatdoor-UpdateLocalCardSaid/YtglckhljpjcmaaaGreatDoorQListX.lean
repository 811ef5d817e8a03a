/- The walk of the program's list.All (layer 7). -/
import Derived.Test.YtglckhljpjcmaaaGreatDoorQListW
import Derived.Test.YtglckhljpjcmaaaGreatDoorQSBufA
namespace Go.Proofs.YtglckhljpjcmaaaGreatDoor
open Go.RowKit Go.Shelf

def allGo (vs : List ByteArray) : List (List UInt8) := vs.flatMap fun v => membersL (bs v)
def allL (n : List UInt8) (xs : List Fd) : List (List UInt8) := (allGo (getF n xs)).take 64
theorem allGo_len (vs : List ByteArray) : (allGo vs).length ≤ vs.length * 64 := by
  unfold allGo
  induction vs with
  | nil => simp
  | cons v t ih => simp only [List.flatMap_cons, List.length_append, List.length_cons]; have := members_len (bs v); omega
theorem allGo_step {vs : List ByteArray} {k : Nat} {v : ByteArray} (h : vs[k]? = some v) : allGo (vs.take (k + 1)) = allGo (vs.take k) ++ membersL (bs v) := by
  obtain ⟨hk, he⟩ := List.getElem?_eq_some_iff.1 h
  unfold allGo
  rw [List.take_succ_eq_append_getElem hk, List.flatMap_append, he]; simp
theorem allL_len (n : List UInt8) (xs : List Fd) : (allL n xs).length ≤ 64 := by unfold allL; rw [List.length_take]; omega
theorem allL_mem {n : List UInt8} {xs : List Fd} {b : Nat} (hz : FldZ xs b) {x : List UInt8} (h : x ∈ allL n xs) : x.length ≤ b := by
  have h1 := List.mem_of_mem_take h
  unfold allGo at h1
  obtain ⟨v, hv, hx⟩ := List.mem_flatMap.1 h1
  have := members_mem hx
  rw [bs_length] at this
  exact Nat.le_trans this (getF_mem' hz hv)
set_option maxHeartbeats 3200000 in
theorem all_any (oa : Option Addr) (xs : List Fd) (cap : Nat) (s : ByteArray) (w : World) (hs : s.size ≤ 100000) (hn : xs.length ≤ 10000) (hz : FldZ xs 100000) (hc : FldO w oa xs) :
    Calls Tryz.prog 60 #[.slice oa xs.length cap, .string s] w fun e w' => ∃ ob cb ms, e = .returned (.slice ob ms.length cb) ∧ ms = (allL (bs s) xs).map mkB ∧ StrO w' ob ms ∧ Below w.heap.size w w' := by
  have HG := Lib.hid (get_any oa xs cap s w hs (by omega) hz hc)
  have hgl : (getF (bs s) xs).length ≤ xs.length := getF_len _ _
  obtain ⟨vs, hvs⟩ : ∃ vs, vs = getF (bs s) xs := ⟨_, rfl⟩
  have HVZ : Hid (∀ v ∈ vs, v.size ≤ 100000) := Lib.hid fun v hv => by rw [hvs] at hv; exact getF_mem' hz hv
  rw [← hvs] at HG hgl
  have HVS := Lib.hid hvs
  clear hz hc hvs
  go_enter Tryz.func60, Tryz.ntmps60
  go_wp2_with fail
  refine HG.out.mono ?_
  rintro e w1 ⟨v1, rfl, SB1, hb1⟩
  obtain ⟨ov, cv, rfl, SO⟩ := StrO.ofS SB1
  have HSO := Lib.hid SO
  clear SO SB1 HG
  go_wp2_with fail
  go_loopw [5, 12] (fun v c wr => ∃ (k : Nat) (zs : List ByteArray), k ≤ vs.length ∧ c = .int .i64 k ∧ Hid (zs = (allGo (vs.take k)).map mkB) ∧ SBuf wr w1.heap.size v zs ∧ Below w1.heap.size w1 wr) (fun _ c _ => vs.length - (intOf c).toNat)
  case atStart => exact ⟨0, [], by omega, rfl, Lib.hid rfl, SBuf.nil_ _ _, Below.refl _ _⟩
  case round =>
    obtain ⟨k, zs, hk, rfl, HZ, SB, hb⟩ := hrel
    have hzl := congrArg List.length HZ.out
    rw [List.length_map] at hzl
    have hal := allGo_len (vs.take k)
    rw [List.length_take] at hal
    by_cases hlt : k < vs.length
    · obtain ⟨x, hx⟩ : ∃ x, vs[k]? = some x := ⟨_, List.getElem?_eq_getElem hlt⟩
      obtain ⟨ad, rfl, c0⟩ := (HSO.out.down hb) k x hx
      have zx := HVZ.out x (List.mem_of_getElem? hx)
      have HS := Lib.hid (allGo_step hx)
      have hml := members_len (bs x)
      obtain ⟨ns, hns⟩ : ∃ ns, ns = (membersL (bs x)).map mkB := ⟨_, rfl⟩
      have hnl := congrArg List.length hns
      rw [List.length_map] at hnl
      have HN := Lib.hid hns
      have HSP := Lib.hid (split_any x wr (by omega))
      rw [← hns] at HSP
      have hlz : zs.length + ns.length ≤ 1000000 := by omega
      clear hx hns hnl hml hzl hal
      go_wp2_with fail
      refine HSP.out.mono ?_
      rintro e w2 ⟨v2, rfl, SB2, hb2⟩
      have SB3 := SB.below hb2 (Nat.le_refl _)
      have b3 := step_b hb hb2
      have z3 := b3.size
      obtain ⟨oc, cc, rfl, SO2⟩ := StrO.ofS SB2
      clear SB hb hb2 SB2 c0 HSP
      go_wp2_with (at_builtin; refine wpList_append_strs rfl (.tmp 16) (.tmp 18) rfl w1 _ w1.heap.size _ zs rfl SB3 b3 z3 oc ns cc rfl SO2 hlz ?_)
      intro v5 w5 SB5 hb5 z5
      clear SB3 b3 z3 SO2
      go_wp2_with fail
      go_roundw
      case rel => exact ⟨k + 1, zs ++ ns, by omega, by go_num, Lib.hid (by rw [HS.out, List.map_append, ← HZ.out, ← HN.out]), SB5, hb5⟩
      case measure => simp [intOf]; omega
    · have HF : Hid (zs = (allGo vs).map mkB) := Lib.hid (by rw [HZ.out, List.take_of_length_le (by omega)])
      obtain ⟨m, hm⟩ : ∃ m : Nat, m = min zs.length 64 := ⟨_, rfl⟩
      have hmi : min (zs.length : Int) 64 = (m : Int) := by omega
      obtain ⟨ob, cb, hsl, SOm⟩ := SB.cut m (by omega)
      obtain ⟨oz, cz, rfl, _⟩ := SB.shape
      have HM : Hid ((zs.take m).length = m ∧ zs.take m = (allL (bs s) xs).map mkB) := Lib.hid ⟨by rw [List.length_take]; omega, by
        rw [allL, List.map_take, ← HVS.out, ← HF.out]
        rcases Nat.le_total zs.length 64 with h | h
        · rw [List.take_of_length_le (by omega), List.take_of_length_le (by omega)]
        · rw [show m = 64 from by omega]⟩
      clear hzl hal hm
      go_wp2_with fail
      go_ret
      exact ⟨ob, cb, zs.take m, by rw [HM.out.1]; rfl, HM.out.2, SOm, step_b hb1 hb⟩
end Go.Proofs.YtglckhljpjcmaaaGreatDoor
