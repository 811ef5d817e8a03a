/- The walks of the reference's fields by name: Get, Has, First, Remove. The walks of the reference's Unframed and joined (6.5). Printed by gen_joinw.py. The walk of the reference's Visible. The walks of layer 2 in the reference: versions, request lines, status lines. The walk of the reference's ParseStatusLine (2.2). The walks of layer 2 that write lines, of the program and of the reference. The walks of FormatRequest, of the program and of the reference (6.5). Printed by gen_fmtq.py. What a request must be to be looked at, and when two messages are the same (layer 6). The walks of MessageBack and MessageShort (law 6): each returns true. Printed by gen_msgl.py. -/
import Derived.Test.YtfnmohaddkoalaaGreatDoorQFline2
import Derived.Test.YtfnmohaddkoalaaGreatDoorQLowW
import Derived.Test.YtfnmohaddkoalaaGreatDoorQMsgG
import Derived.Test.YtfnmohaddkoalaaGreatDoorQFieldX
import Derived.Test.YtfnmohaddkoalaaGreatDoorQDecW
import Derived.Test.YtfnmohaddkoalaaGreatDoorQIdxW
import Derived.Test.YtfnmohaddkoalaaGreatDoorQPre
import Derived.Test.YtfnmohaddkoalaaGreatDoorQStartW2
import Derived.Test.YtfnmohaddkoalaaGreatDoorQStartQ
import Derived.Test.YtfnmohaddkoalaaGreatDoorQStartR
import Derived.Test.YtfnmohaddkoalaaGreatDoorQMsgE
import Derived.Test.YtfnmohaddkoalaaGreatDoorQFormW
import Derived.Deep.RegionHeld3
import Derived.Test.YtfnmohaddkoalaaGreatDoorQMsgR
namespace Go.Proofs.YtfnmohaddkoalaaGreatDoor
open Go.RowKit Go.Shelf

theorem getF_keep {n : List UInt8} {xs : List Fd} {k : Nat} {x : Fd} (hx : xs[k]? = some x) (h : isF n x = true) : getF n (xs.take (k + 1)) = getF n (xs.take k) ++ [x.2] := by
  unfold getF
  rw [ftake_keep hx h, List.map_append]; rfl
theorem getF_skip {n : List UInt8} {xs : List Fd} {k : Nat} {x : Fd} (hx : xs[k]? = some x) (h : isF n x = false) : getF n (xs.take (k + 1)) = getF n (xs.take k) := by
  unfold getF
  rw [ftake_skip hx h]
theorem getF_mem' {n : List UInt8} {xs : List Fd} {x : ByteArray} {b : Nat} (hz : FldZ xs b) (h : x ∈ getF n xs) : x.size ≤ b := by
  unfold getF at h
  obtain ⟨f, hf, rfl⟩ := List.mem_map.1 h
  exact (hz f (List.mem_filter.1 hf).1).2
theorem getF_len (n : List UInt8) (xs : List Fd) : (getF n xs).length ≤ xs.length := by
  unfold getF; rw [List.length_map]; exact List.length_filter_le _ _
set_option maxHeartbeats 1600000 in
theorem rget_any (oa : Option Addr) (xs : List Fd) (cap : Nat) (s : ByteArray) (w : World) (hs : s.size ≤ 100000) (hn : xs.length ≤ 100000) (hz : FldZ xs 100000) (hc : FldO w oa xs) :
    Calls Tryz.prog 17 #[.slice oa xs.length cap, .string s] w fun e w' => ∃ v, e = .returned v ∧ SBuf w' w.heap.size v (getF (bs s) xs) ∧ Below w.heap.size w w' := by
  have HC := Lib.hid hc
  have HZ := Lib.hid hz
  clear hc hz
  go_enter Tryz.func17, Tryz.ntmps17
  go_wp2_with fail
  go_loopw [5, 6] (fun v j wr => ∃ (k : Nat) (ys : List ByteArray), k ≤ xs.length ∧ j = .int .i64 k ∧ Hid (ys = getF (bs s) (xs.take k)) ∧ ys.length ≤ k ∧ SBuf wr w.heap.size v ys ∧ Below w.heap.size w wr) (fun _ j _ => xs.length - (intOf j).toNat)
  case atStart => exact ⟨0, [], by omega, rfl, Lib.hid rfl, by simp, SBuf.nil_ _ _, Below.refl _ _⟩
  case round =>
    obtain ⟨k, ys, hk, rfl, HY, hyl, SB, hb⟩ := hrel
    by_cases hlt : k < xs.length
    · obtain ⟨x, hx⟩ : ∃ x, xs[k]? = some x := ⟨_, List.getElem?_eq_getElem hlt⟩
      obtain ⟨ad, rfl, c0, c1⟩ := (HC.out.down hb).at hx
      have zx := (HZ.out x (List.mem_of_getElem? hx)).1
      have hl10 : ys.length + 1 ≤ 1000000 := by omega
      cases hkp : isF (bs s) x with
      | true =>
        have HS := Lib.hid (getF_keep hx hkp)
        have HK : Hid (foldB (bs x.1) (bs s) = true) := Lib.hid hkp
        clear hx hkp
        go_wp2_with fail
        refine (rfold_any x.1 s wr (by omega) (by omega)).mono ?_
        rintro e w4 ⟨rfl, bb⟩
        rw [HK.out]
        have d1 := (bb.cell (cell_lt c1)).trans c1
        have SB4 := SB.below bb (Nat.le_refl _)
        have b4 := step_b hb bb
        have z4 := b4.size
        clear bb SB hb c0 c1
        go_wp2_with (at_builtin; refine wpList_append_str rfl (.tmp 20) (.tmp 26) rfl w _ w.heap.size _ ys rfl (SB4.alloc _) (b4.alloc z4 _) (le_alloc z4 _) ⟨w4.heap.size, 0, none⟩ x.2 rfl (cell_new w4 _ _) hl10 ?_)
        intro v5 w5 SB5 hb5 z5
        clear SB4 b4 z4 d1
        go_wp2_with fail
        go_roundw
        case rel => exact ⟨k + 1, ys ++ [x.2], by omega, by go_num, Lib.hid (by rw [HS.out, HY.out]), by simp; omega, SB5, hb5⟩
        case measure => simp [intOf]; omega
      | false =>
        have HS := Lib.hid (getF_skip hx hkp)
        have HK : Hid (foldB (bs x.1) (bs s) = false) := Lib.hid hkp
        clear hx hkp
        go_wp2_with fail
        refine (rfold_any x.1 s wr (by omega) (by omega)).mono ?_
        rintro e w4 ⟨rfl, bb⟩
        rw [HK.out]
        have SB4 := SB.below bb (Nat.le_refl _)
        have b4 := step_b hb bb
        clear bb SB hb c0 c1
        go_wp2_with fail
        go_roundw
        case rel => exact ⟨k + 1, ys, by omega, by go_num, Lib.hid (by rw [HS.out]; exact HY.out), by omega, SB4, b4⟩
        case measure => simp [intOf]; omega
    · have HF : Hid (getF (bs s) xs = ys) := Lib.hid (by rw [HY.out, List.take_of_length_le (by omega)])
      go_wp2_with fail
      go_ret
      exact ⟨_, rfl, by rw [HF.out]; exact SB, hb⟩
set_option maxHeartbeats 1600000 in
theorem rremove_any (oa : Option Addr) (xs : List Fd) (cap : Nat) (s : ByteArray) (w : World) (hs : s.size ≤ 100000) (hn : xs.length ≤ 100000) (hz : FldZ xs 100000) (hc : FldO w oa xs) :
    Calls Tryz.prog 26 #[.slice oa xs.length cap, .string s] w fun e w' => ∃ v, e = .returned v ∧ FBuf w' w.heap.size v (xs.filter fun x => !isF (bs s) x) ∧ Below w.heap.size w w' := by
  have HC := Lib.hid hc
  have HZ := Lib.hid hz
  clear hc hz
  obtain ⟨p, hp⟩ : ∃ p : Fd → Bool, p = fun x => !isF (bs s) x := ⟨_, rfl⟩
  rw [← hp]
  go_enter Tryz.func26, Tryz.ntmps26
  have HP := Lib.hid hp
  clear hp
  go_wp2_with fail
  go_loopw [5, 6] (fun v j wr => ∃ (k : Nat) (ys : List Fd), k ≤ xs.length ∧ j = .int .i64 k ∧ Hid (ys = (xs.take k).filter p) ∧ ys.length ≤ k ∧ FBuf wr w.heap.size v ys ∧ Below w.heap.size w wr) (fun _ j _ => xs.length - (intOf j).toNat)
  case atStart => exact ⟨0, [], by omega, rfl, Lib.hid rfl, by simp, FBuf.nil_ _ _, Below.refl _ _⟩
  case round =>
    obtain ⟨k, ys, hk, rfl, HY, hyl, FB, hb⟩ := hrel
    by_cases hlt : k < xs.length
    · obtain ⟨x, hx⟩ : ∃ x, xs[k]? = some x := ⟨_, List.getElem?_eq_getElem hlt⟩
      obtain ⟨ad, rfl, c0, c1⟩ := (HC.out.down hb).at hx
      have zx := (HZ.out x (List.mem_of_getElem? hx)).1
      have hl10 : ys.length + 1 ≤ 1000000 := by omega
      cases hkp : isF (bs s) x with
      | false =>
        have HS := Lib.hid (ftake_keep (p := p) hx (by rw [HP.out]; show (!isF (bs s) x) = true; rw [hkp]; rfl))
        have HK : Hid (foldB (bs x.1) (bs s) = false) := Lib.hid hkp
        clear hx hkp
        go_wp2_with fail
        refine (rfold_any x.1 s wr (by omega) (by omega)).mono ?_
        rintro e w4 ⟨rfl, bb⟩
        rw [HK.out]
        have d0 := (bb.cell (cell_lt c0)).trans c0
        have d1 := (bb.cell (cell_lt c1)).trans c1
        have FB4 := FB.below bb (Nat.le_refl _)
        have b4 := step_b hb bb
        have z4 := b4.size
        clear bb FB hb c0 c1
        go_wp2_with (at_builtin; refine wpList_append_fld rfl (.tmp 21) (.tmp 26) rfl w _ w.heap.size _ ys rfl (FB4.alloc _) (b4.alloc z4 _) (le_alloc z4 _) ⟨w4.heap.size, 0, none⟩ x rfl (new_f0 w4 x _) (new_f1 w4 x _) hl10 ?_)
        intro v5 w5 FB5 hb5 z5
        clear FB4 b4 z4 d0 d1
        go_wp2_with fail
        go_roundw
        case rel => exact ⟨k + 1, ys ++ [x], by omega, by go_num, Lib.hid (by rw [HS.out, HY.out]), by simp; omega, FB5, hb5⟩
        case measure => simp [intOf]; omega
      | true =>
        have HS := Lib.hid (ftake_skip (p := p) hx (by rw [HP.out]; show (!isF (bs s) x) = false; rw [hkp]; rfl))
        have HK : Hid (foldB (bs x.1) (bs s) = true) := Lib.hid hkp
        clear hx hkp
        go_wp2_with fail
        refine (rfold_any x.1 s wr (by omega) (by omega)).mono ?_
        rintro e w4 ⟨rfl, bb⟩
        rw [HK.out]
        have FB4 := FB.below bb (Nat.le_refl _)
        have b4 := step_b hb bb
        clear bb FB hb c0 c1
        go_wp2_with fail
        go_roundw
        case rel => exact ⟨k + 1, ys, by omega, by go_num, Lib.hid (by rw [HS.out]; exact HY.out), by omega, FB4, b4⟩
        case measure => simp [intOf]; omega
    · have HF : Hid (xs.filter p = ys) := Lib.hid (by rw [HY.out, List.take_of_length_le (by omega)])
      go_wp2_with fail
      go_ret
      exact ⟨_, rfl, by rw [HF.out]; exact FB, hb⟩
end Go.Proofs.YtfnmohaddkoalaaGreatDoor
namespace Go.Proofs.YtfnmohaddkoalaaGreatDoor
open Go.RowKit Go.Shelf
set_option linter.unusedSimpArgs false
set_option linter.unusedVariables false

theorem FBuf.lower6 {w : World} {B B' : Nat} {v : Value} {xs : List Fd} (h : FBuf w B v xs) (hB : B' ≤ B) : FBuf w B' v xs := by
  refine ⟨h.1, ?_⟩
  rcases h.2 with h0 | ⟨g, cap, cur, h1, h2, h3⟩
  · exact .inl h0
  · exact .inr ⟨g, cap, cur, h1, Nat.le_trans hB h2, h3⟩
theorem fldz_filter {xs : List Fd} {k : Nat} {p : Fd → Bool} (h : FldZ xs k) : FldZ (xs.filter p) k := fun x hx => h x (List.mem_filter.1 hx).1
theorem cat6 (a b : ByteArray) : bs (a ++ b) = bs a ++ bs b := by unfold bs; rw [ByteArray.data_append, Array.toList_append]
theorem unframed_any (oa : Option Addr) (xs : List Fd) (cap : Nat) (w : World) (hn : xs.length ≤ 100000) (hz : FldZ xs 100000) (hc : FldO w oa xs) :
    Calls Tryz.prog 9 #[.slice oa xs.length cap] w fun e w' => ∃ v, e = .returned v ∧ FBuf w' w.heap.size v (unfrL xs) ∧ Below w.heap.size w w' := by
  have HC := Lib.hid (rremove_any oa xs cap ⟨#[67, 111, 110, 116, 101, 110, 116, 45, 76, 101, 110, 103, 116, 104]⟩ w (by decide) hn hz hc)
  clear hc
  go_enter Tryz.func9, Tryz.ntmps9
  go_wp2_with fail
  refine HC.out.mono ?_
  rintro e w1 ⟨v, rfl, FB, hb1⟩
  obtain ⟨ys, hys⟩ : ∃ ys, ys = xs.filter fun x => !isF (bs ⟨#[67, 111, 110, 116, 101, 110, 116, 45, 76, 101, 110, 103, 116, 104]⟩) x := ⟨_, rfl⟩
  rw [← hys] at FB
  obtain ⟨ob, cb, rfl, FO⟩ := FB.shape
  have hyl : ys.length ≤ xs.length := by rw [hys]; exact List.length_filter_le _ _
  have hyz : FldZ ys 100000 := by rw [hys]; exact fldz_filter hz
  have HY := Lib.hid hys
  have HD := Lib.hid (rremove_any ob ys cb ⟨#[84, 114, 97, 110, 115, 102, 101, 114, 45, 69, 110, 99, 111, 100, 105, 110, 103]⟩ w1 (by decide) (by omega) hyz FO)
  clear hys FB FO HC hz hyz
  go_wp2_with fail
  refine HD.out.mono ?_
  rintro e w2 ⟨v, rfl, FB, hb2⟩
  have e1 : (ys.filter fun x => !isF (bs ⟨#[84, 114, 97, 110, 115, 102, 101, 114, 45, 69, 110, 99, 111, 100, 105, 110, 103]⟩) x) = unfrL xs := by
    rw [HY.out, List.filter_filter]
    unfold unfrL
    refine List.filter_congr fun x _ => ?_
    show (!isF teN x && !isF clN x) = plainF x
    unfold plainF
    rw [Bool.and_comm]
  rw [e1] at FB
  go_wp2_with fail
  go_ret
  exact ⟨_, rfl, FB.lower6 hb1.size, step_b hb1 hb2⟩
set_option maxHeartbeats 6400000 in
set_option maxRecDepth 100000 in
theorem rjoined_any (st : ByteArray) (oa : Option Addr) (xs : List Fd) (cap : Nat) (b : ByteArray) (len whole : Bool) (w : World) (hs : st.size ≤ 10000) (hb : b.size ≤ 100000) (hn : xs.length ≤ 100) (hz : FldZ xs 300) (hc : FldO w oa xs) :
    Calls Tryz.prog 27 #[.string st, .slice oa xs.length cap, .string b, .bool len, .bool whole] w fun e w' => e = .returned (.string ⟨(msgL (bs st) xs (if len then (b.size : Int) else -1) (if whole then bs b else [])).toArray⟩) ∧ Below w.heap.size w w' := by
  obtain ⟨R, hR⟩ : ∃ R, R = msgL (bs st) xs (if len then (b.size : Int) else -1) (if whole then bs b else []) := ⟨_, rfl⟩
  rw [← hR]
  have HR := Lib.hid hR
  have HU := Lib.hid (unframed_any oa xs cap w (by omega) (fun x hx => by have := hz x hx; omega) hc)
  clear hR hc
  go_enter Tryz.func27, Tryz.ntmps27
  go_wp2_with fail
  refine HU.out.mono ?_
  rintro e w1 ⟨v, rfl, FB, hb1⟩
  obtain ⟨us, hus⟩ : ∃ us, us = unfrL xs := ⟨_, rfl⟩
  rw [← hus] at FB
  obtain ⟨ob, cb, rfl, FO⟩ := FB.shape
  have HUS := Lib.hid hus
  have huz : FldZ us 300 := by rw [hus]; exact fldz_filter hz
  have HUZ := Lib.hid huz
  have HFO := Lib.hid FO
  have hul : us.length ≤ 100 := by rw [hus]; have := unfr_len xs; omega
  clear HU FB FO hus huz hz
  by_cases h0 : st.size = 0
  · obtain ⟨e1, e2⟩ := femp_yes h0
    have HF : Hid (R = []) := Lib.hid (by rw [HR.out]; exact msg_none (.inl e2))
    clear e2
    go_wp2_with fail
    go_ret
    exact ⟨by rw [HF.out]; rfl, hb1⟩
  obtain ⟨e1, e2⟩ := femp_no h0
  have HST := Lib.hid e2
  clear e2
  by_cases h63 : 63 < (us.length : Int)
  · have HF : Hid (R = []) := Lib.hid (by rw [HR.out]; exact msg_many (by rw [← HUS.out]; omega))
    go_wp2_with fail
    go_ret
    exact ⟨by rw [HF.out]; rfl, hb1⟩
  have hb100 : ¬ 100000 < (b.size : Int) := by omega
  obtain ⟨O0, hO0⟩ : ∃ E : ByteArray, E = st ++ ⟨#[13, 10]⟩ := ⟨_, rfl⟩
  have zO0 : O0.size = st.size + 2 := by rw [hO0, ByteArray.size_append]; rfl
  have sO0 : ∀ wx, (Op.stringOp .add st ⟨#[13, 10]⟩).run Tryz.prog wx = .ok (.string O0) wx := fun wx => by rw [hO0]; exact run_string_add_sum wx _ _ (by have e0 : (⟨#[13, 10]⟩ : ByteArray).size = 2 := rfl; omega)
  have HO0 : Hid (bs O0 = linesB (bs st :: (us.take 0).map fmtF)) := Lib.hid (by rw [hO0, cat6]; simp [linesB, bs])
  clear hO0
  go_wp2_with fail
  go_loopw [11, 12] (fun o j wr => ∃ (i : Nat) (O : ByteArray), i ≤ us.length ∧ j = .int .i64 i ∧ o = .string O ∧ O.size ≤ 10002 + 700 * i ∧ Hid (bs O = linesB (bs st :: (us.take i).map fmtF)) ∧ Hid (∀ f ∈ us.take i, okF f = true) ∧ Below w1.heap.size w1 wr) (fun _ j _ => us.length - (intOf j).toNat)
  case atStart => exact ⟨0, O0, by omega, rfl, rfl, by omega, HO0, Lib.hid (by simp), Below.refl _ _⟩
  case round =>
    obtain ⟨i, O, hi, rfl, rfl, zO, HO, HALL, hbr⟩ := hrel
    by_cases hlt : i < us.length
    · obtain ⟨x, hx⟩ : ∃ x, us[i]? = some x := ⟨_, List.getElem?_eq_getElem hlt⟩
      obtain ⟨ad, rfl, c0, c1⟩ := (HFO.out.down hbr).at hx
      have hxz := HUZ.out x (List.mem_of_getElem? hx)
      have HXM : Hid (x ∈ us) := Lib.hid (List.mem_of_getElem? hx)
      have HX := Lib.hid hx
      clear hx
      cases hok : okF x with
      | false =>
        have HF : Hid (R = []) := Lib.hid (by rw [HR.out]; exact msg_bad (by rw [← HUS.out]; exact HXM.out) hok)
        have HOK : Hid (validF (bs x.1) (bs x.2) = false) := Lib.hid hok
        clear hok
        go_wp2_with fail
        refine (rfvalid_any x.1 x.2 _ (by omega) (by omega)).mono ?_
        rintro e w2 ⟨he, hb2⟩
        rw [HOK.out] at he; subst he
        go_wp2_with fail
        go_ret
        exact ⟨by rw [HF.out]; rfl, step_b (step_b hb1 hbr) hb2⟩
      | true =>
        have HOK : Hid (validF (bs x.1) (bs x.2) = true) := Lib.hid hok
        obtain ⟨F, hF⟩ : ∃ F : ByteArray, F = ⟨(formL (bs x.1) (bs x.2)).toArray⟩ := ⟨_, rfl⟩
        have zF : F.size ≤ 602 := by rw [hF]; have := fmtF_len x; show (formL (bs x.1) (bs x.2)).length ≤ _; unfold fmtF at this; omega
        have HFM : Hid (∀ wx, Calls Tryz.prog 43 #[.agg #[.string x.1, .string x.2]] wx fun e w' => e = .returned (.string F) ∧ Below wx.heap.size wx w') := Lib.hid fun wx => by
          rw [hF]; exact rform_any x.1 x.2 wx (by omega) (by omega)
        obtain ⟨E1, hE1⟩ : ∃ E : ByteArray, E = F ++ ⟨#[13, 10]⟩ := ⟨_, rfl⟩
        obtain ⟨E2, hE2⟩ : ∃ E : ByteArray, E = O ++ E1 := ⟨_, rfl⟩
        have zE1 : E1.size = F.size + 2 := by rw [hE1, ByteArray.size_append]; rfl
        have zE2 : E2.size = O.size + E1.size := by rw [hE2, ByteArray.size_append]
        have sE1 : ∀ wx, (Op.stringOp .add F ⟨#[13, 10]⟩).run Tryz.prog wx = .ok (.string E1) wx := fun wx => by rw [hE1]; exact run_string_add_sum wx _ _ (by have e0 : (⟨#[13, 10]⟩ : ByteArray).size = 2 := rfl; omega)
        have sE2 : ∀ wx, (Op.stringOp .add O E1).run Tryz.prog wx = .ok (.string E2) wx := fun wx => by rw [hE2]; exact run_string_add_sum wx _ _ (by omega)
        have HO2 : Hid (bs E2 = linesB (bs st :: (us.take (i + 1)).map fmtF)) := Lib.hid (by
          rw [hE2, cat6, hE1, cat6, HO.out, hF, List.take_add_one, HX.out, show (some x).toList = [x] from rfl, lines_keep]; rfl)
        have HALL2 : Hid (∀ f ∈ us.take (i + 1), okF f = true) := Lib.hid (fun f hf => by
          rw [List.take_add_one, HX.out, List.mem_append] at hf
          rcases hf with hf | hf
          · exact HALL.out f hf
          · simp at hf; subst hf; exact hok)
        have zO2 : E2.size ≤ 10002 + 700 * (i + 1) := by omega
        clear hok hF hE1 hE2 zE1 zE2
        go_wp2_with fail
        refine (rfvalid_any x.1 x.2 _ (by omega) (by omega)).mono ?_
        rintro e w2 ⟨he, hb2⟩
        rw [HOK.out] at he; subst he
        have hbr2 := step_b hbr hb2
        have c0 := (hb2.cell (cell_lt c0)).trans c0
        have c1 := (hb2.cell (cell_lt c1)).trans c1
        go_wp2_with fail
        refine (HFM.out _).mono ?_
        rintro e w3 ⟨rfl, hb3⟩
        have hbr3 := step_b hbr2 hb3
        go_wp2_with fail
        go_roundw
        case rel => exact ⟨i + 1, E2, by omega, by go_num, rfl, zO2, HO2, HALL2, hbr3⟩
        case measure => simp [intOf]; omega
    · have hiu : i = us.length := by omega
      have HO4 : Hid (bs O = linesB (bs st :: us.map fmtF)) := Lib.hid (by rw [HO.out, hiu, List.take_length])
      have HAL : Hid (∀ f ∈ us, okF f = true) := Lib.hid (by have := HALL.out; rw [hiu, List.take_length] at this; exact this)
      have hbw := step_b hb1 hbr
      have HRR : Hid (R = if 16000 < (linesB (headLs (bs st) xs (if len then (b.size : Int) else -1))).length + 2 then [] else linesB (headLs (bs st) xs (if len then (b.size : Int) else -1)) ++ 13 :: 10 :: (if whole then bs b else [])) := Lib.hid (by rw [HR.out]; exact msg_some HST.out (by rw [← HUS.out]; omega) (by rw [← HUS.out]; exact HAL.out))
      clear HO HALL
      cases len with
      | false =>
        obtain ⟨O4, hO4⟩ : ∃ E : ByteArray, E = O ++ ⟨#[13, 10]⟩ := ⟨_, rfl⟩
        have zO4 : O4.size = O.size + 2 := by rw [hO4, ByteArray.size_append]; rfl
        have sO4 : ∀ wx, (Op.stringOp .add O ⟨#[13, 10]⟩).run Tryz.prog wx = .ok (.string O4) wx := fun wx => by rw [hO4]; exact run_string_add_sum wx _ _ (by have e0 : (⟨#[13, 10]⟩ : ByteArray).size = 2 := rfl; omega)
        have HO5 : Hid (bs O4 = linesB (headLs (bs st) xs (-1)) ++ [13, 10]) := Lib.hid (by rw [hO4, cat6, HO4.out, lines_head, ← HUS.out, clLs_no (by omega), List.append_nil])
        have zz : (linesB (headLs (bs st) xs (-1))).length + 2 = O4.size := by
          have h := congrArg List.length HO5.out
          rw [List.length_append] at h
          exact h.symm.trans (bs_length O4)
        have HZ := Lib.hid zz
        clear hO4 zz
        by_cases h16 : 16000 < (O4.size : Int)
        · have HF : Hid (R = []) := Lib.hid (by rw [HRR.out]; exact if_pos (by have := HZ.out; simp only [Bool.false_eq_true, if_false, if_true]; omega))
          go_wp2_with fail
          go_ret
          exact ⟨by rw [HF.out]; rfl, hbw⟩
        cases whole with
        | false =>
          have HF : Hid ((⟨R.toArray⟩ : ByteArray) = O4) := Lib.hid (by
            rw [HRR.out, if_neg (by have := HZ.out; simp only [Bool.false_eq_true, if_false, if_true]; omega)]
            simp only [Bool.false_eq_true, if_false, if_true]
            apply ByteArray.ext
            apply Array.ext'
            exact HO5.out.symm)
          go_wp2_with fail
          go_ret
          exact ⟨by rw [HF.out]; rfl, hbw⟩
        | true =>
          obtain ⟨O6, hO6⟩ : ∃ E : ByteArray, E = O4 ++ b := ⟨_, rfl⟩
          have zO6 : O6.size = O4.size + b.size := by rw [hO6, ByteArray.size_append]
          have sO6 : ∀ wx, (Op.stringOp .add O4 b).run Tryz.prog wx = .ok (.string O6) wx := fun wx => by rw [hO6]; exact run_string_add_sum wx _ _ (by omega)
          have HF : Hid ((⟨R.toArray⟩ : ByteArray) = O6) := Lib.hid (by
            rw [HRR.out, if_neg (by have := HZ.out; simp only [Bool.false_eq_true, if_false, if_true]; omega)]
            simp only [Bool.false_eq_true, if_false, if_true]
            apply ByteArray.ext
            apply Array.ext'
            show _ = bs O6
            rw [hO6, cat6, HO5.out]; simp [bs])
          clear hO6
          go_wp2_with fail
          go_ret
          exact ⟨by rw [HF.out]; rfl, hbw⟩
      | true =>
        obtain ⟨D, hD⟩ : ∃ D : ByteArray, D = ⟨(Lib.itoa (b.size : Int)).toArray⟩ := ⟨_, rfl⟩
        have zD : D.size ≤ 40 := by rw [hD]; exact itoa_len (n := (b.size : Int)) (by omega) (by omega)
        have HDC : Hid (∀ wx, Calls Tryz.prog 44 #[.int .i64 (b.size : Int)] wx fun e w' => e = .returned (.string D) ∧ Below wx.heap.size wx w') := Lib.hid fun wx => by
          rw [hD]; exact rdecimal_any (b.size : Int) wx (by omega) (by omega)
        obtain ⟨P1, hP1⟩ : ∃ E : ByteArray, E = ⟨#[67, 111, 110, 116, 101, 110, 116, 45, 76, 101, 110, 103, 116, 104, 58, 32]⟩ ++ D := ⟨_, rfl⟩
        obtain ⟨P2, hP2⟩ : ∃ E : ByteArray, E = P1 ++ ⟨#[13, 10]⟩ := ⟨_, rfl⟩
        obtain ⟨O3, hO3⟩ : ∃ E : ByteArray, E = O ++ P2 := ⟨_, rfl⟩
        have zP1 : P1.size = 16 + D.size := by rw [hP1, ByteArray.size_append]; rfl
        have zP2 : P2.size = P1.size + 2 := by rw [hP2, ByteArray.size_append]; rfl
        have zO3 : O3.size = O.size + P2.size := by rw [hO3, ByteArray.size_append]
        have sP1 : ∀ wx, (Op.stringOp .add ⟨#[67, 111, 110, 116, 101, 110, 116, 45, 76, 101, 110, 103, 116, 104, 58, 32]⟩ D).run Tryz.prog wx = .ok (.string P1) wx := fun wx => by rw [hP1]; exact run_string_add_sum wx _ _ (by have e0 : (⟨#[67, 111, 110, 116, 101, 110, 116, 45, 76, 101, 110, 103, 116, 104, 58, 32]⟩ : ByteArray).size = 16 := rfl; omega)
        have sP2 : ∀ wx, (Op.stringOp .add P1 ⟨#[13, 10]⟩).run Tryz.prog wx = .ok (.string P2) wx := fun wx => by rw [hP2]; exact run_string_add_sum wx _ _ (by have e0 : (⟨#[13, 10]⟩ : ByteArray).size = 2 := rfl; omega)
        have sO3 : ∀ wx, (Op.stringOp .add O P2).run Tryz.prog wx = .ok (.string O3) wx := fun wx => by rw [hO3]; exact run_string_add_sum wx _ _ (by omega)
        have HO3 : Hid (bs O3 = linesB (headLs (bs st) xs (b.size : Int))) := Lib.hid (by
          rw [hO3, cat6, hP2, cat6, hP1, cat6, HO4.out, lines_head, ← HUS.out, clLs_yes (by omega), hD]; simp [bs])
        have zP2b : P2.size ≤ 60 := by omega
        clear hD hP1 hP2 hO3 zP1 zP2
        obtain ⟨O4, hO4⟩ : ∃ E : ByteArray, E = O3 ++ ⟨#[13, 10]⟩ := ⟨_, rfl⟩
        have zO4 : O4.size = O3.size + 2 := by rw [hO4, ByteArray.size_append]; rfl
        have sO4 : ∀ wx, (Op.stringOp .add O3 ⟨#[13, 10]⟩).run Tryz.prog wx = .ok (.string O4) wx := fun wx => by rw [hO4]; exact run_string_add_sum wx _ _ (by have e0 : (⟨#[13, 10]⟩ : ByteArray).size = 2 := rfl; omega)
        have HO5 : Hid (bs O4 = linesB (headLs (bs st) xs (b.size : Int)) ++ [13, 10]) := Lib.hid (by rw [hO4, cat6, HO3.out])
        have zz : (linesB (headLs (bs st) xs (b.size : Int))).length + 2 = O4.size := by
          have h := congrArg List.length HO5.out
          rw [List.length_append] at h
          exact h.symm.trans (bs_length O4)
        have HZ := Lib.hid zz
        clear hO4 zz
        by_cases h16 : 16000 < (O4.size : Int)
        · have HF : Hid (R = []) := Lib.hid (by rw [HRR.out]; exact if_pos (by have := HZ.out; simp only [Bool.false_eq_true, if_false, if_true]; omega))
          go_wp2_with fail
          refine (HDC.out _).mono ?_
          rintro e w4 ⟨rfl, hb4⟩
          go_wp2_with fail
          go_ret
          exact ⟨by rw [HF.out]; rfl, step_b hbw hb4⟩
        cases whole with
        | false =>
          have HF : Hid ((⟨R.toArray⟩ : ByteArray) = O4) := Lib.hid (by
            rw [HRR.out, if_neg (by have := HZ.out; simp only [Bool.false_eq_true, if_false, if_true]; omega)]
            simp only [Bool.false_eq_true, if_false, if_true]
            apply ByteArray.ext
            apply Array.ext'
            exact HO5.out.symm)
          go_wp2_with fail
          refine (HDC.out _).mono ?_
          rintro e w4 ⟨rfl, hb4⟩
          go_wp2_with fail
          go_ret
          exact ⟨by rw [HF.out]; rfl, step_b hbw hb4⟩
        | true =>
          obtain ⟨O6, hO6⟩ : ∃ E : ByteArray, E = O4 ++ b := ⟨_, rfl⟩
          have zO6 : O6.size = O4.size + b.size := by rw [hO6, ByteArray.size_append]
          have sO6 : ∀ wx, (Op.stringOp .add O4 b).run Tryz.prog wx = .ok (.string O6) wx := fun wx => by rw [hO6]; exact run_string_add_sum wx _ _ (by omega)
          have HF : Hid ((⟨R.toArray⟩ : ByteArray) = O6) := Lib.hid (by
            rw [HRR.out, if_neg (by have := HZ.out; simp only [Bool.false_eq_true, if_false, if_true]; omega)]
            simp only [Bool.false_eq_true, if_false, if_true]
            apply ByteArray.ext
            apply Array.ext'
            show _ = bs O6
            rw [hO6, cat6, HO5.out]; simp [bs])
          clear hO6
          go_wp2_with fail
          refine (HDC.out _).mono ?_
          rintro e w4 ⟨rfl, hb4⟩
          go_wp2_with fail
          go_ret
          exact ⟨by rw [HF.out]; rfl, step_b hbw hb4⟩
end Go.Proofs.YtfnmohaddkoalaaGreatDoor
namespace Go.Proofs.YtfnmohaddkoalaaGreatDoor
open Go.RowKit

set_option maxHeartbeats 400000 in
theorem rvisible_any (s : ByteArray) (w : World) (hs : s.size ≤ 9223372036854775807) :
    Calls Tryz.prog 67 #[.string s] w fun e w' => e = .returned (.bool (visB (bs s))) ∧ w = w' := by
  go_enter Tryz.func67, Tryz.ntmps67
  go_wp2
  go_loop [3] (fun j => ∃ k : Nat, k ≤ s.size ∧ j = .int .i64 k ∧ Hid ((bs s).all visC = ((bs s).drop k).all visC)) (fun j => s.size - (intOf j).toNat)
  case atStart => exact ⟨0, by omega, rfl, Lib.hid rfl⟩
  case round =>
    obtain ⟨k, hk, rfl, H⟩ := hrel
    by_cases hlt : k < s.size
    · have Hs := Lib.hid (all_step visC s hlt)
      by_cases h1 : 33 ≤ s[k].toNat
      · have k1 : ¬ (s[k].toNat : Int) < 33 := by omega
        by_cases h2 : s[k].toNat ≤ 126
        · have k2 : ¬ 126 < (s[k].toNat : Int) := by omega
          have hd := Lib.hid (visC_true ⟨h1, h2⟩)
          clear h1 h2
          go_wp2
          go_round
          case rel => exact ⟨k + 1, by omega, by go_num, Lib.hid (by rw [H.out, Hs.out, hd.out]; rfl)⟩
          case measure => simp [intOf]; omega
        · have k2 : 126 < (s[k].toNat : Int) := by omega
          have hd := Lib.hid (visC_false (c := s[k]) fun h => h2 h.2)
          clear h1 h2
          go_wp2
          go_ret
          exact ⟨ret_bool (by unfold visB; rw [H.out, Hs.out, hd.out]; rfl), rfl⟩
      · have k1 : (s[k].toNat : Int) < 33 := by omega
        have hd := Lib.hid (visC_false (c := s[k]) fun h => h1 h.1)
        clear h1
        go_wp2
        go_ret
        exact ⟨ret_bool (by unfold visB; rw [H.out, Hs.out, hd.out]; rfl), rfl⟩
    · have He := Lib.hid (all_end visC s (k := k) (by omega))
      go_wp2
      go_ret
      exact ⟨ret_bool (by unfold visB; rw [H.out, He.out]; simp [Lib.toList_data]), rfl⟩
end Go.Proofs.YtfnmohaddkoalaaGreatDoor
namespace Go.Proofs.YtfnmohaddkoalaaGreatDoor
open Go.RowKit

def rverV (l : List UInt8) : Value := .tuple #[.int .i64 (verN l), .int .i64 (verE l)]
theorem rverV_one {l : List UInt8} (h : verForm l = false) : rverV l = .tuple #[.int .i64 0, .int .i64 1] := by
  have e : verE l = 1 := by unfold verE; rw [h]; rfl
  unfold rverV verN; rw [e]; rfl
theorem rverV_three {l : List UInt8} (h : verForm l = true) (h' : ¬ (l.getD 5 0 = 49 ∧ (l.getD 7 0).toNat ≤ 49)) : rverV l = .tuple #[.int .i64 0, .int .i64 3] := by
  have e : verE l = 3 := by unfold verE; rw [if_pos h, if_neg h']
  unfold rverV verN; rw [e]; rfl
theorem rverV_zero {l : List UInt8} (h : verForm l = true) (h' : l.getD 5 0 = 49 ∧ (l.getD 7 0).toNat ≤ 49) : rverV l = .tuple #[.int .i64 (((l.getD 7 0).toNat : Int) - 48), .int .i64 0] := by
  have e : verE l = 0 := by unfold verE; rw [if_pos h, if_pos h']
  unfold rverV verN; rw [e]; rfl
set_option maxHeartbeats 1600000 in
theorem rversion_any (s : ByteArray) (w : World) :
    Calls Tryz.prog 68 #[.string s] w fun e w' => e = .returned (rverV (bs s)) ∧ w = w' := by
  by_cases h8 : s.size = 8
  · have HA := Lib.hid (verForm_at s h8)
    by_cases h5 : (s.extract 0 5).toList = httpL
    · have h5' : (s.extract 0 5).toList = [72, 84, 84, 80, 47] := h5
      cases d5 : digB s[5] with
      | false =>
        have HF := Lib.hid (rverV_one (l := bs s) (by rw [HA.out, d5]; simp))
        clear h5
        go_enter Tryz.func68, Tryz.ntmps68
        go_wp2_with (go_at_call 88; refine (digit_any _ _).mono ?_; rintro e w' ⟨rfl, rfl⟩)
        go_ret2
        exact ⟨by rw [HF.out]; rfl, rfl⟩
      | true =>
        by_cases h6 : s[6] = 46
        · have k6 : ((s[6].toNat : Int) != 46) = false := u8_bf (n := 46) (by decide) h6
          cases d7 : digB s[7] with
          | false =>
            have HF := Lib.hid (rverV_one (l := bs s) (by rw [HA.out, d7]; simp))
            clear h5 h6
            go_enter Tryz.func68, Tryz.ntmps68
            go_wp2_with (go_at_call 88; refine (digit_any _ _).mono ?_; rintro e w' ⟨rfl, rfl⟩)
            go_ret2
            exact ⟨by rw [HF.out]; rfl, rfl⟩
          | true =>
            have HT : Hid (verForm (bs s) = true) := Lib.hid (by rw [HA.out, h5, d5, d7, h6]; rfl)
            have G5 := Lib.hid (getD_bs s (k := 5) (by omega))
            have G7 := Lib.hid (getD_bs s (k := 7) (by omega))
            obtain ⟨b7, b7'⟩ := of_digB d7
            clear h5 h6
            by_cases h49 : s[5] = 49
            · have k5 : ((s[5].toNat : Int) != 49) = false := u8_bf (n := 49) (by decide) h49
              by_cases h7 : s[7].toNat ≤ 49
              · have HF := Lib.hid (rverV_zero (l := bs s) HT.out ⟨by rw [G5.out]; exact h49, by rw [G7.out]; exact h7⟩)
                have k7 : ¬ 49 < (s[7].toNat : Int) := by omega
                clear h49
                go_enter Tryz.func68, Tryz.ntmps68
                go_wp2_with (go_at_call 88; refine (digit_any _ _).mono ?_; rintro e w' ⟨rfl, rfl⟩)
                go_ret2
                exact ⟨by rw [HF.out, G7.out]; rfl, rfl⟩
              · have HF := Lib.hid (rverV_three (l := bs s) HT.out fun h => h7 (by have := h.2; rw [G7.out] at this; exact this))
                have k7 : 49 < (s[7].toNat : Int) := by omega
                clear h49 h7
                go_enter Tryz.func68, Tryz.ntmps68
                go_wp2_with (go_at_call 88; refine (digit_any _ _).mono ?_; rintro e w' ⟨rfl, rfl⟩)
                go_ret2
                exact ⟨by rw [HF.out]; rfl, rfl⟩
            · have HF := Lib.hid (rverV_three (l := bs s) HT.out fun h => h49 (by have := h.1; rw [G5.out] at this; exact this))
              have k5 : ((s[5].toNat : Int) != 49) = true := u8_bt (n := 49) (by decide) h49
              clear h49
              go_enter Tryz.func68, Tryz.ntmps68
              go_wp2_with (go_at_call 88; refine (digit_any _ _).mono ?_; rintro e w' ⟨rfl, rfl⟩)
              go_ret2
              exact ⟨by rw [HF.out]; rfl, rfl⟩
        · have HF := Lib.hid (rverV_one (l := bs s) (by rw [HA.out, beq_eq_false_iff_ne.2 h6]; simp))
          have k6 : ((s[6].toNat : Int) != 46) = true := u8_bt (n := 46) (by decide) h6
          clear h5 h6
          go_enter Tryz.func68, Tryz.ntmps68
          go_wp2_with (go_at_call 88; refine (digit_any _ _).mono ?_; rintro e w' ⟨rfl, rfl⟩)
          go_ret2
          exact ⟨by rw [HF.out]; rfl, rfl⟩
    · have HF := Lib.hid (rverV_one (l := bs s) (by rw [HA.out, beq_eq_false_iff_ne.2 h5]; simp))
      have h5' : ¬ (s.extract 0 5).toList = [72, 84, 84, 80, 47] := h5
      clear h5
      go_enter Tryz.func68, Tryz.ntmps68
      go_wp2_with (go_at_call 88; refine (digit_any _ _).mono ?_; rintro e w' ⟨rfl, rfl⟩)
      go_ret2
      exact ⟨by rw [HF.out]; rfl, rfl⟩
  · have HF := Lib.hid (rverV_one (verForm_size s h8))
    have h8' : ((s.size : Int) != 8) = true := by simp; omega
    clear h8
    go_enter Tryz.func68, Tryz.ntmps68
    go_wp2_with (go_at_call 88; refine (digit_any _ _).mono ?_; rintro e w' ⟨rfl, rfl⟩)
    go_ret2
    exact ⟨by rw [HF.out]; rfl, rfl⟩
theorem reqL_noline {l : List UInt8} (h : ¬ 2000 < l.length) (hp : cutB 32 l = (l, [], false)) : reqL l = ([], [], 0, 1) :=
  reqL_bad h hp (cutB_nil 32) (by simp [visB])
theorem reqL_noend {l p1 p2 : List UInt8} {p3 : Bool} (h : ¬ 2000 < l.length) (hp : cutB 32 l = (p1, p2, p3)) (hq : cutB 32 p2 = (p2, [], false)) : reqL l = ([], [], 0, 1) := by
  cases hb : tokenB p1 && visB p2 with
  | false => exact reqL_bad h hp hq hb
  | true => exact reqL_ver h hp hq hb (by decide)
set_option maxHeartbeats 1600000 in
theorem rparseReq_any (s : ByteArray) (w : World) (hs : s.size ≤ 100000000) :
    Calls Tryz.prog 45 #[.string s] w fun e w' => e = .returned (reqV (reqL (bs s))) ∧ Below w.heap.size w w' := by
  by_cases hl : 2000 < s.size
  · have HF := Lib.hid (reqL_long (l := bs s) (by rw [bs_length]; exact hl))
    have hl' : 2000 < (s.size : Int) := by omega
    go_enter Tryz.func45, Tryz.ntmps45
    go_wp2_with fail
    refine bodyPost_ret (results_tmp4 rfl _ _ _) rfl ?_
    exact ⟨by rw [HF.out]; rfl, Below.refl _ _⟩
  have HL := Lib.hid (show ¬ 2000 < (bs s).length by rw [bs_length]; exact hl)
  have hl' : ¬ 2000 < (s.size : Int) := by omega
  rcases idxFrom_bd 32 (bs s) 0 with ⟨hi, hc⟩ | ⟨i, hi, _, hi2, hc⟩
  · have HI := Lib.hid hi
    have HF := Lib.hid (reqL_noline HL.out hc)
    clear hi hc
    go_enter Tryz.func45, Tryz.ntmps45
    go_wp2_with fail
    refine (index_any s 32 0 _ _ _ rfl rfl (by omega) (by omega)).mono ?_
    rintro e w' ⟨rfl, rfl⟩
    rw [HI.out]
    go_wp2_with fail
    refine bodyPost_ret (results_tmp4 rfl _ _ _) rfl ?_
    exact ⟨by rw [HF.out]; rfl, Below.refl _ _⟩
  rw [bs_length] at hi2
  rw [List.drop_zero] at hc
  simp only [Nat.sub_zero] at hc
  have HI := Lib.hid hi
  have HP := Lib.hid hc
  clear hi hc
  rcases idxFrom_bd 32 (bs s) (i + 1) with ⟨hj, hd⟩ | ⟨j, hj, hj1, hj2, hd⟩
  · have HJ := Lib.hid hj
    have HF := Lib.hid (reqL_noend HL.out HP.out hd)
    clear hj hd
    go_enter Tryz.func45, Tryz.ntmps45
    go_wp2_with fail
    refine (index_any s 32 0 _ _ _ rfl rfl (by omega) (by omega)).mono ?_
    rintro e w' ⟨rfl, rfl⟩
    rw [HI.out]
    go_wp2_with fail
    refine (index_any s 32 (i + 1) _ _ _ rfl (by omega) (by omega) (by omega)).mono ?_
    rintro e w' ⟨rfl, rfl⟩
    rw [HJ.out]
    go_wp2_with fail
    refine bodyPost_ret (results_tmp4 rfl _ _ _) rfl ?_
    exact ⟨by rw [HF.out]; rfl, Below.refl _ _⟩
  rw [bs_length] at hj2
  have HJ := Lib.hid hj
  have HQ := Lib.hid hd
  clear hj hd
  obtain ⟨x1, HX1⟩ : ∃ x, Hid (x = s.extract 0 i) := ⟨_, Lib.hid rfl⟩
  obtain ⟨x2, HX2⟩ : ∃ x, Hid (x = s.extract (i + 1) j) := ⟨_, Lib.hid rfl⟩
  obtain ⟨x3, HX3⟩ : ∃ x, Hid (x = s.extract (j + 1) s.size) := ⟨_, Lib.hid rfl⟩
  have z1 : x1.size ≤ s.size := by rw [HX1.out, ByteArray.size_extract]; omega
  have z2 : x2.size ≤ s.size := by rw [HX2.out, ByteArray.size_extract]; omega
  have hx1 : bs x1 = (bs s).take i := by rw [HX1.out, bs_take]
  have hx2 : bs x2 = ((bs s).drop (i + 1)).take (j - (i + 1)) := by rw [HX2.out, bs_mid_ix]
  have hx3 : bs x3 = (bs s).drop (j + 1) := by rw [HX3.out, bs_from]
  have HP' : Hid (cutB 32 (bs s) = (bs x1, (bs s).drop (i + 1), true)) := Lib.hid (by rw [hx1]; exact HP.out)
  have HQ' : Hid (cutB 32 ((bs s).drop (i + 1)) = (bs x2, bs x3, true)) := Lib.hid (by rw [hx2, hx3]; exact HQ.out)
  clear hx1 hx2 hx3 HP HQ
  have s1 : ∀ wx, (Instr.slice 9 (.string s) none (some (.int .i64 (i : Int))) none).run Tryz.prog wx = .ok (.string x1) wx := fun wx => by
    rw [HX1.out]; exact run_slice_string_h wx 9 s Tryz.underlying9 .i64 i (by omega) (by omega)
  have s2 : ∀ wx, (Instr.slice 9 (.string s) (some (.int .i64 ((i : Int) + 1))) (some (.int .i64 (j : Int))) none).run Tryz.prog wx = .ok (.string x2) wx := fun wx => by
    rw [HX2.out, run_slice_string_if (h := Tryz.underlying9), if_pos ⟨by omega, by omega⟩, if_pos ⟨by omega, by omega⟩]
    rw [show ((i : Int) + 1).toNat = i + 1 from by omega, Int.toNat_natCast]
  have s3 : ∀ wx, (Instr.slice 9 (.string s) (some (.int .i64 ((j : Int) + 1))) none none).run Tryz.prog wx = .ok (.string x3) wx := fun wx => by
    rw [HX3.out, run_slice_string_l wx 9 s Tryz.underlying9 .i64 ((j : Int) + 1) (by omega) (by omega)]
    rw [show ((j : Int) + 1).toNat = j + 1 from by omega]
  cases ht : tokenB (bs x1) with
  | false =>
    have HT := Lib.hid ht
    have HF := Lib.hid (reqL_bad HL.out HP'.out HQ'.out (by rw [ht]; rfl))
    clear ht
    go_enter Tryz.func45, Tryz.ntmps45
    go_wp2_with fail
    refine (index_any s 32 0 _ _ _ rfl rfl (by omega) (by omega)).mono ?_
    rintro e w' ⟨rfl, rfl⟩
    rw [HI.out]
    go_wp2_with fail
    refine (index_any s 32 (i + 1) _ _ _ rfl (by omega) (by omega) (by omega)).mono ?_
    rintro e w' ⟨rfl, rfl⟩
    rw [HJ.out]
    go_wp2_with fail
    refine (rtoken_any x1 _ (by omega)).mono ?_
    rintro e w' ⟨rfl, rfl⟩
    rw [HT.out]
    go_wp2_with fail
    refine bodyPost_ret (results_tmp4 rfl _ _ _) rfl ?_
    exact ⟨by rw [HF.out]; rfl, Below.refl _ _⟩
  | true =>
    have HT := Lib.hid ht
    cases hv : visB (bs x2) with
    | false =>
      have HV := Lib.hid hv
      have HF := Lib.hid (reqL_bad HL.out HP'.out HQ'.out (by rw [ht, hv]; rfl))
      clear ht hv
      go_enter Tryz.func45, Tryz.ntmps45
      go_wp2_with fail
      refine (index_any s 32 0 _ _ _ rfl rfl (by omega) (by omega)).mono ?_
      rintro e w' ⟨rfl, rfl⟩
      rw [HI.out]
      go_wp2_with fail
      refine (index_any s 32 (i + 1) _ _ _ rfl (by omega) (by omega) (by omega)).mono ?_
      rintro e w' ⟨rfl, rfl⟩
      rw [HJ.out]
      go_wp2_with fail
      refine (rtoken_any x1 _ (by omega)).mono ?_
      rintro e w' ⟨rfl, rfl⟩
      rw [HT.out]
      go_wp2_with fail
      refine (rvisible_any x2 _ (by omega)).mono ?_
      rintro e w' ⟨rfl, rfl⟩
      rw [HV.out]
      go_wp2_with fail
      refine bodyPost_ret (results_tmp4 rfl _ _ _) rfl ?_
      exact ⟨by rw [HF.out]; rfl, Below.refl _ _⟩
    | true =>
      have HV := Lib.hid hv
      have HB : Hid ((tokenB (bs x1) && visB (bs x2)) = true) := Lib.hid (by rw [ht, hv]; rfl)
      clear ht hv
      by_cases h0 : verE (bs x3) = 0
      · have HR : Hid (rverV (bs x3) = .tuple #[.int .i64 (verN (bs x3)), .int .i64 0]) := Lib.hid (by unfold rverV; rw [h0])
        have HF := Lib.hid (reqL_ok HL.out HP'.out HQ'.out HB.out h0)
        clear h0
        go_enter Tryz.func45, Tryz.ntmps45
        go_wp2_with fail
        refine (index_any s 32 0 _ _ _ rfl rfl (by omega) (by omega)).mono ?_
        rintro e w' ⟨rfl, rfl⟩
        rw [HI.out]
        go_wp2_with fail
        refine (index_any s 32 (i + 1) _ _ _ rfl (by omega) (by omega) (by omega)).mono ?_
        rintro e w' ⟨rfl, rfl⟩
        rw [HJ.out]
        go_wp2_with fail
        refine (rtoken_any x1 _ (by omega)).mono ?_
        rintro e w' ⟨rfl, rfl⟩
        rw [HT.out]
        go_wp2_with fail
        refine (rvisible_any x2 _ (by omega)).mono ?_
        rintro e w' ⟨rfl, rfl⟩
        rw [HV.out]
        go_wp2_with fail
        refine (rversion_any x3 _).mono ?_
        rintro e w' ⟨rfl, rfl⟩
        rw [HR.out]
        go_wp2_with fail
        go_quiet (fail)
        go_wp2_with fail
        refine bodyPost_ret (results_tmp4 rfl _ _ _) rfl ?_
        exact ⟨by rw [HF.out]; show _ = Ending.returned (Value.tuple #[.string ⟨(bs x1).toArray⟩, .string ⟨(bs x2).toArray⟩, _, _]); rw [← of_bs (s := x1) rfl, ← of_bs (s := x2) rfl]; rfl, below_draws w _⟩
      · obtain ⟨ve, hve⟩ : ∃ v, verE (bs x3) = v := ⟨_, rfl⟩
        have hn : ve ≠ 0 := by rw [← hve]; exact h0
        have HR : Hid (rverV (bs x3) = .tuple #[.int .i64 0, .int .i64 ve]) := Lib.hid (by unfold rverV verN; rw [if_neg h0, hve])
        have HF := Lib.hid ((reqL_ver HL.out HP'.out HQ'.out HB.out h0).trans (by rw [hve]))
        have kn : (ve != 0) = true := bne_iff_ne.2 hn
        clear h0 hve hn
        go_enter Tryz.func45, Tryz.ntmps45
        go_wp2_with fail
        refine (index_any s 32 0 _ _ _ rfl rfl (by omega) (by omega)).mono ?_
        rintro e w' ⟨rfl, rfl⟩
        rw [HI.out]
        go_wp2_with fail
        refine (index_any s 32 (i + 1) _ _ _ rfl (by omega) (by omega) (by omega)).mono ?_
        rintro e w' ⟨rfl, rfl⟩
        rw [HJ.out]
        go_wp2_with fail
        refine (rtoken_any x1 _ (by omega)).mono ?_
        rintro e w' ⟨rfl, rfl⟩
        rw [HT.out]
        go_wp2_with fail
        refine (rvisible_any x2 _ (by omega)).mono ?_
        rintro e w' ⟨rfl, rfl⟩
        rw [HV.out]
        go_wp2_with fail
        refine (rversion_any x3 _).mono ?_
        rintro e w' ⟨rfl, rfl⟩
        rw [HR.out]
        go_wp2_with fail
        refine bodyPost_ret (results_tmp4 rfl _ _ _) rfl ?_
        exact ⟨by rw [HF.out]; rfl, Below.refl _ _⟩
end Go.Proofs.YtfnmohaddkoalaaGreatDoor
namespace Go.Proofs.YtfnmohaddkoalaaGreatDoor
open Go.RowKit

theorem statAt_at (s : ByteArray) (h : 13 ≤ s.size) : statAt (bs s) = (s[8] == 32 && (decide (49 ≤ s[9].toNat) && (decide (s[9].toNat ≤ 53) && (digB s[10] && (digB s[11] && (s[12] == 32 && textB ((bs s).drop 13))))))) := by
  unfold statAt
  rw [bs_length, getD_bs s (by omega), getD_bs s (by omega), getD_bs s (by omega), getD_bs s (by omega), getD_bs s (by omega)]
  simp [h]
theorem statAt_short (s : ByteArray) (h : s.size < 13) : statAt (bs s) = false := by
  unfold statAt
  rw [bs_length]
  simp; omega
set_option maxHeartbeats 3200000 in
theorem rparseStat_any (s : ByteArray) (w : World) (hs : s.size ≤ 100000000) :
    Calls Tryz.prog 62 #[.string s] w fun e w' => e = .returned (statV (statL (bs s))) ∧ Below w.heap.size w w' := by
  by_cases hl : 2000 < s.size
  · have HF := Lib.hid (statL_long (l := bs s) (by rw [bs_length]; exact hl))
    have hl' : 2000 < (s.size : Int) := by omega
    go_enter Tryz.func62, Tryz.ntmps62
    go_wp2_with fail
    refine bodyPost_ret (results_tmp4 rfl _ _ _) rfl ?_
    exact ⟨by rw [HF.out]; rfl, Below.refl _ _⟩
  have HL := Lib.hid (show ¬ 2000 < (bs s).length by rw [bs_length]; exact hl)
  have hl' : ¬ 2000 < (s.size : Int) := by omega
  by_cases h13 : s.size < 13
  · have HF := Lib.hid (stat_err HL.out fun h => by have := h.1; rw [statAt_short s h13] at this; cases this)
    have h13' : (s.size : Int) < 13 := by omega
    go_enter Tryz.func62, Tryz.ntmps62
    go_wp2_with fail
    refine bodyPost_ret (results_tmp4 rfl _ _ _) rfl ?_
    exact ⟨by rw [HF.out]; rfl, Below.refl _ _⟩
  have h13' : ¬ (s.size : Int) < 13 := by omega
  have HA := Lib.hid (statAt_at s (by omega))
  have z8 : 8 < s.size := by omega
  have z9 : 9 < s.size := by omega
  have z10 : 10 < s.size := by omega
  have z11 : 11 < s.size := by omega
  have z12 : 12 < s.size := by omega
  obtain ⟨x, HX⟩ : ∃ x, Hid (x = s.extract 13 s.size) := ⟨_, Lib.hid rfl⟩
  have hx : bs x = (bs s).drop 13 := by rw [HX.out, bs_from]
  have zx : x.size ≤ s.size := by rw [HX.out, ByteArray.size_extract]; omega
  have HXB := Lib.hid hx
  clear hx
  have sx : ∀ wx, (Instr.slice 9 (.string s) (some (.int .i64 13)) none none).run Tryz.prog wx = .ok (.string x) wx := fun wx => by
    rw [HX.out]; exact run_slice_string_l wx 9 s Tryz.underlying9 .i64 13 (by omega) (by omega)
  by_cases k8 : s[8] = 32
  · have f8 : ((s[8].toNat : Int) != 32) = false := u8_bf (n := 32) (by decide) k8
    by_cases k9 : 49 ≤ s[9].toNat
    · have f9 : ¬ (s[9].toNat : Int) < 49 := by omega
      by_cases k9' : s[9].toNat ≤ 53
      · have f9' : ¬ 53 < (s[9].toNat : Int) := by omega
        cases d10 : digB s[10] with
        | false =>
          have HF := Lib.hid (stat_err HL.out fun h => by have := h.1; rw [HA.out, d10] at this; simp at this)
          clear k8 k9 k9'
          go_enter Tryz.func62, Tryz.ntmps62
          go_wp2_with (first | (go_at_call 88; refine (digit_any _ _).mono ?_; rintro e w' ⟨rfl, rfl⟩))
          refine bodyPost_ret (results_tmp4 rfl _ _ _) rfl ?_
          exact ⟨by rw [HF.out]; rfl, Below.refl _ _⟩
        | true =>
          cases d11 : digB s[11] with
          | false =>
            have HF := Lib.hid (stat_err HL.out fun h => by have := h.1; rw [HA.out, d11] at this; simp at this)
            clear k8 k9 k9'
            go_enter Tryz.func62, Tryz.ntmps62
            go_wp2_with (first | (go_at_call 88; refine (digit_any _ _).mono ?_; rintro e w' ⟨rfl, rfl⟩))
            refine bodyPost_ret (results_tmp4 rfl _ _ _) rfl ?_
            exact ⟨by rw [HF.out]; rfl, Below.refl _ _⟩
          | true =>
            by_cases k12 : s[12] = 32
            · have f12 : ((s[12].toNat : Int) != 32) = false := u8_bf (n := 32) (by decide) k12
              cases ht : textB (bs x) with
              | false =>
                have HT := Lib.hid ht
                have ht' : textB ((bs s).drop 13) = false := by rw [← HXB.out]; exact ht
                have HF := Lib.hid (stat_err HL.out fun h => by have := h.1; rw [HA.out, ht'] at this; simp at this)
                clear k8 k9 k9' k12 ht ht'
                go_enter Tryz.func62, Tryz.ntmps62
                go_wp2_with (first | (go_at_call 88; refine (digit_any _ _).mono ?_; rintro e w' ⟨rfl, rfl⟩))
                refine (rtext_any x _ (by omega)).mono ?_
                rintro e w' ⟨rfl, rfl⟩
                rw [HT.out]
                go_wp2_with fail
                refine bodyPost_ret (results_tmp4 rfl _ _ _) rfl ?_
                exact ⟨by rw [HF.out]; rfl, Below.refl _ _⟩
              | true =>
                have HT := Lib.hid ht
                have HS : Hid (statAt (bs s) = true) := Lib.hid (by rw [HA.out, d10, d11, k8, k12, ← HXB.out, ht]; simp; omega)
                obtain ⟨y, HY⟩ : ∃ y, Hid (y = s.extract 0 8) := ⟨_, Lib.hid rfl⟩
                have HYB : Hid (bs y = (bs s).take 8) := Lib.hid (by rw [HY.out, bs_take])
                have sy : ∀ wx, (Instr.slice 9 (.string s) none (some (.int .i64 8)) none).run Tryz.prog wx = .ok (.string y) wx := fun wx => by
                  rw [HY.out]; exact run_slice_string_h wx 9 s Tryz.underlying9 .i64 8 (by omega) (by omega)
                clear k8 k9 k9' k12 ht
                by_cases h0 : verE (bs y) = 0
                · have hf : verForm ((bs s).take 8) = true := by
                    cases hh : verForm ((bs s).take 8) with
                    | true => rfl
                    | false => rw [HYB.out] at h0; unfold verE at h0; rw [hh] at h0; cases h0
                  have HF := Lib.hid (stat_ok HL.out HS.out hf (by rw [← HYB.out]; exact h0))
                  have HR : Hid (rverV (bs y) = .tuple #[.int .i64 (verN (bs y)), .int .i64 0]) := Lib.hid (by unfold rverV; rw [h0])
                  obtain ⟨n, HN⟩ : ∃ n, Hid (n = s.extract 9 12) := ⟨_, Lib.hid rfl⟩
                  have zn : n.size ≤ s.size := by rw [HN.out, ByteArray.size_extract]; omega
                  have HNB : Hid (bs n = ((bs s).drop 9).take 3) := Lib.hid (by rw [HN.out, bs_mid_ix])
                  obtain ⟨nb, hnv⟩ := numV_stat (bs n)
                  have HNV := Lib.hid hnv
                  have sn : ∀ wx, (Instr.slice 9 (.string s) (some (.int .i64 9)) (some (.int .i64 12)) none).run Tryz.prog wx = .ok (.string n) wx := fun wx => by
                    rw [HN.out, run_slice_string_if (h := Tryz.underlying9), if_pos ⟨by omega, by omega⟩, if_pos ⟨by omega, by omega⟩]; rfl
                  clear h0 hf hnv
                  go_enter Tryz.func62, Tryz.ntmps62
                  go_wp2_with (first | (go_at_call 88; refine (digit_any _ _).mono ?_; rintro e w' ⟨rfl, rfl⟩))
                  refine (rtext_any x _ (by omega)).mono ?_
                  rintro e w' ⟨rfl, rfl⟩
                  rw [HT.out]
                  go_wp2_with fail
                  refine (rversion_any y _).mono ?_
                  rintro e w' ⟨rfl, rfl⟩
                  rw [HR.out]
                  go_wp2_with fail
                  refine (rnumber_any n _ (by omega)).mono ?_
                  rintro e w' ⟨rfl, rfl⟩
                  rw [HNV.out]
                  go_wp2_with fail
                  go_quiet (fail)
                  go_wp2_with fail
                  refine bodyPost_ret (results_tmp4 rfl _ _ _) rfl ?_
                  exact ⟨by rw [HF.out]; show _ = Ending.returned (Value.tuple #[_, _, .string ⟨((bs s).drop 13).toArray⟩, _]); rw [← HXB.out, ← HYB.out, ← HNB.out, ← of_bs (s := x) rfl]; rfl, below_draws w _⟩
                · obtain ⟨ve, hve⟩ : ∃ v, verE (bs y) = v := ⟨_, rfl⟩
                  have HF : Hid (statL (bs s) = (0, 0, [], ve)) := Lib.hid (by
                    rw [← hve, HYB.out]
                    cases hh : verForm ((bs s).take 8) with
                    | true => exact stat_ver HL.out HS.out hh (by rw [← HYB.out]; exact h0)
                    | false => rw [stat_err HL.out (fun h => by have := h.2; rw [hh] at this; cases this)]; unfold verE; rw [hh]; rfl)
                  have HR : Hid (rverV (bs y) = .tuple #[.int .i64 0, .int .i64 ve]) := Lib.hid (by unfold rverV verN; rw [if_neg h0, hve])
                  have kn : (ve != 0) = true := bne_iff_ne.2 (by rw [← hve]; exact h0)
                  clear h0 hve
                  go_enter Tryz.func62, Tryz.ntmps62
                  go_wp2_with (first | (go_at_call 88; refine (digit_any _ _).mono ?_; rintro e w' ⟨rfl, rfl⟩))
                  refine (rtext_any x _ (by omega)).mono ?_
                  rintro e w' ⟨rfl, rfl⟩
                  rw [HT.out]
                  go_wp2_with fail
                  refine (rversion_any y _).mono ?_
                  rintro e w' ⟨rfl, rfl⟩
                  rw [HR.out]
                  go_wp2_with fail
                  refine bodyPost_ret (results_tmp4 rfl _ _ _) rfl ?_
                  exact ⟨by rw [HF.out]; rfl, Below.refl _ _⟩
            · have f12 : ((s[12].toNat : Int) != 32) = true := u8_bt (n := 32) (by decide) k12
              have HF := Lib.hid (stat_err HL.out fun h => by have := h.1; rw [HA.out, beq_eq_false_iff_ne.2 k12] at this; simp at this)
              clear k8 k9 k9' k12
              go_enter Tryz.func62, Tryz.ntmps62
              go_wp2_with (first | (go_at_call 88; refine (digit_any _ _).mono ?_; rintro e w' ⟨rfl, rfl⟩))
              refine bodyPost_ret (results_tmp4 rfl _ _ _) rfl ?_
              exact ⟨by rw [HF.out]; rfl, Below.refl _ _⟩
      · have f9' : 53 < (s[9].toNat : Int) := by omega
        have HF := Lib.hid (stat_err HL.out fun h => by have := h.1; rw [HA.out, decide_eq_false k9'] at this; simp at this)
        clear k8 k9 k9'
        go_enter Tryz.func62, Tryz.ntmps62
        go_wp2_with (first | (go_at_call 88; refine (digit_any _ _).mono ?_; rintro e w' ⟨rfl, rfl⟩))
        refine bodyPost_ret (results_tmp4 rfl _ _ _) rfl ?_
        exact ⟨by rw [HF.out]; rfl, Below.refl _ _⟩
    · have f9 : (s[9].toNat : Int) < 49 := by omega
      have HF := Lib.hid (stat_err HL.out fun h => by have := h.1; rw [HA.out, decide_eq_false k9] at this; simp at this)
      clear k8 k9
      go_enter Tryz.func62, Tryz.ntmps62
      go_wp2_with (first | (go_at_call 88; refine (digit_any _ _).mono ?_; rintro e w' ⟨rfl, rfl⟩))
      refine bodyPost_ret (results_tmp4 rfl _ _ _) rfl ?_
      exact ⟨by rw [HF.out]; rfl, Below.refl _ _⟩
  · have f8 : ((s[8].toNat : Int) != 32) = true := u8_bt (n := 32) (by decide) k8
    have HF := Lib.hid (stat_err HL.out fun h => by have := h.1; rw [HA.out, beq_eq_false_iff_ne.2 k8] at this; simp at this)
    clear k8
    go_enter Tryz.func62, Tryz.ntmps62
    go_wp2_with (first | (go_at_call 88; refine (digit_any _ _).mono ?_; rintro e w' ⟨rfl, rfl⟩))
    refine bodyPost_ret (results_tmp4 rfl _ _ _) rfl ?_
    exact ⟨by rw [HF.out]; rfl, Below.refl _ _⟩
end Go.Proofs.YtfnmohaddkoalaaGreatDoor
namespace Go.Proofs.YtfnmohaddkoalaaGreatDoor
open Go.RowKit

theorem itoa_any (n : Int) (w : World) (h0 : -9223372036854775808 ≤ n) (h1 : n ≤ 9223372036854775807) (htab : PowTab w) :
    Calls Tryz.prog 59 #[.int .i64 n] w fun e w' => e = .returned (.string ⟨(Lib.itoa n).toArray⟩) ∧ Below w.heap.size w w' :=
  (Tryz.strconv_Itoa n h0 h1 w htab).mono fun _ _ ⟨he, _, _, hw⟩ => ⟨he, by rw [hw]; exact Lib.below_grow _ _ (Nat.le_refl _) _ _⟩
theorem req_split (l : List UInt8) : ∃ x1 x2 n e, reqV (reqL l) = .tuple #[.string x1, .string x2, .int .i64 n, .int .i64 e] ∧ reqL l = (bs x1, bs x2, n, e) := ⟨⟨(reqL l).1.toArray⟩, ⟨(reqL l).2.1.toArray⟩, _, _, rfl, rfl⟩
theorem stat_split (l : List UInt8) : ∃ n e x r, statV (statL l) = .tuple #[.int .i64 n, .int .i64 e, .string x, .int .i64 r] ∧ statL l = (n, e, bs x, r) := ⟨_, _, ⟨(statL l).2.2.1.toArray⟩, _, rfl, rfl⟩
theorem req_text (a b : ByteArray) (v : Int) : bs (a ++ ⟨#[32]⟩ ++ b ++ ⟨#[32, 72, 84, 84, 80, 47, 49, 46]⟩ ++ ⟨(Lib.itoa v).toArray⟩) = reqLine (bs a) (bs b) v := by
  simp [bs, reqLine]
theorem stat_text (a : ByteArray) (v s : Int) : bs ((⟨#[72, 84, 84, 80, 47, 49, 46]⟩ : ByteArray) ++ ⟨(Lib.itoa v).toArray⟩ ++ ⟨#[32]⟩ ++ ⟨(Lib.itoa s).toArray⟩ ++ ⟨#[32]⟩ ++ a) = statLine v s (bs a) := by
  simp [bs, statLine]
theorem req_len (a b : ByteArray) (v : Int) : (reqLine (bs a) (bs b) v).length = a.size + b.size + (Lib.itoa v).length + 9 := by
  unfold reqLine
  simp only [List.length_append, bs_length, List.length_cons, List.length_nil]; omega
theorem stat_len (a : ByteArray) (v s : Int) : (statLine v s (bs a)).length = a.size + (Lib.itoa v).length + (Lib.itoa s).length + 9 := by
  unfold statLine
  simp only [List.length_append, bs_length, List.length_cons, List.length_nil]; omega
theorem str_ne {a b : ByteArray} (h : ¬ bs a = bs b) : ¬ a.toList = b.toList := by rw [Lib.toList_data, Lib.toList_data]; exact h
theorem str_eq {a b : ByteArray} (h : bs a = bs b) : a = b := ByteArray.ext (Array.toList_inj.1 h)
set_option maxHeartbeats 1600000 in
theorem fmtReq_any (a b : ByteArray) (v : Int) (w : World) (p q : Addr) (m : Int) (hE : StartEnv w p q m) (hT : PowTab w) (ha : a.size ≤ 10000000) (hb : b.size ≤ 10000000) (h0 : -9223372036854775808 ≤ v) (h1 : v ≤ 9223372036854775807) :
    Calls Tryz.prog 37 #[.string a, .string b, .int .i64 v] w fun e w' => e = .returned (.string ⟨(reqF (bs a) (bs b) v).toArray⟩) ∧ Below w.heap.size w w' := by
  have HE := Lib.hid hE
  have HT := Lib.hid hT
  clear hE hT
  have hz : (Lib.itoa v).length ≤ 21 := Lib.itoa_length_le _ h0 h1
  obtain ⟨x1, x2, n, e, hv, hr⟩ := req_split (reqLine (bs a) (bs b) v)
  have HV := Lib.hid hv
  clear hv
  by_cases hall : reqL (reqLine (bs a) (bs b) v) = (bs a, bs b, v, 0)
  · have HF : Hid (reqF (bs a) (bs b) v = reqLine (bs a) (bs b) v) := Lib.hid (by unfold reqF; rw [if_pos hall])
    rw [hr] at hall
    simp only [Prod.mk.injEq] at hall
    obtain ⟨e1, e2, rfl, rfl⟩ := hall
    obtain rfl := str_eq e1
    obtain rfl := str_eq e2
    clear hr e1 e2
    go_enter Tryz.func37, Tryz.ntmps37
    go_wp2_with fail
    refine (itoa_any n _ h0 h1 HT.out).mono ?_
    rintro e1 w1 ⟨rfl, hb1⟩
    go_wp2_with fail
    generalize hX : x1 ++ ⟨#[32]⟩ ++ x2 ++ ⟨#[32, 72, 84, 84, 80, 47, 49, 46]⟩ ++ ⟨(Lib.itoa n).toArray⟩ = X
    have HX : Hid (bs X = reqLine (bs x1) (bs x2) n) := Lib.hid (by rw [← hX]; exact req_text x1 x2 n)
    have zX : X.size ≤ 100000000 := by rw [← bs_length, HX.out, req_len x1 x2 n]; omega
    clear hX
    refine (parseReq_any X _ p q m (HE.out.below hb1) zX).mono ?_
    rintro e2 w2 ⟨rfl, hb2⟩
    rw [HX.out, HV.out]
    have b2 := below_step hb1 hb2
    clear hb1 hb2
    go_wp2_with fail
    go_ret
    exact ⟨by rw [HF.out, ← HX.out, ← of_bs (s := X) rfl]; rfl, b2⟩
  · have HF : Hid (reqF (bs a) (bs b) v = []) := Lib.hid (by unfold reqF; rw [if_neg hall])
    by_cases c0 : e = 0
    · subst c0
      by_cases c1 : bs x1 = bs a
      · obtain rfl := str_eq c1
        by_cases c2 : bs x2 = bs b
        · obtain rfl := str_eq c2
          have c3 : (n != v) = true := bne_iff_ne.2 fun e => hall (by rw [hr, e])
          clear hall hr c1 c2
          go_enter Tryz.func37, Tryz.ntmps37
          go_wp2_with fail
          refine (itoa_any v _ h0 h1 HT.out).mono ?_
          rintro e1 w1 ⟨rfl, hb1⟩
          go_wp2_with fail
          generalize hX : x1 ++ ⟨#[32]⟩ ++ x2 ++ ⟨#[32, 72, 84, 84, 80, 47, 49, 46]⟩ ++ ⟨(Lib.itoa v).toArray⟩ = X
          have HX : Hid (bs X = reqLine (bs x1) (bs x2) v) := Lib.hid (by rw [← hX]; exact req_text x1 x2 v)
          have zX : X.size ≤ 100000000 := by rw [← bs_length, HX.out, req_len x1 x2 v]; omega
          clear hX
          refine (parseReq_any X _ p q m (HE.out.below hb1) zX).mono ?_
          rintro e2 w2 ⟨rfl, hb2⟩
          rw [HX.out, HV.out]
          have b2 := below_step hb1 hb2
          clear hb1 hb2
          go_wp2_with fail
          go_ret
          exact ⟨by rw [HF.out]; rfl, b2⟩
        · have k2 := str_ne c2
          clear hall hr c1 c2
          go_enter Tryz.func37, Tryz.ntmps37
          go_wp2_with fail
          refine (itoa_any v _ h0 h1 HT.out).mono ?_
          rintro e1 w1 ⟨rfl, hb1⟩
          go_wp2_with fail
          generalize hX : x1 ++ ⟨#[32]⟩ ++ b ++ ⟨#[32, 72, 84, 84, 80, 47, 49, 46]⟩ ++ ⟨(Lib.itoa v).toArray⟩ = X
          have HX : Hid (bs X = reqLine (bs x1) (bs b) v) := Lib.hid (by rw [← hX]; exact req_text x1 b v)
          have zX : X.size ≤ 100000000 := by rw [← bs_length, HX.out, req_len x1 b v]; omega
          clear hX
          refine (parseReq_any X _ p q m (HE.out.below hb1) zX).mono ?_
          rintro e2 w2 ⟨rfl, hb2⟩
          rw [HX.out, HV.out]
          have b2 := below_step hb1 hb2
          clear hb1 hb2
          go_wp2_with fail
          go_ret
          exact ⟨by rw [HF.out]; rfl, b2⟩
      · have k1 := str_ne c1
        clear hall hr c1
        go_enter Tryz.func37, Tryz.ntmps37
        go_wp2_with fail
        refine (itoa_any v _ h0 h1 HT.out).mono ?_
        rintro e1 w1 ⟨rfl, hb1⟩
        go_wp2_with fail
        generalize hX : a ++ ⟨#[32]⟩ ++ b ++ ⟨#[32, 72, 84, 84, 80, 47, 49, 46]⟩ ++ ⟨(Lib.itoa v).toArray⟩ = X
        have HX : Hid (bs X = reqLine (bs a) (bs b) v) := Lib.hid (by rw [← hX]; exact req_text a b v)
        have zX : X.size ≤ 100000000 := by rw [← bs_length, HX.out, req_len a b v]; omega
        clear hX
        refine (parseReq_any X _ p q m (HE.out.below hb1) zX).mono ?_
        rintro e2 w2 ⟨rfl, hb2⟩
        rw [HX.out, HV.out]
        have b2 := below_step hb1 hb2
        clear hb1 hb2
        go_wp2_with fail
        go_ret
        exact ⟨by rw [HF.out]; rfl, b2⟩
    · have k0 : (e != 0) = true := bne_iff_ne.2 c0
      clear hall hr c0
      go_enter Tryz.func37, Tryz.ntmps37
      go_wp2_with fail
      refine (itoa_any v _ h0 h1 HT.out).mono ?_
      rintro e1 w1 ⟨rfl, hb1⟩
      go_wp2_with fail
      generalize hX : a ++ ⟨#[32]⟩ ++ b ++ ⟨#[32, 72, 84, 84, 80, 47, 49, 46]⟩ ++ ⟨(Lib.itoa v).toArray⟩ = X
      have HX : Hid (bs X = reqLine (bs a) (bs b) v) := Lib.hid (by rw [← hX]; exact req_text a b v)
      have zX : X.size ≤ 100000000 := by rw [← bs_length, HX.out, req_len a b v]; omega
      clear hX
      refine (parseReq_any X _ p q m (HE.out.below hb1) zX).mono ?_
      rintro e2 w2 ⟨rfl, hb2⟩
      rw [HX.out, HV.out]
      have b2 := below_step hb1 hb2
      clear hb1 hb2
      go_wp2_with fail
      go_ret
      exact ⟨by rw [HF.out]; rfl, b2⟩
set_option maxHeartbeats 1600000 in
theorem fmtStat_any (v s : Int) (a : ByteArray) (w : World) (p q : Addr) (m : Int) (hE : StartEnv w p q m) (hT : PowTab w) (ha : a.size ≤ 10000000) (h0 : -9223372036854775808 ≤ v) (h1 : v ≤ 9223372036854775807) (g0 : -9223372036854775808 ≤ s) (g1 : s ≤ 9223372036854775807) :
    Calls Tryz.prog 39 #[.int .i64 v, .int .i64 s, .string a] w fun e w' => e = .returned (.string ⟨(statF v s (bs a)).toArray⟩) ∧ Below w.heap.size w w' := by
  have HE := Lib.hid hE
  have HT := Lib.hid hT
  clear hE hT
  have hz : (Lib.itoa v).length ≤ 21 := Lib.itoa_length_le _ h0 h1
  have hy : (Lib.itoa s).length ≤ 21 := Lib.itoa_length_le _ g0 g1
  obtain ⟨n, u, x1, e, hv, hr⟩ := stat_split (statLine v s (bs a))
  have HV := Lib.hid hv
  clear hv
  by_cases hall : statL (statLine v s (bs a)) = (v, s, bs a, 0)
  · have HF : Hid (statF v s (bs a) = statLine v s (bs a)) := Lib.hid (by unfold statF; rw [if_pos hall])
    rw [hr] at hall
    simp only [Prod.mk.injEq] at hall
    obtain ⟨rfl, rfl, e1, rfl⟩ := hall
    obtain rfl := str_eq e1
    clear hr e1
    go_enter Tryz.func39, Tryz.ntmps39
    go_wp2_with fail
    refine (itoa_any n _ h0 h1 HT.out).mono ?_
    rintro e1 w1 ⟨rfl, hb1⟩
    go_wp2_with fail
    refine (itoa_any u _ g0 g1 (HT.out.below hb1)).mono ?_
    rintro e2 w2 ⟨rfl, hb2⟩
    have b2 := below_step hb1 hb2
    clear hb1 hb2
    go_wp2_with fail
    generalize hX : (⟨#[72, 84, 84, 80, 47, 49, 46]⟩ : ByteArray) ++ ⟨(Lib.itoa n).toArray⟩ ++ ⟨#[32]⟩ ++ ⟨(Lib.itoa u).toArray⟩ ++ ⟨#[32]⟩ ++ x1 = X
    have HX : Hid (bs X = statLine n u (bs x1)) := Lib.hid (by rw [← hX]; exact stat_text x1 n u)
    have zX : X.size ≤ 100000000 := by rw [← bs_length, HX.out, stat_len x1 n u]; omega
    clear hX
    refine (parseStat_any X _ p q m (HE.out.below b2) zX).mono ?_
    rintro e3 w3 ⟨rfl, hb3⟩
    rw [HX.out, HV.out]
    have b3 := below_step b2 hb3
    clear b2 hb3
    go_wp2_with fail
    go_ret
    exact ⟨by rw [HF.out, ← HX.out, ← of_bs (s := X) rfl]; rfl, b3⟩
  · have HF : Hid (statF v s (bs a) = []) := Lib.hid (by unfold statF; rw [if_neg hall])
    by_cases c0 : e = 0
    · subst c0
      by_cases c1 : n = v
      · subst c1
        by_cases c2 : u = s
        · subst c2
          have k3 : (x1.toList == a.toList) = false := beq_eq_false_iff_ne.2 (str_ne (a := x1) (b := a) (fun e => hall (by rw [hr, e])))
          clear hall hr
          go_enter Tryz.func39, Tryz.ntmps39
          go_wp2_with fail
          refine (itoa_any n _ h0 h1 HT.out).mono ?_
          rintro e1 w1 ⟨rfl, hb1⟩
          go_wp2_with fail
          refine (itoa_any u _ g0 g1 (HT.out.below hb1)).mono ?_
          rintro e2 w2 ⟨rfl, hb2⟩
          have b2 := below_step hb1 hb2
          clear hb1 hb2
          go_wp2_with fail
          generalize hX : (⟨#[72, 84, 84, 80, 47, 49, 46]⟩ : ByteArray) ++ ⟨(Lib.itoa n).toArray⟩ ++ ⟨#[32]⟩ ++ ⟨(Lib.itoa u).toArray⟩ ++ ⟨#[32]⟩ ++ a = X
          have HX : Hid (bs X = statLine n u (bs a)) := Lib.hid (by rw [← hX]; exact stat_text a n u)
          have zX : X.size ≤ 100000000 := by rw [← bs_length, HX.out, stat_len a n u]; omega
          clear hX
          refine (parseStat_any X _ p q m (HE.out.below b2) zX).mono ?_
          rintro e3 w3 ⟨rfl, hb3⟩
          rw [HX.out, HV.out]
          have b3 := below_step b2 hb3
          clear b2 hb3
          go_wp2_with fail
          go_ret
          exact ⟨by rw [HF.out]; rfl, b3⟩
        · have k2 : (u != s) = true := bne_iff_ne.2 c2
          clear hall hr c2
          go_enter Tryz.func39, Tryz.ntmps39
          go_wp2_with fail
          refine (itoa_any n _ h0 h1 HT.out).mono ?_
          rintro e1 w1 ⟨rfl, hb1⟩
          go_wp2_with fail
          refine (itoa_any s _ g0 g1 (HT.out.below hb1)).mono ?_
          rintro e2 w2 ⟨rfl, hb2⟩
          have b2 := below_step hb1 hb2
          clear hb1 hb2
          go_wp2_with fail
          generalize hX : (⟨#[72, 84, 84, 80, 47, 49, 46]⟩ : ByteArray) ++ ⟨(Lib.itoa n).toArray⟩ ++ ⟨#[32]⟩ ++ ⟨(Lib.itoa s).toArray⟩ ++ ⟨#[32]⟩ ++ a = X
          have HX : Hid (bs X = statLine n s (bs a)) := Lib.hid (by rw [← hX]; exact stat_text a n s)
          have zX : X.size ≤ 100000000 := by rw [← bs_length, HX.out, stat_len a n s]; omega
          clear hX
          refine (parseStat_any X _ p q m (HE.out.below b2) zX).mono ?_
          rintro e3 w3 ⟨rfl, hb3⟩
          rw [HX.out, HV.out]
          have b3 := below_step b2 hb3
          clear b2 hb3
          go_wp2_with fail
          go_ret
          exact ⟨by rw [HF.out]; rfl, b3⟩
      · have k1 : (n != v) = true := bne_iff_ne.2 c1
        clear hall hr c1
        go_enter Tryz.func39, Tryz.ntmps39
        go_wp2_with fail
        refine (itoa_any v _ h0 h1 HT.out).mono ?_
        rintro e1 w1 ⟨rfl, hb1⟩
        go_wp2_with fail
        refine (itoa_any s _ g0 g1 (HT.out.below hb1)).mono ?_
        rintro e2 w2 ⟨rfl, hb2⟩
        have b2 := below_step hb1 hb2
        clear hb1 hb2
        go_wp2_with fail
        generalize hX : (⟨#[72, 84, 84, 80, 47, 49, 46]⟩ : ByteArray) ++ ⟨(Lib.itoa v).toArray⟩ ++ ⟨#[32]⟩ ++ ⟨(Lib.itoa s).toArray⟩ ++ ⟨#[32]⟩ ++ a = X
        have HX : Hid (bs X = statLine v s (bs a)) := Lib.hid (by rw [← hX]; exact stat_text a v s)
        have zX : X.size ≤ 100000000 := by rw [← bs_length, HX.out, stat_len a v s]; omega
        clear hX
        refine (parseStat_any X _ p q m (HE.out.below b2) zX).mono ?_
        rintro e3 w3 ⟨rfl, hb3⟩
        rw [HX.out, HV.out]
        have b3 := below_step b2 hb3
        clear b2 hb3
        go_wp2_with fail
        go_ret
        exact ⟨by rw [HF.out]; rfl, b3⟩
    · have k0 : (e != 0) = true := bne_iff_ne.2 c0
      clear hall hr c0
      go_enter Tryz.func39, Tryz.ntmps39
      go_wp2_with fail
      refine (itoa_any v _ h0 h1 HT.out).mono ?_
      rintro e1 w1 ⟨rfl, hb1⟩
      go_wp2_with fail
      refine (itoa_any s _ g0 g1 (HT.out.below hb1)).mono ?_
      rintro e2 w2 ⟨rfl, hb2⟩
      have b2 := below_step hb1 hb2
      clear hb1 hb2
      go_wp2_with fail
      generalize hX : (⟨#[72, 84, 84, 80, 47, 49, 46]⟩ : ByteArray) ++ ⟨(Lib.itoa v).toArray⟩ ++ ⟨#[32]⟩ ++ ⟨(Lib.itoa s).toArray⟩ ++ ⟨#[32]⟩ ++ a = X
      have HX : Hid (bs X = statLine v s (bs a)) := Lib.hid (by rw [← hX]; exact stat_text a v s)
      have zX : X.size ≤ 100000000 := by rw [← bs_length, HX.out, stat_len a v s]; omega
      clear hX
      refine (parseStat_any X _ p q m (HE.out.below b2) zX).mono ?_
      rintro e3 w3 ⟨rfl, hb3⟩
      rw [HX.out, HV.out]
      have b3 := below_step b2 hb3
      clear b2 hb3
      go_wp2_with fail
      go_ret
      exact ⟨by rw [HF.out]; rfl, b3⟩
set_option maxHeartbeats 1600000 in
theorem rfmtReq_any (a b : ByteArray) (v : Int) (w : World)  (ha : a.size ≤ 10000000) (hb : b.size ≤ 10000000) (h0 : -9223372036854775808 ≤ v) (h1 : v ≤ 9223372036854775807) :
    Calls Tryz.prog 28 #[.string a, .string b, .int .i64 v] w fun e w' => e = .returned (.string ⟨(reqF (bs a) (bs b) v).toArray⟩) ∧ Below w.heap.size w w' := by
  by_cases hbad : v < 0 ∨ 1 < v ∨ 2000 < a.size ∨ 2000 < b.size
  · have HF : Hid (reqF (bs a) (bs b) v = []) := Lib.hid (reqF_no (by rw [bs_length, bs_length]; exact hbad))
    have hcase : v < 0 ∨ ¬ v < 0 ∧ 1 < v ∨ ¬ v < 0 ∧ ¬ 1 < v ∧ 2000 < (a.size : Int) ∨ ¬ v < 0 ∧ ¬ 1 < v ∧ ¬ 2000 < (a.size : Int) ∧ 2000 < (b.size : Int) := by omega
    clear hbad
    rcases hcase with k1 | ⟨k1, k2⟩ | ⟨k1, k2, k3⟩ | ⟨k1, k2, k3, k4⟩
    all_goals
      go_enter Tryz.func28, Tryz.ntmps28
      go_wp2_with fail
      go_ret
      exact ⟨by rw [HF.out]; rfl, Below.refl _ _⟩
  have k1 : ¬ v < 0 := by omega
  have k2 : ¬ 1 < v := by omega
  have k3 : ¬ 2000 < (a.size : Int) := by omega
  have k4 : ¬ 2000 < (b.size : Int) := by omega
  clear hbad
  have hz : (Lib.itoa v).length ≤ 21 := Lib.itoa_length_le _ h0 h1
  obtain ⟨x1, x2, n, e, hv, hr⟩ := req_split (reqLine (bs a) (bs b) v)
  have HV := Lib.hid hv
  clear hv
  by_cases hall : reqL (reqLine (bs a) (bs b) v) = (bs a, bs b, v, 0)
  · have HF : Hid (reqF (bs a) (bs b) v = reqLine (bs a) (bs b) v) := Lib.hid (by unfold reqF; rw [if_pos hall])
    rw [hr] at hall
    simp only [Prod.mk.injEq] at hall
    obtain ⟨e1, e2, rfl, rfl⟩ := hall
    obtain rfl := str_eq e1
    obtain rfl := str_eq e2
    clear hr e1 e2
    go_enter Tryz.func28, Tryz.ntmps28
    go_wp2_with fail
    refine (rdecimal_any n _ h0 h1).mono ?_
    rintro e1 w1 ⟨rfl, hb1⟩
    go_wp2_with fail
    generalize hX : x1 ++ ⟨#[32]⟩ ++ x2 ++ ⟨#[32, 72, 84, 84, 80, 47, 49, 46]⟩ ++ ⟨(Lib.itoa n).toArray⟩ = X
    have HX : Hid (bs X = reqLine (bs x1) (bs x2) n) := Lib.hid (by rw [← hX]; exact req_text x1 x2 n)
    have zX : X.size ≤ 100000000 := by rw [← bs_length, HX.out, req_len x1 x2 n]; omega
    clear hX
    refine (rparseReq_any X _ zX).mono ?_
    rintro e2 w2 ⟨rfl, hb2⟩
    rw [HX.out, HV.out]
    have b2 := below_step hb1 hb2
    clear hb1 hb2
    go_wp2_with fail
    go_ret
    exact ⟨by rw [HF.out, ← HX.out, ← of_bs (s := X) rfl]; rfl, b2⟩
  · have HF : Hid (reqF (bs a) (bs b) v = []) := Lib.hid (by unfold reqF; rw [if_neg hall])
    by_cases c0 : e = 0
    · subst c0
      by_cases c1 : bs x1 = bs a
      · obtain rfl := str_eq c1
        by_cases c2 : bs x2 = bs b
        · obtain rfl := str_eq c2
          have c3 : (n != v) = true := bne_iff_ne.2 fun e => hall (by rw [hr, e])
          clear hall hr c1 c2
          go_enter Tryz.func28, Tryz.ntmps28
          go_wp2_with fail
          refine (rdecimal_any v _ h0 h1).mono ?_
          rintro e1 w1 ⟨rfl, hb1⟩
          go_wp2_with fail
          generalize hX : x1 ++ ⟨#[32]⟩ ++ x2 ++ ⟨#[32, 72, 84, 84, 80, 47, 49, 46]⟩ ++ ⟨(Lib.itoa v).toArray⟩ = X
          have HX : Hid (bs X = reqLine (bs x1) (bs x2) v) := Lib.hid (by rw [← hX]; exact req_text x1 x2 v)
          have zX : X.size ≤ 100000000 := by rw [← bs_length, HX.out, req_len x1 x2 v]; omega
          clear hX
          refine (rparseReq_any X _ zX).mono ?_
          rintro e2 w2 ⟨rfl, hb2⟩
          rw [HX.out, HV.out]
          have b2 := below_step hb1 hb2
          clear hb1 hb2
          go_wp2_with fail
          go_ret
          exact ⟨by rw [HF.out]; rfl, b2⟩
        · have k2 := str_ne c2
          clear hall hr c1 c2
          go_enter Tryz.func28, Tryz.ntmps28
          go_wp2_with fail
          refine (rdecimal_any v _ h0 h1).mono ?_
          rintro e1 w1 ⟨rfl, hb1⟩
          go_wp2_with fail
          generalize hX : x1 ++ ⟨#[32]⟩ ++ b ++ ⟨#[32, 72, 84, 84, 80, 47, 49, 46]⟩ ++ ⟨(Lib.itoa v).toArray⟩ = X
          have HX : Hid (bs X = reqLine (bs x1) (bs b) v) := Lib.hid (by rw [← hX]; exact req_text x1 b v)
          have zX : X.size ≤ 100000000 := by rw [← bs_length, HX.out, req_len x1 b v]; omega
          clear hX
          refine (rparseReq_any X _ zX).mono ?_
          rintro e2 w2 ⟨rfl, hb2⟩
          rw [HX.out, HV.out]
          have b2 := below_step hb1 hb2
          clear hb1 hb2
          go_wp2_with fail
          go_ret
          exact ⟨by rw [HF.out]; rfl, b2⟩
      · have k1 := str_ne c1
        clear hall hr c1
        go_enter Tryz.func28, Tryz.ntmps28
        go_wp2_with fail
        refine (rdecimal_any v _ h0 h1).mono ?_
        rintro e1 w1 ⟨rfl, hb1⟩
        go_wp2_with fail
        generalize hX : a ++ ⟨#[32]⟩ ++ b ++ ⟨#[32, 72, 84, 84, 80, 47, 49, 46]⟩ ++ ⟨(Lib.itoa v).toArray⟩ = X
        have HX : Hid (bs X = reqLine (bs a) (bs b) v) := Lib.hid (by rw [← hX]; exact req_text a b v)
        have zX : X.size ≤ 100000000 := by rw [← bs_length, HX.out, req_len a b v]; omega
        clear hX
        refine (rparseReq_any X _ zX).mono ?_
        rintro e2 w2 ⟨rfl, hb2⟩
        rw [HX.out, HV.out]
        have b2 := below_step hb1 hb2
        clear hb1 hb2
        go_wp2_with fail
        go_ret
        exact ⟨by rw [HF.out]; rfl, b2⟩
    · have k0 : (e != 0) = true := bne_iff_ne.2 c0
      clear hall hr c0
      go_enter Tryz.func28, Tryz.ntmps28
      go_wp2_with fail
      refine (rdecimal_any v _ h0 h1).mono ?_
      rintro e1 w1 ⟨rfl, hb1⟩
      go_wp2_with fail
      generalize hX : a ++ ⟨#[32]⟩ ++ b ++ ⟨#[32, 72, 84, 84, 80, 47, 49, 46]⟩ ++ ⟨(Lib.itoa v).toArray⟩ = X
      have HX : Hid (bs X = reqLine (bs a) (bs b) v) := Lib.hid (by rw [← hX]; exact req_text a b v)
      have zX : X.size ≤ 100000000 := by rw [← bs_length, HX.out, req_len a b v]; omega
      clear hX
      refine (rparseReq_any X _ zX).mono ?_
      rintro e2 w2 ⟨rfl, hb2⟩
      rw [HX.out, HV.out]
      have b2 := below_step hb1 hb2
      clear hb1 hb2
      go_wp2_with fail
      go_ret
      exact ⟨by rw [HF.out]; rfl, b2⟩
set_option maxHeartbeats 1600000 in
theorem rfmtStat_any (v s : Int) (a : ByteArray) (w : World) (ha : a.size ≤ 10000000) (h0 : -9223372036854775808 ≤ v) (h1 : v ≤ 9223372036854775807) (g0 : -9223372036854775808 ≤ s) (g1 : s ≤ 9223372036854775807) :
    Calls Tryz.prog 40 #[.int .i64 v, .int .i64 s, .string a] w fun e w' => e = .returned (.string ⟨(statF v s (bs a)).toArray⟩) ∧ Below w.heap.size w w' := by
  by_cases hbad : v < 0 ∨ 1 < v ∨ s < 100 ∨ 599 < s ∨ 2000 < a.size
  · have HF : Hid (statF v s (bs a) = []) := Lib.hid (statF_no (by rw [bs_length]; exact hbad))
    have hcase : v < 0 ∨ ¬ v < 0 ∧ 1 < v ∨ ¬ v < 0 ∧ ¬ 1 < v ∧ s < 100 ∨ ¬ v < 0 ∧ ¬ 1 < v ∧ ¬ s < 100 ∧ 599 < s ∨ ¬ v < 0 ∧ ¬ 1 < v ∧ ¬ s < 100 ∧ ¬ 599 < s ∧ 2000 < (a.size : Int) := by omega
    clear hbad
    rcases hcase with k1 | ⟨k1, k2⟩ | ⟨k1, k2, k3⟩ | ⟨k1, k2, k3, k4⟩ | ⟨k1, k2, k3, k4, k5⟩
    all_goals
      go_enter Tryz.func40, Tryz.ntmps40
      go_wp2_with fail
      go_ret
      exact ⟨by rw [HF.out]; rfl, Below.refl _ _⟩
  have k1 : ¬ v < 0 := by omega
  have k2 : ¬ 1 < v := by omega
  have k3 : ¬ s < 100 := by omega
  have k4 : ¬ 599 < s := by omega
  have k5 : ¬ 2000 < (a.size : Int) := by omega
  have hin := statF_in (r := bs a) (v := v) (s := s) (by omega) (by omega) (by omega)
  clear hbad
  have hz : (Lib.itoa v).length ≤ 21 := Lib.itoa_length_le _ h0 h1
  have hy : (Lib.itoa s).length ≤ 21 := Lib.itoa_length_le _ g0 g1
  obtain ⟨n, u, x1, e, hv, hr⟩ := stat_split (statLine v s (bs a))
  have HV := Lib.hid hv
  rw [hr] at hin
  simp only at hin
  clear hv hr
  by_cases c0 : e = 0
  · subst c0
    rw [if_pos rfl] at hin
    have HF := Lib.hid hin
    clear hin
    go_enter Tryz.func40, Tryz.ntmps40
    go_wp2_with fail
    refine (rdecimal_any v _ h0 h1).mono ?_
    rintro e1 w1 ⟨rfl, hb1⟩
    go_wp2_with fail
    refine (rdecimal_any s _ g0 g1).mono ?_
    rintro e2 w2 ⟨rfl, hb2⟩
    have b2 := below_step hb1 hb2
    clear hb1 hb2
    go_wp2_with fail
    generalize hX : (⟨#[72, 84, 84, 80, 47, 49, 46]⟩ : ByteArray) ++ ⟨(Lib.itoa v).toArray⟩ ++ ⟨#[32]⟩ ++ ⟨(Lib.itoa s).toArray⟩ ++ ⟨#[32]⟩ ++ a = X
    have HX : Hid (bs X = statLine v s (bs a)) := Lib.hid (by rw [← hX]; exact stat_text a v s)
    have zX : X.size ≤ 100000000 := by rw [← bs_length, HX.out, stat_len a v s]; omega
    clear hX
    refine (rparseStat_any X _ zX).mono ?_
    rintro e3 w3 ⟨rfl, hb3⟩
    rw [HX.out, HV.out]
    have b3 := below_step b2 hb3
    clear b2 hb3
    go_wp2_with fail
    go_ret
    exact ⟨by rw [HF.out, ← HX.out, ← of_bs (s := X) rfl]; rfl, b3⟩
  · have k0 : (e != 0) = true := bne_iff_ne.2 c0
    rw [if_neg c0] at hin
    have HF := Lib.hid hin
    clear hin c0
    go_enter Tryz.func40, Tryz.ntmps40
    go_wp2_with fail
    refine (rdecimal_any v _ h0 h1).mono ?_
    rintro e1 w1 ⟨rfl, hb1⟩
    go_wp2_with fail
    refine (rdecimal_any s _ g0 g1).mono ?_
    rintro e2 w2 ⟨rfl, hb2⟩
    have b2 := below_step hb1 hb2
    clear hb1 hb2
    go_wp2_with fail
    generalize hX : (⟨#[72, 84, 84, 80, 47, 49, 46]⟩ : ByteArray) ++ ⟨(Lib.itoa v).toArray⟩ ++ ⟨#[32]⟩ ++ ⟨(Lib.itoa s).toArray⟩ ++ ⟨#[32]⟩ ++ a = X
    have HX : Hid (bs X = statLine v s (bs a)) := Lib.hid (by rw [← hX]; exact stat_text a v s)
    have zX : X.size ≤ 100000000 := by rw [← bs_length, HX.out, stat_len a v s]; omega
    clear hX
    refine (rparseStat_any X _ zX).mono ?_
    rintro e3 w3 ⟨rfl, hb3⟩
    rw [HX.out, HV.out]
    have b3 := below_step b2 hb3
    clear b2 hb3
    go_wp2_with fail
    go_ret
    exact ⟨by rw [HF.out]; rfl, b3⟩
end Go.Proofs.YtfnmohaddkoalaaGreatDoor
namespace Go.Proofs.YtfnmohaddkoalaaGreatDoor
open Go.RowKit Go.Shelf
set_option linter.unusedSimpArgs false
set_option linter.unusedVariables false

theorem mkeep6 {w1 w2 w3 : World} {b : Nat} {v0 v1 v2 v3 v4 : Value} (h : w1.cell? ⟨b, 0, none⟩ = some v0 ∧ w1.cell? ⟨b, 1, none⟩ = some v1 ∧ w1.cell? ⟨b, 2, none⟩ = some v2 ∧ w1.cell? ⟨b, 3, none⟩ = some v3 ∧ w1.cell? ⟨b, 4, none⟩ = some v4 ∧ Below w3.heap.size w3 w1) (hb : Below w1.heap.size w1 w2) :
    w2.cell? ⟨b, 0, none⟩ = some v0 ∧ w2.cell? ⟨b, 1, none⟩ = some v1 ∧ w2.cell? ⟨b, 2, none⟩ = some v2 ∧ w2.cell? ⟨b, 3, none⟩ = some v3 ∧ w2.cell? ⟨b, 4, none⟩ = some v4 ∧ Below w3.heap.size w3 w2 :=
  ⟨(hb.cell (cell_lt h.1)).trans h.1, (hb.cell (cell_lt h.2.1)).trans h.2.1, (hb.cell (cell_lt h.2.2.1)).trans h.2.2.1, (hb.cell (cell_lt h.2.2.2.1)).trans h.2.2.2.1, (hb.cell (cell_lt h.2.2.2.2.1)).trans h.2.2.2.2.1, step_b h.2.2.2.2.2 hb⟩
theorem mlast6 {w1 w3 : World} {b : Nat} {v0 v1 v2 v3 v4 : Value} (h : w1.cell? ⟨b, 0, none⟩ = some v0 ∧ w1.cell? ⟨b, 1, none⟩ = some v1 ∧ w1.cell? ⟨b, 2, none⟩ = some v2 ∧ w1.cell? ⟨b, 3, none⟩ = some v3 ∧ w1.cell? ⟨b, 4, none⟩ = some v4 ∧ Below w3.heap.size w3 w1) : Below w3.heap.size w3 w1 := h.2.2.2.2.2
/-- Is the length announced? -/
def lenQ (m b : ByteArray) : Bool := !b.toList.isEmpty || (m.toList == [80, 79, 83, 84] || (m.toList == [80, 85, 84] || m.toList == [80, 65, 84, 67, 72]))
def numQ (m b : ByteArray) : Int := if lenQ m b then (b.size : Int) else -1
/-- A request as it is written. -/
def reqW (m t : ByteArray) (v : Int) (xs : List Fd) (b : ByteArray) : List UInt8 := msgL (reqF (bs m) (bs t) v) xs (numQ m b) (bs b)
theorem reqF_len (m t : List UInt8) (v : Int) : (reqF m t v).length ≤ 2000 := by
  unfold reqF
  split
  · rename_i h; exact (reqL_inv h).1
  · simp
set_option maxHeartbeats 3200000 in
set_option maxRecDepth 100000 in
theorem fmtQ_any (m t : ByteArray) (v : Int) (oa : Option Addr) (xs : List Fd) (cap : Nat) (b : ByteArray) (w : World) (hm : m.size ≤ 100) (ht : t.size ≤ 2100) (hb : b.size ≤ 2000) (hn : xs.length ≤ 100) (hz : FldZ xs 300) (hc : FldO w oa xs) (h0 : -9223372036854775808 ≤ v) (h1 : v ≤ 9223372036854775807) (hE : ReqEnv w) (hT : PowTab w) :
    Calls Tryz.prog 16 #[.agg (reqC m t v (.slice oa xs.length cap) b).toArray] w fun e w' => e = .returned (.string ⟨(reqW m t v xs b).toArray⟩) ∧ Below w.heap.size w w' := by
  obtain ⟨L, hL⟩ : ∃ L : ByteArray, L = ⟨(reqF (bs m) (bs t) v).toArray⟩ := ⟨_, rfl⟩
  have zL : L.size ≤ 2000 := by rw [hL]; exact reqF_len _ _ _
  have hLb : bs L = reqF (bs m) (bs t) v := by rw [hL]
  obtain ⟨X, hX⟩ : ∃ X : ByteArray, X = ⟨(reqW m t v xs b).toArray⟩ := ⟨_, rfl⟩
  rw [← hX]
  have ha := alloc_b w (.cells (reqC m t v (.slice oa xs.length cap) b).toArray 24)
  have V1 := RowAt.new w (reqC m t v (.slice oa xs.length cap) b) 24
  have a0 := V1.cell 0 rfl
  have a1 := V1.cell 1 rfl
  have a2 := V1.cell 2 rfl
  have a3 := V1.cell 3 rfl
  have a4 := V1.cell 4 rfl
  clear V1
  have HQ : Hid (∀ W, Below (w.alloc (.cells #[.string m, .string t, .int .i64 v, .slice oa xs.length cap, .string b] 24)).heap.size (w.alloc (.cells #[.string m, .string t, .int .i64 v, .slice oa xs.length cap, .string b] 24)) W → Calls Tryz.prog 37 #[.string m, .string t, .int .i64 v] W fun e w' => e = .returned (.string L) ∧ Below W.heap.size W w') := Lib.hid fun W hW => by
    have hw := step_b ha hW
    obtain ⟨_, p, q, k, hk⟩ := hE.below hw
    rw [hL]
    exact fmtReq_any m t v W p q k hk (hT.below hw) (by omega) (by omega) h0 h1
  by_cases hb0 : b.size = 0
  · obtain ⟨e1, e2⟩ := femp_yes hb0
    have hbz : (b.size : Int) = 0 := by omega
    cases hc0 : (m.toList == [80, 79, 83, 84]) with
    | true =>
      have hlq : lenQ m b = true := by unfold lenQ; rw [hc0]; simp
      have HO : Hid (∀ W, Below (w.alloc (.cells #[.string m, .string t, .int .i64 v, .slice oa xs.length cap, .string b] 24)).heap.size (w.alloc (.cells #[.string m, .string t, .int .i64 v, .slice oa xs.length cap, .string b] 24)) W → Calls Tryz.prog 36 #[.string L, .slice oa xs.length cap, .int .i64 0, .string b] W fun e w' => e = .returned (.string X) ∧ Below W.heap.size W w') := Lib.hid fun W hW => by
        have hw := step_b ha hW
        have h9 := format_any L oa xs cap 0 b W (by omega) (by omega) (by omega) (by omega) hn hz (hc.down hw) (hT.below hw)
        rw [hX]; unfold reqW numQ
        rw [hlq, hLb.symm, if_pos rfl, hbz]
        exact h9
      clear hL hX hLb zL hz hc hE hT
      go_enter Tryz.func16, Tryz.ntmps16
      go_wp2_with fail
      generalize (w.alloc (.cells #[.string m, .string t, .int .i64 v, .slice oa xs.length cap, .string b] 24)) = w1 at *
      go_region_held3 (fun w' => w'.cell? ⟨w.heap.size, 0, none⟩ = some (.string m) ∧ w'.cell? ⟨w.heap.size, 1, none⟩ = some (.string t) ∧ w'.cell? ⟨w.heap.size, 2, none⟩ = some (.int .i64 v) ∧ w'.cell? ⟨w.heap.size, 3, none⟩ = some (.slice oa xs.length cap) ∧ w'.cell? ⟨w.heap.size, 4, none⟩ = some (.string b) ∧ Below w1.heap.size w1 w') (first | assumption | exact ⟨a0, a1, a2, a3, a4, (Below.refl _ _).drew⟩ | (exact mkeep6 (by first | assumption | exact ⟨a0, a1, a2, a3, a4, (Below.refl _ _).drew⟩) hbx)) (first | (go_at_call 37; (with_reducible refine (HQ.out _ (by first | exact (Below.refl _ _).drew | exact mlast6 (by assumption))).mono ?_); rintro e w' ⟨rfl, hbx⟩) | (go_at_call 36; (with_reducible refine (HO.out _ (by first | exact (Below.refl _ _).drew | exact mlast6 (by assumption))).mono ?_); rintro e w' ⟨rfl, hbx⟩))
      all_goals
        have hq := mlast6 (w3 := w1) (by assumption)
        go_wp2_with fail
        go_ret
        exact ⟨rfl, step_b ha hq⟩
    | false =>
      cases hc1 : (m.toList == [80, 85, 84]) with
      | true =>
        have hlq : lenQ m b = true := by unfold lenQ; rw [hc1]; simp
        have HO : Hid (∀ W, Below (w.alloc (.cells #[.string m, .string t, .int .i64 v, .slice oa xs.length cap, .string b] 24)).heap.size (w.alloc (.cells #[.string m, .string t, .int .i64 v, .slice oa xs.length cap, .string b] 24)) W → Calls Tryz.prog 36 #[.string L, .slice oa xs.length cap, .int .i64 0, .string b] W fun e w' => e = .returned (.string X) ∧ Below W.heap.size W w') := Lib.hid fun W hW => by
          have hw := step_b ha hW
          have h9 := format_any L oa xs cap 0 b W (by omega) (by omega) (by omega) (by omega) hn hz (hc.down hw) (hT.below hw)
          rw [hX]; unfold reqW numQ
          rw [hlq, hLb.symm, if_pos rfl, hbz]
          exact h9
        clear hL hX hLb zL hz hc hE hT
        go_enter Tryz.func16, Tryz.ntmps16
        go_wp2_with fail
        generalize (w.alloc (.cells #[.string m, .string t, .int .i64 v, .slice oa xs.length cap, .string b] 24)) = w1 at *
        go_region_held3 (fun w' => w'.cell? ⟨w.heap.size, 0, none⟩ = some (.string m) ∧ w'.cell? ⟨w.heap.size, 1, none⟩ = some (.string t) ∧ w'.cell? ⟨w.heap.size, 2, none⟩ = some (.int .i64 v) ∧ w'.cell? ⟨w.heap.size, 3, none⟩ = some (.slice oa xs.length cap) ∧ w'.cell? ⟨w.heap.size, 4, none⟩ = some (.string b) ∧ Below w1.heap.size w1 w') (first | assumption | exact ⟨a0, a1, a2, a3, a4, (Below.refl _ _).drew⟩ | (exact mkeep6 (by first | assumption | exact ⟨a0, a1, a2, a3, a4, (Below.refl _ _).drew⟩) hbx)) (first | (go_at_call 37; (with_reducible refine (HQ.out _ (by first | exact (Below.refl _ _).drew | exact mlast6 (by assumption))).mono ?_); rintro e w' ⟨rfl, hbx⟩) | (go_at_call 36; (with_reducible refine (HO.out _ (by first | exact (Below.refl _ _).drew | exact mlast6 (by assumption))).mono ?_); rintro e w' ⟨rfl, hbx⟩))
        all_goals
          have hq := mlast6 (w3 := w1) (by assumption)
          go_wp2_with fail
          go_ret
          exact ⟨rfl, step_b ha hq⟩
      | false =>
        cases hc2 : (m.toList == [80, 65, 84, 67, 72]) with
        | true =>
          have hlq : lenQ m b = true := by unfold lenQ; rw [hc2]; simp
          have HO : Hid (∀ W, Below (w.alloc (.cells #[.string m, .string t, .int .i64 v, .slice oa xs.length cap, .string b] 24)).heap.size (w.alloc (.cells #[.string m, .string t, .int .i64 v, .slice oa xs.length cap, .string b] 24)) W → Calls Tryz.prog 36 #[.string L, .slice oa xs.length cap, .int .i64 0, .string b] W fun e w' => e = .returned (.string X) ∧ Below W.heap.size W w') := Lib.hid fun W hW => by
            have hw := step_b ha hW
            have h9 := format_any L oa xs cap 0 b W (by omega) (by omega) (by omega) (by omega) hn hz (hc.down hw) (hT.below hw)
            rw [hX]; unfold reqW numQ
            rw [hlq, hLb.symm, if_pos rfl, hbz]
            exact h9
          clear hL hX hLb zL hz hc hE hT
          go_enter Tryz.func16, Tryz.ntmps16
          go_wp2_with fail
          generalize (w.alloc (.cells #[.string m, .string t, .int .i64 v, .slice oa xs.length cap, .string b] 24)) = w1 at *
          go_region_held3 (fun w' => w'.cell? ⟨w.heap.size, 0, none⟩ = some (.string m) ∧ w'.cell? ⟨w.heap.size, 1, none⟩ = some (.string t) ∧ w'.cell? ⟨w.heap.size, 2, none⟩ = some (.int .i64 v) ∧ w'.cell? ⟨w.heap.size, 3, none⟩ = some (.slice oa xs.length cap) ∧ w'.cell? ⟨w.heap.size, 4, none⟩ = some (.string b) ∧ Below w1.heap.size w1 w') (first | assumption | exact ⟨a0, a1, a2, a3, a4, (Below.refl _ _).drew⟩ | (exact mkeep6 (by first | assumption | exact ⟨a0, a1, a2, a3, a4, (Below.refl _ _).drew⟩) hbx)) (first | (go_at_call 37; (with_reducible refine (HQ.out _ (by first | exact (Below.refl _ _).drew | exact mlast6 (by assumption))).mono ?_); rintro e w' ⟨rfl, hbx⟩) | (go_at_call 36; (with_reducible refine (HO.out _ (by first | exact (Below.refl _ _).drew | exact mlast6 (by assumption))).mono ?_); rintro e w' ⟨rfl, hbx⟩))
          all_goals
            have hq := mlast6 (w3 := w1) (by assumption)
            go_wp2_with fail
            go_ret
            exact ⟨rfl, step_b ha hq⟩
        | false =>
          have hlq : lenQ m b = false := by unfold lenQ; rw [hc0, hc1, hc2, e1]; rfl
          have HO : Hid (∀ W, Below (w.alloc (.cells #[.string m, .string t, .int .i64 v, .slice oa xs.length cap, .string b] 24)).heap.size (w.alloc (.cells #[.string m, .string t, .int .i64 v, .slice oa xs.length cap, .string b] 24)) W → Calls Tryz.prog 36 #[.string L, .slice oa xs.length cap, .int .i64 (-1), .string b] W fun e w' => e = .returned (.string X) ∧ Below W.heap.size W w') := Lib.hid fun W hW => by
            have hw := step_b ha hW
            have h9 := format_any L oa xs cap (-1) b W (by omega) (by omega) (by omega) (by omega) hn hz (hc.down hw) (hT.below hw)
            rw [hX]; unfold reqW numQ
            rw [hlq, hLb.symm]
            exact h9
          clear hL hX hLb zL hz hc hE hT
          go_enter Tryz.func16, Tryz.ntmps16
          go_wp2_with fail
          generalize (w.alloc (.cells #[.string m, .string t, .int .i64 v, .slice oa xs.length cap, .string b] 24)) = w1 at *
          go_region_held3 (fun w' => w'.cell? ⟨w.heap.size, 0, none⟩ = some (.string m) ∧ w'.cell? ⟨w.heap.size, 1, none⟩ = some (.string t) ∧ w'.cell? ⟨w.heap.size, 2, none⟩ = some (.int .i64 v) ∧ w'.cell? ⟨w.heap.size, 3, none⟩ = some (.slice oa xs.length cap) ∧ w'.cell? ⟨w.heap.size, 4, none⟩ = some (.string b) ∧ Below w1.heap.size w1 w') (first | assumption | exact ⟨a0, a1, a2, a3, a4, (Below.refl _ _).drew⟩ | (exact mkeep6 (by first | assumption | exact ⟨a0, a1, a2, a3, a4, (Below.refl _ _).drew⟩) hbx)) (first | (go_at_call 37; (with_reducible refine (HQ.out _ (by first | exact (Below.refl _ _).drew | exact mlast6 (by assumption))).mono ?_); rintro e w' ⟨rfl, hbx⟩) | (go_at_call 36; (with_reducible refine (HO.out _ (by first | exact (Below.refl _ _).drew | exact mlast6 (by assumption))).mono ?_); rintro e w' ⟨rfl, hbx⟩))
          all_goals
            have hq := mlast6 (w3 := w1) (by assumption)
            go_wp2_with fail
            go_ret
            exact ⟨rfl, step_b ha hq⟩
  · obtain ⟨e1, e2⟩ := femp_no hb0
    have hbz : ((b.size : Int) == 0) = false := by rw [beq_eq_false_iff_ne]; omega
    have hlq : lenQ m b = true := by unfold lenQ; rw [e1]; rfl
    have HO : Hid (∀ W, Below (w.alloc (.cells #[.string m, .string t, .int .i64 v, .slice oa xs.length cap, .string b] 24)).heap.size (w.alloc (.cells #[.string m, .string t, .int .i64 v, .slice oa xs.length cap, .string b] 24)) W → Calls Tryz.prog 36 #[.string L, .slice oa xs.length cap, .int .i64 (b.size : Int), .string b] W fun e w' => e = .returned (.string X) ∧ Below W.heap.size W w') := Lib.hid fun W hW => by
      have hw := step_b ha hW
      have h9 := format_any L oa xs cap (b.size : Int) b W (by omega) (by omega) (by omega) (by omega) hn hz (hc.down hw) (hT.below hw)
      rw [hX]; unfold reqW numQ
      rw [hlq, hLb.symm]
      exact h9
    clear hL hX hLb zL hz hc hE hT
    go_enter Tryz.func16, Tryz.ntmps16
    go_wp2_with fail
    generalize (w.alloc (.cells #[.string m, .string t, .int .i64 v, .slice oa xs.length cap, .string b] 24)) = w1 at *
    go_region_held3 (fun w' => w'.cell? ⟨w.heap.size, 0, none⟩ = some (.string m) ∧ w'.cell? ⟨w.heap.size, 1, none⟩ = some (.string t) ∧ w'.cell? ⟨w.heap.size, 2, none⟩ = some (.int .i64 v) ∧ w'.cell? ⟨w.heap.size, 3, none⟩ = some (.slice oa xs.length cap) ∧ w'.cell? ⟨w.heap.size, 4, none⟩ = some (.string b) ∧ Below w1.heap.size w1 w') (first | assumption | exact ⟨a0, a1, a2, a3, a4, (Below.refl _ _).drew⟩ | (exact mkeep6 (by first | assumption | exact ⟨a0, a1, a2, a3, a4, (Below.refl _ _).drew⟩) hbx)) (first | (go_at_call 37; (with_reducible refine (HQ.out _ (by first | exact (Below.refl _ _).drew | exact mlast6 (by assumption))).mono ?_); rintro e w' ⟨rfl, hbx⟩) | (go_at_call 36; (with_reducible refine (HO.out _ (by first | exact (Below.refl _ _).drew | exact mlast6 (by assumption))).mono ?_); rintro e w' ⟨rfl, hbx⟩))
    all_goals
      have hq := mlast6 (w3 := w1) (by assumption)
      go_wp2_with fail
      go_ret
      exact ⟨rfl, step_b ha hq⟩
set_option maxHeartbeats 3200000 in
set_option maxRecDepth 100000 in
theorem rfmtQ_any (m t : ByteArray) (v : Int) (oa : Option Addr) (xs : List Fd) (cap : Nat) (b : ByteArray) (w : World) (hm : m.size ≤ 100) (ht : t.size ≤ 2100) (hb : b.size ≤ 2000) (hn : xs.length ≤ 100) (hz : FldZ xs 300) (hc : FldO w oa xs) (h0 : -9223372036854775808 ≤ v) (h1 : v ≤ 9223372036854775807)  :
    Calls Tryz.prog 10 #[.agg (reqC m t v (.slice oa xs.length cap) b).toArray] w fun e w' => e = .returned (.string ⟨(reqW m t v xs b).toArray⟩) ∧ Below w.heap.size w w' := by
  obtain ⟨L, hL⟩ : ∃ L : ByteArray, L = ⟨(reqF (bs m) (bs t) v).toArray⟩ := ⟨_, rfl⟩
  have zL : L.size ≤ 2000 := by rw [hL]; exact reqF_len _ _ _
  have hLb : bs L = reqF (bs m) (bs t) v := by rw [hL]
  obtain ⟨X, hX⟩ : ∃ X : ByteArray, X = ⟨(reqW m t v xs b).toArray⟩ := ⟨_, rfl⟩
  rw [← hX]
  have ha := alloc_b w (.cells (reqC m t v (.slice oa xs.length cap) b).toArray 24)
  have V1 := RowAt.new w (reqC m t v (.slice oa xs.length cap) b) 24
  have a0 := V1.cell 0 rfl
  have a1 := V1.cell 1 rfl
  have a2 := V1.cell 2 rfl
  have a3 := V1.cell 3 rfl
  have a4 := V1.cell 4 rfl
  clear V1
  have HQ : Hid (∀ W, Below (w.alloc (.cells #[.string m, .string t, .int .i64 v, .slice oa xs.length cap, .string b] 24)).heap.size (w.alloc (.cells #[.string m, .string t, .int .i64 v, .slice oa xs.length cap, .string b] 24)) W → Calls Tryz.prog 28 #[.string m, .string t, .int .i64 v] W fun e w' => e = .returned (.string L) ∧ Below W.heap.size W w') := Lib.hid fun W hW => by
    rw [hL]
    exact rfmtReq_any m t v W (by omega) (by omega) h0 h1
  by_cases hb0 : b.size = 0
  · obtain ⟨e1, e2⟩ := femp_yes hb0
    have hbz : (b.size : Int) = 0 := by omega
    cases hc0 : (m.toList == [80, 79, 83, 84]) with
    | true =>
      have hlq : lenQ m b = true := by unfold lenQ; rw [hc0]; simp
      have HO : Hid (∀ W, Below (w.alloc (.cells #[.string m, .string t, .int .i64 v, .slice oa xs.length cap, .string b] 24)).heap.size (w.alloc (.cells #[.string m, .string t, .int .i64 v, .slice oa xs.length cap, .string b] 24)) W → Calls Tryz.prog 27 #[.string L, .slice oa xs.length cap, .string b, .bool true, .bool true] W fun e w' => e = .returned (.string X) ∧ Below W.heap.size W w') := Lib.hid fun W hW => by
        have hw := step_b ha hW
        have h9 := rjoined_any L oa xs cap b true true W (by omega) (by omega) hn hz (hc.down hw)
        rw [hX]; unfold reqW numQ
        rw [hlq, hLb.symm]
        exact h9
      clear hL hX hLb zL hz hc 
      go_enter Tryz.func10, Tryz.ntmps10
      go_wp2_with fail
      generalize (w.alloc (.cells #[.string m, .string t, .int .i64 v, .slice oa xs.length cap, .string b] 24)) = w1 at *
      go_region_held3 (fun w' => w'.cell? ⟨w.heap.size, 0, none⟩ = some (.string m) ∧ w'.cell? ⟨w.heap.size, 1, none⟩ = some (.string t) ∧ w'.cell? ⟨w.heap.size, 2, none⟩ = some (.int .i64 v) ∧ w'.cell? ⟨w.heap.size, 3, none⟩ = some (.slice oa xs.length cap) ∧ w'.cell? ⟨w.heap.size, 4, none⟩ = some (.string b) ∧ Below w1.heap.size w1 w') (first | assumption | exact ⟨a0, a1, a2, a3, a4, (Below.refl _ _).drew⟩ | (exact mkeep6 (by first | assumption | exact ⟨a0, a1, a2, a3, a4, (Below.refl _ _).drew⟩) hbx)) (first | (go_at_call 28; (with_reducible refine (HQ.out _ (by first | exact (Below.refl _ _).drew | exact mlast6 (by assumption))).mono ?_); rintro e w' ⟨rfl, hbx⟩) | (go_at_call 27; (with_reducible refine (HO.out _ (by first | exact (Below.refl _ _).drew | exact mlast6 (by assumption))).mono ?_); rintro e w' ⟨rfl, hbx⟩))
      all_goals
        have hq := mlast6 (w3 := w1) (by assumption)
        go_wp2_with fail
        go_ret
        exact ⟨rfl, step_b ha hq⟩
    | false =>
      cases hc1 : (m.toList == [80, 85, 84]) with
      | true =>
        have hlq : lenQ m b = true := by unfold lenQ; rw [hc1]; simp
        have HO : Hid (∀ W, Below (w.alloc (.cells #[.string m, .string t, .int .i64 v, .slice oa xs.length cap, .string b] 24)).heap.size (w.alloc (.cells #[.string m, .string t, .int .i64 v, .slice oa xs.length cap, .string b] 24)) W → Calls Tryz.prog 27 #[.string L, .slice oa xs.length cap, .string b, .bool true, .bool true] W fun e w' => e = .returned (.string X) ∧ Below W.heap.size W w') := Lib.hid fun W hW => by
          have hw := step_b ha hW
          have h9 := rjoined_any L oa xs cap b true true W (by omega) (by omega) hn hz (hc.down hw)
          rw [hX]; unfold reqW numQ
          rw [hlq, hLb.symm]
          exact h9
        clear hL hX hLb zL hz hc 
        go_enter Tryz.func10, Tryz.ntmps10
        go_wp2_with fail
        generalize (w.alloc (.cells #[.string m, .string t, .int .i64 v, .slice oa xs.length cap, .string b] 24)) = w1 at *
        go_region_held3 (fun w' => w'.cell? ⟨w.heap.size, 0, none⟩ = some (.string m) ∧ w'.cell? ⟨w.heap.size, 1, none⟩ = some (.string t) ∧ w'.cell? ⟨w.heap.size, 2, none⟩ = some (.int .i64 v) ∧ w'.cell? ⟨w.heap.size, 3, none⟩ = some (.slice oa xs.length cap) ∧ w'.cell? ⟨w.heap.size, 4, none⟩ = some (.string b) ∧ Below w1.heap.size w1 w') (first | assumption | exact ⟨a0, a1, a2, a3, a4, (Below.refl _ _).drew⟩ | (exact mkeep6 (by first | assumption | exact ⟨a0, a1, a2, a3, a4, (Below.refl _ _).drew⟩) hbx)) (first | (go_at_call 28; (with_reducible refine (HQ.out _ (by first | exact (Below.refl _ _).drew | exact mlast6 (by assumption))).mono ?_); rintro e w' ⟨rfl, hbx⟩) | (go_at_call 27; (with_reducible refine (HO.out _ (by first | exact (Below.refl _ _).drew | exact mlast6 (by assumption))).mono ?_); rintro e w' ⟨rfl, hbx⟩))
        all_goals
          have hq := mlast6 (w3 := w1) (by assumption)
          go_wp2_with fail
          go_ret
          exact ⟨rfl, step_b ha hq⟩
      | false =>
        cases hc2 : (m.toList == [80, 65, 84, 67, 72]) with
        | true =>
          have hlq : lenQ m b = true := by unfold lenQ; rw [hc2]; simp
          have HO : Hid (∀ W, Below (w.alloc (.cells #[.string m, .string t, .int .i64 v, .slice oa xs.length cap, .string b] 24)).heap.size (w.alloc (.cells #[.string m, .string t, .int .i64 v, .slice oa xs.length cap, .string b] 24)) W → Calls Tryz.prog 27 #[.string L, .slice oa xs.length cap, .string b, .bool true, .bool true] W fun e w' => e = .returned (.string X) ∧ Below W.heap.size W w') := Lib.hid fun W hW => by
            have hw := step_b ha hW
            have h9 := rjoined_any L oa xs cap b true true W (by omega) (by omega) hn hz (hc.down hw)
            rw [hX]; unfold reqW numQ
            rw [hlq, hLb.symm]
            exact h9
          clear hL hX hLb zL hz hc 
          go_enter Tryz.func10, Tryz.ntmps10
          go_wp2_with fail
          generalize (w.alloc (.cells #[.string m, .string t, .int .i64 v, .slice oa xs.length cap, .string b] 24)) = w1 at *
          go_region_held3 (fun w' => w'.cell? ⟨w.heap.size, 0, none⟩ = some (.string m) ∧ w'.cell? ⟨w.heap.size, 1, none⟩ = some (.string t) ∧ w'.cell? ⟨w.heap.size, 2, none⟩ = some (.int .i64 v) ∧ w'.cell? ⟨w.heap.size, 3, none⟩ = some (.slice oa xs.length cap) ∧ w'.cell? ⟨w.heap.size, 4, none⟩ = some (.string b) ∧ Below w1.heap.size w1 w') (first | assumption | exact ⟨a0, a1, a2, a3, a4, (Below.refl _ _).drew⟩ | (exact mkeep6 (by first | assumption | exact ⟨a0, a1, a2, a3, a4, (Below.refl _ _).drew⟩) hbx)) (first | (go_at_call 28; (with_reducible refine (HQ.out _ (by first | exact (Below.refl _ _).drew | exact mlast6 (by assumption))).mono ?_); rintro e w' ⟨rfl, hbx⟩) | (go_at_call 27; (with_reducible refine (HO.out _ (by first | exact (Below.refl _ _).drew | exact mlast6 (by assumption))).mono ?_); rintro e w' ⟨rfl, hbx⟩))
          all_goals
            have hq := mlast6 (w3 := w1) (by assumption)
            go_wp2_with fail
            go_ret
            exact ⟨rfl, step_b ha hq⟩
        | false =>
          have hlq : lenQ m b = false := by unfold lenQ; rw [hc0, hc1, hc2, e1]; rfl
          have HO : Hid (∀ W, Below (w.alloc (.cells #[.string m, .string t, .int .i64 v, .slice oa xs.length cap, .string b] 24)).heap.size (w.alloc (.cells #[.string m, .string t, .int .i64 v, .slice oa xs.length cap, .string b] 24)) W → Calls Tryz.prog 27 #[.string L, .slice oa xs.length cap, .string b, .bool false, .bool true] W fun e w' => e = .returned (.string X) ∧ Below W.heap.size W w') := Lib.hid fun W hW => by
            have hw := step_b ha hW
            have h9 := rjoined_any L oa xs cap b false true W (by omega) (by omega) hn hz (hc.down hw)
            rw [hX]; unfold reqW numQ
            rw [hlq, hLb.symm]
            exact h9
          clear hL hX hLb zL hz hc 
          go_enter Tryz.func10, Tryz.ntmps10
          go_wp2_with fail
          generalize (w.alloc (.cells #[.string m, .string t, .int .i64 v, .slice oa xs.length cap, .string b] 24)) = w1 at *
          go_region_held3 (fun w' => w'.cell? ⟨w.heap.size, 0, none⟩ = some (.string m) ∧ w'.cell? ⟨w.heap.size, 1, none⟩ = some (.string t) ∧ w'.cell? ⟨w.heap.size, 2, none⟩ = some (.int .i64 v) ∧ w'.cell? ⟨w.heap.size, 3, none⟩ = some (.slice oa xs.length cap) ∧ w'.cell? ⟨w.heap.size, 4, none⟩ = some (.string b) ∧ Below w1.heap.size w1 w') (first | assumption | exact ⟨a0, a1, a2, a3, a4, (Below.refl _ _).drew⟩ | (exact mkeep6 (by first | assumption | exact ⟨a0, a1, a2, a3, a4, (Below.refl _ _).drew⟩) hbx)) (first | (go_at_call 28; (with_reducible refine (HQ.out _ (by first | exact (Below.refl _ _).drew | exact mlast6 (by assumption))).mono ?_); rintro e w' ⟨rfl, hbx⟩) | (go_at_call 27; (with_reducible refine (HO.out _ (by first | exact (Below.refl _ _).drew | exact mlast6 (by assumption))).mono ?_); rintro e w' ⟨rfl, hbx⟩))
          all_goals
            have hq := mlast6 (w3 := w1) (by assumption)
            go_wp2_with fail
            go_ret
            exact ⟨rfl, step_b ha hq⟩
  · obtain ⟨e1, e2⟩ := femp_no hb0
    have hbz : ((b.size : Int) == 0) = false := by rw [beq_eq_false_iff_ne]; omega
    have hlq : lenQ m b = true := by unfold lenQ; rw [e1]; rfl
    have HO : Hid (∀ W, Below (w.alloc (.cells #[.string m, .string t, .int .i64 v, .slice oa xs.length cap, .string b] 24)).heap.size (w.alloc (.cells #[.string m, .string t, .int .i64 v, .slice oa xs.length cap, .string b] 24)) W → Calls Tryz.prog 27 #[.string L, .slice oa xs.length cap, .string b, .bool true, .bool true] W fun e w' => e = .returned (.string X) ∧ Below W.heap.size W w') := Lib.hid fun W hW => by
      have hw := step_b ha hW
      have h9 := rjoined_any L oa xs cap b true true W (by omega) (by omega) hn hz (hc.down hw)
      rw [hX]; unfold reqW numQ
      rw [hlq, hLb.symm]
      exact h9
    clear hL hX hLb zL hz hc 
    go_enter Tryz.func10, Tryz.ntmps10
    go_wp2_with fail
    generalize (w.alloc (.cells #[.string m, .string t, .int .i64 v, .slice oa xs.length cap, .string b] 24)) = w1 at *
    go_region_held3 (fun w' => w'.cell? ⟨w.heap.size, 0, none⟩ = some (.string m) ∧ w'.cell? ⟨w.heap.size, 1, none⟩ = some (.string t) ∧ w'.cell? ⟨w.heap.size, 2, none⟩ = some (.int .i64 v) ∧ w'.cell? ⟨w.heap.size, 3, none⟩ = some (.slice oa xs.length cap) ∧ w'.cell? ⟨w.heap.size, 4, none⟩ = some (.string b) ∧ Below w1.heap.size w1 w') (first | assumption | exact ⟨a0, a1, a2, a3, a4, (Below.refl _ _).drew⟩ | (exact mkeep6 (by first | assumption | exact ⟨a0, a1, a2, a3, a4, (Below.refl _ _).drew⟩) hbx)) (first | (go_at_call 28; (with_reducible refine (HQ.out _ (by first | exact (Below.refl _ _).drew | exact mlast6 (by assumption))).mono ?_); rintro e w' ⟨rfl, hbx⟩) | (go_at_call 27; (with_reducible refine (HO.out _ (by first | exact (Below.refl _ _).drew | exact mlast6 (by assumption))).mono ?_); rintro e w' ⟨rfl, hbx⟩))
    all_goals
      have hq := mlast6 (w3 := w1) (by assumption)
      go_wp2_with fail
      go_ret
      exact ⟨rfl, step_b ha hq⟩
end Go.Proofs.YtfnmohaddkoalaaGreatDoor
namespace Go.Proofs.YtfnmohaddkoalaaGreatDoor
open Go.RowKit Go.Shelf
set_option linter.unusedSimpArgs false
set_option linter.unusedVariables false

def keepQB (m tg bd : ByteArray) (xs : List Fd) : Bool := decide (m.size ≤ 100) && decide (tg.size ≤ 2100) && fieldsB xs && decide (bd.size ≤ 2000)
theorem keepQB_true {m tg bd : ByteArray} {xs : List Fd} (h : keepQB m tg bd xs = true) : m.size ≤ 100 ∧ tg.size ≤ 2100 ∧ bd.size ≤ 2000 ∧ xs.length ≤ 70 ∧ FldZ xs 300 := by
  unfold keepQB at h
  rw [Bool.and_eq_true, Bool.and_eq_true, Bool.and_eq_true, decide_eq_true_eq, decide_eq_true_eq, decide_eq_true_eq] at h
  obtain ⟨⟨⟨h1, h2⟩, h3⟩, h4⟩ := h
  have := fieldsB_true h3
  exact ⟨h1, h2, h4, this.1, this.2⟩
set_option maxHeartbeats 1600000 in
theorem keepQ_any (m tg : ByteArray) (mn : Int) (oa : Option Addr) (xs : List Fd) (cap : Nat) (bd : ByteArray) (w : World) (hn : xs.length ≤ 9223372036854775807) (hc : FldO w oa xs) :
    Calls Tryz.prog 8 #[.agg (reqC m tg mn (.slice oa xs.length cap) bd).toArray] w fun e w' => e = .returned (.bool (keepQB m tg bd xs)) ∧ Below w.heap.size w w' := by
  have HC := Lib.hid (hc.down (alloc_b w (.cells (reqC m tg mn (.slice oa xs.length cap) bd).toArray 24)))
  clear hc
  by_cases h1 : m.size ≤ 100
  · have h1' : decide ((m.size : Int) ≤ 100) = true := by simp; omega
    by_cases h2 : tg.size ≤ 2100
    · have h2' : decide ((tg.size : Int) ≤ 2100) = true := by simp; omega
      cases hf : fieldsB xs with
      | true =>
        have HF := Lib.hid hf
        have HR : Hid (keepQB m tg bd xs = decide ((bd.size : Int) ≤ 2000)) := Lib.hid (by
          unfold keepQB; rw [hf, decide_eq_true h1, decide_eq_true h2]; simp; omega)
        clear hf
        go_enter Tryz.func8, Tryz.ntmps8
        go_wp2_with fail
        refine (keepF_any oa xs cap _ hn HC.out).mono ?_
        rintro e w2 ⟨rfl, hw2⟩
        rw [HF.out]
        subst hw2
        go_wp2_with fail
        go_ret
        exact ⟨by rw [HR.out]; rfl, alloc_b w _⟩
      | false =>
        have HF := Lib.hid hf
        have HR : Hid (keepQB m tg bd xs = false) := Lib.hid (by unfold keepQB; rw [hf]; simp)
        clear hf
        go_enter Tryz.func8, Tryz.ntmps8
        go_wp2_with fail
        refine (keepF_any oa xs cap _ hn HC.out).mono ?_
        rintro e w2 ⟨rfl, hw2⟩
        rw [HF.out]
        subst hw2
        go_wp2_with fail
        go_ret
        exact ⟨by rw [HR.out]; rfl, alloc_b w _⟩
    · have h2' : decide ((tg.size : Int) ≤ 2100) = false := by simp; omega
      have HR : Hid (keepQB m tg bd xs = false) := Lib.hid (by unfold keepQB; rw [decide_eq_false h2]; simp)
      go_enter Tryz.func8, Tryz.ntmps8
      go_wp2_with fail
      go_ret
      exact ⟨by rw [HR.out]; rfl, alloc_b w _⟩
  · have h1' : decide ((m.size : Int) ≤ 100) = false := by simp; omega
    have HR : Hid (keepQB m tg bd xs = false) := Lib.hid (by unfold keepQB; rw [decide_eq_false h1]; rfl)
    go_enter Tryz.func8, Tryz.ntmps8
    go_wp2_with fail
    go_ret
    exact ⟨by rw [HR.out]; rfl, alloc_b w _⟩
theorem rows2 (w : World) (X : List Value) (TX : TypeId) (Y : List Value) (TY : TypeId) :
    RowAt ((w.alloc (.cells X.toArray TX)).alloc (.cells Y.toArray TY)) w.heap.size TX X ∧ RowAt ((w.alloc (.cells X.toArray TX)).alloc (.cells Y.toArray TY)) (w.heap.size + 1) TY Y ∧ Below w.heap.size w ((w.alloc (.cells X.toArray TX)).alloc (.cells Y.toArray TY)) := by
  have h1 := RowAt.new w X TX
  have h2 := RowAt.new (w.alloc (.cells X.toArray TX)) Y TY
  have s1 : (w.alloc (.cells X.toArray TX)).heap.size = w.heap.size + 1 := Array.size_push _
  rw [s1] at h2
  exact ⟨h1.alloc _, h2, step_b (alloc_b w _) (alloc_b _ _)⟩
set_option maxHeartbeats 1600000 in
theorem sameReq_any (m tg : ByteArray) (mn : Int) (oa : Option Addr) (xs : List Fd) (ca : Nat) (ob : Option Addr) (cb : Nat) (bd : ByteArray) (w : World) (hn : xs.length ≤ 1000000) (ha : FldO w oa xs) (hb : FldO w ob xs) :
    Calls Tryz.prog 15 #[.agg (reqC m tg mn (.slice oa xs.length ca) bd).toArray, .agg (reqC m tg mn (.slice ob xs.length cb) bd).toArray] w fun e w' => e = .returned (.bool true) ∧ Below w.heap.size w w' := by
  obtain ⟨R1, R2, b2⟩ := rows2 w (reqC m tg mn (.slice oa xs.length ca) bd) 24 (reqC m tg mn (.slice ob xs.length cb) bd) 24
  have HS := Lib.hid (sameFields_any oa ob xs ca cb _ hn (ha.down b2) (hb.down b2))
  clear ha hb
  go_enter Tryz.func15, Tryz.ntmps15
  go_wp2_with fail
  refine HS.out.mono ?_
  rintro e w1 ⟨rfl, hb1⟩
  have c1 := (R1.below hb1).cell 4 rfl
  have c2 := (R2.below hb1).cell 4 rfl
  have b3 := step_b b2 hb1
  clear R1 R2 HS hb1 b2
  go_wp2_with fail
  go_ret
  exact ⟨rfl, b3⟩
set_option maxHeartbeats 1600000 in
theorem sameResp_any (m st : Int) (rs : ByteArray) (oa : Option Addr) (xs : List Fd) (ca : Nat) (ob : Option Addr) (cb : Nat) (bd : ByteArray) (w : World) (hn : xs.length ≤ 1000000) (ha : FldO w oa xs) (hb : FldO w ob xs) :
    Calls Tryz.prog 24 #[respV m st rs oa xs.length ca bd, respV m st rs ob xs.length cb bd] w fun e w' => e = .returned (.bool true) ∧ Below w.heap.size w w' := by
  have b2 := step_b (alloc_b w (.cells (respC m st rs oa xs.length ca bd).toArray 41)) (alloc_b _ (.cells (respC m st rs ob xs.length cb bd).toArray 41))
  have R1 := (RowAt.new w (respC m st rs oa xs.length ca bd) 41).alloc (.cells (respC m st rs ob xs.length cb bd).toArray 41)
  have R2 := RowAt.new (w.alloc (.cells (respC m st rs oa xs.length ca bd).toArray 41)) (respC m st rs ob xs.length cb bd) 41
  rw [show (w.alloc (.cells (respC m st rs oa xs.length ca bd).toArray 41)).heap.size = w.heap.size + 1 from Array.size_push _] at R2
  have HS := Lib.hid (sameFields_any oa ob xs ca cb _ hn ((ha.down (alloc_b w (.cells (respC m st rs oa xs.length ca bd).toArray 41))).down (alloc_b _ (.cells (respC m st rs ob xs.length cb bd).toArray 41))) ((hb.down (alloc_b w (.cells (respC m st rs oa xs.length ca bd).toArray 41))).down (alloc_b _ (.cells (respC m st rs ob xs.length cb bd).toArray 41))))
  clear ha hb
  go_enter Tryz.func24, Tryz.ntmps24
  go_wp2_with fail
  refine HS.out.mono ?_
  rintro e w1 ⟨rfl, hb1⟩
  have c1 := (R1.below hb1).cell 4 rfl
  have c2 := (R2.below hb1).cell 4 rfl
  have b3 := step_b b2 hb1
  clear R1 R2 HS hb1 b2
  go_wp2_with fail
  go_ret
  exact ⟨rfl, b3⟩
end Go.Proofs.YtfnmohaddkoalaaGreatDoor
namespace Go.Proofs.YtfnmohaddkoalaaGreatDoor
open Go.RowKit Go.Shelf
set_option linter.unusedSimpArgs false
set_option linter.unusedVariables false

theorem sent_of_back {W : World} (h : laidMetH Tryz.prog Rows.messageBackRow.laid W) : SentOf W := by
  rw [MakeChecks.laidMetH_plain _ _ _ (by kernel_rfl)] at h
  exact sent_of_two h.tail.tail.tail.tail
theorem pow_of_back {W : World} (h : laidMetH Tryz.prog Rows.messageBackRow.laid W) : PowTab W := by
  rw [MakeChecks.laidMetH_plain _ _ _ (by kernel_rfl)] at h
  obtain ⟨ps, hv, _⟩ := h
  obtain ⟨q1, hv1⟩ := laid_rest hv
  obtain ⟨q2, hv2⟩ := laid_rest hv1
  exact laid_tab (g := 3) (t := 154) (e := 135) (n := 20) (by kernel_rfl) (by kernel_rfl) Tryz.underlying154 Tryz.underlying135 (by kernel_rfl) (by kernel_rfl) hv2
theorem sent_of_short {W : World} (h : laidMetH Tryz.prog Rows.messageShortRow.laid W) : SentOf W := by
  rw [MakeChecks.laidMetH_plain _ _ _ (by kernel_rfl)] at h
  exact sent_of_two h.tail.tail.tail.tail
theorem pow_of_short {W : World} (h : laidMetH Tryz.prog Rows.messageShortRow.laid W) : PowTab W := by
  rw [MakeChecks.laidMetH_plain _ _ _ (by kernel_rfl)] at h
  obtain ⟨ps, hv, _⟩ := h
  obtain ⟨q1, hv1⟩ := laid_rest hv
  obtain ⟨q2, hv2⟩ := laid_rest hv1
  exact laid_tab (g := 3) (t := 154) (e := 135) (n := 20) (by kernel_rfl) (by kernel_rfl) Tryz.underlying154 Tryz.underlying135 (by kernel_rfl) (by kernel_rfl) hv2
theorem numQ_ok (m b : ByteArray) : numQ m b < 0 ∧ bs b = [] ∨ numQ m b = ((bs b).length : Int) := by
  unfold numQ
  cases h : lenQ m b with
  | true => right; rw [if_pos rfl, bs_length]
  | false =>
    left
    refine ⟨by simp, ?_⟩
    by_cases h0 : b.size = 0
    · exact (femp_yes h0).2
    · unfold lenQ at h; rw [(femp_no h0).1] at h; cases h
theorem msgL_len (st : List UInt8) (fs : List Fd) (n : Int) (b : List UInt8) : (msgL st fs n b).length ≤ 16000 + b.length := by
  unfold msgL
  split
  · simp
  · split
    · simp
    · rw [List.length_append]; simp only [List.length_cons]; omega
theorem run_to6 (s : ByteArray) (k : Nat) (h : k ≤ s.size) (wx : World) : (Instr.slice 9 (.string s) none (some (.int .i64 (k : Int))) none).run Tryz.prog wx = .ok (.string (s.extract 0 k)) wx := run_to2 s k _ rfl h wx
set_option maxHeartbeats 3200000 in
set_option maxRecDepth 100000 in
theorem short6_walk (m t : ByteArray) (v : Int) (oa : Option Addr) (xs : List Fd) (cap : Nat) (b : ByteArray) (cut : Int) (w : World) (hn : xs.length ≤ 9223372036854775807) (_ : m.size ≤ 9223372036854775807) (_ : t.size ≤ 9223372036854775807) (_ : b.size ≤ 9223372036854775807) (hmw : (Lit.int .i64 v).wf = true) (hc : FldO w oa xs) (hcw : (Lit.int .i64 cut).wf = true) (hS : SentOf w) (hT : PowTab w) (hM : MaxOf w) :
    Calls Tryz.prog 5 #[.agg (reqC m t v (.slice oa xs.length cap) b).toArray, .int .i64 cut] w fun e w' => e = .returned (.bool true) ∧ Below w.heap.size w w' := by
  have ha := alloc_b w (.cells (reqC m t v (.slice oa xs.length cap) b).toArray 24)
  have V0 := RowAt.new w (reqC m t v (.slice oa xs.length cap) b) 24
  have HC := Lib.hid hc
  have HE := Lib.hid (ReqEnv.of hS hM)
  have HT := Lib.hid hT
  obtain ⟨v0, v1⟩ := bounds_i64 hmw
  obtain ⟨u0, u1⟩ := bounds_i64 hcw
  clear hc hS hT hM hmw hcw
  cases hk : keepQB m t b xs with
  | false =>
    have HK := Lib.hid hk
    clear hk
    go_enter Tryz.func5, Tryz.ntmps5
    go_wp2_with fail
    refine (keepQ_any m t v oa xs cap b _ hn (HC.out.down ha)).mono ?_
    rintro e w1 ⟨rfl, hb1⟩
    rw [HK.out]
    have V1 := V0.below hb1
    have b1 := step_b ha hb1
    clear V0 hb1 ha
    go_wp2_with fail
    go_ret
    exact ⟨rfl, b1⟩
  | true =>
  obtain ⟨k1, k2, k3, k4, k5⟩ := keepQB_true hk
  have HK := Lib.hid hk
  clear hk
  by_cases h0 : cut < 0
  · skip
    go_enter Tryz.func5, Tryz.ntmps5
    go_wp2_with fail
    refine (keepQ_any m t v oa xs cap b _ hn (HC.out.down ha)).mono ?_
    rintro e w1 ⟨rfl, hb1⟩
    rw [HK.out]
    have V1 := V0.below hb1
    have b1 := step_b ha hb1
    clear V0 hb1 ha
    go_wp2_with fail
    go_ret
    exact ⟨rfl, b1⟩
  obtain ⟨X, hX⟩ : ∃ X : ByteArray, X = ⟨(reqW m t v xs b).toArray⟩ := ⟨_, rfl⟩
  have hXb : bs X = reqW m t v xs b := by rw [hX]
  have zX : X.size ≤ 18000 := by rw [hX]; have := msgL_len (reqF (bs m) (bs t) v) xs (numQ m b) (bs b); rw [bs_length] at this; show (reqW m t v xs b).length ≤ _; unfold reqW; omega
  have HF : Hid (∀ W, Below w.heap.size w W → Calls Tryz.prog 16 #[.agg (reqC m t v (.slice oa xs.length cap) b).toArray] W fun e w' => e = .returned (.string X) ∧ Below W.heap.size W w') := Lib.hid fun W hW => by
    rw [hX]; exact fmtQ_any m t v oa xs cap b W k1 k2 k3 (by omega) k5 (HC.out.down hW) v0 v1 (HE.out.below hW) (HT.out.below hW)
  have HRF : Hid (∀ W, Below w.heap.size w W → Calls Tryz.prog 10 #[.agg (reqC m t v (.slice oa xs.length cap) b).toArray] W fun e w' => e = .returned (.string X) ∧ Below W.heap.size W w') := Lib.hid fun W hW => by
    rw [hX]; exact rfmtQ_any m t v oa xs cap b W k1 k2 k3 (by omega) k5 (HC.out.down hW) v0 v1
  obtain ⟨gs, hgs⟩ : ∃ gs, gs = getF hoN xs := ⟨_, rfl⟩
  have HG : Hid (∀ W, Below w.heap.size w W → Calls Tryz.prog 17 #[.slice oa xs.length cap, .string ⟨#[72, 111, 115, 116]⟩] W fun e w' => ∃ vg, e = .returned vg ∧ SBuf w' W.heap.size vg gs ∧ Below W.heap.size W w') := Lib.hid fun W hW => by
    rw [hgs]; exact rget_any oa xs cap ⟨#[72, 111, 115, 116]⟩ W (by decide) (by omega) (fun x hx => by have := k5 x hx; omega) (HC.out.down hW)
  have HXB := Lib.hid hXb
  have HGS := Lib.hid hgs
  clear hX hXb hgs
  by_cases hx0 : X.size = 0
  · obtain ⟨e1, e2⟩ := femp_yes hx0
    clear e2 hx0
    go_enter Tryz.func5, Tryz.ntmps5
    go_wp2_with fail
    refine (keepQ_any m t v oa xs cap b _ hn (HC.out.down ha)).mono ?_
    rintro e w1 ⟨rfl, hb1⟩
    rw [HK.out]
    have V1 := V0.below hb1
    have b1 := step_b ha hb1
    clear V0 hb1 ha
    have a0 := V1.cell 0 rfl
    have a1 := V1.cell 1 rfl
    have a2 := V1.cell 2 rfl
    have a3 := V1.cell 3 rfl
    have a4 := V1.cell 4 rfl
    go_wp2_with fail
    refine (HF.out _ b1).mono ?_
    rintro e w2 ⟨rfl, hb2⟩
    have V2 := V1.below hb2
    have b2 := step_b b1 hb2
    clear V1 hb2 b1 a0 a1 a2 a3 a4
    have a0 := V2.cell 0 rfl
    have a1 := V2.cell 1 rfl
    have a2 := V2.cell 2 rfl
    have a3 := V2.cell 3 rfl
    have a4 := V2.cell 4 rfl
    go_wp2_with fail
    refine (HRF.out _ b2).mono ?_
    rintro e w9 ⟨rfl, hb9⟩
    have b9 := step_b b2 hb9
    go_wp2_with fail
    refine (awake6_any w9 (HE.out.below b9)).mono ?_
    rintro e w10 ⟨rfl, hb10⟩
    go_wp2_with fail
    go_ret
    exact ⟨rfl, step_b b9 hb10⟩
  obtain ⟨e1, e2⟩ := femp_no hx0
  obtain ⟨ng, hng⟩ : ∃ ng, ng = gs.length := ⟨_, rfl⟩
  have HNG := Lib.hid hng
  by_cases hg1 : ng = 1
  · have hg1' : ((ng : Int) != 1) = false := by rw [hg1]; rfl
    obtain ⟨c, hcc⟩ : ∃ c : Nat, cut = c := ⟨cut.toNat, by omega⟩
    subst hcc
    obtain ⟨i, hi⟩ : ∃ i : Nat, i = c % X.size := ⟨_, rfl⟩
    have hX0 : 0 < X.size := by omega
    have hiZ : i < X.size := by rw [hi]; exact Nat.mod_lt _ hX0
    have hm : (c : Int) % (X.size : Int) = (i : Int) := by rw [hi]; rfl
    have hm2 : Int.tmod (c : Int) (X.size : Int) = (i : Int) := by rw [Int.tmod_eq_emod_of_nonneg (by omega)]; exact hm
    obtain ⟨Y, hY⟩ : ∃ Y : ByteArray, Y = X.extract 0 i := ⟨_, rfl⟩
    have p2 : ∀ wx, (Instr.slice 9 (.string X) none (some (.int .i64 (i : Int))) none).run Tryz.prog wx = .ok (.string Y) wx := fun wx => by rw [hY]; exact run_to6 X i (by omega) wx
    have zY : Y.size ≤ 1000000 := by rw [hY, ByteArray.size_extract]; omega
    have hpq : parseQ (bs Y) = (req0, 0, 2) := by
      have hb2 : bs Y = (reqW m t v xs b).take i := by rw [hY, ext_take, HXB.out]
      rw [hb2]
      refine msg_short ?_ (numQ_ok m b) (by rw [bs_length]; omega) (by rw [← HGS.out, ← HNG.out]; exact hg1) ?_
      · intro h; rw [HXB.out] at e2; exact e2 h
      · have h9 := bs_length X
        rw [HXB.out] at h9
        show i < (reqW m t v xs b).length
        omega
    have HP : Hid (∀ wx, ReqEnv wx → Calls Tryz.prog 12 #[.string Y] wx fun e w' => ∃ oz cz, e = .returned (.tuple #[.agg (reqC ⟨#[]⟩ ⟨#[]⟩ 0 (.slice oz 0 cz) ⟨#[]⟩).toArray, .int .i64 0, .int .i64 2]) ∧ Below wx.heap.size wx w') := Lib.hid fun wx h => by
      have h9 := parseE_any Y wx zY h
      rw [hpq] at h9
      refine h9.mono ?_
      rintro e w' ⟨vf, rfl, FB, hb⟩
      obtain ⟨oz, cz, rfl, _⟩ := FB.shape
      exact ⟨oz, cz, rfl, hb⟩
    clear e2 hx0 hi hY hm hpq hng hX0
    go_enter Tryz.func5, Tryz.ntmps5
    go_wp2_with fail
    refine (keepQ_any m t v oa xs cap b _ hn (HC.out.down ha)).mono ?_
    rintro e w1 ⟨rfl, hb1⟩
    rw [HK.out]
    have V1 := V0.below hb1
    have b1 := step_b ha hb1
    clear V0 hb1 ha
    have a0 := V1.cell 0 rfl
    have a1 := V1.cell 1 rfl
    have a2 := V1.cell 2 rfl
    have a3 := V1.cell 3 rfl
    have a4 := V1.cell 4 rfl
    go_wp2_with fail
    refine (HF.out _ b1).mono ?_
    rintro e w2 ⟨rfl, hb2⟩
    have V2 := V1.below hb2
    have b2 := step_b b1 hb2
    clear V1 hb2 b1 a0 a1 a2 a3 a4
    have a0 := V2.cell 0 rfl
    have a1 := V2.cell 1 rfl
    have a2 := V2.cell 2 rfl
    have a3 := V2.cell 3 rfl
    have a4 := V2.cell 4 rfl
    go_wp2_with fail
    refine (HG.out _ b2).mono ?_
    rintro e w3 ⟨vg, rfl, SG, hb3⟩
    obtain ⟨og, cg, rfl, _⟩ := SG.shape
    have V3 := V2.below hb3
    have b3 := step_b b2 hb3
    clear V2 hb3 b2 SG a0 a1 a2 a3 a4
    rw [← HNG.out]
    go_wp2_with fail
    refine (HP.out _ (HE.out.below b3)).mono ?_
    rintro e w4 ⟨oz, cz, rfl, hb4⟩
    have b4 := step_b b3 hb4
    have hA := alloc_b w4 (.cells zReq.toArray 24)
    have RN := RowAt.new w4 zReq 24
    go_wp2_with (refine wpList_store_row rfl _ 24 (.tmp 6) (.tmp 42) rfl w4.heap.size 24 zReq (reqC ⟨#[]⟩ ⟨#[]⟩ 0 (.slice oz 0 cz) ⟨#[]⟩) RN rfl rfl rfl mreq_size (reqC_one _ _ _ _ _ _ _) ?_; intro w5 R5 f1 f2 f3; have d0 := R5.cell 0 rfl; have d1 := R5.cell 1 rfl; have d2 := R5.cell 2 rfl; have d3 := R5.cell 3 rfl; have d4 := R5.cell 4 rfl; have b5 := (step_b b4 hA).trans (f1 _ b4.size); clear RN f1 f2 f3)
    refine (sameReq_any ⟨#[]⟩ ⟨#[]⟩ 0 oz [] cz none 0 ⟨#[]⟩ w5 (by simp) (FldO.nil_ _ _) (FldO.nil_ _ _)).mono ?_
    rintro e w6 ⟨rfl, hb6⟩
    have b6 := step_b b5 hb6
    go_wp2_with fail
    refine (awake6_any w6 (HE.out.below b6)).mono ?_
    rintro e w7 ⟨rfl, hb7⟩
    go_wp2_with fail
    go_ret
    exact ⟨rfl, step_b b6 hb7⟩
  · have hg1' : ((ng : Int) != 1) = true := by simp; omega
    clear e2 hx0 hng
    go_enter Tryz.func5, Tryz.ntmps5
    go_wp2_with fail
    refine (keepQ_any m t v oa xs cap b _ hn (HC.out.down ha)).mono ?_
    rintro e w1 ⟨rfl, hb1⟩
    rw [HK.out]
    have V1 := V0.below hb1
    have b1 := step_b ha hb1
    clear V0 hb1 ha
    have a0 := V1.cell 0 rfl
    have a1 := V1.cell 1 rfl
    have a2 := V1.cell 2 rfl
    have a3 := V1.cell 3 rfl
    have a4 := V1.cell 4 rfl
    go_wp2_with fail
    refine (HF.out _ b1).mono ?_
    rintro e w2 ⟨rfl, hb2⟩
    have V2 := V1.below hb2
    have b2 := step_b b1 hb2
    clear V1 hb2 b1 a0 a1 a2 a3 a4
    have a0 := V2.cell 0 rfl
    have a1 := V2.cell 1 rfl
    have a2 := V2.cell 2 rfl
    have a3 := V2.cell 3 rfl
    have a4 := V2.cell 4 rfl
    go_wp2_with fail
    refine (HG.out _ b2).mono ?_
    rintro e w3 ⟨vg, rfl, SG, hb3⟩
    obtain ⟨og, cg, rfl, _⟩ := SG.shape
    have V3 := V2.below hb3
    have b3 := step_b b2 hb3
    clear V2 hb3 b2 SG a0 a1 a2 a3 a4
    rw [← HNG.out]
    have a0 := V3.cell 0 rfl
    have a1 := V3.cell 1 rfl
    have a2 := V3.cell 2 rfl
    have a3 := V3.cell 3 rfl
    have a4 := V3.cell 4 rfl
    go_wp2_with fail
    refine (HRF.out _ b3).mono ?_
    rintro e w9 ⟨rfl, hb9⟩
    have b9 := step_b b3 hb9
    go_wp2_with fail
    refine (awake6_any w9 (HE.out.below b9)).mono ?_
    rintro e w10 ⟨rfl, hb10⟩
    go_wp2_with fail
    go_ret
    exact ⟨rfl, step_b b9 hb10⟩
set_option maxHeartbeats 3200000 in
set_option maxRecDepth 100000 in
theorem back6_walk (m t : ByteArray) (v : Int) (oa : Option Addr) (xs : List Fd) (cap : Nat) (b : ByteArray) (more : ByteArray) (w : World) (hn : xs.length ≤ 9223372036854775807) (_ : m.size ≤ 9223372036854775807) (_ : t.size ≤ 9223372036854775807) (_ : b.size ≤ 9223372036854775807) (hmw : (Lit.int .i64 v).wf = true) (hc : FldO w oa xs) (hmz : more.size ≤ 9223372036854775807) (hS : SentOf w) (hT : PowTab w) (hM : MaxOf w) :
    Calls Tryz.prog 4 #[.agg (reqC m t v (.slice oa xs.length cap) b).toArray, .string more] w fun e w' => e = .returned (.bool true) ∧ Below w.heap.size w w' := by
  have ha := alloc_b w (.cells (reqC m t v (.slice oa xs.length cap) b).toArray 24)
  have V0 := RowAt.new w (reqC m t v (.slice oa xs.length cap) b) 24
  have HC := Lib.hid hc
  have HE := Lib.hid (ReqEnv.of hS hM)
  have HT := Lib.hid hT
  obtain ⟨v0, v1⟩ := bounds_i64 hmw
  clear hc hS hT hM hmw
  cases hk : keepQB m t b xs with
  | false =>
    have HK := Lib.hid hk
    clear hk
    go_enter Tryz.func4, Tryz.ntmps4
    go_wp2_with fail
    refine (keepQ_any m t v oa xs cap b _ hn (HC.out.down ha)).mono ?_
    rintro e w1 ⟨rfl, hb1⟩
    rw [HK.out]
    have V1 := V0.below hb1
    have b1 := step_b ha hb1
    have z1 : w.heap.size + 1 ≤ w1.heap.size := Nat.le_trans (by rw [World.size_alloc]; omega) hb1.size
    clear V0 hb1 ha
    go_wp2_with fail
    go_ret
    exact ⟨rfl, b1⟩
  | true =>
  obtain ⟨k1, k2, k3, k4, k5⟩ := keepQB_true hk
  have HK := Lib.hid hk
  clear hk
  by_cases h0 : 1000 < (more.size : Int)
  · skip
    go_enter Tryz.func4, Tryz.ntmps4
    go_wp2_with fail
    refine (keepQ_any m t v oa xs cap b _ hn (HC.out.down ha)).mono ?_
    rintro e w1 ⟨rfl, hb1⟩
    rw [HK.out]
    have V1 := V0.below hb1
    have b1 := step_b ha hb1
    have z1 : w.heap.size + 1 ≤ w1.heap.size := Nat.le_trans (by rw [World.size_alloc]; omega) hb1.size
    clear V0 hb1 ha
    go_wp2_with fail
    go_ret
    exact ⟨rfl, b1⟩
  go_enter Tryz.func4, Tryz.ntmps4
  go_wp2_with fail
  refine (keepQ_any m t v oa xs cap b _ hn (HC.out.down ha)).mono ?_
  rintro e w1 ⟨rfl, hb1⟩
  rw [HK.out]
  have V1 := V0.below hb1
  have b1 := step_b ha hb1
  have z1 : w.heap.size + 1 ≤ w1.heap.size := Nat.le_trans (by rw [World.size_alloc]; omega) hb1.size
  clear V0 hb1 ha
  have a0 := V1.cell 0 rfl
  have a1 := V1.cell 1 rfl
  have a2 := V1.cell 2 rfl
  have a3 := V1.cell 3 rfl
  have a4 := V1.cell 4 rfl
  go_wp2_with fail
  refine (unframed_any oa xs cap w1 (by omega) (fun x hx => by have := k5 x hx; omega) (HC.out.down b1)).mono ?_
  rintro e w2 ⟨vu, rfl, FU, hb2⟩
  obtain ⟨us, hus⟩ : ∃ us, us = unfrL xs := ⟨_, rfl⟩
  rw [← hus] at FU
  obtain ⟨ou, cu, rfl, _⟩ := FU.shape
  have V2 := V1.below hb2
  have b2 := step_b b1 hb2
  clear V1 hb2 b1 a0 a1 a2 a3 a4
  have a0 := V2.cell 0 rfl
  have a1 := V2.cell 1 rfl
  have a2 := V2.cell 2 rfl
  have a3 := V2.cell 3 rfl
  have a4 := V2.cell 4 rfl
  have f3 := V2.free 3
  have V3 : RowAt (w2.setCell ⟨w.heap.size, 3, none⟩ (.slice ou us.length cu)) w.heap.size 24 (reqC m t v (.slice ou us.length cu) b) := V2.set 3 (.slice ou us.length cu)
  have b3 := b2.setCell (p := ⟨w.heap.size, 3, none⟩) (Nat.le_refl _) (.slice ou us.length cu)
  have FU3 : FBuf (w2.setCell ⟨w.heap.size, 3, none⟩ (.slice ou us.length cu)) w1.heap.size (.slice ou us.length cu) us := FU.other (show w.heap.size < w1.heap.size by omega) (fun k hk => heap_setCell_other _ _ _ _ hk)
  have HU := Lib.hid FU3.fld
  have hul : us.length ≤ 70 := by rw [hus]; have := unfr_len xs; omega
  have huz : FldZ us 300 := by rw [hus]; exact fldz_filter k5
  have huu : unfrL us = us := by rw [hus]; exact unfr_twice xs
  clear V2 b2 FU FU3
  have g0 := V3.cell 0 rfl
  have g1 := V3.cell 1 rfl
  have g2 := V3.cell 2 rfl
  have g3 := V3.cell 3 rfl
  have g4 := V3.cell 4 rfl
  have HUS := Lib.hid hus
  clear hus
  obtain ⟨w3, hw3⟩ : ∃ W, W = (w2.setCell ⟨w.heap.size, 3, none⟩ (.slice ou us.length cu)) := ⟨_, rfl⟩
  rw [← hw3] at V3 b3 HU g0 g1 g2 g3 g4
  have HW3 := Lib.hid hw3
  obtain ⟨X, hX⟩ : ∃ X : ByteArray, X = ⟨(reqW m t v us b).toArray⟩ := ⟨_, rfl⟩
  have hXb : bs X = reqW m t v us b := by rw [hX]
  have zX : X.size ≤ 18000 := by rw [hX]; have := msgL_len (reqF (bs m) (bs t) v) us (numQ m b) (bs b); rw [bs_length] at this; show (reqW m t v us b).length ≤ _; unfold reqW; omega
  have HF : Hid (∀ W, Below w3.heap.size w3 W → Calls Tryz.prog 16 #[.agg (reqC m t v (.slice ou us.length cu) b).toArray] W fun e w' => e = .returned (.string X) ∧ Below W.heap.size W w') := Lib.hid fun W hW => by
    have hW0 := step_b b3 hW
    rw [hX]; exact fmtQ_any m t v ou us cu b W k1 k2 k3 (by omega) huz (HU.out.down hW) v0 v1 (HE.out.below hW0) (HT.out.below hW0)
  have HRF : Hid (∀ W, Below w3.heap.size w3 W → Calls Tryz.prog 10 #[.agg (reqC m t v (.slice ou us.length cu) b).toArray] W fun e w' => e = .returned (.string X) ∧ Below W.heap.size W w') := Lib.hid fun W hW => by
    rw [hX]; exact rfmtQ_any m t v ou us cu b W k1 k2 k3 (by omega) huz (HU.out.down hW) v0 v1
  obtain ⟨gs, hgs⟩ : ∃ gs, gs = getF hoN us := ⟨_, rfl⟩
  have HG : Hid (∀ W, Below w3.heap.size w3 W → Calls Tryz.prog 17 #[.slice ou us.length cu, .string ⟨#[72, 111, 115, 116]⟩] W fun e w' => ∃ vg, e = .returned vg ∧ SBuf w' W.heap.size vg gs ∧ Below W.heap.size W w') := Lib.hid fun W hW => by
    rw [hgs]; exact rget_any ou us cu ⟨#[72, 111, 115, 116]⟩ W (by decide) (by omega) (fun x hx => by have := huz x hx; omega) (HU.out.down hW)
  have HXB := Lib.hid hXb
  have HGS := Lib.hid hgs
  clear hX hXb hgs
  go_wp2_with fail
  rw [← HW3.out]
  clear a0 a1 a2 a3 a4 f3 hw3 HW3
  refine (HF.out _ (Below.refl _ _)).mono ?_
  rintro e w4 ⟨rfl, hb4⟩
  have V4 := V3.below hb4
  clear V3 g0 g1 g2 g3 g4
  have a0 := V4.cell 0 rfl
  have a1 := V4.cell 1 rfl
  have a2 := V4.cell 2 rfl
  have a3 := V4.cell 3 rfl
  have a4 := V4.cell 4 rfl
  by_cases hx0 : X.size = 0
  · obtain ⟨e1, e2⟩ := femp_yes hx0
    clear e2 hx0
    go_wp2_with fail
    refine (HRF.out _ hb4).mono ?_
    rintro e w9 ⟨rfl, hb9⟩
    have b9 := step_b b3 (step_b hb4 hb9)
    go_wp2_with fail
    refine (awake6_any w9 (HE.out.below b9)).mono ?_
    rintro e w10 ⟨rfl, hb10⟩
    go_wp2_with fail
    go_ret
    exact ⟨rfl, step_b b9 hb10⟩
  obtain ⟨e1, e2⟩ := femp_no hx0
  obtain ⟨ng, hng⟩ : ∃ ng, ng = gs.length := ⟨_, rfl⟩
  have HNG := Lib.hid hng
  by_cases hg1 : ng = 1
  · have hg1' : ((ng : Int) != 1) = false := by rw [hg1]; rfl
    obtain ⟨Y, hY⟩ : ∃ Y : ByteArray, Y = X ++ more := ⟨_, rfl⟩
    have sY : ∀ wx, (Op.stringOp .add X more).run Tryz.prog wx = .ok (.string Y) wx := fun wx => by rw [hY]; exact run_string_add_sum wx _ _ (by omega)
    have zY : Y.size ≤ 1000000 := by rw [hY, ByteArray.size_append]; omega
    have hpq : parseQ (bs Y) = (⟨bs m, bs t, v, us, bs b⟩, X.size, 0) := by
      have hb2 : bs Y = reqW m t v us b ++ bs more := by rw [hY, cat6, HXB.out]
      have h9 := bs_length X
      rw [HXB.out] at h9
      have h8 := msg_back (m := bs m) (t := bs t) (v := v) (fs := us) (n := numQ m b) (b := bs b) (bs more) (by intro h; rw [HXB.out] at e2; exact e2 h) (numQ_ok m b) (by rw [bs_length]; omega) (by rw [← HGS.out, ← HNG.out]; exact hg1)
      rw [huu] at h8
      rw [hb2, ← h9]
      exact h8
    have HP : Hid (∀ wx, ReqEnv wx → Calls Tryz.prog 12 #[.string Y] wx fun e w' => ∃ oz cz, e = .returned (.tuple #[.agg (reqC m t v (.slice oz us.length cz) b).toArray, .int .i64 (X.size : Int), .int .i64 0]) ∧ FldO w' oz us ∧ Below wx.heap.size wx w') := Lib.hid fun wx h => by
      have h9 := parseE_any Y wx zY h
      rw [hpq] at h9
      refine h9.mono ?_
      rintro e w' ⟨vf, rfl, FB, hb⟩
      obtain ⟨oz, cz, rfl, FO⟩ := FB.shape
      exact ⟨oz, cz, rfl, FO, hb⟩
    clear e2 hx0 hY hpq hng
    go_wp2_with fail
    refine (HG.out _ hb4).mono ?_
    rintro e w5 ⟨vg, rfl, SG, hb5⟩
    obtain ⟨og, cg, rfl, _⟩ := SG.shape
    have V5 := V4.below hb5
    have b5 := step_b hb4 hb5
    clear V4 hb5 hb4 SG a0 a1 a2 a3 a4
    rw [← HNG.out]
    have a0 := V5.cell 0 rfl
    have a1 := V5.cell 1 rfl
    have a2 := V5.cell 2 rfl
    have a3 := V5.cell 3 rfl
    have a4 := V5.cell 4 rfl
    go_wp2_with fail
    refine (HP.out _ (HE.out.below (step_b b3 b5))).mono ?_
    rintro e w6 ⟨oz, cz, rfl, FO, hb6⟩
    have V6 := V5.below hb6
    have b6 := step_b b5 hb6
    have hA := alloc_b w6 (.cells zReq.toArray 24)
    have RN := RowAt.new w6 zReq 24
    have V7 := V6.below hA
    have FO7 := FO.down hA
    have hlt6 := V6.lt
    clear V5 hb6 b5 a0 a1 a2 a3 a4 V6
    go_wp2_with (refine wpList_store_row rfl _ 24 (.tmp 6) (.tmp 44) rfl w6.heap.size 24 zReq (reqC m t v (.slice oz us.length cz) b) RN rfl rfl rfl mreq_size (reqC_one _ _ _ _ _ _ _) ?_; intro w7 R7 f1 f2 f3; have d0 := R7.cell 0 rfl; have d1 := R7.cell 1 rfl; have d2 := R7.cell 2 rfl; have d3 := R7.cell 3 rfl; have d4 := R7.cell 4 rfl; have b7 := (step_b b6 hA).trans (f1 _ b6.size); have V8 := V7.belowB (f1 w6.heap.size (Nat.le_refl _)) hlt6; have a0 := V8.cell 0 rfl; have a1 := V8.cell 1 rfl; have a2 := V8.cell 2 rfl; have a3 := V8.cell 3 rfl; have a4 := V8.cell 4 rfl; have FO8 : FldO w7 oz us := FO.down (hA.trans (f1 w6.heap.size (Nat.le_refl _))); clear RN V7 FO7)
    refine (sameReq_any m t v oz us cz ou cu b w7 (by omega) FO8 (HU.out.down b7)).mono ?_
    rintro e w8 ⟨rfl, hb8⟩
    have b8 := step_b b3 (step_b b7 hb8)
    go_wp2_with fail
    refine (awake6_any w8 (HE.out.below b8)).mono ?_
    rintro e w9 ⟨rfl, hb9⟩
    go_wp2_with fail
    go_ret
    exact ⟨rfl, step_b b8 hb9⟩
  · have hg1' : ((ng : Int) != 1) = true := by simp; omega
    clear e2 hx0 hng
    go_wp2_with fail
    refine (HG.out _ hb4).mono ?_
    rintro e w5 ⟨vg, rfl, SG, hb5⟩
    obtain ⟨og, cg, rfl, _⟩ := SG.shape
    have V5 := V4.below hb5
    have b5 := step_b hb4 hb5
    clear V4 hb5 hb4 SG a0 a1 a2 a3 a4
    rw [← HNG.out]
    have a0 := V5.cell 0 rfl
    have a1 := V5.cell 1 rfl
    have a2 := V5.cell 2 rfl
    have a3 := V5.cell 3 rfl
    have a4 := V5.cell 4 rfl
    go_wp2_with fail
    refine (HRF.out _ b5).mono ?_
    rintro e w9 ⟨rfl, hb9⟩
    have b9 := step_b b3 (step_b b5 hb9)
    go_wp2_with fail
    refine (awake6_any w9 (HE.out.below b9)).mono ?_
    rintro e w10 ⟨rfl, hb10⟩
    go_wp2_with fail
    go_ret
    exact ⟨rfl, step_b b9 hb10⟩
end Go.Proofs.YtfnmohaddkoalaaGreatDoor
