/- The walks of the program's fields by name (layer 3), second part: the closures, Has, Get, First, Remove. -/
import Derived.Test.YtfnmohaddkoalaaGreatDoorQPre
import Derived.Laws.EntriesVeiled
namespace Go.Proofs.YtfnmohaddkoalaaGreatDoor
open Go.RowKit Go.Shelf

theorem keep2c {w1 w2 : World} {p q : Addr} {u v : Value} (h : w1.cell? p = some u ∧ w1.cell? q = some v) (hb : Below w1.heap.size w1 w2) : w2.cell? p = some u ∧ w2.cell? q = some v :=
  ⟨(hb.cell (cell_lt h.1)).trans h.1, (hb.cell (cell_lt h.2)).trans h.2⟩
set_option maxHeartbeats 1600000 in
theorem named1_pred (n : List UInt8) (B : Nat) (w : World) (hB : B < w.heap.size) (_ : n.length ≤ 1000000) (hc : w.cell? ⟨B, 0, none⟩ = some (.string ⟨(lowL n).toArray⟩)) : FPred 77 #[.pointer (some ⟨B, 0, none⟩)] (isF n) w := by
  intro W x hb hz
  have cB0 : W.cell? ⟨B, 0, none⟩ = some (.string ⟨(lowL n).toArray⟩) := (hb.cell (p := ⟨B, 0, none⟩) hB).trans hc
  have cB : (W.alloc (.cells #[.string x.1, .string x.2] 69)).cell? ⟨B, 0, none⟩ = some (.string ⟨(lowL n).toArray⟩) := ((alloc_b W _).cell (p := ⟨B, 0, none⟩) (cell_lt cB0)).trans cB0
  have R := RowAt.new W [.string x.1, .string x.2] 69
  have c0 := R.cell 0 rfl
  have hbW := alloc_b W (.cells #[.string x.1, .string x.2] 69)
  have hzl : ((⟨(lowL n).toArray⟩ : ByteArray).size : Int) = (n.length : Int) := by
    have : (⟨(lowL n).toArray⟩ : ByteArray).size = (lowL n).length := rfl
    rw [this, lowL_length]
  clear hb hc cB0 R
  obtain ⟨l, hlq⟩ : ∃ l : ByteArray, l = ⟨(lowL n).toArray⟩ := ⟨_, rfl⟩
  rw [← hlq] at cB hzl
  have HQ := Lib.hid hlq
  clear hlq
  by_cases hl : x.1.size = n.length
  · have hl' : ((x.1.size : Int) == (n.length : Int)) = true := by simp [hl]
    have H := Lib.hid (isF_low hl)
    clear hl
    go_enter Tryz.func77, Tryz.ntmps77
    go_wp2_with fail
    generalize hw1 : W.alloc (.cells #[.string x.1, .string x.2] 69) = w1 at *
    have HW := Lib.hid hw1
    clear hw1
    go_region_held3 (fun w' => (w'.cell? ⟨W.heap.size, 0, none⟩ = some (.string x.1) ∧ w'.cell? ⟨B, 0, none⟩ = some (.string l)) ∧ Below w1.heap.size w1 w') (first | assumption | exact ⟨⟨c0, cB⟩, (Below.refl _ _).drew⟩ | (exact ⟨keep2c (by first | assumption | exact ⟨c0, cB⟩) hb, step_b (by first | assumption | exact (Below.refl _ _).drew) hb⟩)) (first | (go_at_call 76; refine (lower_any _ _ (by omega)).mono ?_; rintro e w' ⟨rfl, hb⟩))
    have hq : (w'.cell? ⟨W.heap.size, 0, none⟩ = some (.string x.1) ∧ w'.cell? ⟨B, 0, none⟩ = some (.string l)) ∧ Below w1.heap.size w1 w' := by assumption
    go_wp2_with fail
    go_ret
    exact ⟨ret_bool (by rw [H.out, HQ.out, Lib.toList_data]), step_b hbW hq.2⟩
  · have hl' : ((x.1.size : Int) == (n.length : Int)) = false := by simp; omega
    have H := Lib.hid (isF_len hl)
    clear hl
    go_enter Tryz.func77, Tryz.ntmps77
    go_wp2_with fail
    go_quiet (fail)
    go_wp2_with fail
    go_ret
    exact ⟨ret_bool H.out.symm, below_drewN hbW _⟩
theorem eg_named1 (args : Array Value) (w : World) : (callFunc 77 args).run Tryz.prog w = .ok (.enter 77 args) w := enters_of Tryz.func77 (by kernel_rfl) rfl args w
theorem getF_size (n : List UInt8) (xs : List Fd) : ((getF n xs).length > 0) ↔ (xs.filter (isF n)).length > 0 := by simp [getF]
theorem FBuf.len_le {w : World} {B : Nat} {v : Value} {xs : List Fd} {p : Fd → Bool} (_ : FBuf w B v (xs.filter p)) : (xs.filter p).length ≤ xs.length := List.length_filter_le _ _
theorem getF_take {ys : List Fd} {k : Nat} {x : Fd} (hx : ys[k]? = some x) : ((ys.take (k + 1)).map (·.2)) = (ys.take k).map (·.2) ++ [x.2] := by
  obtain ⟨hk, he⟩ := List.getElem?_eq_some_iff.1 hx
  rw [List.take_succ_eq_append_getElem hk, List.map_append, he]; rfl
theorem StrO.ofS {w : World} {B : Nat} {v : Value} {xs : List ByteArray} (h : SBuf w B v xs) : ∃ oa cap, v = .slice oa xs.length cap ∧ StrO w oa xs := by
  obtain ⟨oa, cap, rfl, _⟩ := h.shape
  refine ⟨oa, cap, rfl, fun i x hx => ?_⟩
  have hl : 0 < xs.length := by have := (List.getElem?_eq_some_iff.1 hx).1; omega
  obtain ⟨g, cap', e, _, _, hA, _⟩ := h.form hl
  cases e
  refine ⟨_, rfl, ?_⟩
  have ea : (⟨g, 0, none⟩ : Addr).add i = ⟨g, i, none⟩ := by unfold Addr.add; by_cases h0 : i = 0 <;> simp [h0]
  rw [ea]; exact hA i x hx
theorem SBuf.lower {w : World} {B B' : Nat} {v : Value} {xs : List ByteArray} (h : SBuf w B v xs) (hB : B' ≤ B) : SBuf w B' v xs := by
  refine ⟨h.1, ?_⟩
  rcases h.2 with h0 | ⟨g, cap, cur, h1, h2, h3, h4⟩
  · exact .inl h0
  · exact .inr ⟨g, cap, cur, h1, by omega, h3, h4⟩
theorem new_2nd (w : World) (o : Obj) (c : ByteArray) (t : TypeId) : ((w.alloc o).alloc (.cells #[.string c] t)).cell? ⟨w.heap.size + 1, 0, none⟩ = some (.string c) := by
  have h := cell_new (w.alloc o) (.string c) t
  rw [show (w.alloc o).heap.size = w.heap.size + 1 from Array.size_push _] at h
  exact h
theorem StrO.new1 (w : World) (c : ByteArray) (t : TypeId) : (w.alloc (.cells #[.string c] t)).cell? ⟨w.heap.size, 0, none⟩ = some (.string c) := cell_new w _ _
set_option maxHeartbeats 1600000 in
theorem get_any (oa : Option Addr) (xs : List Fd) (cap : Nat) (s : ByteArray) (w : World) (hs : s.size ≤ 100000) (hn : xs.length ≤ 100000) (hz : FldZ xs 100000) (hc : FldO w oa xs) :
    Calls Tryz.prog 32 #[.slice oa xs.length cap, .string s] w fun e w' => ∃ v, e = .returned v ∧ SBuf w' w.heap.size v (getF (bs s) xs) ∧ Below w.heap.size w w' := by
  have HC := Lib.hid hc
  have HZ := Lib.hid hz
  clear hc hz
  go_enter Tryz.func32, Tryz.ntmps32
  go_wp2_with fail
  refine (named_any s _ (by omega)).mono ?_
  rintro e w1 ⟨rfl, cB, zB, hb1⟩
  have HF := Lib.hid (filter_any oa xs cap _ _ _ w1 eg_named1 (named1_pred (bs s) w.heap.size w1 zB (by rw [bs_length]; omega) cB) hn HZ.out (HC.out.down hb1))
  clear cB
  go_wp2_with fail
  refine HF.out.mono ?_
  rintro e w2 ⟨v, rfl, FB, hb2⟩
  obtain ⟨ys, hys⟩ : ∃ ys, ys = xs.filter (isF (bs s)) := ⟨_, rfl⟩
  rw [← hys] at FB
  have hyl : ys.length ≤ xs.length := by rw [hys]; exact List.length_filter_le _ _
  obtain ⟨ob, cb, rfl, FO⟩ := FB.shape
  have HO := Lib.hid FO
  have HY := Lib.hid hys
  have b2 := step_b hb1 hb2
  clear FO hys FB hb1 hb2 HF zB
  go_wp2_with fail
  go_loopw [5, 13] (fun v j wr => ∃ k : Nat, k ≤ ys.length ∧ j = .int .i64 k ∧ SBuf wr w2.heap.size v ((ys.take k).map (·.2)) ∧ Below w2.heap.size w2 wr) (fun _ j _ => ys.length - (intOf j).toNat)
  case atStart => exact ⟨0, by omega, rfl, SBuf.nil_ _ _, Below.refl _ _⟩
  case round =>
    obtain ⟨k, hk, rfl, SB, hbr⟩ := hrel
    by_cases hlt : k < ys.length
    · obtain ⟨x, hx⟩ : ∃ x, ys[k]? = some x := ⟨_, List.getElem?_eq_getElem hlt⟩
      obtain ⟨ad, rfl, c0, c1⟩ := (HO.out.down hbr).at hx
      have HS := Lib.hid (getF_take hx)
      have hl10 : ((ys.take k).map (·.2)).length + 1 ≤ 1000000 := by rw [List.length_map, List.length_take]; omega
      have F4 := RowAt.new wr [.string x.1, .string x.2] 69
      have e1 := F4.cell 1 rfl
      have SB1 := SB.alloc (.cells #[.string x.1, .string x.2] 69)
      have br4 := hbr.alloc hbr.size (.cells #[.string x.1, .string x.2] 69)
      have zr4 := br4.size
      clear hx F4 SB hbr
      go_wp2_with (at_builtin; refine wpList_append_str rfl (.tmp 17) (.tmp 20) rfl w2 _ w2.heap.size _ ((ys.take k).map (·.2)) rfl (SB1.alloc _) (br4.alloc zr4 _) (le_alloc zr4 _) ⟨wr.heap.size + 1, 0, none⟩ x.2 rfl (new_2nd wr _ _ _) hl10 ?_)
      intro v5 w5 SB5 hb5 z5
      clear SB1 br4 zr4 e1 c0 c1
      go_wp2_with fail
      go_roundw
      case rel => exact ⟨k + 1, by omega, by go_num, by rw [HS.out, List.map_take]; exact SB5, hb5⟩
      case measure => simp [intOf]; omega
    · go_wp2_with fail
      go_ret
      exact ⟨_, rfl, by rw [getF, ← HY.out]; rw [List.take_of_length_le (by omega)] at SB; exact SB.lower b2.size, step_b b2 hbr⟩
def firstV : List ByteArray → Value
  | [] => .tuple #[.string ⟨#[]⟩, .bool false]
  | x :: _ => .tuple #[.string x, .bool true]
end Go.Proofs.YtfnmohaddkoalaaGreatDoor
