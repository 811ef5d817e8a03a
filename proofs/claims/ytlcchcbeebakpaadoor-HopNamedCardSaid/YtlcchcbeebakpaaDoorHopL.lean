/- The walks of law 25. -/
import Derived.Test.YtlcchcbeebakpaaDoorViaW
import Derived.Test.YtlcchcbeebakpaaDoorSameF
import Derived.Test.YtlcchcbeebakpaaDoorStrs
namespace Go.Proofs.YtlcchcbeebakpaaDoor
open Go.RowKit Go.Shelf
attribute [local go_sem] Oper.semAt_some

theorem FldO.new3 (w : World) (x y z : Fd) (t : TypeId) : FldO (w.alloc (.cells #[.string x.1, .string x.2, .string y.1, .string y.2, .string z.1, .string z.2] t)) (some ⟨w.heap.size, 0, none⟩) [x, y, z] := fun i u hu => by
  have h := RowAt.new w [.string x.1, .string x.2, .string y.1, .string y.2, .string z.1, .string z.2] t
  match i, hu with
  | 0, hu => cases hu; exact ⟨_, rfl, h.cell 0 rfl, h.cell 1 rfl⟩
  | 1, hu => cases hu; exact ⟨_, rfl, h.cell 2 rfl, h.cell 3 rfl⟩
  | 2, hu => cases hu; exact ⟨_, rfl, h.cell 4 rfl, h.cell 5 rfl⟩
abbrev wakeX : List Fd := [(nConn, ⟨#[99, 108, 111, 115, 101, 44, 32, 88, 45, 97]⟩), (⟨#[120, 45, 65]⟩, ⟨#[49]⟩), (⟨#[98]⟩, ⟨#[50]⟩)]
theorem wake_strip : wakeX.filter (hopB (allL (bs nConn) wakeX)) = [(⟨#[98]⟩, ⟨#[50]⟩)] := by rw [hop_stripL]; decide +kernel
theorem wake_via : viaL 1 ⟨#[112]⟩ [] = [(nVia, ⟨#[49, 46, 49, 32, 112]⟩)] := by decide +kernel
theorem wake_z : FldZ wakeX 100000 := by
  intro x hx
  simp only [wakeX, List.mem_cons, List.not_mem_nil, or_false] at hx
  rcases hx with rfl | rfl | rfl <;> decide
set_option maxHeartbeats 1600000 in
theorem awake25_any (w : World) (htab : PowTab w) :
    Calls Tryd.prog 17 #[] w fun e w' => e = .returned (.bool true) ∧ Below w.heap.size w w' := by
  have HT := Lib.hid htab
  have b0 := alloc_b w (.cells #[.string nConn, .string ⟨#[99, 108, 111, 115, 101, 44, 32, 88, 45, 97]⟩, .string ⟨#[120, 45, 65]⟩, .string ⟨#[49]⟩, .string ⟨#[98]⟩, .string ⟨#[50]⟩] 35)
  have HS := Lib.hid (strip_any _ wakeX 3 _ (by decide) wake_z (FldO.new3 w (nConn, ⟨#[99, 108, 111, 115, 101, 44, 32, 88, 45, 97]⟩) (⟨#[120, 45, 65]⟩, ⟨#[49]⟩) (⟨#[98]⟩, ⟨#[50]⟩) 35))
  rw [wake_strip] at HS
  clear htab
  go_enter Tryd.func17, Tryd.ntmps17
  go_wp2_with fail
  refine HS.out.mono ?_
  rintro e w1 ⟨v1, rfl, FB1, hb1⟩
  obtain ⟨o1, c1, rfl, FO1⟩ := FB1.shape
  have b1 := step_b b0 hb1
  clear HS FB1 hb1 b0
  go_wp2_with fail
  refine (via_any none [] 0 1 ⟨#[112]⟩ w1 (by decide) (FldO.nil_ _ _) (by decide) (by decide) (by decide) (HT.out.below b1)).mono ?_
  rintro e w2 ⟨v2, rfl, FB2, hb2⟩
  rw [wake_via] at FB2
  obtain ⟨o2, c2, rfl, FO2⟩ := FB2.shape
  obtain ⟨a1, rfl, p0, p1⟩ := (FO1.down hb2).at (i := 0) (x := (⟨#[98]⟩, ⟨#[50]⟩)) rfl
  obtain ⟨a2, rfl, q0, q1⟩ := FO2.at (i := 0) (x := (nVia, ⟨#[49, 46, 49, 32, 112]⟩)) rfl
  rw [show a1.add (0 * 2) = a1 from by unfold Addr.add; simp] at p0
  rw [show a2.add (0 * 2) = a2 from by unfold Addr.add; simp] at q1
  have b2 := step_b b1 hb2
  clear FO1 FO2 FB2 hb2 b1
  go_wp2_with fail
  go_ret
  exact ⟨rfl, b2⟩
open Go.ChangeShapes Go.WideShapes Go.ChangeAt in
set_option maxRecDepth 1000000 in
theorem open_flds {H : Type} {enc : TypeId × Value → H} {W : World} {r : Reach} {base : Nat} {v : Value} {d : DataW H} {ps : List MemPlace}
    (hv : Value.okWide Tryd.prog W r base 22 v) (h : DataW.Trod enc Tryd.prog W 0 (fun _ => true) true 22 v d ps) :
    ∃ (oa : Option Addr) (xs : List Fd) (cap : Nat), v = .slice oa xs.length cap ∧ FldO W oa xs ∧ FldZ xs 9223372036854775807 ∧ xs.length ≤ 9223372036854775807 := by
  obtain ⟨a0, len, cap, rfl⟩ := okWide_slice Tryd.underlying22 hv
  obtain ⟨fuel, hf⟩ := h
  exact open_fld (by simpa [Value.cells] using hf)
theorem strip_none (xs : List Fd) {n : ByteArray} (hn : n ∈ fixedN) : getF (bs n) (stripL xs) = [] := by
  unfold getF stripL
  rw [List.map_eq_nil_iff, List.filter_eq_nil_iff]
  intro x hx
  have hs := (List.mem_filter.1 hx).2
  unfold stripB at hs
  have ho : oneB (bs x.1) (fixedN.map bs) = false := by
    cases h : oneB (bs x.1) (fixedN.map bs) with
    | false => rfl
    | true => rw [h] at hs; simp at hs
  rw [oneB_any, List.any_eq_false] at ho
  have := ho (lowL (bs n)) (List.mem_map.2 ⟨bs n, List.mem_map.2 ⟨n, hn, rfl⟩, rfl⟩)
  unfold isF foldB
  have h2 : ¬ lowL (bs x.1) = lowL (bs n) := by simpa using this
  simp [h2]
theorem strip_twice (xs : List Fd) : stripL (stripL xs) = stripL xs := by
  have hg : getF (bs nConn) (stripL xs) = [] := strip_none xs (by simp)
  have ha : allL (bs nConn) (stripL xs) = [] := by unfold allL; rw [hg]; rfl
  show (stripL xs).filter (stripB (allL (bs nConn) (stripL xs))) = stripL xs
  rw [ha, List.filter_eq_self]
  intro x hx
  have hs := (List.mem_filter.1 hx).2
  unfold stripB at hs ⊢
  cases h : oneB (bs x.1) (fixedN.map bs) with
  | false => rfl
  | true => rw [h] at hs; simp at hs
theorem strip_len (xs : List Fd) : (stripL xs).length ≤ xs.length := List.length_filter_le _ _
theorem strip_z {xs : List Fd} {n : Nat} (h : FldZ xs n) : FldZ (stripL xs) n := h.filter _
theorem FldZ.up {xs : List Fd} {n m : Nat} (h : FldZ xs n) (hm : n ≤ m) : FldZ xs m := fun x hx => ⟨Nat.le_trans (h x hx).1 hm, Nat.le_trans (h x hx).2 hm⟩
set_option maxHeartbeats 3200000 in
theorem once_walk (oa : Option Addr) (xs : List Fd) (cap : Nat) (w : World) (hn : xs.length ≤ 9223372036854775807) (hc : FldO w oa xs) (htab : PowTab w) :
    Calls Tryd.prog 4 #[.slice oa xs.length cap] w fun e w' => e = .returned (.bool true) ∧ Below w.heap.size w w' := by
  have HC := Lib.hid hc
  have HT := Lib.hid htab
  clear hc htab
  cases hk : fieldsB xs with
  | false =>
    have HK := Lib.hid hk
    clear hk
    go_enter Tryd.func4, Tryd.ntmps4
    go_wp2_with fail
    refine (keepF_any oa xs cap w hn HC.out).mono ?_
    rintro e w1 ⟨rfl, hw1⟩
    cases hw1
    rw [HK.out]
    go_wp2_with fail
    go_ret
    exact ⟨rfl, Below.refl _ _⟩
  | true =>
    obtain ⟨hn70, hz⟩ := fieldsB_true hk
    have HK := Lib.hid hk
    have HZ := Lib.hid (hz.up (m := 100000) (by omega))
    clear hk hz
    go_enter Tryd.func4, Tryd.ntmps4
    go_wp2_with fail
    refine (keepF_any oa xs cap w hn HC.out).mono ?_
    rintro e w1 ⟨rfl, hw1⟩
    cases hw1
    rw [HK.out]
    go_wp2_with fail
    refine (strip_any oa xs cap w (by omega) HZ.out HC.out).mono ?_
    rintro e w2 ⟨v2, rfl, FB2, hb2⟩
    rw [hop_stripL] at FB2
    obtain ⟨ys, hys⟩ : ∃ ys, ys = stripL xs := ⟨_, rfl⟩
    have hyl : ys.length ≤ 70 := by rw [hys]; exact Nat.le_trans (strip_len xs) hn70
    have HYZ := Lib.hid (show FldZ ys 100000 by rw [hys]; exact strip_z HZ.out)
    have HYN : Hid (∀ n ∈ fixedN, getF (bs n) ys = []) := Lib.hid fun n h => by rw [hys]; exact strip_none xs h
    have HYT : Hid (stripL ys = ys) := Lib.hid (by rw [hys]; exact strip_twice xs)
    rw [← hys] at FB2
    obtain ⟨oy, cy, rfl, FO⟩ := FB2.shape
    have fy := FO.down (alloc_b w2 (.cells (fixedN.map Value.string).toArray 9))
    have hn3 := StrO.new w2 fixedN
    have b3 := step_b hb2 (alloc_b w2 (.cells (fixedN.map Value.string).toArray 9))
    rw [fixedA_eq] at fy hn3 b3
    clear hys FB2 FO HZ HC HK hb2
    go_wp2_with fail
    generalize w2.alloc (.cells #[.string ⟨#[67, 111, 110, 110, 101, 99, 116, 105, 111, 110]⟩, .string ⟨#[75, 101, 101, 112, 45, 65, 108, 105, 118, 101]⟩, .string ⟨#[80, 114, 111, 120, 121, 45, 67, 111, 110, 110, 101, 99, 116, 105, 111, 110]⟩, .string ⟨#[80, 114, 111, 120, 121, 45, 65, 117, 116, 104, 101, 110, 116, 105, 99, 97, 116, 101]⟩, .string ⟨#[80, 114, 111, 120, 121, 45, 65, 117, 116, 104, 111, 114, 105, 122, 97, 116, 105, 111, 110]⟩, .string ⟨#[84, 69]⟩, .string ⟨#[84, 114, 97, 105, 108, 101, 114]⟩, .string ⟨#[84, 114, 97, 110, 115, 102, 101, 114, 45, 69, 110, 99, 111, 100, 105, 110, 103]⟩, .string ⟨#[67, 111, 110, 116, 101, 110, 116, 45, 76, 101, 110, 103, 116, 104]⟩, .string ⟨#[85, 112, 103, 114, 97, 100, 101]⟩] 9) = w3 at fy hn3 b3 ⊢
    generalize (⟨w2.heap.size, 0, none⟩ : Addr) = a2 at hn3 ⊢
    have FY := Lib.hid fy
    have HN := Lib.hid hn3
    clear fy hn3
    obtain ⟨ns, hns⟩ : ∃ ns, ns = fixedN := ⟨_, rfl⟩
    have hnl : ns.length = 10 := by rw [hns]; rfl
    have HNZ : Hid (∀ n ∈ ns, n.size ≤ 100000) := Lib.hid (by rw [hns]; exact fixedN_z)
    rw [← hns] at HYN HN
    clear hns
    go_loopw [5] (fun j wr => ∃ k : Nat, k ≤ 10 ∧ j = .int .i64 k ∧ Below w3.heap.size w3 wr) (fun j _ => 10 - (intOf j).toNat)
    case atStart => exact ⟨0, by omega, rfl, Below.refl _ _⟩
    case round =>
      obtain ⟨k, hk, rfl, hb⟩ := hrel
      by_cases hlt : k < 10
      · obtain ⟨x, hx⟩ : ∃ x, ns[k]? = some x := ⟨_, List.getElem?_eq_getElem (by omega)⟩
        obtain ⟨ad, had, c0⟩ := (HN.out.down hb) k x hx
        cases had
        have zx := HNZ.out x (List.mem_of_getElem? hx)
        have HG := Lib.hid (HYN.out x (List.mem_of_getElem? hx))
        clear hx
        go_wp2_with fail
        refine (rhas_any oy ys cy x _ (by omega) (by omega) HYZ.out (FY.out.down hb)).mono ?_
        rintro e w4 ⟨rfl, hb4⟩
        rw [HG.out]
        have b4 := step_b hb hb4
        clear hb hb4 c0
        go_wp2_with fail
        go_roundw
        case rel => exact ⟨k + 1, by omega, by go_num, b4⟩
        case measure => simp [intOf]; omega
      · go_wp2_with fail
        refine (strip_any oy ys cy wr (by omega) HYZ.out (FY.out.down hb)).mono ?_
        rintro e w4 ⟨v4, rfl, FB4, hb4⟩
        rw [hop_stripL, HYT.out] at FB4
        obtain ⟨o4, c4, rfl, FO4⟩ := FB4.shape
        have F4 := Lib.hid FO4
        have b4 := step_b hb hb4
        clear FB4 FO4 hb hb4
        go_wp2_with fail
        refine (sameFields_any o4 oy ys c4 cy w4 (by omega) F4.out (FY.out.down b4)).mono ?_
        rintro e w5 ⟨rfl, hb5⟩
        have b5 := step_b b3 (step_b b4 hb5)
        clear b4 hb5
        go_wp2_with fail
        refine (awake25_any w5 (HT.out.below b5)).mono ?_
        rintro e w6 ⟨rfl, hb6⟩
        go_wp2_with fail
        go_ret
        exact ⟨rfl, step_b b5 hb6⟩
end Go.Proofs.YtlcchcbeebakpaaDoor
