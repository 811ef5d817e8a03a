/- The walk of condition.Reduce (31.4). -/
import Derived.Test.YtlcchcbeebakpaaDoorFldB
import Derived.Test.YtlcchcbeebakpaaDoorCondW
namespace Go.Proofs.YtlcchcbeebakpaaDoor
open Go.RowKit

abbrev reduN : List ByteArray := [⟨#[65, 103, 101]⟩, ⟨#[67, 97, 99, 104, 101, 45, 67, 111, 110, 116, 114, 111, 108]⟩, ⟨#[67, 111, 110, 116, 101, 110, 116, 45, 76, 111, 99, 97, 116, 105, 111, 110]⟩, ⟨#[68, 97, 116, 101]⟩, ⟨#[69, 84, 97, 103]⟩, ⟨#[69, 120, 112, 105, 114, 101, 115]⟩, ⟨#[76, 97, 115, 116, 45, 77, 111, 100, 105, 102, 105, 101, 100]⟩, ⟨#[86, 97, 114, 105, 97, 110, 116, 115]⟩, ⟨#[86, 97, 114, 105, 97, 110, 116, 45, 75, 101, 121]⟩, ⟨#[86, 97, 114, 121]⟩, ⟨#[86, 105, 97]⟩]
abbrev notMod : ByteArray := ⟨#[78, 111, 116, 32, 77, 111, 100, 105, 102, 105, 101, 100]⟩
def keptB (x : Fd) : Bool := oneB (bs x.1) (reduN.map bs)
theorem take_keep {xs : List Fd} {k : Nat} {x : Fd} (hx : xs[k]? = some x) (h : keptB x = true) : (xs.take (k + 1)).filter keptB = (xs.take k).filter keptB ++ [x] := by
  obtain ⟨hk, he⟩ := List.getElem?_eq_some_iff.1 hx
  rw [List.take_succ_eq_append_getElem hk, List.filter_append, he, List.filter_cons_of_pos h]; rfl
theorem take_skip {xs : List Fd} {k : Nat} {x : Fd} (hx : xs[k]? = some x) (h : keptB x = false) : (xs.take (k + 1)).filter keptB = (xs.take k).filter keptB := by
  obtain ⟨hk, he⟩ := List.getElem?_eq_some_iff.1 hx
  rw [List.take_succ_eq_append_getElem hk, List.filter_append, he, List.filter_cons_of_neg (by rw [h]; simp)]; simp
abbrev reduC (m : Int) (v : Value) : List Value := [.int .i64 m, .int .i64 304, .string notMod, v, .string ⟨#[]⟩]
abbrev zeroC : List Value := [.int .i64 0, .int .i64 0, .string ⟨#[]⟩, .slice none 0 0, .string ⟨#[]⟩]
theorem three_rows (w : World) (X Y Z : List Value) (T : TypeId) : RowAt (((w.alloc (.cells X.toArray T)).alloc (.cells Y.toArray T)).alloc (.cells Z.toArray T)) (w.heap.size + 1) T Y ∧ RowAt (((w.alloc (.cells X.toArray T)).alloc (.cells Y.toArray T)).alloc (.cells Z.toArray T)) (w.heap.size + 1 + 1) T Z ∧
    Below w.heap.size w (((w.alloc (.cells X.toArray T)).alloc (.cells Y.toArray T)).alloc (.cells Z.toArray T)) ∧ w.heap.size + 1 + 1 + 1 ≤ (((w.alloc (.cells X.toArray T)).alloc (.cells Y.toArray T)).alloc (.cells Z.toArray T)).heap.size := by
  have h2 := RowAt.new (w.alloc (.cells X.toArray T)) Y T
  have h3 := RowAt.new ((w.alloc (.cells X.toArray T)).alloc (.cells Y.toArray T)) Z T
  have hs : (w.alloc (.cells X.toArray T)).heap.size = w.heap.size + 1 := Array.size_push _
  have hs2 : ((w.alloc (.cells X.toArray T)).alloc (.cells Y.toArray T)).heap.size = w.heap.size + 1 + 1 := (Array.size_push _).trans (by rw [hs])
  rw [hs] at h2
  rw [hs2] at h3
  exact ⟨h2.alloc _, h3, ((alloc_b w _).alloc (by omega) _).alloc (by omega) _, Nat.le_of_eq ((Array.size_push _).trans (by rw [hs2])).symm⟩
theorem reduN_z : ∀ x ∈ reduN, x.size ≤ 100000 := by decide
theorem reduA_eq : (reduN.map Value.string).toArray = #[.string ⟨#[65, 103, 101]⟩, .string ⟨#[67, 97, 99, 104, 101, 45, 67, 111, 110, 116, 114, 111, 108]⟩, .string ⟨#[67, 111, 110, 116, 101, 110, 116, 45, 76, 111, 99, 97, 116, 105, 111, 110]⟩, .string ⟨#[68, 97, 116, 101]⟩, .string ⟨#[69, 84, 97, 103]⟩, .string ⟨#[69, 120, 112, 105, 114, 101, 115]⟩, .string ⟨#[76, 97, 115, 116, 45, 77, 111, 100, 105, 102, 105, 101, 100]⟩, .string ⟨#[86, 97, 114, 105, 97, 110, 116, 115]⟩, .string ⟨#[86, 97, 114, 105, 97, 110, 116, 45, 75, 101, 121]⟩, .string ⟨#[86, 97, 114, 121]⟩, .string ⟨#[86, 105, 97]⟩] := rfl
set_option maxRecDepth 100000 in
theorem one_redu (s : ByteArray) (cs : List Value) (T : TypeId) (wr : World) (hs : s.size ≤ 100000) :
    Calls Tryd.prog 75 #[.string s, .slice (some ⟨wr.heap.size + 1, 0, none⟩) 11 11] ((wr.alloc (.cells cs.toArray T)).alloc (.cells #[.string ⟨#[65, 103, 101]⟩, .string ⟨#[67, 97, 99, 104, 101, 45, 67, 111, 110, 116, 114, 111, 108]⟩, .string ⟨#[67, 111, 110, 116, 101, 110, 116, 45, 76, 111, 99, 97, 116, 105, 111, 110]⟩, .string ⟨#[68, 97, 116, 101]⟩, .string ⟨#[69, 84, 97, 103]⟩, .string ⟨#[69, 120, 112, 105, 114, 101, 115]⟩, .string ⟨#[76, 97, 115, 116, 45, 77, 111, 100, 105, 102, 105, 101, 100]⟩, .string ⟨#[86, 97, 114, 105, 97, 110, 116, 115]⟩, .string ⟨#[86, 97, 114, 105, 97, 110, 116, 45, 75, 101, 121]⟩, .string ⟨#[86, 97, 114, 121]⟩, .string ⟨#[86, 105, 97]⟩] 9)) fun e w' => e = .returned (.bool (oneB (bs s) (reduN.map bs))) ∧ Below wr.heap.size wr w' ∧ RowAt w' wr.heap.size T cs := by
  have h := one_any s (some ⟨(wr.alloc (.cells cs.toArray T)).heap.size, 0, none⟩) reduN 11 ((wr.alloc (.cells cs.toArray T)).alloc (.cells (reduN.map Value.string).toArray 9)) hs reduN_z (by decide) (StrO.new (wr.alloc (.cells cs.toArray T)) reduN)
  have hz : (wr.alloc (.cells cs.toArray T)).heap.size = wr.heap.size + 1 := Array.size_push _
  rw [hz, reduA_eq, show reduN.length = 11 from rfl] at h
  exact h.mono fun e w' ⟨h1, h2⟩ => ⟨h1, step_b (step_b (alloc_b wr _) (alloc_b _ _)) h2, ((RowAt.new wr cs T).alloc _).below h2⟩
set_option maxHeartbeats 6400000 in
set_option maxRecDepth 100000 in
theorem reduce_any (m st : Int) (rs : ByteArray) (oa : Option Addr) (xs : List Fd) (cap : Nat) (bd : ByteArray) (w : World) (hn : xs.length ≤ 70) (hz : FldZ xs 300) (hc : FldO w oa xs) :
    Calls Tryd.prog 43 #[respV m st rs oa xs.length cap bd] w fun e w' => ∃ (ob : Option Addr) (cb : Nat), e = .returned (respV m 304 notMod ob (xs.filter keptB).length cb ⟨#[]⟩) ∧ FldO w' ob (xs.filter keptB) ∧ Below w.heap.size w w' := by
  have RR := Lib.hid (three_rows w (respC m st rs oa xs.length cap bd) zeroC (reduC m (.slice none 0 0)) 42)
  have HC := Lib.hid hc
  have HZ := Lib.hid hz
  clear hc hz
  go_enter Tryd.func43, Tryd.ntmps43
  go_wp2_with fail
  go_loopw [12] (fun j wr => ∃ (k : Nat) (ys : List Fd) (v : Value), k ≤ xs.length ∧ j = .int .i64 k ∧ Hid (ys = (xs.take k).filter keptB) ∧ ys.length ≤ k ∧ FBuf wr (w.heap.size + 1 + 1 + 1) v ys ∧ RowAt wr (w.heap.size + 1) 42 zeroC ∧ RowAt wr (w.heap.size + 1 + 1) 42 (reduC m v) ∧ Below w.heap.size w wr ∧ w.heap.size + 1 + 1 + 1 ≤ wr.heap.size) (fun j _ => xs.length - (intOf j).toNat)
  case atStart => exact ⟨0, [], .slice none 0 0, by omega, rfl, Lib.hid rfl, by simp, FBuf.nil_ _ _, RR.out.1, RR.out.2.1, RR.out.2.2.1, RR.out.2.2.2⟩
  case round =>
    obtain ⟨k, ys, v, hk, rfl, HY, hyl, FB, R2, R3, hb, hz⟩ := hrel
    by_cases hlt : k < xs.length
    · obtain ⟨x, hx⟩ : ∃ x, xs[k]? = some x := ⟨_, List.getElem?_eq_getElem hlt⟩
      obtain ⟨ad, rfl, c0, c1⟩ := (HC.out.down hb).at hx
      have zx := (HZ.out x (List.mem_of_getElem? hx)).1
      have hl10 : ys.length + 1 ≤ 1000000 := by omega
      cases hkp : keptB x with
      | true =>
        have HK : Hid (oneB (bs x.1) (reduN.map bs) = true) := Lib.hid hkp
        have HS := Lib.hid (take_keep hx hkp)
        clear hx hkp
        go_wp2_with fail
        refine (one_redu x.1 [.string x.1, .string x.2] 35 wr (by omega)).mono ?_
        rintro e w4 ⟨rfl, bb, F4⟩
        rw [HK.out]
        have R24 := R2.below bb
        have R34 := R3.below bb
        have FB4 := FB.below bb (Nat.le_refl _)
        have b4 := step_b hb bb
        have z4 := Nat.le_trans hz bb.size
        clear bb R2 R3 FB hb hz c0 c1
        have e3 := R34.cell 3 rfl
        have e0 := F4.cell 0 rfl
        have e1 := F4.cell 1 rfl
        go_wp2_with (at_builtin; refine wpList_append_fld rfl (.tmp 21) (.tmp 23) rfl w4 _ (w.heap.size + 1 + 1 + 1) _ ys rfl (FB4.alloc _) ((Below.refl _ _).alloc z4 _) (le_alloc z4 _) ⟨w4.heap.size, 0, none⟩ x rfl (new_f0 w4 x _) (new_f1 w4 x _) hl10 ?_)
        intro v5 w5 FB5 hb5 z5
        obtain ⟨o5, c5, rfl, _⟩ := FB5.shape
        rw [List.length_append, List.length_singleton] at FB5
        have R25 := R24.belowB hb5 (by omega)
        have R35 := R34.belowB hb5 (by omega)
        have b5 := b4.trans (hb5.mono (by omega))
        have g3 := R35.cell 3 rfl
        have f3 := R35.free 3
        clear FB4 R24 R34 F4 b4 z4 e3 e0 e1 hb5
        go_wp2_with fail
        go_roundw
        case rel => exact ⟨k + 1, ys ++ [x], (.slice o5 (ys.length + 1) c5), by omega, by go_num, Lib.hid (by rw [HS.out, HY.out]), by simp; omega, FB5.set (by omega) (.slice o5 (ys.length + 1) c5), R25.setOther (by omega) 3 (.slice o5 (ys.length + 1) c5), R35.set 3 (.slice o5 (ys.length + 1) c5), b5.setCell (p := ⟨w.heap.size + 1 + 1, 3, none⟩) (by show w.heap.size ≤ w.heap.size + 1 + 1; omega) (.slice o5 (ys.length + 1) c5), by simpa using z5⟩
        case measure => simp [intOf]; omega
      | false =>
        have HK : Hid (oneB (bs x.1) (reduN.map bs) = false) := Lib.hid hkp
        have HS := Lib.hid (take_skip hx hkp)
        clear hx hkp
        go_wp2_with fail
        refine (one_redu x.1 [.string x.1, .string x.2] 35 wr (by omega)).mono ?_
        rintro e w4 ⟨rfl, bb, F4⟩
        rw [HK.out]
        have R24 := R2.below bb
        have R34 := R3.below bb
        have FB4 := FB.below bb (Nat.le_refl _)
        have b4 := step_b hb bb
        have z4 := Nat.le_trans hz bb.size
        clear bb R2 R3 FB hb hz c0 c1
        go_wp2_with fail
        go_roundw
        case rel => exact ⟨k + 1, ys, v, by omega, by go_num, Lib.hid (by rw [HS.out]; exact HY.out), by omega, FB4, R24, R34, b4, z4⟩
        case measure => simp [intOf]; omega
    · have HF : Hid (xs.filter keptB = ys) := Lib.hid (by rw [HY.out, List.take_of_length_le (by omega)])
      obtain ⟨ob, cb, rfl, _⟩ := FB.shape
      go_wp2_with (first | (refine wpList_load_rowAt rfl _ 42 (.tmp 3) rfl (w.heap.size + 1 + 1) 42 (reduC m (.slice ob ys.length cb)) R3 rfl _ Tryd.underlying42 resp_size ?_) | (refine wpList_store_row rfl _ 42 (.tmp 2) (.tmp 27) rfl (w.heap.size + 1) 42 zeroC (reduC m (.slice ob ys.length cb)) R2 rfl rfl rfl resp_size (by intro u hu; simp at hu; rcases hu with rfl | rfl | rfl | rfl | rfl <;> rfl) ?_; intro w5 R5 f1 f2 f3))
      refine bodyPost_ret (results_row1 rfl _ _ (w.heap.size + 1) 42 (reduC m (.slice ob ys.length cb)) R5 rfl _ Tryd.underlying42 resp_size) rfl ?_
      rw [HF.out]
      exact ⟨ob, cb, rfl, (FB.others (by omega) f2).fld, hb.trans (f1 _ (Nat.le_succ _))⟩
end Go.Proofs.YtlcchcbeebakpaaDoor
