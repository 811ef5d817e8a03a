/- The walks of slices.Clone at lists of strings and at lists of fields. -/
import Derived.Test.YtglckhljpjcmaaaDoorSBufA
namespace Go.Proofs.YtglckhljpjcmaaaDoor
open Go.RowKit Go.Lib

theorem StrO.none_nil {w : World} {xs : List ByteArray} (h : StrO w none xs) : xs = [] := by
  cases xs with
  | nil => rfl
  | cons y t => obtain ⟨ad, h', _⟩ := h 0 y rfl; cases h'
theorem FldO.none_nil {w : World} {xs : List Fd} (h : FldO w none xs) : xs = [] := by
  cases xs with
  | nil => rfl
  | cons y t => obtain ⟨ad, h', _⟩ := h 0 y rfl; cases h'
theorem SBuf.made (w : World) : SBuf (w.alloc (.cells #[] 9)) w.heap.size (.slice (some ⟨w.heap.size, 0, none⟩) 0 0) [] := World.ownsRow_made w #[] 0 (Nat.le_refl _) (Nat.zero_le _) rfl
theorem FBuf.made (w : World) : FBuf (w.alloc (.cells #[] 51)) w.heap.size (.slice (some ⟨w.heap.size, 0, none⟩) 0 0) [] := World.ownsRow_made w #[] 0 (Nat.le_refl _) (Nat.zero_le _) rfl
set_option maxHeartbeats 800000 in
theorem cloneS_any (oa : Option Addr) (xs : List ByteArray) (cap : Nat) (w : World) (hn : xs.length ≤ 100000) (hc : StrO w oa xs) :
    Calls Tryd.prog 43 #[.slice oa xs.length cap] w fun e w' => ∃ v, e = .returned v ∧ SBuf w' w.heap.size v xs ∧ Below w.heap.size w w' := by
  have q : ∀ (w : World) (a : Option Addr) (n c n' c' : Nat), (binOp .eql 23 (.slice a n c) (.slice none n' c')).run Tryd.prog w = .ok (.bool a.isNone) w := fun w a n c n' c' => Lib.run_eql_slice_nil w _ _ a n c n' c' Tryd.underlying23
  cases oa with
  | none =>
    obtain rfl := hc.none_nil
    clear hc
    go_enter Tryd.func43, Tryd.ntmps43
    go_wp2
    go_ret
    exact ⟨_, rfl, SBuf.nil_ _ _, Below.refl _ _⟩
  | some ad =>
    have HC := Lib.hid hc
    clear hc
    go_enter Tryd.func43, Tryd.ntmps43
    go_wp2_with (at_builtin; refine wpList_append_strs rfl (.tmp 5) (.tmp 6) rfl w _ w.heap.size _ [] rfl (SBuf.made w) (alloc_b w _) (alloc_b w _).size (some ad) xs cap rfl (HC.out.down (alloc_b w _)) (by simp; omega) ?_)
    intro v1 w1 SB hb hz
    go_wp2
    go_ret
    exact ⟨_, rfl, SB, hb⟩
set_option maxHeartbeats 800000 in
theorem cloneF_any (oa : Option Addr) (xs : List Fd) (cap : Nat) (w : World) (hn : xs.length ≤ 100000) (hc : FldO w oa xs) :
    Calls Tryd.prog 44 #[.slice oa xs.length cap] w fun e w' => ∃ v, e = .returned v ∧ FBuf w' w.heap.size v xs ∧ Below w.heap.size w w' := by
  have q : ∀ (w : World) (a : Option Addr) (n c n' c' : Nat), (binOp .eql 24 (.slice a n c) (.slice none n' c')).run Tryd.prog w = .ok (.bool a.isNone) w := fun w a n c n' c' => Lib.run_eql_slice_nil w _ _ a n c n' c' Tryd.underlying24
  cases oa with
  | none =>
    obtain rfl := hc.none_nil
    clear hc
    go_enter Tryd.func44, Tryd.ntmps44
    go_wp2
    go_ret
    exact ⟨_, rfl, FBuf.nil_ _ _, Below.refl _ _⟩
  | some ad =>
    have HC := Lib.hid hc
    clear hc
    go_enter Tryd.func44, Tryd.ntmps44
    go_wp2_with (at_builtin; refine wpList_append_flds rfl (.tmp 5) (.tmp 6) rfl w _ w.heap.size _ [] rfl (FBuf.made w) (alloc_b w _) (alloc_b w _).size (some ad) xs cap rfl (HC.out.down (alloc_b w _)) (by simp; omega) ?_)
    intro v1 w1 FB hb hz
    go_wp2
    go_ret
    exact ⟨_, rfl, FB, hb⟩
end Go.Proofs.YtglckhljpjcmaaaDoor
