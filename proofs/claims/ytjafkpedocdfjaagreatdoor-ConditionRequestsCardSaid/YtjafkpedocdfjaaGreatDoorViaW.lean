/- The walks of Via, of the program and of the reference (25.2). -/
import Derived.Test.YtjafkpedocdfjaaGreatDoorDecW
import Derived.Test.YtjafkpedocdfjaaGreatDoorHStrip
namespace Go.Proofs.YtjafkpedocdfjaaGreatDoor
open Go.RowKit Go.Shelf

def nVia : ByteArray := ⟨#[86, 105, 97]⟩
def viaT (t s : ByteArray) : ByteArray := (((⟨#[49, 46]⟩ : ByteArray) ++ t) ++ ⟨#[32]⟩) ++ s
def viaS (n : Int) (s : ByteArray) : ByteArray := (((⟨#[49, 46]⟩ : ByteArray) ++ ⟨(Lib.itoa n).toArray⟩) ++ ⟨#[32]⟩) ++ s
theorem viaS_size {n : Int} (h0 : -9223372036854775808 ≤ n) (h1 : n ≤ 9223372036854775807) (s : ByteArray) : (viaS n s).size ≤ s.size + 50 := by
  unfold viaS
  have hi : (⟨(Lib.itoa n).toArray⟩ : ByteArray).size ≤ 40 := by show (Lib.itoa n).toArray.size ≤ 40; rw [List.size_toArray]; exact itoa_len h0 h1
  rw [ByteArray.size_append, ByteArray.size_append, ByteArray.size_append]
  have e1 : (⟨#[49, 46]⟩ : ByteArray).size = 2 := rfl
  have e2 : (⟨#[32]⟩ : ByteArray).size = 1 := rfl
  omega
def viaL (n : Int) (s : ByteArray) (xs : List Fd) : List Fd := xs ++ [(nVia, viaS n s)]
set_option maxHeartbeats 800000 in
theorem via_any (oa : Option Addr) (xs : List Fd) (cap : Nat) (n : Int) (s : ByteArray) (w : World) (hn : xs.length ≤ 10000) (hc : FldO w oa xs)
    (h0 : -9223372036854775808 ≤ n) (h1 : n ≤ 9223372036854775807) (hs : s.size ≤ 100000) (htab : PowTab w) :
    Calls Tryz.prog 47 #[.slice oa xs.length cap, .int .i64 n, .string s] w fun e w' => ∃ v, e = .returned v ∧ FBuf w' w.heap.size v (viaL n s xs) ∧ Below w.heap.size w w' := by
  have HC := Lib.hid hc
  have HT := Lib.hid htab
  have hz := viaS_size h0 h1 s
  clear hc htab
  go_enter Tryz.func47, Tryz.ntmps47
  go_wp2_with (at_builtin; refine wpList_append_flds rfl (.const (.slice none 0 0)) (.tmp 8) rfl w _ w.heap.size _ [] rfl (FBuf.nil_ _ _) (Below.refl _ _) (Nat.le_refl _) oa xs cap rfl HC.out (by simp; omega) ?_)
  intro v0 w0 FB0 hb0 z0
  go_wp2_with fail
  refine (decimal_any n _ h0 h1 (HT.out.below hb0)).mono ?_
  rintro e w2 ⟨he, hb2⟩
  obtain ⟨t, ht⟩ : ∃ t : ByteArray, t = ⟨(Lib.itoa n).toArray⟩ := ⟨_, rfl⟩
  rw [← ht] at he
  subst he
  have HTT : Hid (viaS n s = viaT t s) := Lib.hid (by rw [ht]; rfl)
  have tz : t.size ≤ 40 := by rw [ht]; show (Lib.itoa n).toArray.size ≤ 40; rw [List.size_toArray]; exact itoa_len h0 h1
  clear ht
  have b2 := step_b hb0 hb2
  have z2 : w.heap.size ≤ w2.heap.size := b2.size
  have FB2 := FB0.below hb2 (Nat.le_refl _)
  clear FB0 hb0 z0 hb2
  go_wp2_with (at_builtin; refine wpList_append_fld rfl (.tmp 10) (.tmp 18) rfl w _ w.heap.size _ xs rfl (FB2.alloc _) (b2.alloc z2 _) (le_alloc z2 _) ⟨w2.heap.size, 0, none⟩ (nVia, viaT t s) rfl (new_f0 w2 (nVia, viaT t s) _) (new_f1 w2 (nVia, viaT t s) _) (by omega) ?_)
  intro v5 w5 FB5 hb5 z5
  clear FB2 b2 z2
  go_wp2_with fail
  go_ret
  exact ⟨_, rfl, by unfold viaL; rw [HTT.out]; exact FB5, hb5⟩
set_option maxHeartbeats 800000 in
theorem rvia_any (oa : Option Addr) (xs : List Fd) (cap : Nat) (n : Int) (s : ByteArray) (w : World) (hn : xs.length ≤ 10000) (hc : FldO w oa xs)
    (h0 : -9223372036854775808 ≤ n) (h1 : n ≤ 9223372036854775807) (hs : s.size ≤ 100000) :
    Calls Tryz.prog 51 #[.slice oa xs.length cap, .int .i64 n, .string s] w fun e w' => ∃ v, e = .returned v ∧ FBuf w' w.heap.size v (viaL n s xs) ∧ Below w.heap.size w w' := by
  have HC := Lib.hid hc
  have hz := viaS_size h0 h1 s
  clear hc
  go_enter Tryz.func51, Tryz.ntmps51
  go_wp2_with (at_builtin; refine wpList_append_flds rfl (.const (.slice none 0 0)) (.tmp 7) rfl w _ w.heap.size _ [] rfl (FBuf.nil_ _ _) (Below.refl _ _) (Nat.le_refl _) oa xs cap rfl HC.out (by simp; omega) ?_)
  intro v0 w0 FB0 hb0 z0
  go_wp2_with fail
  refine (rdecimal_any n _ h0 h1).mono ?_
  rintro e w2 ⟨he, hb2⟩
  obtain ⟨t, ht⟩ : ∃ t : ByteArray, t = ⟨(Lib.itoa n).toArray⟩ := ⟨_, rfl⟩
  rw [← ht] at he
  subst he
  have HTT : Hid (viaS n s = viaT t s) := Lib.hid (by rw [ht]; rfl)
  have tz : t.size ≤ 40 := by rw [ht]; show (Lib.itoa n).toArray.size ≤ 40; rw [List.size_toArray]; exact itoa_len h0 h1
  clear ht
  have b2 := step_b hb0 hb2
  have z2 : w.heap.size ≤ w2.heap.size := b2.size
  have FB2 := FB0.below hb2 (Nat.le_refl _)
  clear FB0 hb0 z0 hb2
  go_wp2_with (at_builtin; refine wpList_append_fld rfl (.tmp 8) (.tmp 16) rfl w _ w.heap.size _ xs rfl (FB2.alloc _) (b2.alloc z2 _) (le_alloc z2 _) ⟨w2.heap.size, 0, none⟩ (nVia, viaT t s) rfl (new_f0 w2 (nVia, viaT t s) _) (new_f1 w2 (nVia, viaT t s) _) (by omega) ?_)
  intro v5 w5 FB5 hb5 z5
  clear FB2 b2 z2
  go_wp2_with fail
  go_ret
  exact ⟨_, rfl, by unfold viaL; rw [HTT.out]; exact FB5, hb5⟩
end Go.Proofs.YtjafkpedocdfjaaGreatDoor
