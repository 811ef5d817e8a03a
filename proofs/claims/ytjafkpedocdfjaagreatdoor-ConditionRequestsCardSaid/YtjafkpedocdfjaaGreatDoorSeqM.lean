/- strings.SplitSeq: the iterator's function value and its three boxes. -/
import Derived.Test.YtjafkpedocdfjaaGreatDoorSeqW
namespace Go.Proofs.YtjafkpedocdfjaaGreatDoor
open Go.RowKit Go.Shelf
attribute [local go_sem] Oper.semAt_some

def seqF (b : Nat) : Value := .func (.func 129) #[] #[.pointer (some ⟨b + 1, 0, none⟩), .pointer (some ⟨b, 0, none⟩), .pointer (some ⟨b + 2, 0, none⟩)]
theorem splitseq_calls (s : ByteArray) (w : World) : Calls Tryz.prog 79 #[.string s, .string ⟨#[32]⟩] w fun e w' =>
    e = .returned (seqF w.heap.size) ∧ Below w.heap.size w w' ∧ w'.heap.size = w.heap.size + 3 ∧ RowAt w' w.heap.size 9 [.string s] ∧ RowAt w' (w.heap.size + 1) 9 [.string ⟨#[32]⟩] ∧ RowAt w' (w.heap.size + 2) 3 [.int .i64 0] := by
  go_enter Tryz.func79, Tryz.ntmps79
  go_wp2
  go_ret
  refine ⟨rfl, (((Below.refl _ _).alloc (Nat.le_refl _) _).alloc (by simp) _).alloc (by simp; omega) _, by simp, ((RowAt.new w _ _).alloc _).alloc _, ?_, ?_⟩
  · have h := (RowAt.new (w.alloc (.cells #[.string s] 9)) [.string ⟨#[32]⟩] 9).alloc (.cells #[.int .i64 0] 3)
    rw [World.size_alloc] at h; exact h
  · have h := RowAt.new ((w.alloc (.cells #[.string s] 9)).alloc (.cells #[.string ⟨#[32]⟩] 9)) [.int .i64 0] 3
    rw [World.size_alloc, World.size_alloc] at h; exact h
end Go.Proofs.YtjafkpedocdfjaaGreatDoor
