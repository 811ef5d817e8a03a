/- The reader of messages (layer 6): a body without framing. -/
import Derived.Test.YtfnmohaddkoalaaGreatDoorQMsgW6
namespace Go.Proofs.YtfnmohaddkoalaaGreatDoor
open Go.RowKit Go.Shelf
set_option linter.unusedSimpArgs false
set_option linter.unusedVariables false

set_option maxHeartbeats 1600000 in
theorem body_none (T : TypeId) (w : World) (B g : Nat) (s : ByteArray) (a : Nat) (fs : List Fd) (vf vl vc : Value) (rest : List Value)
    (R : RdAt T w B g s a fs [] [] vf vl vc rest) (ha : a ≤ s.size) (hs : s.size ≤ 1000000) :
    Calls Tryz.prog 33 #[.pointer (some ⟨g, 0, none⟩)] w fun e w' => e = .returned (.tuple #[.string ⟨#[]⟩, .int .i64 0]) ∧ Below g w w' ∧ RdAt T w' B g s a fs [] [] vf vl vc rest := by
  obtain ⟨oc, cc, rfl, _⟩ := R.c.shape
  obtain ⟨ol, cl, rfl, _⟩ := R.l.shape
  obtain ⟨y, hy⟩ : ∃ y : ByteArray, y = s.extract a s.size := ⟨_, rfl⟩
  have p1 : ∀ wx, (Instr.slice 9 (.string s) (some (.int .i64 (a : Int))) none none).run Tryz.prog wx = .ok (.string y) wx := fun wx => by rw [hy]; exact run_from2 s a _ rfl ha wx
  have c0 := R.row.cell 0 rfl
  have c1 := R.row.cell 1 rfl
  have hgw : g ≤ w.heap.size := by have := R.gB; have := R.sz; omega
  clear hy
  go_enter Tryz.func33, Tryz.ntmps33
  go_wp2_with fail
  go_quiet (fail)
  have b2 : Below w.heap.size w (w.drewN nq) := below_draws _ _
  have R2 := R.below b2
  generalize w.drewN nq = w2 at b2 R2 ⊢
  have d4 := R2.row.cell 4 rfl
  have d3 := R2.row.cell 3 rfl
  clear c0 c1
  go_wp2_with fail
  go_ret2
  exact ⟨rfl, b2.mono hgw, R2⟩
end Go.Proofs.YtfnmohaddkoalaaGreatDoor
