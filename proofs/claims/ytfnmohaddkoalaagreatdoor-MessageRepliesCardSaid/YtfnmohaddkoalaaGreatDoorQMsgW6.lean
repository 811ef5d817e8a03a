/- The reader of messages (layer 6): the body. -/
import Derived.Test.YtfnmohaddkoalaaGreatDoorQMsgW5
import Derived.Test.YtfnmohaddkoalaaGreatDoorQDecodeX
import Derived.BigQuiet
import Derived.Deep.QuietTactic
namespace Go.Proofs.YtfnmohaddkoalaaGreatDoor
open Go.RowKit Go.Shelf
set_option linter.unusedSimpArgs false
set_option linter.unusedVariables false

set_option maxHeartbeats 1600000 in
/-- A body in chunks. -/
theorem body_chunks (T : TypeId) (w : World) (B g : Nat) (s : ByteArray) (a : Nat) (fs : List Fd) (t : ByteArray) (cs ls : List ByteArray) (vf vl vc : Value) (rest : List Value)
    (R : RdAt T w B g s a fs ls (t :: cs) vf vl vc rest) (ha : a ≤ s.size) (hs : s.size ≤ 1000000) (hM : MaxOf w) (X : ByteArray) (n : Nat) (er : Int) (hd : decL ((bs s).drop a) = (bs X, n, er)) (hn : n ≤ 1000000) :
    Calls Tryz.prog 33 #[.pointer (some ⟨g, 0, none⟩)] w fun e w' => e = .returned (.tuple #[.string X, .int .i64 er]) ∧ Below g w w' ∧ RdAt T w' B g s (a + n) fs ls (t :: cs) vf vl vc rest := by
  obtain ⟨m, hm⟩ : ∃ m, m = (t :: cs).length := ⟨_, rfl⟩
  obtain ⟨oc, cc, hv, _⟩ := R.c.shape
  rw [← hm] at hv
  subst hv
  have hm0 : 0 < (m : Int) := by rw [hm]; simp only [List.length_cons]; omega
  obtain ⟨y, hy⟩ : ∃ y : ByteArray, y = s.extract a s.size := ⟨_, rfl⟩
  have p1 : ∀ wx, (Instr.slice 9 (.string s) (some (.int .i64 (a : Int))) none none).run Tryz.prog wx = .ok (.string y) wx := fun wx => by rw [hy]; exact run_from2 s a _ rfl ha wx
  have zy : y.size ≤ 1000000 := by rw [hy, ByteArray.size_extract]; omega
  have HD : Hid (∀ wx, MaxOf wx → Calls Tryz.prog 53 #[.string y] wx fun e w' => e = .returned (.tuple #[.string X, .int .i64 (n : Int), .int .i64 er]) ∧ Below wx.heap.size wx w') := Lib.hid fun wx h => by
    have := decode_any y wx zy h
    rw [hy, ext_from, hd, ← hy] at this
    exact this
  have HM := Lib.hid hM
  have c0 := R.row.cell 0 rfl
  have c1 := R.row.cell 1 rfl
  clear hm hy hd hM
  go_enter Tryz.func33, Tryz.ntmps33
  go_wp2_with fail
  go_quiet (fail)
  have b2 : Below w.heap.size w (w.drewN nq) := below_draws _ _
  have R2 := R.below b2
  generalize w.drewN nq = w2 at b2 R2 ⊢
  have d4 := R2.row.cell 4 rfl
  clear c0 c1
  go_wp2_with fail
  refine (HD.out _ (HM.out.below b2)).mono ?_
  rintro e w3 ⟨rfl, hb3⟩
  have R3 := R2.below hb3
  have hgw : g ≤ w.heap.size := by have := R.gB; have := R.sz; omega
  have b3 := (step_b b2 hb3).mono hgw
  have e1 := R3.row.cell 1 rfl
  have f1 := R3.row.free 1
  have hsum : ((a + n : Nat) : Int) = (a : Int) + (n : Int) := by omega
  have R4 := R3.set 1 (.int .i64 ((a : Int) + (n : Int))) (a + n) rest (by rw [hsum]; rfl)
  have b4 : Below g w (w3.setCell ⟨g, 1, none⟩ (.int .i64 ((a : Int) + (n : Int)))) := b3.setCell (Nat.le_refl _) _
  clear R R2 R3 b3 d4 hsum
  go_wp2_with fail
  go_ret2
  exact ⟨rfl, b4, R4⟩
end Go.Proofs.YtfnmohaddkoalaaGreatDoor
