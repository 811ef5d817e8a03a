/- The reader of messages (layer 6): a body with a Content-Length. -/
import Derived.Test.YtfnmohaddkoalaaGreatDoorQMsgW7
import Derived.Test.YtfnmohaddkoalaaGreatDoorQRParseW
namespace Go.Proofs.YtfnmohaddkoalaaGreatDoor
open Go.RowKit Go.Shelf
set_option linter.unusedSimpArgs false
set_option linter.unusedVariables false

set_option maxHeartbeats 1600000 in
theorem body_len (T : TypeId) (w : World) (B g : Nat) (s : ByteArray) (a : Nat) (fs : List Fd) (c : ByteArray) (vf vl vc : Value) (rest : List Value)
    (R : RdAt T w B g s a fs [c] [] vf vl vc rest) (ha : a ≤ s.size) (hs : s.size ≤ 1000000) (hc : c.size ≤ 100000) (n : Nat) (ok : Bool) (hv : numV (bs c) = .tuple #[.int .i64 (n : Int), .bool ok]) (hn : n ≤ 100000) (hl : a + n ≤ s.size) :
    Calls Tryz.prog 33 #[.pointer (some ⟨g, 0, none⟩)] w fun e w' => e = .returned (.tuple #[.string (s.extract a (a + n)), .int .i64 0]) ∧ Below g w w' ∧ RdAt T w' B g s (a + n) fs [c] [] vf vl vc rest := by
  obtain ⟨oc, cc, rfl, _⟩ := R.c.shape
  obtain ⟨gl, cl, rfl, _, _, hA, _⟩ := R.l.form (by simp)
  have l0 := hA 0 c rfl
  obtain ⟨y, hy⟩ : ∃ y : ByteArray, y = s.extract a s.size := ⟨_, rfl⟩
  have zy : y.size = s.size - a := by rw [hy, ByteArray.size_extract]; omega
  have p1 : ∀ wx, (Instr.slice 9 (.string s) (some (.int .i64 (a : Int))) none none).run Tryz.prog wx = .ok (.string y) wx := fun wx => by rw [hy]; exact run_from2 s a _ rfl ha wx
  obtain ⟨x, hx⟩ : ∃ x : ByteArray, x = y.extract 0 n := ⟨_, rfl⟩
  have p2 : ∀ wx, (Instr.slice 9 (.string y) none (some (.int .i64 (n : Int))) none).run Tryz.prog wx = .ok (.string x) wx := fun wx => by rw [hx]; exact run_to2 y n _ rfl (by omega) wx
  have HX : Hid (s.extract a (a + n) = x) := Lib.hid (by
    rw [hx, hy]
    apply ByteArray.ext
    apply Array.ext'
    show bs _ = bs _
    rw [ext_take, ext_from, ext_mid, show a + n - a = n by omega])
  have hny : ¬ (y.size : Int) < (n : Int) := by omega
  have c0 := R.row.cell 0 rfl
  have c1 := R.row.cell 1 rfl
  have hgw : g ≤ w.heap.size := by have := R.gB; have := R.sz; omega
  have HV := Lib.hid hv
  clear hy hx hA zy hv
  go_enter Tryz.func33, Tryz.ntmps33
  go_wp2_with fail
  go_quiet (fail)
  have b2 : Below w.heap.size w (w.drewN nq) := below_draws _ _
  have R2 := R.below b2
  have l2 := (b2.cell (cell_lt l0)).trans l0
  generalize w.drewN nq = w2 at b2 R2 l2 ⊢
  have d4 := R2.row.cell 4 rfl
  have d3 := R2.row.cell 3 rfl
  have d1 := R2.row.cell 1 rfl
  have f1 := R2.row.free 1
  clear c0 c1 l0
  go_wp2_with fail
  refine (number_any c w2 (by omega)).mono ?_
  rintro e w3 ⟨rfl, rfl⟩
  rw [HV.out]
  have hsum : ((a + n : Nat) : Int) = (a : Int) + (n : Int) := by omega
  have R4 := R2.set 1 (.int .i64 ((a : Int) + (n : Int))) (a + n) rest (by rw [hsum]; rfl)
  have b4 : Below g w (w2.setCell ⟨g, 1, none⟩ (.int .i64 ((a : Int) + (n : Int)))) := (b2.mono hgw).setCell (Nat.le_refl _) _
  clear R R2 hsum
  go_wp2_with fail
  go_ret2
  exact ⟨by rw [HX.out]; rfl, b4, R4⟩
end Go.Proofs.YtfnmohaddkoalaaGreatDoor
