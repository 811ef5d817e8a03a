/- The reader of messages (layer 6): the request line. -/
import Derived.Test.YtfnmohaddkoalaaGreatDoorQMsgW2
import Derived.Test.YtfnmohaddkoalaaGreatDoorQStartW2
namespace Go.Proofs.YtfnmohaddkoalaaGreatDoor
open Go.RowKit Go.Shelf
set_option linter.unusedSimpArgs false
set_option linter.unusedVariables false

theorem req_words (r : List UInt8 × List UInt8 × Int × Int) : ∃ (M T : ByteArray) (v e : Int), r = (bs M, bs T, v, e) ∧ reqV r = .tuple #[.string M, .string T, .int .i64 v, .int .i64 e] := ⟨⟨r.1.toArray⟩, ⟨r.2.1.toArray⟩, r.2.2.1, r.2.2.2, rfl, rfl⟩
set_option maxHeartbeats 1600000 in
theorem start_any (w : World) (B g : Nat) (s : ByteArray) (a : Nat) (fs : List Fd) (ls cs : List ByteArray) (vf vl vc : Value) (m0 t0 : ByteArray) (v0 : Int) (r2 : List Value) (line M T : ByteArray) (v er : Int) (ea eb : Addr) (mx : Int)
    (R : RdAt 58 w B g s a fs ls cs vf vl vc (.string m0 :: .string t0 :: .int .i64 v0 :: r2)) (hr : reqL (bs line) = (bs M, bs T, v, er)) (hE : StartEnv w ea eb mx) (hs : line.size ≤ 100000000) :
    Calls Tryz.prog 30 #[.pointer (some ⟨g, 0, none⟩), .string line] w fun e w' => e = .returned (.int .i64 er) ∧ Below g w w' ∧ RdAt 58 w' B g s a fs ls cs vf vl vc (.string M :: .string T :: .int .i64 v :: r2) := by
  have HF := parseReq_any line w ea eb mx hE hs
  rw [hr, show reqV (bs M, bs T, v, er) = .tuple #[.string M, .string T, .int .i64 v, .int .i64 er] from rfl] at HF
  have HG := Lib.hid HF
  have hgw : g ≤ w.heap.size := by have := R.gB; have := R.sz; omega
  clear HF hE hr
  go_enter Tryz.func30, Tryz.ntmps30
  go_wp2_with fail
  refine HG.out.mono ?_
  rintro e w1 ⟨rfl, hb1⟩
  have R1 := R.below hb1
  have b1 := hb1.mono hgw
  have c5 := R1.row.cell 5 rfl
  have f5 := R1.row.free 5
  have c6 := R1.row.cell 6 rfl
  have f6 := R1.row.free 6
  have c7 := R1.row.cell 7 rfl
  have f7 := R1.row.free 7
  clear HG R hb1
  have R2 := R1.set 5 (.string M) a (.string M :: .string t0 :: .int .i64 v0 :: r2) rfl
  have R3 := R2.set 6 (.string T) a (.string M :: .string T :: .int .i64 v0 :: r2) rfl
  have R4 := R3.set 7 (.int .i64 v) a (.string M :: .string T :: .int .i64 v :: r2) rfl
  have b4 : Below g w (((w1.setCell ⟨g, 5, none⟩ (.string M)).setCell ⟨g, 6, none⟩ (.string T)).setCell ⟨g, 7, none⟩ (.int .i64 v)) := ((b1.setCell (Nat.le_refl _) _).setCell (Nat.le_refl _) _).setCell (Nat.le_refl _) _
  clear R1 R2 R3 b1
  go_wp2_with fail
  go_ret
  exact ⟨rfl, b4, R4⟩
end Go.Proofs.YtfnmohaddkoalaaGreatDoor
