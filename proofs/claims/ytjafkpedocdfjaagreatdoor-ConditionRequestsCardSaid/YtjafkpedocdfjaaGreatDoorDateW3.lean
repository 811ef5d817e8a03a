/- The walk of date.Parse (20.2): what the text of a date says, or false. -/
import Derived.Test.YtjafkpedocdfjaaGreatDoorDateW2
import Derived.Deep.QuietTactic
import Derived.BigQuiet
namespace Go.Proofs.YtjafkpedocdfjaaGreatDoor
open Go.RowKit
theorem run_five (x0 x1 x2 x3 x4 v : Value) (k : Int) (h0 : 0 ≤ k) (h1 : k < 5) (hv : (#[x0, x1, x2, x3, x4] : Array Value)[k.toNat]? = some v) (w : World) :
    (Instr.index 114 (.agg #[x0, x1, x2, x3, x4]) (.int .i64 k)).run Tryz.prog w = .ok v w :=
  run_index_agg 114 9 5 _ _ k _ Tryz.underlying114 isAggStr sizeOfStr h0 h1 hv w
theorem below_1 (w : World) (o : Obj) (nq : Nat) (o0 : Nat) (v0 : Value) : Below w.heap.size w (((w.alloc o).drewN nq).setCell ⟨w.heap.size, o0, none⟩ v0) :=
  ((below_drewN ((Below.refl _ _).alloc (Nat.le_refl _) o) nq).setCell (Nat.le_refl _) v0)
theorem below_2 (w : World) (o : Obj) (nq : Nat) (o0 o1 : Nat) (v0 v1 : Value) : Below w.heap.size w ((((w.alloc o).drewN nq).setCell ⟨w.heap.size, o0, none⟩ v0).setCell ⟨w.heap.size, o1, none⟩ v1) :=
  (((below_drewN ((Below.refl _ _).alloc (Nat.le_refl _) o) nq).setCell (Nat.le_refl _) v0).setCell (Nat.le_refl _) v1)
theorem below_3 (w : World) (o : Obj) (nq : Nat) (o0 o1 o2 : Nat) (v0 v1 v2 : Value) : Below w.heap.size w (((((w.alloc o).drewN nq).setCell ⟨w.heap.size, o0, none⟩ v0).setCell ⟨w.heap.size, o1, none⟩ v1).setCell ⟨w.heap.size, o2, none⟩ v2) :=
  ((((below_drewN ((Below.refl _ _).alloc (Nat.le_refl _) o) nq).setCell (Nat.le_refl _) v0).setCell (Nat.le_refl _) v1).setCell (Nat.le_refl _) v2)
theorem below_4 (w : World) (o : Obj) (nq : Nat) (o0 o1 o2 o3 : Nat) (v0 v1 v2 v3 : Value) : Below w.heap.size w ((((((w.alloc o).drewN nq).setCell ⟨w.heap.size, o0, none⟩ v0).setCell ⟨w.heap.size, o1, none⟩ v1).setCell ⟨w.heap.size, o2, none⟩ v2).setCell ⟨w.heap.size, o3, none⟩ v3) :=
  (((((below_drewN ((Below.refl _ _).alloc (Nat.le_refl _) o) nq).setCell (Nat.le_refl _) v0).setCell (Nat.le_refl _) v1).setCell (Nat.le_refl _) v2).setCell (Nat.le_refl _) v3)
theorem below_5 (w : World) (o : Obj) (nq : Nat) (o0 o1 o2 o3 o4 : Nat) (v0 v1 v2 v3 v4 : Value) : Below w.heap.size w (((((((w.alloc o).drewN nq).setCell ⟨w.heap.size, o0, none⟩ v0).setCell ⟨w.heap.size, o1, none⟩ v1).setCell ⟨w.heap.size, o2, none⟩ v2).setCell ⟨w.heap.size, o3, none⟩ v3).setCell ⟨w.heap.size, o4, none⟩ v4) :=
  ((((((below_drewN ((Below.refl _ _).alloc (Nat.le_refl _) o) nq).setCell (Nat.le_refl _) v0).setCell (Nat.le_refl _) v1).setCell (Nat.le_refl _) v2).setCell (Nat.le_refl _) v3).setCell (Nat.le_refl _) v4)
set_option maxHeartbeats 1600000 in
theorem parse_bad0 (s : ByteArray) (w : World) (h : s.size = 29) (h1 : (s.extract 3 5).toList = [44, 32]) (h2 : (s[7].toNat : Int) = 32) (h3 : (s[11].toNat : Int) = 32) (h4 : (s[16].toNat : Int) = 32) (h5 : (s[19].toNat : Int) = 58) (h6 : (s[22].toNat : Int) = 58) (h7 : (s.extract 25 29).toList = [32, 71, 77, 84])
    (a0 : Int) (n0 : numV (bs (s.extract 5 7)) = .tuple #[.int .i64 a0, .bool false]) :
    Calls Tryz.prog 85 #[.string s] w fun e w' => e = .returned (dateV none) ∧ Below w.heap.size w w' := by
  have i0 := fun w => run_five (.string (s.extract 5 7)) (.string (s.extract 12 16)) (.string (s.extract 17 19)) (.string (s.extract 20 22)) (.string (s.extract 23 25)) _ 0 (by omega) (by omega) rfl w
  have i1 := fun w => run_five (.string (s.extract 5 7)) (.string (s.extract 12 16)) (.string (s.extract 17 19)) (.string (s.extract 20 22)) (.string (s.extract 23 25)) _ 1 (by omega) (by omega) rfl w
  have i2 := fun w => run_five (.string (s.extract 5 7)) (.string (s.extract 12 16)) (.string (s.extract 17 19)) (.string (s.extract 20 22)) (.string (s.extract 23 25)) _ 2 (by omega) (by omega) rfl w
  have i3 := fun w => run_five (.string (s.extract 5 7)) (.string (s.extract 12 16)) (.string (s.extract 17 19)) (.string (s.extract 20 22)) (.string (s.extract 23 25)) _ 3 (by omega) (by omega) rfl w
  have i4 := fun w => run_five (.string (s.extract 5 7)) (.string (s.extract 12 16)) (.string (s.extract 17 19)) (.string (s.extract 20 22)) (.string (s.extract 23 25)) _ 4 (by omega) (by omega) rfl w
  go_enter Tryz.func85, Tryz.ntmps85
  go_wp2_with fail
  go_quiet (fail)
  go_wp2_with fail
  refine wp_loop_rounds 6 ?_
  rw [rounds_succ]
  go_wp2_with (go_at_call 108; refine (number_any _ _ (by simp; omega)).mono ?_; rintro e w' ⟨rfl, rfl⟩)
  go_ret2
  exact ⟨rfl, below_1 w _ _ _ _⟩
set_option maxHeartbeats 1600000 in
theorem parse_bad1 (s : ByteArray) (w : World) (h : s.size = 29) (h1 : (s.extract 3 5).toList = [44, 32]) (h2 : (s[7].toNat : Int) = 32) (h3 : (s[11].toNat : Int) = 32) (h4 : (s[16].toNat : Int) = 32) (h5 : (s[19].toNat : Int) = 58) (h6 : (s[22].toNat : Int) = 58) (h7 : (s.extract 25 29).toList = [32, 71, 77, 84])
    (a0 a1 : Int) (n0 : numV (bs (s.extract 5 7)) = .tuple #[.int .i64 a0, .bool true]) (n1 : numV (bs (s.extract 12 16)) = .tuple #[.int .i64 a1, .bool false]) :
    Calls Tryz.prog 85 #[.string s] w fun e w' => e = .returned (dateV none) ∧ Below w.heap.size w w' := by
  have i0 := fun w => run_five (.string (s.extract 5 7)) (.string (s.extract 12 16)) (.string (s.extract 17 19)) (.string (s.extract 20 22)) (.string (s.extract 23 25)) _ 0 (by omega) (by omega) rfl w
  have i1 := fun w => run_five (.string (s.extract 5 7)) (.string (s.extract 12 16)) (.string (s.extract 17 19)) (.string (s.extract 20 22)) (.string (s.extract 23 25)) _ 1 (by omega) (by omega) rfl w
  have i2 := fun w => run_five (.string (s.extract 5 7)) (.string (s.extract 12 16)) (.string (s.extract 17 19)) (.string (s.extract 20 22)) (.string (s.extract 23 25)) _ 2 (by omega) (by omega) rfl w
  have i3 := fun w => run_five (.string (s.extract 5 7)) (.string (s.extract 12 16)) (.string (s.extract 17 19)) (.string (s.extract 20 22)) (.string (s.extract 23 25)) _ 3 (by omega) (by omega) rfl w
  have i4 := fun w => run_five (.string (s.extract 5 7)) (.string (s.extract 12 16)) (.string (s.extract 17 19)) (.string (s.extract 20 22)) (.string (s.extract 23 25)) _ 4 (by omega) (by omega) rfl w
  go_enter Tryz.func85, Tryz.ntmps85
  go_wp2_with fail
  go_quiet (fail)
  go_wp2_with fail
  refine wp_loop_rounds 6 ?_
  rw [rounds_succ]
  go_wp2_with (go_at_call 108; refine (number_any _ _ (by simp; omega)).mono ?_; rintro e w' ⟨rfl, rfl⟩)
  rw [rounds_succ]
  go_wp2_with (go_at_call 108; refine (number_any _ _ (by simp; omega)).mono ?_; rintro e w' ⟨rfl, rfl⟩)
  go_ret2
  exact ⟨rfl, below_2 w _ _ _ _ _ _⟩
set_option maxHeartbeats 1600000 in
theorem parse_bad2 (s : ByteArray) (w : World) (h : s.size = 29) (h1 : (s.extract 3 5).toList = [44, 32]) (h2 : (s[7].toNat : Int) = 32) (h3 : (s[11].toNat : Int) = 32) (h4 : (s[16].toNat : Int) = 32) (h5 : (s[19].toNat : Int) = 58) (h6 : (s[22].toNat : Int) = 58) (h7 : (s.extract 25 29).toList = [32, 71, 77, 84])
    (a0 a1 a2 : Int) (n0 : numV (bs (s.extract 5 7)) = .tuple #[.int .i64 a0, .bool true]) (n1 : numV (bs (s.extract 12 16)) = .tuple #[.int .i64 a1, .bool true]) (n2 : numV (bs (s.extract 17 19)) = .tuple #[.int .i64 a2, .bool false]) :
    Calls Tryz.prog 85 #[.string s] w fun e w' => e = .returned (dateV none) ∧ Below w.heap.size w w' := by
  have i0 := fun w => run_five (.string (s.extract 5 7)) (.string (s.extract 12 16)) (.string (s.extract 17 19)) (.string (s.extract 20 22)) (.string (s.extract 23 25)) _ 0 (by omega) (by omega) rfl w
  have i1 := fun w => run_five (.string (s.extract 5 7)) (.string (s.extract 12 16)) (.string (s.extract 17 19)) (.string (s.extract 20 22)) (.string (s.extract 23 25)) _ 1 (by omega) (by omega) rfl w
  have i2 := fun w => run_five (.string (s.extract 5 7)) (.string (s.extract 12 16)) (.string (s.extract 17 19)) (.string (s.extract 20 22)) (.string (s.extract 23 25)) _ 2 (by omega) (by omega) rfl w
  have i3 := fun w => run_five (.string (s.extract 5 7)) (.string (s.extract 12 16)) (.string (s.extract 17 19)) (.string (s.extract 20 22)) (.string (s.extract 23 25)) _ 3 (by omega) (by omega) rfl w
  have i4 := fun w => run_five (.string (s.extract 5 7)) (.string (s.extract 12 16)) (.string (s.extract 17 19)) (.string (s.extract 20 22)) (.string (s.extract 23 25)) _ 4 (by omega) (by omega) rfl w
  go_enter Tryz.func85, Tryz.ntmps85
  go_wp2_with fail
  go_quiet (fail)
  go_wp2_with fail
  refine wp_loop_rounds 6 ?_
  rw [rounds_succ]
  go_wp2_with (go_at_call 108; refine (number_any _ _ (by simp; omega)).mono ?_; rintro e w' ⟨rfl, rfl⟩)
  rw [rounds_succ]
  go_wp2_with (go_at_call 108; refine (number_any _ _ (by simp; omega)).mono ?_; rintro e w' ⟨rfl, rfl⟩)
  rw [rounds_succ]
  go_wp2_with (go_at_call 108; refine (number_any _ _ (by simp; omega)).mono ?_; rintro e w' ⟨rfl, rfl⟩)
  go_ret2
  exact ⟨rfl, below_3 w _ _ _ _ _ _ _ _⟩
set_option maxHeartbeats 1600000 in
theorem parse_bad3 (s : ByteArray) (w : World) (h : s.size = 29) (h1 : (s.extract 3 5).toList = [44, 32]) (h2 : (s[7].toNat : Int) = 32) (h3 : (s[11].toNat : Int) = 32) (h4 : (s[16].toNat : Int) = 32) (h5 : (s[19].toNat : Int) = 58) (h6 : (s[22].toNat : Int) = 58) (h7 : (s.extract 25 29).toList = [32, 71, 77, 84])
    (a0 a1 a2 a3 : Int) (n0 : numV (bs (s.extract 5 7)) = .tuple #[.int .i64 a0, .bool true]) (n1 : numV (bs (s.extract 12 16)) = .tuple #[.int .i64 a1, .bool true]) (n2 : numV (bs (s.extract 17 19)) = .tuple #[.int .i64 a2, .bool true]) (n3 : numV (bs (s.extract 20 22)) = .tuple #[.int .i64 a3, .bool false]) :
    Calls Tryz.prog 85 #[.string s] w fun e w' => e = .returned (dateV none) ∧ Below w.heap.size w w' := by
  have i0 := fun w => run_five (.string (s.extract 5 7)) (.string (s.extract 12 16)) (.string (s.extract 17 19)) (.string (s.extract 20 22)) (.string (s.extract 23 25)) _ 0 (by omega) (by omega) rfl w
  have i1 := fun w => run_five (.string (s.extract 5 7)) (.string (s.extract 12 16)) (.string (s.extract 17 19)) (.string (s.extract 20 22)) (.string (s.extract 23 25)) _ 1 (by omega) (by omega) rfl w
  have i2 := fun w => run_five (.string (s.extract 5 7)) (.string (s.extract 12 16)) (.string (s.extract 17 19)) (.string (s.extract 20 22)) (.string (s.extract 23 25)) _ 2 (by omega) (by omega) rfl w
  have i3 := fun w => run_five (.string (s.extract 5 7)) (.string (s.extract 12 16)) (.string (s.extract 17 19)) (.string (s.extract 20 22)) (.string (s.extract 23 25)) _ 3 (by omega) (by omega) rfl w
  have i4 := fun w => run_five (.string (s.extract 5 7)) (.string (s.extract 12 16)) (.string (s.extract 17 19)) (.string (s.extract 20 22)) (.string (s.extract 23 25)) _ 4 (by omega) (by omega) rfl w
  go_enter Tryz.func85, Tryz.ntmps85
  go_wp2_with fail
  go_quiet (fail)
  go_wp2_with fail
  refine wp_loop_rounds 6 ?_
  rw [rounds_succ]
  go_wp2_with (go_at_call 108; refine (number_any _ _ (by simp; omega)).mono ?_; rintro e w' ⟨rfl, rfl⟩)
  rw [rounds_succ]
  go_wp2_with (go_at_call 108; refine (number_any _ _ (by simp; omega)).mono ?_; rintro e w' ⟨rfl, rfl⟩)
  rw [rounds_succ]
  go_wp2_with (go_at_call 108; refine (number_any _ _ (by simp; omega)).mono ?_; rintro e w' ⟨rfl, rfl⟩)
  rw [rounds_succ]
  go_wp2_with (go_at_call 108; refine (number_any _ _ (by simp; omega)).mono ?_; rintro e w' ⟨rfl, rfl⟩)
  go_ret2
  exact ⟨rfl, below_4 w _ _ _ _ _ _ _ _ _ _⟩
set_option maxHeartbeats 1600000 in
theorem parse_bad4 (s : ByteArray) (w : World) (h : s.size = 29) (h1 : (s.extract 3 5).toList = [44, 32]) (h2 : (s[7].toNat : Int) = 32) (h3 : (s[11].toNat : Int) = 32) (h4 : (s[16].toNat : Int) = 32) (h5 : (s[19].toNat : Int) = 58) (h6 : (s[22].toNat : Int) = 58) (h7 : (s.extract 25 29).toList = [32, 71, 77, 84])
    (a0 a1 a2 a3 a4 : Int) (n0 : numV (bs (s.extract 5 7)) = .tuple #[.int .i64 a0, .bool true]) (n1 : numV (bs (s.extract 12 16)) = .tuple #[.int .i64 a1, .bool true]) (n2 : numV (bs (s.extract 17 19)) = .tuple #[.int .i64 a2, .bool true]) (n3 : numV (bs (s.extract 20 22)) = .tuple #[.int .i64 a3, .bool true]) (n4 : numV (bs (s.extract 23 25)) = .tuple #[.int .i64 a4, .bool false]) :
    Calls Tryz.prog 85 #[.string s] w fun e w' => e = .returned (dateV none) ∧ Below w.heap.size w w' := by
  have i0 := fun w => run_five (.string (s.extract 5 7)) (.string (s.extract 12 16)) (.string (s.extract 17 19)) (.string (s.extract 20 22)) (.string (s.extract 23 25)) _ 0 (by omega) (by omega) rfl w
  have i1 := fun w => run_five (.string (s.extract 5 7)) (.string (s.extract 12 16)) (.string (s.extract 17 19)) (.string (s.extract 20 22)) (.string (s.extract 23 25)) _ 1 (by omega) (by omega) rfl w
  have i2 := fun w => run_five (.string (s.extract 5 7)) (.string (s.extract 12 16)) (.string (s.extract 17 19)) (.string (s.extract 20 22)) (.string (s.extract 23 25)) _ 2 (by omega) (by omega) rfl w
  have i3 := fun w => run_five (.string (s.extract 5 7)) (.string (s.extract 12 16)) (.string (s.extract 17 19)) (.string (s.extract 20 22)) (.string (s.extract 23 25)) _ 3 (by omega) (by omega) rfl w
  have i4 := fun w => run_five (.string (s.extract 5 7)) (.string (s.extract 12 16)) (.string (s.extract 17 19)) (.string (s.extract 20 22)) (.string (s.extract 23 25)) _ 4 (by omega) (by omega) rfl w
  go_enter Tryz.func85, Tryz.ntmps85
  go_wp2_with fail
  go_quiet (fail)
  go_wp2_with fail
  refine wp_loop_rounds 6 ?_
  rw [rounds_succ]
  go_wp2_with (go_at_call 108; refine (number_any _ _ (by simp; omega)).mono ?_; rintro e w' ⟨rfl, rfl⟩)
  rw [rounds_succ]
  go_wp2_with (go_at_call 108; refine (number_any _ _ (by simp; omega)).mono ?_; rintro e w' ⟨rfl, rfl⟩)
  rw [rounds_succ]
  go_wp2_with (go_at_call 108; refine (number_any _ _ (by simp; omega)).mono ?_; rintro e w' ⟨rfl, rfl⟩)
  rw [rounds_succ]
  go_wp2_with (go_at_call 108; refine (number_any _ _ (by simp; omega)).mono ?_; rintro e w' ⟨rfl, rfl⟩)
  rw [rounds_succ]
  go_wp2_with (go_at_call 108; refine (number_any _ _ (by simp; omega)).mono ?_; rintro e w' ⟨rfl, rfl⟩)
  go_ret2
  exact ⟨rfl, below_5 w _ _ _ _ _ _ _ _ _ _ _ _⟩
set_option maxHeartbeats 1600000 in
theorem parse_yes (s : ByteArray) (w : World) (h : s.size = 29) (h1 : (s.extract 3 5).toList = [44, 32]) (h2 : (s[7].toNat : Int) = 32) (h3 : (s[11].toNat : Int) = 32) (h4 : (s[16].toNat : Int) = 32) (h5 : (s[19].toNat : Int) = 58) (h6 : (s[22].toNat : Int) = 58) (h7 : (s.extract 25 29).toList = [32, 71, 77, 84])
    (a0 a1 a2 a3 a4 : Int) (ha2 : 0 ≤ a2 ∧ a2 ≤ 2147483647) (ha3 : 0 ≤ a3 ∧ a3 ≤ 2147483647) (ha4 : 0 ≤ a4 ∧ a4 ≤ 2147483647) (n0 : numV (bs (s.extract 5 7)) = .tuple #[.int .i64 a0, .bool true]) (n1 : numV (bs (s.extract 12 16)) = .tuple #[.int .i64 a1, .bool true]) (n2 : numV (bs (s.extract 17 19)) = .tuple #[.int .i64 a2, .bool true]) (n3 : numV (bs (s.extract 20 22)) = .tuple #[.int .i64 a3, .bool true]) (n4 : numV (bs (s.extract 23 25)) = .tuple #[.int .i64 a4, .bool true]) :
    Calls Tryz.prog 85 #[.string s] w fun e w' => e = .returned (dateV (secs a0 a1 a2 a3 a4 (nameFrom monthS (bs (s.extract 8 11)) 12 0 + 1) (nameFrom wdayS (bs (s.extract 0 3)) 7 0))) ∧ Below w.heap.size w w' := by
  have i0 := fun w => run_five (.string (s.extract 5 7)) (.string (s.extract 12 16)) (.string (s.extract 17 19)) (.string (s.extract 20 22)) (.string (s.extract 23 25)) _ 0 (by omega) (by omega) rfl w
  have i1 := fun w => run_five (.string (s.extract 5 7)) (.string (s.extract 12 16)) (.string (s.extract 17 19)) (.string (s.extract 20 22)) (.string (s.extract 23 25)) _ 1 (by omega) (by omega) rfl w
  have i2 := fun w => run_five (.string (s.extract 5 7)) (.string (s.extract 12 16)) (.string (s.extract 17 19)) (.string (s.extract 20 22)) (.string (s.extract 23 25)) _ 2 (by omega) (by omega) rfl w
  have i3 := fun w => run_five (.string (s.extract 5 7)) (.string (s.extract 12 16)) (.string (s.extract 17 19)) (.string (s.extract 20 22)) (.string (s.extract 23 25)) _ 3 (by omega) (by omega) rfl w
  have i4 := fun w => run_five (.string (s.extract 5 7)) (.string (s.extract 12 16)) (.string (s.extract 17 19)) (.string (s.extract 20 22)) (.string (s.extract 23 25)) _ 4 (by omega) (by omega) rfl w
  obtain ⟨mi, hmi⟩ : ∃ mi, nameFrom monthS (bs (s.extract 8 11)) 12 0 = mi := ⟨_, rfl⟩
  obtain ⟨wi, hwi⟩ : ∃ wi, nameFrom wdayS (bs (s.extract 0 3)) 7 0 = wi := ⟨_, rfl⟩
  obtain ⟨n, hn⟩ : ∃ n, days a1 (mi + 1) a0 = n := ⟨_, rfl⟩
  have H : Hid (secs a0 a1 a2 a3 a4 (nameFrom monthS (bs (s.extract 8 11)) 12 0 + 1) (nameFrom wdayS (bs (s.extract 0 3)) 7 0) = if n < 0 ∨ 23 < a2 ∨ 59 < a3 ∨ 59 < a4 ∨ wi ≠ (n + 3) % 7 then none else some (n * 86400 + (a2 * 3600 + a3 * 60 + a4))) := Lib.hid (by rw [hmi, hwi, ← hn]; rfl)
  have hm := nameFrom_bd monthS (bs (s.extract 8 11)) 12 0
  have hwd := nameFrom_bd wdayS (bs (s.extract 0 3)) 7 0
  have hdb := days_bd a1 (mi + 1) a0
  rw [hmi] at hm
  rw [hwi] at hwd
  rw [hn] at hdb
  go_enter Tryz.func85, Tryz.ntmps85
  go_wp2_with fail
  go_quiet (fail)
  go_wp2_with fail
  refine wp_loop_rounds 6 ?_
  rw [rounds_succ]
  go_wp2_with (go_at_call 108; refine (number_any _ _ (by simp; omega)).mono ?_; rintro e w' ⟨rfl, rfl⟩)
  rw [rounds_succ]
  go_wp2_with (go_at_call 108; refine (number_any _ _ (by simp; omega)).mono ?_; rintro e w' ⟨rfl, rfl⟩)
  rw [rounds_succ]
  go_wp2_with (go_at_call 108; refine (number_any _ _ (by simp; omega)).mono ?_; rintro e w' ⟨rfl, rfl⟩)
  rw [rounds_succ]
  go_wp2_with (go_at_call 108; refine (number_any _ _ (by simp; omega)).mono ?_; rintro e w' ⟨rfl, rfl⟩)
  rw [rounds_succ]
  go_wp2_with (go_at_call 108; refine (number_any _ _ (by simp; omega)).mono ?_; rintro e w' ⟨rfl, rfl⟩)
  rw [rounds_succ]
  go_wp2_with (go_at_call 108; refine (number_any _ _ (by simp; omega)).mono ?_; rintro e w' ⟨rfl, rfl⟩)
  refine (index_month _ _).mono ?_
  rintro e w' ⟨rfl, rfl⟩
  go_wp2_with fail
  refine (days_any _ _ _ _).mono ?_
  rintro e w' ⟨rfl, rfl⟩
  by_cases c1 : n < 0
  · go_wp2_with fail
    go_ret2
    exact ⟨by rw [H.out, if_pos (by omega)]; rfl, below_5 w _ _ _ _ _ _ _ _ _ _ _ _⟩
  by_cases c2 : 23 < a2
  · go_wp2_with fail
    go_ret2
    exact ⟨by rw [H.out, if_pos (by omega)]; rfl, below_5 w _ _ _ _ _ _ _ _ _ _ _ _⟩
  by_cases c3 : 59 < a3
  · go_wp2_with fail
    go_ret2
    exact ⟨by rw [H.out, if_pos (by omega)]; rfl, below_5 w _ _ _ _ _ _ _ _ _ _ _ _⟩
  by_cases c4 : 59 < a4
  · go_wp2_with fail
    go_ret2
    exact ⟨by rw [H.out, if_pos (by omega)]; rfl, below_5 w _ _ _ _ _ _ _ _ _ _ _ _⟩
  by_cases c5 : wi = (n + 3) % 7
  · have c5' : (wi != (n + 3) % 7) = false := by simpa using c5
    have c5'' := Lib.hid c5
    clear c5
    go_wp2_with (go_at_call 109; refine (index_wday _ _).mono ?_; rintro e w' ⟨rfl, rfl⟩)
    go_ret2
    exact ⟨by rw [H.out, if_neg (by have := c5''.out; omega)]; rfl, below_5 w _ _ _ _ _ _ _ _ _ _ _ _⟩
  · have c5' : (wi != (n + 3) % 7) = true := by simpa using c5
    have c5'' := Lib.hid c5
    clear c5
    go_wp2_with (go_at_call 109; refine (index_wday _ _).mono ?_; rintro e w' ⟨rfl, rfl⟩)
    go_ret2
    exact ⟨by rw [H.out, if_pos (by have := c5''.out; omega)]; rfl, below_5 w _ _ _ _ _ _ _ _ _ _ _ _⟩
set_option maxHeartbeats 800000 in
theorem parse_no (s : ByteArray) (w : World) (h : ¬ Form s) (_hs : s.size ≤ 140737488355328) :
    Calls Tryz.prog 85 #[.string s] w fun e w' => e = .returned (dateV none) ∧ Below w.heap.size w w' := by
  have H := Lib.hid h
  clear h
  by_cases h29 : s.size = 29
  · go_enter Tryz.func85, Tryz.ntmps85
    go_wp2_with fail
    all_goals first | (go_ret2; exact ⟨rfl, Below.refl _ _⟩) | (exfalso; exact H.out ⟨h29, by assumption, by omega, by omega, by omega, by omega, by omega, by simpa using (show (!((s.extract 25 29).toList == [32, 71, 77, 84])) = false by assumption)⟩)
  · go_enter Tryz.func85, Tryz.ntmps85
    go_wp2_with fail
    go_ret2
    exact ⟨rfl, Below.refl _ _⟩

-- every string
theorem num_of (s : ByteArray) (i j : Nat) (hij : i < j) (hj : j ≤ s.size) : (∃ a, 0 ≤ a ∧ a ≤ 2147483647 ∧ numAt (bs s) i j = some a ∧ numV (bs (s.extract i j)) = .tuple #[.int .i64 a, .bool true]) ∨ (numAt (bs s) i j = none ∧ numV (bs (s.extract i j)) = .tuple #[.int .i64 0, .bool false]) := by
  have e := sub_extract s i j
  unfold numAt
  rw [← e]
  cases hn : numGo (bs (s.extract i j)) 0 with
  | none => exact .inr ⟨rfl, numV_none hn⟩
  | some a =>
    have hb := numGo_bd _ 0 a (by omega) (by omega) hn
    refine .inl ⟨a, hb.1, hb.2, rfl, ?_⟩
    rw [numV_some hn]
    have hl := bs_length (s.extract i j)
    have he : (bs (s.extract i j)).isEmpty = false := by
      cases hc : bs (s.extract i j) with
      | nil => rw [hc] at hl; simp at hl; omega
      | cons _ _ => rfl
    rw [he]; rfl

theorem parse_any (s : ByteArray) (w : World) (hs : s.size ≤ 140737488355328) :
    Calls Tryz.prog 85 #[.string s] w fun e w' => e = .returned (dateV (parseD (bs s))) ∧ Below w.heap.size w w' := by
  by_cases hf : Form s
  · have hp : parseD (bs s) = parts (bs s) := by unfold parseD; rw [if_pos ((formB_iff s).2 hf)]
    rw [hp]
    obtain ⟨h, h1, h2, h3, h4, h5, h6, h7⟩ := hf
    have k2 : (s[7].toNat : Int) = 32 := by omega
    have k3 : (s[11].toNat : Int) = 32 := by omega
    have k4 : (s[16].toNat : Int) = 32 := by omega
    have k5 : (s[19].toNat : Int) = 58 := by omega
    have k6 : (s[22].toNat : Int) = 58 := by omega
    rcases num_of s 5 7 (by omega) (by omega) with ⟨x0, l0, m0, p0, q0⟩ | ⟨p0, q0⟩
    rotate_left
    · have e : parts (bs s) = none := by unfold parts; rw [p0]
      rw [e]
      exact parse_bad0 s w h h1 k2 k3 k4 k5 k6 h7  0 q0
    rcases num_of s 12 16 (by omega) (by omega) with ⟨x1, l1, m1, p1, q1⟩ | ⟨p1, q1⟩
    rotate_left
    · have e : parts (bs s) = none := by unfold parts; rw [p0]; rw [p1]
      rw [e]
      exact parse_bad1 s w h h1 k2 k3 k4 k5 k6 h7 x0 0 q0 q1
    rcases num_of s 17 19 (by omega) (by omega) with ⟨x2, l2, m2, p2, q2⟩ | ⟨p2, q2⟩
    rotate_left
    · have e : parts (bs s) = none := by unfold parts; rw [p0]; rw [p1]; rw [p2]
      rw [e]
      exact parse_bad2 s w h h1 k2 k3 k4 k5 k6 h7 x0 x1 0 q0 q1 q2
    rcases num_of s 20 22 (by omega) (by omega) with ⟨x3, l3, m3, p3, q3⟩ | ⟨p3, q3⟩
    rotate_left
    · have e : parts (bs s) = none := by unfold parts; rw [p0]; rw [p1]; rw [p2]; rw [p3]
      rw [e]
      exact parse_bad3 s w h h1 k2 k3 k4 k5 k6 h7 x0 x1 x2 0 q0 q1 q2 q3
    rcases num_of s 23 25 (by omega) (by omega) with ⟨x4, l4, m4, p4, q4⟩ | ⟨p4, q4⟩
    rotate_left
    · have e : parts (bs s) = none := by unfold parts; rw [p0]; rw [p1]; rw [p2]; rw [p3]; rw [p4]
      rw [e]
      exact parse_bad4 s w h h1 k2 k3 k4 k5 k6 h7 x0 x1 x2 x3 0 q0 q1 q2 q3 q4
    have e : parts (bs s) = secs x0 x1 x2 x3 x4 (nameFrom monthS (bs (s.extract 8 11)) 12 0 + 1) (nameFrom wdayS (bs (s.extract 0 3)) 7 0) := by
      unfold parts; rw [p0, p1, p2, p3, p4, sub_extract, sub_extract]
    rw [e]
    exact parse_yes s w h h1 k2 k3 k4 k5 k6 h7 x0 x1 x2 x3 x4 ⟨l2, m2⟩ ⟨l3, m3⟩ ⟨l4, m4⟩ q0 q1 q2 q3 q4
  · have hp : parseD (bs s) = none := by unfold parseD; rw [if_neg (fun h => hf ((formB_iff s).1 h))]
    rw [hp]
    exact parse_no s w hf hs
end Go.Proofs.YtjafkpedocdfjaaGreatDoor
