/- The walk of date.Parse (20.2): what the text of a date says, or false. -/
import Derived.Test.YtglckhljpjcmaaaGreatDoorQDateW2
import Derived.Deep.QuietTactic
import Derived.BigQuiet
namespace Go.Proofs.YtglckhljpjcmaaaGreatDoor
open Go.RowKit
theorem below_1 (w : World) (o : Obj) (nq : Nat) (o0 : Nat) (v0 : Value) : Below w.heap.size w (((w.alloc o).drewN nq).setCell ⟨w.heap.size, o0, none⟩ v0) :=
  ((below_drewN ((Below.refl _ _).alloc (Nat.le_refl _) o) nq).setCell (Nat.le_refl _) v0)
theorem below_2 (w : World) (o : Obj) (nq : Nat) (o0 o1 : Nat) (v0 v1 : Value) : Below w.heap.size w ((((w.alloc o).drewN nq).setCell ⟨w.heap.size, o0, none⟩ v0).setCell ⟨w.heap.size, o1, none⟩ v1) :=
  (((below_drewN ((Below.refl _ _).alloc (Nat.le_refl _) o) nq).setCell (Nat.le_refl _) v0).setCell (Nat.le_refl _) v1)
theorem below_3 (w : World) (o : Obj) (nq : Nat) (o0 o1 o2 : Nat) (v0 v1 v2 : Value) : Below w.heap.size w (((((w.alloc o).drewN nq).setCell ⟨w.heap.size, o0, none⟩ v0).setCell ⟨w.heap.size, o1, none⟩ v1).setCell ⟨w.heap.size, o2, none⟩ v2) :=
  ((((below_drewN ((Below.refl _ _).alloc (Nat.le_refl _) o) nq).setCell (Nat.le_refl _) v0).setCell (Nat.le_refl _) v1).setCell (Nat.le_refl _) v2)
theorem below_4 (w : World) (o : Obj) (nq : Nat) (o0 o1 o2 o3 : Nat) (v0 v1 v2 v3 : Value) : Below w.heap.size w ((((((w.alloc o).drewN nq).setCell ⟨w.heap.size, o0, none⟩ v0).setCell ⟨w.heap.size, o1, none⟩ v1).setCell ⟨w.heap.size, o2, none⟩ v2).setCell ⟨w.heap.size, o3, none⟩ v3) :=
  (((((below_drewN ((Below.refl _ _).alloc (Nat.le_refl _) o) nq).setCell (Nat.le_refl _) v0).setCell (Nat.le_refl _) v1).setCell (Nat.le_refl _) v2).setCell (Nat.le_refl _) v3)
theorem below_5 (w : World) (o : Obj) (nq : Nat) (o0 o1 o2 o3 o4 : Nat) (v0 v1 v2 v3 v4 : Value) : Below w.heap.size w (((((((w.alloc o).drewN nq).setCell ⟨w.heap.size, o0, none⟩ v0).setCell ⟨w.heap.size, o1, none⟩ v1).setCell ⟨w.heap.size, o2, none⟩ v2).setCell ⟨w.heap.size, o3, none⟩ v3).setCell ⟨w.heap.size, o4, none⟩ v4) :=
  ((((((below_drewN ((Below.refl _ _).alloc (Nat.le_refl _) o) nq).setCell (Nat.le_refl _) v0).setCell (Nat.le_refl _) v1).setCell (Nat.le_refl _) v2).setCell (Nat.le_refl _) v3).setCell (Nat.le_refl _) v4)
theorem num_of (s : ByteArray) (i j : Nat) (hij : i < j) (hj : j ≤ s.size) : (∃ a, 0 ≤ a ∧ a ≤ 2147483647 ∧ numAt (bs s) i j = some a ∧ numV (bs (s.extract i j)) = .tuple #[.int .i64 a, .bool true]) ∨ (numAt (bs s) i j = none ∧ numV (bs (s.extract i j)) = .tuple #[.int .i64 0, .bool false]) := by
  have e := sub_extract s i j
  unfold numAt
  rw [← e]
  cases hn : numGo (bs (s.extract i j)) 0 with
  | none => exact .inr ⟨rfl, numV_none hn⟩
  | some a =>
    have hb := numGo_bd _ 0 a (by omega) (by omega) hn
    refine .inl ⟨a, hb.1, hb.2, rfl, ?_⟩
    rw [numV_some hn]
    have hl := bs_length (s.extract i j)
    have he : (bs (s.extract i j)).isEmpty = false := by
      cases hc : bs (s.extract i j) with
      | nil => rw [hc] at hl; simp at hl; omega
      | cons _ _ => rfl
    rw [he]; rfl

end Go.Proofs.YtglckhljpjcmaaaGreatDoor
