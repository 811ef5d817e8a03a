/- errors.Is at the errors of layer 2 (a part of a line, and the kind of the error), and what the listed variables give its walks. -/
import Derived.Test.YtfnmohaddkoalaaGreatDoorChecked
import Derived.Test.YtfnmohaddkoalaaGreatDoorShelf
import Derived.Test.YtfnmohaddkoalaaGreatDoorQPost
import Derived.WalkKit
import Derived.WalkSpells
import Derived.WalkLawsBesides
import Derived.LaidEql
import Derived.Stop.Asserts
import Derived.Stop.LaidTwo
import Derived.RowKitTokens
import Derived.WalkSmall
namespace Go.Proofs.YtfnmohaddkoalaaGreatDoor
open Go.RowKit Go.Extern.Stop Go.Stop Go.Extern

theorem isTypeOf (v : Value) (w : World) : (Extern.ReflectliteType.typeOf #[.iface 170 v]).run Tryz.prog w = .ok (.iface 143 (.agg #[.pointer (some ⟨8, 170, none⟩)])) w := by kernel_rfl
def cmpF : Array Value → Sem Value := Extern.ReflectliteType.method fun t => do Extern.Rtype.noPackHeld "Comparable" t; pure (.bool (← typeInfo t).comparable)
theorem isComparable (w : World) : (cmpF #[.agg #[.pointer (some ⟨8, 170, none⟩)]]).run Tryz.prog w = .ok (.bool true) w := by kernel_rfl
theorem isMethodComparable (v : Value) (w : World) : (Go.method 303 143 v "Comparable").run Tryz.prog w = .ok (161, v) w := by kernel_rfl
theorem isComp : (Tryz.prog.info? 170).map (·.comparable) = some true := by kernel_rfl
theorem isSize : (Tryz.prog.info? 192).map (·.size) = some 1 := by kernel_rfl
theorem noIsE (v : Value) (xT : TypeId) (w : World) : (Instr.typeAssert (.iface 170 v) xT 145 true).run Tryz.prog w = .ok (.tuple #[.nilIface, .bool false]) w := run_typeAssert_lacksB Tryz.underlying145 (by kernel_rfl) (by kernel_rfl) v xT w
theorem noUnwrapE (v : Value) (xT : TypeId) (w : World) : (Instr.typeAssert (.iface 170 v) xT 148 true).run Tryz.prog w = .ok (.tuple #[.nilIface, .bool false]) w := run_typeAssert_lacksB Tryz.underlying148 (by kernel_rfl) (by kernel_rfl) v xT w
theorem noUnwrapsE (v : Value) (xT : TypeId) (w : World) : (Instr.typeAssert (.iface 170 v) xT 150 true).run Tryz.prog w = .ok (.tuple #[.nilIface, .bool false]) w := run_typeAssert_lacksB Tryz.underlying150 (by kernel_rfl) (by kernel_rfl) v xT w
theorem noIsF (v : Value) (xT : TypeId) (w : World) : (Instr.typeAssert (.iface 119 v) xT 145 true).run Tryz.prog w = .ok (.tuple #[.nilIface, .bool false]) w := run_typeAssert_lacksB Tryz.underlying145 (by kernel_rfl) (by kernel_rfl) v xT w
theorem hasUnwrapF (v : Value) (xT : TypeId) (w : World) : (Instr.typeAssert (.iface 119 v) xT 148 true).run Tryz.prog w = .ok (.tuple #[.iface 119 v, .bool true]) w := run_typeAssert_hasB Tryz.underlying148 (by kernel_rfl) v xT w
theorem methodUnwrap (v : Value) (w : World) : (Go.method 303 119 v "Unwrap").run Tryz.prog w = .ok (157, v) w := by kernel_rfl

theorem block_lt {w : World} {g : Nat} {o : Obj} (h : w.heap[g]? = some o) : g < w.heap.size := by
  rcases Nat.lt_or_ge g w.heap.size with h' | h'
  · exact h'
  · rw [Array.getElem?_eq_none h'] at h; cases h
/-- An error of errors.New's make, and the error of a part of a line. -/
abbrev errV (a : Addr) : Value := .iface 170 (.pointer (some a))
abbrev faultV (a : Addr) : Value := .iface 119 (.agg #[.string ⟨#[118, 101, 114, 115, 105, 111, 110]⟩, errV a])
set_option maxRecDepth 100000 in
set_option maxHeartbeats 800000 in
theorem is_same (b : Addr) (w : World) :
    Calls Tryz.prog 101 #[faultV b, errV b] w fun e w' => e = .returned (.bool true) ∧ Below w.heap.size w w' := by
  obtain ⟨i, hi, hcmp⟩ := Option.map_eq_some_iff.1 isComp
  obtain ⟨j, hj, hjs⟩ := Option.map_eq_some_iff.1 isSize
  have h8 := @run_callFunc_extern Tryz.prog 111 _ Extern.ReflectliteType.typeOf Tryz.func111 (by kernel_rfl) (by kernel_rfl) (by kernel_rfl) (by kernel_rfl)
  have h32 := @run_callFunc_extern Tryz.prog 161 _ cmpF Tryz.func161 (by kernel_rfl) (by kernel_rfl) (by kernel_rfl) (by kernel_rfl)
  have tT := isTypeOf
  have cT := isComparable
  have mR := isMethodComparable
  have nE := noIsE
  have uE := noUnwrapE
  have vE := noUnwrapsE
  have nW := noIsF
  have uW := hasUnwrapF
  have mU := methodUnwrap
  have heq := fun w => run_eql_iface_ptr_same (P := Tryz.prog) w b Tryz.underlying89 Tryz.underlying170 hi hcmp hj
  have hty := fun w => run_eql_iface_types (P := Tryz.prog) 119 170 (.agg #[.string ⟨#[118, 101, 114, 115, 105, 111, 110]⟩, errV b]) (.pointer (some b)) Tryz.underlying89 (by decide) w
  go_enter Tryz.func101, Tryz.ntmps101
  go_wp2
  refine wp_loop_rounds 2 ?_
  rw [rounds_succ]
  go_wp2
  rw [rounds_succ]
  go_wp2
  go_ret
  exact ⟨rfl, by repeat (first | exact Below.refl _ _ | refine Below.alloc ?_ (by simp) _ | refine Below.drew ?_)⟩
set_option maxRecDepth 100000 in
set_option maxHeartbeats 800000 in
theorem is_other (a b : Addr) (w : World) (hne : a ≠ b) (ha : ∃ ca ta, w.heap[a.block]? = some (.cells ca ta (0, 0))) (hb : ∃ cb tb, w.heap[b.block]? = some (.cells cb tb (0, 0))) :
    Calls Tryz.prog 101 #[faultV a, errV b] w fun e w' => e = .returned (.bool false) ∧ Below w.heap.size w w' := by
  obtain ⟨ca, ta, ha⟩ := ha
  obtain ⟨cb, tb, hb⟩ := hb
  obtain ⟨i, hi, hcmp⟩ := Option.map_eq_some_iff.1 isComp
  obtain ⟨j, hj, hjs⟩ := Option.map_eq_some_iff.1 isSize
  have h8 := @run_callFunc_extern Tryz.prog 111 _ Extern.ReflectliteType.typeOf Tryz.func111 (by kernel_rfl) (by kernel_rfl) (by kernel_rfl) (by kernel_rfl)
  have h32 := @run_callFunc_extern Tryz.prog 161 _ cmpF Tryz.func161 (by kernel_rfl) (by kernel_rfl) (by kernel_rfl) (by kernel_rfl)
  have tT := isTypeOf
  have cT := isComparable
  have mR := isMethodComparable
  have nE := noIsE
  have uE := noUnwrapE
  have vE := noUnwrapsE
  have nW := noIsF
  have uW := hasUnwrapF
  have mU := methodUnwrap
  have heq := fun o => run_eql_iface_ptr_other (P := Tryz.prog) (w.alloc o) Tryz.underlying89 Tryz.underlying170 hi hcmp hj (by rw [hjs]; decide) hne ((Below.heap_alloc w o _ (block_lt ha)).trans ha) ((Below.heap_alloc w o _ (block_lt hb)).trans hb)
  have hty := fun w => run_eql_iface_types (P := Tryz.prog) 119 170 (.agg #[.string ⟨#[118, 101, 114, 115, 105, 111, 110]⟩, errV a]) (.pointer (some b)) Tryz.underlying89 (by decide) w
  go_enter Tryz.func101, Tryz.ntmps101
  go_wp2
  refine wp_loop_rounds 2 ?_
  rw [rounds_succ]
  go_wp2
  rw [rounds_succ]
  go_wp2
  go_ret
  exact ⟨rfl, by repeat (first | exact Below.refl _ _ | refine Below.alloc ?_ (by simp) _ | refine Below.drew ?_)⟩
end Go.Proofs.YtfnmohaddkoalaaGreatDoor
