/- errors.Is at the errors of layer 2 (a part of a line, and the kind of the error), and what the listed variables give its walks. -/
import Derived.Test.YtfnmohaddkoalaaDoorChecked
import Derived.Test.YtfnmohaddkoalaaDoorShelf
import Derived.Test.YtfnmohaddkoalaaDoorQPost
import Derived.WalkKit
import Derived.WalkSpells
import Derived.WalkLawsBesides
import Derived.LaidEql
import Derived.Stop.Asserts
import Derived.Stop.LaidTwo
import Derived.RowKitTokens
import Derived.WalkSmall
namespace Go.Proofs.YtfnmohaddkoalaaDoor
open Go.RowKit Go.Extern.Stop Go.Stop Go.Extern

theorem isTypeOf (v : Value) (w : World) : (Extern.ReflectliteType.typeOf #[.iface 146 v]).run Tryd.prog w = .ok (.iface 132 (.agg #[.pointer (some ⟨8, 146, none⟩)])) w := by kernel_rfl
def cmpF : Array Value → Sem Value := Extern.ReflectliteType.method fun t => do Extern.Rtype.noPackHeld "Comparable" t; pure (.bool (← typeInfo t).comparable)
theorem isComparable (w : World) : (cmpF #[.agg #[.pointer (some ⟨8, 146, none⟩)]]).run Tryd.prog w = .ok (.bool true) w := by kernel_rfl
theorem isMethodComparable (v : Value) (w : World) : (Go.method 279 132 v "Comparable").run Tryd.prog w = .ok (134, v) w := by kernel_rfl
theorem isComp : (Tryd.prog.info? 146).map (·.comparable) = some true := by kernel_rfl
theorem isSize : (Tryd.prog.info? 168).map (·.size) = some 1 := by kernel_rfl
theorem noIsE (v : Value) (xT : TypeId) (w : World) : (Instr.typeAssert (.iface 146 v) xT 134 true).run Tryd.prog w = .ok (.tuple #[.nilIface, .bool false]) w := run_typeAssert_lacksB Tryd.underlying134 (by kernel_rfl) (by kernel_rfl) v xT w
theorem noUnwrapE (v : Value) (xT : TypeId) (w : World) : (Instr.typeAssert (.iface 146 v) xT 137 true).run Tryd.prog w = .ok (.tuple #[.nilIface, .bool false]) w := run_typeAssert_lacksB Tryd.underlying137 (by kernel_rfl) (by kernel_rfl) v xT w
theorem noUnwrapsE (v : Value) (xT : TypeId) (w : World) : (Instr.typeAssert (.iface 146 v) xT 139 true).run Tryd.prog w = .ok (.tuple #[.nilIface, .bool false]) w := run_typeAssert_lacksB Tryd.underlying139 (by kernel_rfl) (by kernel_rfl) v xT w
theorem noIsF (v : Value) (xT : TypeId) (w : World) : (Instr.typeAssert (.iface 115 v) xT 134 true).run Tryd.prog w = .ok (.tuple #[.nilIface, .bool false]) w := run_typeAssert_lacksB Tryd.underlying134 (by kernel_rfl) (by kernel_rfl) v xT w
theorem hasUnwrapF (v : Value) (xT : TypeId) (w : World) : (Instr.typeAssert (.iface 115 v) xT 137 true).run Tryd.prog w = .ok (.tuple #[.iface 115 v, .bool true]) w := run_typeAssert_hasB Tryd.underlying137 (by kernel_rfl) v xT w
theorem methodUnwrap (v : Value) (w : World) : (Go.method 279 115 v "Unwrap").run Tryd.prog w = .ok (130, v) w := by kernel_rfl

theorem block_lt {w : World} {g : Nat} {o : Obj} (h : w.heap[g]? = some o) : g < w.heap.size := by
  rcases Nat.lt_or_ge g w.heap.size with h' | h'
  · exact h'
  · rw [Array.getElem?_eq_none h'] at h; cases h
/-- An error of errors.New's make, and the error of a part of a line. -/
abbrev errV (a : Addr) : Value := .iface 146 (.pointer (some a))
abbrev faultV (a : Addr) : Value := .iface 115 (.agg #[.string ⟨#[118, 101, 114, 115, 105, 111, 110]⟩, errV a])
set_option maxRecDepth 100000 in
set_option maxHeartbeats 800000 in
theorem is_same (b : Addr) (w : World) :
    Calls Tryd.prog 95 #[faultV b, errV b] w fun e w' => e = .returned (.bool true) ∧ Below w.heap.size w w' := by
  obtain ⟨i, hi, hcmp⟩ := Option.map_eq_some_iff.1 isComp
  obtain ⟨j, hj, hjs⟩ := Option.map_eq_some_iff.1 isSize
  have h8 := @run_callFunc_extern Tryd.prog 105 _ Extern.ReflectliteType.typeOf Tryd.func105 (by kernel_rfl) (by kernel_rfl) (by kernel_rfl) (by kernel_rfl)
  have h32 := @run_callFunc_extern Tryd.prog 134 _ cmpF Tryd.func134 (by kernel_rfl) (by kernel_rfl) (by kernel_rfl) (by kernel_rfl)
  have tT := isTypeOf
  have cT := isComparable
  have mR := isMethodComparable
  have nE := noIsE
  have uE := noUnwrapE
  have vE := noUnwrapsE
  have nW := noIsF
  have uW := hasUnwrapF
  have mU := methodUnwrap
  have heq := fun w => run_eql_iface_ptr_same (P := Tryd.prog) w b Tryd.underlying56 Tryd.underlying146 hi hcmp hj
  have hty := fun w => run_eql_iface_types (P := Tryd.prog) 115 146 (.agg #[.string ⟨#[118, 101, 114, 115, 105, 111, 110]⟩, errV b]) (.pointer (some b)) Tryd.underlying56 (by decide) w
  go_enter Tryd.func95, Tryd.ntmps95
  go_wp2
  refine wp_loop_rounds 2 ?_
  rw [rounds_succ]
  go_wp2
  rw [rounds_succ]
  go_wp2
  go_ret
  exact ⟨rfl, by repeat (first | exact Below.refl _ _ | refine Below.alloc ?_ (by simp) _ | refine Below.drew ?_)⟩
set_option maxRecDepth 100000 in
set_option maxHeartbeats 800000 in
theorem is_other (a b : Addr) (w : World) (hne : a ≠ b) (ha : ∃ ca ta, w.heap[a.block]? = some (.cells ca ta (0, 0))) (hb : ∃ cb tb, w.heap[b.block]? = some (.cells cb tb (0, 0))) :
    Calls Tryd.prog 95 #[faultV a, errV b] w fun e w' => e = .returned (.bool false) ∧ Below w.heap.size w w' := by
  obtain ⟨ca, ta, ha⟩ := ha
  obtain ⟨cb, tb, hb⟩ := hb
  obtain ⟨i, hi, hcmp⟩ := Option.map_eq_some_iff.1 isComp
  obtain ⟨j, hj, hjs⟩ := Option.map_eq_some_iff.1 isSize
  have h8 := @run_callFunc_extern Tryd.prog 105 _ Extern.ReflectliteType.typeOf Tryd.func105 (by kernel_rfl) (by kernel_rfl) (by kernel_rfl) (by kernel_rfl)
  have h32 := @run_callFunc_extern Tryd.prog 134 _ cmpF Tryd.func134 (by kernel_rfl) (by kernel_rfl) (by kernel_rfl) (by kernel_rfl)
  have tT := isTypeOf
  have cT := isComparable
  have mR := isMethodComparable
  have nE := noIsE
  have uE := noUnwrapE
  have vE := noUnwrapsE
  have nW := noIsF
  have uW := hasUnwrapF
  have mU := methodUnwrap
  have heq := fun o => run_eql_iface_ptr_other (P := Tryd.prog) (w.alloc o) Tryd.underlying56 Tryd.underlying146 hi hcmp hj (by rw [hjs]; decide) hne ((Below.heap_alloc w o _ (block_lt ha)).trans ha) ((Below.heap_alloc w o _ (block_lt hb)).trans hb)
  have hty := fun w => run_eql_iface_types (P := Tryd.prog) 115 146 (.agg #[.string ⟨#[118, 101, 114, 115, 105, 111, 110]⟩, errV a]) (.pointer (some b)) Tryd.underlying56 (by decide) w
  go_enter Tryd.func95, Tryd.ntmps95
  go_wp2
  refine wp_loop_rounds 2 ?_
  rw [rounds_succ]
  go_wp2
  rw [rounds_succ]
  go_wp2
  go_ret
  exact ⟨rfl, by repeat (first | exact Below.refl _ _ | refine Below.alloc ?_ (by simp) _ | refine Below.drew ?_)⟩
end Go.Proofs.YtfnmohaddkoalaaDoor
