/- The walks of keep.Response and ref.SameFields, keep.SameResponse. -/
import Derived.Test.YtfnmohaddkoalaaDoorQKeepF
import Derived.Test.YtfnmohaddkoalaaDoorQRowW
import Derived.Laws.StructEq
import Derived.Deep.QuietTactic
import Derived.BigQuiet
namespace Go.Proofs.YtfnmohaddkoalaaDoor
open Go.RowKit

theorem step_b {w w1 w2 : World} (h : Below w.heap.size w w1) (h' : Below w1.heap.size w1 w2) : Below w.heap.size w w2 := h.trans (h'.mono h.size)
theorem alloc_b (w : World) (o : Obj) : Below w.heap.size w (w.alloc o) := (Below.refl _ _).alloc (Nat.le_refl _) _
/-- A response's cells. -/
abbrev respC (m st : Int) (rs : ByteArray) (oa : Option Addr) (n cap : Nat) (bd : ByteArray) : List Value := [.int .i64 m, .int .i64 st, .string rs, .slice oa n cap, .string bd]
abbrev respV (m st : Int) (rs : ByteArray) (oa : Option Addr) (n cap : Nat) (bd : ByteArray) : Value := .agg #[.int .i64 m, .int .i64 st, .string rs, .slice oa n cap, .string bd]
def keepRB (rs bd : ByteArray) (xs : List Fd) : Bool := decide (rs.size ≤ 2100) && fieldsB xs && decide (bd.size ≤ 2000)
/-- One field's struct, loaded. -/
theorem run_load_fd {w : World} {oa : Option Addr} {xs : List Fd} (h : FldO w oa xs) {i : Nat} {x : Fd} (hx : xs[i]? = some x) : ∃ ad : Addr, oa = some ad ∧ w.cell? (ad.add (i * 2)) = some (.string x.1) ∧ w.cell? ⟨(ad.add (i * 2)).block, (ad.add (i * 2)).off + 1, none⟩ = some (.string x.2) := h.at hx
end Go.Proofs.YtfnmohaddkoalaaDoor
