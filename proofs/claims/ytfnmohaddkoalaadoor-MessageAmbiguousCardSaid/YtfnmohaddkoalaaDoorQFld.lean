/- Lists of fields among the arguments: opened as lists of pairs of strings. -/
import Derived.Test.YtfnmohaddkoalaaDoorQStrs
import Derived.Deep.SlicePairs
import Derived.Lib.SmallJoins
namespace Go.Proofs.YtfnmohaddkoalaaDoor
open Go.RowKit Go.ChangeShapes Go.WideShapes Go.Deep Go.Joins

abbrev Fd := ByteArray × ByteArray
/-- Behind the slice's address, if it has one, these fields lie. -/
def FldO (w : World) (oa : Option Addr) (xs : List Fd) : Prop := ∀ (i : Nat) (x : Fd), xs[i]? = some x → ∃ ad : Addr, oa = some ad ∧ w.cell? (ad.add (i * 2)) = some (.string x.1) ∧ w.cell? (ad.add (i * 2 + 1)) = some (.string x.2)
theorem FldO.down {w w' : World} {oa : Option Addr} {xs : List Fd} (h : FldO w oa xs) (hb : Below w.heap.size w w') : FldO w' oa xs := fun i x hx => by
  obtain ⟨ad, h1, h2, h3⟩ := h i x hx
  exact ⟨ad, h1, (hb.cell (cell_lt h2)).trans h2, (hb.cell (cell_lt h3)).trans h3⟩
theorem add_next (ad : Addr) (n : Nat) : (⟨(ad.add n).block, (ad.add n).off + 1, none⟩ : Addr) = ad.add (n + 1) := by
  unfold Addr.add
  by_cases h : n = 0 <;> simp [h, Nat.add_assoc]
/-- The two cells of a field, as the walks write their addresses. -/
theorem FldO.at {w : World} {oa : Option Addr} {xs : List Fd} (h : FldO w oa xs) {i : Nat} {x : Fd} (hx : xs[i]? = some x) : ∃ ad : Addr, oa = some ad ∧ w.cell? (ad.add (i * 2)) = some (.string x.1) ∧ w.cell? ⟨(ad.add (i * 2)).block, (ad.add (i * 2)).off + 1, none⟩ = some (.string x.2) := by
  obtain ⟨ad, h1, h2, h3⟩ := h i x hx
  exact ⟨ad, h1, h2, by rw [add_next]; exact h3⟩
theorem FldO.nil_ (w : World) (oa : Option Addr) : FldO w oa [] := fun i x hx => by simp at hx
def FldZ (xs : List Fd) (n : Nat) : Prop := ∀ x ∈ xs, x.1.size ≤ n ∧ x.2.size ≤ n
/-- The cell of a list of fields, opened. -/
theorem open_fld {H : Type} {enc : TypeId × Value → H} {W : World} {v : Value} {n : Nat} {y : DataW H × List MemPlace}
    (h : DataW.trod enc Tryd.prog W 0 (fun _ => true) true n 38 [v] = some y) :
    ∃ (oa : Option Addr) (xs : List Fd) (cap : Nat), v = .slice oa xs.length cap ∧ FldO W oa xs ∧ FldZ xs 9223372036854775807 ∧ xs.length ≤ 9223372036854775807 := by
  rcases open_slice_pairs Tryd.underlying38 Tryd.underlying29 (by kernel_rfl) rfl rfl (by kernel_rfl) (by kernel_rfl) h with ⟨hcs, _⟩ | ⟨a, len, cap, m, n', V0, V1, D0, D1, P0, P1, hcs, _, hl, hm, hmm, _, hi⟩
  · cases hcs
    exact ⟨none, [], 0, rfl, FldO.nil_ _ _, fun x hx => by simp at hx, by simp⟩
  · cases hcs
    simp only [if_true] at hmm
    have each : ∀ i, i < m → ∃ q : Fd, W.cell? (a.add (i * 2)) = some (.string q.1) ∧ W.cell? (a.add (i * 2 + 1)) = some (.string q.2) ∧ q.1.size ≤ maxLen ∧ q.2.size ≤ maxLen := by
      intro i him
      obtain ⟨c0, c1, t0, t1⟩ := hi i him
      obtain ⟨s0, e0, _, z0⟩ := DataW.trod_string Tryd.underlying9 t0
      obtain ⟨s1, e1, _, z1⟩ := DataW.trod_string Tryd.underlying9 t1
      have f0 : V0 i = .string s0 := (List.cons.inj e0).1
      have f1 : V1 i = .string s1 := (List.cons.inj e1).1
      exact ⟨(s0, s1), by rw [c0, f0], by rw [c1, f1], z0, z1⟩
    obtain ⟨q, hq⟩ := choose_lt each
    refine ⟨some a, (List.range len).map q, cap, by simp, fun i x hx => ?_, fun x hx => ?_, ?_⟩
    · rw [List.getElem?_map] at hx
      cases hr : (List.range len)[i]? with
      | none => rw [hr] at hx; cases hx
      | some j =>
        rw [hr] at hx
        obtain ⟨hil, hj⟩ := List.getElem?_eq_some_iff.1 hr
        rw [List.length_range] at hil
        rw [List.getElem_range] at hj
        subst hj
        cases hx
        have := hq i (by omega)
        exact ⟨a, rfl, this.1, this.2.1⟩
    · obtain ⟨i, hi', rfl⟩ := List.mem_map.1 hx
      have := hq i (by have := List.mem_range.1 hi'; omega)
      unfold maxLen at this
      exact ⟨this.2.2.1, this.2.2.2⟩
    · rw [List.length_map, List.length_range]; unfold maxLen at hm; omega
end Go.Proofs.YtfnmohaddkoalaaDoor
