/- Slices of strings among the arguments: opened as a list, handed back as they were. -/
import Derived.Test.YtfnmohaddkoalaaDoorQBuf
import Derived.Test.YtfnmohaddkoalaaDoorProg
import Derived.SliceStrings
import Derived.Carry
import Derived.WideShapes
namespace Go.Proofs.YtfnmohaddkoalaaDoor
open Go.RowKit Go.ChangeShapes Go.WideShapes

/-- Behind the slice's address, if it has one, these strings lie. -/
def StrO (w : World) (oa : Option Addr) (xs : List ByteArray) : Prop := ∀ (i : Nat) (x : ByteArray), xs[i]? = some x → ∃ ad : Addr, oa = some ad ∧ w.cell? (ad.add i) = some (.string x)
theorem cell_lt {w : World} {p : Addr} {v : Value} (h : w.cell? p = some v) : p.block < w.heap.size := by
  rcases Nat.lt_or_ge p.block w.heap.size with hlt | hge
  · exact hlt
  · unfold World.cell? at h
    rw [Array.getElem?_eq_none hge] at h; cases h
theorem StrO.down {w w' : World} {oa : Option Addr} {xs : List ByteArray} (h : StrO w oa xs) (hb : Below w.heap.size w w') : StrO w' oa xs := fun i x hx => by
  obtain ⟨ad, h1, h2⟩ := h i x hx
  exact ⟨ad, h1, (hb.cell (cell_lt h2)).trans h2⟩
set_option maxRecDepth 1000000 in
theorem laid_out : laidOutB Tryd.prog = true := by kernel_rfl
theorem cells_str : Tryd.prog.cellsOf 9 = 1 := by kernel_rfl
theorem open_strsl_gen {P : Program} {e0 : TypeId} {H : Type} {enc : TypeId × Value → H} {W : World} {r : Reach} {base : Nat} {t : TypeId} {v : Value} {d : DataW H} {ps : List MemPlace} (he : P.underlying e0 = some .string) (hce : P.cellsOf e0 = 1) (ht : P.underlying t = some (.slice e0))
    (hv : Value.okWide P W r base t v) (h : DataW.Trod enc P W 0 (fun _ => true) true t v d ps) :
    ∃ (oa : Option Addr) (xs : List ByteArray) (cap : Nat), v = .slice oa xs.length cap ∧ StrO W oa xs ∧ (∀ x ∈ xs, x.size ≤ 9223372036854775807) ∧ xs.length ≤ 9223372036854775807 := by
  obtain ⟨a0, len, cap, rfl⟩ := okWide_slice ht hv
  obtain ⟨fuel, hf⟩ := h
  rcases open_strings ht he hce hf with ⟨hcs, hx⟩ | ⟨a, len', cap', ss, hcs, _, hl, hm, hz, hx, hcell, hws⟩
  · simp [Value.cells] at hcs
    obtain ⟨rfl, rfl, rfl⟩ := hcs
    exact ⟨none, [], 0, rfl, fun i x hx => by simp at hx, fun x hx => by simp at hx, by simp⟩
  · simp [Value.cells] at hcs
    obtain ⟨rfl, rfl, rfl⟩ := hcs
    simp only [if_true] at hz
    have hlen : (ss.take len).length = len := by rw [List.length_take]; omega
    refine ⟨some a, ss.take len, cap, by rw [hlen], fun i x hx => ?_, fun x hx => ?_, ?_⟩
    · rw [List.getElem?_take] at hx
      split at hx
      · rename_i hi
        have hi' : i < ss.length := (List.getElem?_eq_some_iff.1 hx).1
        refine ⟨a, rfl, ?_⟩
        rw [hcell i hi', List.getD_eq_getElem?_getD, hx]; rfl
      · cases hx
    · have := hws x (List.mem_of_mem_take hx)
      unfold maxLen at this; exact this
    · rw [hlen]; unfold maxLen at hm; omega
/-- An argument that was only read reads as it did. -/
theorem stays {H : Type} {enc : TypeId × Value → H} {W W' : World} {t : TypeId} {v : Value} {d : DataW H} {ps : List MemPlace} {sp : Nat → Bool} (hr : Tryd.prog.readableRec t = true) (hrow : t < Tryd.prog.types.size)
    (h : DataW.Trod enc Tryd.prog W 0 (fun _ => true) true t v d ps) (hb : Below W.heap.size W W') (hlt : ∀ x ∈ ps, x.block < W.heap.size) (hs : ∀ x ∈ ps, sp x.block = true) : DataW.Trod enc Tryd.prog W' 0 sp true t v d ps :=
  WideElems.Trod_stays laid_out hr hrow h (fun x hx => hb.same (hlt x hx)) hs
end Go.Proofs.YtfnmohaddkoalaaDoor
