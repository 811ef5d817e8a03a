/- What the walks want of the package variables and of worlds: strings.Cut at a byte, the greatest length of a search. -/
import Derived.Test.YtfnmohaddkoalaaGreatDoorQPre
import Derived.Test.YtfnmohaddkoalaaGreatDoorShelf
namespace Go.Proofs.YtfnmohaddkoalaaGreatDoor
open Go.RowKit

theorem below_step {w w1 w2 : World} (h : Below w.heap.size w w1) (h' : Below w1.heap.size w1 w2) : Below w.heap.size w w2 := h.trans (h'.mono h.size)
theorem below_draws (w : World) (n : Nat) : Below w.heap.size w (w.drewN n) := below_drewN (Below.refl _ _) n
theorem below_alloc (w : World) (o : Obj) : Below w.heap.size w (w.alloc o) := (Below.refl _ _).alloc (Nat.le_refl _) _
def MaxOf (w : World) : Prop := ∃ m, w.cell? ⟨2, 0, none⟩ = some (.int .i64 m)
theorem max_of_shape {W : World} (h : W.ShapedOpen Tryz.prog) : MaxOf W := Tryz.laysM145.s1_3 W h
theorem MaxOf.lt {w : World} (h : MaxOf w) : 2 < w.heap.size := by
  obtain ⟨m, hm⟩ := h
  rcases Nat.lt_or_ge 2 w.heap.size with hlt | hge
  · exact hlt
  · unfold World.cell? at hm
    rw [Array.getElem?_eq_none hge] at hm; cases hm
theorem MaxOf.below {w w' : World} (h : MaxOf w) (hb : Below w.heap.size w w') : MaxOf w' := by
  have hl := h.lt
  obtain ⟨m, hm⟩ := h
  exact ⟨m, (hb.cell (p := ⟨2, 0, none⟩) hl).trans hm⟩
/-- strings.Cut at one byte. -/
theorem cut_any (s : ByteArray) (c : UInt8) (w : World) (hs : s.size < 4294967281) (hm : MaxOf w) :
    Calls Tryz.prog 71 #[.string s, .string ⟨#[c]⟩] w fun e w' => e = .returned (.tuple #[.string ⟨(cutB c (bs s)).1.toArray⟩, .string ⟨(cutB c (bs s)).2.1.toArray⟩, .bool (cutB c (bs s)).2.2]) ∧ Below w.heap.size w w' :=
  (Tryz.strings_Cut s ⟨#[c]⟩ hm.choose w hs hm.choose_spec).mono fun e w' ⟨he, n, hw⟩ => ⟨by rw [he]; show _ = Ending.returned (Value.tuple #[.string ⟨(cutB c s.data.toList).1.toArray⟩, _, _]); rw [← cut_one], by rw [hw]; exact below_draws w n⟩
end Go.Proofs.YtfnmohaddkoalaaGreatDoor
