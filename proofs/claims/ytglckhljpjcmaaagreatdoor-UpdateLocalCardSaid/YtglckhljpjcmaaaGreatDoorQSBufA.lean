/- Rows of strings: append(own, list...), own[:m]. -/
import Derived.Test.YtglckhljpjcmaaaGreatDoorQPre
import Derived.Test.YtglckhljpjcmaaaGreatDoorQFldA
namespace Go.Proofs.YtglckhljpjcmaaaGreatDoor
open Go.RowKit

theorem wpList_append_strs {ops : Array Oper} {rest : List Oper} {o : Oper} {a : Act} {Q : Exit → Act → World → Prop} (hgd : o.guard = none) (s x : Operand)
    (ho : o.op = .call { callee := .builtin .append, args := #[s, x], argTypes := #[29, 29] })
    (w0 w : World) (B : Nat) (v : Value) (xs : List ByteArray) (hs : a.eval s = v) (hown : SBuf w B v xs) (hb : Below B w0 w) (hB : B ≤ w.heap.size)
    (oa : Option Addr) (ys : List ByteArray) (cap : Nat) (hx : a.eval x = .slice oa ys.length cap) (hy : StrO w oa ys) (hl : xs.length + ys.length ≤ 1000000)
    (h : ∀ v' w', SBuf w' B v' (xs ++ ys) → Below B w0 w' → B ≤ w'.heap.size → wpList Tryz.prog ops Q rest (a.put o.dst v') w') : wpList Tryz.prog ops Q (o :: rest) a w := by
  obtain ⟨i, hi, hz0, hz1, hz2⟩ := info_parts infoStr
  cases oa with
  | none =>
    have e0 : ys = [] := by
      cases ys with
      | nil => rfl
      | cons y t =>
        obtain ⟨ad, h', _⟩ := hy 0 y rfl
        cases h'
    subst e0
    refine wpList_append_none_any hgd s x _ ho B 9 i 1 Tryz.underlying29 hi v xs.length _ cap hs hown hx ?_
    exact h v w (by rw [List.append_nil]; exact hown) hb hB
  | some ad =>
    refine wpList_append_own w hgd s x 29 ho B 9 i (.string ByteArray.empty) 1 16 Tryz.underlying29 hi hz0 hz1 hz2 rfl (by decide) v xs.length _ hs hown ad ys.length cap (ys.map Value.string) hx (by simp) ?_ ?_ (by unfold maxLen; omega) (by omega) hB ?_
    · intro j u hj
      rw [List.getElem?_map] at hj
      cases hq : ys[j]? with
      | none => rw [hq] at hj; cases hj
      | some y =>
        rw [hq] at hj
        cases hj
        obtain ⟨ad', e', c0⟩ := hy j y hq
        cases e'
        exact c0
    · intro u hu
      obtain ⟨y, _, rfl⟩ := List.mem_map.1 hu
      rfl
    · intro v' w' hown' hg _
      refine h v' w' ?_ (hb.grown hg hB (fun j hj => (World.ownsRow.lt hown j hj).1)) (Nat.le_trans hB hg.size)
      unfold SBuf
      rw [List.map_append, List.length_append]
      exact hown'
/-- own[:m]. -/
theorem SBuf.cut {w : World} {B : Nat} {v : Value} {xs : List ByteArray} (h : SBuf w B v xs) (m : Nat) (hm : m ≤ xs.length) :
    ∃ oa cap, (∀ wx, (Instr.slice 29 v none (some (.int .i64 (m : Int))) none).run Tryz.prog wx = .ok (.slice oa m cap) wx) ∧ StrO w oa (xs.take m) := by
  rcases h.2 with ⟨rfl, h0⟩ | ⟨g, cap, cur, rfl, h2, h3, h4, h5⟩
  · have : xs = [] := List.length_eq_zero_iff.1 h0
    subst this
    obtain rfl : m = 0 := by simpa using hm
    exact ⟨none, 0, fun wx => by kernel_rfl, fun i x hx => by simp at hx⟩
  · refine ⟨some ⟨g, 0, none⟩, cap, fun wx => ?_, fun i x hx => ?_⟩
    · have hs : (sizeOf (Tryz.prog.elem 29)).run Tryz.prog wx = .ok 1 wx := by kernel_rfl
      rw [run_slice_h (P := Tryz.prog) wx 29 (some ⟨g, 0, none⟩) xs.length cap (by kernel_rfl) .i64 (m : Int) (by omega) (by omega), hs]
      simp [Result.andThen, sliced, Addr.add]
    · rw [List.getElem?_take] at hx
      split at hx
      · exact ⟨_, rfl, World.ownsRow.cells h (g := g) rfl i (.string x) (by simp [hx])⟩
      · cases hx
end Go.Proofs.YtglckhljpjcmaaaGreatDoor
