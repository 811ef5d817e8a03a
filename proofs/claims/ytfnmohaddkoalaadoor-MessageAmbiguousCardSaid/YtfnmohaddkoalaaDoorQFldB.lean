/- Rows of fields that a call makes, grown by append. -/
import Derived.Test.YtfnmohaddkoalaaDoorQSameF
import Derived.Test.YtfnmohaddkoalaaDoorQBuf
import Derived.Test.YtfnmohaddkoalaaDoorQBufW
import Derived.Deep.RegionLaw
import Derived.WalkSmall
namespace Go.Proofs.YtfnmohaddkoalaaDoor
open Go.RowKit

def fcells : List Fd → List Value
  | [] => []
  | x :: t => .string x.1 :: .string x.2 :: fcells t
theorem fcells_len (xs : List Fd) : (fcells xs).length = xs.length * 2 := by
  induction xs with
  | nil => rfl
  | cons x t ih => simp only [fcells, List.length_cons, ih]; omega
theorem fcells_snoc (xs : List Fd) (c : Fd) : fcells (xs ++ [c]) = fcells xs ++ [.string c.1, .string c.2] := by
  induction xs with
  | nil => rfl
  | cons x t ih => simp only [List.cons_append, fcells, ih]
theorem fcells_at : ∀ (xs : List Fd) (i : Nat) (x : Fd), xs[i]? = some x → (fcells xs)[i * 2]? = some (.string x.1) ∧ (fcells xs)[i * 2 + 1]? = some (.string x.2)
  | [], i, x, h => by simp at h
  | y :: t, 0, x, h => by
    cases h
    exact ⟨rfl, rfl⟩
  | y :: t, i + 1, x, h => by
    have := fcells_at t i x (by simpa using h)
    have e1 : (i + 1) * 2 = i * 2 + 1 + 1 := by omega
    rw [e1]
    exact this
theorem infoFld : (Tryd.prog.info? 29).map (fun i => (i.zero, i.size, i.bytes)) = some (some (.agg #[.string ByteArray.empty, .string ByteArray.empty]), 2, 32) := by kernel_rfl
/-- The slice v is a row of the call's own that holds just these fields. -/
def FBuf (w : World) (B : Nat) (v : Value) (xs : List Fd) : Prop := w.ownsRow B 29 2 v xs.length (fcells xs)
theorem FBuf.nil_ (w : World) (B : Nat) : FBuf w B (.slice none 0 0) [] := World.ownsRow_nil w B _ 2
theorem FBuf.alloc {w : World} {B : Nat} {v : Value} {xs : List Fd} (h : FBuf w B v xs) (o : Obj) : FBuf (w.alloc o) B v xs := World.ownsRow.alloc h o
theorem FBuf.below {w w' : World} {B B' : Nat} {v : Value} {xs : List Fd} (h : FBuf w B v xs) (hb : Below B' w w') (hB : w.heap.size ≤ B') : FBuf w' B v xs := by
  refine ⟨h.1, ?_⟩
  rcases h.2 with h0 | ⟨g, cap, cur, h1, h2, h3, h4⟩
  · exact .inl h0
  · have hg : g < w.heap.size := by
      rcases Nat.lt_or_ge g w.heap.size with hlt | hge
      · exact hlt
      · rw [Array.getElem?_eq_none hge] at h3; cases h3
    exact .inr ⟨g, cap, cur, h1, h2, (hb.block g (by omega)).trans h3, h4⟩
theorem FBuf.set {w : World} {B : Nat} {v : Value} {xs : List Fd} (h : FBuf w B v xs) {g j : Nat} (hg : g < B) (u : Value) : FBuf (w.setCell ⟨g, j, none⟩ u) B v xs := by
  refine ⟨h.1, ?_⟩
  rcases h.2 with h0 | ⟨g', cap, cur, h1, h2, h3, h4⟩
  · exact .inl h0
  · refine .inr ⟨g', cap, cur, h1, h2, ?_, h4⟩
    rw [← h3]
    exact Below.heap_setCell w ⟨g, j, none⟩ u g' (by show g' ≠ g; omega)
theorem FBuf.shape {w : World} {B : Nat} {v : Value} {xs : List Fd} (h : FBuf w B v xs) : ∃ oa cap, v = .slice oa xs.length cap ∧ FldO w oa xs := by
  rcases h.2 with ⟨rfl, h0⟩ | ⟨g, cap, cur, rfl, h2, h3, h4, h5⟩
  · obtain rfl : xs = [] := List.length_eq_zero_iff.1 h0
    exact ⟨none, 0, rfl, FldO.nil_ _ _⟩
  · refine ⟨_, _, rfl, fun i x hx => ⟨_, rfl, ?_, ?_⟩⟩
    · exact World.ownsRow.cells h (g := g) rfl (i * 2) _ (fcells_at xs i x hx).1
    · exact World.ownsRow.cells h (g := g) rfl (i * 2 + 1) _ (fcells_at xs i x hx).2
theorem FBuf.fld {w : World} {B : Nat} {oa : Option Addr} {n cap : Nat} {xs : List Fd} (h : FBuf w B (.slice oa n cap) xs) : FldO w oa xs := by
  obtain ⟨oa', cap', e, h'⟩ := h.shape
  cases e; exact h'
theorem FBuf.others {w w' : World} {B : Nat} {v : Value} {xs : List Fd} (h : FBuf w B v xs) {b : Nat} (hb : b < B) (f : ∀ k, k ≠ b → w'.heap[k]? = w.heap[k]?) : FBuf w' B v xs := by
  refine ⟨h.1, ?_⟩
  rcases h.2 with h0 | ⟨g, cap, cur, h1, h2, h3, h4⟩
  · exact .inl h0
  · exact .inr ⟨g, cap, cur, h1, h2, (f g (by omega)).trans h3, h4⟩
theorem new_f0 (w : World) (x : Fd) (t : TypeId) : (w.alloc (.cells #[.string x.1, .string x.2] t)).cell? ((⟨w.heap.size, 0, none⟩ : Addr).add 0) = some (.string x.1) := (RowAt.new w [.string x.1, .string x.2] t).cell 0 rfl
theorem new_f1 (w : World) (x : Fd) (t : TypeId) : (w.alloc (.cells #[.string x.1, .string x.2] t)).cell? ((⟨w.heap.size, 0, none⟩ : Addr).add 1) = some (.string x.2) := (RowAt.new w [.string x.1, .string x.2] t).cell 1 rfl
theorem FBuf.lower {w : World} {B B' : Nat} {v : Value} {xs : List Fd} (h : FBuf w B v xs) (hB : B' ≤ B) : FBuf w B' v xs := by
  refine ⟨h.1, ?_⟩
  rcases h.2 with h0 | ⟨g, cap, cur, h1, h2, h3, h4⟩
  · exact .inl h0
  · exact .inr ⟨g, cap, cur, h1, by omega, h3, h4⟩
theorem FBuf.one {w : World} {B : Nat} {v : Value} {xs : List Fd} (h : FBuf w B v xs) : v.oneCell' = true := by
  obtain ⟨oa, cap, rfl, _⟩ := h.shape
  rfl
theorem wpList_append_fld {ops : Array Oper} {rest : List Oper} {o : Oper} {a : Act} {Q : Exit → Act → World → Prop} (hgd : o.guard = none) (s x : Operand)
    (ho : o.op = .call { callee := .builtin .append, args := #[s, x], argTypes := #[38, 38] })
    (w0 w : World) (B : Nat) (v : Value) (xs : List Fd) (hs : a.eval s = v) (hown : FBuf w B v xs) (hb : Below B w0 w) (hB : B ≤ w.heap.size)
    (ad : Addr) (c : Fd) (hx : a.eval x = .slice (some ad) 1 1) (hc0 : w.cell? (ad.add 0) = some (.string c.1)) (hc1 : w.cell? (ad.add 1) = some (.string c.2)) (hl : xs.length + 1 ≤ 1000000)
    (h : ∀ v' w', FBuf w' B v' (xs ++ [c]) → Below B w0 w' → B ≤ w'.heap.size → wpList Tryd.prog ops Q rest (a.put o.dst v') w') : wpList Tryd.prog ops Q (o :: rest) a w := by
  obtain ⟨i, hi, hz0, hz1, hz2⟩ := info_parts infoFld
  refine wpList_append_own w hgd s x 38 ho B 29 i (.agg #[.string ByteArray.empty, .string ByteArray.empty]) 2 32 Tryd.underlying38 hi hz0 hz1 hz2 rfl (by decide) v xs.length _ hs hown ad 1 1 [.string c.1, .string c.2] hx rfl ?_ ?_ (by unfold maxLen; omega) (by omega) hB ?_
  · intro j u hj
    rcases j with _ | _ | j
    · simp at hj; subst hj; exact hc0
    · simp at hj; subst hj; exact hc1
    · simp at hj
  · intro u hu
    simp at hu
    rcases hu with rfl | rfl <;> rfl
  · intro v' w' hown' hg _
    refine h v' w' ?_ (hb.grown hg hB (fun j hj => (World.ownsRow.lt hown j hj).1)) (Nat.le_trans hB hg.size)
    unfold FBuf
    rw [fcells_snoc, List.length_append]
    exact hown'
/-- A slice of strings written out in the text. -/
theorem StrO.new (w : World) (xs : List ByteArray) : StrO (w.alloc (.cells (xs.map Value.string).toArray 9)) (some ⟨w.heap.size, 0, none⟩) xs := fun i x hx => by
  refine ⟨_, rfl, ?_⟩
  have h := (RowAt.new w (xs.map Value.string) 9).cell i (v := .string x) (by rw [List.getElem?_map, hx]; rfl)
  have ea : (⟨w.heap.size, 0, none⟩ : Addr).add i = ⟨w.heap.size, i, none⟩ := by unfold Addr.add; by_cases h0 : i = 0 <;> simp [h0]
  rw [ea]; exact h
end Go.Proofs.YtfnmohaddkoalaaDoor
