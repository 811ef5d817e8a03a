/- Rows of entity tags that a call makes, grown by append. -/
import Derived.Test.YtlcchcbeebakpaaDoorEtagX
import Derived.Test.YtlcchcbeebakpaaDoorRFld
namespace Go.Proofs.YtlcchcbeebakpaaDoor
open Go.RowKit Go.Shelf

abbrev Tg := Bool × ByteArray
/-- Behind the slice's address, if it has one, these tags lie. -/
def TagO (w : World) (oa : Option Addr) (xs : List Tg) : Prop := ∀ (i : Nat) (x : Tg), xs[i]? = some x → ∃ ad : Addr, oa = some ad ∧ w.cell? (ad.add (i * 2)) = some (.bool x.1) ∧ w.cell? (ad.add (i * 2 + 1)) = some (.string x.2)
theorem TagO.down {w w' : World} {oa : Option Addr} {xs : List Tg} (h : TagO w oa xs) (hb : Below w.heap.size w w') : TagO w' oa xs := fun i x hx => by
  obtain ⟨ad, h1, h2, h3⟩ := h i x hx
  exact ⟨ad, h1, (hb.cell (cell_lt h2)).trans h2, (hb.cell (cell_lt h3)).trans h3⟩
theorem TagO.at {w : World} {oa : Option Addr} {xs : List Tg} (h : TagO w oa xs) {i : Nat} {x : Tg} (hx : xs[i]? = some x) : ∃ ad : Addr, oa = some ad ∧ w.cell? (ad.add (i * 2)) = some (.bool x.1) ∧ w.cell? ⟨(ad.add (i * 2)).block, (ad.add (i * 2)).off + 1, none⟩ = some (.string x.2) := by
  obtain ⟨ad, h1, h2, h3⟩ := h i x hx
  exact ⟨ad, h1, h2, by rw [add_next]; exact h3⟩
theorem TagO.nil_ (w : World) (oa : Option Addr) : TagO w oa [] := fun i x hx => by simp at hx
def tcells : List Tg → List Value
  | [] => []
  | x :: t => .bool x.1 :: .string x.2 :: tcells t
theorem tcells_len (xs : List Tg) : (tcells xs).length = xs.length * 2 := by
  induction xs with
  | nil => rfl
  | cons x t ih => simp only [tcells, List.length_cons, ih]; omega
theorem tcells_snoc (xs : List Tg) (c : Tg) : tcells (xs ++ [c]) = tcells xs ++ [.bool c.1, .string c.2] := by
  induction xs with
  | nil => rfl
  | cons x t ih => simp only [List.cons_append, tcells, ih]
theorem tcells_at : ∀ (xs : List Tg) (i : Nat) (x : Tg), xs[i]? = some x → (tcells xs)[i * 2]? = some (.bool x.1) ∧ (tcells xs)[i * 2 + 1]? = some (.string x.2)
  | [], i, x, h => by simp at h
  | y :: t, 0, x, h => by
    cases h
    exact ⟨rfl, rfl⟩
  | y :: t, i + 1, x, h => by
    have := tcells_at t i x (by simpa using h)
    have e1 : (i + 1) * 2 = i * 2 + 1 + 1 := by omega
    rw [e1]
    exact this
theorem infoTag : (Tryd.prog.info? 77).map (fun i => (i.zero, i.size, i.bytes)) = some (some (.agg #[.bool false, .string ByteArray.empty]), 2, 24) := by kernel_rfl
/-- The slice v is a row of the call's own that holds just these fields. -/
def TBuf (w : World) (B : Nat) (v : Value) (xs : List Tg) : Prop := w.ownsRow B 77 2 v xs.length (tcells xs)
theorem TBuf.nil_ (w : World) (B : Nat) : TBuf w B (.slice none 0 0) [] := World.ownsRow_nil w B _ 2
theorem TBuf.alloc {w : World} {B : Nat} {v : Value} {xs : List Tg} (h : TBuf w B v xs) (o : Obj) : TBuf (w.alloc o) B v xs := World.ownsRow.alloc h o
theorem TBuf.below {w w' : World} {B B' : Nat} {v : Value} {xs : List Tg} (h : TBuf w B v xs) (hb : Below B' w w') (hB : w.heap.size ≤ B') : TBuf w' B v xs := by
  refine ⟨h.1, ?_⟩
  rcases h.2 with h0 | ⟨g, cap, cur, h1, h2, h3, h4⟩
  · exact .inl h0
  · have hg : g < w.heap.size := by
      rcases Nat.lt_or_ge g w.heap.size with hlt | hge
      · exact hlt
      · rw [Array.getElem?_eq_none hge] at h3; cases h3
    exact .inr ⟨g, cap, cur, h1, h2, (hb.block g (by omega)).trans h3, h4⟩
theorem TBuf.set {w : World} {B : Nat} {v : Value} {xs : List Tg} (h : TBuf w B v xs) {g j : Nat} (hg : g < B) (u : Value) : TBuf (w.setCell ⟨g, j, none⟩ u) B v xs := by
  refine ⟨h.1, ?_⟩
  rcases h.2 with h0 | ⟨g', cap, cur, h1, h2, h3, h4⟩
  · exact .inl h0
  · refine .inr ⟨g', cap, cur, h1, h2, ?_, h4⟩
    rw [← h3]
    exact Below.heap_setCell w ⟨g, j, none⟩ u g' (by show g' ≠ g; omega)
theorem TBuf.shape {w : World} {B : Nat} {v : Value} {xs : List Tg} (h : TBuf w B v xs) : ∃ oa cap, v = .slice oa xs.length cap ∧ TagO w oa xs := by
  rcases h.2 with ⟨rfl, h0⟩ | ⟨g, cap, cur, rfl, h2, h3, h4, h5⟩
  · obtain rfl : xs = [] := List.length_eq_zero_iff.1 h0
    exact ⟨none, 0, rfl, TagO.nil_ _ _⟩
  · refine ⟨_, _, rfl, fun i x hx => ⟨_, rfl, ?_, ?_⟩⟩
    · exact World.ownsRow.cells h (g := g) rfl (i * 2) _ (tcells_at xs i x hx).1
    · exact World.ownsRow.cells h (g := g) rfl (i * 2 + 1) _ (tcells_at xs i x hx).2
theorem TBuf.fld {w : World} {B : Nat} {oa : Option Addr} {n cap : Nat} {xs : List Tg} (h : TBuf w B (.slice oa n cap) xs) : TagO w oa xs := by
  obtain ⟨oa', cap', e, h'⟩ := h.shape
  cases e; exact h'
theorem TBuf.others {w w' : World} {B : Nat} {v : Value} {xs : List Tg} (h : TBuf w B v xs) {b : Nat} (hb : b < B) (f : ∀ k, k ≠ b → w'.heap[k]? = w.heap[k]?) : TBuf w' B v xs := by
  refine ⟨h.1, ?_⟩
  rcases h.2 with h0 | ⟨g, cap, cur, h1, h2, h3, h4⟩
  · exact .inl h0
  · exact .inr ⟨g, cap, cur, h1, h2, (f g (by omega)).trans h3, h4⟩
theorem new_t0 (w : World) (x : Tg) (t : TypeId) : (w.alloc (.cells #[.bool x.1, .string x.2] t)).cell? ((⟨w.heap.size, 0, none⟩ : Addr).add 0) = some (.bool x.1) := (RowAt.new w [.bool x.1, .string x.2] t).cell 0 rfl
theorem new_t1 (w : World) (x : Tg) (t : TypeId) : (w.alloc (.cells #[.bool x.1, .string x.2] t)).cell? ((⟨w.heap.size, 0, none⟩ : Addr).add 1) = some (.string x.2) := (RowAt.new w [.bool x.1, .string x.2] t).cell 1 rfl
theorem TBuf.lower {w : World} {B B' : Nat} {v : Value} {xs : List Tg} (h : TBuf w B v xs) (hB : B' ≤ B) : TBuf w B' v xs := by
  refine ⟨h.1, ?_⟩
  rcases h.2 with h0 | ⟨g, cap, cur, h1, h2, h3, h4⟩
  · exact .inl h0
  · exact .inr ⟨g, cap, cur, h1, by omega, h3, h4⟩
theorem TBuf.one {w : World} {B : Nat} {v : Value} {xs : List Tg} (h : TBuf w B v xs) : v.oneCell' = true := by
  obtain ⟨oa, cap, rfl, _⟩ := h.shape
  rfl
theorem wpList_append_tag {ops : Array Oper} {rest : List Oper} {o : Oper} {a : Act} {Q : Exit → Act → World → Prop} (hgd : o.guard = none) (s x : Operand)
    (ho : o.op = .call { callee := .builtin .append, args := #[s, x], argTypes := #[85, 85] })
    (w0 w : World) (B : Nat) (v : Value) (xs : List Tg) (hs : a.eval s = v) (hown : TBuf w B v xs) (hb : Below B w0 w) (hB : B ≤ w.heap.size)
    (ad : Addr) (c : Tg) (hx : a.eval x = .slice (some ad) 1 1) (hc0 : w.cell? (ad.add 0) = some (.bool c.1)) (hc1 : w.cell? (ad.add 1) = some (.string c.2)) (hl : xs.length + 1 ≤ 1000000)
    (h : ∀ v' w', TBuf w' B v' (xs ++ [c]) → Below B w0 w' → B ≤ w'.heap.size → wpList Tryd.prog ops Q rest (a.put o.dst v') w') : wpList Tryd.prog ops Q (o :: rest) a w := by
  obtain ⟨i, hi, hz0, hz1, hz2⟩ := info_parts infoTag
  refine wpList_append_own w hgd s x 85 ho B 77 i (.agg #[.bool false, .string ByteArray.empty]) 2 24 Tryd.underlying85 hi hz0 hz1 hz2 rfl (by decide) v xs.length _ hs hown ad 1 1 [.bool c.1, .string c.2] hx rfl ?_ ?_ (by unfold maxLen; omega) (by omega) hB ?_
  · intro j u hj
    rcases j with _ | _ | j
    · simp at hj; subst hj; exact hc0
    · simp at hj; subst hj; exact hc1
    · simp at hj
  · intro u hu
    simp at hu
    rcases hu with rfl | rfl <;> rfl
  · intro v' w' hown' hg _
    refine h v' w' ?_ (hb.grown hg hB (fun j hj => (World.ownsRow.lt hown j hj).1)) (Nat.le_trans hB hg.size)
    unfold TBuf
    rw [tcells_snoc, List.length_append]
    exact hown'
end Go.Proofs.YtlcchcbeebakpaaDoor
