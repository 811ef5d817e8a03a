/- Struct variables that a call makes: a block that is known whole, stored into, loaded and handed back. -/
import Derived.WalkKit
import Derived.WalkSpells
import Derived.WalkLawsBesides
import Derived.Deep.MidRow
import Derived.Laws.Rows
import Derived.Laws.ResultCell
namespace Go.Proofs.YtfnmohaddkoalaaDoor
open Go.RowKit

/-- Block b is a variable that holds just these cells. -/
def RowAt (w : World) (b : Nat) (t : TypeId) (cs : List Value) : Prop := w.heap[b]? = some (.cells cs.toArray t (0, 0))
theorem RowAt.new (w : World) (cs : List Value) (t : TypeId) : RowAt (w.alloc (.cells cs.toArray t)) w.heap.size t cs := heap_alloc_new w _
theorem RowAt.lt {w : World} {b : Nat} {t : TypeId} {cs : List Value} (h : RowAt w b t cs) : b < w.heap.size := (Array.getElem?_eq_some_iff.1 h).1
theorem RowAt.below {w w' : World} {b : Nat} {t : TypeId} {cs : List Value} (h : RowAt w b t cs) (hb : Below w.heap.size w w') : RowAt w' b t cs := (hb.block b h.lt).trans h
theorem RowAt.belowB {w w' : World} {B b : Nat} {t : TypeId} {cs : List Value} (h : RowAt w b t cs) (hb : Below B w w') (hB : b < B) : RowAt w' b t cs := (hb.block b hB).trans h
theorem RowAt.alloc {w : World} {b : Nat} {t : TypeId} {cs : List Value} (h : RowAt w b t cs) (o : Obj) : RowAt (w.alloc o) b t cs := h.below ((Below.refl _ _).alloc (Nat.le_refl _) o)
theorem RowAt.drew {w : World} {b : Nat} {t : TypeId} {cs : List Value} (h : RowAt w b t cs) : RowAt w.drew b t cs := h
theorem RowAt.cell {w : World} {b : Nat} {t : TypeId} {cs : List Value} (h : RowAt w b t cs) (j : Nat) {v : Value} (hv : cs[j]? = some v) : w.cell? ⟨b, j, none⟩ = some v := by
  rw [cell_of_row w b j _ t _ h]; simpa using hv
theorem RowAt.free {w : World} {b : Nat} {t : TypeId} {cs : List Value} (h : RowAt w b t cs) (j : Nat) : w.frozen? ⟨b, j, none⟩ = false := frozen_of_row w b j _ t h
theorem RowAt.set {w : World} {b : Nat} {t : TypeId} {cs : List Value} (h : RowAt w b t cs) (j : Nat) (v : Value) : RowAt (w.setCell ⟨b, j, none⟩ v) b t (cs.set j v) := by
  have := heap_setCell_same w b j cs.toArray t v h
  unfold RowAt
  rw [this]; simp
theorem RowAt.setOther {w : World} {b g : Nat} {t : TypeId} {cs : List Value} (h : RowAt w b t cs) (hne : b ≠ g) (j : Nat) (v : Value) : RowAt (w.setCell ⟨g, j, none⟩ v) b t cs := by
  unfold RowAt
  rw [heap_setCell_other _ _ _ _ hne]; exact h
theorem setCells_row {b : Nat} {t : TypeId} : ∀ (vs cs : List Value) (o : Nat) (w : World), RowAt w b t cs → o + vs.length ≤ cs.length → RowAt (w.setCells b o vs) b t (cs.take o ++ vs ++ cs.drop (o + vs.length))
  | [], cs, o, w, h, _ => by simpa [World.setCells] using h
  | v :: r, cs, o, w, h, hl => by
    simp only [List.length_cons] at hl
    have h1 := setCells_row r (cs.set o v) (o + 1) (w.setCell ⟨b, o, none⟩ v) (h.set o v) (by simp; omega)
    have e : (cs.set o v).take (o + 1) ++ r ++ (cs.set o v).drop (o + 1 + r.length) = cs.take o ++ v :: r ++ cs.drop (o + (v :: r).length) := by
      have e1 : (cs.set o v).take (o + 1) = cs.take o ++ [v] := by
        rw [List.set_eq_take_append_cons_drop, if_pos (by omega), List.take_append, List.length_take]
        rw [show o + 1 - min o cs.length = 1 from by omega, List.take_of_length_le (by rw [List.length_take]; omega)]
        simp
      have e2 : (cs.set o v).drop (o + 1 + r.length) = cs.drop (o + (v :: r).length) := by
        rw [List.drop_set_of_lt (by omega)]; congr 1; simp; omega
      rw [e1, e2]; simp
    rw [e] at h1
    exact h1
theorem setCells_other {b : Nat} : ∀ (vs : List Value) (o : Nat) (w : World) (k : Nat), k ≠ b → (w.setCells b o vs).heap[k]? = w.heap[k]?
  | [], _, _, _, _ => rfl
  | _ :: r, o, _, k, h => (setCells_other r (o + 1) _ k h).trans (heap_setCell_other _ _ _ _ h)
theorem setCells_below {B b : Nat} {a : World} (hB : B ≤ b) : ∀ (vs : List Value) (o : Nat) (w : World), Below B a w → Below B a (w.setCells b o vs)
  | [], _, _, h => h
  | v :: r, o, _, h => setCells_below hB r (o + 1) _ (h.setCell (p := ⟨b, o, none⟩) hB v)
theorem setCells_size {b : Nat} : ∀ (vs : List Value) (o : Nat) (w : World), (w.setCells b o vs).heap.size = w.heap.size
  | [], _, _ => rfl
  | _ :: r, o, _ => (setCells_size r (o + 1) _).trans (by simp)
section
variable {P : Program}
/-- A whole value is stored into a variable that is known whole. -/
theorem wpList_store_row {ops : Array Oper} {rest : List Oper} {op : Oper} {a : Act} {Q : Exit → Act → World → Prop} (hgd : op.guard = none) (w : World) (ty : TypeId) (x y : Operand) (ho : op.op = .store ty x y)
    (b : Nat) (t : TypeId) (cs vs : List Value) (hg : RowAt w b t cs) (hx : a.eval x = .pointer (some ⟨b, 0, none⟩)) (hy : a.eval y = .agg vs.toArray) (hl : vs.length = cs.length)
    (hi : (P.info? ty).map (·.size) = some cs.length) (h1 : ∀ v ∈ vs, v.oneCell' = true)
    (h : ∀ w', RowAt w' b t vs → (∀ B, B ≤ b → Below B w w') → (∀ k, k ≠ b → w'.heap[k]? = w.heap[k]?) → w'.heap.size = w.heap.size → wpList P ops Q rest (a.put op.dst undef) w') : wpList P ops Q (op :: rest) a w := by
  refine wpList_store_mid hgd ty x y ho b 0 vs.toArray hx hy (fun j hj => ?_) (by rw [hi]; simp [hl]) (all_oneCell_toArray h1) ?_
  · have hj' : j < cs.length := by simp at hj; omega
    rw [Nat.zero_add]
    exact ⟨by rw [hg.cell j (List.getElem?_eq_getElem hj')]; rfl, hg.free j⟩
  · have hr := setCells_row vs cs 0 w hg (by omega)
    rw [Nat.zero_add, hl, List.drop_length, List.take_zero, List.nil_append, List.append_nil] at hr
    exact h _ hr (fun B hB => setCells_below hB _ _ _ (Below.refl _ _)) (fun k hk => setCells_other _ _ _ _ hk) (setCells_size _ _ _)
theorem wpList_load_rowAt {ops : Array Oper} {rest : List Oper} {o : Oper} {a : Act} {Q : Exit → Act → World → Prop} (hgd : o.guard = none) (w : World) (ty : TypeId) (x : Operand) (ho : o.op = .load ty x)
    (b : Nat) (t : TypeId) (cs : List Value) (hg : RowAt w b t cs) (hx : a.eval x = .pointer (some ⟨b, 0, none⟩)) (fs : Array Field) (hu : P.underlying ty = some (.struct fs)) (hi : (P.info? ty).map (·.size) = some cs.length)
    (h : wpList P ops Q rest (a.put o.dst (.agg cs.toArray)) w) : wpList P ops Q (o :: rest) a w :=
  wpList_load_row hgd ty x ho b hx t cs.toArray (0, 0) (.struct fs) hg hu rfl (by rw [hi]; simp) h
theorem run_load_row (w : World) (ty : TypeId) (b : Nat) (t : TypeId) (cs : List Value) (hg : RowAt w b t cs) (fs : Array Field) (hu : P.underlying ty = some (.struct fs)) (hi : (P.info? ty).map (·.size) = some cs.length) :
    (Instr.loadAt ty (.pointer (some ⟨b, 0, none⟩))).run P w = .ok (.agg cs.toArray) w := by
  simp only [Instr.loadAt, Instr.sureAddr, Sem.run_bind, Sem.run_pure, Result.andThen_ok]
  exact run_loadVar_row w b t ty cs.toArray (0, 0) (.struct fs) hg hu rfl (by rw [hi]; simp)
theorem results_row2 {fn : Func} {p u : Tmp} {ty : TypeId} (h : fn.results = #[.cell p ty, .tmp u]) (tmps : Array Value) (w : World) (b : Nat) (t : TypeId) (cs : List Value) (hg : RowAt w b t cs)
    (hp : tmps.getD p undef = .pointer (some ⟨b, 0, none⟩)) (fs : Array Field) (hu : P.underlying ty = some (.struct fs)) (hi : (P.info? ty).map (·.size) = some cs.length) :
    (results fn tmps).run P w = .ok (.tuple #[.agg cs.toArray, tmps.getD u undef]) w := by
  have hr := run_loadVar_row (P := P) w b t ty cs.toArray (0, 0) (.struct fs) hg hu rfl (by rw [hi]; simp)
  rw [results_cell_tmp h, hp]
  have e1 : (asAddr (.pointer (some ⟨b, 0, none⟩))).run P w = .ok ⟨b, 0, none⟩ w := by simp [asAddr]
  rw [e1, Result.andThen_ok, hr, Result.andThen_ok]
theorem results_row1 {fn : Func} {p : Tmp} {ty : TypeId} (h : fn.results = #[.cell p ty]) (tmps : Array Value) (w : World) (b : Nat) (t : TypeId) (cs : List Value) (hg : RowAt w b t cs)
    (hp : tmps.getD p undef = .pointer (some ⟨b, 0, none⟩)) (fs : Array Field) (hu : P.underlying ty = some (.struct fs)) (hi : (P.info? ty).map (·.size) = some cs.length) :
    (results fn tmps).run P w = .ok (.agg cs.toArray) w :=
  results_cell_row h tmps w b t cs.toArray (0, 0) (.struct fs) hp hg hu rfl (by rw [hi]; simp)
end
end Go.Proofs.YtfnmohaddkoalaaDoor
