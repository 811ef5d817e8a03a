/- A row of ints that grows by appends, and a row of bools that is made and stored to. -/
import Derived.Test.YtfkgjjoejcbdnaaDoorBufW
import Derived.Test.YtfkgjjoejcbdnaaDoorProg
import Derived.Laws.OwnMore
import Derived.Laws.MakeOwn
namespace Go.Proofs.YtfkgjjoejcbdnaaDoor
open Go.RowKit

theorem infoInt : (Tryd.prog.info? 3).map (fun i => (i.zero, i.size, i.bytes)) = some (some (.int .i64 0), 1, 8) := by kernel_rfl
theorem infoBool : (Tryd.prog.info? 4).map (fun i => (i.zero, i.size, i.bytes)) = some (some (.bool false), 1, 1) := by kernel_rfl
def IBuf (w : World) (B : Nat) (v : Value) (l : List Nat) : Prop := w.ownsRow B 3 1 v l.length (l.map fun k : Nat => Value.int .i64 (k : Int))
theorem IBuf.nil_ (w : World) (B : Nat) : IBuf w B (.slice none 0 0) [] := World.ownsRow_nil w B _ 1
theorem IBuf.alloc {w : World} {B : Nat} {v : Value} {l : List Nat} (h : IBuf w B v l) (o : Obj) : IBuf (w.alloc o) B v l := World.ownsRow.alloc h o
theorem IBuf.keep {w w' : World} {B : Nat} {v : Value} {l : List Nat} (h : IBuf w B v l) (hk : ∀ g, B ≤ g → g < w.heap.size → w'.heap[g]? = w.heap[g]?) : IBuf w' B v l := by
  refine ⟨h.1, ?_⟩
  rcases h.2 with h0 | ⟨g, cap, cur, h1, h2, h3, h4⟩
  · exact .inl h0
  · have hg : g < w.heap.size := by
      rcases Nat.lt_or_ge g w.heap.size with hlt | hge
      · exact hlt
      · rw [Array.getElem?_eq_none hge] at h3; cases h3
    exact .inr ⟨g, cap, cur, h1, h2, (hk g h2 hg).trans h3, h4⟩
theorem IBuf.below {w w' : World} {B : Nat} {v : Value} {l : List Nat} (h : IBuf w B v l) (hb : Below w.heap.size w w') : IBuf w' B v l := h.keep fun g _ hg => hb.block g hg
theorem IBuf.setCell {w : World} {B : Nat} {v u : Value} {l : List Nat} (h : IBuf w B v l) {p : Addr} (hp : p.block < B) : IBuf (w.setCell p u) B v l := h.keep fun g hg _ => Below.heap_setCell _ _ _ _ (by omega)
theorem IBuf.form {w : World} {B : Nat} {v : Value} {l : List Nat} (h : IBuf w B v l) : ∃ oa cap, v = .slice oa l.length cap ∧ ∀ (i k : Nat), l[i]? = some k → ∃ ad : Addr, oa = some ad ∧ w.cell? (ad.add i) = some (.int .i64 (k : Int)) := by
  rcases h.2 with ⟨rfl, h0⟩ | ⟨g, cap, cur, rfl, h2, h3, h4⟩
  · have : l = [] := List.length_eq_zero_iff.1 h0
    subst this
    exact ⟨none, 0, rfl, fun i k hk => by simp at hk⟩
  · exact ⟨_, cap, rfl, fun i k hk => ⟨_, rfl, World.ownsRow.cells h (g := g) rfl i (.int .i64 (k : Int)) (by simp [hk])⟩⟩
theorem wpList_append_int {ops : Array Oper} {rest : List Oper} {o : Oper} {a : Act} {Q : Exit → Act → World → Prop} (hgd : o.guard = none) (s x : Operand)
    (ho : o.op = .call { callee := .builtin .append, args := #[s, x], argTypes := #[32, 32] })
    (w : World) (B : Nat) (v : Value) (l : List Nat) (hs : a.eval s = v) (hown : IBuf w B v l) (hB : B ≤ w.heap.size)
    (ad : Addr) (k : Nat) (hx : a.eval x = .slice (some ad) 1 1) (hc : w.cell? ad = some (.int .i64 (k : Int))) (hl : l.length + 1 ≤ 1000000)
    (h : ∀ v' w', IBuf w' B v' (l ++ [k]) → Below B w w' → B ≤ w'.heap.size → wpList Tryd.prog ops Q rest (a.put o.dst v') w') : wpList Tryd.prog ops Q (o :: rest) a w := by
  obtain ⟨i, hi, hz0, hz1, hz2⟩ := info_parts infoInt
  refine wpList_append_own w hgd s x 32 ho B 3 i (.int .i64 0) 1 8 Tryd.underlying32 hi hz0 hz1 hz2 rfl (by decide) v l.length _ hs hown ad 1 1 [.int .i64 (k : Int)] hx rfl ?_ ?_ (by unfold maxLen; omega) (by omega) hB ?_
  · intro j u hj
    rcases j with _ | j
    · simp at hj; subst hj
      have : ad.add 0 = ad := by unfold Addr.add; simp
      rw [this]; exact hc
    · simp at hj
  · intro u hu
    simp at hu; subst hu; rfl
  · intro v' w' hown' hg _
    refine h v' w' ?_ ((Below.refl _ _).grown hg hB (fun j hj => (World.ownsRow.lt hown j hj).1)) (Nat.le_trans hB hg.size)
    unfold IBuf
    simpa using hown'
/-- Block g begins with the bools l, none of them frozen. -/
structure BoolsAt (w : World) (g : Nat) (l : List Bool) : Prop where
  cell : ∀ j (h : j < l.length), w.cell? ⟨g, j, none⟩ = some (.bool l[j])
  free : ∀ j, j < l.length → w.frozen? ⟨g, j, none⟩ = false
theorem BoolsAt.set {w : World} {g i : Nat} {l : List Bool} (h : BoolsAt w g l) (hi : i < l.length) (c : Bool) : BoolsAt (w.setCell ⟨g, i, none⟩ (.bool c)) g (l.set i c) := by
  refine ⟨fun j hj => ?_, fun j hj => ?_⟩
  · have hj' : j < l.length := by simpa using hj
    by_cases e : i = j
    · subst e
      rw [World.cell?_setCell_same _ _ _ (h.cell i hi)]; simp
    · rw [World.cell?_setCell_other _ _ _ _ (by simp), h.cell j hj']; simp [e]
  · rw [World.frozen?_setCell]; exact h.free j (by simpa using hj)
theorem BoolsAt.below {w w' : World} {B g : Nat} {l : List Bool} (h : BoolsAt w g l) (hb : Below B w w') (hg : g < B) : BoolsAt w' g l :=
  ⟨fun j hj => (hb.cell (p := ⟨g, j, none⟩) hg).trans (h.cell j hj), fun j hj => (hb.frozen (p := ⟨g, j, none⟩) hg).trans (h.free j hj)⟩
theorem make_bools (n : Nat) (hn : n ≤ 1000000) (w : World) : ∃ w', (Instr.makeSlice 41 (.int .i64 (n : Int)) (.int .i64 (n : Int))).run Tryd.prog w = .ok (.slice (some ⟨w.heap.size, 0, none⟩) n n) w' ∧
    BoolsAt w' w.heap.size (List.replicate n false) ∧ Below w.heap.size w w' ∧ w'.heap.size = w.heap.size + 1 := by
  obtain ⟨i, hi, hz0, hz1, hz2⟩ := info_parts infoBool
  have hr := run_make (P := Tryd.prog) w 41 4 i (.bool false) Tryd.underlying41 hi hz0 .i64 .i64 n n (by omega) (Int.le_refl _) (by rw [hz2]; omega) (by omega)
  rw [hz1, Nat.mul_one] at hr
  simp only [Int.toNat_natCast] at hr
  have hcs : (madeCells (Value.bool false).cells n).toList = List.replicate n (Value.bool false) := toList_madeCells_one _ n
  have hz : (madeCells (Value.bool false).cells n).size = n := size_madeCells _ n
  have e : (madeCells (Value.bool false).cells n) = (List.replicate n (Value.bool false)).toArray := by rw [← hcs]
  refine ⟨_, hr, ⟨fun j hj => ?_, fun j hj => ?_⟩, (Below.refl _ _).alloc (Nat.le_refl _) _, by simp⟩
  · have hj' : j < n := by simpa using hj
    rw [World.cell?_alloc_mark w _ _ _ j, e]
    simp [hj']
  · simp [World.frozen?, World.alloc, -World.alloc_eq]
end Go.Proofs.YtfkgjjoejcbdnaaDoor
