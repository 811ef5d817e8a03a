/- The reader of messages (layer 6): its block and the rows that it grows. -/
import Derived.Test.YtfnmohaddkoalaaGreatDoorQPre
import Derived.Test.YtfnmohaddkoalaaGreatDoorQFieldX
import Derived.Maps.AppendAt
namespace Go.Proofs.YtfnmohaddkoalaaGreatDoor
open Go.RowKit Go.Shelf
set_option linter.unusedSimpArgs false

/-- An append to v left all blocks but its own. -/
def TurnOwn (w w' : World) (v v' : Value) : Prop := ∀ b, b < w.heap.size → some b ≠ v.ownBlock → w'.heap[b]? = w.heap[b]? ∧ some b ≠ v'.ownBlock
theorem owns_turn {w w' : World} {B n size : Nat} {e : TypeId} {v u u' : Value} {xs : List Value} (h : w.ownsRow B e size v n xs) (hk : TurnOwn w w' u u') (hne : ∀ g, v.ownBlock = some g → some g ≠ u.ownBlock) :
    w'.ownsRow B e size v n xs ∧ ∀ g, v.ownBlock = some g → some g ≠ u'.ownBlock := by
  have hb : ∀ g, v.ownBlock = some g → w'.heap[g]? = w.heap[g]? ∧ some g ≠ u'.ownBlock := fun g hg => hk g (World.ownsRow.lt h g hg).2 (hne g hg)
  refine ⟨⟨h.1, ?_⟩, fun g hg => (hb g hg).2⟩
  rcases h.2 with h0 | ⟨g, cap, cur, h1, h2, h3, h4⟩
  · exact .inl h0
  · exact .inr ⟨g, cap, cur, h1, h2, ((hb g (by rw [h1]; rfl)).1).trans h3, h4⟩
theorem owns_set {w : World} {B n size g j : Nat} {e : TypeId} {v u : Value} {xs : List Value} (h : w.ownsRow B e size v n xs) (hg : g < B) : (w.setCell ⟨g, j, none⟩ u).ownsRow B e size v n xs := by
  refine ⟨h.1, ?_⟩
  rcases h.2 with h0 | ⟨k, cap, cur, h1, h2, h3, h4⟩
  · exact .inl h0
  · exact .inr ⟨k, cap, cur, h1, h2, (heap_setCell_other _ _ _ _ (show k ≠ g by omega)).trans h3, h4⟩
theorem owns_type {w : World} {B n size : Nat} {e : TypeId} {v : Value} {xs : List Value} (h : w.ownsRow B e size v n xs) : ∀ g, v.ownBlock = some g → ∃ cur, w.heap[g]? = some (.cells cur e (0, 0)) := by
  intro g hg
  rcases h.2 with ⟨h0, _⟩ | ⟨k, cap, cur, h1, h2, h3, h4⟩
  · rw [h0] at hg; cases hg
  · rw [h1] at hg; cases hg; exact ⟨cur, h3⟩
theorem size_setM (w : World) (p : Addr) (u : Value) : (w.setCell p u).heap.size = w.heap.size := by simp
/-- Rows of different types lie in different blocks. -/
theorem owns_apart {w : World} {B B' n n' size size' : Nat} {e e' : TypeId} {v v' : Value} {xs xs' : List Value} (h : w.ownsRow B e size v n xs) (h' : w.ownsRow B' e' size' v' n' xs') (hne : e ≠ e') : ∀ g, v.ownBlock = some g → some g ≠ v'.ownBlock := fun g hg e2 => by
  obtain ⟨c1, h1⟩ := owns_type h g hg
  obtain ⟨c2, h2⟩ := owns_type h' g e2.symm
  rw [h1] at h2
  exact hne (by simpa using (Option.some.inj h2) |> fun h => by cases h; rfl)
theorem wpList_append_strO {ops : Array Oper} {rest : List Oper} {o : Oper} {a : Act} {Q : Exit → Act → World → Prop} (hgd : o.guard = none) (s x : Operand)
    (ho : o.op = .call { callee := .builtin .append, args := #[s, x], argTypes := #[37, 37] })
    (w0 w : World) (B : Nat) (v : Value) (xs : List ByteArray) (hs : a.eval s = v) (hown : SBuf w B v xs) (hb : Below B w0 w) (hB : B ≤ w.heap.size)
    (ad : Addr) (c : ByteArray) (hx : a.eval x = .slice (some ad) 1 1) (hc : w.cell? ad = some (.string c)) (hl : xs.length + 1 ≤ 1000000)
    (h : ∀ v' w', SBuf w' B v' (xs ++ [c]) → Below B w0 w' → B ≤ w'.heap.size → TurnOwn w w' v v' → wpList Tryz.prog ops Q rest (a.put o.dst v') w') : wpList Tryz.prog ops Q (o :: rest) a w := by
  obtain ⟨i, hi, hz0, hz1, hz2⟩ := info_parts infoStr
  refine wpList_append_own_at w hgd s x 37 ho B 9 i (.string ByteArray.empty) 1 16 Tryz.underlying37 hi hz0 hz1 hz2 rfl (by decide) v xs.length _ hs hown ad 1 1 [.string c] hx rfl ?_ ?_ (by unfold maxLen; omega) (by omega) hB ?_
  · intro j u hj
    rcases j with _ | j
    · simp at hj; subst hj
      have : ad.add 0 = ad := by unfold Addr.add; simp
      rw [this]; exact hc
    · simp at hj
  · intro u hu
    simp at hu; subst hu; rfl
  · intro v' w' hown' hg _ hloc
    refine h v' w' ?_ (hb.grown hg hB (fun j hj => (World.ownsRow.lt hown j hj).1)) (Nat.le_trans hB hg.size) (fun b hbl hbn => ⟨hg.block b hbl hbn, fun e => ?_⟩)
    · unfold SBuf
      simpa using hown'
    · rcases hloc with hl' | hl'
      · exact hbn (e.trans hl')
      · rw [hl'] at e; cases e; omega
theorem wpList_append_fldO {ops : Array Oper} {rest : List Oper} {o : Oper} {a : Act} {Q : Exit → Act → World → Prop} (hgd : o.guard = none) (s x : Operand)
    (ho : o.op = .call { callee := .builtin .append, args := #[s, x], argTypes := #[22, 22] })
    (w0 w : World) (B : Nat) (v : Value) (xs : List Fd) (hs : a.eval s = v) (hown : FBuf w B v xs) (hb : Below B w0 w) (hB : B ≤ w.heap.size)
    (ad : Addr) (c : Fd) (hx : a.eval x = .slice (some ad) 1 1) (hc0 : w.cell? (ad.add 0) = some (.string c.1)) (hc1 : w.cell? (ad.add 1) = some (.string c.2)) (hl : xs.length + 1 ≤ 1000000)
    (h : ∀ v' w', FBuf w' B v' (xs ++ [c]) → Below B w0 w' → B ≤ w'.heap.size → TurnOwn w w' v v' → wpList Tryz.prog ops Q rest (a.put o.dst v') w') : wpList Tryz.prog ops Q (o :: rest) a w := by
  obtain ⟨i, hi, hz0, hz1, hz2⟩ := info_parts infoFld
  refine wpList_append_own_at w hgd s x 22 ho B 69 i (.agg #[.string ByteArray.empty, .string ByteArray.empty]) 2 32 Tryz.underlying22 hi hz0 hz1 hz2 rfl (by decide) v xs.length _ hs hown ad 1 1 [.string c.1, .string c.2] hx rfl ?_ ?_ (by unfold maxLen; omega) (by omega) hB ?_
  · intro j u hj
    rcases j with _ | _ | j
    · simp at hj; subst hj; exact hc0
    · simp at hj; subst hj; exact hc1
    · simp at hj
  · intro u hu
    simp at hu
    rcases hu with rfl | rfl <;> rfl
  · intro v' w' hown' hg _ hloc
    refine h v' w' ?_ (hb.grown hg hB (fun j hj => (World.ownsRow.lt hown j hj).1)) (Nat.le_trans hB hg.size) (fun b hbl hbn => ⟨hg.block b hbl hbn, fun e => ?_⟩)
    · unfold FBuf
      rw [fcells_snoc, List.length_append]
      exact hown'
    · rcases hloc with hl' | hl'
      · exact hbn (e.trans hl')
      · rw [hl'] at e; cases e; omega
/-- The reader's block and its three rows. -/
structure RdAt (T : TypeId) (w : World) (B g : Nat) (s : ByteArray) (a : Nat) (fs : List Fd) (ls cs : List ByteArray) (vf vl vc : Value) (rest : List Value) : Prop where
  row : RowAt w g T ([.string s, .int .i64 a, vf, vl, vc] ++ rest)
  f : FBuf w B vf fs
  l : SBuf w B vl ls
  c : SBuf w B vc cs
  lc : ∀ b, vl.ownBlock = some b → some b ≠ vc.ownBlock
  gB : g < B
  sz : B ≤ w.heap.size
section
variable {T : TypeId} {w w' : World} {B g : Nat} {s : ByteArray} {a : Nat} {fs : List Fd} {ls cs : List ByteArray} {vf vl vc : Value} {rest : List Value}
theorem RdAt.below (h : RdAt T w B g s a fs ls cs vf vl vc rest) (hb : Below w.heap.size w w') : RdAt T w' B g s a fs ls cs vf vl vc rest :=
  ⟨h.row.below hb, h.f.below hb (Nat.le_refl _), h.l.below hb (Nat.le_refl _), h.c.below hb (Nat.le_refl _), h.lc, h.gB, Nat.le_trans h.sz hb.size⟩
theorem RdAt.set (h : RdAt T w B g s a fs ls cs vf vl vc rest) (j : Nat) (u : Value) (a' : Nat) (rest' : List Value) (he : ([.string s, .int .i64 a, vf, vl, vc] ++ rest).set j u = [.string s, .int .i64 a', vf, vl, vc] ++ rest') : RdAt T (w.setCell ⟨g, j, none⟩ u) B g s a' fs ls cs vf vl vc rest' :=
  ⟨by have := h.row.set j u; rw [he] at this; exact this, owns_set h.f h.gB, owns_set h.l h.gB, owns_set h.c h.gB, h.lc, h.gB, by rw [size_setM]; exact h.sz⟩
theorem RdAt.pushL (h : RdAt T w B g s a fs ls cs vf vl vc rest) {v' : Value} {ls' : List ByteArray} (hS : SBuf w' B v' ls') (hb : Below B w w') (hk : TurnOwn w w' vl v') : RdAt T (w'.setCell ⟨g, 3, none⟩ v') B g s a fs ls' cs vf v' vc rest := by
  have hf := owns_turn h.f hk (owns_apart h.f h.l (by decide))
  have hc := owns_turn h.c hk (fun b hb e => h.lc b e.symm hb.symm)
  exact ⟨(h.row.belowB hb h.gB).set 3 v', owns_set hf.1 h.gB, owns_set hS h.gB, owns_set hc.1 h.gB, fun b e e2 => hc.2 b e2.symm e.symm, h.gB, by rw [size_setM]; exact Nat.le_trans h.sz hb.size⟩
theorem RdAt.pushC (h : RdAt T w B g s a fs ls cs vf vl vc rest) {v' : Value} {cs' : List ByteArray} (hS : SBuf w' B v' cs') (hb : Below B w w') (hk : TurnOwn w w' vc v') : RdAt T (w'.setCell ⟨g, 4, none⟩ v') B g s a fs ls cs' vf vl v' rest := by
  have hf := owns_turn h.f hk (owns_apart h.f h.c (by decide))
  have hl := owns_turn h.l hk h.lc
  exact ⟨(h.row.belowB hb h.gB).set 4 v', owns_set hf.1 h.gB, owns_set hl.1 h.gB, owns_set hS h.gB, hl.2, h.gB, by rw [size_setM]; exact Nat.le_trans h.sz hb.size⟩
theorem RdAt.pushF (h : RdAt T w B g s a fs ls cs vf vl vc rest) {v' : Value} {fs' : List Fd} (hS : FBuf w' B v' fs') (hb : Below B w w') (hk : TurnOwn w w' vf v') : RdAt T (w'.setCell ⟨g, 2, none⟩ v') B g s a fs' ls cs v' vl vc rest := by
  have hl := owns_turn h.l hk (owns_apart h.l h.f (by decide))
  have hc := owns_turn h.c hk (owns_apart h.c h.f (by decide))
  exact ⟨(h.row.belowB hb h.gB).set 2 v', owns_set hS h.gB, owns_set hl.1 h.gB, owns_set hc.1 h.gB, h.lc, h.gB, by rw [size_setM]; exact Nat.le_trans h.sz hb.size⟩
end
end Go.Proofs.YtfnmohaddkoalaaGreatDoor
