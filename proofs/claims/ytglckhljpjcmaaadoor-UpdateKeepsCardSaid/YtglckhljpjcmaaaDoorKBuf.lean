/- Rows of lists of strings that a call makes, grown by append. -/
import Derived.Test.YtglckhljpjcmaaaDoorSBufA
import Derived.Test.YtglckhljpjcmaaaDoorEntO
import Derived.Maps.AppendAt
namespace Go.Proofs.YtglckhljpjcmaaaDoor
open Go.RowKit
theorem infoSl : (Tryd.prog.info? 23).map (fun i => (i.zero, i.size, i.bytes)) = some (some (.slice none 0 0), 1, 24) := by kernel_rfl
/-- The strings lie in a block of the call's own that is not the row's. -/
def InAt (w : World) (B : Nat) (v : Value) (oc : Option Addr) (ns : List ByteArray) : Prop := ∀ (j : Nat) (x : ByteArray), ns[j]? = some x → ∃ g, oc = some ⟨g, 0, none⟩ ∧ B ≤ g ∧ some g ≠ v.ownBlock ∧ w.cell? ⟨g, j, none⟩ = some (.string x)
def KBuf (w : World) (B : Nat) (v : Value) (ks : List (List ByteArray)) : Prop :=
  ∃ cs : List Value, w.ownsRow B 23 1 v ks.length cs ∧ ∀ (i : Nat) (row : List ByteArray), ks[i]? = some row → ∃ (o : Option Addr) (cap : Nat), cs[i]? = some (.slice o row.length cap) ∧ InAt w B v o row
theorem row_below {w w' : World} {B B' : Nat} {e : TypeId} {z : Nat} {v : Value} {n : Nat} {cs : List Value} (h : w.ownsRow B e z v n cs) (hb : Below B' w w') (hB : w.heap.size ≤ B') : w'.ownsRow B e z v n cs := by
  refine ⟨h.1, ?_⟩
  rcases h.2 with h0 | ⟨g, cap, cur, h1, h2, h3, h4⟩
  · exact .inl h0
  · have hg : g < w.heap.size := by
      rcases Nat.lt_or_ge g w.heap.size with hlt | hge
      · exact hlt
      · rw [Array.getElem?_eq_none hge] at h3; cases h3
    exact .inr ⟨g, cap, cur, h1, h2, (hb.block g (by omega)).trans h3, h4⟩
theorem row_others {w w' : World} {B : Nat} {e : TypeId} {z : Nat} {v : Value} {n : Nat} {cs : List Value} (h : w.ownsRow B e z v n cs) {b : Nat} (hb : b < B) (f : ∀ k, k ≠ b → w'.heap[k]? = w.heap[k]?) : w'.ownsRow B e z v n cs := by
  refine ⟨h.1, ?_⟩
  rcases h.2 with h0 | ⟨g, cap, cur, h1, h2, h3, h4⟩
  · exact .inl h0
  · exact .inr ⟨g, cap, cur, h1, h2, (f g (by omega)).trans h3, h4⟩
theorem InAt.down {w w' : World} {B : Nat} {v : Value} {oc : Option Addr} {ns : List ByteArray} (h : InAt w B v oc ns) {B' : Nat} (hb : Below B' w w') (hB : w.heap.size ≤ B') : InAt w' B v oc ns := fun j x hx => by
  obtain ⟨g, h1, h0, h2, h3⟩ := h j x hx
  have hg : g < w.heap.size := cell_lt h3
  refine ⟨g, h1, h0, h2, ?_⟩
  rw [← h3]; unfold World.cell?; rw [hb.block g (by omega)]
theorem InAt.others {w w' : World} {B : Nat} {v : Value} {oc : Option Addr} {ns : List ByteArray} (h : InAt w B v oc ns) {b : Nat} (hb : b < B) (f : ∀ k, k ≠ b → w'.heap[k]? = w.heap[k]?) : InAt w' B v oc ns := fun j x hx => by
  obtain ⟨g, h1, h0, h2, h3⟩ := h j x hx
  refine ⟨g, h1, h0, h2, ?_⟩
  rw [← h3]; unfold World.cell?; rw [f g (by omega)]
theorem KBuf.nil_ (w : World) (B : Nat) : KBuf w B (.slice none 0 0) [] := ⟨[], World.ownsRow_nil _ _ _ _, fun i row h => by simp at h⟩
theorem KBuf.below {w w' : World} {B B' : Nat} {v : Value} {ks : List (List ByteArray)} (h : KBuf w B v ks) (hb : Below B' w w') (hB : w.heap.size ≤ B') : KBuf w' B v ks := by
  obtain ⟨cs, h1, h2⟩ := h
  refine ⟨cs, row_below h1 hb hB, fun i row hr => ?_⟩
  obtain ⟨o, cap, e, hi⟩ := h2 i row hr
  exact ⟨o, cap, e, hi.down hb hB⟩
theorem KBuf.alloc {w : World} {B : Nat} {v : Value} {ks : List (List ByteArray)} (h : KBuf w B v ks) (o : Obj) : KBuf (w.alloc o) B v ks := h.below (alloc_b w o) (Nat.le_refl _)
theorem KBuf.others {w w' : World} {B : Nat} {v : Value} {ks : List (List ByteArray)} (h : KBuf w B v ks) {b : Nat} (hb : b < B) (f : ∀ k, k ≠ b → w'.heap[k]? = w.heap[k]?) : KBuf w' B v ks := by
  obtain ⟨cs, h1, h2⟩ := h
  refine ⟨cs, row_others h1 hb f, fun i row hr => ?_⟩
  obtain ⟨o, cap, e, hi⟩ := h2 i row hr
  exact ⟨o, cap, e, hi.others hb f⟩
theorem KBuf.set {w : World} {B : Nat} {v : Value} {ks : List (List ByteArray)} (h : KBuf w B v ks) {g j : Nat} (hg : g < B) (u : Value) : KBuf (w.setCell ⟨g, j, none⟩ u) B v ks := h.others hg (fun _ hk => heap_setCell_other _ _ _ _ hk)
theorem InAt.str {w : World} {B : Nat} {v : Value} {oc : Option Addr} {ns : List ByteArray} (h : InAt w B v oc ns) : StrO w oc ns := fun j x hx => by
  obtain ⟨g, h1, _, _, h3⟩ := h j x hx
  refine ⟨_, h1, ?_⟩
  rw [← h3]
  have e : (⟨g, 0, none⟩ : Addr).add j = ⟨g, j, none⟩ := by
    unfold Addr.add; simp
    exact fun h => h.symm
  rw [e]
theorem KBuf.shape {w : World} {B : Nat} {v : Value} {ks : List (List ByteArray)} (h : KBuf w B v ks) : ∃ oa cap, v = .slice oa ks.length cap ∧ MatO w oa ks := by
  obtain ⟨cs, h1, h2⟩ := h
  rcases h1.2 with ⟨rfl, h0⟩ | ⟨g, cap, cur, rfl, hB, h3, h4, h5⟩
  · obtain rfl : ks = [] := List.length_eq_zero_iff.1 h0
    exact ⟨none, 0, rfl, fun i x hx => by simp at hx⟩
  · refine ⟨_, _, rfl, fun i row hx => ?_⟩
    obtain ⟨o, c, e, hi⟩ := h2 i row hx
    exact ⟨_, o, c, rfl, World.ownsRow.cells h1 (g := g) rfl i _ e, hi.str⟩
theorem KBuf.mat {w : World} {B : Nat} {oa : Option Addr} {n cap : Nat} {ks : List (List ByteArray)} (h : KBuf w B (.slice oa n cap) ks) : MatO w oa ks := by
  obtain ⟨oa', cap', e, h'⟩ := h.shape
  cases e; exact h'
theorem KBuf.own_lt {w : World} {B : Nat} {v : Value} {ks : List (List ByteArray)} (h : KBuf w B v ks) {g : Nat} (hg : v.ownBlock = some g) : g < w.heap.size := by
  obtain ⟨cs, h1, _⟩ := h
  exact (World.ownsRow.lt h1 g hg).2
/-- What a call has made since then lies outside the row. -/
theorem InAt.of {w w2 : World} {B : Nat} {v v2 : Value} {ks : List (List ByteArray)} {ns : List ByteArray} (h : KBuf w B v ks) (hB : B ≤ w.heap.size) (h2 : SBuf w2 w.heap.size v2 ns) : ∃ oc cap, v2 = .slice oc ns.length cap ∧ InAt w2 B v oc ns := by
  obtain ⟨oc, cap, rfl, _⟩ := h2.shape
  refine ⟨oc, cap, rfl, fun j x hx => ?_⟩
  have hl : 0 < ns.length := by have := (List.getElem?_eq_some_iff.1 hx).1; omega
  obtain ⟨g, cap', e, hg1, _, hA, _⟩ := h2.form hl
  cases e
  exact ⟨g, rfl, by omega, fun e => by have := h.own_lt e.symm; omega, hA j x hx⟩
theorem KBuf.turn {w w' : World} {B : Nat} {v v' : Value} {ks : List (List ByteArray)} {row : List ByteArray} {o : Option Addr} {cap : Nat} {cs : List Value}
    (h2 : ∀ (i : Nat) (row : List ByteArray), ks[i]? = some row → ∃ (o : Option Addr) (cap : Nat), cs[i]? = some (.slice o row.length cap) ∧ InAt w B v o row) (hl : cs.length = ks.length) (hi : InAt w B v o row)
    (hown : w'.ownsRow B 23 1 v' (ks.length + 1) (cs ++ [.slice o row.length cap])) (hg : w.grownBy w' v.ownBlock) (hat : v'.ownBlock = v.ownBlock ∨ v'.ownBlock = some w.heap.size) : KBuf w' B v' (ks ++ [row]) := by
  have turn : ∀ (o : Option Addr) (ns : List ByteArray), InAt w B v o ns → InAt w' B v' o ns := fun o ns h j x hx => by
    obtain ⟨g, e1, e0, e2, e3⟩ := h j x hx
    have hlt : g < w.heap.size := cell_lt e3
    refine ⟨g, e1, e0, fun e => ?_, ?_⟩
    · rcases hat with k | k
      · exact e2 (e.trans k)
      · rw [k] at e; cases e; omega
    · rw [← e3]; unfold World.cell?; rw [hg.block g hlt e2]
  refine ⟨cs ++ [.slice o row.length cap], by rw [List.length_append, List.length_singleton]; exact hown, fun i r hr => ?_⟩
  rcases Nat.lt_or_ge i ks.length with hlt | hge
  · rw [List.getElem?_append_left hlt] at hr
    obtain ⟨o', c', e, h'⟩ := h2 i r hr
    exact ⟨o', c', by rw [List.getElem?_append_left (by omega)]; exact e, turn _ _ h'⟩
  · rw [List.getElem?_append_right hge] at hr
    have hz : i - ks.length = 0 := by have := (List.getElem?_eq_some_iff.1 hr).1; simp at this; omega
    rw [hz] at hr
    cases hr
    exact ⟨o, cap, by rw [List.getElem?_append_right (by omega), hl, hz]; rfl, turn _ _ hi⟩
theorem run_append_mat {o : Oper} (w0 w : World) (B : Nat) (v : Value) (ks : List (List ByteArray)) (hown : KBuf w B v ks) (hb : Below B w0 w) (hB : B ≤ w.heap.size)
    (ad : Addr) (oc : Option Addr) (row : List ByteArray) (cap : Nat) (hc : w.cell? ad = some (.slice oc row.length cap)) (hi : InAt w B v oc row) (hl : ks.length + 1 ≤ 1000000) :
    ∃ v' w', (Builtin.append_ #[22, 22] o.type #[v, .slice (some ad) 1 1]).run Tryd.prog w = .ok v' w' ∧ KBuf w' B v' (ks ++ [row]) ∧ Below B w0 w' ∧ B ≤ w'.heap.size := by
  obtain ⟨i, hi0, hz0, hz1, hz2⟩ := info_parts infoSl
  obtain ⟨cs, h1, h2⟩ := hown
  have hcl : cs.length = ks.length := by have := h1.1; omega
  obtain ⟨v', w', hr, g2, g3, g4, g5⟩ := run_append_own_at (P := Tryd.prog) w B 22 o.type 23 i (.slice none 0 0) 1 24 Tryd.underlying22 hi0 hz0 hz1 hz2 rfl (by decide) v ks.length cs h1 ad 1 1 [.slice oc row.length cap] rfl (by
    intro j u hj
    rcases j with _ | j
    · simp at hj; subst hj
      have : ad.add 0 = ad := by unfold Addr.add; simp
      rw [this]; exact hc
    · simp at hj) (by intro u hu; simp at hu; subst hu; rfl) (by unfold maxLen; omega) (by omega) hB
  exact ⟨v', w', hr, KBuf.turn h2 hcl hi g2 g3 g5, hb.grown g3 hB (fun j hj => (World.ownsRow.lt h1 j hj).1), Nat.le_trans hB g3.size⟩
theorem wpList_append_mat {ops : Array Oper} {rest : List Oper} {o : Oper} {a : Act} {Q : Exit → Act → World → Prop} (hgd : o.guard = none) (s x : Operand)
    (ho : o.op = .call { callee := .builtin .append, args := #[s, x], argTypes := #[22, 22] })
    (w0 w : World) (B : Nat) (v : Value) (ks : List (List ByteArray)) (hs : a.eval s = v) (hown : KBuf w B v ks) (hb : Below B w0 w) (hB : B ≤ w.heap.size)
    (ad : Addr) (oc : Option Addr) (row : List ByteArray) (cap : Nat) (hx : a.eval x = .slice (some ad) 1 1) (hc : w.cell? ad = some (.slice oc row.length cap)) (hi : InAt w B v oc row) (hl : ks.length + 1 ≤ 1000000)
    (h : ∀ v' w', KBuf w' B v' (ks ++ [row]) → Below B w0 w' → B ≤ w'.heap.size → wpList Tryd.prog ops Q rest (a.put o.dst v') w') : wpList Tryd.prog ops Q (o :: rest) a w := by
  refine wpList_plain hgd fun K hK => ?_
  obtain ⟨v', w', hr, h2, h3, h4⟩ := run_append_mat (o := o) w0 w B v ks hown hb hB ad oc row cap hc hi hl
  unfold Oper.wp execOp
  simp only [ho, resolve, invoke, builtin, Sem.run_bind, Sem.run_pure, Result.andThen_ok, List.map_toArray, List.map_cons, List.map_nil, hs, hx, hr]
  exact hK _ _ (h v' w' h2 h3 h4)
theorem step_append_mat {ops : Array Oper} {o : Oper} {a : Act} {K : Act → World → Prop} {Q : Exit → Act → World → Prop} {E : Prop} (hgd : o.guard = none) (s x : Operand)
    (ho : o.op = .call { callee := .builtin .append, args := #[s, x], argTypes := #[22, 22] })
    (w0 w : World) (B : Nat) (v : Value) (ks : List (List ByteArray)) (hs : a.eval s = v) (hown : KBuf w B v ks) (hb : Below B w0 w) (hB : B ≤ w.heap.size)
    (ad : Addr) (oc : Option Addr) (row : List ByteArray) (cap : Nat) (hx : a.eval x = .slice (some ad) 1 1) (hc : w.cell? ad = some (.slice oc row.length cap)) (hi : InAt w B v oc row) (hl : ks.length + 1 ≤ 1000000)
    (h : ∀ v' w', KBuf w' B v' (ks ++ [row]) → Below B w0 w' → B ≤ w'.heap.size → K (a.put o.dst v') w') :
    if Region.wanted o (yielded ops a.tmps) = true then Oper.wp Tryd.prog o a w K Q else E := by
  have hw : Region.wanted o (yielded ops a.tmps) = true := by simp [Region.wanted, hgd]
  rw [if_pos hw]
  obtain ⟨v', w', hr, h2, h3, h4⟩ := run_append_mat (o := o) w0 w B v ks hown hb hB ad oc row cap hc hi hl
  unfold Oper.wp execOp
  simp only [ho, resolve, invoke, builtin, Sem.run_bind, Sem.run_pure, Result.andThen_ok, List.map_toArray, List.map_cons, List.map_nil, hs, hx, hr]
  exact h v' w' h2 h3 h4
theorem cell_new_sl (w : World) (v : Value) (t : TypeId) : (w.alloc (.cells #[v] t)).cell? ⟨w.heap.size, 0, none⟩ = some v := (RowAt.new w [v] t).cell 0 rfl
end Go.Proofs.YtglckhljpjcmaaaDoor
