/- The walk of the reference's All (layer 7). -/
import Derived.Test.YtglckhljpjcmaaaGreatDoorQRListW
import Derived.Maps.AppendAt
namespace Go.Proofs.YtglckhljpjcmaaaGreatDoor
open Go.RowKit Go.Shelf

def TurnedOf (w w' : World) (v v' : Value) : Prop := ∀ b, b < w.heap.size → some b ≠ v.ownBlock → w'.heap[b]? = w.heap[b]? ∧ some b ≠ v'.ownBlock
theorem wpList_append_str_at {ops : Array Oper} {rest : List Oper} {o : Oper} {a : Act} {Q : Exit → Act → World → Prop} (hgd : o.guard = none) (s x : Operand)
    (ho : o.op = .call { callee := .builtin .append, args := #[s, x], argTypes := #[29, 29] })
    (w0 w : World) (B : Nat) (v : Value) (xs : List ByteArray) (hs : a.eval s = v) (hown : SBuf w B v xs) (hb : Below B w0 w) (hB : B ≤ w.heap.size)
    (ad : Addr) (c : ByteArray) (hx : a.eval x = .slice (some ad) 1 1) (hc : w.cell? ad = some (.string c)) (hl : xs.length + 1 ≤ 1000000)
    (h : ∀ v' w', SBuf w' B v' (xs ++ [c]) → Below B w0 w' → B ≤ w'.heap.size → TurnedOf w w' v v' → wpList Tryz.prog ops Q rest (a.put o.dst v') w') : wpList Tryz.prog ops Q (o :: rest) a w := by
  obtain ⟨i, hi, hz0, hz1, hz2⟩ := info_parts infoStr
  refine wpList_append_own_at w hgd s x 29 ho B 9 i (.string ByteArray.empty) 1 16 Tryz.underlying29 hi hz0 hz1 hz2 rfl (by decide) v xs.length _ hs hown ad 1 1 [.string c] hx rfl ?_ ?_ (by unfold maxLen; omega) (by omega) hB ?_
  · intro j u hj
    rcases j with _ | j
    · simp at hj; subst hj
      have : ad.add 0 = ad := by unfold Addr.add; simp
      rw [this]; exact hc
    · simp at hj
  · intro u hu
    simp at hu; subst hu; rfl
  · intro v' w' hown' hg _ hloc
    refine h v' w' ?_ (hb.grown hg hB (fun j hj => (World.ownsRow.lt hown j hj).1)) (Nat.le_trans hB hg.size) (fun b hbl hbn => ⟨hg.block b hbl hbn, fun e => ?_⟩)
    · unfold SBuf
      simpa using hown'
    · rcases hloc with hl' | hl'
      · exact hbn (e.trans hl')
      · rw [hl'] at e; cases e; omega
/-- The strings lie in a block that is not the row's. -/
def NsAt (w : World) (v : Value) (oc : Option Addr) (ns : List ByteArray) : Prop := ∀ (j : Nat) (x : ByteArray), ns[j]? = some x → ∃ g, oc = some ⟨g, 0, none⟩ ∧ some g ≠ v.ownBlock ∧ w.cell? ⟨g, j, none⟩ = some (.string x)
theorem SBuf.own_lt {w : World} {B : Nat} {v : Value} {xs : List ByteArray} (h : SBuf w B v xs) {g : Nat} (hg : v.ownBlock = some g) : g < w.heap.size := (World.ownsRow.lt h g hg).2
theorem NsAt.of {w w2 : World} {B : Nat} {v v2 : Value} {xs ns : List ByteArray} (h : SBuf w B v xs) (h2 : SBuf w2 w.heap.size v2 ns) : ∃ oc cap, v2 = .slice oc ns.length cap ∧ NsAt w2 v oc ns := by
  obtain ⟨oc, cap, rfl, _⟩ := h2.shape
  refine ⟨oc, cap, rfl, fun j x hx => ?_⟩
  have hl : 0 < ns.length := by have := (List.getElem?_eq_some_iff.1 hx).1; omega
  obtain ⟨g, cap', e, hg1, _, hA, _⟩ := h2.form hl
  cases e
  exact ⟨g, rfl, fun e => by have := h.own_lt e.symm; omega, hA j x hx⟩
theorem NsAt.alloc {w : World} {v : Value} {oc : Option Addr} {ns : List ByteArray} (h : NsAt w v oc ns) (o : Obj) : NsAt (w.alloc o) v oc ns := fun j x hx => by
  obtain ⟨g, h1, h2, h3⟩ := h j x hx
  exact ⟨g, h1, h2, ((alloc_b w o).cell (cell_lt h3)).trans h3⟩
theorem NsAt.turn {w w' : World} {v v' : Value} {oc : Option Addr} {ns : List ByteArray} (h : NsAt w v oc ns) (hk : TurnedOf w w' v v') : NsAt w' v' oc ns := fun j x hx => by
  obtain ⟨g, h1, h2, h3⟩ := h j x hx
  obtain ⟨k1, k2⟩ := hk g (cell_lt h3) h2
  refine ⟨g, h1, k2, ?_⟩
  rw [← h3]; unfold World.cell?; rw [k1]
def ROut (vs : List ByteArray) (R : List (List UInt8)) (k : Nat) (ms : List (List UInt8)) : Prop := ms.length ≤ 64 ∧ R = (ms ++ allGo (vs.drop k)).take 64
def RIn (vs : List ByteArray) (R : List (List UInt8)) (k : Nat) (x : ByteArray) (j : Nat) (ms : List (List UInt8)) : Prop := ms.length ≤ 64 ∧ R = (ms ++ ((membersL (bs x)).drop j ++ allGo (vs.drop (k + 1)))).take 64
theorem ROut.inn {vs : List ByteArray} {R : List (List UInt8)} {k : Nat} {ms : List (List UInt8)} {x : ByteArray} (h : ROut vs R k ms) (hx : vs[k]? = some x) : RIn vs R k x 0 ms := by
  obtain ⟨hk, he⟩ := List.getElem?_eq_some_iff.1 hx
  refine ⟨h.1, ?_⟩
  rw [h.2, List.drop_eq_getElem_cons hk, he]
  unfold allGo
  rw [List.flatMap_cons, List.drop_zero]
theorem ROut.over {vs : List ByteArray} {R : List (List UInt8)} {k : Nat} {ms : List (List UInt8)} (h : ROut vs R k ms) (hk : vs.length ≤ k) : R = ms := by
  rw [h.2, List.drop_of_length_le hk]
  show (ms ++ []).take 64 = ms
  rw [List.append_nil, List.take_of_length_le h.1]
theorem RIn.over {vs : List ByteArray} {R : List (List UInt8)} {k : Nat} {x : ByteArray} {j : Nat} {ms : List (List UInt8)} (h : RIn vs R k x j ms) (hj : (membersL (bs x)).length ≤ j) : ROut vs R (k + 1) ms := by
  refine ⟨h.1, ?_⟩
  rw [h.2, List.drop_of_length_le hj, List.nil_append]
theorem RIn.full {vs : List ByteArray} {R : List (List UInt8)} {k : Nat} {x : ByteArray} {j : Nat} {ms : List (List UInt8)} (h : RIn vs R k x j ms) (hm : 64 ≤ ms.length) : ROut vs R (k + 1) ms := by
  refine ⟨h.1, ?_⟩
  rw [h.2, List.take_append_of_le_length hm, List.take_append_of_le_length hm]
theorem RIn.step {vs : List ByteArray} {R : List (List UInt8)} {k : Nat} {x : ByteArray} {j : Nat} {ms : List (List UInt8)} {m : List UInt8} (h : RIn vs R k x j ms) (hm : (membersL (bs x))[j]? = some m) (hl : ms.length < 64) : RIn vs R k x (j + 1) (ms ++ [m]) := by
  obtain ⟨hk, he⟩ := List.getElem?_eq_some_iff.1 hm
  refine ⟨by simp; omega, ?_⟩
  rw [h.2, List.drop_eq_getElem_cons hk, he]
  simp
end Go.Proofs.YtglckhljpjcmaaaGreatDoor
