/- append(own, list...) for rows of fields; a struct value built by the call appended. -/
import Derived.Test.YtglckhljpjcmaaaGreatDoorQPre
import Derived.Laws.OwnMore
namespace Go.Proofs.YtglckhljpjcmaaaGreatDoor
open Go.RowKit

theorem run_append_none_any {P : Program} {w : World} (base : Nat) (t ty e : TypeId) (i : TypeInfo) (size : Nat) (ht : P.underlying t = some (.slice e)) (hi : P.info? e = some i)
    (v : Value) (n : Nat) (xs : List Value) (c : Nat) (hown : w.ownsRow base e size v n xs) :
    (Builtin.append_ #[t, t] ty #[v, .slice none 0 c]).run P w = .ok v w := by
  rcases hown.2 with ⟨rfl, rfl⟩ | ⟨g, cap, cur, rfl, _, _, hnc, _⟩
  · simp [Builtin.append_, run_underlying ht, sizeOf, typeInfo, hi, Builtin.lenOf, Builtin.firstCells]
  · simp [Builtin.append_, run_underlying ht, sizeOf, typeInfo, hi, Builtin.lenOf, Builtin.firstCells, hnc, storeCells]
theorem wpList_append_none_any {P : Program} {w : World} {ops : Array Oper} {rest : List Oper} {o : Oper} {a : Act} {Q : Exit → Act → World → Prop} (hgd : o.guard = none) (s x : Operand) (t : TypeId)
    (ho : o.op = .call { callee := .builtin .append, args := #[s, x], argTypes := #[t, t] })
    (base : Nat) (e : TypeId) (i : TypeInfo) (size : Nat) (ht : P.underlying t = some (.slice e)) (hi : P.info? e = some i)
    (v : Value) (n : Nat) (xs : List Value) (c : Nat) (hs : a.eval s = v) (hown : w.ownsRow base e size v n xs) (hx : a.eval x = .slice none 0 c)
    (h : wpList P ops Q rest (a.put o.dst v) w) : wpList P ops Q (o :: rest) a w := by
  refine wpList_plain hgd fun K hK => ?_
  have hrun := run_append_none_any (P := P) (w := w) base t o.type e i size ht hi v n xs c hown
  unfold Oper.wp
  simp [execOp, ho, resolve, invoke, builtin, hs, hx, hrun, Result.andThen]
  exact hK _ _ h
theorem fcells_app (xs ys : List Fd) : fcells (xs ++ ys) = fcells xs ++ fcells ys := by
  induction xs with
  | nil => rfl
  | cons x t ih => simp only [List.cons_append, fcells, ih]
theorem fcells_get (ys : List Fd) (j : Nat) (u : Value) (h : (fcells ys)[j]? = some u) : ∃ (i : Nat) (x : Fd), ys[i]? = some x ∧ ((j = i * 2 ∧ u = .string x.1) ∨ (j = i * 2 + 1 ∧ u = .string x.2)) := by
  induction ys generalizing j with
  | nil => simp [fcells] at h
  | cons y t ih =>
    match j, h with
    | 0, h => exact ⟨0, y, rfl, .inl ⟨rfl, by simpa [fcells] using h.symm⟩⟩
    | 1, h => exact ⟨0, y, rfl, .inr ⟨rfl, by simpa [fcells] using h.symm⟩⟩
    | j + 2, h =>
      obtain ⟨i, x, h1, h2⟩ := ih j (by simpa [fcells] using h)
      refine ⟨i + 1, x, by simpa using h1, ?_⟩
      rcases h2 with ⟨rfl, h2⟩ | ⟨rfl, h2⟩
      · exact .inl ⟨by omega, h2⟩
      · exact .inr ⟨by omega, h2⟩
theorem wpList_append_flds {ops : Array Oper} {rest : List Oper} {o : Oper} {a : Act} {Q : Exit → Act → World → Prop} (hgd : o.guard = none) (s x : Operand)
    (ho : o.op = .call { callee := .builtin .append, args := #[s, x], argTypes := #[24, 24] })
    (w0 w : World) (B : Nat) (v : Value) (xs : List Fd) (hs : a.eval s = v) (hown : FBuf w B v xs) (hb : Below B w0 w) (hB : B ≤ w.heap.size)
    (oa : Option Addr) (ys : List Fd) (cap : Nat) (hx : a.eval x = .slice oa ys.length cap) (hy : FldO w oa ys) (hl : xs.length + ys.length ≤ 1000000)
    (h : ∀ v' w', FBuf w' B v' (xs ++ ys) → Below B w0 w' → B ≤ w'.heap.size → wpList Tryz.prog ops Q rest (a.put o.dst v') w') : wpList Tryz.prog ops Q (o :: rest) a w := by
  obtain ⟨i, hi, hz0, hz1, hz2⟩ := info_parts infoFld
  cases oa with
  | none =>
    have e0 : ys = [] := by
      cases ys with
      | nil => rfl
      | cons y t =>
        obtain ⟨ad, h', _⟩ := hy 0 y rfl
        cases h'
    subst e0
    refine wpList_append_none_any hgd s x _ ho B 47 i 2 Tryz.underlying24 hi v xs.length _ cap hs hown hx ?_
    exact h v w (by rw [List.append_nil]; exact hown) hb hB
  | some ad =>
    refine wpList_append_own w hgd s x 24 ho B 47 i (.agg #[.string ByteArray.empty, .string ByteArray.empty]) 2 32 Tryz.underlying24 hi hz0 hz1 hz2 rfl (by decide) v xs.length _ hs hown ad ys.length cap (fcells ys) hx (fcells_len ys) ?_ ?_ (by unfold maxLen; omega) (by omega) hB ?_
    · intro j u hj
      obtain ⟨k, f, h1, h2⟩ := fcells_get ys j u hj
      obtain ⟨ad', e', c0, c1⟩ := hy k f h1
      cases e'
      rcases h2 with ⟨rfl, rfl⟩ | ⟨rfl, rfl⟩
      · exact c0
      · exact c1
    · intro u hu
      obtain ⟨j, hj⟩ := List.mem_iff_getElem?.1 hu
      obtain ⟨k, f, h1, h2⟩ := fcells_get ys j u hj
      rcases h2 with ⟨_, rfl⟩ | ⟨_, rfl⟩ <;> rfl
    · intro v' w' hown' hg _
      refine h v' w' ?_ (hb.grown hg hB (fun j hj => (World.ownsRow.lt hown j hj).1)) (Nat.le_trans hB hg.size)
      unfold FBuf
      rw [fcells_app, List.length_append]
      exact hown'
end Go.Proofs.YtglckhljpjcmaaaGreatDoor
