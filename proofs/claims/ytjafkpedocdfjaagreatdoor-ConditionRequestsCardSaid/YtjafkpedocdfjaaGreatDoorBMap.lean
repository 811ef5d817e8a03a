/- A map[string]bool of the call's own, as the names at which it holds true; the loop's law in plain form. -/
import Derived.Test.YtjafkpedocdfjaaGreatDoorSeqM
import Derived.Maps.OwnSet
import Derived.Maps.OwnOps
import Derived.Maps.Views
import Derived.StringKeys
namespace Go.Proofs.YtjafkpedocdfjaaGreatDoor
open Go.RowKit Go.Shelf
attribute [local go_sem] Oper.semAt_some

/-- Block b holds a map[string]bool, of at most n entries, at which a look-up gives f. -/
def MapB (W : World) (b n : Nat) (f : List UInt8 → Bool) : Prop :=
  ∃ D : DataW Unit, W.ownsMap Tryz.prog 9 (plainElem (H := Unit) Tryz.prog 4) b n D ∧ ∀ s, D.atKey (.string s) (.lit (.bool false)) = .lit (.bool (f s))
theorem mapB_made (w : World) : MapB (w.alloc (.map #[] 0)) w.heap.size 0 (fun _ => false) :=
  ⟨.map [], World.ownsMap_made _ _ _ _, fun _ => rfl⟩
theorem MapB.kept {W W' : World} {b n : Nat} {f : List UInt8 → Bool} {row : Option Nat} (h : MapB W b n f) (hg : W.grownBy W' row) (hne : some b ≠ row) : MapB W' b n f := by
  obtain ⟨D, h1, h2⟩ := h; exact ⟨D, h1.kept hg hne, h2⟩
theorem MapB.alloc {W : World} {b n : Nat} {f : List UInt8 → Bool} (h : MapB W b n f) (o : Obj) : MapB (W.alloc o) b n f := by
  obtain ⟨D, h1, h2⟩ := h; exact ⟨D, h1.alloc o, h2⟩
theorem MapB.mono {W : World} {b n m : Nat} {f : List UInt8 → Bool} (h : MapB W b n f) (hm : n ≤ m) : MapB W b m f := by
  obtain ⟨D, h1, h2⟩ := h; exact ⟨D, h1.mono hm, h2⟩
theorem MapB.lt {W : World} {b n : Nat} {f : List UInt8 → Bool} (h : MapB W b n f) : b < W.heap.size := by
  obtain ⟨D, h1, _⟩ := h; exact h1.lt
theorem MapB.row {W W' : World} {b n : Nat} {f : List UInt8 → Bool} (h : MapB W b n f) (hb : W'.heap[b]? = W.heap[b]?) : MapB W' b n f := by
  obtain ⟨D, ⟨es, ck, g1, g2⟩, h2⟩ := h; exact ⟨D, ⟨es, ck, hb.trans g1, g2⟩, h2⟩
theorem MapB.setCell {W : World} {b n : Nat} {f : List UInt8 → Bool} (h : MapB W b n f) {a : Addr} (ha : b ≠ a.block) (u : Value) : MapB (W.setCell a u) b n f := by
  obtain ⟨D, h1, h2⟩ := h; exact ⟨D, h1.setCell ha u, h2⟩
theorem lit_key (s : List UInt8) : WideAt.IsKeyLit (.string s) := by constructor
theorem MapB.put {W : World} {b n : Nat} {f : List UInt8 → Bool} (h : MapB W b n f) (hn : n < maxLen) (s : ByteArray) (hs : s.size ≤ maxLen) :
    ∃ W', (Instr.mapUpdate 95 (.map (some b)) (.string s) (.bool true)).run Tryz.prog W = .ok () W' ∧ MapB W' b (n + 1) (fun x => x == bs s || f x) ∧ W.grownBy W' (some b) := by
  obtain ⟨D, h1, h2⟩ := h
  obtain ⟨W', r1, r2, r3⟩ := h1.update (Maps.string_keyed Tryz.underlying9) Tryz.underlying95 hn (WideMaps.keyOf_string_mk Tryz.underlying9 hs) (plainElem_bool Tryz.underlying4 true)
  refine ⟨W', r1, ⟨_, r2, fun x => ?_⟩, r3⟩
  by_cases hx : x = bs s
  · subst hx
    simp only [beq_self_eq_true, Bool.true_or]
    exact Maps.atKey_put_same h1.isMap (lit_key _) _ _
  · have hne : (Lit.string x) ≠ .string s.data.toList := fun e => hx (by injection e)
    show _ = DataW.lit (.bool (x == bs s || f x))
    rw [show (x == bs s) = false from by simpa using hx, Bool.false_or]
    exact (Maps.atKey_put_other hne _ _).trans (h2 x)
theorem MapB.del {W : World} {b n : Nat} {f : List UInt8 → Bool} (h : MapB W b n f) (s : ByteArray) (hs : s.size ≤ maxLen) (ty : TypeId) :
    ∃ W', (Builtin.delete_ #[95, 9] ty #[.map (some b), .string s]).run Tryz.prog W = .ok (.tuple #[]) W' ∧ MapB W' b n (fun x => !(x == bs s) && f x) ∧ W.grownBy W' (some b) := by
  obtain ⟨D, h1, h2⟩ := h
  obtain ⟨W', r1, r2, r3⟩ := h1.drop (Maps.string_keyed Tryz.underlying9) Tryz.underlying95 (WideMaps.keyOf_string_mk Tryz.underlying9 hs) ty
  refine ⟨W', r1, ⟨_, r2, fun x => ?_⟩, r3.grown⟩
  by_cases hx : x = bs s
  · subst hx
    simp only [beq_self_eq_true, Bool.not_true, Bool.false_and]
    exact Maps.atKey_del_same _
  · have hne : (Lit.string x) ≠ .string s.data.toList := fun e => hx (by injection e)
    show _ = DataW.lit (.bool (!(x == bs s) && f x))
    rw [show (x == bs s) = false from by simpa using hx, Bool.not_false, Bool.true_and]
    exact (Maps.atKey_del_other hne _).trans (h2 x)
theorem plainElem_bool_inv {v : Value} {x : Bool} {ps : List MemPlace} (h : plainElem (H := Unit) Tryz.prog 4 v = some (.lit (.bool x), ps)) : v = .bool x := by
  unfold plainElem at h
  have hu := Tryz.underlying4
  generalize Tryz.prog.underlying 4 = u at h hu
  subst hu
  cases v <;> simp_all
theorem zeroB (w : World) : (zeroValue 4).run Tryz.prog w = .ok (.bool false) w := by kernel_rfl
theorem MapB.look {W : World} {b n : Nat} {f : List UInt8 → Bool} (h : MapB W b n f) (s : ByteArray) (hs : s.size ≤ maxLen) :
    (Instr.lookup 95 (.map (some b)) (.string s) false).run Tryz.prog W = .ok (.bool (f (bs s))) W := by
  obtain ⟨D, h1, h2⟩ := h
  obtain ⟨v, ps, r1, r2⟩ := h1.lookup (Maps.string_keyed Tryz.underlying9) Tryz.underlying95 (z := .bool false) (zeroB _) (plainElem_bool Tryz.underlying4 false) (WideMaps.keyOf_string_mk Tryz.underlying9 hs)
  rw [show s.data.toList = bs s from rfl, h2] at r2
  rw [plainElem_bool_inv r2] at r1
  exact r1
end Go.Proofs.YtjafkpedocdfjaaGreatDoor
