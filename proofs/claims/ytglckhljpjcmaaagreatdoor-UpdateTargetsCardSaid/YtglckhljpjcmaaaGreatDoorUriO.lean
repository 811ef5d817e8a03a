/- A URI as an argument by value: opened, and handed back whatever the world. -/
import Derived.Lib.SmallJoins
import Derived.ProofKit
import Derived.OpenShut
namespace Go.Proofs.YtglckhljpjcmaaaGreatDoor
open Go.Joins Go.ChangeShapes Go.WideShapes Go.RowKit Go.Deep

section
variable {H : Type} {enc : TypeId × Value → H} {P : Program}
theorem hone1 {fs : Array Field} {w : World} {base : Nat} {spare : Nat → Bool} {held : Bool} (hone : oneCellFields P fs = true) {cs : List Value} {n m : Nat} {j : Nat} {f : Field} (hj : fs[j]? = some f) {v : Value} (hv : (cs.drop j).take 1 = [v]) (hm : n ≤ m)
    {y : DataW H × List MemPlace} (h : DataW.trod enc P w base spare held n f.type [v] = some y) : DataW.trod enc P w base spare held m f.type ((cs.drop f.offset).take (P.cellsOf f.type)) = some y := by
  obtain ⟨o, k⟩ := hone_of hone j f hj
  rw [o, k, hv]
  exact DataW.trod_le hm h
theorem open_uri {w : World} {base : Nat} {spare : Nat → Bool} {held : Bool} {r : Reach} {b0 : Nat} {t : TypeId} {f0 f1 f2 f3 f4 : Field} {v : Value} {d : DataW H} {pl : List MemPlace} (hs : P.underlying t = some (.struct #[f0, f1, f2, f3, f4])) (hone : oneCellFields P #[f0, f1, f2, f3, f4] = true) (hC : P.cellsOf t = 5)
    (u0 : P.underlying f0.type = some .string) (u1 : P.underlying f1.type = some (.int .i64)) (u2 : P.underlying f2.type = some .string) (u3 : P.underlying f3.type = some .string) (u4 : P.underlying f4.type = some .bool)
    (hv : Value.okWide P w r b0 t v) (h : DataW.Trod enc P w base spare held t v d pl) :
    ∃ (h : ByteArray) (n : Int) (p q : ByteArray) (b : Bool), v = .agg #[.string h, .int .i64 n, .string p, .string q, .bool b] ∧ pl = [] ∧ (Lit.int .i64 n).wf = true ∧ h.size ≤ maxLen ∧ p.size ≤ maxLen ∧ q.size ≤ maxLen ∧
      ∀ (w' : World) (base' : Nat) (spare' : Nat → Bool) (held' : Bool), DataW.Trod enc P w' base' spare' held' t v d [] := by
  obtain ⟨cs, rfl, hsz⟩ := okWide_struct hs hv
  obtain ⟨l⟩ := cs
  match l, hsz.trans hC with
  | [c0, c1, c2, c3, c4], _ =>
    obtain ⟨fuel, hf⟩ := h
    obtain ⟨xs, n, _, hx, _, hlen, hg⟩ := DataW.trod_struct hs hf
    obtain ⟨o0, k0⟩ := hone_of hone 0 f0 rfl
    obtain ⟨o1, k1⟩ := hone_of hone 1 f1 rfl
    obtain ⟨o2, k2⟩ := hone_of hone 2 f2 rfl
    obtain ⟨o3, k3⟩ := hone_of hone 3 f3 rfl
    obtain ⟨o4, k4⟩ := hone_of hone 4 f4 rfl
    match xs, hlen with
    | [y0, y1, y2, y3, y4], _ =>
      simp only [Prod.mk.injEq] at hx
      have g0 : DataW.trod enc P w base spare held n f0.type [c0] = some y0 := by simpa [Value.cells, o0, k0] using hg 0 f0 rfl
      have g1 : DataW.trod enc P w base spare held n f1.type [c1] = some y1 := by simpa [Value.cells, o1, k1] using hg 1 f1 rfl
      have g2 : DataW.trod enc P w base spare held n f2.type [c2] = some y2 := by simpa [Value.cells, o2, k2] using hg 2 f2 rfl
      have g3 : DataW.trod enc P w base spare held n f3.type [c3] = some y3 := by simpa [Value.cells, o3, k3] using hg 3 f3 rfl
      have g4 : DataW.trod enc P w base spare held n f4.type [c4] = some y4 := by simpa [Value.cells, o4, k4] using hg 4 f4 rfl
      obtain ⟨a0, e0, rfl, s0⟩ := DataW.trod_string u0 g0
      obtain ⟨a1, e1, rfl, s1⟩ := DataW.trod_int u1 g1
      obtain ⟨a2, e2, rfl, s2⟩ := DataW.trod_string u2 g2
      obtain ⟨a3, e3, rfl, s3⟩ := DataW.trod_string u3 g3
      obtain ⟨a4, e4, rfl⟩ := DataW.trod_bool u4 g4
      cases e0; cases e1; cases e2; cases e3; cases e4
      refine ⟨a0, a1, a2, a3, a4, rfl, by simpa using hx.2, s1, s0, s2, s3, fun w' base' spare' held' => ?_⟩
      have j0 : DataW.trod enc P w' base' spare' held' 1 f0.type [.string a0] = some (.lit (.string a0.data.toList), []) := by simp [DataW.trod, u0, s0]
      have j1 : DataW.trod enc P w' base' spare' held' 1 f1.type [.int .i64 a1] = some (.lit (.int .i64 a1), []) := by simp [DataW.trod, u1, s1]
      have j2 : DataW.trod enc P w' base' spare' held' 1 f2.type [.string a2] = some (.lit (.string a2.data.toList), []) := by simp [DataW.trod, u2, s2]
      have j3 : DataW.trod enc P w' base' spare' held' 1 f3.type [.string a3] = some (.lit (.string a3.data.toList), []) := by simp [DataW.trod, u3, s3]
      have j4 : DataW.trod enc P w' base' spare' held' 1 f4.type [.bool a4] = some (.lit (.bool a4), []) := by simp [DataW.trod, u4]
      obtain ⟨cs, hcs⟩ : ∃ cs : List Value, cs = [.string a0, .int .i64 a1, .string a2, .string a3, .bool a4] := ⟨_, rfl⟩
      have i0 := hone1 (cs := cs) hone (j := 0) (f := f0) rfl (by rw [hcs]; rfl) (Nat.le_refl 1) j0
      have i1 := hone1 (cs := cs) hone (j := 1) (f := f1) rfl (by rw [hcs]; rfl) (Nat.le_refl 1) j1
      have i2 := hone1 (cs := cs) hone (j := 2) (f := f2) rfl (by rw [hcs]; rfl) (Nat.le_refl 1) j2
      have i3 := hone1 (cs := cs) hone (j := 3) (f := f3) rfl (by rw [hcs]; rfl) (Nat.le_refl 1) j3
      have i4 := hone1 (cs := cs) hone (j := 4) (f := f4) rfl (by rw [hcs]; rfl) (Nat.le_refl 1) j4
      have ts := trod_struct_mk (enc := enc) (w := w') (base := base') (spare := spare') (held := held') (n := 1) (cs := cs)
        (xs := [(.lit (.string a0.data.toList), []), (.lit (.int .i64 a1), []), (.lit (.string a2.data.toList), []), (.lit (.string a3.data.toList), []), (.lit (.bool a4), [])]) hs (by rw [hcs, hC]; rfl)
        (by simp [i0, i1, i2, i3, i4])
      rw [hcs] at ts
      refine ⟨2, ?_⟩
      rw [hx.1]
      simpa [Value.cells] using ts
end
end Go.Proofs.YtglckhljpjcmaaaGreatDoor
