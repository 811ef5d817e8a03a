/- Entries among the arguments, opened; keep.Keys and keep.Entry walked. -/
import Derived.Test.YtglckhljpjcmaaaGreatDoorQArgO
import Derived.Test.YtglckhljpjcmaaaGreatDoorQKeepS
import Derived.Test.YtglckhljpjcmaaaGreatDoorQCondV
namespace Go.Proofs.YtglckhljpjcmaaaGreatDoor
open Go.Joins Go.ChangeShapes Go.WideShapes Go.RowKit Go.Deep

section
variable {H : Type} {enc : TypeId × Value → H} {P : Program}
theorem open8 {w : World} {base : Nat} {spare : Nat → Bool} {held : Bool} {r : Reach} {b0 : Nat} {t : TypeId} {f0 f1 f2 f3 f4 f5 f6 f7 : Field} {v : Value} {d : DataW H} {pl : List MemPlace} (hs : P.underlying t = some (.struct #[f0, f1, f2, f3, f4, f5, f6, f7])) (hone : oneCellFields P #[f0, f1, f2, f3, f4, f5, f6, f7] = true) (hC : P.cellsOf t = 8)
    (hv : Value.okWide P w r b0 t v) (h : DataW.Trod enc P w base spare held t v d pl) :
    ∃ (c0 c1 c2 c3 c4 c5 c6 c7 : Value) (n : Nat) (y0 y1 y2 y3 y4 y5 y6 y7 : DataW H × List MemPlace), v = .agg #[c0, c1, c2, c3, c4, c5, c6, c7] ∧ DataW.trod enc P w base spare held n f0.type [c0] = some y0 ∧ DataW.trod enc P w base spare held n f1.type [c1] = some y1 ∧
      DataW.trod enc P w base spare held n f2.type [c2] = some y2 ∧ DataW.trod enc P w base spare held n f3.type [c3] = some y3 ∧ DataW.trod enc P w base spare held n f4.type [c4] = some y4 ∧ DataW.trod enc P w base spare held n f5.type [c5] = some y5 ∧ DataW.trod enc P w base spare held n f6.type [c6] = some y6 ∧ DataW.trod enc P w base spare held n f7.type [c7] = some y7 := by
  obtain ⟨cs, rfl, hsz⟩ := okWide_struct hs hv
  obtain ⟨l⟩ := cs
  match l, hsz.trans hC with
  | [c0, c1, c2, c3, c4, c5, c6, c7], _ =>
    obtain ⟨fuel, hf⟩ := h
    obtain ⟨xs, n, _, hx, _, hlen, hg⟩ := DataW.trod_struct hs hf
    obtain ⟨o0, k0⟩ := hone_of hone 0 f0 rfl
    obtain ⟨o1, k1⟩ := hone_of hone 1 f1 rfl
    obtain ⟨o2, k2⟩ := hone_of hone 2 f2 rfl
    obtain ⟨o3, k3⟩ := hone_of hone 3 f3 rfl
    obtain ⟨o4, k4⟩ := hone_of hone 4 f4 rfl
    obtain ⟨o5, k5⟩ := hone_of hone 5 f5 rfl
    obtain ⟨o6, k6⟩ := hone_of hone 6 f6 rfl
    obtain ⟨o7, k7⟩ := hone_of hone 7 f7 rfl
    match xs, hlen with
    | [y0, y1, y2, y3, y4, y5, y6, y7], _ =>
      exact ⟨c0, c1, c2, c3, c4, c5, c6, c7, n, y0, y1, y2, y3, y4, y5, y6, y7, rfl, by simpa [Value.cells, o0, k0] using hg 0 f0 rfl, by simpa [Value.cells, o1, k1] using hg 1 f1 rfl, by simpa [Value.cells, o2, k2] using hg 2 f2 rfl, by simpa [Value.cells, o3, k3] using hg 3 f3 rfl, by simpa [Value.cells, o4, k4] using hg 4 f4 rfl,
        by simpa [Value.cells, o5, k5] using hg 5 f5 rfl, by simpa [Value.cells, o6, k6] using hg 6 f6 rfl, by simpa [Value.cells, o7, k7] using hg 7 f7 rfl⟩
theorem open_strs_c {e0 t : TypeId} {W : World} {n : Nat} {v : Value} {y : DataW H × List MemPlace} (he : P.underlying e0 = some .string) (hce : P.cellsOf e0 = 1) (ht : P.underlying t = some (.slice e0))
    (hf : DataW.trod enc P W 0 (fun _ => true) true n t [v] = some y) :
    ∃ (oa : Option Addr) (xs : List ByteArray) (cap : Nat), v = .slice oa xs.length cap ∧ StrO W oa xs ∧ (∀ x ∈ xs, x.size ≤ bigN) ∧ xs.length ≤ bigN := by
  rcases open_strings ht he hce hf with ⟨hcs, hx⟩ | ⟨a, len', cap', ss, hcs, _, hl, hm, hz, hx, hcell, hws⟩
  · cases one_cell hcs
    exact ⟨none, [], 0, rfl, fun i x hx => by simp at hx, fun x hx => by simp at hx, by simp⟩
  · cases one_cell hcs
    simp only [if_true] at hz
    have hlen : (ss.take len').length = len' := by rw [List.length_take]; omega
    refine ⟨some a, ss.take len', cap', by rw [hlen], fun i x hx => ?_, fun x hx => ?_, ?_⟩
    · rw [List.getElem?_take] at hx
      split at hx
      · rename_i hi
        have hi' : i < ss.length := (List.getElem?_eq_some_iff.1 hx).1
        refine ⟨a, rfl, ?_⟩
        rw [hcell i hi', List.getD_eq_getElem?_getD, hx]; rfl
      · cases hx
    · have := hws x (List.mem_of_mem_take hx)
      unfold maxLen at this; exact this
    · rw [hlen]; unfold maxLen at hm; show _ ≤ 9223372036854775807; omega
end
/-- A list of lists of strings lies behind the address. -/
def MatO (w : World) (oa : Option Addr) (ks : List (List ByteArray)) : Prop := ∀ (i : Nat) (row : List ByteArray), ks[i]? = some row → ∃ (ad : Addr) (o : Option Addr) (cap : Nat), oa = some ad ∧ w.cell? (ad.add i) = some (.slice o row.length cap) ∧ StrO w o row
def MatZ (ks : List (List ByteArray)) (n m : Nat) : Prop := ∀ row ∈ ks, row.length ≤ n ∧ ∀ x ∈ row, x.size ≤ m
theorem MatO.down {w w' : World} {oa : Option Addr} {ks : List (List ByteArray)} (h : MatO w oa ks) (hb : Below w.heap.size w w') : MatO w' oa ks := fun i row hr => by
  obtain ⟨ad, o, cap, h1, h2, h3⟩ := h i row hr
  exact ⟨ad, o, cap, h1, (hb.cell (cell_lt h2)).trans h2, h3.down hb⟩
theorem open_mat {H : Type} {enc : TypeId × Value → H} {P : Program} {e0 t u : TypeId} {W : World} {n : Nat} {v : Value} {y : DataW H × List MemPlace} (he : P.underlying e0 = some .string) (hce : P.cellsOf e0 = 1) (ht : P.underlying t = some (.slice e0)) (hct : P.cellsOf t = 1) (hu : P.underlying u = some (.slice t))
    (hf : DataW.trod enc P W 0 (fun _ => true) true n u [v] = some y) :
    ∃ (oa : Option Addr) (ks : List (List ByteArray)) (cap : Nat), v = .slice oa ks.length cap ∧ MatO W oa ks ∧ MatZ ks bigN bigN ∧ ks.length ≤ bigN := by
  rcases open_slice1 hu hct hf with ⟨hcs, _⟩ | ⟨a, len, cap, m, n', V, D, Pl, hcs, _, hl, hm, hmm, _, hi⟩
  · cases one_cell hcs
    exact ⟨none, [], 0, rfl, fun i x hx => by simp at hx, fun x hx => by simp at hx, by simp⟩
  · cases one_cell hcs
    simp only [if_true] at hmm
    have each : ∀ i, i < m → ∃ row : List ByteArray, (∃ (o : Option Addr) (c : Nat), W.cell? (a.add i) = some (.slice o row.length c) ∧ StrO W o row) ∧ (∀ x ∈ row, x.size ≤ bigN) ∧ row.length ≤ bigN := by
      intro i him
      obtain ⟨c0, t0⟩ := hi i him
      obtain ⟨o, row, c, e1, h1, h2, h3⟩ := open_strs_c he hce ht t0
      exact ⟨row, ⟨o, c, by rw [c0, e1], h1⟩, h2, h3⟩
    obtain ⟨q, hq⟩ := choose_lt each
    refine ⟨some a, (List.range len).map q, cap, by simp, fun i row hx => ?_, fun row hx => ?_, ?_⟩
    · rw [List.getElem?_map] at hx
      cases hr : (List.range len)[i]? with
      | none => rw [hr] at hx; cases hx
      | some j =>
        rw [hr] at hx
        obtain ⟨hil, hj⟩ := List.getElem?_eq_some_iff.1 hr
        rw [List.length_range] at hil
        rw [List.getElem_range] at hj
        subst hj
        cases hx
        obtain ⟨⟨o, c, h1, h2⟩, _⟩ := hq i (by omega)
        exact ⟨a, o, c, rfl, h1, h2⟩
    · obtain ⟨i, hi', rfl⟩ := List.mem_map.1 hx
      have := hq i (by have := List.mem_range.1 hi'; omega)
      exact ⟨this.2.2, this.2.1⟩
    · rw [List.length_map, List.length_range]; unfold maxLen at hm; show _ ≤ 9223372036854775807; omega
theorem cells_strs : Tryz.prog.cellsOf 29 = 1 := by kernel_rfl
theorem open_ent {H : Type} {enc : TypeId × Value → H} {W : World} {v : Value}
    (h8 : ∃ (c0 c1 c2 c3 c4 c5 c6 c7 : Value) (n : Nat) (y0 y1 y2 y3 y4 y5 y6 y7 : DataW H × List MemPlace), v = .agg #[c0, c1, c2, c3, c4, c5, c6, c7] ∧ DataW.trod enc Tryz.prog W 0 (fun _ => true) true n 48 [c0] = some y0 ∧ DataW.trod enc Tryz.prog W 0 (fun _ => true) true n 29 [c1] = some y1 ∧
      DataW.trod enc Tryz.prog W 0 (fun _ => true) true n 29 [c2] = some y2 ∧ DataW.trod enc Tryz.prog W 0 (fun _ => true) true n 9 [c3] = some y3 ∧ DataW.trod enc Tryz.prog W 0 (fun _ => true) true n 24 [c4] = some y4 ∧ DataW.trod enc Tryz.prog W 0 (fun _ => true) true n 9 [c5] = some y5 ∧
      DataW.trod enc Tryz.prog W 0 (fun _ => true) true n 2 [c6] = some y6 ∧ DataW.trod enc Tryz.prog W 0 (fun _ => true) true n 2 [c7] = some y7) :
    ∃ (ok : Option Addr) (ks : List (List ByteArray)) (ck : Nat) (ov : Option Addr) (vs : List ByteArray) (cv : Nat) (os : Option Addr) (ss : List ByteArray) (cs : Nat) (rs : ByteArray) (oe : Option Addr) (es : List Fd) (ce : Nat) (be : ByteArray) (r1 r2 : Int),
      v = .agg #[.slice ok ks.length ck, .slice ov vs.length cv, .slice os ss.length cs, .string rs, .slice oe es.length ce, .string be, .int .i64 r1, .int .i64 r2] ∧ MatO W ok ks ∧ MatZ ks bigN bigN ∧ ks.length ≤ bigN ∧ StrO W ov vs ∧ (∀ x ∈ vs, x.size ≤ bigN) ∧ vs.length ≤ bigN ∧ StrO W os ss ∧ (∀ x ∈ ss, x.size ≤ bigN) ∧ ss.length ≤ bigN ∧
      rs.size ≤ bigN ∧ FldO W oe es ∧ FldZ es bigN ∧ es.length ≤ bigN ∧ be.size ≤ bigN ∧ (Lit.int .i64 r1).wf = true ∧ (Lit.int .i64 r2).wf = true := by
  obtain ⟨c0, c1, c2, c3, c4, c5, c6, c7, n, y0, y1, y2, y3, y4, y5, y6, y7, rfl, g0, g1, g2, g3, g4, g5, g6, g7⟩ := h8
  obtain ⟨ok, ks, ck, e0, k1, k2, k3⟩ := open_mat Tryz.underlying9 cells_str Tryz.underlying29 cells_strs Tryz.underlying48 g0
  obtain ⟨ov, vs, cv, e1, v1, v2, v3⟩ := open_strs_c Tryz.underlying9 cells_str Tryz.underlying29 g1
  obtain ⟨os, ss, cs, e2, s1, s2, s3⟩ := open_strs_c Tryz.underlying9 cells_str Tryz.underlying29 g2
  obtain ⟨rs, e3, _, z3⟩ := DataW.trod_string Tryz.underlying9 g3
  obtain ⟨oe, es, ce, e4, f1, f2, f3⟩ := open_fld g4
  obtain ⟨be, e5, _, z5⟩ := DataW.trod_string Tryz.underlying9 g5
  obtain ⟨r1, e6, _, w6⟩ := DataW.trod_int Tryz.underlying2 g6
  obtain ⟨r2, e7, _, w7⟩ := DataW.trod_int Tryz.underlying2 g7
  cases e0; cases e1; cases e2; cases one_cell e3; cases e4; cases one_cell e5; cases one_cell e6; cases one_cell e7
  unfold maxLen at z3 z5
  exact ⟨ok, ks, ck, ov, vs, cv, os, ss, cs, rs, oe, es, ce, be, r1, r2, rfl, k1, k2, k3, v1, v2, v3, s1, s2, s3, z3, f1, f2, f3, z5, w6, w7⟩
/-- keep.Keys answers; and true says that the keys are few and short. -/
def KeysOf (ks : List (List ByteArray)) (w : World) (e : Ending) (w' : World) : Prop := ∃ b : Bool, e = .returned (.bool b) ∧ w = w' ∧ (b = true → ks.length ≤ 10 ∧ MatZ ks 20 100)
def EntZ (ks : List (List ByteArray)) (vs ss : List ByteArray) (rs : ByteArray) (es : List Fd) (be : ByteArray) : Prop :=
  (ks.length ≤ 10 ∧ MatZ ks 20 100) ∧ (vs.length ≤ 20 ∧ ∀ x ∈ vs, x.size ≤ 100) ∧ (ss.length ≤ 20 ∧ ∀ x ∈ ss, x.size ≤ 100) ∧ rs.size ≤ 100 ∧ be.size ≤ 2000 ∧ es.length ≤ 70 ∧ FldZ es 300
def EntOf (ks : List (List ByteArray)) (vs ss : List ByteArray) (rs : ByteArray) (es : List Fd) (be : ByteArray) (w : World) (e : Ending) (w' : World) : Prop := ∃ b : Bool, e = .returned (.bool b) ∧ Below w.heap.size w w' ∧ (b = true → EntZ ks vs ss rs es be)
abbrev entC8 (ok : Option Addr) (nk ck : Nat) (ov : Option Addr) (nv cv : Nat) (os : Option Addr) (ns cs : Nat) (rs : ByteArray) (oe : Option Addr) (ne ce : Nat) (be : ByteArray) (r1 r2 : Int) : List Value := [.slice ok nk ck, .slice ov nv cv, .slice os ns cs, .string rs, .slice oe ne ce, .string be, .int .i64 r1, .int .i64 r2]
abbrev entV8 (ok : Option Addr) (nk ck : Nat) (ov : Option Addr) (nv cv : Nat) (os : Option Addr) (ns cs : Nat) (rs : ByteArray) (oe : Option Addr) (ne ce : Nat) (be : ByteArray) (r1 r2 : Int) : Value := .agg #[.slice ok nk ck, .slice ov nv cv, .slice os ns cs, .string rs, .slice oe ne ce, .string be, .int .i64 r1, .int .i64 r2]
end Go.Proofs.YtglckhljpjcmaaaGreatDoor
