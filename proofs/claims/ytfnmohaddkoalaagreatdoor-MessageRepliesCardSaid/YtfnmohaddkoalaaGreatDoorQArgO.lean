/- Structs among the arguments, opened: responses and requests by value. -/
import Derived.Test.YtfnmohaddkoalaaGreatDoorQPre
import Derived.Lib.SmallJoins
import Derived.ProofKit
import Derived.OpenShut
namespace Go.Proofs.YtfnmohaddkoalaaGreatDoor
open Go.Joins Go.ChangeShapes Go.WideShapes Go.RowKit Go.Deep

section
variable {H : Type} {enc : TypeId × Value → H} {P : Program}
/-- A struct of five fields of one cell each. -/
theorem open5 {w : World} {base : Nat} {spare : Nat → Bool} {held : Bool} {r : Reach} {b0 : Nat} {t : TypeId} {f0 f1 f2 f3 f4 : Field} {v : Value} {d : DataW H} {pl : List MemPlace} (hs : P.underlying t = some (.struct #[f0, f1, f2, f3, f4])) (hone : oneCellFields P #[f0, f1, f2, f3, f4] = true) (hC : P.cellsOf t = 5)
    (hv : Value.okWide P w r b0 t v) (h : DataW.Trod enc P w base spare held t v d pl) :
    ∃ (c0 c1 c2 c3 c4 : Value) (n : Nat) (y0 y1 y2 y3 y4 : DataW H × List MemPlace), v = .agg #[c0, c1, c2, c3, c4] ∧ DataW.trod enc P w base spare held n f0.type [c0] = some y0 ∧ DataW.trod enc P w base spare held n f1.type [c1] = some y1 ∧
      DataW.trod enc P w base spare held n f2.type [c2] = some y2 ∧ DataW.trod enc P w base spare held n f3.type [c3] = some y3 ∧ DataW.trod enc P w base spare held n f4.type [c4] = some y4 := by
  obtain ⟨cs, rfl, hsz⟩ := okWide_struct hs hv
  obtain ⟨l⟩ := cs
  match l, hsz.trans hC with
  | [c0, c1, c2, c3, c4], _ =>
    obtain ⟨fuel, hf⟩ := h
    obtain ⟨xs, n, _, hx, _, hlen, hg⟩ := DataW.trod_struct hs hf
    obtain ⟨o0, k0⟩ := hone_of hone 0 f0 rfl
    obtain ⟨o1, k1⟩ := hone_of hone 1 f1 rfl
    obtain ⟨o2, k2⟩ := hone_of hone 2 f2 rfl
    obtain ⟨o3, k3⟩ := hone_of hone 3 f3 rfl
    obtain ⟨o4, k4⟩ := hone_of hone 4 f4 rfl
    match xs, hlen with
    | [y0, y1, y2, y3, y4], _ =>
      exact ⟨c0, c1, c2, c3, c4, n, y0, y1, y2, y3, y4, rfl, by simpa [Value.cells, o0, k0] using hg 0 f0 rfl, by simpa [Value.cells, o1, k1] using hg 1 f1 rfl, by simpa [Value.cells, o2, k2] using hg 2 f2 rfl, by simpa [Value.cells, o3, k3] using hg 3 f3 rfl, by simpa [Value.cells, o4, k4] using hg 4 f4 rfl⟩
end
abbrev bigN : Nat := 9223372036854775807
theorem one_cell {a b : Value} {l : List Value} (h : [a] = b :: l) : a = b := (List.cons.inj h).1
theorem open_resp {H : Type} {enc : TypeId × Value → H} {W : World} {v : Value}
    (h5 : ∃ (c0 c1 c2 c3 c4 : Value) (n : Nat) (y0 y1 y2 y3 y4 : DataW H × List MemPlace), v = .agg #[c0, c1, c2, c3, c4] ∧ DataW.trod enc Tryz.prog W 0 (fun _ => true) true n 3 [c0] = some y0 ∧ DataW.trod enc Tryz.prog W 0 (fun _ => true) true n 3 [c1] = some y1 ∧ DataW.trod enc Tryz.prog W 0 (fun _ => true) true n 9 [c2] = some y2 ∧ DataW.trod enc Tryz.prog W 0 (fun _ => true) true n 22 [c3] = some y3 ∧ DataW.trod enc Tryz.prog W 0 (fun _ => true) true n 9 [c4] = some y4) :
    ∃ (m st : Int) (rs : ByteArray) (oa : Option Addr) (xs : List Fd) (cap : Nat) (bd : ByteArray), v = .agg #[.int .i64 m, .int .i64 st, .string rs, .slice oa xs.length cap, .string bd] ∧ FldO W oa xs ∧ FldZ xs bigN ∧ xs.length ≤ bigN ∧ rs.size ≤ bigN ∧ bd.size ≤ bigN := by
  obtain ⟨c0, c1, c2, c3, c4, n, y0, y1, y2, y3, y4, rfl, g0, g1, g2, g3, g4⟩ := h5
  obtain ⟨a0, e0, _, _⟩ := DataW.trod_int Tryz.underlying3 g0
  obtain ⟨a1, e1, _, _⟩ := DataW.trod_int Tryz.underlying3 g1
  obtain ⟨a2, e2, _, s2⟩ := DataW.trod_string Tryz.underlying9 g2
  obtain ⟨oa, xs, cap, e3, hf, hz, hn⟩ := open_fld g3
  obtain ⟨a4, e4, _, s4⟩ := DataW.trod_string Tryz.underlying9 g4
  cases one_cell e0; cases one_cell e1; cases one_cell e2; cases e3; cases one_cell e4
  unfold maxLen at s2 s4
  exact ⟨a0, a1, a2, oa, xs, cap, a4, rfl, hf, hz, hn, s2, s4⟩
theorem open_respw {H : Type} {enc : TypeId × Value → H} {W : World} {v : Value}
    (h5 : ∃ (c0 c1 c2 c3 c4 : Value) (n : Nat) (y0 y1 y2 y3 y4 : DataW H × List MemPlace), v = .agg #[c0, c1, c2, c3, c4] ∧ DataW.trod enc Tryz.prog W 0 (fun _ => true) true n 3 [c0] = some y0 ∧ DataW.trod enc Tryz.prog W 0 (fun _ => true) true n 3 [c1] = some y1 ∧ DataW.trod enc Tryz.prog W 0 (fun _ => true) true n 9 [c2] = some y2 ∧ DataW.trod enc Tryz.prog W 0 (fun _ => true) true n 22 [c3] = some y3 ∧ DataW.trod enc Tryz.prog W 0 (fun _ => true) true n 9 [c4] = some y4) :
    ∃ (m st : Int) (rs : ByteArray) (oa : Option Addr) (xs : List Fd) (cap : Nat) (bd : ByteArray), v = .agg #[.int .i64 m, .int .i64 st, .string rs, .slice oa xs.length cap, .string bd] ∧ FldO W oa xs ∧ FldZ xs bigN ∧ xs.length ≤ bigN ∧ rs.size ≤ bigN ∧ bd.size ≤ bigN ∧ (Lit.int .i64 m).wf = true ∧ (Lit.int .i64 st).wf = true := by
  obtain ⟨c0, c1, c2, c3, c4, n, y0, y1, y2, y3, y4, rfl, g0, g1, g2, g3, g4⟩ := h5
  obtain ⟨a0, e0, _, w0⟩ := DataW.trod_int Tryz.underlying3 g0
  obtain ⟨a1, e1, _, w1⟩ := DataW.trod_int Tryz.underlying3 g1
  obtain ⟨a2, e2, _, s2⟩ := DataW.trod_string Tryz.underlying9 g2
  obtain ⟨oa, xs, cap, e3, hf, hz, hn⟩ := open_fld g3
  obtain ⟨a4, e4, _, s4⟩ := DataW.trod_string Tryz.underlying9 g4
  cases one_cell e0; cases one_cell e1; cases one_cell e2; cases e3; cases one_cell e4
  unfold maxLen at s2 s4
  exact ⟨a0, a1, a2, oa, xs, cap, a4, rfl, hf, hz, hn, s2, s4, w0, w1⟩
theorem open_req {H : Type} {enc : TypeId × Value → H} {W : World} {v : Value}
    (h5 : ∃ (c0 c1 c2 c3 c4 : Value) (n : Nat) (y0 y1 y2 y3 y4 : DataW H × List MemPlace), v = .agg #[c0, c1, c2, c3, c4] ∧ DataW.trod enc Tryz.prog W 0 (fun _ => true) true n 9 [c0] = some y0 ∧ DataW.trod enc Tryz.prog W 0 (fun _ => true) true n 9 [c1] = some y1 ∧ DataW.trod enc Tryz.prog W 0 (fun _ => true) true n 3 [c2] = some y2 ∧ DataW.trod enc Tryz.prog W 0 (fun _ => true) true n 22 [c3] = some y3 ∧ DataW.trod enc Tryz.prog W 0 (fun _ => true) true n 9 [c4] = some y4) :
    ∃ (m tg : ByteArray) (mn : Int) (oa : Option Addr) (xs : List Fd) (cap : Nat) (bd : ByteArray), v = .agg #[.string m, .string tg, .int .i64 mn, .slice oa xs.length cap, .string bd] ∧ FldO W oa xs ∧ FldZ xs bigN ∧ xs.length ≤ bigN ∧ m.size ≤ bigN ∧ tg.size ≤ bigN ∧ bd.size ≤ bigN ∧ (Lit.int .i64 mn).wf = true := by
  obtain ⟨c0, c1, c2, c3, c4, n, y0, y1, y2, y3, y4, rfl, g0, g1, g2, g3, g4⟩ := h5
  obtain ⟨a0, e0, _, s0⟩ := DataW.trod_string Tryz.underlying9 g0
  obtain ⟨a1, e1, _, s1⟩ := DataW.trod_string Tryz.underlying9 g1
  obtain ⟨a2, e2, _, w2⟩ := DataW.trod_int Tryz.underlying3 g2
  obtain ⟨oa, xs, cap, e3, hf, hz, hn⟩ := open_fld g3
  obtain ⟨a4, e4, _, s4⟩ := DataW.trod_string Tryz.underlying9 g4
  cases one_cell e0; cases one_cell e1; cases one_cell e2; cases e3; cases one_cell e4
  unfold maxLen at s0 s1 s4
  exact ⟨a0, a1, a2, oa, xs, cap, a4, rfl, hf, hz, hn, s0, s1, s4, w2⟩
end Go.Proofs.YtfnmohaddkoalaaGreatDoor
