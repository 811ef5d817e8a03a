/- strings.SplitSeq at a blank: what it hands out, one by one. -/
import Derived.Test.YtjafkpedocdfjaaGreatDoorSeqL
import Derived.Test.YtjafkpedocdfjaaGreatDoorRStrip
import Derived.Test.YtjafkpedocdfjaaGreatDoorShelf
namespace Go.Proofs.YtjafkpedocdfjaaGreatDoor
open Go.RowKit Go.Shelf
attribute [local go_sem] Oper.semAt_some

/-- The pieces between blanks. -/
def spC : List UInt8 → List UInt8 → List (List UInt8)
  | acc, [] => [acc]
  | acc, c :: t => if c = 32 then acc :: spC [] t else spC (acc ++ [c]) t
theorem spC_cases (l : List UInt8) : (Lib.indexByte l 32 = -1 ∧ ∀ acc, spC acc l = [acc ++ l]) ∨ ∃ i : Nat, Lib.indexByte l 32 = i ∧ i < l.length ∧ ∀ acc, spC acc l = (acc ++ l.take i) :: spC [] (l.drop (i + 1)) := by
  induction l with
  | nil => exact .inl ⟨rfl, fun acc => by simp [spC]⟩
  | cons c t ih =>
    by_cases hc : c = 32
    · subst hc
      exact .inr ⟨0, by simp [Lib.indexByte], by simp, fun acc => by simp [spC]⟩
    · have hcb : (c == (32 : UInt8)) = false := by simpa using hc
      rcases ih with ⟨h1, h2⟩ | ⟨i, h1, h2, h3⟩
      · left
        refine ⟨by rw [Lib.indexByte, hcb, h1]; rfl, fun acc => ?_⟩
        rw [spC, if_neg hc, h2]; simp
      · right
        refine ⟨i + 1, ?_, by simp; omega, fun acc => ?_⟩
        · rw [Lib.indexByte, hcb, h1]
          have : (((i : Nat) : Int) == -1) = false := by rw [beq_eq_false_iff_ne]; omega
          rw [this]; simp
        · rw [spC, if_neg hc, h3]; simp
def boxLen (b0 : Nat) (W : World) : Nat := match W.cell? ⟨b0, 0, none⟩ with | some (.string t) => t.size | _ => 0
theorem boxLen_row {b0 : Nat} {W : World} {T : TypeId} {t : ByteArray} (h : RowAt W b0 T [.string t]) : boxLen b0 W = t.size := by unfold boxLen; rw [h.cell 0 rfl]
theorem RowAt.box {b0 b : Nat} {A B : World} {T : TypeId} {cs : List Value} (h : RowAt A b T cs) (k : Box3 b0 A B) (h1 : b0 ≤ b) (h2 : b ≤ b0 + 2) : RowAt B b T cs := (k b h1 h2).trans h
theorem splitseq_gives (s : ByteArray) (b0 b1 b2 : Nat) (hb1 : b1 = b0 + 1) (hb2 : b2 = b0 + 2) (w : World) (n : Nat) (hn : 1 ≤ n) (hs : s.size ≤ 100000)
    (R0 : RowAt w b0 9 [.string s]) (R1 : RowAt w b1 9 [.string ⟨#[32]⟩]) (R2 : RowAt w b2 3 [.int .i64 0]) :
    OwnGives Fence.wide n Tryz.prog 129 #[.pointer (some ⟨b1, 0, none⟩), .pointer (some ⟨b0, 0, none⟩), .pointer (some ⟨b2, 0, none⟩)] ((spC [] (bs s)).map mkB) b0 w := by
  intro l J W hbx hJs hY h0
  have r0 := R0.box hbx (by omega) (by omega)
  have r1 := R1.box hbx (by omega) (by omega)
  have r2 := R2.box hbx (by omega) (by omega)
  have HY := Lib.hid hY
  have HJ := Lib.hid hJs
  obtain ⟨xs, hxs⟩ : ∃ xs, xs = (spC [] (bs s)).map mkB := ⟨_, rfl⟩
  rw [← hxs] at HY ⊢
  have HXS := Lib.hid hxs
  have c1 := r1.cell 0 rfl
  have e01 : b0 ≠ b1 := by omega
  have e02 : b0 ≠ b2 := by omega
  have HB1 := Lib.hid hb1
  have HB2 := Lib.hid hb2
  clear hY hJs R0 R1 R2 hbx hxs hb1 hb2
  refine callsIn_of_wp Tryz.func129 rfl trivial ?_ rfl
  simp only [Tryz.ntmps129, List.size_toArray, List.length_cons, List.length_nil, Nat.reduceAdd, Nat.reduceSub, Array.replicate_succ, Array.replicate_zero, List.push_toArray, List.append_toArray, List.nil_append, List.cons_append]
  gi_wp2
  gi_loopw [7] (fun _ wr => ∃ (pre : List ByteArray) (t : ByteArray), Hid (xs = pre ++ (spC [] (bs t)).map mkB) ∧ t.size ≤ 100000 ∧ RowAt wr b0 9 [.string t] ∧ RowAt wr b1 9 [.string ⟨#[32]⟩] ∧ RowAt wr b2 3 [.int .i64 0] ∧ J pre wr) (fun _ wr => boxLen b0 wr)
  case atStart => exact ⟨[], s, Lib.hid (by rw [HXS.out]; rfl), hs, r0, r1, r2, h0⟩
  case round =>
    obtain ⟨pre, t, HX, ht, q0, q1, q2, hJ⟩ := hrel
    have d0 := q0.cell 0 rfl
    have d1 := q1.cell 0 rfl
    have d2 := q2.cell 0 rfl
    gi_wp2
    refine ⟨trivial, ?_⟩
    refine (callsIn_wide.2 (Tryz.strings_Index_one t 32 _)).mono ?_
    rintro e w' ⟨rfl, hw⟩
    cases hw
    rcases spC_cases (bs t) with ⟨h1, h2⟩ | ⟨i, h1, h2, h3⟩
    · rw [show t.data.toList = bs t from rfl, h1]
      have HH := Lib.hid h2
      clear h2 h1
      obtain ⟨fn, tmps, assign, body, hy, hR⟩ := HY.out pre t [] _ (by rw [HX.out, HH.out]; simp [mkB, bs]) hJ
      have HR := Lib.hid hR
      clear hR
      gi_wp2
      refine HR.out.mono ?_
      rintro e W3 ⟨rfl, hJ3, hk3⟩
      gi_wp2
      go_end0
      refine ⟨⟨_, rfl⟩, ?_⟩
      have hx : xs = pre ++ [t] := by rw [HX.out, HH.out]; simp [mkB, bs]
      rw [hx]; exact hJ3
    · rw [show t.data.toList = bs t from rfl, h1]
      have H3 := Lib.hid h3
      clear h3 h1
      have hil : i < t.size := h2
      have hm : mkB ((bs t).take i) = t.extract 0 i := by rw [mk_span]; simp [span]
      obtain ⟨fn, tmps, assign, body, hy, hR⟩ := HY.out pre (t.extract 0 i) ((spC [] ((bs t).drop (i + 1))).map mkB) _ (by rw [HX.out, H3.out, ← hm]; simp) hJ
      have HR := Lib.hid hR
      clear hR hm
      gi_wp2
      refine HR.out.mono ?_
      rintro e W3 ⟨rfl, hJ3, hk3⟩
      have p0 := q0.box hk3 (by omega) (by omega)
      have p1 := q1.box hk3 (by have := HB1.out; omega) (by have := HB1.out; omega)
      have p2 := q2.box hk3 (by have := HB2.out; omega) (by have := HB2.out; omega)
      have g0 := p0.cell 0 rfl
      have g1 := p1.cell 0 rfl
      have g2 := p2.cell 0 rfl
      have f0 := p0.free 0
      gi_wp2
      case roundEnd =>
        have m0 : RowAt (W3.setCell ⟨b0, 0, none⟩ (.string (t.extract (i + 1) t.size))) b0 9 [.string (t.extract (i + 1) t.size)] := p0.set 0 _
        refine ⟨⟨pre ++ [t.extract 0 i], t.extract (i + 1) t.size, Lib.hid ?_, ?_, m0, p1.setOther (fun e => e01 e.symm) 0 _, p2.setOther (fun e => e02 e.symm) 0 _, HJ.out _ _ _ hJ3⟩, ?_⟩
        · rw [HX.out, H3.out, show bs (t.extract (i + 1) t.size) = (bs t).drop (i + 1) from by rw [span_bs, span, List.take_of_length_le (by rw [List.length_drop, bs_length]; omega)]]
          simp [show mkB (List.take i (bs t)) = t.extract 0 i from by rw [mk_span]; simp [span]]
        · simp; omega
        · rw [boxLen_row m0, boxLen_row q0]; simp; omega
end Go.Proofs.YtjafkpedocdfjaaGreatDoor
