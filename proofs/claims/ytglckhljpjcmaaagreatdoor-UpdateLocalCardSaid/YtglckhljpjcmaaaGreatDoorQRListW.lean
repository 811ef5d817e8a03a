/- The walks of the reference's Cut, Split, All (layer 7). Printed by gen_rlist.py. -/
import Derived.Test.YtglckhljpjcmaaaGreatDoorQListX
namespace Go.Proofs.YtglckhljpjcmaaaGreatDoor
open Go.RowKit Go.Shelf

theorem mk_span (s : ByteArray) (i k : Nat) : s.extract i k = mkB (span s i k) := by rw [← span_bs]
/-- Where the reference's scan stands. -/
def CutAt (s : ByteArray) (a : UInt8) (i frm : Nat) (q : Bool) (out : List (List UInt8)) : Prop :=
  (i ≤ s.size ∧ frm ≤ i ∧ out.length ≤ i ∧ qcut a 0 [] (bs s) = out ++ qcut a (if q then 1 else 0) (span s frm i) ((bs s).drop i)) ∨ (i = s.size + 1 ∧ frm ≤ s.size ∧ out.length ≤ s.size ∧ qcut a 0 [] (bs s) = out ++ [span s frm s.size])
theorem CutAt.start (s : ByteArray) (a : UInt8) : CutAt s a 0 0 false [] := .inl ⟨by omega, by omega, by simp, by rw [span_nil]; rfl⟩
theorem CutAt.esc {s : ByteArray} {a : UInt8} {i frm : Nat} {out : List (List UInt8)} (h : CutAt s a i frm true out) (hi : i < s.size) (hc : s[i].toNat = 92) : CutAt s a (i + 1 + 1) frm true out := by
  rcases h with ⟨h1, h2, hl, h3⟩ | ⟨h1, _⟩
  · rw [if_pos rfl, drop_step s hi, qcut_go (by simp), span_step s h2 hi] at h3
    have hq : qstep 1 s[i] = 2 := by unfold qstep; rw [if_neg (by decide), if_pos ⟨rfl, hc⟩]
    rw [hq] at h3
    by_cases h4 : i + 1 < s.size
    · rw [drop_step s h4, qcut_go (by simp), span_step s (by omega) h4, show qstep 2 s[i + 1] = 1 from by unfold qstep; rw [if_pos rfl]] at h3
      exact .inl ⟨by omega, by omega, by omega, by rw [if_pos rfl]; exact h3⟩
    · rw [drop_end s (by omega), qcut, show i + 1 = s.size from by omega] at h3
      exact .inr ⟨by omega, by omega, by omega, h3⟩
  · omega
theorem CutAt.quote {s : ByteArray} {a : UInt8} {i frm : Nat} {q : Bool} {out : List (List UInt8)} (h : CutAt s a i frm q out) (hi : i < s.size) (hc : s[i].toNat = 34) (ha : a.toNat ≠ 34) : CutAt s a (i + 1) frm (!q) out := by
  rcases h with ⟨h1, h2, hl, h3⟩ | ⟨h1, _⟩
  · rw [drop_step s hi, qcut_go (by rw [hc]; exact fun h => ha h.2.symm), span_step s h2 hi] at h3
    refine .inl ⟨by omega, by omega, by omega, ?_⟩
    rw [h3]
    have : qstep (if q then 1 else 0) s[i] = (if (!q) = true then 1 else 0) := by
      unfold qstep; cases q <;> simp [hc]
    rw [this]
  · omega
theorem CutAt.sep {s : ByteArray} {a : UInt8} {i frm : Nat} {out : List (List UInt8)} (h : CutAt s a i frm false out) (hi : i < s.size) (hc : s[i].toNat = a.toNat) : CutAt s a (i + 1) (i + 1) false (out ++ [span s frm i]) := by
  rcases h with ⟨h1, h2, hl, h3⟩ | ⟨h1, _⟩
  · rw [drop_step s hi] at h3
    simp only [Bool.false_eq_true, if_false] at h3
    rw [qcut_sep hc] at h3
    refine .inl ⟨by omega, by omega, by simp; omega, ?_⟩
    rw [h3, span_nil]; simp
  · omega
theorem CutAt.go {s : ByteArray} {a : UInt8} {i frm : Nat} {q : Bool} {out : List (List UInt8)} (h : CutAt s a i frm q out) (hi : i < s.size) (h1 : ¬ (q = true ∧ s[i].toNat = 92)) (h2 : s[i].toNat ≠ 34) (h3 : ¬ (q = false ∧ s[i].toNat = a.toNat)) : CutAt s a (i + 1) frm q out := by
  rcases h with ⟨k1, k2, hl, k3⟩ | ⟨k1, _⟩
  · have hn : ¬ ((if q then 1 else 0) = 0 ∧ s[i].toNat = a.toNat) := by
      cases q
      · exact fun h => h3 ⟨rfl, h.2⟩
      · simp
    rw [drop_step s hi, qcut_go hn, span_step s k2 hi] at k3
    refine .inl ⟨by omega, by omega, by omega, ?_⟩
    rw [k3]
    have : qstep (if q then 1 else 0) s[i] = (if q then 1 else 0) := by
      unfold qstep
      cases q
      · simp [h2]
      · have : ¬ s[i].toNat = 92 := fun h => h1 ⟨rfl, h⟩
        simp [h2, this]
    rw [this]
  · omega
theorem CutAt.over {s : ByteArray} {a : UInt8} {i frm : Nat} {q : Bool} {out : List (List UInt8)} (h : CutAt s a i frm q out) (hi : s.size ≤ i) : qcut a 0 [] (bs s) = out ++ [span s frm s.size] := by
  rcases h with ⟨k1, k2, _, k3⟩ | ⟨_, _, _, k3⟩
  · rw [k3, drop_end s hi, qcut, show i = s.size from by omega]
  · exact k3
theorem CutAt.bd {s : ByteArray} {a : UInt8} {i frm : Nat} {q : Bool} {out : List (List UInt8)} (h : CutAt s a i frm q out) : i ≤ s.size + 1 ∧ frm ≤ s.size ∧ (i ≤ s.size → frm ≤ i) ∧ out.length ≤ s.size := by
  rcases h with ⟨k1, k2, hl, k3⟩ | ⟨k1, k2, hl, k3⟩
  · exact ⟨by omega, by omega, fun _ => k2, by omega⟩
  · exact ⟨by omega, k2, fun h => by omega, hl⟩
/-- Where the reference's Split stands. -/
def RSp (s : ByteArray) (k : Nat) (ms : List (List UInt8)) : Prop := ms.length ≤ 64 ∧ membersL (bs s) = (ms ++ memP ((qcut 44 0 [] (bs s)).drop k)).take 64
theorem RSp.full {s : ByteArray} {k : Nat} {ms : List (List UInt8)} (h : RSp s k ms) (hm : 64 ≤ ms.length) : membersL (bs s) = ms := by
  rw [h.2, List.take_append_of_le_length (by omega), List.take_of_length_le (by have := h.1; omega)]
theorem RSp.over {s : ByteArray} {k : Nat} {ms : List (List UInt8)} (h : RSp s k ms) (hm : (qcut 44 0 [] (bs s)).length ≤ k) : membersL (bs s) = ms := by
  rw [h.2, List.drop_of_length_le hm]
  show (ms ++ []).take 64 = ms
  rw [List.append_nil, List.take_of_length_le h.1]
theorem RSp.step {s : ByteArray} {k : Nat} {ms : List (List UInt8)} {p : List UInt8} (h : RSp s k ms) (hx : (qcut 44 0 [] (bs s))[k]? = some p) (hm : ms.length < 64) : (trimL p = [] → RSp s (k + 1) ms) ∧ (trimL p ≠ [] → RSp s (k + 1) (ms ++ [trimL p])) := by
  obtain ⟨hk, he⟩ := List.getElem?_eq_some_iff.1 hx
  have h2 := h.2
  rw [List.drop_eq_getElem_cons hk, he] at h2
  refine ⟨fun e => ⟨h.1, ?_⟩, fun e => ⟨by simp; omega, ?_⟩⟩
  · rw [h2, memP_cons_nil e]
  · rw [h2, memP_cons_ne e]; simp
end Go.Proofs.YtglckhljpjcmaaaGreatDoor
