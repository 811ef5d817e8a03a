/- Byte buffers that a call makes: a string's bytes in a new row, a row that grows by appends, and the way back to a string. -/
import Derived.Test.YtfnmohaddkoalaaDoorQPre
import Derived.Test.YtfnmohaddkoalaaDoorQLib
import Derived.Laws.IdiomStrings
import Derived.Lib.BufferRead
import Derived.Maps.AppendAt
import Derived.Laws.AppendOwnNone
import Derived.Lib.AppendIntMem
namespace Go.Proofs.YtfnmohaddkoalaaDoor
open Go.RowKit

/-- Block g begins with the bytes l, none of them frozen. -/
structure BytesAt (w : World) (g : Nat) (l : List UInt8) : Prop where
  cell : ∀ j (h : j < l.length), w.cell? ⟨g, j, none⟩ = some (.int .u8 (l[j].toNat : Int))
  free : ∀ j, j < l.length → w.frozen? ⟨g, j, none⟩ = false

theorem BytesAt.set {w : World} {g i : Nat} {l : List UInt8} (h : BytesAt w g l) (hi : i < l.length) (c : UInt8) : BytesAt (w.setCell ⟨g, i, none⟩ (.int .u8 (c.toNat : Int))) g (l.set i c) := by
  refine ⟨fun j hj => ?_, fun j hj => ?_⟩
  · have hj' : j < l.length := by simpa using hj
    by_cases e : i = j
    · subst e
      rw [World.cell?_setCell_same _ _ _ (h.cell i hi)]; simp
    · rw [World.cell?_setCell_other _ _ _ _ (by simp), h.cell j hj']; simp [e]
  · rw [World.frozen?_setCell]; exact h.free j (by simpa using hj)
theorem BytesAt.below {w w' : World} {B g : Nat} {l : List UInt8} (h : BytesAt w g l) (hb : Below B w w') (hg : g < B) : BytesAt w' g l :=
  ⟨fun j hj => (hb.cell (p := ⟨g, j, none⟩) hg).trans (h.cell j hj), fun j hj => (hb.frozen (p := ⟨g, j, none⟩) hg).trans (h.free j hj)⟩

section
variable {P : Program}
theorem conv_to_bytes (src dst e : TypeId) (s : ByteArray) (w : World) (hs : P.underlying src = some .string) (hd : P.underlying dst = some (.slice e)) (he : P.underlying e = some (.int .u8)) :
    ∃ (cap : Nat) (w1 : World), (convert src dst (.string s)).run P w = .ok (.slice (some ⟨w.heap.size, 0, none⟩) s.size cap) w1 ∧ BytesAt w1 w.heap.size (bs s) ∧ Below w.heap.size w w1 ∧ w.heap.size < w1.heap.size := by
  refine ⟨_, _, run_bytes_of_string w src dst e s hs hd he, ⟨fun j hj => ?_, fun j hj => ?_⟩, ?_, by simp⟩
  · have hj' : j < s.size := by rw [← bs_length]; exact hj
    refine (World.cell?_alloc_mark w.drew _ e _ j).trans ?_
    unfold bytesRow
    rw [Array.getElem?_append_left (by simp; exact hj'), Array.getElem?_map]
    have : s.data[j]? = some (s.data[j]'hj') := Array.getElem?_eq_getElem hj'
    rw [this]; rfl
  · have hj' : j < s.size := by rw [← bs_length]; exact hj
    refine (World.frozen?_alloc_mark w.drew _ e _ _ j).trans ?_
    have : s.size ≤ (bytesRow s (grownCap w s.size 0 e)).size := by
      simp only [bytesRow, Array.size_append, Array.size_map]
      have : s.data.size = s.size := rfl
      omega
    simp; omega
  · exact (((Below.refl w.heap.size w).drew).alloc (Nat.le_refl _) _)

theorem conv_from_bytes (src dst e : TypeId) (g n cap : Nat) (l : List UInt8) (w : World) (hs : P.underlying src = some (.slice e)) (he : P.underlying e = some (.int .u8)) (hd : P.underlying dst = some .string)
    (hl : l.length = n) (h : BytesAt w g l) : (convert src dst (.slice (some ⟨g, 0, none⟩) n cap)).run P w = .ok (.string ⟨l.toArray⟩) w := by
  subst hl
  refine run_convert_bytes_back w src dst e ⟨g, 0, none⟩ cap l hs he hd fun j hj => ?_
  have : (⟨g, 0, none⟩ : Addr).add j = ⟨g, j, none⟩ := by unfold Addr.add; by_cases h0 : j = 0 <;> simp [h0]
  rw [this]; exact h.cell j hj

/-- The slice v is a row of the call's own that holds just the bytes l. -/
def Buf (w : World) (B : Nat) (e : TypeId) (v : Value) (l : List UInt8) : Prop := w.ownsRow B e 1 v l.length (l.map fun c => Value.int .u8 (c.toNat : Int))
theorem Buf.none_ (w : World) (B : Nat) (e : TypeId) : Buf w B e (.slice none 0 0) [] := World.ownsRow_nil w B e 1
theorem Buf.alloc {w : World} {B : Nat} {e : TypeId} {v : Value} {l : List UInt8} (h : Buf w B e v l) (o : Obj) : Buf (w.alloc o) B e v l := World.ownsRow.alloc h o
theorem Buf.below {w w' : World} {B B' : Nat} {e : TypeId} {v : Value} {l : List UInt8} (h : Buf w B e v l) (hb : Below B' w w') (hB : w.heap.size ≤ B') : Buf w' B e v l := by
  refine ⟨h.1, ?_⟩
  rcases h.2 with h0 | ⟨g, cap, cur, h1, h2, h3, h4⟩
  · exact .inl h0
  · have hg : g < w.heap.size := by
      rcases Nat.lt_or_ge g w.heap.size with hlt | hge
      · exact hlt
      · rw [Array.getElem?_eq_none hge] at h3; cases h3
    exact .inr ⟨g, cap, cur, h1, h2, (hb.block g (by omega)).trans h3, h4⟩
/-- A new row of one byte. -/
theorem Buf.one (w : World) (B : Nat) (e : TypeId) (c : UInt8) (hB : B ≤ w.heap.size) : Buf (w.alloc (.cells #[.int .u8 (c.toNat : Int)] e)) B e (.slice (some ⟨w.heap.size, 0, none⟩) 1 1) [c] := by
  refine ⟨by simp, .inr ⟨w.heap.size, 1, #[.int .u8 (c.toNat : Int)], rfl, hB, by simp [World.alloc, -World.alloc_eq], by simp, by simp [maxLen], by simp, by simp⟩⟩

theorem conv_from_buf (src dst e : TypeId) (B : Nat) (v : Value) (l : List UInt8) (w : World) (hs : P.underlying src = some (.slice e)) (he : P.underlying e = some (.int .u8)) (hd : P.underlying dst = some .string)
    (h : Buf w B e v l) : (convert src dst v).run P w = .ok (.string ⟨l.toArray⟩) w := by
  rcases h.2 with ⟨rfl, h0⟩ | ⟨g, cap, cur, rfl, h2, h3, h4, h5, h6, h7⟩
  · have : l = [] := List.length_eq_zero_iff.1 h0
    subst this
    exact Lib.run_convert_nil_bytes w src dst e 0 hs he hd
  · refine conv_from_bytes src dst e g l.length cap l w hs he hd rfl ⟨fun j hj => ?_, fun j hj => ?_⟩
    · have hc := World.ownsRow.cells h (g := g) rfl j (.int .u8 (l[j].toNat : Int)) (by simp [List.getElem?_eq_getElem hj])
      have ea : (⟨g, 0, none⟩ : Addr).add j = ⟨g, j, none⟩ := by unfold Addr.add; by_cases h0 : j = 0 <;> simp [h0]
      rw [ea] at hc; exact hc
    · simp [World.frozen?, h3]

theorem wpList_append_byte {ops : Array Oper} {rest : List Oper} {o : Oper} {a : Act} {Q : Exit → Act → World → Prop} (hgd : o.guard = none) (s x : Operand) (t : TypeId)
    (ho : o.op = .call { callee := .builtin .append, args := #[s, x], argTypes := #[t, t] })
    (w0 w : World) (B : Nat) (e : TypeId) (ht : P.underlying t = some (.slice e)) (hinfo : (P.info? e).map (fun i => (i.zero, i.size, i.bytes)) = some (some (.int .u8 0), 1, 1))
    (v : Value) (l : List UInt8) (hs : a.eval s = v) (hown : Buf w B e v l) (hb : Below B w0 w) (hB : B ≤ w.heap.size)
    (ad : Addr) (c : UInt8) (hx : a.eval x = .slice (some ad) 1 1) (hc : w.cell? ad = some (.int .u8 (c.toNat : Int))) (hl : l.length + 1 ≤ 140737488355328)
    (h : ∀ v' w', Buf w' B e v' (l ++ [c]) → Below B w0 w' → B ≤ w'.heap.size → wpList P ops Q rest (a.put o.dst v') w') : wpList P ops Q (o :: rest) a w := by
  obtain ⟨i, hi, hz0, hz1, hz2⟩ := info_parts hinfo
  refine wpList_append_own w hgd s x t ho B e i (.int .u8 0) 1 1 ht hi hz0 hz1 hz2 rfl (by decide) v l.length _ hs hown ad 1 1 [.int .u8 (c.toNat : Int)] hx rfl ?_ ?_ (by unfold maxLen; omega) (by omega) hB ?_
  · intro j u hj
    rcases j with _ | j
    · simp at hj; subst hj
      have : ad.add 0 = ad := by unfold Addr.add; simp
      rw [this]; exact hc
    · simp at hj
  · intro u hu
    simp at hu; subst hu; rfl
  · intro v' w' hown' hg _
    refine h v' w' ?_ (hb.grown hg hB (fun j hj => (World.ownsRow.lt hown j hj).1)) (Nat.le_trans hB hg.size)
    unfold Buf
    simpa using hown'
theorem wpList_append_bufs {ops : Array Oper} {rest : List Oper} {o : Oper} {a : Act} {Q : Exit → Act → World → Prop} (hgd : o.guard = none) (s x : Operand) (t : TypeId)
    (ho : o.op = .call { callee := .builtin .append, args := #[s, x], argTypes := #[t, t] })
    (w0 w : World) (B B2 : Nat) (e : TypeId) (ht : P.underlying t = some (.slice e)) (hinfo : (P.info? e).map (fun i => (i.zero, i.size, i.bytes)) = some (some (.int .u8 0), 1, 1))
    (v v2 : Value) (l l2 : List UInt8) (hs : a.eval s = v) (hown : Buf w B e v l) (hb : Below B w0 w) (hB : B ≤ w.heap.size)
    (hx : a.eval x = v2) (hown2 : Buf w B2 e v2 l2) (hl : l.length + l2.length ≤ 140737488355328)
    (h : ∀ v' w', Buf w' B e v' (l ++ l2) → Below B w0 w' → B ≤ w'.heap.size → wpList P ops Q rest (a.put o.dst v') w') : wpList P ops Q (o :: rest) a w := by
  obtain ⟨i, hi, hz0, hz1, hz2⟩ := info_parts hinfo
  rcases hown2.2 with ⟨rfl, h0⟩ | ⟨g, cap, cur, rfl, h2⟩
  · have e0 : l2 = [] := List.length_eq_zero_iff.1 h0
    subst e0
    refine wpList_append_own_none hgd s x t ho B e i 1 ht hi v l.length _ hs hown hx ?_
    exact h v w (by rw [List.append_nil]; exact hown) hb hB
  · refine wpList_append_own w hgd s x t ho B e i (.int .u8 0) 1 1 ht hi hz0 hz1 hz2 rfl (by decide) v l.length _ hs hown ⟨g, 0, none⟩ l2.length cap (l2.map fun c => Value.int .u8 (c.toNat : Int)) hx (by simp) ?_ ?_ (by unfold maxLen; omega) (by omega) hB ?_
    · exact World.ownsRow.cells hown2 rfl
    · intro u hu
      obtain ⟨c, _, rfl⟩ := List.mem_map.1 hu
      rfl
    · intro v' w' hown' hg _
      refine h v' w' ?_ (hb.grown hg hB (fun j hj => (World.ownsRow.lt hown j hj).1)) (Nat.le_trans hB hg.size)
      unfold Buf
      simpa using hown'
end
end Go.Proofs.YtfnmohaddkoalaaDoor
