/- Plain facts on bytes and strings: a string's list of bytes, one byte at a place, decimal numbers. No program in sight. Small laws of runs that the walks of this seat want: an index into an array value. Byte buffers that a call makes: a string's bytes in a new row, a row that grows by appends, and the way back to a string. What a walk over byte buffers wants beside the laws: the byte's row of the type table, small facts on new blocks and on bytes. The walk of the reference's Decimal (1.3). The walks of decimal numbers (1.3), of the program and of the reference. The row's last step where the call may have laid new blocks, frozen or not: what lay below the old heap's size stands. What the listed variables give the walks of law 29: the table of powers of ten. Bytes and texts in plain terms: tokens, texts, lower case, quoting. No program in sight. Plain facts on the first place of a byte: a list cut there, and its index from a place on. No program in sight. Language tags and ranges in plain terms (layer 11). No program in sight. What the statements on layer 1 say in plain terms: quoting back, digits read back, fold an equivalence. Hexadecimal digits in plain terms. No program in sight. Targets and URIs in plain terms (layer 4). No program in sight. Laws of targets (layer 4): a key is parsed as its URI; the two forms of a target. No program in sight. Lengths of what layer 4 gives, and pieces of paths. No program in sight. Slices of strings among the arguments: opened as a list, handed back as they were. Lists of fields among the arguments: opened as lists of pairs of strings. The walks of keep.Fields and keep.Response. Struct variables that a call makes: a block that is known whole, stored into, loaded and handed back. The walks of keep.Response and ref.SameFields, keep.SameResponse. Rows of fields that a call makes, grown by append. The walks of lower case and fold (1.2) of the program. Rows of strings that a call makes: grown by append, read, shortened. The walks of the program's fields by name (layer 3): named, filter, Get, Has, First, Remove. The walks of the program's fields by name (layer 3), second part: the closures, Has, Get, First, Remove. What Targets answers (layer 29), plainly. -/
import Derived.WalkKit
import Derived.Lib.Strings
import Derived.Lib.IndexBytes
import Derived.Lib.Hide
import Derived.WalkSpells
import Derived.WalkLawsBesides
import Derived.Laws.IdiomStrings
import Derived.Lib.BufferRead
import Derived.Maps.AppendAt
import Derived.Laws.AppendOwnNone
import Derived.Lib.AppendIntMem
import Derived.Test.YtglckhljpjcmaaaGreatDoorProg
import Derived.Lib.ItoaLen
import Derived.Lib.ItoaMem
import Derived.Test.YtglckhljpjcmaaaGreatDoorShelf
import Derived.Test.YtglckhljpjcmaaaGreatDoorRows
import Derived.ProofKit
import Derived.OpenShut
import Derived.ShutString
import Derived.Below
import Derived.ChangeSame
import Derived.HandedShaped
import Derived.LaidMore
import Derived.Lib.LaidTab
import Derived.Lib.CutLaws
import Derived.Lib.SplitLaws
import Derived.Lib.ItoaNum
import Derived.SliceStrings
import Derived.Carry
import Derived.WideShapes
import Derived.Deep.SlicePairs
import Derived.Lib.SmallJoins
import Derived.Deep.MidRow
import Derived.Laws.Rows
import Derived.Laws.ResultCell
import Derived.Laws.StructEq
import Derived.Deep.QuietTactic
import Derived.BigQuiet
import Derived.Deep.RegionLaw
import Derived.WalkSmall
import Derived.Deep.RegionHeld3
import Derived.Shelf.Abstract
import Derived.Laws.EntriesVeiled
namespace Go.Proofs.YtglckhljpjcmaaaGreatDoor

theorem ret_bool {a b : Bool} (h : a = b) : Ending.returned (.bool a) = .returned (.bool b) := by rw [h]
theorem ret_int {k : IntKind} {a b : Int} (h : a = b) : Ending.returned (.int k a) = .returned (.int k b) := by rw [h]
/-- A string's bytes. -/
abbrev bs (s : ByteArray) : List UInt8 := s.data.toList
theorem bs_length (s : ByteArray) : (bs s).length = s.size := (Lib.size_eq s).symm
theorem drop_step (s : ByteArray) {k : Nat} (h : k < s.size) : (bs s).drop k = s[k] :: (bs s).drop (k + 1) :=
  List.drop_eq_getElem_cons (by rw [bs_length]; exact h)
theorem drop_end (s : ByteArray) {k : Nat} (h : s.size ≤ k) : (bs s).drop k = [] := List.drop_of_length_le (by rw [bs_length]; exact h)
theorem bs_mk (l : List UInt8) : bs ⟨l.toArray⟩ = l := rfl
theorem take_step (s : ByteArray) {k : Nat} (h : k < s.size) : (bs s).take (k + 1) = (bs s).take k ++ [s[k]] := by
  have h' : k < (bs s).length := by rw [bs_length]; exact h
  rw [List.take_succ_eq_append_getElem h']; rfl
theorem empty_iff (s : ByteArray) : (bs s).isEmpty = (s.size == 0) := by
  have := bs_length s
  cases h : bs s with
  | nil => rw [h] at this; simp at this; simp [← this]
  | cons a t => rw [h] at this; simp at this; simp [← this]

/-- A decimal digit. -/
def digB (c : UInt8) : Bool := decide (48 ≤ c.toNat) && decide (c.toNat ≤ 57)
theorem digB_true {c : UInt8} (h : 48 ≤ c.toNat ∧ c.toNat ≤ 57) : digB c = true := by simp [digB, h]
theorem digB_false {c : UInt8} (h : ¬ (48 ≤ c.toNat ∧ c.toNat ≤ 57)) : digB c = false := by
  unfold digB; rw [← Bool.decide_and, decide_eq_false_iff_not]; exact h
theorem of_digB {c : UInt8} (h : digB c = true) : 48 ≤ c.toNat ∧ c.toNat ≤ 57 := by simpa [digB] using h
theorem of_digB_false {c : UInt8} (h : digB c = false) : ¬ (48 ≤ c.toNat ∧ c.toNat ≤ 57) := fun h' => by rw [digB_true h'] at h; cases h
/-- Decimal digits, saturated; none at another byte. -/
def numGo : List UInt8 → Int → Option Int
  | [], n => some n
  | c :: t, n => if digB c then numGo t (min (10 * n + ((c.toNat : Int) - 48)) 2147483647) else none
theorem numGo_step (s : ByteArray) {k : Nat} (a : Int) (hlt : k < s.size) : numGo ((bs s).drop k) a = if digB s[k] then numGo ((bs s).drop (k + 1)) (min (10 * a + ((s[k].toNat : Int) - 48)) 2147483647) else none := by
  rw [drop_step s hlt, numGo]
theorem numGo_end (s : ByteArray) {k : Nat} (a : Int) (h : s.size ≤ k) : numGo ((bs s).drop k) a = some a := by rw [drop_end s h, numGo]
theorem numGo_bd : ∀ (l : List UInt8) (a n : Int), 0 ≤ a → a ≤ 2147483647 → numGo l a = some n → 0 ≤ n ∧ n ≤ 2147483647
  | [], a, n, h0, h1, h => by simp [numGo] at h; omega
  | c :: t, a, n, h0, h1, h => by
    rw [numGo] at h
    by_cases hc : digB c = true
    · rw [if_pos hc] at h; exact numGo_bd t _ n (by have := of_digB hc; omega) (by omega) h
    · rw [if_neg hc] at h; cases h
theorem numGo_bad : ∀ (l : List UInt8) (a : Int), (∃ c ∈ l, digB c = false) → numGo l a = none
  | [], a, h => by obtain ⟨c, hc, _⟩ := h; cases hc
  | c :: t, a, h => by
    rw [numGo]
    cases hd : digB c with
    | false => rfl
    | true =>
      obtain ⟨x, hx, hxd⟩ := h
      rcases List.mem_cons.1 hx with rfl | hx
      · rw [hd] at hxd; cases hxd
      · rw [if_pos rfl]; exact numGo_bad t _ ⟨x, hx, hxd⟩
theorem mem_extract (s : ByteArray) {i j k : Nat} (h : i ≤ k) (hk : k < j) (hj : j ≤ s.size) : s[k] ∈ bs (s.extract i j) := by
  have hl := bs_length s
  unfold bs at hl ⊢
  rw [Lib.extract_data, List.mem_iff_getElem]
  refine ⟨k - i, by simp; omega, ?_⟩
  rw [List.getElem_take, List.getElem_drop]
  show s.data.toList[i + (k - i)] = s.data.toList[k]
  congr 1; omega
def numV (l : List UInt8) : Value :=
  match numGo l 0 with
  | some n => .tuple #[.int .i64 n, .bool (!l.isEmpty)]
  | none => .tuple #[.int .i64 0, .bool false]
theorem numV_some {l : List UInt8} {n : Int} (h : numGo l 0 = some n) : numV l = .tuple #[.int .i64 n, .bool (!l.isEmpty)] := by rw [numV, h]
theorem numV_none {l : List UInt8} (h : numGo l 0 = none) : numV l = .tuple #[.int .i64 0, .bool false] := by rw [numV, h]
end Go.Proofs.YtglckhljpjcmaaaGreatDoor
namespace Go.Proofs.YtglckhljpjcmaaaGreatDoor
open Go.RowKit

theorem run_index_agg {P : Program} (t e : TypeId) (n : Nat) (cs : Array Value) (k : IntKind) (i : Int) (v : Value) (h : P.underlying t = some (.array n e))
    (hagg : ∀ w, (isAgg e).run P w = .ok false w) (hsz : ∀ w, (sizeOf e).run P w = .ok 1 w) (h0 : 0 ≤ i) (hn : i < n) (hv : cs[i.toNat]? = some v) (w : World) :
    (Instr.index t (.agg cs) (.int k i)).run P w = .ok v w := by
  simp [Instr.index, asIntOf, run_underlying h, h0, hn, part, hagg, hsz, hv]
theorem below_drewN {B : Nat} {a w : World} (h : Below B a w) (n : Nat) : Below B a (w.drewN n) := ⟨h.os, h.tape, h.output, h.size, h.block⟩
theorem results_tmp4 {fn : Func} {t u v x : Tmp} (h : fn.results = #[.tmp t, .tmp u, .tmp v, .tmp x]) (tmps : Array Value) (P : Program) (w : World) :
    (results fn tmps).run P w = .ok (.tuple #[tmps.getD t undef, tmps.getD u undef, tmps.getD v undef, tmps.getD x undef]) w := by simp [results, h]
end Go.Proofs.YtglckhljpjcmaaaGreatDoor
namespace Go.Proofs.YtglckhljpjcmaaaGreatDoor
open Go.RowKit

/-- Block g begins with the bytes l, none of them frozen. -/
structure BytesAt (w : World) (g : Nat) (l : List UInt8) : Prop where
  cell : ∀ j (h : j < l.length), w.cell? ⟨g, j, none⟩ = some (.int .u8 (l[j].toNat : Int))
  free : ∀ j, j < l.length → w.frozen? ⟨g, j, none⟩ = false

theorem BytesAt.set {w : World} {g i : Nat} {l : List UInt8} (h : BytesAt w g l) (hi : i < l.length) (c : UInt8) : BytesAt (w.setCell ⟨g, i, none⟩ (.int .u8 (c.toNat : Int))) g (l.set i c) := by
  refine ⟨fun j hj => ?_, fun j hj => ?_⟩
  · have hj' : j < l.length := by simpa using hj
    by_cases e : i = j
    · subst e
      rw [World.cell?_setCell_same _ _ _ (h.cell i hi)]; simp
    · rw [World.cell?_setCell_other _ _ _ _ (by simp), h.cell j hj']; simp [e]
  · rw [World.frozen?_setCell]; exact h.free j (by simpa using hj)
theorem BytesAt.below {w w' : World} {B g : Nat} {l : List UInt8} (h : BytesAt w g l) (hb : Below B w w') (hg : g < B) : BytesAt w' g l :=
  ⟨fun j hj => (hb.cell (p := ⟨g, j, none⟩) hg).trans (h.cell j hj), fun j hj => (hb.frozen (p := ⟨g, j, none⟩) hg).trans (h.free j hj)⟩

section
variable {P : Program}
theorem conv_to_bytes (src dst e : TypeId) (s : ByteArray) (w : World) (hs : P.underlying src = some .string) (hd : P.underlying dst = some (.slice e)) (he : P.underlying e = some (.int .u8)) :
    ∃ (cap : Nat) (w1 : World), (convert src dst (.string s)).run P w = .ok (.slice (some ⟨w.heap.size, 0, none⟩) s.size cap) w1 ∧ BytesAt w1 w.heap.size (bs s) ∧ Below w.heap.size w w1 ∧ w.heap.size < w1.heap.size := by
  refine ⟨_, _, run_bytes_of_string w src dst e s hs hd he, ⟨fun j hj => ?_, fun j hj => ?_⟩, ?_, by simp⟩
  · have hj' : j < s.size := by rw [← bs_length]; exact hj
    refine (World.cell?_alloc_mark w.drew _ e _ j).trans ?_
    unfold bytesRow
    rw [Array.getElem?_append_left (by simp; exact hj'), Array.getElem?_map]
    have : s.data[j]? = some (s.data[j]'hj') := Array.getElem?_eq_getElem hj'
    rw [this]; rfl
  · have hj' : j < s.size := by rw [← bs_length]; exact hj
    refine (World.frozen?_alloc_mark w.drew _ e _ _ j).trans ?_
    have : s.size ≤ (bytesRow s (grownCap w s.size 0 e)).size := by
      simp only [bytesRow, Array.size_append, Array.size_map]
      have : s.data.size = s.size := rfl
      omega
    simp; omega
  · exact (((Below.refl w.heap.size w).drew).alloc (Nat.le_refl _) _)

theorem conv_from_bytes (src dst e : TypeId) (g n cap : Nat) (l : List UInt8) (w : World) (hs : P.underlying src = some (.slice e)) (he : P.underlying e = some (.int .u8)) (hd : P.underlying dst = some .string)
    (hl : l.length = n) (h : BytesAt w g l) : (convert src dst (.slice (some ⟨g, 0, none⟩) n cap)).run P w = .ok (.string ⟨l.toArray⟩) w := by
  subst hl
  refine run_convert_bytes_back w src dst e ⟨g, 0, none⟩ cap l hs he hd fun j hj => ?_
  have : (⟨g, 0, none⟩ : Addr).add j = ⟨g, j, none⟩ := by unfold Addr.add; by_cases h0 : j = 0 <;> simp [h0]
  rw [this]; exact h.cell j hj

/-- The slice v is a row of the call's own that holds just the bytes l. -/
def Buf (w : World) (B : Nat) (e : TypeId) (v : Value) (l : List UInt8) : Prop := w.ownsRow B e 1 v l.length (l.map fun c => Value.int .u8 (c.toNat : Int))
theorem Buf.none_ (w : World) (B : Nat) (e : TypeId) : Buf w B e (.slice none 0 0) [] := World.ownsRow_nil w B e 1
theorem Buf.alloc {w : World} {B : Nat} {e : TypeId} {v : Value} {l : List UInt8} (h : Buf w B e v l) (o : Obj) : Buf (w.alloc o) B e v l := World.ownsRow.alloc h o
theorem Buf.below {w w' : World} {B B' : Nat} {e : TypeId} {v : Value} {l : List UInt8} (h : Buf w B e v l) (hb : Below B' w w') (hB : w.heap.size ≤ B') : Buf w' B e v l := by
  refine ⟨h.1, ?_⟩
  rcases h.2 with h0 | ⟨g, cap, cur, h1, h2, h3, h4⟩
  · exact .inl h0
  · have hg : g < w.heap.size := by
      rcases Nat.lt_or_ge g w.heap.size with hlt | hge
      · exact hlt
      · rw [Array.getElem?_eq_none hge] at h3; cases h3
    exact .inr ⟨g, cap, cur, h1, h2, (hb.block g (by omega)).trans h3, h4⟩
/-- A new row of one byte. -/
theorem Buf.one (w : World) (B : Nat) (e : TypeId) (c : UInt8) (hB : B ≤ w.heap.size) : Buf (w.alloc (.cells #[.int .u8 (c.toNat : Int)] e)) B e (.slice (some ⟨w.heap.size, 0, none⟩) 1 1) [c] := by
  refine ⟨by simp, .inr ⟨w.heap.size, 1, #[.int .u8 (c.toNat : Int)], rfl, hB, by simp [World.alloc, -World.alloc_eq], by simp, by simp [maxLen], by simp, by simp⟩⟩

theorem conv_from_buf (src dst e : TypeId) (B : Nat) (v : Value) (l : List UInt8) (w : World) (hs : P.underlying src = some (.slice e)) (he : P.underlying e = some (.int .u8)) (hd : P.underlying dst = some .string)
    (h : Buf w B e v l) : (convert src dst v).run P w = .ok (.string ⟨l.toArray⟩) w := by
  rcases h.2 with ⟨rfl, h0⟩ | ⟨g, cap, cur, rfl, h2, h3, h4, h5, h6, h7⟩
  · have : l = [] := List.length_eq_zero_iff.1 h0
    subst this
    exact Lib.run_convert_nil_bytes w src dst e 0 hs he hd
  · refine conv_from_bytes src dst e g l.length cap l w hs he hd rfl ⟨fun j hj => ?_, fun j hj => ?_⟩
    · have hc := World.ownsRow.cells h (g := g) rfl j (.int .u8 (l[j].toNat : Int)) (by simp [List.getElem?_eq_getElem hj])
      have ea : (⟨g, 0, none⟩ : Addr).add j = ⟨g, j, none⟩ := by unfold Addr.add; by_cases h0 : j = 0 <;> simp [h0]
      rw [ea] at hc; exact hc
    · simp [World.frozen?, h3]

theorem wpList_append_byte {ops : Array Oper} {rest : List Oper} {o : Oper} {a : Act} {Q : Exit → Act → World → Prop} (hgd : o.guard = none) (s x : Operand) (t : TypeId)
    (ho : o.op = .call { callee := .builtin .append, args := #[s, x], argTypes := #[t, t] })
    (w0 w : World) (B : Nat) (e : TypeId) (ht : P.underlying t = some (.slice e)) (hinfo : (P.info? e).map (fun i => (i.zero, i.size, i.bytes)) = some (some (.int .u8 0), 1, 1))
    (v : Value) (l : List UInt8) (hs : a.eval s = v) (hown : Buf w B e v l) (hb : Below B w0 w) (hB : B ≤ w.heap.size)
    (ad : Addr) (c : UInt8) (hx : a.eval x = .slice (some ad) 1 1) (hc : w.cell? ad = some (.int .u8 (c.toNat : Int))) (hl : l.length + 1 ≤ 140737488355328)
    (h : ∀ v' w', Buf w' B e v' (l ++ [c]) → Below B w0 w' → B ≤ w'.heap.size → wpList P ops Q rest (a.put o.dst v') w') : wpList P ops Q (o :: rest) a w := by
  obtain ⟨i, hi, hz0, hz1, hz2⟩ := info_parts hinfo
  refine wpList_append_own w hgd s x t ho B e i (.int .u8 0) 1 1 ht hi hz0 hz1 hz2 rfl (by decide) v l.length _ hs hown ad 1 1 [.int .u8 (c.toNat : Int)] hx rfl ?_ ?_ (by unfold maxLen; omega) (by omega) hB ?_
  · intro j u hj
    rcases j with _ | j
    · simp at hj; subst hj
      have : ad.add 0 = ad := by unfold Addr.add; simp
      rw [this]; exact hc
    · simp at hj
  · intro u hu
    simp at hu; subst hu; rfl
  · intro v' w' hown' hg _
    refine h v' w' ?_ (hb.grown hg hB (fun j hj => (World.ownsRow.lt hown j hj).1)) (Nat.le_trans hB hg.size)
    unfold Buf
    simpa using hown'
theorem wpList_append_bufs {ops : Array Oper} {rest : List Oper} {o : Oper} {a : Act} {Q : Exit → Act → World → Prop} (hgd : o.guard = none) (s x : Operand) (t : TypeId)
    (ho : o.op = .call { callee := .builtin .append, args := #[s, x], argTypes := #[t, t] })
    (w0 w : World) (B B2 : Nat) (e : TypeId) (ht : P.underlying t = some (.slice e)) (hinfo : (P.info? e).map (fun i => (i.zero, i.size, i.bytes)) = some (some (.int .u8 0), 1, 1))
    (v v2 : Value) (l l2 : List UInt8) (hs : a.eval s = v) (hown : Buf w B e v l) (hb : Below B w0 w) (hB : B ≤ w.heap.size)
    (hx : a.eval x = v2) (hown2 : Buf w B2 e v2 l2) (hl : l.length + l2.length ≤ 140737488355328)
    (h : ∀ v' w', Buf w' B e v' (l ++ l2) → Below B w0 w' → B ≤ w'.heap.size → wpList P ops Q rest (a.put o.dst v') w') : wpList P ops Q (o :: rest) a w := by
  obtain ⟨i, hi, hz0, hz1, hz2⟩ := info_parts hinfo
  rcases hown2.2 with ⟨rfl, h0⟩ | ⟨g, cap, cur, rfl, h2⟩
  · have e0 : l2 = [] := List.length_eq_zero_iff.1 h0
    subst e0
    refine wpList_append_own_none hgd s x t ho B e i 1 ht hi v l.length _ hs hown hx ?_
    exact h v w (by rw [List.append_nil]; exact hown) hb hB
  · refine wpList_append_own w hgd s x t ho B e i (.int .u8 0) 1 1 ht hi hz0 hz1 hz2 rfl (by decide) v l.length _ hs hown ⟨g, 0, none⟩ l2.length cap (l2.map fun c => Value.int .u8 (c.toNat : Int)) hx (by simp) ?_ ?_ (by unfold maxLen; omega) (by omega) hB ?_
    · exact World.ownsRow.cells hown2 rfl
    · intro u hu
      obtain ⟨c, _, rfl⟩ := List.mem_map.1 hu
      rfl
    · intro v' w' hown' hg _
      refine h v' w' ?_ (hb.grown hg hB (fun j hj => (World.ownsRow.lt hown j hj).1)) (Nat.le_trans hB hg.size)
      unfold Buf
      simpa using hown'
end
end Go.Proofs.YtglckhljpjcmaaaGreatDoor
namespace Go.Proofs.YtglckhljpjcmaaaGreatDoor
open Go.RowKit

theorem infoU8 : (Tryz.prog.info? 5).map (fun i => (i.zero, i.size, i.bytes)) = some (some (.int .u8 0), 1, 1) := by kernel_rfl
theorem cell_new (w : World) (v : Value) (t : TypeId) : (w.alloc (.cells #[v] t)).cell? ⟨w.heap.size, 0, none⟩ = some v := by simp
theorem le_alloc {n : Nat} {w : World} (h : n ≤ w.heap.size) (o : Obj) : n ≤ (w.alloc o).heap.size := by simp; omega
theorem u8_ne {c : UInt8} {n : Nat} (hn : n < 256) (h : c ≠ UInt8.ofNat n) : ((c.toNat : Int) == (n : Int)) = false := by
  rw [beq_eq_false_iff_ne]; intro e; apply h
  rw [← UInt8.toNat_inj]; simp; omega
theorem u8_eq {c : UInt8} {n : Nat} (hn : n < 256) (h : c = UInt8.ofNat n) : ((c.toNat : Int) == (n : Int)) = true := by
  subst h; simp; omega
theorem u8_bt {c : UInt8} {n : Nat} (hn : n < 256) (h : c ≠ UInt8.ofNat n) : ((c.toNat : Int) != (n : Int)) = true := by rw [bne, u8_ne hn h]; rfl
theorem u8_bf {c : UInt8} {n : Nat} (hn : n < 256) (h : c = UInt8.ofNat n) : ((c.toNat : Int) != (n : Int)) = false := by rw [bne, u8_eq hn h]; rfl
end Go.Proofs.YtglckhljpjcmaaaGreatDoor
namespace Go.Proofs.YtglckhljpjcmaaaGreatDoor
open Go.RowKit

def digC (u : Nat) : UInt8 := UInt8.ofNat (48 + u % 10)
/-- After k digits of m have been written: what is left, and the digits that stand. -/
def DecAt (m u k : Nat) (l : List UInt8) : Prop := (k = 0 ∧ l = [] ∧ u = m) ∨ (0 < k ∧ Lib.decDigits m = (if u = 0 then [] else Lib.decDigits u) ++ l)
theorem DecAt.step {m u k : Nat} {l : List UInt8} (h : DecAt m u k l) (hk : u ≠ 0 ∨ k = 0) : DecAt m (u / 10) (k + 1) (digC u :: l) := by
  refine .inr ⟨by omega, ?_⟩
  have hd : Lib.decDigits m = Lib.decDigits u ++ l := by
    rcases h with ⟨_, rfl, rfl⟩ | ⟨h1, h2⟩
    · simp
    · rw [h2, if_neg (by omega)]
  rw [hd]
  by_cases h10 : u < 10
  · rw [Lib.decDigits_one h10, show u / 10 = 0 from by omega, show digC u = UInt8.ofNat (48 + u) from by unfold digC; rw [show u % 10 = u from by omega]]; rfl
  · rw [if_neg (by omega)]
    conv => lhs; rw [Lib.decDigits, dif_neg h10]
    rw [List.append_assoc]; rfl
theorem DecAt.done {m u k : Nat} {l : List UInt8} (h : DecAt m u k l) (hu : u = 0) (hk : 0 < k) : l = Lib.decDigits m := by
  rcases h with ⟨h, _⟩ | ⟨_, h⟩
  · omega
  · rw [h, if_pos hu, List.nil_append]
theorem cat_mk (a b : List UInt8) : (⟨a.toArray⟩ : ByteArray) ++ ⟨b.toArray⟩ = ⟨(a ++ b).toArray⟩ := by
  apply ByteArray.ext; simp
theorem DecAt.len {m u k : Nat} {l : List UInt8} (h : DecAt m u k l) (hm : m ≤ 9223372036854775808) : l.length ≤ 21 := by
  rcases h with ⟨_, rfl, _⟩ | ⟨_, h⟩
  · simp
  · have h1 : (Lib.itoa (-(m : Int))).length ≤ 21 := Lib.itoa_length_le _ (by omega) (by omega)
    have h2 : (Lib.decDigits m).length ≤ 21 := by
      by_cases h0 : m = 0
      · subst h0; rw [Lib.decDigits_one (by omega)]; simp
      · rw [Lib.itoa_neg m (by omega)] at h1; simp at h1; omega
    rw [h] at h2
    simp only [List.length_append] at h2
    omega
theorem digit_nat (u : Nat) : ((digC u).toNat : Int) = 48 + (u : Int) % 10 := by simp [digC]; omega
theorem Buf.digit (w : World) (B : Nat) (e : TypeId) (u : Nat) (hB : B ≤ w.heap.size) : Buf (w.alloc (.cells #[.int .u8 (48 + (u : Int) % 10)] e)) B e (.slice (some ⟨w.heap.size, 0, none⟩) 1 1) [digC u] := by
  rw [← digit_nat]; exact Buf.one w B e _ hB
set_option maxHeartbeats 800000 in
theorem rdecimal_pos (m : Nat) (w : World) (hm : m ≤ 9223372036854775807) :
    Calls Tryz.prog 49 #[.int .i64 m] w fun e w' => e = .returned (.string ⟨(Lib.decDigits m).toArray⟩) ∧ Below w.heap.size w w' := by
  have hm1 : ¬ (m : Int) < 0 := by omega
  go_enter Tryz.func49, Tryz.ntmps49
  go_wp2
  go_loopw [0, 3, 5] (fun n v j wr => ∃ (u k : Nat) (l : List UInt8), n = .int .i64 ((u : Int)) ∧ j = .int .i64 k ∧ Buf wr w.heap.size 5 v l ∧ DecAt m u k l ∧ u ≤ m ∧ l.length = k ∧ Below w.heap.size w wr ∧ w.heap.size ≤ wr.heap.size) (fun n _ j _ => (intOf n).natAbs + (1 - (intOf j).toNat))
  case atStart => exact ⟨m, 0, [], rfl, rfl, Buf.none_ _ _ _, .inl ⟨rfl, rfl, rfl⟩, Nat.le_refl _, rfl, Below.refl _ _, Nat.le_refl _⟩
  case round =>
    obtain ⟨u, k, l, rfl, rfl, hB, hD0, hu, hkm0, hb, hz⟩ := hrel
    have hkm : k ≤ 21 := by have := hD0.len (by omega); omega
    have Hkm := Lib.hid hkm0
    clear hkm0
    have hll := hD0.len (by omega)
    have hlen : [digC u].length + l.length ≤ 140737488355328 := by simp; omega
    by_cases h0 : u = 0
    · subst h0
      by_cases hk0 : k = 0
      · subst hk0
        have hD := Lib.hid hD0
        clear hD0
        go_wp2_with (at_builtin; refine wpList_append_bufs rfl (.tmp 26) (.tmp 27) 65 rfl w _ w.heap.size w.heap.size 5 Tryz.underlying65 infoU8 _ _ _ _ rfl (Buf.digit wr w.heap.size 5 0 hz) (hb.alloc hz _) (le_alloc hz _) rfl (hB.alloc _) hlen ?_)
        intro v1 w1 hB1 hb1 hz1
        clear hB hb hz
        go_wp2
        go_roundw
        case rel => exact ⟨0 / 10, 0 + 1, _, rfl, rfl, hB1, hD.out.step (.inr rfl), by omega, by simp [Hkm.out], hb1, hz1⟩
        case measure => simp [intOf]
      · have b2 : ((k : Int) == 0) = false := by simp; omega
        have HE := Lib.hid (hD0.done rfl (by omega))
        have hcv := conv_from_buf (P := Tryz.prog) 65 9 5 w.heap.size _ _ wr Tryz.underlying65 Tryz.underlying5 Tryz.underlying9 hB
        clear hD0 hB
        go_wp2
        go_ret
        exact ⟨by rw [← HE.out]; rfl, hb⟩
    · have b1 : ((u : Int) != 0) = true := by simp; omega
      have hD := Lib.hid hD0
      have hup : 0 < u := by omega
      clear hD0 h0
      go_wp2_with (at_builtin; refine wpList_append_bufs rfl (.tmp 26) (.tmp 27) 65 rfl w _ w.heap.size w.heap.size 5 Tryz.underlying65 infoU8 _ _ _ _ rfl (Buf.digit wr w.heap.size 5 u hz) (hb.alloc hz _) (le_alloc hz _) rfl (hB.alloc _) hlen ?_)
      intro v1 w1 hB1 hb1 hz1
      clear hB hb hz
      go_wp2
      go_roundw
      case rel => exact ⟨u / 10, k + 1, _, by go_num, by go_num, hB1, hD.out.step (.inl (by omega)), by omega, by simp [Hkm.out], hb1, hz1⟩
      case measure => simp [intOf]; omega
set_option maxHeartbeats 800000 in
theorem rdecimal_neg (m : Nat) (w : World) (hm : 0 < m) (hm2 : m ≤ 9223372036854775808) :
    Calls Tryz.prog 49 #[.int .i64 (-(m : Int))] w fun e w' => e = .returned (.string ⟨(45 :: Lib.decDigits m).toArray⟩) ∧ Below w.heap.size w w' := by
  have hm1 : -(m : Int) < 0 := by omega
  go_enter Tryz.func49, Tryz.ntmps49
  go_wp2
  go_loopw [0, 3, 5] (fun n v j wr => ∃ (u k : Nat) (l : List UInt8), n = .int .i64 (-(u : Int)) ∧ j = .int .i64 k ∧ Buf wr w.heap.size 5 v l ∧ DecAt m u k l ∧ u ≤ m ∧ l.length = k ∧ Below w.heap.size w wr ∧ w.heap.size ≤ wr.heap.size) (fun n _ j _ => (intOf n).natAbs + (1 - (intOf j).toNat))
  case atStart => exact ⟨m, 0, [], rfl, rfl, Buf.none_ _ _ _, .inl ⟨rfl, rfl, rfl⟩, Nat.le_refl _, rfl, Below.refl _ _, Nat.le_refl _⟩
  case round =>
    obtain ⟨u, k, l, rfl, rfl, hB, hD0, hu, hkm0, hb, hz⟩ := hrel
    have hkm : k ≤ 21 := by have := hD0.len (by omega); omega
    have Hkm := Lib.hid hkm0
    clear hkm0
    have hll := hD0.len (by omega)
    have hlen : [digC u].length + l.length ≤ 140737488355328 := by simp; omega
    by_cases h0 : u = 0
    · subst h0
      by_cases hk0 : k = 0
      · exfalso
        subst hk0
        rcases hD0 with ⟨_, _, h⟩ | ⟨h, _⟩ <;> omega
      · have b2 : ((k : Int) == 0) = false := by simp; omega
        have HE := Lib.hid (hD0.done rfl (by omega))
        have hcv := conv_from_buf (P := Tryz.prog) 65 9 5 w.heap.size _ _ wr Tryz.underlying65 Tryz.underlying5 Tryz.underlying9 hB
        clear hD0 hB hk0 hm
        go_wp2
        go_ret
        exact ⟨by rw [← HE.out]; exact congrArg (fun b => Ending.returned (Value.string b)) (cat_mk [45] l), hb⟩
    · have b1 : (-(u : Int) != 0) = true := by simp; omega
      have t1 : (-(u : Int)).tmod 10 = -((u : Int) % 10) := by rw [Int.neg_tmod, Int.tmod_eq_emod_of_nonneg (by omega)]
      have t2 : (-(u : Int)).tdiv 10 = -((u : Int) / 10) := by rw [Int.neg_tdiv, Int.tdiv_eq_ediv_of_nonneg (by omega)]
      have hD := Lib.hid hD0
      have hup : 0 < u := by omega
      clear hD0 h0
      by_cases hr0 : (u : Int) % 10 = 0
      · have d1 : ¬ -((u : Int) % 10) < 0 := by omega
        have d0 : -((u : Int) % 10) = (u : Int) % 10 := by omega
        rw [d0] at t1 d1
        clear hr0 d0
        go_wp2_with (at_builtin; refine wpList_append_bufs rfl (.tmp 26) (.tmp 27) 65 rfl w _ w.heap.size w.heap.size 5 Tryz.underlying65 infoU8 _ _ _ _ rfl (Buf.digit wr w.heap.size 5 u hz) (hb.alloc hz _) (le_alloc hz _) rfl (hB.alloc _) hlen ?_)
        intro v1 w1 hB1 hb1 hz1
        clear hB hb hz
        go_wp2
        go_roundw
        case rel => exact ⟨u / 10, k + 1, _, by go_num, by go_num, hB1, hD.out.step (.inl (by omega)), by omega, by simp [Hkm.out], hb1, hz1⟩
        case measure => simp [intOf]; omega
      · have d1 : -((u : Int) % 10) < 0 := by omega
        clear hr0
        go_wp2_with (at_builtin; refine wpList_append_bufs rfl (.tmp 26) (.tmp 27) 65 rfl w _ w.heap.size w.heap.size 5 Tryz.underlying65 infoU8 _ _ _ _ rfl (Buf.digit wr w.heap.size 5 u hz) (hb.alloc hz _) (le_alloc hz _) rfl (hB.alloc _) hlen ?_)
        intro v1 w1 hB1 hb1 hz1
        clear hB hb hz
        go_wp2
        go_roundw
        case rel => exact ⟨u / 10, k + 1, _, by go_num, by go_num, hB1, hD.out.step (.inl (by omega)), by omega, by simp [Hkm.out], hb1, hz1⟩
        case measure => simp [intOf]; omega
end Go.Proofs.YtglckhljpjcmaaaGreatDoor
namespace Go.Proofs.YtglckhljpjcmaaaGreatDoor
open Go.RowKit

abbrev PowTab (w : World) : Prop := Lib.TabIs Tryz.prog w "internal/strconv.uint64pow10" .u64 Lib.pow10Tab
set_option maxHeartbeats 400000 in
theorem decimal_any (n : Int) (w : World) (h0 : -9223372036854775808 ≤ n) (h1 : n ≤ 9223372036854775807) (htab : PowTab w) :
    Calls Tryz.prog 50 #[.int .i64 n] w fun e w' => e = .returned (.string ⟨(Lib.itoa n).toArray⟩) ∧ Below w.heap.size w w' := by
  have H := Lib.hid htab
  clear htab
  go_enter Tryz.func50, Tryz.ntmps50
  go_wp2_with fail
  refine (Tryz.strconv_Itoa n h0 h1 w H.out).mono ?_
  rintro e w' ⟨rfl, k, os, hw⟩
  have hb : Below w.heap.size w w' := by rw [hw]; exact Lib.below_grow _ _ (Nat.le_refl _) _ _
  have Hw := Lib.hid hw
  clear hw
  go_wp2_with fail
  go_ret
  exact ⟨rfl, hb⟩
theorem rdecimal_any (n : Int) (w : World) (h0 : -9223372036854775808 ≤ n) (h1 : n ≤ 9223372036854775807) :
    Calls Tryz.prog 49 #[.int .i64 n] w fun e w' => e = .returned (.string ⟨(Lib.itoa n).toArray⟩) ∧ Below w.heap.size w w' := by
  by_cases hn : n < 0
  · obtain ⟨m, rfl⟩ : ∃ m : Nat, n = -(m : Int) := ⟨n.natAbs, by omega⟩
    rw [Lib.itoa_neg m (by omega)]
    exact rdecimal_neg m w (by omega) (by omega)
  · obtain ⟨m, rfl⟩ : ∃ m : Nat, n = (m : Int) := ⟨n.toNat, by omega⟩
    rw [Lib.itoa_nonneg]
    exact rdecimal_pos m w (by omega)
/-- The table of powers of ten stands behind a call. -/
theorem PowTab.below {w w' : World} (h : PowTab w) (hb : Below w.heap.size w w') : PowTab w' := by
  have hg : Tryz.prog.globalNamed "internal/strconv.uint64pow10" = some 3 := by kernel_rfl
  exact var?_below hb hg (World.block_lt_of_cell? _ _ (Lib.TabIs.cell h hg 0 (by decide))) h
theorem itoa_len {n : Int} (h0 : -9223372036854775808 ≤ n) (h1 : n ≤ 9223372036854775807) : (Lib.itoa n).length ≤ 40 := by
  have := Lib.itoa_length_le n h0 h1
  omega
end Go.Proofs.YtglckhljpjcmaaaGreatDoor
namespace Go.Proofs.YtglckhljpjcmaaaGreatDoor
open Go.RowKit Go.WideShapes Go.ChangeShapes

theorem post_below {H : Type} {enc : TypeId × Value → H} {P : Program} {f : Func} {s : ChangeSpec} {apart fresh handsOn again : Bool} {W W' : World} {args : Array Value} {v : Value} {ds gs : List (DataW H)} {before pa pv : List MemPlace}
    (hW : DataW.Whole enc P f.params.toList s.vars apart W args.toList ds gs before)
    (hres : ∀ (b : Nat) (sp : Nat → Bool) (hd : Bool), DataW.TrodAll enc P W' b sp hd f.resultTypes.toList (v.resultList f.resultTypes.size) (s.fn H (ds ++ gs)).results [])
    (hargs : ∀ sp : Nat → Bool, (∀ p ∈ before, sp p.block = true) → DataW.TrodAll enc P W' 0 sp true f.params.toList args.toList (s.fn H (ds ++ gs)).args pa)
    (hvars : ∀ sp : Nat → Bool, (∀ p ∈ before, sp p.block = true) → DataW.TrodVars enc P W' sp s.vars (s.fn H (ds ++ gs)).vars pv)
    (hps : before = pa ++ pv) (hb : Below W.heap.size W W')
    (hok : ∀ (j : Nat) (t : TypeId) (r : Value), f.resultTypes[j]? = some t → (v.resultList f.resultTypes.size)[j]? = some r → Value.okWide P W' .any 0 t r) :
    s.post enc P f apart fresh handsOn again W args v W' := by
  have old : ∀ p ∈ before, p.block < W.heap.size := fun p hp => hW.lt p hp
  have mark : ∀ p ∈ before, (fun b => decide (b < W.heap.size)) p.block = true := fun p hp => decide_eq_true (old p hp)
  refine ⟨ds, gs, before, [], pa, pv, hW, hres _ _ _, hargs _ mark, hvars _ mark, World.keptBut_mono (fun p hp => ⟨hp, ?_⟩) (hb.frame (· ∈ before)), fun _ => ?_⟩
  · rw [hps, List.mem_append] at hp
    exact Or.inr hp
  obtain ⟨_, _, _, _, _, hz, hn⟩ := hW
  refine ⟨hok, _, _, ([] ++ pa) ++ pv, ⟨[] ++ pa, pv, trodAll_append (hargs _ (fun _ _ => rfl)) (hres _ _ _), hvars _ (fun _ _ => rfl), rfl, ?_, ?_⟩, ?_⟩
  · intro b off hp
    have hin : MemPlace.cell b off ∈ before := by rw [hps]; simpa using hp
    rw [hb.frozen (old _ hin)]
    exact hz b off hin
  · intro ha
    have h1 := hn ha
    rw [hps] at h1
    simpa using h1
  · intro p hp _
    rw [hps]
    simpa using hp
theorem returns_shaped_and {H : Type} {enc : TypeId × Value → H} {a : Assume} {C : Checked} {os : Os} {f : FuncId} {fn : Func} {s : ChangeSpec} {conds : List PathCond} {apart fresh handsOn again : Bool} {X : World → Array Value → Prop}
    (hX : ∀ (w w' : World) (args : Array Value), w.heap = w'.heap → X w args → X w' args)
    (own : ownKnob C.prog.godebug = none) (started : os.Started) (noInit : C.prog.inits.idxOf? f = none) (hfn : C.prog.funcs[f]? = some fn)
    (witness : ∃ (w : World) (tape : Tape) (i : Input), w.os = os ∧ (w.forCall tape i).Shaped C.prog ∧ i.vars = [] ∧ Input.okWide C.prog (w.forCall tape i) .any w.heap.size f i ∧
      ((s.pre enc C.prog fn conds apart (w.forCall tape i).memory i.args ∧ X (w.forCall tape i).memory i.args) ∧ sizedMet enc C.prog fn (OpenSpec.ofChange s) apart (w.forCall tape i).memory i.args) ∧ a.holds C.prog (lone (Frame.enter C.prog f i.args .normal) [] (w.forCall tape i)))
    (contract : ∀ (W : World) (base : Nat) (args : Array Value) (ds gs : List (DataW H)) (before : List MemPlace),
      (∀ (j : Nat) t v, fn.params[j]? = some t → args[j]? = some v → Value.okWide C.prog W .any base t v) →
      DataW.Whole enc C.prog fn.params.toList s.vars apart W args.toList ds gs before →
      X W args → W.ShapedOpen C.prog →
      Calls C.prog f args W fun e W' => ∃ v, e = .returned v ∧ s.post enc C.prog fn apart fresh handsOn again W args v W') :
    ReturnsInHanded a C os f .any (fun w args => (s.pre enc C.prog fn conds apart w args ∧ X w args) ∧ sizedMet enc C.prog fn (OpenSpec.ofChange s) apart w args) (s.post enc C.prog fn apart fresh handsOn again) := by
  refine returnsInHanded_of_calls own started noInit witness ?_
  intro w tape i _ hsh _ hok hpre _
  obtain ⟨_, _, _, fn', hfn', _, _, _, _, hval⟩ := hok
  have e : fn' = fn := Option.some.inj (hfn'.symm.trans hfn)
  subst e
  obtain ⟨⟨⟨ds, gs, before, hw, _⟩, hx⟩, _⟩ := hpre
  have hw' := DataW.Whole.of_heap (w' := w.forCall tape i) (by rfl) hw
  refine (contract (w.forCall tape i) w.heap.size i.args ds gs before hval hw' (hX _ _ _ (by rfl) hx) hsh).mono fun e W' ⟨v, he, hp⟩ => ?_
  subst he
  exact ChangeSpec.post_blind hp

theorem laid_rest {P : Program} {w : World} {n : String} {d : DataW Unit} {r : List (String × DataW Unit)} {ps : List MemPlace} (h : DataW.LaidVars P w ((n, d) :: r) ps) : ∃ q, DataW.LaidVars P w r q := by
  obtain ⟨_, _, _, _, _, q, _, _, _, _, h, _⟩ := h
  exact ⟨q, h⟩
theorem laid_tab {P : Program} {W : World} {name : String} {k : IntKind} {zs : List Int} {rest : List (String × DataW Unit)} {g : Nat} {t e : TypeId} {n : Nat} {ps : List MemPlace}
    (hg : P.globalNamed name = some g) (hty : (P.globals[g]?).map (·.type) = some t) (ht : P.underlying t = some (.array n e)) (he : P.underlying e = some (.int k)) (hce : P.cellsOf e = 1) (hct : P.cellsOf t = n)
    (h : DataW.LaidVars P W ((name, Lib.tabData k zs) :: rest) ps) : Lib.TabIs P W name k zs := by
  obtain ⟨g', t', cs, fuel, p, q, hg', ht', hvar, hd, _, _⟩ := h
  obtain rfl := Option.some.inj (hg.symm.trans hg')
  obtain rfl := Option.some.inj (hty.symm.trans ht')
  unfold Lib.TabIs
  rw [hvar, ← Lib.cells_of_tab ht he hce hct hd]
end Go.Proofs.YtglckhljpjcmaaaGreatDoor
namespace Go.Proofs.YtglckhljpjcmaaaGreatDoor
open Go.RowKit
theorem pow_of_laidT {W : World} (h : laidMetH Tryz.prog Rows.updateTargetsRow.laid W) : PowTab W := by
  rw [MakeChecks.laidMetH_plain _ _ _ (by kernel_rfl)] at h
  obtain ⟨ps, hv, _⟩ := h
  obtain ⟨q1, hv1⟩ := laid_rest hv
  obtain ⟨q2, hv2⟩ := laid_rest hv1
  exact laid_tab (g := 3) (t := 130) (e := 112) (n := 20) (by kernel_rfl) (by kernel_rfl) Tryz.underlying130 Tryz.underlying112 (by kernel_rfl) (by kernel_rfl) hv2
end Go.Proofs.YtglckhljpjcmaaaGreatDoor
namespace Go.Proofs.YtglckhljpjcmaaaGreatDoor

/-- A byte of a token (1.1). -/
def partB (c : UInt8) : Bool :=
  ((c.toNat : Int) == 33) || (((c.toNat : Int) == 35) || (((c.toNat : Int) == 36) || (((c.toNat : Int) == 37) || (((c.toNat : Int) == 38) || (((c.toNat : Int) == 39) || (((c.toNat : Int) == 42) || (((c.toNat : Int) == 43) || (((c.toNat : Int) == 45) || (((c.toNat : Int) == 46) || (((c.toNat : Int) == 94) || (((c.toNat : Int) == 95) || (((c.toNat : Int) == 96) || (((c.toNat : Int) == 124) || (((c.toNat : Int) == 126) || (decide (48 ≤ (c.toNat : Int)) && decide ((c.toNat : Int) ≤ 57) || (decide (65 ≤ (c.toNat : Int)) && decide ((c.toNat : Int) ≤ 90) || decide (97 ≤ (c.toNat : Int)) && decide ((c.toNat : Int) ≤ 122)))))))))))))))))
theorem partB_iff {c : UInt8} : partB c = true ↔ (c.toNat : Int) = 33 ∨ (c.toNat : Int) = 35 ∨ (c.toNat : Int) = 36 ∨ (c.toNat : Int) = 37 ∨ (c.toNat : Int) = 38 ∨ (c.toNat : Int) = 39 ∨ (c.toNat : Int) = 42 ∨ (c.toNat : Int) = 43 ∨ (c.toNat : Int) = 45 ∨ (c.toNat : Int) = 46 ∨ (c.toNat : Int) = 94 ∨ (c.toNat : Int) = 95 ∨ (c.toNat : Int) = 96 ∨ (c.toNat : Int) = 124 ∨ (c.toNat : Int) = 126 ∨ (48 ≤ (c.toNat : Int) ∧ (c.toNat : Int) ≤ 57 ∨ 65 ≤ (c.toNat : Int) ∧ (c.toNat : Int) ≤ 90 ∨ 97 ≤ (c.toNat : Int) ∧ (c.toNat : Int) ≤ 122) := by
  simp only [partB, Bool.or_eq_true, Bool.and_eq_true, beq_iff_eq, decide_eq_true_eq]
theorem partB_true {c : UInt8} (h : (c.toNat : Int) = 33 ∨ (c.toNat : Int) = 35 ∨ (c.toNat : Int) = 36 ∨ (c.toNat : Int) = 37 ∨ (c.toNat : Int) = 38 ∨ (c.toNat : Int) = 39 ∨ (c.toNat : Int) = 42 ∨ (c.toNat : Int) = 43 ∨ (c.toNat : Int) = 45 ∨ (c.toNat : Int) = 46 ∨ (c.toNat : Int) = 94 ∨ (c.toNat : Int) = 95 ∨ (c.toNat : Int) = 96 ∨ (c.toNat : Int) = 124 ∨ (c.toNat : Int) = 126 ∨ (48 ≤ (c.toNat : Int) ∧ (c.toNat : Int) ≤ 57 ∨ 65 ≤ (c.toNat : Int) ∧ (c.toNat : Int) ≤ 90 ∨ 97 ≤ (c.toNat : Int) ∧ (c.toNat : Int) ≤ 122)) : true = partB c := (partB_iff.2 h).symm
theorem partB_false {c : UInt8} (h : ¬ ((c.toNat : Int) = 33 ∨ (c.toNat : Int) = 35 ∨ (c.toNat : Int) = 36 ∨ (c.toNat : Int) = 37 ∨ (c.toNat : Int) = 38 ∨ (c.toNat : Int) = 39 ∨ (c.toNat : Int) = 42 ∨ (c.toNat : Int) = 43 ∨ (c.toNat : Int) = 45 ∨ (c.toNat : Int) = 46 ∨ (c.toNat : Int) = 94 ∨ (c.toNat : Int) = 95 ∨ (c.toNat : Int) = 96 ∨ (c.toNat : Int) = 124 ∨ (c.toNat : Int) = 126 ∨ (48 ≤ (c.toNat : Int) ∧ (c.toNat : Int) ≤ 57 ∨ 65 ≤ (c.toNat : Int) ∧ (c.toNat : Int) ≤ 90 ∨ 97 ≤ (c.toNat : Int) ∧ (c.toNat : Int) ≤ 122))) : false = partB c := by
  cases e : partB c with
  | false => rfl
  | true => exact absurd (partB_iff.1 e) h
abbrev signs : ByteArray := ⟨#[33, 35, 36, 37, 38, 39, 42, 43, 45, 46, 94, 95, 96, 124, 126]⟩
theorem sign_hit {c : UInt8} : ∀ (k : Nat) (h : k < signs.size), ((signs[k].toNat : Int) == (c.toNat : Int)) = true → true = partB c := by
  intro k h e
  have e : (signs[k].toNat : Int) = c.toNat := by simpa using e
  refine partB_true ?_
  have h15 : k < 15 := h
  match k, h15 with
  | 0, _ =>
    have e' : ((33 : Nat) : Int) = (c.toNat : Int) := e
    omega
  | 1, _ =>
    have e' : ((35 : Nat) : Int) = (c.toNat : Int) := e
    omega
  | 2, _ =>
    have e' : ((36 : Nat) : Int) = (c.toNat : Int) := e
    omega
  | 3, _ =>
    have e' : ((37 : Nat) : Int) = (c.toNat : Int) := e
    omega
  | 4, _ =>
    have e' : ((38 : Nat) : Int) = (c.toNat : Int) := e
    omega
  | 5, _ =>
    have e' : ((39 : Nat) : Int) = (c.toNat : Int) := e
    omega
  | 6, _ =>
    have e' : ((42 : Nat) : Int) = (c.toNat : Int) := e
    omega
  | 7, _ =>
    have e' : ((43 : Nat) : Int) = (c.toNat : Int) := e
    omega
  | 8, _ =>
    have e' : ((45 : Nat) : Int) = (c.toNat : Int) := e
    omega
  | 9, _ =>
    have e' : ((46 : Nat) : Int) = (c.toNat : Int) := e
    omega
  | 10, _ =>
    have e' : ((94 : Nat) : Int) = (c.toNat : Int) := e
    omega
  | 11, _ =>
    have e' : ((95 : Nat) : Int) = (c.toNat : Int) := e
    omega
  | 12, _ =>
    have e' : ((96 : Nat) : Int) = (c.toNat : Int) := e
    omega
  | 13, _ =>
    have e' : ((124 : Nat) : Int) = (c.toNat : Int) := e
    omega
  | 14, _ =>
    have e' : ((126 : Nat) : Int) = (c.toNat : Int) := e
    omega
theorem sign_miss {c : UInt8} (h : ∀ (k : Nat) (h : k < signs.size), ((signs[k].toNat : Int) == (c.toNat : Int)) = false) (h1 : ¬ (97 ≤ c.toNat ∧ c.toNat ≤ 122 ∨ 65 ≤ c.toNat ∧ c.toNat ≤ 90 ∨ 48 ≤ c.toNat ∧ c.toNat ≤ 57)) : false = partB c := by
  refine partB_false ?_
  have e0 : ((33 : Nat) : Int) ≠ (c.toNat : Int) := beq_eq_false_iff_ne.1 (h 0 (by decide))
  have e1 : ((35 : Nat) : Int) ≠ (c.toNat : Int) := beq_eq_false_iff_ne.1 (h 1 (by decide))
  have e2 : ((36 : Nat) : Int) ≠ (c.toNat : Int) := beq_eq_false_iff_ne.1 (h 2 (by decide))
  have e3 : ((37 : Nat) : Int) ≠ (c.toNat : Int) := beq_eq_false_iff_ne.1 (h 3 (by decide))
  have e4 : ((38 : Nat) : Int) ≠ (c.toNat : Int) := beq_eq_false_iff_ne.1 (h 4 (by decide))
  have e5 : ((39 : Nat) : Int) ≠ (c.toNat : Int) := beq_eq_false_iff_ne.1 (h 5 (by decide))
  have e6 : ((42 : Nat) : Int) ≠ (c.toNat : Int) := beq_eq_false_iff_ne.1 (h 6 (by decide))
  have e7 : ((43 : Nat) : Int) ≠ (c.toNat : Int) := beq_eq_false_iff_ne.1 (h 7 (by decide))
  have e8 : ((45 : Nat) : Int) ≠ (c.toNat : Int) := beq_eq_false_iff_ne.1 (h 8 (by decide))
  have e9 : ((46 : Nat) : Int) ≠ (c.toNat : Int) := beq_eq_false_iff_ne.1 (h 9 (by decide))
  have e10 : ((94 : Nat) : Int) ≠ (c.toNat : Int) := beq_eq_false_iff_ne.1 (h 10 (by decide))
  have e11 : ((95 : Nat) : Int) ≠ (c.toNat : Int) := beq_eq_false_iff_ne.1 (h 11 (by decide))
  have e12 : ((96 : Nat) : Int) ≠ (c.toNat : Int) := beq_eq_false_iff_ne.1 (h 12 (by decide))
  have e13 : ((124 : Nat) : Int) ≠ (c.toNat : Int) := beq_eq_false_iff_ne.1 (h 13 (by decide))
  have e14 : ((126 : Nat) : Int) ≠ (c.toNat : Int) := beq_eq_false_iff_ne.1 (h 14 (by decide))
  omega
def tokenB (l : List UInt8) : Bool := l.all partB && !l.isEmpty
/-- A byte of a text (1.1). -/
def textC (c : UInt8) : Bool := !(decide (c.toNat < 32) && decide (c.toNat ≠ 9) || decide (c.toNat = 127))
theorem textC_iff {c : UInt8} : textC c = true ↔ ¬ (c.toNat < 32 ∧ c.toNat ≠ 9 ∨ c.toNat = 127) := by
  unfold textC; rw [← Bool.decide_and, ← Bool.decide_or, ← decide_not, decide_eq_true_eq]
theorem textC_true {c : UInt8} (h : ¬ (c.toNat < 32 ∧ c.toNat ≠ 9 ∨ c.toNat = 127)) : textC c = true := textC_iff.2 h
theorem textC_false {c : UInt8} (h : c.toNat < 32 ∧ c.toNat ≠ 9 ∨ c.toNat = 127) : textC c = false := by
  cases e : textC c with
  | false => rfl
  | true => exact absurd h (textC_iff.1 e)
def textB (l : List UInt8) : Bool := l.all textC
def lowC (c : UInt8) : UInt8 := if 65 ≤ c.toNat ∧ c.toNat ≤ 90 then c + 32 else c
def lowL (l : List UInt8) : List UInt8 := l.map lowC
def foldB (a b : List UInt8) : Bool := decide (a.length = b.length) && (lowL a == lowL b)
theorem lowL_length (l : List UInt8) : (lowL l).length = l.length := by simp [lowL]
theorem lowC_hit {c : UInt8} (h : 65 ≤ c.toNat ∧ c.toNat ≤ 90) : ((lowC c).toNat : Int) = (c.toNat : Int) + 32 := by
  unfold lowC; rw [if_pos h]
  have : (c + 32).toNat = (c.toNat + 32) % 256 := by rw [UInt8.toNat_add]; rfl
  rw [this]; omega
theorem lowC_miss {c : UInt8} (h : ¬ (65 ≤ c.toNat ∧ c.toNat ≤ 90)) : lowC c = c := by unfold lowC; rw [if_neg h]
/-- The bytes behind k steps of a walk that lowers in place. -/
def lowUpTo (l : List UInt8) (k : Nat) : List UInt8 := (l.take k).map lowC ++ l.drop k
theorem lowUpTo_length (l : List UInt8) (k : Nat) : (lowUpTo l k).length = l.length := by simp [lowUpTo]; omega
theorem lowUpTo_get (l : List UInt8) {k : Nat} (h : k < l.length) : (lowUpTo l k)[k]'(by rw [lowUpTo_length]; exact h) = l[k] := by
  unfold lowUpTo
  rw [List.getElem_append_right (by simp; omega)]
  simp [Nat.min_eq_left (Nat.le_of_lt h)]
theorem lowUpTo_step (l : List UInt8) {k : Nat} (h : k < l.length) : (lowUpTo l k).set k (lowC l[k]) = lowUpTo l (k + 1) := by
  unfold lowUpTo
  have hlen : ((l.take k).map lowC).length = k := by simp [Nat.min_eq_left (Nat.le_of_lt h)]
  rw [List.set_append_right k _ (by omega), hlen, Nat.sub_self, List.drop_eq_getElem_cons h, List.set_cons_zero, List.take_succ_eq_append_getElem h, List.map_append, List.append_assoc]; rfl
theorem lowUpTo_keep (l : List UInt8) {k : Nat} (h : k < l.length) (hc : lowC l[k] = l[k]) : lowUpTo l k = lowUpTo l (k + 1) := by
  rw [← lowUpTo_step l h, hc]
  have := lowUpTo_get l h
  rw [← this, List.set_getElem_self]
theorem lowUpTo_end (l : List UInt8) {k : Nat} (h : l.length ≤ k) : lowUpTo l k = lowL l := by
  unfold lowUpTo lowL; rw [List.take_of_length_le h, List.drop_of_length_le h, List.append_nil]
theorem lowUpTo_zero (l : List UInt8) : lowUpTo l 0 = l := by simp [lowUpTo]
theorem all_step (p : UInt8 → Bool) (s : ByteArray) {k : Nat} (h : k < s.size) : ((bs s).drop k).all p = (p s[k] && ((bs s).drop (k + 1)).all p) := by
  rw [drop_step s h, List.all_cons]
theorem all_end (p : UInt8 → Bool) (s : ByteArray) {k : Nat} (h : s.size ≤ k) : ((bs s).drop k).all p = true := by rw [drop_end s h]; rfl
/-- A quoted string without its first quote (1.4). -/
def escL (l : List UInt8) : List UInt8 := l.flatMap fun c => if c = 34 ∨ c = 92 then [92, c] else [c]
def quoteL (l : List UInt8) : List UInt8 := 34 :: escL l ++ [34]
theorem escL_length_le (l : List UInt8) : (escL l).length ≤ 2 * l.length := by
  induction l with
  | nil => simp [escL]
  | cons c t ih =>
    rw [show escL (c :: t) = (if c = 34 ∨ c = 92 then [92, c] else [c]) ++ escL t from rfl, List.length_append, List.length_cons]
    split <;> simp <;> omega
theorem escL_step (s : ByteArray) {k : Nat} (h : k < s.size) : escL ((bs s).take (k + 1)) = escL ((bs s).take k) ++ (if s[k] = 34 ∨ s[k] = 92 then [92, s[k]] else [s[k]]) := by
  rw [take_step s h]; simp [escL]
/-- What stands between the quotes, its escapes resolved (1.4). -/
def unq : List UInt8 → Option (List UInt8)
  | [] => some []
  | [c] => if c = 34 ∨ c = 92 then none else some [c]
  | c :: d :: u => if c = 34 then none else if c = 92 then (unq u).map (d :: ·) else (unq (d :: u)).map (c :: ·)
theorem unq_quote (t : List UInt8) : unq (34 :: t) = none := by
  cases t <;> simp [unq]
theorem unq_last : unq [92] = none := by simp [unq]
theorem unq_esc (d : UInt8) (u : List UInt8) : unq (92 :: d :: u) = (unq u).map (d :: ·) := by
  rw [unq, if_neg (by decide), if_pos rfl]
theorem unq_plain (c : UInt8) (t : List UInt8) (h1 : c ≠ 34) (h2 : c ≠ 92) : unq (c :: t) = (unq t).map (c :: ·) := by
  cases t with
  | nil => simp [unq, h1, h2]
  | cons d u => rw [unq, if_neg h1, if_neg h2]
def resU (l acc : List UInt8) : Option (List UInt8) := if textB l then (unq l).map (acc ++ ·) else none
theorem resU_nil (acc : List UInt8) : resU [] acc = some acc := by simp [resU, textB, unq]
theorem resU_quote (t acc : List UInt8) : resU (34 :: t) acc = none := by simp [resU, unq_quote]
theorem resU_last (acc : List UInt8) : resU [92] acc = none := by simp [resU, unq_last]
theorem resU_one (c : UInt8) (l acc l' : List UInt8) (o : Option (List UInt8)) (ht : textB l = (textC c && textB l')) (hu : unq l = o.map (c :: ·)) (ho : o = unq l') : resU l acc = if textC c then resU l' (acc ++ [c]) else none := by
  unfold resU
  rw [ht, hu, ho]
  cases hd : textC c with
  | false => rfl
  | true =>
    cases he : textB l' with
    | false => rfl
    | true =>
      simp only [Bool.true_and, if_true]
      cases unq l' <;> simp
theorem resU_esc (d : UInt8) (u acc : List UInt8) : resU (92 :: d :: u) acc = if textC d then resU u (acc ++ [d]) else none :=
  resU_one d _ acc u _ (by simp only [textB, List.all_cons, show textC 92 = true from by decide, Bool.true_and]) (unq_esc d u) rfl
theorem resU_plain (c : UInt8) (t acc : List UInt8) (h1 : c ≠ 34) (h2 : c ≠ 92) : resU (c :: t) acc = if textC c then resU t (acc ++ [c]) else none :=
  resU_one c _ acc t _ (by simp only [textB, List.all_cons]) (unq_plain c t h1 h2) rfl
/-- A quoted string's content, if it is one. -/
def unquoteL (l : List UInt8) : Option (List UInt8) :=
  if l.length < 2 ∨ l.getD 0 0 ≠ 34 ∨ l.getD (l.length - 1) 0 ≠ 34 then none else resU ((l.drop 1).take (l.length - 2)) []
def unqV : Option (List UInt8) → Value
  | some l => .tuple #[.string ⟨l.toArray⟩, .bool true]
  | none => .tuple #[.string ⟨#[]⟩, .bool false]
theorem unquoteL_bad {s : ByteArray} (h : s.size < 2 ∨ (∃ h0 : 0 < s.size, s[0] ≠ 34) ∨ ∃ h0 : s.size - 1 < s.size, s[s.size - 1] ≠ 34) : unquoteL (bs s) = none := by
  unfold unquoteL
  rw [if_pos]
  rw [bs_length]
  rcases h with h | ⟨h0, h⟩ | ⟨h0, h⟩
  · exact .inl h
  · refine .inr (.inl ?_)
    rw [List.getD_eq_getElem?_getD, List.getElem?_eq_getElem (by rw [bs_length]; exact h0)]; exact h
  · refine .inr (.inr ?_)
    rw [List.getD_eq_getElem?_getD, List.getElem?_eq_getElem (by rw [bs_length]; exact h0)]; exact h
theorem unquoteL_ok {s : ByteArray} (h2 : ¬ s.size < 2) (h0 : s[0] = 34) (h1 : s[s.size - 1] = 34) : unquoteL (bs s) = resU (bs (s.extract 1 (s.size - 1))) [] := by
  unfold unquoteL
  rw [if_neg, bs_length]
  · have : bs (s.extract 1 (s.size - 1)) = (bs s |>.drop 1).take (s.size - 1 - 1) := Lib.extract_data s 1 (s.size - 1)
    rw [this, show s.size - 1 - 1 = s.size - 2 from by omega]
  · rw [bs_length]
    rintro (h | h | h)
    · exact h2 h
    · apply h; rw [List.getD_eq_getElem?_getD, List.getElem?_eq_getElem (by rw [bs_length]; omega)]; exact h0
    · apply h; rw [List.getD_eq_getElem?_getD, List.getElem?_eq_getElem (by rw [bs_length]; omega)]; exact h1
/-- One step over the bytes of t from k on. -/
theorem resU_at (t : ByteArray) {k : Nat} (acc : List UInt8) (h : k < t.size) :
    (t[k] = 34 → resU ((bs t).drop k) acc = none) ∧
    (t[k] = 92 → t.size ≤ k + 1 → resU ((bs t).drop k) acc = none) ∧
    (t[k] = 92 → ∀ h1 : k + 1 < t.size, resU ((bs t).drop k) acc = if textC t[k + 1] then resU ((bs t).drop (k + 2)) (acc ++ [t[k + 1]]) else none) ∧
    (t[k] ≠ 34 → t[k] ≠ 92 → resU ((bs t).drop k) acc = if textC t[k] then resU ((bs t).drop (k + 1)) (acc ++ [t[k]]) else none) := by
  rw [drop_step t h]
  refine ⟨fun e => by rw [e]; exact resU_quote _ _, fun e h1 => by rw [e, drop_end t h1]; exact resU_last _, fun e h1 => by rw [e, drop_step t h1]; exact resU_esc _ _ _, fun e1 e2 => resU_plain _ _ _ e1 e2⟩
theorem resU_end (t : ByteArray) {k : Nat} (acc : List UInt8) (h : t.size ≤ k) : resU ((bs t).drop k) acc = some acc := by rw [drop_end t h]; exact resU_nil acc
theorem textB_false_res {l acc : List UInt8} (h : textB l = false) : resU l acc = none := by simp [resU, h]
theorem textB_at {t : ByteArray} {k : Nat} (h : textB (bs t) = true) (hk : k < t.size) : textC t[k] = true := by
  have : t[k] ∈ bs t := by
    rw [List.mem_iff_getElem]; exact ⟨k, by rw [bs_length]; exact hk, rfl⟩
  exact List.all_eq_true.1 h _ this
end Go.Proofs.YtglckhljpjcmaaaGreatDoor
namespace Go.Proofs.YtglckhljpjcmaaaGreatDoor

/-- What stands ahead of the first c, what stands behind it, and whether there is one. -/
def cutB (c : UInt8) : List UInt8 → List UInt8 × List UInt8 × Bool
  | [] => ([], [], false)
  | b :: t => if b = c then ([], t, true) else (b :: (cutB c t).1, (cutB c t).2.1, (cutB c t).2.2)
theorem cutB_nil (c : UInt8) : cutB c [] = ([], [], false) := rfl
theorem cutB_same (c : UInt8) (t : List UInt8) : cutB c (c :: t) = ([], t, true) := by rw [cutB, if_pos rfl]
theorem cutB_other {c b : UInt8} (h : b ≠ c) (t : List UInt8) : cutB c (b :: t) = (b :: (cutB c t).1, (cutB c t).2.1, (cutB c t).2.2) := by rw [cutB, if_neg h]
theorem cutB_spec (c : UInt8) : ∀ l : List UInt8, ((cutB c l).2.2 = true ∧ l = (cutB c l).1 ++ c :: (cutB c l).2.1 ∧ c ∉ (cutB c l).1) ∨ (cutB c l = (l, [], false) ∧ c ∉ l)
  | [] => .inr ⟨rfl, by simp⟩
  | b :: t => by
    by_cases h : b = c
    · subst h
      rw [cutB_same]; exact .inl ⟨rfl, rfl, by simp⟩
    · rw [cutB_other h]
      rcases cutB_spec c t with ⟨h1, h2, h3⟩ | ⟨h1, h2⟩
      · refine .inl ⟨h1, ?_, ?_⟩
        · show b :: t = b :: ((cutB c t).1 ++ c :: (cutB c t).2.1)
          rw [← h2]
        · simp only [List.mem_cons, not_or]; exact ⟨fun e => h e.symm, h3⟩
      · rw [h1]
        refine .inr ⟨rfl, ?_⟩
        simp only [List.mem_cons, not_or]; exact ⟨fun e => h e.symm, h2⟩
theorem cutB_hit {c : UInt8} : ∀ {a : List UInt8}, c ∉ a → ∀ b : List UInt8, cutB c (a ++ c :: b) = (a, b, true)
  | [], _, b => cutB_same c b
  | x :: t, h, b => by
    simp only [List.mem_cons, not_or] at h
    rw [List.cons_append, cutB_other (fun e => h.1 e.symm), cutB_hit h.2 b]
theorem cutB_miss {c : UInt8} {l : List UInt8} (h : c ∉ l) : cutB c l = (l, [], false) := by
  rcases cutB_spec c l with ⟨_, h2, _⟩ | ⟨h1, _⟩
  · exact absurd (by rw [h2]; simp) h
  · exact h1
theorem cutB_cases (c : UInt8) (l : List UInt8) : (∃ a b, cutB c l = (a, b, true) ∧ l = a ++ c :: b ∧ c ∉ a) ∨ (cutB c l = (l, [], false) ∧ c ∉ l) := by
  rcases cutB_spec c l with ⟨h1, h2, h3⟩ | h
  · exact .inl ⟨_, _, by rw [← h1], h2, h3⟩
  · exact .inr h
theorem cutB_len (c : UInt8) (l : List UInt8) : (cutB c l).1.length + (cutB c l).2.1.length ≤ l.length := by
  rcases cutB_cases c l with ⟨a, b, h, h2, _⟩ | ⟨h, _⟩
  · rw [h, h2]; simp
  · rw [h]; simp
theorem index_one (c : UInt8) : ∀ l : List UInt8, Lib.index l [c] = if (cutB c l).2.2 then ((cutB c l).1.length : Int) else -1
  | [] => rfl
  | b :: t => by
    unfold Lib.index
    by_cases h : b = c
    · subst h
      rw [cutB_same, if_pos (by simp)]; rfl
    · rw [cutB_other h, if_neg (by simp; exact fun e => h e.symm), index_one c t]
      cases hb : (cutB c t).2.2 with
      | true => simp only [if_true]; rw [if_neg (by simp)]; simp
      | false => simp
theorem cut_one (c : UInt8) (l : List UInt8) : Lib.cut l [c] = cutB c l := by
  unfold Lib.cut
  rw [index_one]
  rcases cutB_cases c l with ⟨a, b, h, h2, _⟩ | ⟨h, _⟩
  · rw [h, if_pos rfl, if_pos (by omega), h2]
    simp
  · rw [h]; simp
/-- The index of the first c from k on, or -1. -/
def idxFrom (c : UInt8) (l : List UInt8) (k : Nat) : Int := if (cutB c (l.drop k)).2.2 then ((k + (cutB c (l.drop k)).1.length : Nat) : Int) else -1
theorem idxFrom_hit (s : ByteArray) {k : Nat} {c : UInt8} (hlt : k < s.size) (h : s[k] = c) : idxFrom c (bs s) k = k := by
  unfold idxFrom
  rw [drop_step s hlt, h, cutB_same]; simp
theorem idxFrom_step (s : ByteArray) {k : Nat} {c : UInt8} (hlt : k < s.size) (h : s[k] ≠ c) : idxFrom c (bs s) k = idxFrom c (bs s) (k + 1) := by
  unfold idxFrom
  rw [drop_step s hlt, cutB_other h]
  cases (cutB c ((bs s).drop (k + 1))).2.2 with
  | true => simp only [if_true, List.length_cons]; omega
  | false => rfl
theorem idxFrom_end (s : ByteArray) {k : Nat} (c : UInt8) (h : s.size ≤ k) : idxFrom c (bs s) k = -1 := by
  unfold idxFrom
  rw [drop_end s h]; rfl
theorem idxFrom_bd (c : UInt8) (l : List UInt8) (k : Nat) : (idxFrom c l k = -1 ∧ cutB c (l.drop k) = (l.drop k, [], false)) ∨ ∃ i : Nat, idxFrom c l k = i ∧ k ≤ i ∧ i < l.length ∧ cutB c (l.drop k) = ((l.drop k).take (i - k), l.drop (i + 1), true) := by
  unfold idxFrom
  rcases cutB_cases c (l.drop k) with ⟨a, b, h, h2, _⟩ | ⟨h, _⟩
  · right
    have hl := congrArg List.length h2
    simp at hl
    rw [h, if_pos rfl]
    refine ⟨k + a.length, rfl, by omega, by omega, ?_⟩
    have e2 : l.drop (k + a.length + 1) = b := by
      rw [show k + a.length + 1 = k + (a.length + 1) from by omega, ← List.drop_drop, h2]; simp
    rw [e2, show k + a.length - k = a.length from by omega, h2]; simp
  · left; rw [h]; exact ⟨rfl, rfl⟩
end Go.Proofs.YtglckhljpjcmaaaGreatDoor
namespace Go.Proofs.YtglckhljpjcmaaaGreatDoor

/-- A list cut at every c. -/
def splitC (c : UInt8) : List UInt8 → List (List UInt8)
  | [] => [[]]
  | b :: t => if b = c then [] :: splitC c t else match splitC c t with | [] => [[b]] | x :: r => (b :: x) :: r
theorem splitC_ne (c : UInt8) : ∀ l : List UInt8, splitC c l ≠ []
  | [] => by simp [splitC]
  | b :: t => by
    rw [splitC]
    split
    · simp
    · split <;> simp
theorem splitC_other {c b : UInt8} (h : b ≠ c) {t x : List UInt8} {r : List (List UInt8)} (e : splitC c t = x :: r) : splitC c (b :: t) = (b :: x) :: r := by
  rw [splitC, if_neg h, e]
theorem splitC_hit {c : UInt8} : ∀ {a : List UInt8}, c ∉ a → ∀ b, splitC c (a ++ c :: b) = a :: splitC c b
  | [], _, b => by rw [List.nil_append, splitC, if_pos rfl]
  | x :: t, h, b => by
    simp only [List.mem_cons, not_or] at h
    rw [List.cons_append, splitC_other (fun e => h.1 e.symm) (splitC_hit h.2 b)]
theorem splitC_miss {c : UInt8} : ∀ {l : List UInt8}, c ∉ l → splitC c l = [l]
  | [], _ => rfl
  | x :: t, h => by
    simp only [List.mem_cons, not_or] at h
    rw [splitC_other (fun e => h.1 e.symm) (splitC_miss h.2)]
theorem splitC_cut (c : UInt8) (l : List UInt8) : (∃ a b, cutB c l = (a, b, true) ∧ splitC c l = a :: splitC c b ∧ b.length < l.length) ∨ (cutB c l = (l, [], false) ∧ splitC c l = [l]) := by
  rcases cutB_cases c l with ⟨a, b, h, h2, h3⟩ | ⟨h, h3⟩
  · exact .inl ⟨a, b, h, by rw [h2]; exact splitC_hit h3 b, by rw [h2]; simp; omega⟩
  · exact .inr ⟨h, splitC_miss h3⟩
theorem splitC_mem {c : UInt8} : ∀ {l x : List UInt8}, x ∈ splitC c l → c ∉ x
  | [], x, h => by
    rw [splitC, List.mem_singleton] at h; subst h; simp
  | b :: t, x, h => by
    by_cases hb : b = c
    · subst hb
      rw [splitC, if_pos rfl] at h
      rcases List.mem_cons.1 h with rfl | h
      · simp
      · exact splitC_mem h
    · cases hs : splitC c t with
      | nil => exact absurd hs (splitC_ne c t)
      | cons y r =>
        rw [splitC_other hb hs] at h
        rcases List.mem_cons.1 h with rfl | h
        · have := splitC_mem (l := t) (x := y) (by rw [hs]; simp)
          simp only [List.mem_cons, not_or]
          exact ⟨fun e => hb e.symm, this⟩
        · exact splitC_mem (l := t) (by rw [hs]; simp [h])
theorem splitC_len (c : UInt8) : ∀ l : List UInt8, (splitC c l).length ≤ l.length + 1
  | [] => by simp [splitC]
  | b :: t => by
    have := splitC_len c t
    rw [splitC]
    split
    · simp; omega
    · split
      · simp
      · rename_i x r e
        rw [e] at this; simp at this ⊢; omega
theorem splitC_mem_len {c : UInt8} : ∀ {l x : List UInt8}, x ∈ splitC c l → x.length ≤ l.length
  | [], x, h => by rw [splitC, List.mem_singleton] at h; subst h; simp
  | b :: t, x, h => by
    by_cases hb : b = c
    · subst hb
      rw [splitC, if_pos rfl] at h
      rcases List.mem_cons.1 h with rfl | h
      · simp
      · have := splitC_mem_len h; simp; omega
    · cases hs : splitC c t with
      | nil => exact absurd hs (splitC_ne c t)
      | cons y r =>
        rw [splitC_other hb hs] at h
        rcases List.mem_cons.1 h with rfl | h
        · have := splitC_mem_len (l := t) (x := y) (by rw [hs]; simp)
          simp; omega
        · have := splitC_mem_len (l := t) (x := x) (by rw [hs]; simp [h])
          simp; omega
/-- The shelf's own split at one byte. -/
theorem splitK_one (c : UInt8) : ∀ (n : Nat) (l : List UInt8), l.length ≤ n → Lib.splitK [c] 0 (Lib.count l [c]) l = splitC c l
  | 0, l, h => by
    have : l = [] := List.length_eq_zero_iff.1 (by omega)
    subst this
    rw [Lib.count_one]; rfl
  | n + 1, l, h => by
    rcases splitC_cut c l with ⟨a, b, hc, hs, hlt⟩ | ⟨hc, hs⟩
    · have hi := index_one c l
      rw [hc, if_pos rfl] at hi
      have hj := cut_one c l
      rw [hc] at hj
      have hl := Lib.count_hit (s := l) (sub := [c]) (by simp) hi
      have e : l = a ++ c :: b := by
        rcases cutB_cases c l with ⟨a', b', h', h2, _⟩ | ⟨h', _⟩
        · rw [hc] at h'; simp at h'; obtain ⟨rfl, rfl⟩ := h'; exact h2
        · rw [hc] at h'; simp at h'
      have ed : l.drop (a.length + [c].length) = b := by rw [e]; simp
      rw [hl, ed, Nat.add_comm 1, Lib.splitK, if_neg (by rw [hi]; simp), hi, hs]
      have et : l.take (((a.length : Int)).toNat + 0) = a := by rw [Int.toNat_natCast, e]; simp
      have ed2 : l.drop (((a.length : Int)).toNat + [c].length) = b := by rw [Int.toNat_natCast]; exact ed
      rw [et, ed2, splitK_one c n b (by omega)]
    · have hi := index_one c l
      rw [hc, if_neg (by simp)] at hi
      rw [Lib.count_miss hi, hs]; rfl
theorem splitB_one (c : UInt8) (s : ByteArray) : (Lib.splitB ⟨#[c]⟩ 0 (Lib.countB s ⟨#[c]⟩) s).map (fun x => x.data.toList) = splitC c (bs s) := by
  rw [Lib.splitB_data]
  exact splitK_one c _ _ (Nat.le_refl _)
theorem countB_one (c : UInt8) (s : ByteArray) : Lib.countB s ⟨#[c]⟩ + 1 = (splitC c (bs s)).length := by
  rw [← splitB_one, List.length_map, Lib.splitB_all ⟨#[c]⟩ (Nat.le_refl 1) 0 _ s rfl]
def alC (c : UInt8) : Bool := (decide (97 ≤ c.toNat) && decide (c.toNat ≤ 122)) || (decide (65 ≤ c.toNat) && decide (c.toNat ≤ 90))
def subC (d : Bool) (c : UInt8) : Bool := alC c || (d && digB c)
/-- A subtag: 1 to 8 letters, or letters and digits. -/
def subB (d : Bool) (x : List UInt8) : Bool := x.all (subC d) && (!x.isEmpty && decide (x.length ≤ 8))
/-- Subtags from the i-th on. -/
def tagsFrom : Nat → List (List UInt8) → Bool
  | _, [] => true
  | i, x :: r => subB (decide (0 < i)) x && tagsFrom (i + 1) r
def tagB (l : List UInt8) : Bool := tagsFrom 0 (splitC 45 l)
def rangeB (l : List UInt8) : Bool := l == [42] || tagB l
theorem alC_iff {c : UInt8} : alC c = true ↔ 97 ≤ c.toNat ∧ c.toNat ≤ 122 ∨ 65 ≤ c.toNat ∧ c.toNat ≤ 90 := by simp [alC]
theorem lowC_al (c : UInt8) : alC c = true ↔ 97 ≤ (lowC c).toNat ∧ (lowC c).toNat ≤ 122 := by
  rw [alC_iff]
  by_cases h : 65 ≤ c.toNat ∧ c.toNat ≤ 90
  · have := lowC_hit h; omega
  · rw [lowC_miss h]; omega
theorem lowC_dig (c : UInt8) : digB c = true ↔ 48 ≤ (lowC c).toNat ∧ (lowC c).toNat ≤ 57 := by
  by_cases h : 65 ≤ c.toNat ∧ c.toNat ≤ 90
  · have := lowC_hit h
    constructor
    · intro hd; have := of_digB hd; omega
    · intro hd; omega
  · rw [lowC_miss h]
    exact ⟨of_digB, digB_true⟩
end Go.Proofs.YtglckhljpjcmaaaGreatDoor
namespace Go.Proofs.YtglckhljpjcmaaaGreatDoor

theorem resU_escL : ∀ (l acc : List UInt8), resU (escL l) acc = if textB l then some (acc ++ l) else none
  | [], acc => by rw [show escL [] = [] from rfl, resU_nil]; simp [textB]
  | c :: t, acc => by
    have ih := resU_escL t (acc ++ [c])
    rw [show escL (c :: t) = (if c = 34 ∨ c = 92 then [92, c] else [c]) ++ escL t from rfl]
    have ht : textB (c :: t) = (textC c && textB t) := by simp only [textB, List.all_cons]
    rw [ht]
    by_cases hq : c = 34 ∨ c = 92
    · have hc : textC c = true := by rcases hq with rfl | rfl <;> decide
      rw [if_pos hq, show [92, c] ++ escL t = 92 :: c :: escL t from rfl, resU_esc, hc, if_pos rfl, ih]
      simp
    · rw [if_neg hq, show [c] ++ escL t = c :: escL t from rfl, resU_plain _ _ _ (fun h => hq (.inl h)) (fun h => hq (.inr h)), ih]
      cases textC c <;> simp
theorem unquote_quote (l : List UInt8) : unquoteL (quoteL l) = if textB l then some l else none := by
  have hlen : (quoteL l).length = (escL l).length + 2 := by simp [quoteL]
  unfold unquoteL
  rw [if_neg]
  · have : ((quoteL l).drop 1).take ((quoteL l).length - 2) = escL l := by
      rw [hlen]; simp [quoteL]
    rw [this, resU_escL]; simp
  · rw [hlen]
    rintro (h | h | h)
    · omega
    · exact h (by simp [quoteL])
    · apply h
      unfold quoteL
      rw [List.getD_eq_getElem?_getD, List.getElem?_append_right (by simp)]; simp
theorem numGo_append : ∀ (l1 l2 : List UInt8) (a : Int), numGo (l1 ++ l2) a = (numGo l1 a).bind (numGo l2)
  | [], l2, a => by simp [numGo]
  | c :: t, l2, a => by
    rw [List.cons_append, numGo, numGo]
    split
    · exact numGo_append t l2 _
    · rfl
theorem numGo_digit (d : Nat) (hd : d < 10) (a : Int) : numGo [UInt8.ofNat (48 + d)] a = some (min (10 * a + d) 2147483647) := by
  have h : (UInt8.ofNat (48 + d)).toNat = 48 + d := by simp; omega
  rw [numGo, if_pos (digB_true (by omega)), numGo, h]
  congr 1; omega
theorem numGo_dec (u : Nat) : numGo (Lib.decDigits u) 0 = some (min (u : Int) 2147483647) := by
  induction u using Nat.strongRecOn with
  | ind u ih =>
    by_cases h : u < 10
    · rw [Lib.decDigits_one h, numGo_digit u h, show 10 * (0 : Int) + (u : Int) = u from by omega]
    · rw [Lib.decDigits, dif_neg h, numGo_append, ih (u / 10) (by omega), Option.bind_some, numGo_digit _ (by omega)]
      congr 1; omega
theorem decDigits_ne (u : Nat) : (Lib.decDigits u).isEmpty = false := by
  by_cases h : u < 10
  · rw [Lib.decDigits_one h]; rfl
  · rw [Lib.decDigits, dif_neg h]; simp
theorem numV_itoa_neg (n : Int) (h : n < 0) : numV (Lib.itoa n) = .tuple #[.int .i64 0, .bool false] := by
  refine numV_none ?_
  unfold Lib.itoa
  rw [if_pos h, numGo, if_neg (by decide)]
theorem numV_itoa (n : Int) (h : ¬ n < 0) : numV (Lib.itoa n) = .tuple #[.int .i64 (min n 2147483647), .bool true] := by
  obtain ⟨u, rfl⟩ : ∃ u : Nat, n = (u : Int) := ⟨n.toNat, by omega⟩
  rw [Lib.itoa_nonneg, numV_some (numGo_dec u), decDigits_ne]; rfl
theorem lowC_low (c : UInt8) : lowC (lowC c) = lowC c := by
  by_cases h : 65 ≤ c.toNat ∧ c.toNat ≤ 90
  · have := lowC_hit h
    exact lowC_miss (by omega)
  · rw [lowC_miss h, lowC_miss h]
theorem lowL_low (l : List UInt8) : lowL (lowL l) = lowL l := by
  unfold lowL; rw [List.map_map]; exact List.map_congr_left fun c _ => lowC_low c
theorem foldB_iff {a b : List UInt8} : foldB a b = true ↔ lowL a = lowL b := by
  unfold foldB
  rw [Bool.and_eq_true, decide_eq_true_eq, beq_iff_eq]
  exact ⟨fun h => h.2, fun h => ⟨by rw [← lowL_length a, h, lowL_length], h⟩⟩
theorem foldB_symm (a b : List UInt8) : foldB a b = foldB b a := by
  rw [Bool.eq_iff_iff, foldB_iff, foldB_iff]; exact ⟨Eq.symm, Eq.symm⟩
theorem foldB_refl (a : List UInt8) : foldB a a = true := foldB_iff.2 rfl
theorem foldB_low (a : List UInt8) : foldB a (lowL a) = true := foldB_iff.2 (lowL_low a).symm
theorem foldB_trans {a b c : List UInt8} (h : foldB a b = true) (k : foldB b c = true) : foldB a c = true := foldB_iff.2 ((foldB_iff.1 h).trans (foldB_iff.1 k))
end Go.Proofs.YtglckhljpjcmaaaGreatDoor
namespace Go.Proofs.YtglckhljpjcmaaaGreatDoor

/-- The value of a hexadecimal digit, or -1. -/
def hexV (c : UInt8) : Int :=
  if 48 ≤ c.toNat ∧ c.toNat ≤ 57 then (c.toNat : Int) - 48 else if 97 ≤ c.toNat ∧ c.toNat ≤ 102 then (c.toNat : Int) - 87 else if 65 ≤ c.toNat ∧ c.toNat ≤ 70 then (c.toNat : Int) - 55 else -1
theorem hexV_bd (c : UInt8) : hexV c = -1 ∨ 0 ≤ hexV c ∧ hexV c ≤ 15 := by
  unfold hexV
  split
  · right; omega
  · split
    · right; omega
    · split
      · right; omega
      · exact .inl rfl
end Go.Proofs.YtglckhljpjcmaaaGreatDoor
namespace Go.Proofs.YtglckhljpjcmaaaGreatDoor

def alnC (c : UInt8) : Bool := alC c || digB c
theorem alnC_iff {c : UInt8} : alnC c = true ↔ 48 ≤ c.toNat ∧ c.toNat ≤ 57 ∨ 65 ≤ c.toNat ∧ c.toNat ≤ 90 ∨ 97 ≤ c.toNat ∧ c.toNat ≤ 122 := by
  unfold alnC; rw [Bool.or_eq_true, alC_iff]
  constructor
  · rintro ((h | h) | h)
    · omega
    · omega
    · have := of_digB h; omega
  · rintro (h | h | h)
    · exact .inr (digB_true h)
    · exact .inl (.inr h)
    · exact .inl (.inl h)
theorem u8_of_nat {c d : UInt8} (h : c.toNat = d.toNat) : c = d := UInt8.toNat_inj.1 h
/-- A byte of a host. -/
def hostC (c : UInt8) : Bool := alnC c || (c == 45 || c == 46)
theorem hostC_iff {c : UInt8} : hostC c = true ↔ alnC c = true ∨ c.toNat = 45 ∨ c.toNat = 46 := by
  unfold hostC; rw [Bool.or_eq_true, Bool.or_eq_true, beq_iff_eq, beq_iff_eq]
  constructor
  · rintro (h | rfl | rfl)
    · exact .inl h
    · exact .inr (.inl rfl)
    · exact .inr (.inr rfl)
  · rintro (h | h | h)
    · exact .inl h
    · exact .inr (.inl (u8_of_nat h))
    · exact .inr (.inr (u8_of_nat h))
theorem hostC_low (c : UInt8) (h : hostC c = true) : hostC (lowC c) = true := by
  by_cases hc : 65 ≤ c.toNat ∧ c.toNat ≤ 90
  · have := lowC_hit hc
    rw [hostC_iff, alnC_iff]; omega
  · rw [lowC_miss hc]; exact h
/-- A port: 80 if there is none. -/
def portN (d : List UInt8) : Option Int :=
  if d = [] then some 80 else match numGo d 0 with | some n => if d.length ≤ 5 ∧ 1 ≤ n ∧ n ≤ 65535 then some n else none | none => none
theorem portN_nil : portN [] = some 80 := rfl
theorem portN_bad {d : List UInt8} (h : d ≠ []) (hn : numGo d 0 = none) : portN d = none := by unfold portN; rw [if_neg h, hn]
theorem portN_out {d : List UInt8} {n : Int} (h : d ≠ []) (hn : numGo d 0 = some n) (ho : ¬ (d.length ≤ 5 ∧ 1 ≤ n ∧ n ≤ 65535)) : portN d = none := by unfold portN; rw [if_neg h, hn]; exact if_neg ho
theorem portN_in {d : List UInt8} {n : Int} (h : d ≠ []) (hn : numGo d 0 = some n) (ho : d.length ≤ 5 ∧ 1 ≤ n ∧ n ≤ 65535) : portN d = some n := by unfold portN; rw [if_neg h, hn]; exact if_pos ho
/-- Host and port of an authority. -/
def authL (l : List UInt8) : Option (List UInt8 × Int) :=
  if (cutB 58 l).1.all hostC && !(cutB 58 l).1.isEmpty then (portN (cutB 58 l).2.1).map fun n => (lowL (cutB 58 l).1, n) else none
def authV : Option (List UInt8 × Int) → Value
  | some (h, n) => .tuple #[.string ⟨h.toArray⟩, .int .i64 n, .bool true]
  | none => .tuple #[.string ⟨([] : List UInt8).toArray⟩, .int .i64 0, .bool false]
theorem authL_host {l : List UInt8} (h : ((cutB 58 l).1.all hostC && !(cutB 58 l).1.isEmpty) = false) : authL l = none := by unfold authL; rw [h]; rfl
theorem authL_port {l : List UInt8} (h : portN (cutB 58 l).2.1 = none) : authL l = none := by unfold authL; rw [h]; split <;> rfl
theorem authL_ok {l : List UInt8} {n : Int} (h : ((cutB 58 l).1.all hostC && !(cutB 58 l).1.isEmpty) = true) (hp : portN (cutB 58 l).2.1 = some n) : authL l = some (lowL (cutB 58 l).1, n) := by
  unfold authL; rw [h, hp]; rfl
/-- What a triplet may be written as itself. -/
def plainC (x : UInt8) : Bool := alnC x || (x == 45 || (x == 46 || (x == 95 || x == 126)))
theorem plainC_iff {c : UInt8} : plainC c = true ↔ alnC c = true ∨ c.toNat = 45 ∨ c.toNat = 46 ∨ c.toNat = 95 ∨ c.toNat = 126 := by
  unfold plainC; simp only [Bool.or_eq_true, beq_iff_eq]
  constructor
  · rintro (h | rfl | rfl | rfl | rfl)
    · exact .inl h
    · exact .inr (.inl rfl)
    · exact .inr (.inr (.inl rfl))
    · exact .inr (.inr (.inr (.inl rfl)))
    · exact .inr (.inr (.inr (.inr rfl)))
  · rintro (h | h | h | h | h)
    · exact .inl h
    · exact .inr (.inl (u8_of_nat h))
    · exact .inr (.inr (.inl (u8_of_nat h)))
    · exact .inr (.inr (.inr (.inl (u8_of_nat h))))
    · exact .inr (.inr (.inr (.inr (u8_of_nat h))))
/-- An upper-case hexadecimal digit. -/
def hexD (n : Nat) : UInt8 := if n < 10 then UInt8.ofNat (48 + n) else UInt8.ofNat (55 + n)
theorem hexD_val {n : Nat} (h : n < 16) : ((hexD n).toNat : Int) = if n < 10 then 48 + (n : Int) else 55 + (n : Int) := by
  unfold hexD
  split <;> (simp; omega)
theorem hexV_hexD {n : Nat} (h : n < 16) : hexV (hexD n) = n := by
  have hv := hexD_val h
  unfold hexV
  split at hv
  · rw [if_pos (by omega)]; omega
  · rw [if_neg (by omega), if_neg (by omega), if_pos (by omega)]; omega
/-- The byte of a triplet. -/
def tripC (h l : Int) : UInt8 := UInt8.ofNat (16 * h + l).toNat
def tripL (h l : Int) : List UInt8 := if plainC (tripC h l) then [tripC h l] else [37, hexD h.toNat, hexD l.toNat]
theorem tripL_len (h l : Int) : (tripL h l).length ≤ 3 := by unfold tripL; split <;> simp
theorem tripL_yes {h l : Int} (e : plainC (tripC h l) = true) : tripL h l = [tripC h l] := by unfold tripL; rw [if_pos e]
theorem tripL_no {h l : Int} (e : plainC (tripC h l) = false) : tripL h l = [37, hexD h.toNat, hexD l.toNat] := by unfold tripL; rw [if_neg (by rw [e]; simp)]
/-- A byte that a path or query must not contain. -/
def badC (c : UInt8) : Bool := decide (c.toNat < 33) || (decide (126 < c.toNat) || decide (c.toNat = 35))
theorem badC_iff {c : UInt8} : badC c = true ↔ c.toNat < 33 ∨ 126 < c.toNat ∨ c.toNat = 35 := by unfold badC; simp
theorem badC_false {c : UInt8} : badC c = false ↔ ¬ (c.toNat < 33 ∨ 126 < c.toNat ∨ c.toNat = 35) := by
  rw [← badC_iff]; simp
/-- A normalized path or query, if there is one. -/
def normL : List UInt8 → Option (List UInt8)
  | [] => some []
  | c :: t => if badC c then none else if c ≠ 37 then (normL t).map (c :: ·) else
    match t with
    | h :: l :: u => if hexV h < 0 ∨ hexV l < 0 then none else (normL u).map (tripL (hexV h) (hexV l) ++ ·)
    | _ => none
theorem normL_nil : normL [] = some [] := rfl
theorem normL_bad {c : UInt8} (t : List UInt8) (h : badC c = true) : normL (c :: t) = none := by rw [normL.eq_def]; simp [h]
theorem normL_plain {c : UInt8} (t : List UInt8) (h : badC c = false) (hc : c ≠ 37) : normL (c :: t) = (normL t).map (c :: ·) := by rw [normL.eq_def]; simp [h, hc]
theorem bad37 : badC 37 = false := by decide
theorem normL_short0 : normL [37] = none := by rw [normL.eq_def]; simp [bad37]
theorem normL_short1 (a : UInt8) : normL [37, a] = none := by rw [normL.eq_def]; simp [bad37]
theorem normL_trip (h l : UInt8) (u : List UInt8) : normL (37 :: h :: l :: u) = if hexV h < 0 ∨ hexV l < 0 then none else (normL u).map (tripL (hexV h) (hexV l) ++ ·) := by
  rw [normL.eq_def]; simp [bad37]
theorem normL_short {t : List UInt8} (h : t.length < 2) : normL (37 :: t) = none := by
  match t, h with
  | [], _ => exact normL_short0
  | [a], _ => exact normL_short1 a
/-- The cases of a list that is normalized. -/
theorem normL_cases (l : List UInt8) : l = [] ∨ (∃ c t, l = c :: t ∧ badC c = true) ∨ (∃ c t, l = c :: t ∧ badC c = false ∧ c ≠ 37) ∨ (∃ t, l = 37 :: t ∧ t.length < 2) ∨ ∃ h m u, l = 37 :: h :: m :: u := by
  match l with
  | [] => exact .inl rfl
  | c :: t =>
    right
    cases hb : badC c with
    | true => exact .inl ⟨c, t, rfl, hb⟩
    | false =>
      right
      by_cases hc : c = 37
      · subst hc
        right
        match t with
        | [] => exact .inl ⟨[], rfl, by simp⟩
        | [a] => exact .inl ⟨[a], rfl, by simp⟩
        | h :: m :: u => exact .inr ⟨h, m, u, rfl⟩
      · exact .inl ⟨c, t, rfl, hb, hc⟩
def normV : Option (List UInt8) → Value
  | some l => .tuple #[.string ⟨l.toArray⟩, .bool true]
  | none => .tuple #[.string ⟨([] : List UInt8).toArray⟩, .bool false]
/-- Dot segments removed from pieces. -/
def segGo : List (List UInt8) → List (List UInt8) → List (List UInt8)
  | out, [] => out
  | out, x :: r =>
    if r = [] then (if x = [46, 46] then out.dropLast ++ [[]] else if x = [46] then out ++ [[]] else out ++ [x])
    else (if x = [46, 46] then segGo out.dropLast r else if x = [46] then segGo out r else segGo (out ++ [x]) r)
def joinS (l : List (List UInt8)) : List UInt8 := l.flatMap fun x => 47 :: x
def segsL : List UInt8 → List UInt8
  | [] => []
  | c :: t => if c = 47 then joinS (segGo [] (splitC 47 t)) else c :: t
structure Uri where
  host : List UInt8
  port : Int
  path : List UInt8
  query : List UInt8
  has : Bool
  deriving DecidableEq
def uriV (u : Uri) : Value := .agg #[.string ⟨u.host.toArray⟩, .int .i64 u.port, .string ⟨u.path.toArray⟩, .string ⟨u.query.toArray⟩, .bool u.has]
def uri0 : Uri := ⟨[], 0, [], [], false⟩
def schemeL : List UInt8 := [104, 116, 116, 112, 58, 47, 47]
def absB (l : List UInt8) : Bool := decide (7 ≤ l.length) && foldB (l.take 7) schemeL
/-- No byte that ends an authority. -/
def stopC (c : UInt8) : Bool := c != 47 && c != 63
def auth1 (l : List UInt8) : List UInt8 := l.takeWhile stopC
def rest1 (l : List UInt8) : List UInt8 := l.dropWhile stopC
def rootL (p : List UInt8) : List UInt8 := if p = [] then [47] else p
/-- A URI out of an authority and the rest: the URI and the error. -/
def parse2 (h rest : List UInt8) : Uri × Int :=
  match normL (cutB 63 rest).1, normL (cutB 63 rest).2.1 with
  | some p, some q => (match authL h with | some (n, k) => (⟨n, k, segsL (rootL p), q, (cutB 63 rest).2.2⟩, 0) | none => (uri0, 6))
  | _, _ => (uri0, 9)
def parseU (t h : List UInt8) : Uri × Int :=
  if absB t then parse2 (auth1 (t.drop 7)) (rest1 (t.drop 7)) else if t.head? = some 47 then parse2 h t else (uri0, 9)
def siteL (h : List UInt8) (n : Int) : List UInt8 := if n = 80 then h else h ++ 58 :: Lib.itoa n
def localL (u : Uri) : List UInt8 := if u.has then u.path ++ 63 :: u.query else u.path
def keyL (u : Uri) : List UInt8 := schemeL ++ siteL u.host u.port ++ localL u
def resolveU (u : Uri) (s : List UInt8) : Uri × Bool :=
  if absB s || (s.head? == some 47 && !(s.drop 1).head? == some 47) then ((parseU s (siteL u.host u.port)).1, (parseU s (siteL u.host u.port)).2 == 0) else (uri0, false)

theorem normL_idem : ∀ (n : Nat) (l a : List UInt8), l.length ≤ n → normL l = some a → normL a = some a
  | 0, l, a, hl, h => by
    have : l = [] := List.length_eq_zero_iff.1 (by omega)
    subst this; rw [normL_nil] at h; cases h; rfl
  | n + 1, l, a, hl, h => by
    rcases normL_cases l with rfl | ⟨c, t, rfl, hb⟩ | ⟨c, t, rfl, hb, hc⟩ | ⟨t, rfl, ht⟩ | ⟨x, y, u, rfl⟩
    · rw [normL_nil] at h; cases h; rfl
    · rw [normL_bad t hb] at h; cases h
    · rw [normL_plain t hb hc] at h
      cases hn : normL t with
      | none => rw [hn] at h; cases h
      | some b =>
        rw [hn] at h; simp at h; subst h
        rw [normL_plain b hb hc, normL_idem n t b (by simp at hl; omega) hn]; rfl
    · rw [normL_short ht] at h; cases h
    · rw [normL_trip] at h
      split at h
      · cases h
      · rename_i hx
        cases hn : normL u with
        | none => rw [hn] at h; cases h
        | some b =>
          rw [hn] at h; simp at h; subst h
          have ih := normL_idem n u b (by simp at hl; omega) hn
          have hx1 := hexV_bd x
          have hy1 := hexV_bd y
          cases hp : plainC (tripC (hexV x) (hexV y)) with
          | true =>
            rw [tripL_yes hp]
            have h1 := plainC_iff.1 hp
            rw [alnC_iff] at h1
            have h2 : badC (tripC (hexV x) (hexV y)) = false := badC_false.2 (by omega)
            have h3 : tripC (hexV x) (hexV y) ≠ 37 := fun e => by
              rw [e] at h1; have : (37 : UInt8).toNat = 37 := rfl; omega
            rw [List.singleton_append, normL_plain b h2 h3, ih]; rfl
          | false =>
            rw [tripL_no hp]
            obtain ⟨i, hi⟩ : ∃ i : Nat, hexV x = i := ⟨(hexV x).toNat, by omega⟩
            obtain ⟨j, hj⟩ : ∃ j : Nat, hexV y = j := ⟨(hexV y).toNat, by omega⟩
            rw [hi, hj] at hp ⊢
            show normL (37 :: hexD i :: hexD j :: b) = _
            rw [normL_trip, hexV_hexD (by omega), hexV_hexD (by omega), if_neg (by omega), ih, tripL_no hp]; rfl
theorem norm_idem {l a : List UInt8} (h : normL l = some a) : normL a = some a := normL_idem _ l a (Nat.le_refl _) h
/-- Normalizing piece by piece. -/
theorem normL_slash : ∀ (n : Nat) (a b : List UInt8), a.length ≤ n → normL (a ++ 47 :: b) = (normL a).bind fun x => (normL b).map fun y => x ++ 47 :: y
  | n, a, b, hl => by
    have h47 : normL (47 :: b) = (normL b).map (47 :: ·) := normL_plain b (by decide) (by decide)
    have hv : hexV 47 = -1 := by decide
    rcases normL_cases a with rfl | ⟨c, t, rfl, hb⟩ | ⟨c, t, rfl, hb, hc⟩ | ⟨t, rfl, ht⟩ | ⟨x, y, u, rfl⟩
    · rw [List.nil_append, normL_nil, h47]; simp
    · rw [List.cons_append, normL_bad _ hb, normL_bad _ hb]; rfl
    · cases n with
      | zero => simp at hl
      | succ n =>
        rw [List.cons_append, normL_plain _ hb hc, normL_plain _ hb hc, normL_slash n t b (by simp at hl; omega)]
        cases normL t with
        | none => rfl
        | some x => cases normL b <;> rfl
    · rw [normL_short ht]
      match t, ht with
      | [], _ =>
        show normL (37 :: 47 :: b) = _
        cases b with
        | nil => exact normL_short1 47
        | cons y u => rw [normL_trip, hv, if_pos (.inl (by omega))]; rfl
      | [x], _ =>
        show normL (37 :: x :: 47 :: b) = _
        rw [normL_trip, hv, if_pos (.inr (by omega))]; rfl
    · cases n with
      | zero => simp at hl
      | succ n =>
        show normL (37 :: x :: y :: (u ++ 47 :: b)) = _
        rw [normL_trip, normL_trip, normL_slash n u b (by simp at hl; omega)]
        split
        · rfl
        · cases normL u with
          | none => rfl
          | some z => cases normL b <;> simp
theorem norm_slash (a b : List UInt8) : normL (a ++ 47 :: b) = (normL a).bind fun x => (normL b).map fun y => x ++ 47 :: y := normL_slash _ a b (Nat.le_refl _)
theorem splitC_app (c : UInt8) (a b : List UInt8) : splitC c (a ++ c :: b) = splitC c a ++ splitC c b := by
  induction a with
  | nil => rw [List.nil_append, show splitC c (c :: b) = [] :: splitC c b from by rw [splitC, if_pos rfl]]; rfl
  | cons x t ih =>
    by_cases hx : x = c
    · subst hx
      rw [List.cons_append, splitC, if_pos rfl, ih, splitC, if_pos rfl]; rfl
    · cases hs : splitC c t with
      | nil => exact absurd hs (splitC_ne c t)
      | cons y r =>
        rw [hs] at ih
        rw [List.cons_append, splitC_other hx ih, splitC_other hx hs]; rfl
theorem joinS_cons (x : List UInt8) (r : List (List UInt8)) : joinS (x :: r) = 47 :: (x ++ joinS r) := rfl
theorem joinS_snoc (r : List (List UInt8)) (x : List UInt8) : joinS (r ++ [x]) = joinS r ++ 47 :: x := by simp [joinS]
/-- What is joined comes apart again. -/
theorem split_join : ∀ (r : List (List UInt8)) (x : List UInt8), 47 ∉ x → (∀ y ∈ r, 47 ∉ y) → splitC 47 (x ++ joinS r) = x :: r
  | [], x, hx, _ => by rw [show joinS [] = [] from rfl, List.append_nil]; exact splitC_miss hx
  | y :: r, x, hx, h => by
    rw [joinS_cons, splitC_hit hx, split_join r y (h y (by simp)) fun z hz => h z (by simp [hz])]
theorem segGo_one (out : List (List UInt8)) (x : List UInt8) : segGo out [x] = if x = [46, 46] then out.dropLast ++ [[]] else if x = [46] then out ++ [[]] else out ++ [x] := by rw [segGo]; simp
theorem segGo_more (out : List (List UInt8)) (x : List UInt8) {r : List (List UInt8)} (h : r ≠ []) : segGo out (x :: r) = if x = [46, 46] then segGo out.dropLast r else if x = [46] then segGo out r else segGo (out ++ [x]) r := by
  rw [segGo, if_neg h]
theorem segGo_ne : ∀ (ps out : List (List UInt8)), ps ≠ [] → segGo out ps ≠ []
  | [], _, h => absurd rfl h
  | [x], out, _ => by rw [segGo_one]; split <;> (try split) <;> simp
  | x :: y :: r, out, _ => by
    rw [segGo_more out x (by simp)]
    split
    · exact segGo_ne _ _ (by simp)
    · split
      · exact segGo_ne _ _ (by simp)
      · exact segGo_ne _ _ (by simp)
/-- Every piece that stays has a property that the pieces have. -/
theorem segGo_all (p : List UInt8 → Prop) (h0 : p []) : ∀ (ps out : List (List UInt8)), (∀ x ∈ out, p x) → (∀ x ∈ ps, x ≠ [46] → x ≠ [46, 46] → p x) → ∀ x ∈ segGo out ps, p x
  | [], out, ho, _, x, hx => ho x hx
  | [y], out, ho, hp, x, hx => by
    rw [segGo_one] at hx
    split at hx
    · rcases List.mem_append.1 hx with h | h
      · exact ho x (List.dropLast_subset _ h)
      · simp at h; subst h; exact h0
    · split at hx
      · rcases List.mem_append.1 hx with h | h
        · exact ho x h
        · simp at h; subst h; exact h0
      · rename_i h1 h2
        rcases List.mem_append.1 hx with h | h
        · exact ho x h
        · simp at h; subst h; exact hp x (by simp) h2 h1
  | y :: z :: r, out, ho, hp, x, hx => by
    rw [segGo_more out y (by simp)] at hx
    split at hx
    · exact segGo_all p h0 (z :: r) _ (fun u hu => ho u (List.dropLast_subset _ hu)) (fun u hu => hp u (by simp at hu ⊢; exact .inr hu)) x hx
    · split at hx
      · exact segGo_all p h0 (z :: r) _ ho (fun u hu => hp u (by simp at hu ⊢; exact .inr hu)) x hx
      · rename_i h1 h2
        refine segGo_all p h0 (z :: r) _ (fun u hu => ?_) (fun u hu => hp u (by simp at hu ⊢; exact .inr hu)) x hx
        rcases List.mem_append.1 hu with h | h
        · exact ho u h
        · simp at h; subst h; exact hp u (by simp) h2 h1
def dotB (x : List UInt8) : Bool := x == [46] || x == [46, 46]
theorem dotB_no {x : List UInt8} : dotB x = false ↔ x ≠ [46] ∧ x ≠ [46, 46] := by unfold dotB; simp
theorem segGo_dots (ps : List (List UInt8)) : ∀ x ∈ segGo [] ps, dotB x = false :=
  segGo_all (fun x => dotB x = false) (by decide) ps [] (by simp) fun x _ h1 h2 => dotB_no.2 ⟨h1, h2⟩
theorem segGo_clean : ∀ (ps out : List (List UInt8)), (∀ x ∈ ps, dotB x = false) → segGo out ps = out ++ ps
  | [], out, _ => by simp [segGo]
  | [x], out, h => by
    have := dotB_no.1 (h x (by simp))
    rw [segGo_one, if_neg this.2, if_neg this.1]
  | x :: y :: r, out, h => by
    have := dotB_no.1 (h x (by simp))
    rw [segGo_more out x (by simp), if_neg this.2, if_neg this.1, segGo_clean (y :: r) _ fun z hz => h z (by simp at hz ⊢; exact .inr hz)]
    simp
theorem segGo_slash (t : List UInt8) : ∀ x ∈ segGo [] (splitC 47 t), 47 ∉ x :=
  segGo_all (fun x => 47 ∉ x) (by simp) _ [] (by simp) fun x hx _ _ => splitC_mem hx
theorem segsL_slash (t : List UInt8) : segsL (47 :: t) = joinS (segGo [] (splitC 47 t)) := by rw [segsL, if_pos rfl]
theorem segsL_other {c : UInt8} (t : List UInt8) (h : c ≠ 47) : segsL (c :: t) = c :: t := by rw [segsL, if_neg h]
/-- The pieces of a path without dot segments. -/
theorem segs_pieces (t : List UInt8) : ∃ x r, segGo [] (splitC 47 t) = x :: r ∧ segsL (47 :: t) = 47 :: (x ++ joinS r) ∧ splitC 47 (x ++ joinS r) = x :: r ∧ (∀ y ∈ x :: r, dotB y = false) ∧ ∀ y ∈ x :: r, 47 ∉ y := by
  have hd := segGo_dots (splitC 47 t)
  have hs := segGo_slash t
  cases hg : segGo [] (splitC 47 t) with
  | nil => exact absurd hg (segGo_ne _ _ (splitC_ne 47 t))
  | cons x r =>
    rw [hg] at hd hs
    exact ⟨x, r, rfl, by rw [segsL_slash, hg, joinS_cons], split_join r x (hs x (by simp)) fun y hy => hs y (by simp [hy]), hd, hs⟩
theorem segs_idem (l : List UInt8) : segsL (segsL l) = segsL l := by
  cases l with
  | nil => rfl
  | cons c t =>
    by_cases h : c = 47
    · subst h
      obtain ⟨x, r, _, h2, h3, h4, _⟩ := segs_pieces t
      rw [h2, segsL_slash, h3, segGo_clean _ _ h4, List.nil_append, joinS_cons]
    · rw [segsL_other t h, segsL_other t h]
/-- A normalized path stays normalized without its dot segments. -/
theorem norm_join : ∀ (r : List (List UInt8)) (x : List UInt8), (∀ y ∈ x :: r, normL y = some y) → normL (x ++ joinS r) = some (x ++ joinS r)
  | [], x, h => by rw [show joinS [] = [] from rfl, List.append_nil]; exact h x (by simp)
  | y :: r, x, h => by
    rw [joinS_cons, norm_slash, h x (by simp), norm_join r y fun z hz => h z (by simp at hz ⊢; exact .inr hz)]; rfl
theorem norm_len : ∀ (n : Nat) (l a : List UInt8), l.length ≤ n → normL l = some a → a.length ≤ l.length
  | n, l, a, hl, h => by
    rcases normL_cases l with rfl | ⟨c, t, rfl, hb⟩ | ⟨c, t, rfl, hb, hc⟩ | ⟨t, rfl, ht⟩ | ⟨x, y, u, rfl⟩
    · rw [normL_nil] at h; cases h; simp
    · rw [normL_bad t hb] at h; cases h
    · cases n with
      | zero => simp at hl
      | succ n =>
        rw [normL_plain t hb hc] at h
        cases hn : normL t with
        | none => rw [hn] at h; cases h
        | some b =>
          rw [hn] at h; simp at h; subst h
          have := norm_len n t b (by simp at hl; omega) hn
          simp; omega
    · rw [normL_short ht] at h; cases h
    · cases n with
      | zero => simp at hl
      | succ n =>
        rw [normL_trip] at h
        split at h
        · cases h
        · cases hn : normL u with
          | none => rw [hn] at h; cases h
          | some b =>
            rw [hn] at h; simp at h; subst h
            have := norm_len n u b (by simp at hl; omega) hn
            have := tripL_len (hexV x) (hexV y)
            simp; omega
theorem norm_pieces : ∀ (n : Nat) (l : List UInt8), l.length ≤ n → normL l = some l → ∀ y ∈ splitC 47 l, normL y = some y
  | n, l, hl, h, y, hy => by
    rcases splitC_cut 47 l with ⟨a, b, hc, hs, hlt⟩ | ⟨_, hs⟩
    · have e : l = a ++ 47 :: b := by
        rcases cutB_cases 47 l with ⟨a', b', h', h2, _⟩ | ⟨h', _⟩
        · rw [hc] at h'; simp at h'; obtain ⟨rfl, rfl⟩ := h'; exact h2
        · rw [hc] at h'; simp at h'
      rw [e, norm_slash] at h
      cases ha : normL a with
      | none => rw [ha] at h; cases h
      | some a' =>
        cases hb : normL b with
        | none => rw [ha, hb] at h; cases h
        | some b' =>
          rw [ha, hb] at h
          simp at h
          have la := norm_len _ a a' (Nat.le_refl _) ha
          have lb := norm_len _ b b' (Nat.le_refl _) hb
          have lc := congrArg List.length h
          simp at lc
          have hla : a'.length = a.length := by omega
          obtain ⟨h1, h2⟩ := List.append_inj h hla
          simp at h2
          subst h1; subst h2
          rw [hs] at hy
          rcases List.mem_cons.1 hy with rfl | hy
          · exact ha
          · cases n with
            | zero => omega
            | succ n => exact norm_pieces n b' (by omega) hb y hy
    · rw [hs, List.mem_singleton] at hy; subst hy; exact h
end Go.Proofs.YtglckhljpjcmaaaGreatDoor
namespace Go.Proofs.YtglckhljpjcmaaaGreatDoor

theorem norm_fix {t : List UInt8} (h : normL (47 :: t) = some (47 :: t)) : normL t = some t := by
  rw [normL_plain t (by decide) (by decide)] at h
  cases hn : normL t with
  | none => rw [hn] at h; cases h
  | some b => rw [hn] at h; simp at h; rw [h]
theorem segs_norm {t : List UInt8} (h : normL (47 :: t) = some (47 :: t)) : normL (segsL (47 :: t)) = some (segsL (47 :: t)) := by
  have ht := norm_fix h
  have hp := norm_pieces _ t (Nat.le_refl _) ht
  obtain ⟨x, r, h1, h2, _⟩ := segs_pieces t
  have ha : ∀ y ∈ x :: r, normL y = some y := by
    rw [← h1]; exact segGo_all (fun y => normL y = some y) rfl _ [] (by simp) fun y hy _ _ => hp y hy
  rw [h2, normL_plain _ (by decide) (by decide), norm_join r x ha]; rfl
theorem norm_ask : ∀ (n : Nat) (l a : List UInt8), l.length ≤ n → normL l = some a → 63 ∉ l → 63 ∉ a
  | n, l, a, hl, h, hm => by
    rcases normL_cases l with rfl | ⟨c, t, rfl, hb⟩ | ⟨c, t, rfl, hb, hc⟩ | ⟨t, rfl, ht⟩ | ⟨x, y, u, rfl⟩
    · rw [normL_nil] at h; cases h; simp
    · rw [normL_bad t hb] at h; cases h
    · cases n with
      | zero => simp at hl
      | succ n =>
        rw [normL_plain t hb hc] at h
        cases hn : normL t with
        | none => rw [hn] at h; cases h
        | some b =>
          rw [hn] at h; simp at h; subst h
          simp only [List.mem_cons, not_or] at hm ⊢
          exact ⟨hm.1, norm_ask n t b (by simp at hl; omega) hn hm.2⟩
    · rw [normL_short ht] at h; cases h
    · cases n with
      | zero => simp at hl
      | succ n =>
        rw [normL_trip] at h
        split at h
        · cases h
        · rename_i hx
          cases hn : normL u with
          | none => rw [hn] at h; cases h
          | some b =>
            rw [hn] at h; simp at h; subst h
            simp only [List.mem_cons, not_or] at hm
            have ih := norm_ask n u b (by simp at hl; omega) hn hm.2.2.2
            have hx1 := hexV_bd x
            have hy1 := hexV_bd y
            rw [List.mem_append, not_or]
            refine ⟨?_, ih⟩
            have e63 : (63 : UInt8).toNat = 63 := rfl
            cases hp : plainC (tripC (hexV x) (hexV y)) with
            | true =>
              rw [tripL_yes hp, List.mem_singleton]
              intro e
              rw [← e] at hp; revert hp; decide
            | false =>
              rw [tripL_no hp]
              have d1 := hexD_val (n := (hexV x).toNat) (by omega)
              have d2 := hexD_val (n := (hexV y).toNat) (by omega)
              simp only [List.mem_cons, not_or, List.not_mem_nil, not_false_eq_true, and_true]
              refine ⟨by decide, fun e => ?_, fun e => ?_⟩
              · rw [← e, e63] at d1; split at d1 <;> omega
              · rw [← e, e63] at d2; split at d2 <;> omega
theorem splitC_sub {c : UInt8} : ∀ {l x : List UInt8}, x ∈ splitC c l → ∀ b ∈ x, b ∈ l
  | [], x, h, b, hb => by rw [splitC, List.mem_singleton] at h; subst h; simp at hb
  | y :: t, x, h, b, hb => by
    by_cases hy : y = c
    · subst hy
      rw [splitC, if_pos rfl] at h
      rcases List.mem_cons.1 h with rfl | h
      · simp at hb
      · exact List.mem_cons_of_mem _ (splitC_sub h b hb)
    · cases hs : splitC c t with
      | nil => exact absurd hs (splitC_ne c t)
      | cons z r =>
        rw [splitC_other hy hs] at h
        rcases List.mem_cons.1 h with rfl | h
        · rcases List.mem_cons.1 hb with rfl | hb
          · simp
          · exact List.mem_cons_of_mem _ (splitC_sub (l := t) (x := z) (by rw [hs]; simp) b hb)
        · exact List.mem_cons_of_mem _ (splitC_sub (l := t) (x := x) (by rw [hs]; simp [h]) b hb)
theorem joinS_ask : ∀ (r : List (List UInt8)), (∀ y ∈ r, 63 ∉ y) → 63 ∉ joinS r
  | [], _ => by simp [joinS]
  | x :: r, h => by
    rw [joinS_cons]
    simp only [List.mem_cons, List.mem_append, not_or]
    exact ⟨by decide, h x (by simp), joinS_ask r fun y hy => h y (by simp [hy])⟩
theorem segs_ask {t : List UInt8} (h : 63 ∉ t) : 63 ∉ segsL (47 :: t) := by
  obtain ⟨x, r, h1, h2, _⟩ := segs_pieces t
  have ha : ∀ y ∈ x :: r, 63 ∉ y := by
    rw [← h1]; exact segGo_all (fun y => 63 ∉ y) (by simp) _ [] (by simp) fun y hy _ _ hm => h (splitC_sub hy 63 hm)
  rw [h2]
  simp only [List.mem_cons, List.mem_append, not_or]
  exact ⟨by decide, ha x (by simp), joinS_ask r fun y hy => ha y (by simp [hy])⟩
theorem take_stop : ∀ (a b : List UInt8), (∀ c ∈ a, stopC c = true) → (b = [] ∨ ∃ c t, b = c :: t ∧ stopC c = false) → auth1 (a ++ b) = a ∧ rest1 (a ++ b) = b
  | [], b, _, hb => by
    rcases hb with rfl | ⟨c, t, rfl, hc⟩
    · exact ⟨rfl, rfl⟩
    · unfold auth1 rest1
      rw [List.nil_append, List.takeWhile_cons_of_neg (by rw [hc]; simp), List.dropWhile_cons_of_neg (by rw [hc]; simp)]
      exact ⟨rfl, rfl⟩
  | x :: a, b, ha, hb => by
    have ih := take_stop a b (fun c hc => ha c (by simp [hc])) hb
    unfold auth1 rest1 at ih ⊢
    have hx := ha x (by simp)
    rw [List.cons_append, List.takeWhile_cons_of_pos hx, List.dropWhile_cons_of_pos hx, ih.1, ih.2]
    exact ⟨rfl, rfl⟩
theorem rest1_head : ∀ (l : List UInt8), rest1 l = [] ∨ ∃ c t, rest1 l = c :: t ∧ stopC c = false
  | [] => .inl rfl
  | x :: t => by
    unfold rest1
    cases hx : stopC x with
    | true => rw [List.dropWhile_cons_of_pos hx]; exact rest1_head t
    | false => rw [List.dropWhile_cons_of_neg (by rw [hx]; simp)]; exact .inr ⟨x, t, rfl, hx⟩
theorem stopC_iff {c : UInt8} : stopC c = false ↔ c = 47 ∨ c = 63 := by
  unfold stopC
  simp only [Bool.and_eq_false_iff, bne_eq_false_iff_eq]
theorem abs_root (t : List UInt8) : absB (47 :: t) = false := by
  unfold absB
  cases hl : decide (7 ≤ (47 :: t).length) with
  | false => rfl
  | true =>
    show foldB (47 :: t.take 6) schemeL = false
    cases hf : foldB (47 :: t.take 6) schemeL with
    | false => rfl
    | true =>
      have := foldB_iff.1 hf
      have h1 : lowL (47 :: t.take 6) = 47 :: lowL (t.take 6) := by show lowC 47 :: _ = _; rw [show lowC 47 = 47 from by decide]; rfl
      have h2 : lowL schemeL = 104 :: lowL [116, 116, 112, 58, 47, 47] := by show lowC 104 :: _ = _; rw [show lowC 104 = 104 from by decide]; rfl
      rw [h1, h2] at this
      cases this
theorem parse2_ok {h rest : List UInt8} {u : Uri} (e : parse2 h rest = (u, 0)) : ∃ p q n k, normL (cutB 63 rest).1 = some p ∧ normL (cutB 63 rest).2.1 = some q ∧ authL h = some (n, k) ∧ u = ⟨n, k, segsL (rootL p), q, (cutB 63 rest).2.2⟩ := by
  unfold parse2 at e
  cases hp : normL (cutB 63 rest).1 with
  | none => rw [hp] at e; simp at e
  | some p =>
    cases hq : normL (cutB 63 rest).2.1 with
    | none => rw [hp, hq] at e; simp at e
    | some q =>
      cases ha : authL h with
      | none => rw [hp, hq, ha] at e; simp at e
      | some x =>
        obtain ⟨n, k⟩ := x
        rw [hp, hq, ha] at e; simp at e
        exact ⟨p, q, n, k, rfl, rfl, rfl, e.symm⟩
theorem parse2_mk {h rest p q n : List UInt8} {k : Int} (hp : normL (cutB 63 rest).1 = some p) (hq : normL (cutB 63 rest).2.1 = some q) (ha : authL h = some (n, k)) : parse2 h rest = (⟨n, k, segsL (rootL p), q, (cutB 63 rest).2.2⟩, 0) := by
  unfold parse2; rw [hp, hq, ha]
theorem parse2_err {h rest : List UInt8} {u : Uri} {e : Int} (hp : parse2 h rest = (u, e)) (he : e ≠ 0) : u = uri0 := by
  unfold parse2 at hp
  split at hp
  · split at hp
    · simp at hp; exact absurd hp.2.symm he
    · simp at hp; exact hp.1.symm
  · simp at hp; exact hp.1.symm
theorem parseU_err {t h : List UInt8} {u : Uri} {e : Int} (hp : parseU t h = (u, e)) (he : e ≠ 0) : u = uri0 := by
  unfold parseU at hp
  split at hp
  · exact parse2_err hp he
  · split at hp
    · exact parse2_err hp he
    · simp at hp; exact hp.1.symm
theorem parseU_ok {t h : List UInt8} {u : Uri} (e : parseU t h = (u, 0)) : ∃ h' rest, parse2 h' rest = (u, 0) ∧ (rest = [] ∨ ∃ c r, rest = c :: r ∧ (c = 47 ∨ c = 63)) := by
  unfold parseU at e
  split at e
  · refine ⟨_, _, e, ?_⟩
    rcases rest1_head (t.drop 7) with h0 | ⟨c, r, h1, h2⟩
    · exact .inl h0
    · exact .inr ⟨c, r, h1, stopC_iff.1 h2⟩
  · split at e
    · rename_i hh
      refine ⟨_, _, e, ?_⟩
      cases t with
      | nil => exact .inl rfl
      | cons c r => simp at hh; exact .inr ⟨c, r, rfl, .inl hh⟩
    · simp at e
theorem cut_root {rest : List UInt8} (h : rest = [] ∨ ∃ c r, rest = c :: r ∧ (c = 47 ∨ c = 63)) : (cutB 63 rest).1 = [] ∨ ∃ r, (cutB 63 rest).1 = 47 :: r := by
  rcases h with rfl | ⟨c, r, rfl, rfl | rfl⟩
  · exact .inl rfl
  · right; rw [cutB_other (by decide)]; exact ⟨_, rfl⟩
  · left; rw [cutB_same]
theorem cut_ask (l : List UInt8) : 63 ∉ (cutB 63 l).1 := by
  rcases cutB_cases 63 l with ⟨a, b, h, _, h3⟩ | ⟨h, h3⟩ <;> rw [h] <;> exact h3
theorem cut_has (l : List UInt8) (h : (cutB 63 l).2.2 = false) : (cutB 63 l).2.1 = [] := by
  rcases cutB_cases 63 l with ⟨a, b, h1, _⟩ | ⟨h1, _⟩
  · rw [h1] at h; cases h
  · rw [h1]
theorem lowL_all {p : UInt8 → Bool} (hp : ∀ c, p c = true → p (lowC c) = true) {l : List UInt8} (h : l.all p = true) : (lowL l).all p = true := by
  rw [List.all_eq_true] at h ⊢
  intro c hc
  obtain ⟨d, hd, rfl⟩ := List.mem_map.1 hc
  exact hp d (h d hd)
theorem authL_some {l n : List UInt8} {k : Int} (h : authL l = some (n, k)) : n.all hostC = true ∧ n ≠ [] ∧ lowL n = n ∧ (k = 80 ∨ 1 ≤ k ∧ k ≤ 65535) := by
  unfold authL at h
  split at h
  · rename_i hh
    rw [Bool.and_eq_true] at hh
    cases hp : portN (cutB 58 l).2.1 with
    | none => rw [hp] at h; cases h
    | some m =>
      rw [hp] at h; simp at h
      obtain ⟨rfl, rfl⟩ := h
      refine ⟨lowL_all hostC_low hh.1, fun e => ?_, lowL_low _, ?_⟩
      · have : (cutB 58 l).1 = [] := by simpa [lowL] using e
        rw [this] at hh; simp at hh
      · unfold portN at hp
        split at hp
        · left; cases hp; rfl
        · split at hp
          · split at hp
            · rename_i hc; cases hp; right; exact hc.2
            · cases hp
          · cases hp
  · cases h
theorem dec_len : ∀ (k u : Nat), 0 < k → u < 10 ^ k → (Lib.decDigits u).length ≤ k
  | 0, u, h, _ => by omega
  | k + 1, u, _, h => by
    rw [Lib.decDigits.eq_def]
    split
    · simp
    · rename_i hu
      have hk : 0 < k := by
        rcases Nat.eq_zero_or_pos k with rfl | h'
        · simp at h; omega
        · exact h'
      have := dec_len k (u / 10) hk (by rw [Nat.pow_succ] at h; omega)
      simp; omega
theorem dec_ne (u : Nat) : Lib.decDigits u ≠ [] := fun e => by have := decDigits_ne u; rw [e] at this; simp at this
theorem port_back {k : Int} (h1 : 1 ≤ k) (h2 : k ≤ 65535) : portN (Lib.itoa k) = some k := by
  obtain ⟨u, rfl⟩ : ∃ u : Nat, k = u := ⟨k.toNat, by omega⟩
  have e : Lib.itoa (u : Int) = Lib.decDigits u := by unfold Lib.itoa; rw [if_neg (by omega)]; simp
  have hd := numGo_dec u
  rw [e]
  exact portN_in (dec_ne u) (hd.trans (by congr 1; omega)) ⟨dec_len 5 u (by omega) (by omega), h1, h2⟩
theorem hostC_not {l : List UInt8} (h : l.all hostC = true) {c : UInt8} (hc : hostC c = false) : c ∉ l := fun hm => by
  rw [List.all_eq_true] at h; rw [h c hm] at hc; cases hc
theorem site_back {n : List UInt8} {k : Int} (h1 : n.all hostC = true) (h2 : n ≠ []) (h3 : lowL n = n) (h4 : k = 80 ∨ 1 ≤ k ∧ k ≤ 65535) : authL (siteL n k) = some (n, k) := by
  have hc : 58 ∉ n := hostC_not h1 (by decide)
  have he : n.isEmpty = false := by cases n with | nil => exact absurd rfl h2 | cons => rfl
  unfold siteL
  split
  · rename_i h; subst h
    have := authL_ok (l := n) (n := 80) (by rw [cutB_miss hc]; simp [h1, he]) (by rw [cutB_miss hc]; rfl)
    rw [this, cutB_miss hc, h3]
  · rename_i h
    have := authL_ok (l := n ++ 58 :: Lib.itoa k) (n := k) (by rw [cutB_hit hc]; simp [h1, he]) (by rw [cutB_hit hc]; exact port_back (by omega) (by omega))
    rw [this, cutB_hit hc, h3]
theorem dec_dig : ∀ (n u : Nat), u ≤ n → ∀ c ∈ Lib.decDigits u, 48 ≤ c.toNat ∧ c.toNat ≤ 57
  | n, u, hn, c, hc => by
    rw [Lib.decDigits.eq_def] at hc
    split at hc
    · simp at hc; subst hc; simp; omega
    · cases n with
      | zero => omega
      | succ n =>
        rcases List.mem_append.1 hc with h | h
        · exact dec_dig n (u / 10) (by omega) c h
        · simp at h; subst h; simp; omega
theorem site_stop {n : List UInt8} {k : Int} (h1 : n.all hostC = true) (h4 : k = 80 ∨ 1 ≤ k ∧ k ≤ 65535) : ∀ c ∈ siteL n k, stopC c = true := by
  intro c hc
  cases hs : stopC c with
  | true => rfl
  | false =>
    exfalso
    have h63 : c = 47 ∨ c = 63 := stopC_iff.1 hs
    have hn : c ∉ n := hostC_not h1 (by rcases h63 with rfl | rfl <;> decide)
    unfold siteL at hc
    split at hc
    · exact hn hc
    · rename_i hk
      obtain ⟨u, rfl⟩ : ∃ u : Nat, k = u := ⟨k.toNat, by omega⟩
      have e : Lib.itoa (u : Int) = Lib.decDigits u := by unfold Lib.itoa; rw [if_neg (by omega)]; simp
      rw [e] at hc
      rcases List.mem_append.1 hc with h | h
      · exact hn h
      · rcases List.mem_cons.1 h with rfl | h
        · rcases h63 with h | h <;> cases h
        · have := dec_dig _ u (Nat.le_refl _) c h
          rcases h63 with rfl | rfl
          · have : (47 : UInt8).toNat = 47 := rfl; omega
          · have : (63 : UInt8).toNat = 63 := rfl; omega
theorem abs_scheme (l : List UInt8) : absB (schemeL ++ l) = true := by
  unfold absB
  rw [show (schemeL ++ l).take 7 = schemeL from rfl, foldB_refl, decide_eq_true (by simp [schemeL])]; rfl
theorem root_of {p : List UInt8} (h : p = [] ∨ ∃ r, p = 47 :: r) (hn : normL p = some p) (ha : 63 ∉ p) : ∃ r, rootL p = 47 :: r ∧ normL (47 :: r) = some (47 :: r) ∧ 63 ∉ r := by
  rcases h with rfl | ⟨r, rfl⟩
  · exact ⟨[], rfl, by decide, by simp⟩
  · exact ⟨r, rfl, hn, fun h => ha (by simp [h])⟩
/-- The key of a parsed URI is parsed as this URI. -/
theorem key_back {t h : List UInt8} {u : Uri} (e : parseU t h = (u, 0)) (other : List UInt8) : parseU (keyL u) other = (u, 0) := by
  obtain ⟨h', rest, e2, hr⟩ := parseU_ok e
  obtain ⟨p, q, n, k, hp, hq, ha, rfl⟩ := parse2_ok e2
  obtain ⟨a1, a2, a3, a4⟩ := authL_some ha
  have hroot : p = [] ∨ ∃ r, p = 47 :: r := by
    rcases cut_root hr with h0 | ⟨r, h1⟩
    · rw [h0, normL_nil] at hp; cases hp; exact .inl rfl
    · rw [h1, normL_plain r (by decide) (by decide)] at hp
      cases hn : normL r with
      | none => rw [hn] at hp; cases hp
      | some b => rw [hn] at hp; simp at hp; exact .inr ⟨b, hp.symm⟩
  obtain ⟨r, r1, r2, r3⟩ := root_of hroot (norm_idem hp) (norm_ask _ _ _ (Nat.le_refl _) hp (cut_ask rest))
  have s1 := segs_norm r2
  have s2 := segs_ask r3
  have s3 := segs_idem (47 :: r)
  rw [r1]
  obtain ⟨x, y, _, s4, _⟩ := segs_pieces r
  have hlocal : ∃ c l, localL ⟨n, k, segsL (47 :: r), q, (cutB 63 rest).2.2⟩ = c :: l ∧ stopC c = false := by
    unfold localL
    split
    · exact ⟨47, _, by show segsL (47 :: r) ++ _ = _; rw [s4]; rfl, by decide⟩
    · exact ⟨47, _, by show segsL (47 :: r) = _; rw [s4], by decide⟩
  have hst := take_stop (siteL n k) (localL ⟨n, k, segsL (47 :: r), q, (cutB 63 rest).2.2⟩) (site_stop a1 a4) (.inr hlocal)
  have hcut : cutB 63 (localL ⟨n, k, segsL (47 :: r), q, (cutB 63 rest).2.2⟩) = (segsL (47 :: r), q, (cutB 63 rest).2.2) := by
    unfold localL
    cases hh : (cutB 63 rest).2.2 with
    | true => exact cutB_hit s2 q
    | false =>
      rw [cut_has rest hh, normL_nil] at hq
      cases hq
      exact cutB_miss s2
  have hk : keyL ⟨n, k, segsL (47 :: r), q, (cutB 63 rest).2.2⟩ = schemeL ++ (siteL n k ++ localL ⟨n, k, segsL (47 :: r), q, (cutB 63 rest).2.2⟩) := by unfold keyL; rw [List.append_assoc]
  unfold parseU
  rw [hk, abs_scheme, if_pos rfl]
  have hd : (schemeL ++ (siteL n k ++ localL ⟨n, k, segsL (47 :: r), q, (cutB 63 rest).2.2⟩)).drop 7 = siteL n k ++ localL ⟨n, k, segsL (47 :: r), q, (cutB 63 rest).2.2⟩ := rfl
  rw [hd, hst.1, hst.2, parse2_mk (p := segsL (47 :: r)) (q := q) (n := n) (k := k) (by rw [hcut]; exact s1) (by rw [hcut]; exact norm_idem hq) (site_back a1 a2 a3 a4), hcut]
  have hrr : rootL (segsL (47 :: r)) = segsL (47 :: r) := by unfold rootL; rw [if_neg (by rw [s4]; simp)]
  rw [hrr, s3]
/-- The two forms of a target. -/
theorem forms_same {path host S : List UInt8} (other : List UInt8) (hs : S.length = 7) (hS : foldB S schemeL = true) (hp : ∃ r, path = 47 :: r) (hh : ∀ c ∈ host, stopC c = true) : parseU (S ++ host ++ path) other = parseU path host := by
  obtain ⟨r, rfl⟩ := hp
  have h1 : absB (S ++ host ++ 47 :: r) = true := by
    unfold absB
    rw [List.append_assoc, List.take_left' hs, hS, decide_eq_true (by simp; omega)]; rfl
  have h2 := take_stop host (47 :: r) hh (.inr ⟨47, r, rfl, by decide⟩)
  unfold parseU
  rw [h1, if_pos rfl, abs_root, if_neg (by simp), if_pos (show (47 :: r).head? = some 47 from rfl), List.append_assoc, List.drop_left' hs, h2.1, h2.2]
end Go.Proofs.YtglckhljpjcmaaaGreatDoor
namespace Go.Proofs.YtglckhljpjcmaaaGreatDoor

theorem joinS_app (a b : List (List UInt8)) : joinS (a ++ b) = joinS a ++ joinS b := by simp [joinS]
theorem joinS_pop (l : List (List UInt8)) : (joinS l.dropLast).length ≤ (joinS l).length := by
  rcases List.eq_nil_or_concat l with rfl | ⟨ys, y, h0⟩
  · simp
  · have e : l = ys ++ [y] := by rw [h0]; simp
    subst e
    rw [List.dropLast_concat, joinS_app]; simp
theorem segGo_len : ∀ (ps out : List (List UInt8)), (joinS (segGo out ps)).length ≤ (joinS out).length + (joinS ps).length
  | [], out => by simp [segGo]
  | [x], out => by
    rw [segGo_one]
    have hp := joinS_pop out
    have hx : (joinS [x]).length = x.length + 1 := by simp [joinS]
    have h0 : (joinS [([] : List UInt8)]).length = 1 := by simp [joinS]
    split
    · rw [joinS_app, List.length_append]; omega
    · split
      · rw [joinS_app, List.length_append]; omega
      · rw [joinS_app, List.length_append]; omega
  | x :: y :: r, out => by
    rw [segGo_more out x (by simp)]
    have hp := joinS_pop out
    have hc : (joinS (x :: y :: r)).length = x.length + 1 + (joinS (y :: r)).length := by rw [joinS_cons]; simp; omega
    have hx : (joinS [x]).length = x.length + 1 := by simp [joinS]
    split
    · have := segGo_len (y :: r) out.dropLast; omega
    · split
      · have := segGo_len (y :: r) out; omega
      · have := segGo_len (y :: r) (out ++ [x])
        rw [joinS_app, List.length_append] at this; omega
theorem join_split : ∀ (t : List UInt8), joinS (splitC 47 t) = 47 :: t
  | [] => rfl
  | c :: t => by
    by_cases h : c = 47
    · subst h
      rw [splitC, if_pos rfl, joinS_cons, join_split t]; rfl
    · cases hs : splitC 47 t with
      | nil => exact absurd hs (splitC_ne 47 t)
      | cons x r =>
        have ih := join_split t
        rw [hs, joinS_cons] at ih
        rw [splitC_other h hs, joinS_cons]
        simp at ih
        simp [ih]
theorem segs_len (l : List UInt8) : (segsL l).length ≤ l.length := by
  cases l with
  | nil => simp [segsL]
  | cons c t =>
    by_cases h : c = 47
    · subst h
      rw [segsL_slash]
      have := segGo_len (splitC 47 t) []
      rw [join_split] at this
      simpa [joinS] using this
    · rw [segsL_other t h]; exact Nat.le_refl _
theorem root_len (p : List UInt8) : (rootL p).length ≤ p.length + 1 := by unfold rootL; split <;> simp
theorem auth_len {l n : List UInt8} {k : Int} (h : authL l = some (n, k)) : n.length ≤ l.length := by
  unfold authL at h
  split at h
  · cases hp : portN (cutB 58 l).2.1 with
    | none => rw [hp] at h; cases h
    | some m =>
      rw [hp] at h; simp at h
      have := cutB_len 58 l
      rw [← h.1, lowL_length]; omega
  · cases h
theorem auth1_len (l : List UInt8) : (auth1 l).length ≤ l.length := (List.takeWhile_sublist _).length_le
theorem rest1_len (l : List UInt8) : (rest1 l).length ≤ l.length := (List.dropWhile_sublist _).length_le
/-- The sizes of a URI that was parsed. -/
theorem parse_len {t h : List UInt8} {u : Uri} (e : parseU t h = (u, 0)) : u.host.length ≤ t.length + h.length ∧ u.path.length ≤ t.length + 1 ∧ u.query.length ≤ t.length ∧ (u.port = 80 ∨ 1 ≤ u.port ∧ u.port ≤ 65535) := by
  have key : ∀ h' rest : List UInt8, parse2 h' rest = (u, 0) → h'.length ≤ t.length + h.length → rest.length ≤ t.length → u.host.length ≤ t.length + h.length ∧ u.path.length ≤ t.length + 1 ∧ u.query.length ≤ t.length ∧ (u.port = 80 ∨ 1 ≤ u.port ∧ u.port ≤ 65535) := by
    intro h' rest e2 l1 l2
    obtain ⟨p, q, n, k, hp, hq, ha, rfl⟩ := parse2_ok e2
    have := cutB_len 63 rest
    have := norm_len _ _ _ (Nat.le_refl _) hp
    have := norm_len _ _ _ (Nat.le_refl _) hq
    have := segs_len (rootL p)
    have := root_len p
    have := auth_len ha
    have h4 := (authL_some ha).2.2.2
    refine ⟨?_, ?_, ?_, h4⟩
    · show n.length ≤ _; omega
    · show (segsL (rootL p)).length ≤ _; omega
    · show q.length ≤ _; omega
  unfold parseU at e
  split at e
  · refine key _ _ e ?_ ?_
    · have := auth1_len (t.drop 7); rw [List.length_drop] at this; omega
    · have := rest1_len (t.drop 7); rw [List.length_drop] at this; omega
  · split at e
    · exact key _ _ e (by omega) (by omega)
    · simp at e
theorem key_len (u : Uri) (hl : (Lib.itoa u.port).length ≤ 40) : (keyL u).length ≤ u.host.length + u.path.length + u.query.length + 49 := by
  unfold keyL siteL localL
  have : schemeL.length = 7 := rfl
  rw [List.length_append, List.length_append]
  have e1 : (if u.port = 80 then u.host else u.host ++ 58 :: Lib.itoa u.port).length ≤ u.host.length + 41 := by split <;> (try simp) <;> omega
  have e2 : (if u.has = true then u.path ++ 63 :: u.query else u.path).length ≤ u.path.length + u.query.length + 1 := by split <;> (try simp) <;> omega
  omega
/-- No piece of what Segments returns is a dot segment. -/
theorem segs_nodot {t a x b : List UInt8} (h : segsL (47 :: t) = a ++ 47 :: (x ++ b)) (hx : 47 ∉ x) (hb : b = [] ∨ ∃ r, b = 47 :: r) : x ≠ [46] ∧ x ≠ [46, 46] := by
  obtain ⟨y, r, _, h2, h3, h4, _⟩ := segs_pieces t
  have e1 : splitC 47 (segsL (47 :: t)) = [] :: y :: r := by rw [h2, splitC, if_pos rfl, h3]
  have e2 : splitC 47 (segsL (47 :: t)) = splitC 47 a ++ splitC 47 (x ++ b) := by rw [h, splitC_app]
  have e3 : x ∈ splitC 47 (x ++ b) := by
    rcases hb with rfl | ⟨r', rfl⟩
    · rw [List.append_nil, splitC_miss hx]; simp
    · rw [splitC_hit hx]; simp
  have hm : x ∈ [] :: y :: r := by rw [← e1, e2]; exact List.mem_append_right _ e3
  rcases List.mem_cons.1 hm with rfl | hm
  · exact ⟨by simp, by simp⟩
  · exact dotB_no.1 (h4 x hm)
theorem segs_head (t : List UInt8) : ∃ r, segsL (47 :: t) = 47 :: r := by
  obtain ⟨y, r, _, h2, _⟩ := segs_pieces t
  exact ⟨_, h2⟩
end Go.Proofs.YtglckhljpjcmaaaGreatDoor
namespace Go.Proofs.YtglckhljpjcmaaaGreatDoor
open Go.RowKit Go.ChangeShapes Go.WideShapes

/-- Behind the slice's address, if it has one, these strings lie. -/
def StrO (w : World) (oa : Option Addr) (xs : List ByteArray) : Prop := ∀ (i : Nat) (x : ByteArray), xs[i]? = some x → ∃ ad : Addr, oa = some ad ∧ w.cell? (ad.add i) = some (.string x)
theorem cell_lt {w : World} {p : Addr} {v : Value} (h : w.cell? p = some v) : p.block < w.heap.size := by
  rcases Nat.lt_or_ge p.block w.heap.size with hlt | hge
  · exact hlt
  · unfold World.cell? at h
    rw [Array.getElem?_eq_none hge] at h; cases h
theorem StrO.down {w w' : World} {oa : Option Addr} {xs : List ByteArray} (h : StrO w oa xs) (hb : Below w.heap.size w w') : StrO w' oa xs := fun i x hx => by
  obtain ⟨ad, h1, h2⟩ := h i x hx
  exact ⟨ad, h1, (hb.cell (cell_lt h2)).trans h2⟩
set_option maxRecDepth 1000000 in
theorem laid_out : laidOutB Tryz.prog = true := by kernel_rfl
theorem cells_str : Tryz.prog.cellsOf 9 = 1 := by kernel_rfl
theorem open_strsl_gen {P : Program} {e0 : TypeId} {H : Type} {enc : TypeId × Value → H} {W : World} {r : Reach} {base : Nat} {t : TypeId} {v : Value} {d : DataW H} {ps : List MemPlace} (he : P.underlying e0 = some .string) (hce : P.cellsOf e0 = 1) (ht : P.underlying t = some (.slice e0))
    (hv : Value.okWide P W r base t v) (h : DataW.Trod enc P W 0 (fun _ => true) true t v d ps) :
    ∃ (oa : Option Addr) (xs : List ByteArray) (cap : Nat), v = .slice oa xs.length cap ∧ StrO W oa xs ∧ (∀ x ∈ xs, x.size ≤ 9223372036854775807) ∧ xs.length ≤ 9223372036854775807 := by
  obtain ⟨a0, len, cap, rfl⟩ := okWide_slice ht hv
  obtain ⟨fuel, hf⟩ := h
  rcases open_strings ht he hce hf with ⟨hcs, hx⟩ | ⟨a, len', cap', ss, hcs, _, hl, hm, hz, hx, hcell, hws⟩
  · simp [Value.cells] at hcs
    obtain ⟨rfl, rfl, rfl⟩ := hcs
    exact ⟨none, [], 0, rfl, fun i x hx => by simp at hx, fun x hx => by simp at hx, by simp⟩
  · simp [Value.cells] at hcs
    obtain ⟨rfl, rfl, rfl⟩ := hcs
    simp only [if_true] at hz
    have hlen : (ss.take len).length = len := by rw [List.length_take]; omega
    refine ⟨some a, ss.take len, cap, by rw [hlen], fun i x hx => ?_, fun x hx => ?_, ?_⟩
    · rw [List.getElem?_take] at hx
      split at hx
      · rename_i hi
        have hi' : i < ss.length := (List.getElem?_eq_some_iff.1 hx).1
        refine ⟨a, rfl, ?_⟩
        rw [hcell i hi', List.getD_eq_getElem?_getD, hx]; rfl
      · cases hx
    · have := hws x (List.mem_of_mem_take hx)
      unfold maxLen at this; exact this
    · rw [hlen]; unfold maxLen at hm; omega
/-- An argument that was only read reads as it did. -/
theorem stays {H : Type} {enc : TypeId × Value → H} {W W' : World} {t : TypeId} {v : Value} {d : DataW H} {ps : List MemPlace} {sp : Nat → Bool} (hr : Tryz.prog.readableRec t = true) (hrow : t < Tryz.prog.types.size)
    (h : DataW.Trod enc Tryz.prog W 0 (fun _ => true) true t v d ps) (hb : Below W.heap.size W W') (hlt : ∀ x ∈ ps, x.block < W.heap.size) (hs : ∀ x ∈ ps, sp x.block = true) : DataW.Trod enc Tryz.prog W' 0 sp true t v d ps :=
  WideElems.Trod_stays laid_out hr hrow h (fun x hx => hb.same (hlt x hx)) hs
end Go.Proofs.YtglckhljpjcmaaaGreatDoor
namespace Go.Proofs.YtglckhljpjcmaaaGreatDoor
open Go.RowKit Go.ChangeShapes Go.WideShapes Go.Deep Go.Joins

abbrev Fd := ByteArray × ByteArray
/-- Behind the slice's address, if it has one, these fields lie. -/
def FldO (w : World) (oa : Option Addr) (xs : List Fd) : Prop := ∀ (i : Nat) (x : Fd), xs[i]? = some x → ∃ ad : Addr, oa = some ad ∧ w.cell? (ad.add (i * 2)) = some (.string x.1) ∧ w.cell? (ad.add (i * 2 + 1)) = some (.string x.2)
theorem FldO.down {w w' : World} {oa : Option Addr} {xs : List Fd} (h : FldO w oa xs) (hb : Below w.heap.size w w') : FldO w' oa xs := fun i x hx => by
  obtain ⟨ad, h1, h2, h3⟩ := h i x hx
  exact ⟨ad, h1, (hb.cell (cell_lt h2)).trans h2, (hb.cell (cell_lt h3)).trans h3⟩
theorem add_next (ad : Addr) (n : Nat) : (⟨(ad.add n).block, (ad.add n).off + 1, none⟩ : Addr) = ad.add (n + 1) := by
  unfold Addr.add
  by_cases h : n = 0 <;> simp [h, Nat.add_assoc]
/-- The two cells of a field, as the walks write their addresses. -/
theorem FldO.at {w : World} {oa : Option Addr} {xs : List Fd} (h : FldO w oa xs) {i : Nat} {x : Fd} (hx : xs[i]? = some x) : ∃ ad : Addr, oa = some ad ∧ w.cell? (ad.add (i * 2)) = some (.string x.1) ∧ w.cell? ⟨(ad.add (i * 2)).block, (ad.add (i * 2)).off + 1, none⟩ = some (.string x.2) := by
  obtain ⟨ad, h1, h2, h3⟩ := h i x hx
  exact ⟨ad, h1, h2, by rw [add_next]; exact h3⟩
theorem FldO.nil_ (w : World) (oa : Option Addr) : FldO w oa [] := fun i x hx => by simp at hx
def FldZ (xs : List Fd) (n : Nat) : Prop := ∀ x ∈ xs, x.1.size ≤ n ∧ x.2.size ≤ n
/-- The cell of a list of fields, opened. -/
theorem open_fld {H : Type} {enc : TypeId × Value → H} {W : World} {v : Value} {n : Nat} {y : DataW H × List MemPlace}
    (h : DataW.trod enc Tryz.prog W 0 (fun _ => true) true n 24 [v] = some y) :
    ∃ (oa : Option Addr) (xs : List Fd) (cap : Nat), v = .slice oa xs.length cap ∧ FldO W oa xs ∧ FldZ xs 9223372036854775807 ∧ xs.length ≤ 9223372036854775807 := by
  rcases open_slice_pairs Tryz.underlying24 Tryz.underlying47 (by kernel_rfl) rfl rfl (by kernel_rfl) (by kernel_rfl) h with ⟨hcs, _⟩ | ⟨a, len, cap, m, n', V0, V1, D0, D1, P0, P1, hcs, _, hl, hm, hmm, _, hi⟩
  · cases hcs
    exact ⟨none, [], 0, rfl, FldO.nil_ _ _, fun x hx => by simp at hx, by simp⟩
  · cases hcs
    simp only [if_true] at hmm
    have each : ∀ i, i < m → ∃ q : Fd, W.cell? (a.add (i * 2)) = some (.string q.1) ∧ W.cell? (a.add (i * 2 + 1)) = some (.string q.2) ∧ q.1.size ≤ maxLen ∧ q.2.size ≤ maxLen := by
      intro i him
      obtain ⟨c0, c1, t0, t1⟩ := hi i him
      obtain ⟨s0, e0, _, z0⟩ := DataW.trod_string Tryz.underlying9 t0
      obtain ⟨s1, e1, _, z1⟩ := DataW.trod_string Tryz.underlying9 t1
      have f0 : V0 i = .string s0 := (List.cons.inj e0).1
      have f1 : V1 i = .string s1 := (List.cons.inj e1).1
      exact ⟨(s0, s1), by rw [c0, f0], by rw [c1, f1], z0, z1⟩
    obtain ⟨q, hq⟩ := choose_lt each
    refine ⟨some a, (List.range len).map q, cap, by simp, fun i x hx => ?_, fun x hx => ?_, ?_⟩
    · rw [List.getElem?_map] at hx
      cases hr : (List.range len)[i]? with
      | none => rw [hr] at hx; cases hx
      | some j =>
        rw [hr] at hx
        obtain ⟨hil, hj⟩ := List.getElem?_eq_some_iff.1 hr
        rw [List.length_range] at hil
        rw [List.getElem_range] at hj
        subst hj
        cases hx
        have := hq i (by omega)
        exact ⟨a, rfl, this.1, this.2.1⟩
    · obtain ⟨i, hi', rfl⟩ := List.mem_map.1 hx
      have := hq i (by have := List.mem_range.1 hi'; omega)
      unfold maxLen at this
      exact ⟨this.2.2.1, this.2.2.2⟩
    · rw [List.length_map, List.length_range]; unfold maxLen at hm; omega
end Go.Proofs.YtglckhljpjcmaaaGreatDoor
namespace Go.Proofs.YtglckhljpjcmaaaGreatDoor
open Go.RowKit

def fdB (x : Fd) : Bool := decide (x.1.size ≤ 300) && decide (x.2.size ≤ 300)
def fieldsB (xs : List Fd) : Bool := (xs.take 71).all fdB && decide (xs.length ≤ 70)
theorem fieldsB_true {xs : List Fd} (h : fieldsB xs = true) : xs.length ≤ 70 ∧ FldZ xs 300 := by
  unfold fieldsB at h
  rw [Bool.and_eq_true, decide_eq_true_eq] at h
  refine ⟨h.2, fun x hx => ?_⟩
  have := List.all_eq_true.1 h.1 x (by rw [List.take_of_length_le (by omega)]; exact hx)
  unfold fdB at this
  rw [Bool.and_eq_true, decide_eq_true_eq, decide_eq_true_eq] at this
  exact this
theorem fieldsB_no {xs : List Fd} {k : Nat} {x : Fd} (h71 : k < 71) (hx : xs[k]? = some x) (h : fdB x = false) : fieldsB xs = false := by
  unfold fieldsB
  rw [Bool.and_eq_false_iff]
  left
  rw [List.all_eq_false]
  exact ⟨x, List.mem_of_getElem? (i := k) (by rw [List.getElem?_take, if_pos h71, hx]), by rw [h]; simp⟩
theorem fieldsB_end {xs : List Fd} {k : Nat} (h : ∀ (j : Nat) (x : Fd), j < k → xs[j]? = some x → fdB x = true) (hk : xs.length ≤ k ∨ 71 ≤ k) : fieldsB xs = decide (xs.length ≤ 70) := by
  unfold fieldsB
  rw [show (xs.take 71).all fdB = true from List.all_eq_true.2 fun x hx => by
    obtain ⟨j, hj, hx⟩ := List.mem_iff_getElem.1 hx
    rw [List.length_take] at hj
    rw [List.getElem_take] at hx
    exact h j x (by omega) (by rw [List.getElem?_eq_getElem (by omega), hx])]
  rfl
set_option maxHeartbeats 1600000 in
theorem keepF_any (oa : Option Addr) (xs : List Fd) (cap : Nat) (w : World) (hn : xs.length ≤ 9223372036854775807) (hc : FldO w oa xs) :
    Calls Tryz.prog 14 #[.slice oa xs.length cap] w fun e w' => e = .returned (.bool (fieldsB xs)) ∧ w' = w := by
  have HC := Lib.hid hc
  clear hc
  go_enter Tryz.func14, Tryz.ntmps14
  go_wp2_with fail
  go_loop [3] (fun j => ∃ k : Nat, k ≤ xs.length ∧ k ≤ 71 ∧ j = .int .i64 k ∧ Hid (∀ (i : Nat) (x : Fd), i < k → xs[i]? = some x → fdB x = true)) (fun j => xs.length - (intOf j).toNat)
  case atStart => exact ⟨0, by omega, by omega, rfl, Lib.hid fun i x hi => by omega⟩
  case round =>
    obtain ⟨k, hk, hk2, rfl, H⟩ := hrel
    by_cases hlt : k < xs.length
    · by_cases h71 : k < 71
      · obtain ⟨x, hx⟩ : ∃ x, xs[k]? = some x := ⟨_, List.getElem?_eq_getElem hlt⟩
        obtain ⟨ad, rfl, c0, c1⟩ := HC.out.at hx
        by_cases h1 : x.1.size ≤ 300
        · by_cases h2 : x.2.size ≤ 300
          · have HN : Hid (∀ (i : Nat) (y : Fd), i < k + 1 → xs[i]? = some y → fdB y = true) := Lib.hid fun i y hi hy => by
              by_cases e : i = k
              · subst e
                rw [hx] at hy; cases hy
                unfold fdB; simp [h1, h2]
              · exact H.out i y (by omega) hy
            clear hx
            go_wp2_with fail
            go_round
            case rel => exact ⟨k + 1, by omega, by omega, by go_num, HN⟩
            case measure => simp [intOf]; omega
          · have HF := Lib.hid (fieldsB_no h71 hx (by unfold fdB; simp [h2]))
            clear hx
            go_wp2_with fail
            go_ret
            exact ⟨by rw [HF.out]; rfl, rfl⟩
        · have HF := Lib.hid (fieldsB_no h71 hx (by unfold fdB; simp [h1]))
          clear hx
          go_wp2_with fail
          go_ret
          exact ⟨by rw [HF.out]; rfl, rfl⟩
      · have HF := Lib.hid (fieldsB_end H.out (.inr (by omega)))
        go_wp2_with fail
        go_ret
        exact ⟨by rw [HF.out]; first | rfl | (congr 2; simp; omega), rfl⟩
    · have HF := Lib.hid (fieldsB_end H.out (.inl (by omega)))
      go_wp2_with fail
      go_ret
      exact ⟨by rw [HF.out]; first | rfl | (congr 2; simp; omega), rfl⟩
end Go.Proofs.YtglckhljpjcmaaaGreatDoor
namespace Go.Proofs.YtglckhljpjcmaaaGreatDoor
open Go.RowKit

/-- Block b is a variable that holds just these cells. -/
def RowAt (w : World) (b : Nat) (t : TypeId) (cs : List Value) : Prop := w.heap[b]? = some (.cells cs.toArray t (0, 0))
theorem RowAt.new (w : World) (cs : List Value) (t : TypeId) : RowAt (w.alloc (.cells cs.toArray t)) w.heap.size t cs := heap_alloc_new w _
theorem RowAt.lt {w : World} {b : Nat} {t : TypeId} {cs : List Value} (h : RowAt w b t cs) : b < w.heap.size := (Array.getElem?_eq_some_iff.1 h).1
theorem RowAt.below {w w' : World} {b : Nat} {t : TypeId} {cs : List Value} (h : RowAt w b t cs) (hb : Below w.heap.size w w') : RowAt w' b t cs := (hb.block b h.lt).trans h
theorem RowAt.belowB {w w' : World} {B b : Nat} {t : TypeId} {cs : List Value} (h : RowAt w b t cs) (hb : Below B w w') (hB : b < B) : RowAt w' b t cs := (hb.block b hB).trans h
theorem RowAt.alloc {w : World} {b : Nat} {t : TypeId} {cs : List Value} (h : RowAt w b t cs) (o : Obj) : RowAt (w.alloc o) b t cs := h.below ((Below.refl _ _).alloc (Nat.le_refl _) o)
theorem RowAt.drew {w : World} {b : Nat} {t : TypeId} {cs : List Value} (h : RowAt w b t cs) : RowAt w.drew b t cs := h
theorem RowAt.cell {w : World} {b : Nat} {t : TypeId} {cs : List Value} (h : RowAt w b t cs) (j : Nat) {v : Value} (hv : cs[j]? = some v) : w.cell? ⟨b, j, none⟩ = some v := by
  rw [cell_of_row w b j _ t _ h]; simpa using hv
theorem RowAt.free {w : World} {b : Nat} {t : TypeId} {cs : List Value} (h : RowAt w b t cs) (j : Nat) : w.frozen? ⟨b, j, none⟩ = false := frozen_of_row w b j _ t h
theorem RowAt.set {w : World} {b : Nat} {t : TypeId} {cs : List Value} (h : RowAt w b t cs) (j : Nat) (v : Value) : RowAt (w.setCell ⟨b, j, none⟩ v) b t (cs.set j v) := by
  have := heap_setCell_same w b j cs.toArray t v h
  unfold RowAt
  rw [this]; simp
theorem RowAt.setOther {w : World} {b g : Nat} {t : TypeId} {cs : List Value} (h : RowAt w b t cs) (hne : b ≠ g) (j : Nat) (v : Value) : RowAt (w.setCell ⟨g, j, none⟩ v) b t cs := by
  unfold RowAt
  rw [heap_setCell_other _ _ _ _ hne]; exact h
theorem setCells_row {b : Nat} {t : TypeId} : ∀ (vs cs : List Value) (o : Nat) (w : World), RowAt w b t cs → o + vs.length ≤ cs.length → RowAt (w.setCells b o vs) b t (cs.take o ++ vs ++ cs.drop (o + vs.length))
  | [], cs, o, w, h, _ => by simpa [World.setCells] using h
  | v :: r, cs, o, w, h, hl => by
    simp only [List.length_cons] at hl
    have h1 := setCells_row r (cs.set o v) (o + 1) (w.setCell ⟨b, o, none⟩ v) (h.set o v) (by simp; omega)
    have e : (cs.set o v).take (o + 1) ++ r ++ (cs.set o v).drop (o + 1 + r.length) = cs.take o ++ v :: r ++ cs.drop (o + (v :: r).length) := by
      have e1 : (cs.set o v).take (o + 1) = cs.take o ++ [v] := by
        rw [List.set_eq_take_append_cons_drop, if_pos (by omega), List.take_append, List.length_take]
        rw [show o + 1 - min o cs.length = 1 from by omega, List.take_of_length_le (by rw [List.length_take]; omega)]
        simp
      have e2 : (cs.set o v).drop (o + 1 + r.length) = cs.drop (o + (v :: r).length) := by
        rw [List.drop_set_of_lt (by omega)]; congr 1; simp; omega
      rw [e1, e2]; simp
    rw [e] at h1
    exact h1
theorem setCells_other {b : Nat} : ∀ (vs : List Value) (o : Nat) (w : World) (k : Nat), k ≠ b → (w.setCells b o vs).heap[k]? = w.heap[k]?
  | [], _, _, _, _ => rfl
  | _ :: r, o, _, k, h => (setCells_other r (o + 1) _ k h).trans (heap_setCell_other _ _ _ _ h)
theorem setCells_below {B b : Nat} {a : World} (hB : B ≤ b) : ∀ (vs : List Value) (o : Nat) (w : World), Below B a w → Below B a (w.setCells b o vs)
  | [], _, _, h => h
  | v :: r, o, _, h => setCells_below hB r (o + 1) _ (h.setCell (p := ⟨b, o, none⟩) hB v)
theorem setCells_size {b : Nat} : ∀ (vs : List Value) (o : Nat) (w : World), (w.setCells b o vs).heap.size = w.heap.size
  | [], _, _ => rfl
  | _ :: r, o, _ => (setCells_size r (o + 1) _).trans (by simp)
section
variable {P : Program}
/-- A whole value is stored into a variable that is known whole. -/
theorem wpList_store_row {ops : Array Oper} {rest : List Oper} {op : Oper} {a : Act} {Q : Exit → Act → World → Prop} (hgd : op.guard = none) (w : World) (ty : TypeId) (x y : Operand) (ho : op.op = .store ty x y)
    (b : Nat) (t : TypeId) (cs vs : List Value) (hg : RowAt w b t cs) (hx : a.eval x = .pointer (some ⟨b, 0, none⟩)) (hy : a.eval y = .agg vs.toArray) (hl : vs.length = cs.length)
    (hi : (P.info? ty).map (·.size) = some cs.length) (h1 : ∀ v ∈ vs, v.oneCell' = true)
    (h : ∀ w', RowAt w' b t vs → (∀ B, B ≤ b → Below B w w') → (∀ k, k ≠ b → w'.heap[k]? = w.heap[k]?) → w'.heap.size = w.heap.size → wpList P ops Q rest (a.put op.dst undef) w') : wpList P ops Q (op :: rest) a w := by
  refine wpList_store_mid hgd ty x y ho b 0 vs.toArray hx hy (fun j hj => ?_) (by rw [hi]; simp [hl]) (all_oneCell_toArray h1) ?_
  · have hj' : j < cs.length := by simp at hj; omega
    rw [Nat.zero_add]
    exact ⟨by rw [hg.cell j (List.getElem?_eq_getElem hj')]; rfl, hg.free j⟩
  · have hr := setCells_row vs cs 0 w hg (by omega)
    rw [Nat.zero_add, hl, List.drop_length, List.take_zero, List.nil_append, List.append_nil] at hr
    exact h _ hr (fun B hB => setCells_below hB _ _ _ (Below.refl _ _)) (fun k hk => setCells_other _ _ _ _ hk) (setCells_size _ _ _)
theorem wpList_load_rowAt {ops : Array Oper} {rest : List Oper} {o : Oper} {a : Act} {Q : Exit → Act → World → Prop} (hgd : o.guard = none) (w : World) (ty : TypeId) (x : Operand) (ho : o.op = .load ty x)
    (b : Nat) (t : TypeId) (cs : List Value) (hg : RowAt w b t cs) (hx : a.eval x = .pointer (some ⟨b, 0, none⟩)) (fs : Array Field) (hu : P.underlying ty = some (.struct fs)) (hi : (P.info? ty).map (·.size) = some cs.length)
    (h : wpList P ops Q rest (a.put o.dst (.agg cs.toArray)) w) : wpList P ops Q (o :: rest) a w :=
  wpList_load_row hgd ty x ho b hx t cs.toArray (0, 0) (.struct fs) hg hu rfl (by rw [hi]; simp) h
theorem run_load_row (w : World) (ty : TypeId) (b : Nat) (t : TypeId) (cs : List Value) (hg : RowAt w b t cs) (fs : Array Field) (hu : P.underlying ty = some (.struct fs)) (hi : (P.info? ty).map (·.size) = some cs.length) :
    (Instr.loadAt ty (.pointer (some ⟨b, 0, none⟩))).run P w = .ok (.agg cs.toArray) w := by
  simp only [Instr.loadAt, Instr.sureAddr, Sem.run_bind, Sem.run_pure, Result.andThen_ok]
  exact run_loadVar_row w b t ty cs.toArray (0, 0) (.struct fs) hg hu rfl (by rw [hi]; simp)
theorem results_row2 {fn : Func} {p u : Tmp} {ty : TypeId} (h : fn.results = #[.cell p ty, .tmp u]) (tmps : Array Value) (w : World) (b : Nat) (t : TypeId) (cs : List Value) (hg : RowAt w b t cs)
    (hp : tmps.getD p undef = .pointer (some ⟨b, 0, none⟩)) (fs : Array Field) (hu : P.underlying ty = some (.struct fs)) (hi : (P.info? ty).map (·.size) = some cs.length) :
    (results fn tmps).run P w = .ok (.tuple #[.agg cs.toArray, tmps.getD u undef]) w := by
  have hr := run_loadVar_row (P := P) w b t ty cs.toArray (0, 0) (.struct fs) hg hu rfl (by rw [hi]; simp)
  rw [results_cell_tmp h, hp]
  have e1 : (asAddr (.pointer (some ⟨b, 0, none⟩))).run P w = .ok ⟨b, 0, none⟩ w := by simp [asAddr]
  rw [e1, Result.andThen_ok, hr, Result.andThen_ok]
theorem results_row1 {fn : Func} {p : Tmp} {ty : TypeId} (h : fn.results = #[.cell p ty]) (tmps : Array Value) (w : World) (b : Nat) (t : TypeId) (cs : List Value) (hg : RowAt w b t cs)
    (hp : tmps.getD p undef = .pointer (some ⟨b, 0, none⟩)) (fs : Array Field) (hu : P.underlying ty = some (.struct fs)) (hi : (P.info? ty).map (·.size) = some cs.length) :
    (results fn tmps).run P w = .ok (.agg cs.toArray) w :=
  results_cell_row h tmps w b t cs.toArray (0, 0) (.struct fs) hp hg hu rfl (by rw [hi]; simp)
end
end Go.Proofs.YtglckhljpjcmaaaGreatDoor
namespace Go.Proofs.YtglckhljpjcmaaaGreatDoor
open Go.RowKit

theorem step_b {w w1 w2 : World} (h : Below w.heap.size w w1) (h' : Below w1.heap.size w1 w2) : Below w.heap.size w w2 := h.trans (h'.mono h.size)
theorem alloc_b (w : World) (o : Obj) : Below w.heap.size w (w.alloc o) := (Below.refl _ _).alloc (Nat.le_refl _) _
/-- A response's cells. -/
abbrev respC (m st : Int) (rs : ByteArray) (oa : Option Addr) (n cap : Nat) (bd : ByteArray) : List Value := [.int .i64 m, .int .i64 st, .string rs, .slice oa n cap, .string bd]
abbrev respV (m st : Int) (rs : ByteArray) (oa : Option Addr) (n cap : Nat) (bd : ByteArray) : Value := .agg #[.int .i64 m, .int .i64 st, .string rs, .slice oa n cap, .string bd]
theorem resp_size : (Tryz.prog.info? 26).map (·.size) = some 5 := by kernel_rfl
def keepRB (rs bd : ByteArray) (xs : List Fd) : Bool := decide (rs.size ≤ 2100) && fieldsB xs && decide (bd.size ≤ 2000)
set_option maxHeartbeats 1600000 in
theorem keepR_any (m st : Int) (rs : ByteArray) (oa : Option Addr) (xs : List Fd) (cap : Nat) (bd : ByteArray) (w : World) (hn : xs.length ≤ 9223372036854775807) (hc : FldO w oa xs) :
    Calls Tryz.prog 5 #[respV m st rs oa xs.length cap bd] w fun e w' => e = .returned (.bool (keepRB rs bd xs)) ∧ Below w.heap.size w w' := by
  have HC := Lib.hid (hc.down (alloc_b w (.cells (respC m st rs oa xs.length cap bd).toArray 26)))
  clear hc
  by_cases h1 : rs.size ≤ 2100
  · have h1' : decide ((rs.size : Int) ≤ 2100) = true := by simp; omega
    cases hf : fieldsB xs with
    | true =>
      have HF := Lib.hid hf
      have HR : Hid (keepRB rs bd xs = decide ((bd.size : Int) ≤ 2000)) := Lib.hid (by
        unfold keepRB; rw [hf, decide_eq_true h1]; simp; omega)
      clear hf
      go_enter Tryz.func5, Tryz.ntmps5
      go_wp2_with fail
      refine (keepF_any oa xs cap _ hn HC.out).mono ?_
      rintro e w2 ⟨rfl, hw2⟩
      rw [HF.out]
      subst hw2
      go_wp2_with fail
      go_ret
      exact ⟨by rw [HR.out]; rfl, alloc_b w _⟩
    | false =>
      have HF := Lib.hid hf
      have HR : Hid (keepRB rs bd xs = false) := Lib.hid (by unfold keepRB; rw [hf]; simp)
      clear hf
      go_enter Tryz.func5, Tryz.ntmps5
      go_wp2_with fail
      refine (keepF_any oa xs cap _ hn HC.out).mono ?_
      rintro e w2 ⟨rfl, hw2⟩
      rw [HF.out]
      subst hw2
      go_wp2_with fail
      go_ret
      exact ⟨by rw [HR.out]; rfl, alloc_b w _⟩
  · have h1' : decide ((rs.size : Int) ≤ 2100) = false := by simp; omega
    have HR : Hid (keepRB rs bd xs = false) := Lib.hid (by unfold keepRB; rw [decide_eq_false h1]; rfl)
    go_enter Tryz.func5, Tryz.ntmps5
    go_wp2_with fail
    go_ret
    exact ⟨by rw [HR.out]; rfl, alloc_b w _⟩
/-- One field's struct, loaded. -/
theorem run_load_fd {w : World} {oa : Option Addr} {xs : List Fd} (h : FldO w oa xs) {i : Nat} {x : Fd} (hx : xs[i]? = some x) : ∃ ad : Addr, oa = some ad ∧ w.cell? (ad.add (i * 2)) = some (.string x.1) ∧ w.cell? ⟨(ad.add (i * 2)).block, (ad.add (i * 2)).off + 1, none⟩ = some (.string x.2) := h.at hx
end Go.Proofs.YtglckhljpjcmaaaGreatDoor
namespace Go.Proofs.YtglckhljpjcmaaaGreatDoor
open Go.RowKit

def fcells : List Fd → List Value
  | [] => []
  | x :: t => .string x.1 :: .string x.2 :: fcells t
theorem fcells_len (xs : List Fd) : (fcells xs).length = xs.length * 2 := by
  induction xs with
  | nil => rfl
  | cons x t ih => simp only [fcells, List.length_cons, ih]; omega
theorem fcells_snoc (xs : List Fd) (c : Fd) : fcells (xs ++ [c]) = fcells xs ++ [.string c.1, .string c.2] := by
  induction xs with
  | nil => rfl
  | cons x t ih => simp only [List.cons_append, fcells, ih]
theorem fcells_at : ∀ (xs : List Fd) (i : Nat) (x : Fd), xs[i]? = some x → (fcells xs)[i * 2]? = some (.string x.1) ∧ (fcells xs)[i * 2 + 1]? = some (.string x.2)
  | [], i, x, h => by simp at h
  | y :: t, 0, x, h => by
    cases h
    exact ⟨rfl, rfl⟩
  | y :: t, i + 1, x, h => by
    have := fcells_at t i x (by simpa using h)
    have e1 : (i + 1) * 2 = i * 2 + 1 + 1 := by omega
    rw [e1]
    exact this
theorem infoFld : (Tryz.prog.info? 47).map (fun i => (i.zero, i.size, i.bytes)) = some (some (.agg #[.string ByteArray.empty, .string ByteArray.empty]), 2, 32) := by kernel_rfl
/-- The slice v is a row of the call's own that holds just these fields. -/
def FBuf (w : World) (B : Nat) (v : Value) (xs : List Fd) : Prop := w.ownsRow B 47 2 v xs.length (fcells xs)
theorem FBuf.nil_ (w : World) (B : Nat) : FBuf w B (.slice none 0 0) [] := World.ownsRow_nil w B _ 2
theorem FBuf.alloc {w : World} {B : Nat} {v : Value} {xs : List Fd} (h : FBuf w B v xs) (o : Obj) : FBuf (w.alloc o) B v xs := World.ownsRow.alloc h o
theorem FBuf.below {w w' : World} {B B' : Nat} {v : Value} {xs : List Fd} (h : FBuf w B v xs) (hb : Below B' w w') (hB : w.heap.size ≤ B') : FBuf w' B v xs := by
  refine ⟨h.1, ?_⟩
  rcases h.2 with h0 | ⟨g, cap, cur, h1, h2, h3, h4⟩
  · exact .inl h0
  · have hg : g < w.heap.size := by
      rcases Nat.lt_or_ge g w.heap.size with hlt | hge
      · exact hlt
      · rw [Array.getElem?_eq_none hge] at h3; cases h3
    exact .inr ⟨g, cap, cur, h1, h2, (hb.block g (by omega)).trans h3, h4⟩
theorem FBuf.set {w : World} {B : Nat} {v : Value} {xs : List Fd} (h : FBuf w B v xs) {g j : Nat} (hg : g < B) (u : Value) : FBuf (w.setCell ⟨g, j, none⟩ u) B v xs := by
  refine ⟨h.1, ?_⟩
  rcases h.2 with h0 | ⟨g', cap, cur, h1, h2, h3, h4⟩
  · exact .inl h0
  · refine .inr ⟨g', cap, cur, h1, h2, ?_, h4⟩
    rw [← h3]
    exact Below.heap_setCell w ⟨g, j, none⟩ u g' (by show g' ≠ g; omega)
theorem FBuf.shape {w : World} {B : Nat} {v : Value} {xs : List Fd} (h : FBuf w B v xs) : ∃ oa cap, v = .slice oa xs.length cap ∧ FldO w oa xs := by
  rcases h.2 with ⟨rfl, h0⟩ | ⟨g, cap, cur, rfl, h2, h3, h4, h5⟩
  · obtain rfl : xs = [] := List.length_eq_zero_iff.1 h0
    exact ⟨none, 0, rfl, FldO.nil_ _ _⟩
  · refine ⟨_, _, rfl, fun i x hx => ⟨_, rfl, ?_, ?_⟩⟩
    · exact World.ownsRow.cells h (g := g) rfl (i * 2) _ (fcells_at xs i x hx).1
    · exact World.ownsRow.cells h (g := g) rfl (i * 2 + 1) _ (fcells_at xs i x hx).2
theorem FBuf.fld {w : World} {B : Nat} {oa : Option Addr} {n cap : Nat} {xs : List Fd} (h : FBuf w B (.slice oa n cap) xs) : FldO w oa xs := by
  obtain ⟨oa', cap', e, h'⟩ := h.shape
  cases e; exact h'
theorem FBuf.others {w w' : World} {B : Nat} {v : Value} {xs : List Fd} (h : FBuf w B v xs) {b : Nat} (hb : b < B) (f : ∀ k, k ≠ b → w'.heap[k]? = w.heap[k]?) : FBuf w' B v xs := by
  refine ⟨h.1, ?_⟩
  rcases h.2 with h0 | ⟨g, cap, cur, h1, h2, h3, h4⟩
  · exact .inl h0
  · exact .inr ⟨g, cap, cur, h1, h2, (f g (by omega)).trans h3, h4⟩
theorem new_f0 (w : World) (x : Fd) (t : TypeId) : (w.alloc (.cells #[.string x.1, .string x.2] t)).cell? ((⟨w.heap.size, 0, none⟩ : Addr).add 0) = some (.string x.1) := (RowAt.new w [.string x.1, .string x.2] t).cell 0 rfl
theorem new_f1 (w : World) (x : Fd) (t : TypeId) : (w.alloc (.cells #[.string x.1, .string x.2] t)).cell? ((⟨w.heap.size, 0, none⟩ : Addr).add 1) = some (.string x.2) := (RowAt.new w [.string x.1, .string x.2] t).cell 1 rfl
theorem FBuf.lower {w : World} {B B' : Nat} {v : Value} {xs : List Fd} (h : FBuf w B v xs) (hB : B' ≤ B) : FBuf w B' v xs := by
  refine ⟨h.1, ?_⟩
  rcases h.2 with h0 | ⟨g, cap, cur, h1, h2, h3, h4⟩
  · exact .inl h0
  · exact .inr ⟨g, cap, cur, h1, by omega, h3, h4⟩
theorem FBuf.one {w : World} {B : Nat} {v : Value} {xs : List Fd} (h : FBuf w B v xs) : v.oneCell' = true := by
  obtain ⟨oa, cap, rfl, _⟩ := h.shape
  rfl
theorem wpList_append_fld {ops : Array Oper} {rest : List Oper} {o : Oper} {a : Act} {Q : Exit → Act → World → Prop} (hgd : o.guard = none) (s x : Operand)
    (ho : o.op = .call { callee := .builtin .append, args := #[s, x], argTypes := #[24, 24] })
    (w0 w : World) (B : Nat) (v : Value) (xs : List Fd) (hs : a.eval s = v) (hown : FBuf w B v xs) (hb : Below B w0 w) (hB : B ≤ w.heap.size)
    (ad : Addr) (c : Fd) (hx : a.eval x = .slice (some ad) 1 1) (hc0 : w.cell? (ad.add 0) = some (.string c.1)) (hc1 : w.cell? (ad.add 1) = some (.string c.2)) (hl : xs.length + 1 ≤ 1000000)
    (h : ∀ v' w', FBuf w' B v' (xs ++ [c]) → Below B w0 w' → B ≤ w'.heap.size → wpList Tryz.prog ops Q rest (a.put o.dst v') w') : wpList Tryz.prog ops Q (o :: rest) a w := by
  obtain ⟨i, hi, hz0, hz1, hz2⟩ := info_parts infoFld
  refine wpList_append_own w hgd s x 24 ho B 47 i (.agg #[.string ByteArray.empty, .string ByteArray.empty]) 2 32 Tryz.underlying24 hi hz0 hz1 hz2 rfl (by decide) v xs.length _ hs hown ad 1 1 [.string c.1, .string c.2] hx rfl ?_ ?_ (by unfold maxLen; omega) (by omega) hB ?_
  · intro j u hj
    rcases j with _ | _ | j
    · simp at hj; subst hj; exact hc0
    · simp at hj; subst hj; exact hc1
    · simp at hj
  · intro u hu
    simp at hu
    rcases hu with rfl | rfl <;> rfl
  · intro v' w' hown' hg _
    refine h v' w' ?_ (hb.grown hg hB (fun j hj => (World.ownsRow.lt hown j hj).1)) (Nat.le_trans hB hg.size)
    unfold FBuf
    rw [fcells_snoc, List.length_append]
    exact hown'
/-- A slice of strings written out in the text. -/
theorem StrO.new (w : World) (xs : List ByteArray) : StrO (w.alloc (.cells (xs.map Value.string).toArray 9)) (some ⟨w.heap.size, 0, none⟩) xs := fun i x hx => by
  refine ⟨_, rfl, ?_⟩
  have h := (RowAt.new w (xs.map Value.string) 9).cell i (v := .string x) (by rw [List.getElem?_map, hx]; rfl)
  have ea : (⟨w.heap.size, 0, none⟩ : Addr).add i = ⟨w.heap.size, i, none⟩ := by unfold Addr.add; by_cases h0 : i = 0 <;> simp [h0]
  rw [ea]; exact h
end Go.Proofs.YtglckhljpjcmaaaGreatDoor
namespace Go.Proofs.YtglckhljpjcmaaaGreatDoor
open Go.RowKit

theorem low_facts {wr : World} {g k : Nat} {s : ByteArray} (hB : BytesAt wr g (lowUpTo (bs s) k)) (hlt : k < s.size) :
    ∃ c : UInt8, wr.cell? ⟨g, k, none⟩ = some (.int .u8 (c.toNat : Int)) ∧ wr.frozen? ⟨g, k, none⟩ = false ∧ (lowC c = c → BytesAt wr g (lowUpTo (bs s) (k + 1))) ∧
      BytesAt (wr.setCell ⟨g, k, none⟩ (.int .u8 ((lowC c).toNat : Int))) g (lowUpTo (bs s) (k + 1)) := by
  have hkl : k < (bs s).length := by rw [bs_length]; exact hlt
  have hkl' : k < (lowUpTo (bs s) k).length := by rw [lowUpTo_length]; exact hkl
  refine ⟨(bs s)[k], ?_, hB.free k hkl', fun h => ?_, ?_⟩
  · rw [hB.cell k hkl', lowUpTo_get _ hkl]
  · rw [← lowUpTo_keep _ hkl h]; exact hB
  · rw [← lowUpTo_step _ hkl]; exact hB.set hkl' _
theorem low_end {wr : World} {g k : Nat} {s : ByteArray} (hB : BytesAt wr g (lowUpTo (bs s) k)) (hk : s.size ≤ k) : BytesAt wr g (lowL (bs s)) := by
  rw [← lowUpTo_end (bs s) (by rw [bs_length]; exact hk)]; exact hB
set_option maxHeartbeats 400000 in
theorem lower_any (s : ByteArray) (w : World) (hs : s.size ≤ 9223372036854775807) :
    Calls Tryz.prog 61 #[.string s] w fun e w' => e = .returned (.string ⟨(lowL (bs s)).toArray⟩) ∧ Below w.heap.size w w' := by
  obtain ⟨cap, w1, hcv, hB, hbel, hsz⟩ := conv_to_bytes (P := Tryz.prog) 9 65 5 s w Tryz.underlying9 Tryz.underlying65 Tryz.underlying5
  go_enter Tryz.func61, Tryz.ntmps61
  go_wp2
  go_loopw [10] (fun j wr => ∃ k : Nat, k ≤ s.size ∧ j = .int .i64 k ∧ BytesAt wr w.heap.size (lowUpTo (bs s) k) ∧ Below w.heap.size w wr) (fun j _ => s.size - (intOf j).toNat)
  case atStart => exact ⟨0, by omega, rfl, by rw [lowUpTo_zero]; exact hB, hbel⟩
  case round =>
    obtain ⟨k, hk, rfl, hB1, hb1⟩ := hrel
    clear hB hbel hsz hcv
    by_cases hlt : k < s.size
    · obtain ⟨c, hc, hf, hkeep, hset⟩ := low_facts hB1 hlt
      clear hB1
      have hcb : c.toNat < 256 := UInt8.toNat_lt c
      by_cases hu : 65 ≤ c.toNat ∧ c.toNat ≤ 90
      · have h1 : 65 ≤ (c.toNat : Int) := by omega
        have h2 : (c.toNat : Int) ≤ 90 := by omega
        have e : (c.toNat : Int) + 97 - 65 = (c.toNat : Int) + 32 := by omega
        rw [lowC_hit hu, ← e] at hset
        clear hkeep e
        have H := Lib.hid hset
        clear hset
        go_wp2
        go_roundw
        case rel => exact ⟨k + 1, by omega, by go_num, H.out, hb1.setCell (Nat.le_refl _) _⟩
        case measure => simp [intOf]; omega
      · have hset' := hkeep (lowC_miss hu)
        clear hset hkeep
        have H := Lib.hid hset'
        clear hset'
        go_wp2
        all_goals
          go_roundw
          case rel => exact ⟨k + 1, by omega, by go_num, H.out, hb1⟩
          case measure => simp [intOf]; omega
    · have hcv := conv_from_bytes (P := Tryz.prog) 65 9 5 w.heap.size s.size cap (lowL (bs s)) wr Tryz.underlying65 Tryz.underlying5 Tryz.underlying9 (by rw [lowL_length, bs_length]) (low_end hB1 (by omega))
      clear hB1
      go_wp2
      go_ret
      exact ⟨rfl, hb1⟩

set_option maxHeartbeats 400000 in
theorem fold_any (s t : ByteArray) (w : World) (hs : s.size ≤ 9223372036854775807) (ht : t.size ≤ 9223372036854775807) :
    Calls Tryz.prog 53 #[.string s, .string t] w fun e w' => e = .returned (.bool (foldB (bs s) (bs t))) ∧ Below w.heap.size w w' := by
  by_cases hl : s.size = t.size
  · have hl' : ((s.size : Int) == (t.size : Int)) = true := by simp [hl]
    have H := Lib.hid hl
    clear hl
    go_enter Tryz.func53, Tryz.ntmps53
    go_wp2_with fail
    refine (lower_any s _ hs).mono ?_
    rintro e w1 ⟨rfl, hb1⟩
    go_wp2_with fail
    refine (lower_any t _ ht).mono ?_
    rintro e w2 ⟨rfl, hb2⟩
    go_wp2_with fail
    go_ret
    exact ⟨ret_bool (by simp [foldB, H.out]), hb1.trans (hb2.mono hb1.size)⟩
  · have hl' : ((s.size : Int) == (t.size : Int)) = false := by simp; omega
    have H := Lib.hid hl
    clear hl
    go_enter Tryz.func53, Tryz.ntmps53
    go_wp2_with fail
    go_ret
    exact ⟨ret_bool (by simp [foldB, H.out]), Below.refl _ _⟩
end Go.Proofs.YtglckhljpjcmaaaGreatDoor
namespace Go.Proofs.YtglckhljpjcmaaaGreatDoor
open Go.RowKit

theorem infoStr : (Tryz.prog.info? 9).map (fun i => (i.zero, i.size, i.bytes)) = some (some (.string ByteArray.empty), 1, 16) := by kernel_rfl
/-- The slice v is a row of the call's own that holds just these strings. -/
def SBuf (w : World) (B : Nat) (v : Value) (xs : List ByteArray) : Prop := w.ownsRow B 9 1 v xs.length (xs.map Value.string)
theorem SBuf.nil_ (w : World) (B : Nat) : SBuf w B (.slice none 0 0) [] := World.ownsRow_nil w B _ 1
theorem SBuf.alloc {w : World} {B : Nat} {v : Value} {xs : List ByteArray} (h : SBuf w B v xs) (o : Obj) : SBuf (w.alloc o) B v xs := World.ownsRow.alloc h o
theorem SBuf.drew {w : World} {B : Nat} {v : Value} {xs : List ByteArray} (h : SBuf w B v xs) : SBuf w.drew B v xs := h
/-- Behind the head of block g these strings lie. -/
def StrAt (w : World) (g : Nat) (xs : List ByteArray) : Prop := ∀ (i : Nat) (x : ByteArray), xs[i]? = some x → w.cell? ⟨g, i, none⟩ = some (.string x)
theorem StrAt.below {w w' : World} {B g : Nat} {xs : List ByteArray} (h : StrAt w g xs) (hb : Below B w w') (hB : g < B) : StrAt w' g xs := fun i x hx => (hb.cell (p := ⟨g, i, none⟩) hB).trans (h i x hx)
theorem SBuf.below {w w' : World} {B B' : Nat} {v : Value} {xs : List ByteArray} (h : SBuf w B v xs) (hb : Below B' w w') (hB : w.heap.size ≤ B') : SBuf w' B v xs := by
  refine ⟨h.1, ?_⟩
  rcases h.2 with h0 | ⟨g, cap, cur, h1, h2, h3, h4⟩
  · exact .inl h0
  · have hg : g < w.heap.size := by
      rcases Nat.lt_or_ge g w.heap.size with hlt | hge
      · exact hlt
      · rw [Array.getElem?_eq_none hge] at h3; cases h3
    exact .inr ⟨g, cap, cur, h1, h2, (hb.block g (by omega)).trans h3, h4⟩
theorem SBuf.shape {w : World} {B : Nat} {v : Value} {xs : List ByteArray} (h : SBuf w B v xs) : ∃ oa cap, v = .slice oa xs.length cap ∧ xs.length ≤ cap := by
  rcases h.2 with ⟨rfl, h0⟩ | ⟨g, cap, cur, rfl, h2, h3, h4, h5⟩
  · exact ⟨none, 0, by rw [h0], by omega⟩
  · exact ⟨_, _, rfl, h4⟩
theorem SBuf.form {w : World} {B : Nat} {v : Value} {xs : List ByteArray} (h : SBuf w B v xs) (hn : 0 < xs.length) : ∃ g cap, v = .slice (some ⟨g, 0, none⟩) xs.length cap ∧ B ≤ g ∧ g < w.heap.size ∧ StrAt w g xs ∧ xs.length ≤ cap := by
  rcases h.2 with ⟨_, h0⟩ | ⟨g, cap, cur, rfl, h2, h3, h4, h5⟩
  · omega
  · refine ⟨g, cap, rfl, h2, ?_, fun i x hx => ?_, h4⟩
    · rcases Nat.lt_or_ge g w.heap.size with hlt | hge
      · exact hlt
      · rw [Array.getElem?_eq_none hge] at h3; cases h3
    · have hc := World.ownsRow.cells h (g := g) rfl i (.string x) (by simp [hx])
      have ea : (⟨g, 0, none⟩ : Addr).add i = ⟨g, i, none⟩ := by unfold Addr.add; by_cases h0 : i = 0 <;> simp [h0]
      rw [ea] at hc; exact hc
/-- A row without its last string: 'out[:max(len(out)-1, 0)]'. -/
theorem SBuf.pop {w : World} {B : Nat} {v : Value} {xs : List ByteArray} (h : SBuf w B v xs) (m : Nat) (hm : m = xs.length - 1) :
    ∃ v', (∀ wx, (Instr.slice 29 v none (some (.int .i64 (m : Int))) none).run Tryz.prog wx = .ok v' wx) ∧ SBuf w B v' xs.dropLast := by
  rcases h.2 with ⟨rfl, h0⟩ | ⟨g, cap, cur, rfl, h2, h3, h4, h5⟩
  · have : xs = [] := List.length_eq_zero_iff.1 h0
    subst this
    obtain rfl : m = 0 := hm
    exact ⟨.slice none 0 0, fun wx => by kernel_rfl, SBuf.nil_ _ _⟩
  · refine ⟨.slice (some ⟨g, 0, none⟩) m cap, fun wx => ?_, ?_⟩
    · have hs : (sizeOf (Tryz.prog.elem 29)).run Tryz.prog wx = .ok 1 wx := by kernel_rfl
      rw [run_slice_h (P := Tryz.prog) wx 29 (some ⟨g, 0, none⟩) xs.length cap (by kernel_rfl) .i64 (m : Int) (by omega) (by omega), hs]
      simp [Result.andThen, sliced, Addr.add]
    · rcases (show xs = [] ∨ ∃ ys y, xs = ys ++ [y] from by
        rcases List.eq_nil_or_concat xs with h0 | ⟨ys, y, h0⟩
        · exact .inl h0
        · exact .inr ⟨ys, y, by rw [h0]; simp⟩) with rfl | ⟨ys, y, rfl⟩
      · obtain rfl : m = 0 := hm
        exact h
      · have e : m = ys.length := by simpa using hm
        subst e
        have hl : (ys ++ [y]).length = ys.length + 1 := by simp
        unfold SBuf at h ⊢
        rw [List.dropLast_concat]
        rw [hl, List.map_append] at h
        exact ownsRow_pop (by simp) h
theorem wpList_append_str {ops : Array Oper} {rest : List Oper} {o : Oper} {a : Act} {Q : Exit → Act → World → Prop} (hgd : o.guard = none) (s x : Operand)
    (ho : o.op = .call { callee := .builtin .append, args := #[s, x], argTypes := #[29, 29] })
    (w0 w : World) (B : Nat) (v : Value) (xs : List ByteArray) (hs : a.eval s = v) (hown : SBuf w B v xs) (hb : Below B w0 w) (hB : B ≤ w.heap.size)
    (ad : Addr) (c : ByteArray) (hx : a.eval x = .slice (some ad) 1 1) (hc : w.cell? ad = some (.string c)) (hl : xs.length + 1 ≤ 1000000)
    (h : ∀ v' w', SBuf w' B v' (xs ++ [c]) → Below B w0 w' → B ≤ w'.heap.size → wpList Tryz.prog ops Q rest (a.put o.dst v') w') : wpList Tryz.prog ops Q (o :: rest) a w := by
  obtain ⟨i, hi, hz0, hz1, hz2⟩ := info_parts infoStr
  refine wpList_append_own w hgd s x 29 ho B 9 i (.string ByteArray.empty) 1 16 Tryz.underlying29 hi hz0 hz1 hz2 rfl (by decide) v xs.length _ hs hown ad 1 1 [.string c] hx rfl ?_ ?_ (by unfold maxLen; omega) (by omega) hB ?_
  · intro j u hj
    rcases j with _ | j
    · simp at hj; subst hj
      have : ad.add 0 = ad := by unfold Addr.add; simp
      rw [this]; exact hc
    · simp at hj
  · intro u hu
    simp at hu; subst hu; rfl
  · intro v' w' hown' hg _
    refine h v' w' ?_ (hb.grown hg hB (fun j hj => (World.ownsRow.lt hown j hj).1)) (Nat.le_trans hB hg.size)
    unfold SBuf
    simpa using hown'
theorem step_append_str {ops : Array Oper} {o : Oper} {a : Act} {K : Act → World → Prop} {Q : Exit → Act → World → Prop} {E : Prop} (hgd : o.guard = none) (s x : Operand)
    (ho : o.op = .call { callee := .builtin .append, args := #[s, x], argTypes := #[29, 29] })
    (w0 w : World) (B : Nat) (v : Value) (xs : List ByteArray) (hs : a.eval s = v) (hown : SBuf w B v xs) (hb : Below B w0 w) (hB : B ≤ w.heap.size)
    (ad : Addr) (c : ByteArray) (hx : a.eval x = .slice (some ad) 1 1) (hc : w.cell? ad = some (.string c)) (hl : xs.length + 1 ≤ 1000000)
    (h : ∀ v' w', SBuf w' B v' (xs ++ [c]) → Below B w0 w' → B ≤ w'.heap.size → K (a.put o.dst v') w') :
    if Region.wanted o (yielded ops a.tmps) = true then Oper.wp Tryz.prog o a w K Q else E := by
  have hw : Region.wanted o (yielded ops a.tmps) = true := by simp [Region.wanted, hgd]
  rw [if_pos hw]
  obtain ⟨i, hi, hz0, hz1, hz2⟩ := info_parts infoStr
  refine wp_append_own w s x 29 ho B 9 i (.string ByteArray.empty) 1 16 Tryz.underlying29 hi hz0 hz1 hz2 rfl (by decide) v xs.length _ hs hown ad 1 1 [.string c] hx rfl ?_ ?_ (by unfold maxLen; omega) (by omega) hB ?_
  · intro j u hj
    rcases j with _ | j
    · simp at hj; subst hj
      have : ad.add 0 = ad := by unfold Addr.add; simp
      rw [this]; exact hc
    · simp at hj
  · intro u hu
    simp at hu; subst hu; rfl
  · intro v' w' hown' hg _
    refine h v' w' ?_ (hb.grown hg hB (fun j hj => (World.ownsRow.lt hown j hj).1)) (Nat.le_trans hB hg.size)
    unfold SBuf
    simpa using hown'
theorem cell_new_drew (w : World) (v : Value) (t : TypeId) : (w.alloc (.cells #[v] t)).drew.cell? ⟨w.heap.size, 0, none⟩ = some v := cell_new w v t
end Go.Proofs.YtglckhljpjcmaaaGreatDoor
namespace Go.Proofs.YtglckhljpjcmaaaGreatDoor
open Go.RowKit Go.Shelf

theorem ftake_keep {α : Type} {p : α → Bool} {xs : List α} {k : Nat} {x : α} (hx : xs[k]? = some x) (h : p x = true) : (xs.take (k + 1)).filter p = (xs.take k).filter p ++ [x] := by
  obtain ⟨hk, he⟩ := List.getElem?_eq_some_iff.1 hx
  rw [List.take_succ_eq_append_getElem hk, List.filter_append, he, List.filter_cons_of_pos h]; rfl
theorem ftake_skip {α : Type} {p : α → Bool} {xs : List α} {k : Nat} {x : α} (hx : xs[k]? = some x) (h : p x = false) : (xs.take (k + 1)).filter p = (xs.take k).filter p := by
  obtain ⟨hk, he⟩ := List.getElem?_eq_some_iff.1 hx
  rw [List.take_succ_eq_append_getElem hk, List.filter_append, he, List.filter_cons_of_neg (by rw [h]; simp)]; simp
/-- A field has this name. -/
def isF (n : List UInt8) (x : Fd) : Bool := foldB (bs x.1) n
def getF (n : List UInt8) (xs : List Fd) : List ByteArray := (xs.filter (isF n)).map (·.2)
/-- What is asked of a function value that tests a field. -/
def FPred (g : Nat) (lb : Array Value) (p : Fd → Bool) (w : World) : Prop :=
  ∀ (W : World) (x : Fd), Below w.heap.size w W → x.1.size ≤ 1000000 → Calls Tryz.prog g (#[.agg #[.string x.1, .string x.2]] ++ lb) W fun e w' => e = .returned (.bool (p x)) ∧ Below W.heap.size W w'
theorem isF_len {n : List UInt8} {x : Fd} (h : ¬ x.1.size = n.length) : isF n x = false := by
  unfold isF foldB
  rw [decide_eq_false (by rw [bs_length]; exact h)]; rfl
theorem isF_low {n : List UInt8} {x : Fd} (h : x.1.size = n.length) : isF n x = (lowL (bs x.1) == lowL n) := by
  unfold isF foldB
  rw [decide_eq_true (by rw [bs_length]; exact h)]; rfl
set_option maxHeartbeats 1600000 in
theorem filter_any (oa : Option Addr) (xs : List Fd) (cap : Nat) (g : Nat) (lb : Array Value) (p : Fd → Bool) (w : World) (eg : ∀ args w, (callFunc g args).run Tryz.prog w = .ok (.enter g args) w) (hp : FPred g lb p w)
    (hn : xs.length ≤ 100000) (hz : FldZ xs 100000) (hc : FldO w oa xs) :
    Calls Tryz.prog 51 #[.slice oa xs.length cap, .func (.func g) #[] lb] w fun e w' => ∃ v, e = .returned v ∧ FBuf w' w.heap.size v (xs.filter p) ∧ Below w.heap.size w w' := by
  have HC := Lib.hid hc
  have HZ := Lib.hid hz
  have HP := Lib.hid hp
  clear hc hz hp
  go_enter Tryz.func51, Tryz.ntmps51
  go_wp2_with fail
  go_loopw [5, 10] (fun v j wr => ∃ (k : Nat) (ys : List Fd), k ≤ xs.length ∧ j = .int .i64 k ∧ Hid (ys = (xs.take k).filter p) ∧ ys.length ≤ k ∧ FBuf wr w.heap.size v ys ∧ Below w.heap.size w wr) (fun _ j _ => xs.length - (intOf j).toNat)
  case atStart => exact ⟨0, [], by omega, rfl, Lib.hid rfl, by simp, FBuf.nil_ _ _, Below.refl _ _⟩
  case round =>
    obtain ⟨k, ys, hk, rfl, HY, hyl, FB, hb⟩ := hrel
    by_cases hlt : k < xs.length
    · obtain ⟨x, hx⟩ : ∃ x, xs[k]? = some x := ⟨_, List.getElem?_eq_getElem hlt⟩
      obtain ⟨ad, rfl, c0, c1⟩ := (HC.out.down hb).at hx
      have zx := (HZ.out x (List.mem_of_getElem? hx)).1
      have hl10 : ys.length + 1 ≤ 1000000 := by omega
      have HCL := Lib.hid (HP.out (wr.alloc (.cells #[.string x.1, .string x.2] 47)) x (hb.alloc hb.size _) (by omega))
      cases hkp : p x with
      | true =>
        rw [hkp] at HCL
        have HS := Lib.hid (ftake_keep hx hkp)
        clear hx hkp
        go_wp2_with fail
        refine HCL.out.mono ?_
        rintro e w4 ⟨rfl, bb⟩
        have F4 := (RowAt.new wr [.string x.1, .string x.2] 47).below bb
        have FB4 := (FB.alloc _).below bb (Nat.le_refl _)
        have b4 := step_b (hb.alloc hb.size _) bb
        have z4 : w.heap.size ≤ w4.heap.size := b4.size
        clear bb FB hb c0 c1 HCL
        have e0 := F4.cell 0 rfl
        have e1 := F4.cell 1 rfl
        go_wp2_with (at_builtin; refine wpList_append_fld rfl (.tmp 17) (.tmp 19) rfl w _ w.heap.size _ ys rfl (FB4.alloc _) (b4.alloc z4 _) (le_alloc z4 _) ⟨w4.heap.size, 0, none⟩ x rfl (new_f0 w4 x _) (new_f1 w4 x _) hl10 ?_)
        intro v5 w5 FB5 hb5 z5
        clear FB4 F4 b4 z4 e0 e1
        go_wp2_with fail
        go_roundw
        case rel => exact ⟨k + 1, ys ++ [x], by omega, by go_num, Lib.hid (by rw [HS.out, HY.out]), by simp; omega, FB5, hb5⟩
        case measure => simp [intOf]; omega
      | false =>
        rw [hkp] at HCL
        have HS := Lib.hid (ftake_skip hx hkp)
        clear hx hkp
        go_wp2_with fail
        refine HCL.out.mono ?_
        rintro e w4 ⟨rfl, bb⟩
        have FB4 := (FB.alloc _).below bb (Nat.le_refl _)
        have b4 := step_b (hb.alloc hb.size _) bb
        clear bb FB hb c0 c1 HCL
        go_wp2_with fail
        go_roundw
        case rel => exact ⟨k + 1, ys, by omega, by go_num, Lib.hid (by rw [HS.out]; exact HY.out), by omega, FB4, b4⟩
        case measure => simp [intOf]; omega
    · have HF : Hid (xs.filter p = ys) := Lib.hid (by rw [HY.out, List.take_of_length_le (by omega)])
      go_wp2_with fail
      go_ret
      exact ⟨_, rfl, by rw [HF.out]; exact FB, hb⟩
set_option maxHeartbeats 800000 in
theorem named_any (s : ByteArray) (w : World) (hs : s.size ≤ 9223372036854775807) :
    Calls Tryz.prog 52 #[.string s] w fun e w' => e = .returned (.func (.func 68) #[] #[.pointer (some ⟨w.heap.size, 0, none⟩)]) ∧ w'.cell? ⟨w.heap.size, 0, none⟩ = some (.string ⟨(lowL (bs s)).toArray⟩) ∧ w.heap.size < w'.heap.size ∧ Below w.heap.size w w' := by
  go_enter Tryz.func52, Tryz.ntmps52
  go_wp2_with fail
  refine (lower_any s _ hs).mono ?_
  rintro e w1 ⟨rfl, hb⟩
  have R1 := (RowAt.new w [.string s] 9).below hb
  have b1 := step_b (alloc_b w _) hb
  have z1 := R1.lt
  have c1 := R1.cell 0 rfl
  have f1 := R1.free 0
  have R2 := R1.set 0 (.string ⟨(lowL (bs s)).toArray⟩)
  have b2 := b1.setCell (p := ⟨w.heap.size, 0, none⟩) (Nat.le_refl _) (.string ⟨(lowL (bs s)).toArray⟩)
  clear hb b1
  go_wp2_with fail
  go_ret
  exact ⟨rfl, R2.cell 0 rfl, by simpa using z1, b2⟩
end Go.Proofs.YtglckhljpjcmaaaGreatDoor
namespace Go.Proofs.YtglckhljpjcmaaaGreatDoor
open Go.RowKit Go.Shelf

theorem keep2c {w1 w2 : World} {p q : Addr} {u v : Value} (h : w1.cell? p = some u ∧ w1.cell? q = some v) (hb : Below w1.heap.size w1 w2) : w2.cell? p = some u ∧ w2.cell? q = some v :=
  ⟨(hb.cell (cell_lt h.1)).trans h.1, (hb.cell (cell_lt h.2)).trans h.2⟩
set_option maxHeartbeats 1600000 in
theorem named1_pred (n : List UInt8) (B : Nat) (w : World) (hB : B < w.heap.size) (_ : n.length ≤ 1000000) (hc : w.cell? ⟨B, 0, none⟩ = some (.string ⟨(lowL n).toArray⟩)) : FPred 68 #[.pointer (some ⟨B, 0, none⟩)] (isF n) w := by
  intro W x hb hz
  have cB0 : W.cell? ⟨B, 0, none⟩ = some (.string ⟨(lowL n).toArray⟩) := (hb.cell (p := ⟨B, 0, none⟩) hB).trans hc
  have cB : (W.alloc (.cells #[.string x.1, .string x.2] 47)).cell? ⟨B, 0, none⟩ = some (.string ⟨(lowL n).toArray⟩) := ((alloc_b W _).cell (p := ⟨B, 0, none⟩) (cell_lt cB0)).trans cB0
  have R := RowAt.new W [.string x.1, .string x.2] 47
  have c0 := R.cell 0 rfl
  have hbW := alloc_b W (.cells #[.string x.1, .string x.2] 47)
  have hzl : ((⟨(lowL n).toArray⟩ : ByteArray).size : Int) = (n.length : Int) := by
    have : (⟨(lowL n).toArray⟩ : ByteArray).size = (lowL n).length := rfl
    rw [this, lowL_length]
  clear hb hc cB0 R
  obtain ⟨l, hlq⟩ : ∃ l : ByteArray, l = ⟨(lowL n).toArray⟩ := ⟨_, rfl⟩
  rw [← hlq] at cB hzl
  have HQ := Lib.hid hlq
  clear hlq
  by_cases hl : x.1.size = n.length
  · have hl' : ((x.1.size : Int) == (n.length : Int)) = true := by simp [hl]
    have H := Lib.hid (isF_low hl)
    clear hl
    go_enter Tryz.func68, Tryz.ntmps68
    go_wp2_with fail
    generalize hw1 : W.alloc (.cells #[.string x.1, .string x.2] 47) = w1 at *
    have HW := Lib.hid hw1
    clear hw1
    go_region_held3 (fun w' => (w'.cell? ⟨W.heap.size, 0, none⟩ = some (.string x.1) ∧ w'.cell? ⟨B, 0, none⟩ = some (.string l)) ∧ Below w1.heap.size w1 w') (first | assumption | exact ⟨⟨c0, cB⟩, (Below.refl _ _).drew⟩ | (exact ⟨keep2c (by first | assumption | exact ⟨c0, cB⟩) hb, step_b (by first | assumption | exact (Below.refl _ _).drew) hb⟩)) (first | (go_at_call 61; refine (lower_any _ _ (by omega)).mono ?_; rintro e w' ⟨rfl, hb⟩))
    have hq : (w'.cell? ⟨W.heap.size, 0, none⟩ = some (.string x.1) ∧ w'.cell? ⟨B, 0, none⟩ = some (.string l)) ∧ Below w1.heap.size w1 w' := by assumption
    go_wp2_with fail
    go_ret
    exact ⟨ret_bool (by rw [H.out, HQ.out, Lib.toList_data]), step_b hbW hq.2⟩
  · have hl' : ((x.1.size : Int) == (n.length : Int)) = false := by simp; omega
    have H := Lib.hid (isF_len hl)
    clear hl
    go_enter Tryz.func68, Tryz.ntmps68
    go_wp2_with fail
    go_quiet (fail)
    go_wp2_with fail
    go_ret
    exact ⟨ret_bool H.out.symm, below_drewN hbW _⟩
set_option maxHeartbeats 800000 in
theorem remove1_pred (n : List UInt8) (B B1 : Nat) (w : World) (hB : B < w.heap.size) (hB1 : B1 < w.heap.size) (hn : n.length ≤ 1000000) (hc : w.cell? ⟨B, 0, none⟩ = some (.string ⟨(lowL n).toArray⟩))
    (hc1 : w.cell? ⟨B1, 0, none⟩ = some (.func (.func 68) #[] #[.pointer (some ⟨B, 0, none⟩)])) : FPred 63 #[.pointer (some ⟨B1, 0, none⟩)] (fun x => !isF n x) w := by
  intro W x hb hz
  have cB1 : W.cell? ⟨B1, 0, none⟩ = some (.func (.func 68) #[] #[.pointer (some ⟨B, 0, none⟩)]) := (hb.cell (p := ⟨B1, 0, none⟩) hB1).trans hc1
  have R := RowAt.new W [.string x.1, .string x.2] 47
  have HP := Lib.hid (named1_pred n B w hB hn hc _ x (hb.alloc hb.size (.cells #[.string x.1, .string x.2] 47)) hz)
  have hbW := alloc_b W (.cells #[.string x.1, .string x.2] 47)
  have cB2 := (hbW.cell (p := ⟨B1, 0, none⟩) (cell_lt cB1)).trans cB1
  clear hb hc hc1 R cB1
  go_enter Tryz.func63, Tryz.ntmps63
  go_wp2_with fail
  refine HP.out.mono ?_
  rintro e w1 ⟨rfl, hb1⟩
  go_wp2_with fail
  go_ret
  exact ⟨rfl, step_b hbW hb1⟩
theorem eg_named1 (args : Array Value) (w : World) : (callFunc 68 args).run Tryz.prog w = .ok (.enter 68 args) w := enters_of Tryz.func68 (by kernel_rfl) rfl args w
theorem eg_remove1 (args : Array Value) (w : World) : (callFunc 63 args).run Tryz.prog w = .ok (.enter 63 args) w := enters_of Tryz.func63 (by kernel_rfl) rfl args w
theorem getF_size (n : List UInt8) (xs : List Fd) : ((getF n xs).length > 0) ↔ (xs.filter (isF n)).length > 0 := by simp [getF]
theorem FBuf.len_le {w : World} {B : Nat} {v : Value} {xs : List Fd} {p : Fd → Bool} (_ : FBuf w B v (xs.filter p)) : (xs.filter p).length ≤ xs.length := List.length_filter_le _ _
set_option maxHeartbeats 800000 in
theorem has_any (oa : Option Addr) (xs : List Fd) (cap : Nat) (s : ByteArray) (w : World) (hs : s.size ≤ 100000) (hn : xs.length ≤ 100000) (hz : FldZ xs 100000) (hc : FldO w oa xs) :
    Calls Tryz.prog 42 #[.slice oa xs.length cap, .string s] w fun e w' => e = .returned (.bool (decide (0 < (getF (bs s) xs).length))) ∧ Below w.heap.size w w' := by
  have HC := Lib.hid hc
  have HZ := Lib.hid hz
  clear hc hz
  go_enter Tryz.func42, Tryz.ntmps42
  go_wp2_with fail
  refine (named_any s _ (by omega)).mono ?_
  rintro e w1 ⟨rfl, cB, zB, hb1⟩
  have HF := Lib.hid (filter_any oa xs cap _ _ _ w1 eg_named1 (named1_pred (bs s) w.heap.size w1 zB (by rw [bs_length]; omega) cB) hn HZ.out (HC.out.down hb1))
  clear cB
  go_wp2_with fail
  refine HF.out.mono ?_
  rintro e w2 ⟨v, rfl, FB, hb2⟩
  obtain ⟨ob, cb, rfl, _⟩ := FB.shape
  go_wp2_with fail
  go_ret
  exact ⟨ret_bool (by rw [getF, List.length_map]; congr 1; simp), step_b hb1 hb2⟩
set_option maxHeartbeats 800000 in
theorem remove_any (oa : Option Addr) (xs : List Fd) (cap : Nat) (s : ByteArray) (w : World) (hs : s.size ≤ 100000) (hn : xs.length ≤ 100000) (hz : FldZ xs 100000) (hc : FldO w oa xs) :
    Calls Tryz.prog 40 #[.slice oa xs.length cap, .string s] w fun e w' => ∃ v, e = .returned v ∧ FBuf w' w.heap.size v (xs.filter fun x => !isF (bs s) x) ∧ Below w.heap.size w w' := by
  have HC := Lib.hid hc
  have HZ := Lib.hid hz
  clear hc hz
  go_enter Tryz.func40, Tryz.ntmps40
  go_wp2_with fail
  refine (named_any s _ (by omega)).mono ?_
  rintro e w1 ⟨rfl, cB, zB, hb1⟩
  have HF := Lib.hid (filter_any oa xs cap _ _ _ (w1.alloc (.cells #[.func (.func 68) #[] #[.pointer (some ⟨w.heap.size, 0, none⟩)]] 73)) eg_remove1
    (remove1_pred (bs s) w.heap.size w1.heap.size _ (by simp; omega) (by simp) (by rw [bs_length]; omega) (((alloc_b w1 _).cell (p := ⟨w.heap.size, 0, none⟩) zB).trans cB) (cell_new w1 _ _)) hn HZ.out ((HC.out.down hb1).down (alloc_b w1 _)))
  have hb1' := step_b hb1 (alloc_b w1 (.cells #[.func (.func 68) #[] #[.pointer (some ⟨w.heap.size, 0, none⟩)]] 73))
  clear cB hb1
  go_wp2_with fail
  refine HF.out.mono ?_
  rintro e w2 ⟨v, rfl, FB, hb2⟩
  go_wp2_with fail
  go_ret
  exact ⟨_, rfl, FB.lower (by have := hb1'.size; exact this), step_b hb1' hb2⟩
theorem getF_take {ys : List Fd} {k : Nat} {x : Fd} (hx : ys[k]? = some x) : ((ys.take (k + 1)).map (·.2)) = (ys.take k).map (·.2) ++ [x.2] := by
  obtain ⟨hk, he⟩ := List.getElem?_eq_some_iff.1 hx
  rw [List.take_succ_eq_append_getElem hk, List.map_append, he]; rfl
theorem StrO.ofS {w : World} {B : Nat} {v : Value} {xs : List ByteArray} (h : SBuf w B v xs) : ∃ oa cap, v = .slice oa xs.length cap ∧ StrO w oa xs := by
  obtain ⟨oa, cap, rfl, _⟩ := h.shape
  refine ⟨oa, cap, rfl, fun i x hx => ?_⟩
  have hl : 0 < xs.length := by have := (List.getElem?_eq_some_iff.1 hx).1; omega
  obtain ⟨g, cap', e, _, _, hA, _⟩ := h.form hl
  cases e
  refine ⟨_, rfl, ?_⟩
  have ea : (⟨g, 0, none⟩ : Addr).add i = ⟨g, i, none⟩ := by unfold Addr.add; by_cases h0 : i = 0 <;> simp [h0]
  rw [ea]; exact hA i x hx
theorem SBuf.lower {w : World} {B B' : Nat} {v : Value} {xs : List ByteArray} (h : SBuf w B v xs) (hB : B' ≤ B) : SBuf w B' v xs := by
  refine ⟨h.1, ?_⟩
  rcases h.2 with h0 | ⟨g, cap, cur, h1, h2, h3, h4⟩
  · exact .inl h0
  · exact .inr ⟨g, cap, cur, h1, by omega, h3, h4⟩
theorem new_2nd (w : World) (o : Obj) (c : ByteArray) (t : TypeId) : ((w.alloc o).alloc (.cells #[.string c] t)).cell? ⟨w.heap.size + 1, 0, none⟩ = some (.string c) := by
  have h := cell_new (w.alloc o) (.string c) t
  rw [show (w.alloc o).heap.size = w.heap.size + 1 from Array.size_push _] at h
  exact h
theorem StrO.new1 (w : World) (c : ByteArray) (t : TypeId) : (w.alloc (.cells #[.string c] t)).cell? ⟨w.heap.size, 0, none⟩ = some (.string c) := cell_new w _ _
set_option maxHeartbeats 1600000 in
theorem get_any (oa : Option Addr) (xs : List Fd) (cap : Nat) (s : ByteArray) (w : World) (hs : s.size ≤ 100000) (hn : xs.length ≤ 100000) (hz : FldZ xs 100000) (hc : FldO w oa xs) :
    Calls Tryz.prog 33 #[.slice oa xs.length cap, .string s] w fun e w' => ∃ v, e = .returned v ∧ SBuf w' w.heap.size v (getF (bs s) xs) ∧ Below w.heap.size w w' := by
  have HC := Lib.hid hc
  have HZ := Lib.hid hz
  clear hc hz
  go_enter Tryz.func33, Tryz.ntmps33
  go_wp2_with fail
  refine (named_any s _ (by omega)).mono ?_
  rintro e w1 ⟨rfl, cB, zB, hb1⟩
  have HF := Lib.hid (filter_any oa xs cap _ _ _ w1 eg_named1 (named1_pred (bs s) w.heap.size w1 zB (by rw [bs_length]; omega) cB) hn HZ.out (HC.out.down hb1))
  clear cB
  go_wp2_with fail
  refine HF.out.mono ?_
  rintro e w2 ⟨v, rfl, FB, hb2⟩
  obtain ⟨ys, hys⟩ : ∃ ys, ys = xs.filter (isF (bs s)) := ⟨_, rfl⟩
  rw [← hys] at FB
  have hyl : ys.length ≤ xs.length := by rw [hys]; exact List.length_filter_le _ _
  obtain ⟨ob, cb, rfl, FO⟩ := FB.shape
  have HO := Lib.hid FO
  have HY := Lib.hid hys
  have b2 := step_b hb1 hb2
  clear FO hys FB hb1 hb2 HF zB
  go_wp2_with fail
  go_loopw [5, 13] (fun v j wr => ∃ k : Nat, k ≤ ys.length ∧ j = .int .i64 k ∧ SBuf wr w2.heap.size v ((ys.take k).map (·.2)) ∧ Below w2.heap.size w2 wr) (fun _ j _ => ys.length - (intOf j).toNat)
  case atStart => exact ⟨0, by omega, rfl, SBuf.nil_ _ _, Below.refl _ _⟩
  case round =>
    obtain ⟨k, hk, rfl, SB, hbr⟩ := hrel
    by_cases hlt : k < ys.length
    · obtain ⟨x, hx⟩ : ∃ x, ys[k]? = some x := ⟨_, List.getElem?_eq_getElem hlt⟩
      obtain ⟨ad, rfl, c0, c1⟩ := (HO.out.down hbr).at hx
      have HS := Lib.hid (getF_take hx)
      have hl10 : ((ys.take k).map (·.2)).length + 1 ≤ 1000000 := by rw [List.length_map, List.length_take]; omega
      have F4 := RowAt.new wr [.string x.1, .string x.2] 47
      have e1 := F4.cell 1 rfl
      have SB1 := SB.alloc (.cells #[.string x.1, .string x.2] 47)
      have br4 := hbr.alloc hbr.size (.cells #[.string x.1, .string x.2] 47)
      have zr4 := br4.size
      clear hx F4 SB hbr
      go_wp2_with (at_builtin; refine wpList_append_str rfl (.tmp 17) (.tmp 20) rfl w2 _ w2.heap.size _ ((ys.take k).map (·.2)) rfl (SB1.alloc _) (br4.alloc zr4 _) (le_alloc zr4 _) ⟨wr.heap.size + 1, 0, none⟩ x.2 rfl (new_2nd wr _ _ _) hl10 ?_)
      intro v5 w5 SB5 hb5 z5
      clear SB1 br4 zr4 e1 c0 c1
      go_wp2_with fail
      go_roundw
      case rel => exact ⟨k + 1, by omega, by go_num, by rw [HS.out, List.map_take]; exact SB5, hb5⟩
      case measure => simp [intOf]; omega
    · go_wp2_with fail
      go_ret
      exact ⟨_, rfl, by rw [getF, ← HY.out]; rw [List.take_of_length_le (by omega)] at SB; exact SB.lower b2.size, step_b b2 hbr⟩
def firstV : List ByteArray → Value
  | [] => .tuple #[.string ⟨#[]⟩, .bool false]
  | x :: _ => .tuple #[.string x, .bool true]
set_option maxHeartbeats 800000 in
theorem first_any (oa : Option Addr) (xs : List Fd) (cap : Nat) (s : ByteArray) (w : World) (hs : s.size ≤ 100000) (hn : xs.length ≤ 100000) (hz : FldZ xs 100000) (hc : FldO w oa xs) :
    Calls Tryz.prog 17 #[.slice oa xs.length cap, .string s] w fun e w' => e = .returned (firstV (getF (bs s) xs)) ∧ Below w.heap.size w w' := by
  have HG := Lib.hid (get_any oa xs cap s w hs hn hz hc)
  clear hz hc
  go_enter Tryz.func17, Tryz.ntmps17
  go_wp2_with fail
  refine HG.out.mono ?_
  rintro e w1 ⟨v, rfl, SB, hb1⟩
  obtain ⟨ob, cb, rfl, SO⟩ := StrO.ofS SB
  cases hg : getF (bs s) xs with
  | nil =>
    clear SO SB HG
    have hl : ((getF (bs s) xs).length : Int) = 0 := by rw [hg]; rfl
    have HGG := Lib.hid hg
    clear hg
    go_wp2_with fail
    go_ret2
    exact ⟨by rw [HGG.out]; rfl, hb1⟩
  | cons x t =>
    have hl0 : ¬ ((getF (bs s) xs).length : Int) = 0 := by rw [hg, List.length_cons]; omega
    have hl1 : (0 : Int) < ((getF (bs s) xs).length : Int) := by rw [hg, List.length_cons]; omega
    obtain ⟨ad, rfl, c0⟩ := SO 0 x (by rw [hg]; rfl)
    have ea : ad.add 0 = ad := by unfold Addr.add; simp
    rw [ea] at c0
    have HGG := Lib.hid hg
    clear hg SO SB HG ea
    go_wp2_with fail
    go_ret2
    exact ⟨by rw [HGG.out]; rfl, hb1⟩
end Go.Proofs.YtglckhljpjcmaaaGreatDoor
namespace Go.Proofs.YtglckhljpjcmaaaGreatDoor
open Go.RowKit
abbrev nLoc : ByteArray := ⟨#[76, 111, 99, 97, 116, 105, 111, 110]⟩
abbrev nCLoc : ByteArray := ⟨#[67, 111, 110, 116, 101, 110, 116, 45, 76, 111, 99, 97, 116, 105, 111, 110]⟩
abbrev tgtN : List ByteArray := [nLoc, nCLoc]
def keyB (u : Uri) : ByteArray := ⟨(keyL u).toArray⟩
theorem keyB_bs (u : Uri) : bs (keyB u) = keyL u := rfl
/-- The value of the first field of a name, or nothing. -/
def firstS (n : List UInt8) (xs : List Fd) : ByteArray := (getF n xs).headD ⟨#[]⟩
theorem firstV_eq (n : List UInt8) (xs : List Fd) : firstV (getF n xs) = .tuple #[.string (firstS n xs), .bool (!(getF n xs).isEmpty)] := by
  unfold firstS
  cases getF n xs <;> rfl
/-- May the URI of a value be left out of the store? -/
def sameU (u v : Uri) : Bool := v.host == u.host && v.port == u.port
def knownB (out : List ByteArray) (k : List UInt8) : Bool := out.any fun x => bs x == k
def stepT (u : Uri) (out : List ByteArray) (s : ByteArray) : List ByteArray :=
  if (resolveU u (bs s)).2 && (sameU u (resolveU u (bs s)).1 && !knownB out (keyL (resolveU u (bs s)).1)) then out ++ [keyB (resolveU u (bs s)).1] else out
theorem stepT_no {u : Uri} {out : List ByteArray} {s : ByteArray} {v : Uri} {b : Bool} (hr : resolveU u (bs s) = (v, b)) (h : b = false ∨ sameU u v = false ∨ knownB out (keyL v) = true) : stepT u out s = out := by
  unfold stepT
  rw [hr]
  rcases h with rfl | h | h
  · rfl
  · rw [h]; cases b <;> rfl
  · rw [h]; cases b <;> cases sameU u v <;> rfl
theorem stepT_yes {u : Uri} {out : List ByteArray} {s : ByteArray} {v : Uri} (hr : resolveU u (bs s) = (v, true)) (h1 : sameU u v = true) (h2 : knownB out (keyL v) = false) : stepT u out s = out ++ [keyB v] := by
  unfold stepT
  rw [hr, h1, h2]; rfl
theorem stepT_len (u : Uri) (out : List ByteArray) (s : ByteArray) : (stepT u out s).length ≤ out.length + 1 ∧ out.length ≤ (stepT u out s).length := by
  unfold stepT; split <;> simp
/-- The keys after some names. -/
def tgtGo (u : Uri) (xs : List Fd) : List ByteArray → List ByteArray → List ByteArray
  | [], out => out
  | n :: t, out => tgtGo u xs t (stepT u out (firstS (bs n) xs))
def tgtL (u : Uri) (xs : List Fd) : List ByteArray := tgtGo u xs tgtN [keyB u]
theorem tgtGo_drop {u : Uri} {xs : List Fd} {out : List ByteArray} {k : Nat} {n : ByteArray} (h : tgtN[k]? = some n) : tgtGo u xs (tgtN.drop k) out = tgtGo u xs (tgtN.drop (k + 1)) (stepT u out (firstS (bs n) xs)) := by
  have hk : k < tgtN.length := by
    rcases Nat.lt_or_ge k tgtN.length with h' | h'
    · exact h'
    · rw [List.getElem?_eq_none h'] at h; cases h
  rw [List.drop_eq_getElem_cons hk]
  have e : tgtN[k] = n := by rw [List.getElem?_eq_getElem hk] at h; exact Option.some.inj h
  rw [e]; rfl
/-- The first value is no longer than all are. -/
theorem firstS_len {n : List UInt8} {xs : List Fd} {b : Nat} (hz : FldZ xs b) : (firstS n xs).size ≤ b := by
  unfold firstS
  cases hg : getF n xs with
  | nil => exact Nat.zero_le _
  | cons x t =>
    have hm : x ∈ getF n xs := by rw [hg]; simp
    unfold getF at hm
    obtain ⟨f, hf, rfl⟩ := List.mem_map.1 hm
    exact (hz f (List.mem_filter.1 hf).1).2
/-- What the keys are like. -/
structure TgtOk (u : Uri) (l : List ByteArray) (m : Nat) : Prop where
  len : 1 ≤ l.length ∧ l.length ≤ m
  head : l[0]? = some (keyB u)
  each : ∀ x ∈ l, ∃ v : Uri, x = keyB v ∧ v.host = u.host ∧ v.port = u.port ∧ (keyL v).length ≤ 2000 ∧ ∀ other, parseU (keyL v) other = (v, 0)
  apart : ∀ i k : Nat, k < i → ∀ x y, l[k]? = some x → l[i]? = some y → x ≠ y
theorem TgtOk.one {u : Uri} {t h : List UInt8} (hp : parseU t h = (u, 0)) (hl : (keyL u).length ≤ 2000) : TgtOk u [keyB u] 1 where
  len := by simp
  head := rfl
  each := fun x hx => by
    rw [List.mem_singleton] at hx
    exact ⟨u, hx, rfl, rfl, hl, fun other => key_back hp other⟩
  apart := fun i k hk x y _ hy => by
    cases i with
    | zero => omega
    | succ i => simp at hy
theorem known_no {out : List ByteArray} {v : Uri} (h : knownB out (keyL v) = false) : ∀ x ∈ out, x ≠ keyB v := fun x hx e => by
  unfold knownB at h
  rw [List.any_eq_false] at h
  exact h x hx (by rw [e]; simp [keyB_bs])
theorem TgtOk.step {u : Uri} {l : List ByteArray} {m : Nat} (ho : TgtOk u l m) (s : ByteArray) (hs : s.size ≤ 300) (hh : u.host.length ≤ 1000) (hp : (Lib.itoa u.port).length ≤ 40) : TgtOk u (stepT u l s) (m + 1) := by
  obtain ⟨v, b, hr⟩ : ∃ v b, resolveU u (bs s) = (v, b) := ⟨_, _, rfl⟩
  by_cases hc : b = false ∨ sameU u v = false ∨ knownB l (keyL v) = true
  · rw [stepT_no hr hc]
    exact ⟨⟨ho.len.1, by have := ho.len.2; omega⟩, ho.head, ho.each, ho.apart⟩
  · have hb : b = true := by cases b; exact absurd (.inl rfl) hc; rfl
    have h1 : sameU u v = true := by cases h : sameU u v; exact absurd (.inr (.inl h)) hc; rfl
    have h2 : knownB l (keyL v) = false := by cases h : knownB l (keyL v); rfl; exact absurd (.inr (.inr h)) hc
    subst hb
    rw [stepT_yes hr h1 h2]
    have hpu : parseU (bs s) (siteL u.host u.port) = (v, 0) := by
      unfold resolveU at hr
      split at hr
      · have e1 : (parseU (bs s) (siteL u.host u.port)).1 = v := congrArg Prod.fst hr
        have e2 : ((parseU (bs s) (siteL u.host u.port)).2 == 0) = true := congrArg Prod.snd hr
        exact Prod.ext e1 (by simpa using e2)
      · cases hr
    unfold sameU at h1
    rw [Bool.and_eq_true, beq_iff_eq, beq_iff_eq] at h1
    have hsl : (siteL u.host u.port).length ≤ 1041 := by unfold siteL; split <;> (try simp) <;> omega
    have pl := parse_len hpu
    rw [bs_length] at pl
    have kl := key_len v (by rw [h1.2]; exact hp)
    refine ⟨⟨by simp, by have := ho.len.2; simp; omega⟩, ?_, fun x hx => ?_, fun i k hk x y hx hy => ?_⟩
    · rw [List.getElem?_append_left (by have := ho.len.1; omega)]; exact ho.head
    · rcases List.mem_append.1 hx with hx | hx
      · exact ho.each x hx
      · rw [List.mem_singleton] at hx
        exact ⟨v, hx, h1.1, h1.2, by rw [h1.1] at kl; omega, fun other => key_back hpu other⟩
    · by_cases hi : i < l.length
      · rw [List.getElem?_append_left hi] at hy
        rw [List.getElem?_append_left (by omega)] at hx
        exact ho.apart i k hk x y hx hy
      · rw [List.getElem?_append_right (by omega)] at hy
        have hy' : i - l.length = 0 := by
          rcases Nat.eq_zero_or_pos (i - l.length) with h | h
          · exact h
          · rw [List.getElem?_eq_none (by simp; omega)] at hy; cases hy
        rw [hy'] at hy
        simp at hy
        rw [List.getElem?_append_left (by omega)] at hx
        rw [← hy]
        exact known_no h2 x (List.mem_of_getElem? hx)
theorem tgt_ok {u : Uri} {t h : List UInt8} {xs : List Fd} (hp : parseU t h = (u, 0)) (ht : t.length + h.length ≤ 600) (hz : FldZ xs 300) (hi : (Lib.itoa u.port).length ≤ 40) : TgtOk u (tgtL u xs) 3 := by
  have pl := parse_len hp
  have kl := key_len u hi
  have h1 := TgtOk.one hp (by omega)
  exact (h1.step _ (firstS_len hz) (by omega) hi).step _ (firstS_len hz) (by omega) hi
end Go.Proofs.YtglckhljpjcmaaaGreatDoor
