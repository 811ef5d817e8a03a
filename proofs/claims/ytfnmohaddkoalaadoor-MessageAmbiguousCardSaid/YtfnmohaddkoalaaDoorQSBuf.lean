/- Rows of strings that a call makes: grown by append, read, shortened. -/
import Derived.Test.YtfnmohaddkoalaaDoorQLib
import Derived.Test.YtfnmohaddkoalaaDoorQPre
import Derived.Test.YtfnmohaddkoalaaDoorQBuf
import Derived.Test.YtfnmohaddkoalaaDoorQBufW
import Derived.Deep.RegionLaw
import Derived.WalkSmall
namespace Go.Proofs.YtfnmohaddkoalaaDoor
open Go.RowKit

theorem infoStr : (Tryd.prog.info? 9).map (fun i => (i.zero, i.size, i.bytes)) = some (some (.string ByteArray.empty), 1, 16) := by kernel_rfl
/-- The slice v is a row of the call's own that holds just these strings. -/
def SBuf (w : World) (B : Nat) (v : Value) (xs : List ByteArray) : Prop := w.ownsRow B 9 1 v xs.length (xs.map Value.string)
theorem SBuf.nil_ (w : World) (B : Nat) : SBuf w B (.slice none 0 0) [] := World.ownsRow_nil w B _ 1
theorem SBuf.alloc {w : World} {B : Nat} {v : Value} {xs : List ByteArray} (h : SBuf w B v xs) (o : Obj) : SBuf (w.alloc o) B v xs := World.ownsRow.alloc h o
theorem SBuf.drew {w : World} {B : Nat} {v : Value} {xs : List ByteArray} (h : SBuf w B v xs) : SBuf w.drew B v xs := h
/-- Behind the head of block g these strings lie. -/
def StrAt (w : World) (g : Nat) (xs : List ByteArray) : Prop := ∀ (i : Nat) (x : ByteArray), xs[i]? = some x → w.cell? ⟨g, i, none⟩ = some (.string x)
theorem StrAt.below {w w' : World} {B g : Nat} {xs : List ByteArray} (h : StrAt w g xs) (hb : Below B w w') (hB : g < B) : StrAt w' g xs := fun i x hx => (hb.cell (p := ⟨g, i, none⟩) hB).trans (h i x hx)
theorem SBuf.below {w w' : World} {B B' : Nat} {v : Value} {xs : List ByteArray} (h : SBuf w B v xs) (hb : Below B' w w') (hB : w.heap.size ≤ B') : SBuf w' B v xs := by
  refine ⟨h.1, ?_⟩
  rcases h.2 with h0 | ⟨g, cap, cur, h1, h2, h3, h4⟩
  · exact .inl h0
  · have hg : g < w.heap.size := by
      rcases Nat.lt_or_ge g w.heap.size with hlt | hge
      · exact hlt
      · rw [Array.getElem?_eq_none hge] at h3; cases h3
    exact .inr ⟨g, cap, cur, h1, h2, (hb.block g (by omega)).trans h3, h4⟩
theorem SBuf.shape {w : World} {B : Nat} {v : Value} {xs : List ByteArray} (h : SBuf w B v xs) : ∃ oa cap, v = .slice oa xs.length cap ∧ xs.length ≤ cap := by
  rcases h.2 with ⟨rfl, h0⟩ | ⟨g, cap, cur, rfl, h2, h3, h4, h5⟩
  · exact ⟨none, 0, by rw [h0], by omega⟩
  · exact ⟨_, _, rfl, h4⟩
theorem SBuf.form {w : World} {B : Nat} {v : Value} {xs : List ByteArray} (h : SBuf w B v xs) (hn : 0 < xs.length) : ∃ g cap, v = .slice (some ⟨g, 0, none⟩) xs.length cap ∧ B ≤ g ∧ g < w.heap.size ∧ StrAt w g xs ∧ xs.length ≤ cap := by
  rcases h.2 with ⟨_, h0⟩ | ⟨g, cap, cur, rfl, h2, h3, h4, h5⟩
  · omega
  · refine ⟨g, cap, rfl, h2, ?_, fun i x hx => ?_, h4⟩
    · rcases Nat.lt_or_ge g w.heap.size with hlt | hge
      · exact hlt
      · rw [Array.getElem?_eq_none hge] at h3; cases h3
    · have hc := World.ownsRow.cells h (g := g) rfl i (.string x) (by simp [hx])
      have ea : (⟨g, 0, none⟩ : Addr).add i = ⟨g, i, none⟩ := by unfold Addr.add; by_cases h0 : i = 0 <;> simp [h0]
      rw [ea] at hc; exact hc
/-- A row without its last string: 'out[:max(len(out)-1, 0)]'. -/
theorem SBuf.pop {w : World} {B : Nat} {v : Value} {xs : List ByteArray} (h : SBuf w B v xs) (m : Nat) (hm : m = xs.length - 1) :
    ∃ v', (∀ wx, (Instr.slice 69 v none (some (.int .i64 (m : Int))) none).run Tryd.prog wx = .ok v' wx) ∧ SBuf w B v' xs.dropLast := by
  rcases h.2 with ⟨rfl, h0⟩ | ⟨g, cap, cur, rfl, h2, h3, h4, h5⟩
  · have : xs = [] := List.length_eq_zero_iff.1 h0
    subst this
    obtain rfl : m = 0 := hm
    exact ⟨.slice none 0 0, fun wx => by kernel_rfl, SBuf.nil_ _ _⟩
  · refine ⟨.slice (some ⟨g, 0, none⟩) m cap, fun wx => ?_, ?_⟩
    · have hs : (sizeOf (Tryd.prog.elem 69)).run Tryd.prog wx = .ok 1 wx := by kernel_rfl
      rw [run_slice_h (P := Tryd.prog) wx 69 (some ⟨g, 0, none⟩) xs.length cap (by kernel_rfl) .i64 (m : Int) (by omega) (by omega), hs]
      simp [Result.andThen, sliced, Addr.add]
    · rcases (show xs = [] ∨ ∃ ys y, xs = ys ++ [y] from by
        rcases List.eq_nil_or_concat xs with h0 | ⟨ys, y, h0⟩
        · exact .inl h0
        · exact .inr ⟨ys, y, by rw [h0]; simp⟩) with rfl | ⟨ys, y, rfl⟩
      · obtain rfl : m = 0 := hm
        exact h
      · have e : m = ys.length := by simpa using hm
        subst e
        have hl : (ys ++ [y]).length = ys.length + 1 := by simp
        unfold SBuf at h ⊢
        rw [List.dropLast_concat]
        rw [hl, List.map_append] at h
        exact ownsRow_pop (by simp) h
theorem wpList_append_str {ops : Array Oper} {rest : List Oper} {o : Oper} {a : Act} {Q : Exit → Act → World → Prop} (hgd : o.guard = none) (s x : Operand)
    (ho : o.op = .call { callee := .builtin .append, args := #[s, x], argTypes := #[69, 69] })
    (w0 w : World) (B : Nat) (v : Value) (xs : List ByteArray) (hs : a.eval s = v) (hown : SBuf w B v xs) (hb : Below B w0 w) (hB : B ≤ w.heap.size)
    (ad : Addr) (c : ByteArray) (hx : a.eval x = .slice (some ad) 1 1) (hc : w.cell? ad = some (.string c)) (hl : xs.length + 1 ≤ 1000000)
    (h : ∀ v' w', SBuf w' B v' (xs ++ [c]) → Below B w0 w' → B ≤ w'.heap.size → wpList Tryd.prog ops Q rest (a.put o.dst v') w') : wpList Tryd.prog ops Q (o :: rest) a w := by
  obtain ⟨i, hi, hz0, hz1, hz2⟩ := info_parts infoStr
  refine wpList_append_own w hgd s x 69 ho B 9 i (.string ByteArray.empty) 1 16 Tryd.underlying69 hi hz0 hz1 hz2 rfl (by decide) v xs.length _ hs hown ad 1 1 [.string c] hx rfl ?_ ?_ (by unfold maxLen; omega) (by omega) hB ?_
  · intro j u hj
    rcases j with _ | j
    · simp at hj; subst hj
      have : ad.add 0 = ad := by unfold Addr.add; simp
      rw [this]; exact hc
    · simp at hj
  · intro u hu
    simp at hu; subst hu; rfl
  · intro v' w' hown' hg _
    refine h v' w' ?_ (hb.grown hg hB (fun j hj => (World.ownsRow.lt hown j hj).1)) (Nat.le_trans hB hg.size)
    unfold SBuf
    simpa using hown'
theorem step_append_str {ops : Array Oper} {o : Oper} {a : Act} {K : Act → World → Prop} {Q : Exit → Act → World → Prop} {E : Prop} (hgd : o.guard = none) (s x : Operand)
    (ho : o.op = .call { callee := .builtin .append, args := #[s, x], argTypes := #[69, 69] })
    (w0 w : World) (B : Nat) (v : Value) (xs : List ByteArray) (hs : a.eval s = v) (hown : SBuf w B v xs) (hb : Below B w0 w) (hB : B ≤ w.heap.size)
    (ad : Addr) (c : ByteArray) (hx : a.eval x = .slice (some ad) 1 1) (hc : w.cell? ad = some (.string c)) (hl : xs.length + 1 ≤ 1000000)
    (h : ∀ v' w', SBuf w' B v' (xs ++ [c]) → Below B w0 w' → B ≤ w'.heap.size → K (a.put o.dst v') w') :
    if Region.wanted o (yielded ops a.tmps) = true then Oper.wp Tryd.prog o a w K Q else E := by
  have hw : Region.wanted o (yielded ops a.tmps) = true := by simp [Region.wanted, hgd]
  rw [if_pos hw]
  obtain ⟨i, hi, hz0, hz1, hz2⟩ := info_parts infoStr
  refine wp_append_own w s x 69 ho B 9 i (.string ByteArray.empty) 1 16 Tryd.underlying69 hi hz0 hz1 hz2 rfl (by decide) v xs.length _ hs hown ad 1 1 [.string c] hx rfl ?_ ?_ (by unfold maxLen; omega) (by omega) hB ?_
  · intro j u hj
    rcases j with _ | j
    · simp at hj; subst hj
      have : ad.add 0 = ad := by unfold Addr.add; simp
      rw [this]; exact hc
    · simp at hj
  · intro u hu
    simp at hu; subst hu; rfl
  · intro v' w' hown' hg _
    refine h v' w' ?_ (hb.grown hg hB (fun j hj => (World.ownsRow.lt hown j hj).1)) (Nat.le_trans hB hg.size)
    unfold SBuf
    simpa using hown'
theorem cell_new_drew (w : World) (v : Value) (t : TypeId) : (w.alloc (.cells #[v] t)).drew.cell? ⟨w.heap.size, 0, none⟩ = some v := cell_new w v t
end Go.Proofs.YtfnmohaddkoalaaDoor
