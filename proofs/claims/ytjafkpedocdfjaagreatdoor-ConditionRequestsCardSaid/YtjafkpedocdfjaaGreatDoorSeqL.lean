/- A range over an iterator that keeps its state in a cell of its own (strings.SplitSeq): the loop's law for bodies that always go on. -/
import Derived.Test.YtjafkpedocdfjaaGreatDoorCondV
import Derived.RangeFuncNested
import Derived.RangeFuncBound
import Derived.RangeFuncCalls
import Derived.RangeFuncLeaves
import Derived.Shelf.Abstract
import Derived.Shelf.RegionOpen
import Derived.WalkKit
import Derived.OwnWalkIn
import Derived.TacticsInMore
import Derived.LoopNIn
import Derived.LoopIn
import Derived.Maps.OwnIn
namespace Go.Proofs.YtjafkpedocdfjaaGreatDoor
open Go.RowKit Go.Shelf

/-- The three blocks from b0 on lie as they lay. -/
def Box3 (b0 : Nat) (A B : World) : Prop := ∀ b, b0 ≤ b → b ≤ b0 + 2 → B.heap[b]? = A.heap[b]?
theorem Box3.trans {b0 : Nat} {A B C : World} (h : Box3 b0 A B) (k : Box3 b0 B C) : Box3 b0 A C := fun b h1 h2 => (k b h1 h2).trans (h b h1 h2)
/-- What a round does that goes on. -/
def goesOn (B b0 : Nat) (J : World → Prop) (W : World) : Exit → Act → World → Prop
  | .normal, _, W' => KeepsFrom B W W' ∧ Box3 b0 W W' ∧ J W'
  | _, _, _ => False
/-- What is asked of the iterator: it hands out these strings, one by one, and turns its own cell alone. -/
def OwnGives (F : Fence) (n : Nat) (P : Program) (g : Nat) (lb : Array Value) (xs : List ByteArray) (b0 : Nat) (w : World) : Prop :=
  ∀ (l : Nat) (J : List ByteArray → World → Prop) (W : World), Box3 b0 w W → (∀ s A v, J s A → J s (A.setCell ⟨b0, 0, none⟩ v)) →
    (∀ pre x suf W1, xs = pre ++ x :: suf → J pre W1 → YieldAt F (n - 1) P l #[.string x] W1 fun e W' => e = .returned (.bool true) ∧ J (pre ++ [x]) W' ∧ Box3 b0 W1 W') →
    J [] W → CallsIn F n P g (#[.func (.yield l) #[] #[]] ++ lb) W fun e W' => (∃ v, e = .returned v) ∧ J xs W'
section
variable {F : Fence} {n : Nat} {P : Program}
/-- The loop's two blocks at b: the deferred calls' and the record. -/
def LoopIs (b : Nat) (r : Loop) (W : World) : Prop := W.heap[b + 1]? = some (.loop r) ∧ W.heap[b]? = some (.deferred (some []))
theorem LoopIs.set {b b0 : Nat} {r : Loop} {W : World} (h : LoopIs b r W) (hb : b0 < b) (v : Value) : LoopIs b r (W.setCell ⟨b0, 0, none⟩ v) :=
  ⟨(Below.heap_setCell W ⟨b0, 0, none⟩ v (b + 1) (by show b + 1 ≠ b0; omega)).trans h.1, (Below.heap_setCell W ⟨b0, 0, none⟩ v b (by show b ≠ b0; omega)).trans h.2⟩
theorem LoopIs.put {b : Nat} {r : Loop} {W : World} (h : LoopIs b r W) (r' : Loop) : LoopIs b r' (W.putObj (b + 1) (.loop r')) :=
  ⟨World.putObj_heap_same (Array.getElem?_eq_some_iff.1 h.1).1, (World.putObj_heap_other (by omega)).trans h.2⟩
theorem LoopIs.keep {b : Nat} {r : Loop} {W W' : World} (h : LoopIs b r W) (k : KeepsFrom b W W') : LoopIs b r W' := ⟨k.same _ _ (by omega) h.1 rfl, k.same _ _ (Nat.le_refl _) h.2 rfl⟩
theorem box3_put {b0 b : Nat} (hb : b0 + 2 < b) (W : World) (o : Obj) : Box3 b0 W (W.putObj (b + 1) o) := fun k _ _ => World.putObj_heap_other (by omega)
theorem LoopIs.start (w : World) (r : Loop) : LoopIs w.heap.size r ((w.alloc (.deferred (some []))).alloc (.loop r)) := by
  have h1 := World.alloc_heap_new (w.alloc (.deferred (some []))) (.loop r)
  rw [World.size_alloc] at h1
  exact ⟨h1, (Below.heap_alloc _ _ _ (by simp)).trans (World.alloc_heap_new w _)⟩
theorem wpIn_range_own {g : Operand} {p : Tmp} {assign body : Code} {Q : Exit → Act → World → Prop} {a : Act} {w : World}
    (hro : F.round = none) (h1 : 1 ≤ n) {gf : Nat} {lb : Array Value} (hg : a.eval g = .func (.func gf) #[] lb) (hFg : F.fn gf) (eg : ∀ args w, (callFunc gf args).run P w = .ok (.enter gf args) w)
    {xs : List ByteArray} {b0 : Nat} (hb0 : b0 + 2 < w.heap.size) (hseq : OwnGives F (n - 1) P gf lb xs b0 w)
    (I : List ByteArray → World → Prop) (hI : OwnFrom w.heap.size I) (hIs : ∀ s W v, I s W → I s (W.setCell ⟨b0, 0, none⟩ v)) (h0 : I [] w) (a1 : ByteArray → Act)
    (hassign : ∀ (l : Nat) (x : ByteArray) (W : World) (K : Act → World → Prop), K (a1 x) W →
      assign.wpIn (F.inRound l) (n - 1 - 1) P (Exit.then K (fun _ _ _ => False)) { tmps := a.tmps.setIfInBounds p (.string x), defers := [] } W)
    (hbody : ∀ (l : Nat) (pre : List ByteArray) (x : ByteArray) (suf : List ByteArray) (W : World), xs = pre ++ x :: suf → I pre W → body.wpIn (F.inRound l) (n - 1 - 1) P (goesOn w.heap.size b0 (I (pre ++ [x])) W) (a1 x) W)
    (hdone : ∀ W : World, I xs W → W.heap[w.heap.size]? = some (.deferred (some [])) → Q .normal { a with defers := { target := .collected w.heap.size, args := #[] } :: a.defers } W) :
    (Code.rangeFunc g #[p] assign body).wpIn F n P Q a w := by
  refine wpIn_rangeFunc fun fn hfn => ?_
  rw [hro]
  let rec_ : LoopState → Option Code → Loop := fun st pe => { state := st, pending := pe, fn, tmps := a.tmps, params := #[p], assign, body, defers := w.heap.size }
  have hst := LoopIs.start w (rec_ .ready none)
  have hi1 : I [] ((w.alloc (.deferred (some []))).alloc (.loop (rec_ .ready none))) := hI.alloc _ (hI.alloc _ h0)
  refine ⟨w.heap.size + 1, [{ target := .collected w.heap.size, args := #[] }], (w.alloc (.deferred (some []))).alloc (.loop (rec_ .ready none)), { target := .fn (.func gf) lb, args := #[.func (.yield (w.heap.size + 1)) #[] #[]] }, (w.alloc (.deferred (some []))).alloc (.loop (rec_ .ready none)), gf,
    #[.func (.yield (w.heap.size + 1)) #[] #[]] ++ lb, (w.alloc (.deferred (some []))).alloc (.loop (rec_ .ready none)), run_enterLoop_outer _ _ _ _ _, ?_, ?_, ?_, fun _ => h1, ?_⟩
  · simp only [resolve, hg]
    simp [go_sem]
  · intro f' hf'
    simp [Target.leads] at hf'
    subst hf'; exact hFg
  · simp [invoke, go_sem, eg]
  · have hb3 : Box3 b0 w ((w.alloc (.deferred (some []))).alloc (.loop (rec_ .ready none))) := fun k _ hk => (Below.heap_alloc _ _ _ (by simp; omega)).trans (Below.heap_alloc _ _ _ (by omega))
    let J : List ByteArray → World → Prop := fun s W => I s W ∧ LoopIs w.heap.size (rec_ .ready none) W
    have hJs : ∀ (s : List ByteArray) (A : World) (v : Value), J s A → J s (A.setCell ⟨b0, 0, none⟩ v) := fun s A v h => ⟨hIs s A v h.1, h.2.set (by omega) v⟩
    refine (hseq (w.heap.size + 1) J _ hb3 hJs ?_ ⟨hi1, hst⟩).mono ?_
    · rintro pre x suf W hx ⟨hi, hl⟩
      refine ⟨fn, _, assign, body, run_yield (P := P) hl.1 rfl, roundIn_of_wpIn hfn ?_⟩
      have ez : ((#[p].zip #[Value.string x]).foldl (fun tmps (t, a) => tmps.setIfInBounds t a) a.tmps) = a.tmps.setIfInBounds p (.string x) := by simp
      show assign.wpIn _ _ _ _ { tmps := ((#[p].zip #[Value.string x]).foldl (fun tmps (t, a) => tmps.setIfInBounds t a) a.tmps), defers := [] } W
      rw [ez]
      refine hassign _ x W _ ?_
      refine ⟨_, run_beginRound hl.1 rfl, ?_⟩
      have hl2 := hl.put (rec_ .busy none)
      have hi2 := hI.putObj (.loop (rec_ .busy none)) hi (Nat.le_succ _) hl.1 rfl
      have hx2 := box3_put hb0 W (.loop (rec_ .busy none))
      refine wpIn_mono (hbody _ pre x suf _ hx hi2) ?_
      rintro e a3 W3 hp
      cases e with
      | normal =>
        obtain ⟨k1, k2, k3⟩ := hp
        have hl3 := hl2.keep k1
        refine ⟨_, _, run_endRound (P := P) none hl3.1, ?_⟩
        have hi4 := hI.putObj (.loop (rec_ .ready none)) k3 (Nat.le_succ _) hl3.1 rfl
        have hl4 := hl3.put (rec_ .ready none)
        have hx4 := (hx2.trans k2).trans (box3_put hb0 W3 (.loop (rec_ .ready none)))
        exact ⟨rfl, ⟨hi4, hl4⟩, hx4⟩
      | ret => exact hp.elim
      | exit _ => exact hp.elim
      | goto _ => exact hp.elim
      | panic _ => exact hp.elim
      | outgrown => exact hp.elim
    · rintro e W2 ⟨⟨v, rfl⟩, hi, hl⟩
      exact ⟨none, _, run_endLoop (P := P) hl.1 (by simp [rec_]), hdone _ (hI.putObj _ hi (Nat.le_succ _) hl.1 rfl) ((World.putObj_heap_other (by omega)).trans hl.2)⟩
end
end Go.Proofs.YtjafkpedocdfjaaGreatDoor
