/- Regions that draw their order and whose last operations store into cells that earlier operations load: what is held is held until the first such store. The walk of condition.Reduce (31.4). The walks of condition.Conditional, keep.SameResponse and the sanity check of layer 31. The walk of the reference's ParseDate (20.2). The walks of the reference's entity tags (layer 21): tagText, ParseETag, ETagOf; firstDate, Validator. The walk of condition.Outgoing (31.1). Printed by gen_outw.py. The walk of keep.Request. What the listed variables give the walks of law 25: the table of powers of ten. The walk of ConditionCleans (law 31). -/
import Derived.OrdersHeld
import Derived.StillTail
import Derived.Deep.RegionHeld
import Derived.WalkKit
import Derived.Test.YtlcchcbeebakpaaDoorFldB
import Derived.Test.YtlcchcbeebakpaaDoorCondW
import Derived.Test.YtlcchcbeebakpaaDoorCondV
import Derived.Test.YtlcchcbeebakpaaDoorDateW3
import Derived.Test.YtlcchcbeebakpaaDoorRFld
import Derived.Test.YtlcchcbeebakpaaDoorEtagX
import Derived.RegionTactic
import Derived.Test.YtlcchcbeebakpaaDoorHopL
import Derived.Test.YtlcchcbeebakpaaDoorDecW
import Derived.Test.YtlcchcbeebakpaaDoorPost
namespace Go.Proofs.YtlcchcbeebakpaaDoor
open Go
section
variable {P : Program} {ops : Array Oper} {Q : Exit → Act → World → Prop} {md : Region.Mode} {k : Nat} {c : World → Prop}

/-- Whatever order is picked from here on; c holds behind every operation, until operation k has come up. -/
def wpAnyK (P : Program) (md : Region.Mode) (ops : Array Oper) (Q : Exit → Act → World → Prop) (k : Nat) (c : World → Prop) : Nat → Array Bool → Act → World → Prop
  | 0, listed, a, w => Region.ready md ops listed = [] ∧ Q .normal a w
  | fuel + 1, listed, a, w =>
    (Region.ready md ops listed = [] → Q .normal a w) ∧
    ∀ i ∈ Region.ready md ops listed, wpOp P ops Q i (fun a' w' => ((listed.setIfInBounds i true).getD k false = false → c w') ∧ wpAnyK P md ops Q k c fuel (listed.setIfInBounds i true) a' w') a w
theorem wpAny_of_K : ∀ (fuel : Nat) (listed : Array Bool) (a : Act) (w : World), wpAnyK P md ops Q k c fuel listed a w → wpAny P md ops Q fuel listed a w
  | 0, _, _, _, h => h
  | fuel + 1, _, _, _, h => ⟨h.1, fun i hi => wpOp_mono (fun a' w' h' => wpAny_of_K fuel _ a' w' h'.2) (h.2 i hi)⟩
def ClosedL (md : Region.Mode) (ops : Array Oper) (listed : Array Bool) : Prop :=
  ∀ j oj, ops[j]? = some oj → listed.getD j false = true → ∀ e ∈ oj.after, Region.binds md e = true → listed.getD e.on false = true
theorem ClosedL.set {listed : Array Bool} (h : ClosedL md ops listed) {i : Nat} (hi : i ∈ Region.ready md ops listed) : ClosedL md ops (listed.setIfInBounds i true) := by
  obtain ⟨_, oi, hoi, hall⟩ := mem_ready.1 hi
  intro j oj hj hl e he hb
  by_cases hij : i = j
  · subst hij
    have : oj = oi := Option.some.inj (hj.symm.trans hoi)
    subst this
    exact getD_set_true (hall e he hb)
  · rw [getD_set_ne false hij] at hl
    exact getD_set_true (h j oj hj hl e he hb)
theorem ClosedL.none (md : Region.Mode) (ops : Array Oper) (m : Nat) : ClosedL md ops (Array.replicate m false) := fun j _ _ hl => by
  rw [getD_replicate_false] at hl; cases hl
def closedB (md : Region.Mode) (ops : Array Oper) (listed : Array Bool) : Bool :=
  (List.range ops.size).all fun j => !listed.getD j false || ((ops[j]?).map (·.after.all fun e => !Region.binds md e || listed.getD e.on false)).getD true
theorem closedB_spec {listed : Array Bool} (h : closedB md ops listed = true) : ClosedL md ops listed := by
  intro j oj hj hl e he hb
  have hlt : j < ops.size := (Array.getElem?_eq_some_iff.1 hj).1
  have h1 := List.all_eq_true.1 h j (List.mem_range.2 hlt)
  rw [hl, hj] at h1
  simp only [Bool.not_true, Bool.false_or, Option.map_some, Option.getD_some, Array.all_eq_true_iff_forall_mem, Bool.or_eq_true, Bool.not_eq_true'] at h1
  rcases h1 e he with h2 | h2
  · rw [hb] at h2; cases h2
  · exact h2
/-- Each of the list's operations waits for the one ahead of it. -/
def pathB (md : Region.Mode) (ops : Array Oper) : Nat → List Nat → Nat → Bool
  | i, [], k => i == k
  | i, j :: r, k => Region.waitsFor md ops j i && pathB md ops j r k
theorem path_unlisted {listed : Array Bool} (hcl : ClosedL md ops listed) {k : Nat} : ∀ (r : List Nat) (i : Nat), pathB md ops i r k = true → listed.getD i false = false → listed.getD k false = false
  | [], i, h, hu => by
    have : i = k := by simpa [pathB] using h
    subst this; exact hu
  | j :: r, i, h, hu => by
    simp only [pathB, Bool.and_eq_true] at h
    obtain ⟨oj, hj, e, he, hb, hon⟩ := Region.waitsFor_spec h.1
    refine path_unlisted hcl r j h.2 ?_
    cases hl : listed.getD j false with
    | false => rfl
    | true =>
      have := hcl j oj hj hl e he hb
      rw [hon, hu] at this; cases this

theorem wpAnyK_first {i : Nat} {oi : Oper} {v : Value} {c' : World → Prop} (hi : ops[i]? = some oi) (hsel : ∀ (j : Nat) (o : Oper) cs b, ops[j]? = some o → o.op ≠ .select cs b)
    (hQ : ∀ c a w, Q (.panic c) (a.put oi.dst v) w → Q (.panic c) a w) (hik : i ≠ k)
    (hc' : ∀ (l : Array Bool) (w : World), ClosedL md ops l → l.getD i false = false → (l.getD k false = false → c w) → c' w) :
    ∀ (fuel : Nat) (listed : Array Bool) (a : Act) (w : World), ClosedL md ops listed →
      (∀ j oj, ops[j]? = some oj → j ≠ i → listed.getD j true = false → (∀ e ∈ oj.after, Region.binds md e = true → e.on ≠ i) → oi.apart ops oj = true) →
      i ∈ Region.ready md ops listed → YieldsIf P ops c' oi v a → (listed.getD k false = false → c w) →
      wpAnyK P md ops Q k c fuel (listed.setIfInBounds i true) (a.put oi.dst v) w → wpAnyK P md ops Q k c (fuel + 1) listed a w := by
  intro fuel
  induction fuel with
  | zero =>
    intro listed a w hcl _ hr hy hS H
    have hS' := hc' listed w hcl (getD_both (mem_ready.1 hr).1) hS
    refine ⟨fun h => (by rw [h] at hr; cases hr), fun j hj => ?_⟩
    by_cases hji : j = i
    · subst hji; exact hy.wpOp hi hS' ⟨fun h => hS (by rw [getD_set_ne false hik] at h; exact h), H⟩
    · have := ready_mono hj hji
      rw [H.1] at this
      cases this
  | succ fuel ih =>
    intro listed a w hcl hfree hr hy hS H
    have hS' := hc' listed w hcl (getD_both (mem_ready.1 hr).1) hS
    refine ⟨fun h => (by rw [h] at hr; cases hr), fun j hj => ?_⟩
    by_cases hji : j = i
    · subst hji; exact hy.wpOp hi hS' ⟨fun h => hS (by rw [getD_set_ne false hik] at h; exact h), H⟩
    · have h1 := H.2 j (ready_mono hj hji)
      obtain ⟨hjun, oj, hoj, hall⟩ := mem_ready.1 hj
      have hnot : ∀ e ∈ oj.after, Region.binds md e = true → e.on ≠ i := fun e he hb heq => by
        have h1 := hall e he hb
        rw [heq, getD_both (mem_ready.1 hr).1] at h1
        cases h1
      have h2 := wpOp_putIf hoj (hfree j oj hoj hji hjun hnot) (fun cs b => hsel i oi cs b hi) (fun cs b => hsel j oj cs b hoj) hQ hy h1
      have hfree' : ∀ k ok, ops[k]? = some ok → k ≠ i → (listed.setIfInBounds j true).getD k true = false →
          (∀ e ∈ ok.after, Region.binds md e = true → e.on ≠ i) → oi.apart ops ok = true := fun k ok hk hki hun hno => by
        refine hfree k ok hk hki ?_ hno
        by_cases hjk : j = k
        · subst hjk; exact hjun
        · rw [getD_set_ne true hjk] at hun; exact hun
      refine wpOp_mono (fun a' w' h3 => ?_) h2
      have hs2 : (listed.setIfInBounds j true).getD k false = false → c w' := fun h => h3.2.1 (by
        rw [Array.setIfInBounds_comm _ _ (Ne.symm hji), getD_set_ne false hik]; exact h)
      refine ⟨hs2, ih (listed.setIfInBounds j true) a' w' (hcl.set hj) hfree' (ready_mono hr (Ne.symm hji)) h3.1 hs2 ?_⟩
      rw [Array.setIfInBounds_comm _ _ hji]
      exact h3.2.2

/-- An operation that yields its value in whatever world is taken first. -/
theorem wpK_pure {i : Nat} {oi : Oper} {v : Value} {fuel : Nat} {listed : Array Bool} {a : Act} {w : World} (hi : ops[i]? = some oi)
    (hB : (Region.noSelect ops && Region.free md ops listed i && (Region.ready md ops listed).contains i && closedB md ops listed && decide (i ≠ k)) = true)
    (hQ : ∀ c a w, Q (.panic c) (a.put oi.dst v) w → Q (.panic c) a w) (hw : Region.wanted oi (yielded ops a.tmps) = true) (hy : ∀ w, (execOp a.eval oi).run P w = .ok (.value v) w) (hS : listed.getD k false = false → c w)
    (h : wpAnyK P md ops Q k c fuel (listed.setIfInBounds i true) (a.put oi.dst v) w) : wpAnyK P md ops Q k c (fuel + 1) listed a w := by
  simp only [Bool.and_eq_true, decide_eq_true_eq] at hB
  obtain ⟨⟨⟨⟨h1, h2⟩, h3⟩, h4⟩, h5⟩ := hB
  exact wpAnyK_first (c' := fun _ => True) hi (Region.noSelect_spec h1) hQ h5 (fun _ _ _ _ _ => trivial) fuel listed a w (closedB_spec h4) (Region.free_spec hi h2) (by simpa using h3) (.inl ⟨hw, fun w _ => hy w⟩) hS h
/-- A load whose cell c names, and for which operation k waits, is taken first. -/
theorem wpK_load {i : Nat} {oi : Oper} {v : Value} {fuel : Nat} {listed : Array Bool} {a : Act} {w : World} (path : List Nat) (hi : ops[i]? = some oi)
    (hB : (Region.noSelect ops && Region.free md ops listed i && (Region.ready md ops listed).contains i && closedB md ops listed && decide (i ≠ k) && pathB md ops i path k) = true)
    (hQ : ∀ c a w, Q (.panic c) (a.put oi.dst v) w → Q (.panic c) a w) (hw : Region.wanted oi (yielded ops a.tmps) = true) (hy : ∀ w, c w → (execOp a.eval oi).run P w = .ok (.value v) w) (hS : listed.getD k false = false → c w)
    (h : wpAnyK P md ops Q k c fuel (listed.setIfInBounds i true) (a.put oi.dst v) w) : wpAnyK P md ops Q k c (fuel + 1) listed a w := by
  simp only [Bool.and_eq_true, decide_eq_true_eq] at hB
  obtain ⟨⟨⟨⟨⟨h1, h2⟩, h3⟩, h4⟩, h5⟩, h6⟩ := hB
  exact wpAnyK_first (c' := c) hi (Region.noSelect_spec h1) hQ h5 (fun l w hcl hu hs => hs (path_unlisted hcl path i h6 hu)) fuel listed a w (closedB_spec h4) (Region.free_spec hi h2) (by simpa using h3) (.inl ⟨hw, hy⟩) hS h
/-- Each of the operations rs comes up next. -/
def AllK (P : Program) (md : Region.Mode) (ops : Array Oper) (Q : Exit → Act → World → Prop) (k : Nat) (c : World → Prop) (fuel : Nat) (listed : Array Bool) (a : Act) (w : World) (rs : List Nat) : Prop :=
  ∀ i ∈ rs, wpOp P ops Q i (fun a' w' => ((listed.setIfInBounds i true).getD k false = false → c w') ∧ wpAnyK P md ops Q k c fuel (listed.setIfInBounds i true) a' w') a w
theorem AllK.nil {fuel : Nat} {listed : Array Bool} {a : Act} {w : World} : AllK P md ops Q k c fuel listed a w [] := fun _ h => by cases h
theorem AllK.cons {fuel : Nat} {listed : Array Bool} {a : Act} {w : World} {i : Nat} {o : Oper} {rs : List Nat} (ho : ops[i]? = some o)
    (h : ∀ K' : Act → World → Prop, Shut (∀ a w, ((listed.setIfInBounds i true).getD k false = false → c w) → (((listed.setIfInBounds i true).getD k false = false → c w) → wpAnyK P md ops Q k c fuel (listed.setIfInBounds i true) a w) → K' a w) → if Region.wanted o (yielded ops a.tmps) = true then Oper.wp P o a w K' Q else K' (a.put o.dst undef) w)
    (hs : AllK P md ops Q k c fuel listed a w rs) : AllK P md ops Q k c fuel listed a w (i :: rs) := fun j hj => by
  rcases List.mem_cons.1 hj with rfl | hj
  · exact wpOp_step ho (fun K' hK => h K' (fun a w hS hW => hK a w ⟨hS, hW hS⟩))
  · exact hs j hj
theorem wpK_ready {fuel : Nat} {listed : Array Bool} {a : Act} {w : World} (rs : List Nat) (hr : Region.ready md ops listed = rs) (hne : rs ≠ [])
    (h : AllK P md ops Q k c fuel listed a w rs) : wpAnyK P md ops Q k c (fuel + 1) listed a w :=
  ⟨fun h0 => absurd (hr ▸ h0) hne, hr ▸ h⟩
theorem wpK_done {listed : Array Bool} {a : Act} {w : World} (hr : Region.ready md ops listed = []) (h : Q .normal a w) : ∀ fuel, wpAnyK P md ops Q k c fuel listed a w
  | 0 => ⟨hr, h⟩
  | _ + 1 => ⟨fun _ => h, by rw [hr]; simp⟩
theorem wp_region_K (k : Nat) (c : World → Prop) {id : Nat} {a : Act} {w : World} (hm : P.follows .mixedOrders = true) (hS : c w.drew)
    (h : c w.drew → wpAnyK P .any ops Q k c ops.size (Array.replicate ops.size false) a w.drew) : (Code.region id ops true).wp P Q a w :=
  wp_region_any hm (wpAny_of_K _ _ _ _ (h hS))
end
end Go.Proofs.YtlcchcbeebakpaaDoor
namespace Go.Proofs.YtlcchcbeebakpaaDoor
open Go.RowKit

abbrev reduN : List ByteArray := [⟨#[65, 103, 101]⟩, ⟨#[67, 97, 99, 104, 101, 45, 67, 111, 110, 116, 114, 111, 108]⟩, ⟨#[67, 111, 110, 116, 101, 110, 116, 45, 76, 111, 99, 97, 116, 105, 111, 110]⟩, ⟨#[68, 97, 116, 101]⟩, ⟨#[69, 84, 97, 103]⟩, ⟨#[69, 120, 112, 105, 114, 101, 115]⟩, ⟨#[76, 97, 115, 116, 45, 77, 111, 100, 105, 102, 105, 101, 100]⟩, ⟨#[86, 97, 114, 105, 97, 110, 116, 115]⟩, ⟨#[86, 97, 114, 105, 97, 110, 116, 45, 75, 101, 121]⟩, ⟨#[86, 97, 114, 121]⟩, ⟨#[86, 105, 97]⟩]
abbrev notMod : ByteArray := ⟨#[78, 111, 116, 32, 77, 111, 100, 105, 102, 105, 101, 100]⟩
def keptB (x : Fd) : Bool := oneB (bs x.1) (reduN.map bs)
theorem take_keep {xs : List Fd} {k : Nat} {x : Fd} (hx : xs[k]? = some x) (h : keptB x = true) : (xs.take (k + 1)).filter keptB = (xs.take k).filter keptB ++ [x] := by
  obtain ⟨hk, he⟩ := List.getElem?_eq_some_iff.1 hx
  rw [List.take_succ_eq_append_getElem hk, List.filter_append, he, List.filter_cons_of_pos h]; rfl
theorem take_skip {xs : List Fd} {k : Nat} {x : Fd} (hx : xs[k]? = some x) (h : keptB x = false) : (xs.take (k + 1)).filter keptB = (xs.take k).filter keptB := by
  obtain ⟨hk, he⟩ := List.getElem?_eq_some_iff.1 hx
  rw [List.take_succ_eq_append_getElem hk, List.filter_append, he, List.filter_cons_of_neg (by rw [h]; simp)]; simp
abbrev reduC (m : Int) (v : Value) : List Value := [.int .i64 m, .int .i64 304, .string notMod, v, .string ⟨#[]⟩]
abbrev zeroC : List Value := [.int .i64 0, .int .i64 0, .string ⟨#[]⟩, .slice none 0 0, .string ⟨#[]⟩]
theorem three_rows (w : World) (X Y Z : List Value) (T : TypeId) : RowAt (((w.alloc (.cells X.toArray T)).alloc (.cells Y.toArray T)).alloc (.cells Z.toArray T)) (w.heap.size + 1) T Y ∧ RowAt (((w.alloc (.cells X.toArray T)).alloc (.cells Y.toArray T)).alloc (.cells Z.toArray T)) (w.heap.size + 1 + 1) T Z ∧
    Below w.heap.size w (((w.alloc (.cells X.toArray T)).alloc (.cells Y.toArray T)).alloc (.cells Z.toArray T)) ∧ w.heap.size + 1 + 1 + 1 ≤ (((w.alloc (.cells X.toArray T)).alloc (.cells Y.toArray T)).alloc (.cells Z.toArray T)).heap.size := by
  have h2 := RowAt.new (w.alloc (.cells X.toArray T)) Y T
  have h3 := RowAt.new ((w.alloc (.cells X.toArray T)).alloc (.cells Y.toArray T)) Z T
  have hs : (w.alloc (.cells X.toArray T)).heap.size = w.heap.size + 1 := Array.size_push _
  have hs2 : ((w.alloc (.cells X.toArray T)).alloc (.cells Y.toArray T)).heap.size = w.heap.size + 1 + 1 := (Array.size_push _).trans (by rw [hs])
  rw [hs] at h2
  rw [hs2] at h3
  exact ⟨h2.alloc _, h3, ((alloc_b w _).alloc (by omega) _).alloc (by omega) _, Nat.le_of_eq ((Array.size_push _).trans (by rw [hs2])).symm⟩
theorem reduN_z : ∀ x ∈ reduN, x.size ≤ 100000 := by decide
theorem reduA_eq : (reduN.map Value.string).toArray = #[.string ⟨#[65, 103, 101]⟩, .string ⟨#[67, 97, 99, 104, 101, 45, 67, 111, 110, 116, 114, 111, 108]⟩, .string ⟨#[67, 111, 110, 116, 101, 110, 116, 45, 76, 111, 99, 97, 116, 105, 111, 110]⟩, .string ⟨#[68, 97, 116, 101]⟩, .string ⟨#[69, 84, 97, 103]⟩, .string ⟨#[69, 120, 112, 105, 114, 101, 115]⟩, .string ⟨#[76, 97, 115, 116, 45, 77, 111, 100, 105, 102, 105, 101, 100]⟩, .string ⟨#[86, 97, 114, 105, 97, 110, 116, 115]⟩, .string ⟨#[86, 97, 114, 105, 97, 110, 116, 45, 75, 101, 121]⟩, .string ⟨#[86, 97, 114, 121]⟩, .string ⟨#[86, 105, 97]⟩] := rfl
set_option maxRecDepth 100000 in
theorem one_redu (s : ByteArray) (cs : List Value) (T : TypeId) (wr : World) (hs : s.size ≤ 100000) :
    Calls Tryd.prog 75 #[.string s, .slice (some ⟨wr.heap.size + 1, 0, none⟩) 11 11] ((wr.alloc (.cells cs.toArray T)).alloc (.cells #[.string ⟨#[65, 103, 101]⟩, .string ⟨#[67, 97, 99, 104, 101, 45, 67, 111, 110, 116, 114, 111, 108]⟩, .string ⟨#[67, 111, 110, 116, 101, 110, 116, 45, 76, 111, 99, 97, 116, 105, 111, 110]⟩, .string ⟨#[68, 97, 116, 101]⟩, .string ⟨#[69, 84, 97, 103]⟩, .string ⟨#[69, 120, 112, 105, 114, 101, 115]⟩, .string ⟨#[76, 97, 115, 116, 45, 77, 111, 100, 105, 102, 105, 101, 100]⟩, .string ⟨#[86, 97, 114, 105, 97, 110, 116, 115]⟩, .string ⟨#[86, 97, 114, 105, 97, 110, 116, 45, 75, 101, 121]⟩, .string ⟨#[86, 97, 114, 121]⟩, .string ⟨#[86, 105, 97]⟩] 9)) fun e w' => e = .returned (.bool (oneB (bs s) (reduN.map bs))) ∧ Below wr.heap.size wr w' ∧ RowAt w' wr.heap.size T cs := by
  have h := one_any s (some ⟨(wr.alloc (.cells cs.toArray T)).heap.size, 0, none⟩) reduN 11 ((wr.alloc (.cells cs.toArray T)).alloc (.cells (reduN.map Value.string).toArray 9)) hs reduN_z (by decide) (StrO.new (wr.alloc (.cells cs.toArray T)) reduN)
  have hz : (wr.alloc (.cells cs.toArray T)).heap.size = wr.heap.size + 1 := Array.size_push _
  rw [hz, reduA_eq, show reduN.length = 11 from rfl] at h
  exact h.mono fun e w' ⟨h1, h2⟩ => ⟨h1, step_b (step_b (alloc_b wr _) (alloc_b _ _)) h2, ((RowAt.new wr cs T).alloc _).below h2⟩
set_option maxHeartbeats 6400000 in
set_option maxRecDepth 100000 in
theorem reduce_any (m st : Int) (rs : ByteArray) (oa : Option Addr) (xs : List Fd) (cap : Nat) (bd : ByteArray) (w : World) (hn : xs.length ≤ 70) (hz : FldZ xs 300) (hc : FldO w oa xs) :
    Calls Tryd.prog 43 #[respV m st rs oa xs.length cap bd] w fun e w' => ∃ (ob : Option Addr) (cb : Nat), e = .returned (respV m 304 notMod ob (xs.filter keptB).length cb ⟨#[]⟩) ∧ FldO w' ob (xs.filter keptB) ∧ Below w.heap.size w w' := by
  have RR := Lib.hid (three_rows w (respC m st rs oa xs.length cap bd) zeroC (reduC m (.slice none 0 0)) 42)
  have HC := Lib.hid hc
  have HZ := Lib.hid hz
  clear hc hz
  go_enter Tryd.func43, Tryd.ntmps43
  go_wp2_with fail
  go_loopw [12] (fun j wr => ∃ (k : Nat) (ys : List Fd) (v : Value), k ≤ xs.length ∧ j = .int .i64 k ∧ Hid (ys = (xs.take k).filter keptB) ∧ ys.length ≤ k ∧ FBuf wr (w.heap.size + 1 + 1 + 1) v ys ∧ RowAt wr (w.heap.size + 1) 42 zeroC ∧ RowAt wr (w.heap.size + 1 + 1) 42 (reduC m v) ∧ Below w.heap.size w wr ∧ w.heap.size + 1 + 1 + 1 ≤ wr.heap.size) (fun j _ => xs.length - (intOf j).toNat)
  case atStart => exact ⟨0, [], .slice none 0 0, by omega, rfl, Lib.hid rfl, by simp, FBuf.nil_ _ _, RR.out.1, RR.out.2.1, RR.out.2.2.1, RR.out.2.2.2⟩
  case round =>
    obtain ⟨k, ys, v, hk, rfl, HY, hyl, FB, R2, R3, hb, hz⟩ := hrel
    by_cases hlt : k < xs.length
    · obtain ⟨x, hx⟩ : ∃ x, xs[k]? = some x := ⟨_, List.getElem?_eq_getElem hlt⟩
      obtain ⟨ad, rfl, c0, c1⟩ := (HC.out.down hb).at hx
      have zx := (HZ.out x (List.mem_of_getElem? hx)).1
      have hl10 : ys.length + 1 ≤ 1000000 := by omega
      cases hkp : keptB x with
      | true =>
        have HK : Hid (oneB (bs x.1) (reduN.map bs) = true) := Lib.hid hkp
        have HS := Lib.hid (take_keep hx hkp)
        clear hx hkp
        go_wp2_with fail
        refine (one_redu x.1 [.string x.1, .string x.2] 35 wr (by omega)).mono ?_
        rintro e w4 ⟨rfl, bb, F4⟩
        rw [HK.out]
        have R24 := R2.below bb
        have R34 := R3.below bb
        have FB4 := FB.below bb (Nat.le_refl _)
        have b4 := step_b hb bb
        have z4 := Nat.le_trans hz bb.size
        clear bb R2 R3 FB hb hz c0 c1
        have e3 := R34.cell 3 rfl
        have e0 := F4.cell 0 rfl
        have e1 := F4.cell 1 rfl
        go_wp2_with (at_builtin; refine wpList_append_fld rfl (.tmp 21) (.tmp 23) rfl w4 _ (w.heap.size + 1 + 1 + 1) _ ys rfl (FB4.alloc _) ((Below.refl _ _).alloc z4 _) (le_alloc z4 _) ⟨w4.heap.size, 0, none⟩ x rfl (new_f0 w4 x _) (new_f1 w4 x _) hl10 ?_)
        intro v5 w5 FB5 hb5 z5
        obtain ⟨o5, c5, rfl, _⟩ := FB5.shape
        rw [List.length_append, List.length_singleton] at FB5
        have R25 := R24.belowB hb5 (by omega)
        have R35 := R34.belowB hb5 (by omega)
        have b5 := b4.trans (hb5.mono (by omega))
        have g3 := R35.cell 3 rfl
        have f3 := R35.free 3
        clear FB4 R24 R34 F4 b4 z4 e3 e0 e1 hb5
        go_wp2_with fail
        go_roundw
        case rel => exact ⟨k + 1, ys ++ [x], (.slice o5 (ys.length + 1) c5), by omega, by go_num, Lib.hid (by rw [HS.out, HY.out]), by simp; omega, FB5.set (by omega) (.slice o5 (ys.length + 1) c5), R25.setOther (by omega) 3 (.slice o5 (ys.length + 1) c5), R35.set 3 (.slice o5 (ys.length + 1) c5), b5.setCell (p := ⟨w.heap.size + 1 + 1, 3, none⟩) (by show w.heap.size ≤ w.heap.size + 1 + 1; omega) (.slice o5 (ys.length + 1) c5), by simpa using z5⟩
        case measure => simp [intOf]; omega
      | false =>
        have HK : Hid (oneB (bs x.1) (reduN.map bs) = false) := Lib.hid hkp
        have HS := Lib.hid (take_skip hx hkp)
        clear hx hkp
        go_wp2_with fail
        refine (one_redu x.1 [.string x.1, .string x.2] 35 wr (by omega)).mono ?_
        rintro e w4 ⟨rfl, bb, F4⟩
        rw [HK.out]
        have R24 := R2.below bb
        have R34 := R3.below bb
        have FB4 := FB.below bb (Nat.le_refl _)
        have b4 := step_b hb bb
        have z4 := Nat.le_trans hz bb.size
        clear bb R2 R3 FB hb hz c0 c1
        go_wp2_with fail
        go_roundw
        case rel => exact ⟨k + 1, ys, v, by omega, by go_num, Lib.hid (by rw [HS.out]; exact HY.out), by omega, FB4, R24, R34, b4, z4⟩
        case measure => simp [intOf]; omega
    · have HF : Hid (xs.filter keptB = ys) := Lib.hid (by rw [HY.out, List.take_of_length_le (by omega)])
      obtain ⟨ob, cb, rfl, _⟩ := FB.shape
      go_wp2_with (first | (refine wpList_load_rowAt rfl _ 42 (.tmp 3) rfl (w.heap.size + 1 + 1) 42 (reduC m (.slice ob ys.length cb)) R3 rfl _ Tryd.underlying42 resp_size ?_) | (refine wpList_store_row rfl _ 42 (.tmp 2) (.tmp 27) rfl (w.heap.size + 1) 42 zeroC (reduC m (.slice ob ys.length cb)) R2 rfl rfl rfl resp_size (by intro u hu; simp at hu; rcases hu with rfl | rfl | rfl | rfl | rfl <;> rfl) ?_; intro w5 R5 f1 f2 f3))
      refine bodyPost_ret (results_row1 rfl _ _ (w.heap.size + 1) 42 (reduC m (.slice ob ys.length cb)) R5 rfl _ Tryd.underlying42 resp_size) rfl ?_
      rw [HF.out]
      exact ⟨ob, cb, rfl, (FB.others (by omega) f2).fld, hb.trans (f1 _ (Nat.le_succ _))⟩
end Go.Proofs.YtlcchcbeebakpaaDoor
namespace Go.Proofs.YtlcchcbeebakpaaDoor
open Go.RowKit Go.Shelf

def condB (xs : List Fd) : Bool := decide (0 < (getF (bs nINM) xs).length) || decide (0 < (getF (bs nIMS) xs).length)
set_option maxHeartbeats 800000 in
theorem conditional_any (m tg : ByteArray) (mn : Int) (oa : Option Addr) (xs : List Fd) (cap : Nat) (bd : ByteArray) (w : World) (hn : xs.length ≤ 100000) (hz : FldZ xs 100000) (hc : FldO w oa xs) :
    Calls Tryd.prog 39 #[reqV m tg mn oa xs.length cap bd] w fun e w' => e = .returned (.bool (condB xs)) ∧ Below w.heap.size w w' := by
  have b0 := alloc_b w (.cells (reqC m tg mn oa xs.length cap bd).toArray 54)
  have R := RowAt.new w (reqC m tg mn oa xs.length cap bd) 54
  have HC := Lib.hid (hc.down b0)
  have HZ := Lib.hid hz
  clear hc hz
  cases h1 : decide (0 < (getF (bs nINM) xs).length) with
  | true =>
    have HD := Lib.hid h1
    clear h1
    go_enter Tryd.func39, Tryd.ntmps39
    go_wp2_with fail
    refine (has_any oa xs cap nINM _ (by decide) hn HZ.out HC.out).mono ?_
    rintro e w1 ⟨rfl, hb1⟩
    rw [HD.out]
    go_wp2_with fail
    go_ret
    exact ⟨ret_bool (by unfold condB; rw [HD.out]; rfl), step_b b0 hb1⟩
  | false =>
    have HD := Lib.hid h1
    clear h1
    go_enter Tryd.func39, Tryd.ntmps39
    go_wp2_with fail
    refine (has_any oa xs cap nINM _ (by decide) hn HZ.out HC.out).mono ?_
    rintro e w1 ⟨rfl, hb1⟩
    rw [HD.out]
    have R1 := R.below hb1
    have c3 := R1.cell 3 rfl
    have HC1 := Lib.hid (HC.out.down hb1)
    clear R R1
    go_wp2_with fail
    refine (has_any oa xs cap nIMS _ (by decide) hn HZ.out HC1.out).mono ?_
    rintro e w2 ⟨rfl, hb2⟩
    go_wp2_with fail
    go_ret
    exact ⟨ret_bool (by unfold condB; rw [HD.out]; rfl), step_b (step_b b0 hb1) hb2⟩
theorem FldO.new1 (w : World) (x : Fd) (t : TypeId) : FldO (w.alloc (.cells #[.string x.1, .string x.2] t)) (some ⟨w.heap.size, 0, none⟩) [x] := fun i y hy => by
  match i, hy with
  | 0, hy =>
    have hx : x = y := by simpa using hy
    subst hx
    exact ⟨_, rfl, new_f0 w x t, new_f1 w x t⟩
theorem valid_one : validL [(nINM, ⟨#[34, 98, 34]⟩)] [(nETag, ⟨#[34, 97, 34]⟩)] = [(nINM, ⟨#[34, 97, 34]⟩)] := by decide +kernel
theorem condB_one : condB [(nINM, ⟨#[34, 98, 34]⟩)] = true := by decide +kernel
abbrev gET : ByteArray := ⟨#[71, 69, 84]⟩
set_option maxHeartbeats 3200000 in
set_option maxRecDepth 100000 in
theorem awake31_any (w : World) :
    Calls Tryd.prog 40 #[] w fun e w' => e = .returned (.bool true) ∧ Below w.heap.size w w' := by
  have a1 := FldO.new1 w (nINM, ⟨#[34, 98, 34]⟩) 35
  have q0 := RowAt.new (w.alloc (.cells #[.string nINM, .string ⟨#[34, 98, 34]⟩] 35)) (reqC gET ⟨#[]⟩ 0 (some ⟨w.heap.size, 0, none⟩) 1 1 ⟨#[]⟩) 54
  have s1 : (w.alloc (.cells #[.string nINM, .string ⟨#[34, 98, 34]⟩] 35)).heap.size = w.heap.size + 1 := Array.size_push _
  have s2 : ((w.alloc (.cells #[.string nINM, .string ⟨#[34, 98, 34]⟩] 35)).alloc (.cells (reqC gET ⟨#[]⟩ 0 (some ⟨w.heap.size, 0, none⟩) 1 1 ⟨#[]⟩).toArray 54)).heap.size = w.heap.size + 1 + 1 := (Array.size_push _).trans (by rw [s1])
  have b1 := alloc_b w (.cells #[.string nINM, .string ⟨#[34, 98, 34]⟩] 35)
  have b2 := step_b b1 (alloc_b _ (.cells (reqC gET ⟨#[]⟩ 0 (some ⟨w.heap.size, 0, none⟩) 1 1 ⟨#[]⟩).toArray 54))
  have b3 := step_b b2 (alloc_b _ (.cells #[.string nETag, .string ⟨#[34, 97, 34]⟩] 35))
  have a3 := (a1.down (alloc_b _ (.cells (reqC gET ⟨#[]⟩ 0 (some ⟨w.heap.size, 0, none⟩) 1 1 ⟨#[]⟩).toArray 54))).down (alloc_b _ (.cells #[.string nETag, .string ⟨#[34, 97, 34]⟩] 35))
  have e3 := FldO.new1 ((w.alloc (.cells #[.string nINM, .string ⟨#[34, 98, 34]⟩] 35)).alloc (.cells (reqC gET ⟨#[]⟩ 0 (some ⟨w.heap.size, 0, none⟩) 1 1 ⟨#[]⟩).toArray 54)) (nETag, ⟨#[34, 97, 34]⟩) 35
  have q3 := q0.alloc (.cells #[.string nETag, .string ⟨#[34, 97, 34]⟩] 35)
  rw [s2] at e3
  rw [s1] at q3
  have HV := Lib.hid (valid_any gET ⟨#[]⟩ 0 (some ⟨w.heap.size, 0, none⟩) [(nINM, ⟨#[34, 98, 34]⟩)] 1 ⟨#[]⟩ (.slice none 0 0) (.slice none 0 0) (.slice none 0 0) ⟨#[]⟩ (some ⟨w.heap.size + 1 + 1, 0, none⟩) [(nETag, ⟨#[34, 97, 34]⟩)] 1 ⟨#[]⟩ 0 0 _ (by decide) (by intro x hx; simp at hx; subst hx; decide) a3 (by decide) (by intro x hx; simp at hx; subst hx; decide) e3)
  have A3 := Lib.hid a3
  clear a1 q0 s1 s2 b1 b2 a3 e3
  rw [valid_one] at HV
  go_enter Tryd.func40, Tryd.ntmps40
  go_wp2_with fail
  refine HV.out.mono ?_
  rintro e w1 ⟨ob, cb, rfl, FB1, hb1⟩
  obtain ⟨oa', cap', ev, FO⟩ := FB1.shape
  cases ev
  obtain ⟨ad, rfl, c0, c1⟩ := FO.at (i := 0) (x := (nINM, ⟨#[34, 97, 34]⟩)) rfl
  rw [show ad.add (0 * 2) = ad from by unfold Addr.add; simp] at c1
  have q1 := q3.below hb1
  have A1 := Lib.hid (A3.out.down hb1)
  have b4 := step_b b3 hb1
  clear HV FB1 q3 A3 b3 hb1 FO c0
  have q1' := q1.alloc (.cells (reqC gET ⟨#[]⟩ 0 (some ad) 1 cb ⟨#[]⟩).toArray 54)
  have n1 := RowAt.new w1 (reqC gET ⟨#[]⟩ 0 (some ad) 1 cb ⟨#[]⟩) 54
  have c3 := n1.cell 3 rfl
  have c1' := ((alloc_b w1 (.cells (reqC gET ⟨#[]⟩ 0 (some ad) 1 cb ⟨#[]⟩).toArray 54)).cell (cell_lt c1)).trans c1
  have A2 := Lib.hid (A1.out.down (alloc_b w1 (.cells (reqC gET ⟨#[]⟩ 0 (some ad) 1 cb ⟨#[]⟩).toArray 54)))
  have b5 := step_b b4 (alloc_b w1 (.cells (reqC gET ⟨#[]⟩ 0 (some ad) 1 cb ⟨#[]⟩).toArray 54))
  clear q1 n1 c1 A1 b4
  have k0 := q1'.cell 0 rfl
  have k1 := q1'.cell 1 rfl
  have k2 := q1'.cell 2 rfl
  have k3 := q1'.cell 3 rfl
  have k4 := q1'.cell 4 rfl
  clear q1'
  go_wp2_with fail
  refine (conditional_any gET ⟨#[]⟩ 0 (some ⟨w.heap.size, 0, none⟩) [(nINM, ⟨#[34, 98, 34]⟩)] 1 ⟨#[]⟩ _ (by decide) (by intro x hx; simp at hx; subst hx; decide) A2.out).mono ?_
  rintro e w2 ⟨rfl, hb2⟩
  rw [condB_one]
  go_wp2_with fail
  go_ret
  exact ⟨rfl, step_b b5 hb2⟩
set_option maxHeartbeats 1600000 in
theorem sameResp_any (m st : Int) (rs : ByteArray) (oa : Option Addr) (xs : List Fd) (ca : Nat) (ob : Option Addr) (cb : Nat) (bd : ByteArray) (w : World) (hn : xs.length ≤ 1000000) (ha : FldO w oa xs) (hb : FldO w ob xs) :
    Calls Tryd.prog 42 #[respV m st rs oa xs.length ca bd, respV m st rs ob xs.length cb bd] w fun e w' => e = .returned (.bool true) ∧ Below w.heap.size w w' := by
  have b2 := step_b (alloc_b w (.cells (respC m st rs oa xs.length ca bd).toArray 42)) (alloc_b _ (.cells (respC m st rs ob xs.length cb bd).toArray 42))
  have R1 := (RowAt.new w (respC m st rs oa xs.length ca bd) 42).alloc (.cells (respC m st rs ob xs.length cb bd).toArray 42)
  have R2 := RowAt.new (w.alloc (.cells (respC m st rs oa xs.length ca bd).toArray 42)) (respC m st rs ob xs.length cb bd) 42
  rw [show (w.alloc (.cells (respC m st rs oa xs.length ca bd).toArray 42)).heap.size = w.heap.size + 1 from Array.size_push _] at R2
  have HS := Lib.hid (sameFields_any oa ob xs ca cb _ hn ((ha.down (alloc_b w (.cells (respC m st rs oa xs.length ca bd).toArray 42))).down (alloc_b _ (.cells (respC m st rs ob xs.length cb bd).toArray 42))) ((hb.down (alloc_b w (.cells (respC m st rs oa xs.length ca bd).toArray 42))).down (alloc_b _ (.cells (respC m st rs ob xs.length cb bd).toArray 42))))
  clear ha hb
  go_enter Tryd.func42, Tryd.ntmps42
  go_wp2_with fail
  refine HS.out.mono ?_
  rintro e w1 ⟨rfl, hb1⟩
  have c1 := (R1.below hb1).cell 4 rfl
  have c2 := (R2.below hb1).cell 4 rfl
  have b3 := step_b b2 hb1
  clear R1 R2 HS hb1 b2
  go_wp2_with fail
  go_ret
  exact ⟨rfl, b3⟩
end Go.Proofs.YtlcchcbeebakpaaDoor
namespace Go.Proofs.YtlcchcbeebakpaaDoor
open Go.RowKit

theorem months_test (s : ByteArray) (k : Nat) (hk : k < 12) : (((⟨#[74, 97, 110, 70, 101, 98, 77, 97, 114, 65, 112, 114, 77, 97, 121, 74, 117, 110, 74, 117, 108, 65, 117, 103, 83, 101, 112, 79, 99, 116, 78, 111, 118, 68, 101, 99]⟩ : ByteArray).extract (3 * k) (3 * k + 3)).toList == (s.extract 8 11).toList) = decide (nameFrom monthS (bs (s.extract 8 11)) 12 0 = k) := by
  rw [Lib.toList_data, Lib.toList_data]
  exact (congrArg (fun l => l == bs (s.extract 8 11)) (monthsT_at k hk)).trans (month_iff _ k hk)
theorem wdays_test (s : ByteArray) (k : Nat) (hk : k < 7) : (((⟨#[84, 104, 117, 70, 114, 105, 83, 97, 116, 83, 117, 110, 77, 111, 110, 84, 117, 101, 87, 101, 100]⟩ : ByteArray).extract (3 * k) (3 * k + 3)).toList == (s.extract 0 3).toList) = decide (nameFrom wdayS (bs (s.extract 0 3)) 7 0 = ((k + 3) % 7 : Nat)) := by
  rw [Lib.toList_data, Lib.toList_data]
  exact (congrArg (fun l => l == bs (s.extract 0 3)) (wdaysT_at k hk)).trans (wday_iff _ _ (by omega))

set_option maxRecDepth 100000 in
set_option maxHeartbeats 1600000 in
theorem rparse_core (s : ByteArray) (w : World) (h : s.size = 29) (h1 : (s.extract 3 5).toList = [44, 32]) (h2 : (s[7].toNat : Int) = 32) (h3 : (s[11].toNat : Int) = 32) (h4 : (s[16].toNat : Int) = 32) (h5 : (s[19].toNat : Int) = 58) (h6 : (s[22].toNat : Int) = 58) (h7 : (s.extract 25 29).toList = [32, 71, 77, 84])
    (a0 a1 a2 a3 a4 : Int) (ha2 : 0 ≤ a2 ∧ a2 ≤ 2147483647) (ha3 : 0 ≤ a3 ∧ a3 ≤ 2147483647) (ha4 : 0 ≤ a4 ∧ a4 ≤ 2147483647) (b0 b1 b2 b3 b4 : Bool) (n0 : numV (bs (s.extract 5 7)) = .tuple #[.int .i64 a0, .bool b0]) (n1 : numV (bs (s.extract 12 16)) = .tuple #[.int .i64 a1, .bool b1]) (n2 : numV (bs (s.extract 17 19)) = .tuple #[.int .i64 a2, .bool b2])
    (n3 : numV (bs (s.extract 20 22)) = .tuple #[.int .i64 a3, .bool b3]) (n4 : numV (bs (s.extract 23 25)) = .tuple #[.int .i64 a4, .bool b4]) :
    Calls Tryd.prog 74 #[.string s] w fun e w' => e = .returned (dateV (if b0 && b1 && b2 && b3 && b4 then secs a0 a1 a2 a3 a4 (nameFrom monthS (bs (s.extract 8 11)) 12 0 + 1) (nameFrom wdayS (bs (s.extract 0 3)) 7 0) else none)) ∧ Below w.heap.size w w' := by
  obtain ⟨nm, hnm⟩ : ∃ nm, nameFrom monthS (bs (s.extract 8 11)) 12 0 = nm := ⟨_, rfl⟩
  have hm : -1 ≤ nm ∧ nm < 12 := by rw [← hnm]; exact nameFrom_bd monthS (bs (s.extract 8 11)) 12 0
  have Hnm := Lib.hid hnm
  clear hnm
  go_enter Tryd.func74, Tryd.ntmps74
  go_wp2_with fail
  refine (digits_any s 5 2 7 _ _ _ rfl rfl rfl (by omega) (by omega)).mono ?_
  rintro e w' ⟨rfl, rfl⟩
  go_wp2_with fail
  refine (digits_any s 12 4 16 _ _ _ rfl rfl rfl (by omega) (by omega)).mono ?_
  rintro e w' ⟨rfl, rfl⟩
  go_wp2_with fail
  refine (digits_any s 17 2 19 _ _ _ rfl rfl rfl (by omega) (by omega)).mono ?_
  rintro e w' ⟨rfl, rfl⟩
  go_wp2_with fail
  refine (digits_any s 20 2 22 _ _ _ rfl rfl rfl (by omega) (by omega)).mono ?_
  rintro e w' ⟨rfl, rfl⟩
  go_wp2_with fail
  refine (digits_any s 23 2 25 _ _ _ rfl rfl rfl (by omega) (by omega)).mono ?_
  rintro e w' ⟨rfl, rfl⟩
  go_wp2_with fail
  go_loopw [14, 15] (fun mo x wr => ∃ (k n : Nat) (mv : Int), k ≤ 12 ∧ x = .int .i64 k ∧ mo = .int .i64 mv ∧ Hid (mv = if nm < k then nm + 1 else 0) ∧ wr = w.drewN n) (fun _ x _ => 12 - (intOf x).toNat)
  case atStart => exact ⟨0, 0, 0, by omega, rfl, rfl, Lib.hid (by split <;> omega), rfl⟩
  case round =>
    obtain ⟨k, n, mv, hk, rfl, rfl, Hmv, rfl⟩ := hrel
    by_cases hlt : k < 12
    · have e1 : IntKind.i64.wrap (3 * (k : Int)) = 3 * k := IntWalk.i64_in _ (by omega)
      have e2 : IntKind.i64.wrap (3 * (k : Int) + 3) = 3 * k + 3 := IntWalk.i64_in _ (by omega)
      have e3 : (3 * (k : Int)).toNat = 3 * k := by omega
      have e4 : (3 * (k : Int) + 3).toNat = 3 * k + 3 := by omega
      have e5 : 0 ≤ 3 * (k : Int) := by omega
      have e6 : 3 * (k : Int) + 3 ≤ 36 := by omega
      have ht := months_test s k hlt
      rw [Hnm.out] at ht
      have hlt' : (k : Int) < 12 := by omega
      cases hb : decide (nm = (k : Int)) with
      | true =>
        rw [hb] at ht
        have Hb := Lib.hid (of_decide_eq_true hb)
        clear hb
        go_wp2_with fail
        go_quiet (fail)
        go_wp2_with fail
        go_roundw
        case rel => exact ⟨k + 1, n + nq, k + 1, by omega, by go_num, rfl, Lib.hid (by have := Hb.out; rw [if_pos (by omega)]; omega), rfl⟩
        case measure => simp [intOf]; omega
      | false =>
        rw [hb] at ht
        have Hb := Lib.hid (of_decide_eq_false hb)
        clear hb
        go_wp2_with fail
        go_quiet (fail)
        go_wp2_with fail
        go_roundw
        case rel => exact ⟨k + 1, n + nq, mv, by omega, by go_num, rfl, Lib.hid (by have := Hb.out; rw [Hmv.out]; split <;> split <;> omega), rfl⟩
        case measure => simp [intOf]; omega
    · obtain rfl : k = 12 := by omega
      obtain rfl : mv = nm + 1 := by have e := Hmv.out; have hx : nm < ((12 : Nat) : Int) := hm.2; rw [if_pos hx] at e; exact e
      clear Hmv
      obtain ⟨dn, hdn⟩ : ∃ dn, days a1 (nm + 1) a0 = dn := ⟨_, rfl⟩
      obtain ⟨wi, hwi⟩ : ∃ wi, nameFrom wdayS (bs (s.extract 0 3)) 7 0 = wi := ⟨_, rfl⟩
      have H : Hid (secs a0 a1 a2 a3 a4 (nameFrom monthS (bs (s.extract 8 11)) 12 0 + 1) (nameFrom wdayS (bs (s.extract 0 3)) 7 0) = if dn < 0 ∨ 23 < a2 ∨ 59 < a3 ∨ 59 < a4 ∨ wi ≠ (dn + 3) % 7 then none else some (dn * 86400 + (a2 * 3600 + a3 * 60 + a4))) := Lib.hid (by rw [Hnm.out, hwi, ← hdn]; rfl)
      have hdb := days_bd a1 (nm + 1) a0
      rw [hdn] at hdb
      have Hwi := Lib.hid hwi
      clear hwi
      go_wp2_with fail
      refine (rdays_any _ _ _ _).mono ?_
      rintro e w' ⟨rfl, rfl⟩
      go_wp2_with fail
      cases b0
      · go_quiet (fail)
        go_wp2_with fail
        go_ret2
        exact ⟨rfl, below_drewN (Below.refl _ _) _⟩
      cases b1
      · go_quiet (fail)
        go_wp2_with fail
        go_ret2
        exact ⟨rfl, below_drewN (Below.refl _ _) _⟩
      cases b2
      · go_quiet (fail)
        go_wp2_with fail
        go_ret2
        exact ⟨rfl, below_drewN (Below.refl _ _) _⟩
      cases b3
      · go_quiet (fail)
        go_wp2_with fail
        go_ret2
        exact ⟨rfl, below_drewN (Below.refl _ _) _⟩
      cases b4
      · go_quiet (fail)
        go_wp2_with fail
        go_ret2
        exact ⟨rfl, below_drewN (Below.refl _ _) _⟩
      by_cases c1 : dn < 0
      · have Hc := Lib.hid c1
        go_quiet (fail)
        go_wp2_with fail
        go_ret2
        exact ⟨by show _ = Ending.returned (dateV (secs _ _ _ _ _ _ _)); rw [H.out, if_pos (by have := Hc.out; omega)]; rfl, below_drewN (Below.refl _ _) _⟩
      have c1' : decide (dn < 0) = false := by simpa using c1
      by_cases c2 : 23 < a2
      · have Hc := Lib.hid c2
        go_quiet (fail)
        go_wp2_with fail
        go_ret2
        exact ⟨by show _ = Ending.returned (dateV (secs _ _ _ _ _ _ _)); rw [H.out, if_pos (by have := Hc.out; omega)]; rfl, below_drewN (Below.refl _ _) _⟩
      have c2' : decide (23 < a2) = false := by simpa using c2
      by_cases c3 : 59 < a3
      · have Hc := Lib.hid c3
        go_quiet (fail)
        go_wp2_with fail
        go_ret2
        exact ⟨by show _ = Ending.returned (dateV (secs _ _ _ _ _ _ _)); rw [H.out, if_pos (by have := Hc.out; omega)]; rfl, below_drewN (Below.refl _ _) _⟩
      have c3' : decide (59 < a3) = false := by simpa using c3
      by_cases c4 : 59 < a4
      · have Hc := Lib.hid c4
        go_quiet (fail)
        go_wp2_with fail
        go_ret2
        exact ⟨by show _ = Ending.returned (dateV (secs _ _ _ _ _ _ _)); rw [H.out, if_pos (by have := Hc.out; omega)]; rfl, below_drewN (Below.refl _ _) _⟩
      have c4' : decide (59 < a4) = false := by simpa using c4
      obtain ⟨r, hr⟩ : ∃ r : Nat, dn % 7 = r := ⟨(dn % 7).toNat, by omega⟩
      have hr7 : r < 7 := by omega
      have hwt := wdays_test s r hr7
      rw [Hwi.out] at hwt
      have e0 : 0 ≤ dn := by omega
      have e0' : IntKind.i64.wrap (dn.tmod 7) = r := by rw [Int.tmod_eq_emod_of_nonneg e0, hr]; exact IntWalk.i64_in _ (by omega)
      have e1 : IntKind.i64.wrap (3 * (r : Int)) = 3 * r := IntWalk.i64_in _ (by omega)
      have e2 : IntKind.i64.wrap (3 * (r : Int) + 3) = 3 * r + 3 := IntWalk.i64_in _ (by omega)
      have e3 : (3 * (r : Int)).toNat = 3 * r := by omega
      have e4 : (3 * (r : Int) + 3).toNat = 3 * r + 3 := by omega
      have e5 : 0 ≤ 3 * (r : Int) := by omega
      have e6 : 3 * (r : Int) + 3 ≤ 21 := by omega
      have hw7 : (((r + 3) % 7 : Nat) : Int) = (dn + 3) % 7 := by omega
      rw [hw7] at hwt
      cases hb : decide (wi = (dn + 3) % 7) with
      | true =>
        rw [hb] at hwt
        have Hb := Lib.hid (of_decide_eq_true hb)
        have Hr := Lib.hid hr
        clear hb hw7
        go_quiet (fail)
        go_wp2_with fail
        go_ret2
        exact ⟨by show _ = Ending.returned (dateV (secs _ _ _ _ _ _ _)); rw [H.out, if_neg (by have := Hb.out; omega)]; rfl, below_drewN (Below.refl _ _) _⟩
      | false =>
        rw [hb] at hwt
        have Hb := Lib.hid (of_decide_eq_false hb)
        have Hr := Lib.hid hr
        clear hb hw7
        go_quiet (fail)
        go_wp2_with fail
        go_ret2
        exact ⟨by show _ = Ending.returned (dateV (secs _ _ _ _ _ _ _)); rw [H.out, if_pos (by have := Hb.out; omega)]; rfl, below_drewN (Below.refl _ _) _⟩
set_option maxRecDepth 100000 in
set_option maxHeartbeats 800000 in
theorem rparse_no (s : ByteArray) (w : World) (h : ¬ Form s) :
    Calls Tryd.prog 74 #[.string s] w fun e w' => e = .returned (dateV none) ∧ Below w.heap.size w w' := by
  have H := Lib.hid h
  clear h
  by_cases h29 : s.size = 29
  · go_enter Tryd.func74, Tryd.ntmps74
    go_wp2_with fail
    all_goals first | (go_ret2; exact ⟨rfl, Below.refl _ _⟩) | (exfalso; exact H.out ⟨h29, by assumption, by omega, by omega, by omega, by omega, by omega, by simpa using (show (!((s.extract 25 29).toList == [32, 71, 77, 84])) = false by assumption)⟩)
  · go_enter Tryd.func74, Tryd.ntmps74
    go_wp2_with fail
    go_ret2
    exact ⟨rfl, Below.refl _ _⟩

theorem num_of' (s : ByteArray) (i j : Nat) (hij : i < j) (hj : j ≤ s.size) : ∃ (a : Int) (b : Bool), (0 ≤ a ∧ a ≤ 2147483647) ∧ numV (bs (s.extract i j)) = .tuple #[.int .i64 a, .bool b] ∧ numAt (bs s) i j = if b then some a else none := by
  rcases num_of s i j hij hj with ⟨a, l, m, h1, h2⟩ | ⟨h1, h2⟩
  · exact ⟨a, true, ⟨l, m⟩, h2, h1⟩
  · exact ⟨0, false, ⟨by omega, by omega⟩, h2, h1⟩
theorem rparse_any (s : ByteArray) (w : World) :
    Calls Tryd.prog 74 #[.string s] w fun e w' => e = .returned (dateV (parseD (bs s))) ∧ Below w.heap.size w w' := by
  by_cases hf : Form s
  · have hp : parseD (bs s) = parts (bs s) := by unfold parseD; rw [if_pos ((formB_iff s).2 hf)]
    rw [hp]
    obtain ⟨h, h1, h2, h3, h4, h5, h6, h7⟩ := hf
    obtain ⟨x0, b0, _, q0, p0⟩ := num_of' s 5 7 (by omega) (by omega)
    obtain ⟨x1, b1, _, q1, p1⟩ := num_of' s 12 16 (by omega) (by omega)
    obtain ⟨x2, b2, m2, q2, p2⟩ := num_of' s 17 19 (by omega) (by omega)
    obtain ⟨x3, b3, m3, q3, p3⟩ := num_of' s 20 22 (by omega) (by omega)
    obtain ⟨x4, b4, m4, q4, p4⟩ := num_of' s 23 25 (by omega) (by omega)
    have e : parts (bs s) = if b0 && b1 && b2 && b3 && b4 then secs x0 x1 x2 x3 x4 (nameFrom monthS (bs (s.extract 8 11)) 12 0 + 1) (nameFrom wdayS (bs (s.extract 0 3)) 7 0) else none := by
      unfold parts
      rw [p0, p1, p2, p3, p4, sub_extract, sub_extract]
      cases b0 <;> cases b1 <;> cases b2 <;> cases b3 <;> cases b4 <;> rfl
    rw [e]
    exact rparse_core s w h h1 (by omega) (by omega) (by omega) (by omega) (by omega) h7 x0 x1 x2 x3 x4 m2 m3 m4 b0 b1 b2 b3 b4 q0 q1 q2 q3 q4
  · have hp : parseD (bs s) = none := by unfold parseD; rw [if_neg (fun h => hf ((formB_iff s).1 h))]
    rw [hp]
    exact rparse_no s w hf
end Go.Proofs.YtlcchcbeebakpaaDoor
namespace Go.Proofs.YtlcchcbeebakpaaDoor
open Go.RowKit Go.Shelf

set_option maxHeartbeats 800000 in
theorem rpermitted_any (s : ByteArray) (w : World) (hs : s.size ≤ 9223372036854775807) :
    Calls Tryd.prog 107 #[.string s] w fun e w' => e = .returned (.bool (permB (bs s))) ∧ w = w' := by
  go_enter Tryd.func107, Tryd.ntmps107
  go_wp2
  go_loop [3] (fun j => ∃ k : Nat, k ≤ s.size ∧ j = .int .i64 k ∧ Hid ((bs s).all permC = ((bs s).drop k).all permC)) (fun j => s.size - (intOf j).toNat)
  case atStart => exact ⟨0, by omega, rfl, Lib.hid rfl⟩
  case round =>
    obtain ⟨k, hk, rfl, H⟩ := hrel
    by_cases hlt : k < s.size
    · have Hs := Lib.hid (all_step permC s hlt)
      by_cases h1 : s[k].toNat < 33
      · have hd := Lib.hid (permC_false (.inl h1))
        have k1 : (s[k].toNat : Int) < 33 := by omega
        clear h1
        go_wp2
        go_ret
        exact ⟨ret_bool (by unfold permB; rw [H.out, Hs.out, hd.out]; rfl), rfl⟩
      · have k1 : ¬ (s[k].toNat : Int) < 33 := by omega
        by_cases h2 : s[k].toNat = 34
        · have hd := Lib.hid (permC_false (.inr (.inl h2)))
          have k2 : ((s[k].toNat : Int) == 34) = true := by simp; omega
          clear h1 h2
          go_wp2
          go_ret
          exact ⟨ret_bool (by unfold permB; rw [H.out, Hs.out, hd.out]; rfl), rfl⟩
        · have k2 : ((s[k].toNat : Int) == 34) = false := by simp; omega
          by_cases h3 : s[k].toNat = 127
          · have hd := Lib.hid (permC_false (.inr (.inr h3)))
            have k3 : ((s[k].toNat : Int) == 127) = true := by simp; omega
            clear h1 h2 h3
            go_wp2
            go_ret
            exact ⟨ret_bool (by unfold permB; rw [H.out, Hs.out, hd.out]; rfl), rfl⟩
          · have hd := Lib.hid (permC_true h1 h2 h3)
            have k3 : ((s[k].toNat : Int) == 127) = false := by simp; omega
            clear h1 h2 h3
            go_wp2
            go_round
            case rel => exact ⟨k + 1, by omega, by go_num, Lib.hid (by rw [H.out, Hs.out, hd.out]; rfl)⟩
            case measure => simp [intOf]; omega
    · have He := Lib.hid (all_end permC s (k := k) (by omega))
      go_wp2
      go_ret
      exact ⟨ret_bool (by unfold permB; rw [H.out, He.out]), rfl⟩
theorem weak_yes {s : ByteArray} (h : (s.extract 0 2).toList = [87, 47]) : weakL (bs s) = (bs (s.extract 2 s.size), true) := by
  have e : bs (s.extract 0 2) = [87, 47] := by rw [← h, Lib.toList_data]
  have e1 : bs (s.extract 0 2) = (bs s).take 2 := by unfold bs; rw [Lib.extract_data]; simp
  have hp : Lib.hasPrefix (bs s) [87, 47] = true := by
    unfold Lib.hasPrefix
    rw [List.isPrefixOf_iff_prefix, ← e, e1]
    exact List.take_prefix 2 _
  unfold weakL
  rw [hp, if_pos rfl]
  congr 1
  unfold bs
  rw [Lib.extract_data]
  exact (List.take_of_length_le (by rw [List.length_drop, ← Lib.size_eq]; omega)).symm
theorem weak_no {s : ByteArray} (h : s.size < 2 ∨ ¬ (s.extract 0 2).toList = [87, 47]) : weakL (bs s) = (bs s, false) := by
  have hp : Lib.hasPrefix (bs s) [87, 47] = false := by
    cases hq : Lib.hasPrefix (bs s) [87, 47] with
    | false => rfl
    | true =>
      unfold Lib.hasPrefix at hq
      rw [List.isPrefixOf_iff_prefix] at hq
      exfalso
      have hl := hq.length_le
      rw [bs_length] at hl
      rcases h with h | h
      · simp at hl; omega
      · apply h
        rw [Lib.toList_data]
        show bs (s.extract 0 2) = _
        have e1 : bs (s.extract 0 2) = (bs s).take 2 := by unfold bs; rw [Lib.extract_data]; simp
        rw [e1]
        exact (List.prefix_iff_eq_take.1 hq).symm
  unfold weakL
  rw [hp]; rfl
-- generated below
theorem rows2 (w : World) (X : List Value) (TX : TypeId) (Y : List Value) (TY : TypeId) :
    RowAt ((w.alloc (.cells X.toArray TX)).alloc (.cells Y.toArray TY)) w.heap.size TX X ∧ RowAt ((w.alloc (.cells X.toArray TX)).alloc (.cells Y.toArray TY)) (w.heap.size + 1) TY Y ∧ Below w.heap.size w ((w.alloc (.cells X.toArray TX)).alloc (.cells Y.toArray TY)) := by
  have h1 := RowAt.new w X TX
  have h2 := RowAt.new (w.alloc (.cells X.toArray TX)) Y TY
  have s1 : (w.alloc (.cells X.toArray TX)).heap.size = w.heap.size + 1 := Array.size_push _
  rw [s1] at h2
  exact ⟨h1.alloc _, h2, step_b (alloc_b w _) (alloc_b _ _)⟩
theorem below_drew {B : Nat} {a w : World} (h : Below B a w) : Below B a w.drew := ⟨h.os, h.tape, h.output, h.size, h.block⟩
set_option maxHeartbeats 6400000 in
set_option maxRecDepth 100000 in
theorem retag_any (s : ByteArray) (w : World) (hs : s.size ≤ 9223372036854775807) :
    Calls Tryd.prog 93 #[.string s] w fun e w' => e = .returned (etagV (etagL (bs s))) ∧ Below w.heap.size w w' := by
  obtain ⟨R0, R1, b2⟩ := rows2 w (etC false ⟨#[]⟩) 77 (etC false ⟨#[]⟩) 77
  by_cases h2 : 2 < s.size
  · have k2 : (2 : Int) < (s.size : Int) := by omega
    by_cases hw : (s.extract 0 2).toList = [87, 47]
    · obtain ⟨x, hx⟩ : ∃ x, s.extract 0 2 = x := ⟨_, rfl⟩
      obtain ⟨u, hu⟩ : ∃ u, s.extract 2 s.size = u := ⟨_, rfl⟩
      have HW : Hid (weakL (bs s) = (bs u, true)) := Lib.hid (by rw [weak_yes hw, hu])
      have hzu : u.size = s.size - 2 := by rw [← hu]; simp
      rw [hx] at hw
      have huz : u.size ≤ 9223372036854775807 := by omega
      clear hzu
      by_cases hq2 : u.size < 2
      · have hq2' : (u.size : Int) < 2 := by omega
        have HE : Hid (etagL (bs s) = none) := Lib.hid (by unfold etagL; rw [HW.out]; rw [if_neg (by rw [quot_short hq2]; decide)])
        clear hq2
        go_enter Tryd.func93, Tryd.ntmps93
        go_wp2_with fail
        go_region
        obtain ⟨R0, R1, b2⟩ := rows2 w (etC false ⟨#[]⟩) 77 (etC true ⟨#[]⟩) 77
        have R0 := R0.drew
        have R1 := R1.drew
        have b2 := below_drew b2
        go_wp2_with (refine wpList_store_row rfl _ 77 (.tmp 2) (.tmp 41) rfl w.heap.size 77 (etC false ⟨#[]⟩) (etC false ⟨#[]⟩) R0 rfl rfl rfl et_size (et_one _ _) ?_; intro w5 R5 f1 f2 f3)
        refine bodyPost_ret (results_row2 rfl _ _ w.heap.size 77 (etC false ⟨#[]⟩) R5 rfl _ Tryd.underlying77 et_size) rfl ?_
        exact ⟨by rw [HE.out]; rfl, b2.trans (f1 _ (Nat.le_refl _))⟩
      have hq2' : ¬ (u.size : Int) < 2 := by omega
      have hn : 0 < u.size := by omega
      have hl : u.size - 1 < u.size := by omega
      have e1 : ((u.size : Int) - 1).toNat = u.size - 1 := by omega
      by_cases h0 : (u[0]'hn).toNat = 34
      · have q0 : ((u[0].toNat : Int) != 34) = false := by rw [h0]; rfl
        by_cases h1 : (u[u.size - 1]'hl).toNat = 34
        · have q1 : ((u[u.size - 1].toNat : Int) != 34) = false := by rw [h1]; rfl
          obtain ⟨t, ht⟩ : ∃ t, u.extract 1 (u.size - 1) = t := ⟨_, rfl⟩
          have htz : t.size ≤ 9223372036854775807 := by rw [← ht]; simp; omega
          have hqm := quot_mid (by omega) hn hl h0 h1
          rw [ht] at hqm
          cases hp : permB (bs t) with
          | false =>
            have HP := Lib.hid hp
            have HE : Hid (etagL (bs s) = none) := Lib.hid (by unfold etagL; rw [HW.out]; rw [if_neg (by rw [hqm, hp]; decide)])
            clear h0 h1 hp hqm
            go_enter Tryd.func93, Tryd.ntmps93
            go_wp2_with fail
            go_region
            obtain ⟨R0, R1, b2⟩ := rows2 w (etC false ⟨#[]⟩) 77 (etC true ⟨#[]⟩) 77
            have R0 := R0.drew
            have R1 := R1.drew
            have b2 := below_drew b2
            go_wp2_with fail
            refine (rpermitted_any t _ htz).mono ?_
            rintro e w1 ⟨rfl, hw1⟩
            rw [HP.out]
            subst hw1
            go_wp2_with (refine wpList_store_row rfl _ 77 (.tmp 2) (.tmp 41) rfl w.heap.size 77 (etC false ⟨#[]⟩) (etC false ⟨#[]⟩) R0 rfl rfl rfl et_size (et_one _ _) ?_; intro w5 R5 f1 f2 f3)
            refine bodyPost_ret (results_row2 rfl _ _ w.heap.size 77 (etC false ⟨#[]⟩) R5 rfl _ Tryd.underlying77 et_size) rfl ?_
            exact ⟨by rw [HE.out]; rfl, b2.trans (f1 _ (Nat.le_refl _))⟩
          | true =>
            have HP := Lib.hid hp
            have HE : Hid (etagL (bs s) = some (true, bs t)) := Lib.hid (by unfold etagL; rw [HW.out]; rw [if_pos (by rw [hqm, hp])]; show some (true, ((bs u).drop 1).take ((bs u).length - 2)) = _; rw [bs_mid, ht])
            clear h0 h1 hp hqm
            go_enter Tryd.func93, Tryd.ntmps93
            go_wp2_with fail
            go_region
            obtain ⟨R0, R1, b2⟩ := rows2 w (etC false ⟨#[]⟩) 77 (etC true ⟨#[]⟩) 77
            have R0 := R0.drew
            have R1 := R1.drew
            have b2 := below_drew b2
            go_wp2_with fail
            refine (rpermitted_any t _ htz).mono ?_
            rintro e w1 ⟨rfl, hw1⟩
            rw [HP.out]
            subst hw1
            clear R0 R1 b2
            obtain ⟨R7, R6, b7⟩ := rows2 w (etC false ⟨#[]⟩) 77 (etC true t) 77
            have R7 := R7.drew
            have R6 := R6.drew
            have b7 := below_drew b7
            go_wp2_with (first | (refine wpList_load_rowAt rfl _ 77 (.tmp 4) rfl (w.heap.size + 1) 77 (etC true t) R6 rfl _ Tryd.underlying77 et_size ?_) | (refine wpList_store_row rfl _ 77 (.tmp 2) (.tmp 48) rfl w.heap.size 77 (etC false ⟨#[]⟩) (etC true t) R7 rfl rfl rfl et_size (et_one _ _) ?_; intro w5 R5 f1 f2 f3))
            refine bodyPost_ret (results_row2 rfl _ _ w.heap.size 77 (etC true t) R5 rfl _ Tryd.underlying77 et_size) rfl ?_
            exact ⟨by rw [HE.out]; rfl, b7.trans (f1 _ (Nat.le_refl _))⟩
        · have q1 : ((u[u.size - 1].toNat : Int) != 34) = true := by simp; omega
          have HE : Hid (etagL (bs s) = none) := Lib.hid (by unfold etagL; rw [HW.out]; rw [if_neg (by rw [quot_end hl h1]; decide)])
          clear h0 h1
          go_enter Tryd.func93, Tryd.ntmps93
          go_wp2_with fail
          go_region
          obtain ⟨R0, R1, b2⟩ := rows2 w (etC false ⟨#[]⟩) 77 (etC true ⟨#[]⟩) 77
          have R0 := R0.drew
          have R1 := R1.drew
          have b2 := below_drew b2
          go_wp2_with (refine wpList_store_row rfl _ 77 (.tmp 2) (.tmp 41) rfl w.heap.size 77 (etC false ⟨#[]⟩) (etC false ⟨#[]⟩) R0 rfl rfl rfl et_size (et_one _ _) ?_; intro w5 R5 f1 f2 f3)
          refine bodyPost_ret (results_row2 rfl _ _ w.heap.size 77 (etC false ⟨#[]⟩) R5 rfl _ Tryd.underlying77 et_size) rfl ?_
          exact ⟨by rw [HE.out]; rfl, b2.trans (f1 _ (Nat.le_refl _))⟩
      · have q0 : ((u[0].toNat : Int) != 34) = true := by simp; omega
        have HE : Hid (etagL (bs s) = none) := Lib.hid (by unfold etagL; rw [HW.out]; rw [if_neg (by rw [quot_first hn h0]; decide)])
        clear h0
        go_enter Tryd.func93, Tryd.ntmps93
        go_wp2_with fail
        go_region
        obtain ⟨R0, R1, b2⟩ := rows2 w (etC false ⟨#[]⟩) 77 (etC true ⟨#[]⟩) 77
        have R0 := R0.drew
        have R1 := R1.drew
        have b2 := below_drew b2
        go_wp2_with (refine wpList_store_row rfl _ 77 (.tmp 2) (.tmp 41) rfl w.heap.size 77 (etC false ⟨#[]⟩) (etC false ⟨#[]⟩) R0 rfl rfl rfl et_size (et_one _ _) ?_; intro w5 R5 f1 f2 f3)
        refine bodyPost_ret (results_row2 rfl _ _ w.heap.size 77 (etC false ⟨#[]⟩) R5 rfl _ Tryd.underlying77 et_size) rfl ?_
        exact ⟨by rw [HE.out]; rfl, b2.trans (f1 _ (Nat.le_refl _))⟩
    · have HW : Hid (weakL (bs s) = (bs s, false)) := Lib.hid (weak_no (.inr hw))
      obtain ⟨x, hx⟩ : ∃ x, s.extract 0 2 = x := ⟨_, rfl⟩
      rw [hx] at hw
      have hwb : (x.toList == [87, 47]) = false := by simpa using hw
      clear hw
      obtain ⟨u, hu⟩ : ∃ u, s = u := ⟨_, rfl⟩
      subst hu
      have huz : s.size ≤ 9223372036854775807 := by omega
      by_cases hq2 : s.size < 2
      · have hq2' : (s.size : Int) < 2 := by omega
        have HE : Hid (etagL (bs s) = none) := Lib.hid (by unfold etagL; rw [HW.out]; rw [if_neg (by rw [quot_short hq2]; decide)])
        clear hq2
        go_enter Tryd.func93, Tryd.ntmps93
        go_wp2_with (refine wpList_store_row rfl _ 77 (.tmp 2) (.tmp 41) rfl w.heap.size 77 (etC false ⟨#[]⟩) (etC false ⟨#[]⟩) R0 rfl rfl rfl et_size (et_one _ _) ?_; intro w5 R5 f1 f2 f3)
        refine bodyPost_ret (results_row2 rfl _ _ w.heap.size 77 (etC false ⟨#[]⟩) R5 rfl _ Tryd.underlying77 et_size) rfl ?_
        exact ⟨by rw [HE.out]; rfl, b2.trans (f1 _ (Nat.le_refl _))⟩
      have hq2' : ¬ (s.size : Int) < 2 := by omega
      have hn : 0 < s.size := by omega
      have hl : s.size - 1 < s.size := by omega
      have e1 : ((s.size : Int) - 1).toNat = s.size - 1 := by omega
      by_cases h0 : (s[0]'hn).toNat = 34
      · have q0 : ((s[0].toNat : Int) != 34) = false := by rw [h0]; rfl
        by_cases h1 : (s[s.size - 1]'hl).toNat = 34
        · have q1 : ((s[s.size - 1].toNat : Int) != 34) = false := by rw [h1]; rfl
          obtain ⟨t, ht⟩ : ∃ t, s.extract 1 (s.size - 1) = t := ⟨_, rfl⟩
          have htz : t.size ≤ 9223372036854775807 := by rw [← ht]; simp; omega
          have hqm := quot_mid (by omega) hn hl h0 h1
          rw [ht] at hqm
          cases hp : permB (bs t) with
          | false =>
            have HP := Lib.hid hp
            have HE : Hid (etagL (bs s) = none) := Lib.hid (by unfold etagL; rw [HW.out]; rw [if_neg (by rw [hqm, hp]; decide)])
            clear h0 h1 hp hqm
            go_enter Tryd.func93, Tryd.ntmps93
            go_wp2_with fail
            refine (rpermitted_any t _ htz).mono ?_
            rintro e w1 ⟨rfl, hw1⟩
            rw [HP.out]
            subst hw1
            go_wp2_with (refine wpList_store_row rfl _ 77 (.tmp 2) (.tmp 41) rfl w.heap.size 77 (etC false ⟨#[]⟩) (etC false ⟨#[]⟩) R0 rfl rfl rfl et_size (et_one _ _) ?_; intro w5 R5 f1 f2 f3)
            refine bodyPost_ret (results_row2 rfl _ _ w.heap.size 77 (etC false ⟨#[]⟩) R5 rfl _ Tryd.underlying77 et_size) rfl ?_
            exact ⟨by rw [HE.out]; rfl, b2.trans (f1 _ (Nat.le_refl _))⟩
          | true =>
            have HP := Lib.hid hp
            have HE : Hid (etagL (bs s) = some (false, bs t)) := Lib.hid (by unfold etagL; rw [HW.out]; rw [if_pos (by rw [hqm, hp])]; show some (false, ((bs s).drop 1).take ((bs s).length - 2)) = _; rw [bs_mid, ht])
            clear h0 h1 hp hqm
            go_enter Tryd.func93, Tryd.ntmps93
            go_wp2_with fail
            refine (rpermitted_any t _ htz).mono ?_
            rintro e w1 ⟨rfl, hw1⟩
            rw [HP.out]
            subst hw1
            clear R0 R1 b2
            obtain ⟨R7, R6, b7⟩ := rows2 w (etC false ⟨#[]⟩) 77 (etC false t) 77
            go_wp2_with (first | (refine wpList_load_rowAt rfl _ 77 (.tmp 4) rfl (w.heap.size + 1) 77 (etC false t) R6 rfl _ Tryd.underlying77 et_size ?_) | (refine wpList_store_row rfl _ 77 (.tmp 2) (.tmp 48) rfl w.heap.size 77 (etC false ⟨#[]⟩) (etC false t) R7 rfl rfl rfl et_size (et_one _ _) ?_; intro w5 R5 f1 f2 f3))
            refine bodyPost_ret (results_row2 rfl _ _ w.heap.size 77 (etC false t) R5 rfl _ Tryd.underlying77 et_size) rfl ?_
            exact ⟨by rw [HE.out]; rfl, b7.trans (f1 _ (Nat.le_refl _))⟩
        · have q1 : ((s[s.size - 1].toNat : Int) != 34) = true := by simp; omega
          have HE : Hid (etagL (bs s) = none) := Lib.hid (by unfold etagL; rw [HW.out]; rw [if_neg (by rw [quot_end hl h1]; decide)])
          clear h0 h1
          go_enter Tryd.func93, Tryd.ntmps93
          go_wp2_with (refine wpList_store_row rfl _ 77 (.tmp 2) (.tmp 41) rfl w.heap.size 77 (etC false ⟨#[]⟩) (etC false ⟨#[]⟩) R0 rfl rfl rfl et_size (et_one _ _) ?_; intro w5 R5 f1 f2 f3)
          refine bodyPost_ret (results_row2 rfl _ _ w.heap.size 77 (etC false ⟨#[]⟩) R5 rfl _ Tryd.underlying77 et_size) rfl ?_
          exact ⟨by rw [HE.out]; rfl, b2.trans (f1 _ (Nat.le_refl _))⟩
      · have q0 : ((s[0].toNat : Int) != 34) = true := by simp; omega
        have HE : Hid (etagL (bs s) = none) := Lib.hid (by unfold etagL; rw [HW.out]; rw [if_neg (by rw [quot_first hn h0]; decide)])
        clear h0
        go_enter Tryd.func93, Tryd.ntmps93
        go_wp2_with (refine wpList_store_row rfl _ 77 (.tmp 2) (.tmp 41) rfl w.heap.size 77 (etC false ⟨#[]⟩) (etC false ⟨#[]⟩) R0 rfl rfl rfl et_size (et_one _ _) ?_; intro w5 R5 f1 f2 f3)
        refine bodyPost_ret (results_row2 rfl _ _ w.heap.size 77 (etC false ⟨#[]⟩) R5 rfl _ Tryd.underlying77 et_size) rfl ?_
        exact ⟨by rw [HE.out]; rfl, b2.trans (f1 _ (Nat.le_refl _))⟩
  · have k2 : ¬ (2 : Int) < (s.size : Int) := by omega
    have HW : Hid (etagL (bs s) = if quotB (bs s) then some (false, ((bs s).drop 1).take ((bs s).length - 2)) else none) := Lib.hid (by
      by_cases hw : (s.extract 0 2).toList = [87, 47]
      · have e : bs s = [87, 47] := by
          have e1 : s.extract 0 2 = s := by
            apply ByteArray.ext; simp only [ByteArray.data_extract]; rw [Array.extract_eq_self_iff.2 (by right; exact ⟨rfl, by have : s.data.size = s.size := rfl; omega⟩)]
          rw [← e1, ← hw, Lib.toList_data]
        rw [e]; decide
      · unfold etagL; rw [weak_no (.inr hw)])
    have huz : s.size ≤ 9223372036854775807 := by omega
    by_cases hq2 : s.size < 2
    · have hq2' : (s.size : Int) < 2 := by omega
      have HE : Hid (etagL (bs s) = none) := Lib.hid (by rw [HW.out]; rw [if_neg (by rw [quot_short hq2]; decide)])
      clear hq2
      go_enter Tryd.func93, Tryd.ntmps93
      go_wp2_with (refine wpList_store_row rfl _ 77 (.tmp 2) (.tmp 41) rfl w.heap.size 77 (etC false ⟨#[]⟩) (etC false ⟨#[]⟩) R0 rfl rfl rfl et_size (et_one _ _) ?_; intro w5 R5 f1 f2 f3)
      refine bodyPost_ret (results_row2 rfl _ _ w.heap.size 77 (etC false ⟨#[]⟩) R5 rfl _ Tryd.underlying77 et_size) rfl ?_
      exact ⟨by rw [HE.out]; rfl, b2.trans (f1 _ (Nat.le_refl _))⟩
    have hq2' : ¬ (s.size : Int) < 2 := by omega
    have hn : 0 < s.size := by omega
    have hl : s.size - 1 < s.size := by omega
    have e1 : ((s.size : Int) - 1).toNat = s.size - 1 := by omega
    by_cases h0 : (s[0]'hn).toNat = 34
    · have q0 : ((s[0].toNat : Int) != 34) = false := by rw [h0]; rfl
      by_cases h1 : (s[s.size - 1]'hl).toNat = 34
      · have q1 : ((s[s.size - 1].toNat : Int) != 34) = false := by rw [h1]; rfl
        obtain ⟨t, ht⟩ : ∃ t, s.extract 1 (s.size - 1) = t := ⟨_, rfl⟩
        have htz : t.size ≤ 9223372036854775807 := by rw [← ht]; simp; omega
        have hqm := quot_mid (by omega) hn hl h0 h1
        rw [ht] at hqm
        cases hp : permB (bs t) with
        | false =>
          have HP := Lib.hid hp
          have HE : Hid (etagL (bs s) = none) := Lib.hid (by rw [HW.out]; rw [if_neg (by rw [hqm, hp]; decide)])
          clear h0 h1 hp hqm
          go_enter Tryd.func93, Tryd.ntmps93
          go_wp2_with fail
          refine (rpermitted_any t _ htz).mono ?_
          rintro e w1 ⟨rfl, hw1⟩
          rw [HP.out]
          subst hw1
          go_wp2_with (refine wpList_store_row rfl _ 77 (.tmp 2) (.tmp 41) rfl w.heap.size 77 (etC false ⟨#[]⟩) (etC false ⟨#[]⟩) R0 rfl rfl rfl et_size (et_one _ _) ?_; intro w5 R5 f1 f2 f3)
          refine bodyPost_ret (results_row2 rfl _ _ w.heap.size 77 (etC false ⟨#[]⟩) R5 rfl _ Tryd.underlying77 et_size) rfl ?_
          exact ⟨by rw [HE.out]; rfl, b2.trans (f1 _ (Nat.le_refl _))⟩
        | true =>
          have HP := Lib.hid hp
          have HE : Hid (etagL (bs s) = some (false, bs t)) := Lib.hid (by rw [HW.out]; rw [if_pos (by rw [hqm, hp])]; show some (false, ((bs s).drop 1).take ((bs s).length - 2)) = _; rw [bs_mid, ht])
          clear h0 h1 hp hqm
          go_enter Tryd.func93, Tryd.ntmps93
          go_wp2_with fail
          refine (rpermitted_any t _ htz).mono ?_
          rintro e w1 ⟨rfl, hw1⟩
          rw [HP.out]
          subst hw1
          clear R0 R1 b2
          obtain ⟨R7, R6, b7⟩ := rows2 w (etC false ⟨#[]⟩) 77 (etC false t) 77
          go_wp2_with (first | (refine wpList_load_rowAt rfl _ 77 (.tmp 4) rfl (w.heap.size + 1) 77 (etC false t) R6 rfl _ Tryd.underlying77 et_size ?_) | (refine wpList_store_row rfl _ 77 (.tmp 2) (.tmp 48) rfl w.heap.size 77 (etC false ⟨#[]⟩) (etC false t) R7 rfl rfl rfl et_size (et_one _ _) ?_; intro w5 R5 f1 f2 f3))
          refine bodyPost_ret (results_row2 rfl _ _ w.heap.size 77 (etC false t) R5 rfl _ Tryd.underlying77 et_size) rfl ?_
          exact ⟨by rw [HE.out]; rfl, b7.trans (f1 _ (Nat.le_refl _))⟩
      · have q1 : ((s[s.size - 1].toNat : Int) != 34) = true := by simp; omega
        have HE : Hid (etagL (bs s) = none) := Lib.hid (by rw [HW.out]; rw [if_neg (by rw [quot_end hl h1]; decide)])
        clear h0 h1
        go_enter Tryd.func93, Tryd.ntmps93
        go_wp2_with (refine wpList_store_row rfl _ 77 (.tmp 2) (.tmp 41) rfl w.heap.size 77 (etC false ⟨#[]⟩) (etC false ⟨#[]⟩) R0 rfl rfl rfl et_size (et_one _ _) ?_; intro w5 R5 f1 f2 f3)
        refine bodyPost_ret (results_row2 rfl _ _ w.heap.size 77 (etC false ⟨#[]⟩) R5 rfl _ Tryd.underlying77 et_size) rfl ?_
        exact ⟨by rw [HE.out]; rfl, b2.trans (f1 _ (Nat.le_refl _))⟩
    · have q0 : ((s[0].toNat : Int) != 34) = true := by simp; omega
      have HE : Hid (etagL (bs s) = none) := Lib.hid (by rw [HW.out]; rw [if_neg (by rw [quot_first hn h0]; decide)])
      clear h0
      go_enter Tryd.func93, Tryd.ntmps93
      go_wp2_with (refine wpList_store_row rfl _ 77 (.tmp 2) (.tmp 41) rfl w.heap.size 77 (etC false ⟨#[]⟩) (etC false ⟨#[]⟩) R0 rfl rfl rfl et_size (et_one _ _) ?_; intro w5 R5 f1 f2 f3)
      refine bodyPost_ret (results_row2 rfl _ _ w.heap.size 77 (etC false ⟨#[]⟩) R5 rfl _ Tryd.underlying77 et_size) rfl ?_
      exact ⟨by rw [HE.out]; rfl, b2.trans (f1 _ (Nat.le_refl _))⟩
end Go.Proofs.YtlcchcbeebakpaaDoor
namespace Go.Proofs.YtlcchcbeebakpaaDoor
open Go.RowKit Go.Shelf
attribute [local go_sem] Oper.semAt_some
set_option linter.unusedSimpArgs false

abbrev nRng : ByteArray := ⟨#[82, 97, 110, 103, 101]⟩
abbrev nIfR : ByteArray := ⟨#[73, 102, 45, 82, 97, 110, 103, 101]⟩
abbrev rngN : List ByteArray := [⟨#[82, 97, 110, 103, 101]⟩, ⟨#[73, 102, 45, 82, 97, 110, 103, 101]⟩]
theorem rngN_z : ∀ x ∈ rngN, x.size ≤ 100000 := by decide
theorem rngA_eq : (rngN.map Value.string).toArray = #[.string ⟨#[82, 97, 110, 103, 101]⟩, .string ⟨#[73, 102, 45, 82, 97, 110, 103, 101]⟩] := rfl
def outL (n : Int) (s : ByteArray) (xs : List Fd) : List Fd := (viaL n s (stripL xs)).filter (noneB (rngN.map bs))
theorem outL_eq (n : Int) (s : ByteArray) (xs : List Fd) : outL n s xs = viaL n s ((stripL xs).filter (noneB (rngN.map bs))) := by
  unfold outL viaL
  rw [List.filter_append, List.filter_cons_of_pos (by show noneB (rngN.map bs) (nVia, viaS n s) = true; unfold noneB; rw [show (oneB (bs (nVia, viaS n s).1) (rngN.map bs)) = false from by show oneB (bs nVia) (rngN.map bs) = false; decide +kernel]; rfl), List.filter_nil]
theorem viaL_z {n : Int} (h0 : -9223372036854775808 ≤ n) (h1 : n ≤ 9223372036854775807) {s : ByteArray} {xs : List Fd} (hs : s.size ≤ 10000) (hz : FldZ xs 100000) : FldZ (viaL n s xs) 100000 := by
  intro x hx
  unfold viaL at hx
  rcases List.mem_append.1 hx with hx | hx
  · exact hz x hx
  · have e : x = (nVia, viaS n s) := by simpa using hx
    subst e
    exact ⟨show nVia.size ≤ 100000 by decide, by have := viaS_size h0 h1 s; show (viaS n s).size ≤ _; omega⟩
set_option maxHeartbeats 6400000 in
set_option maxRecDepth 100000 in
theorem outgoing_any (m tg : ByteArray) (mn : Int) (oa : Option Addr) (xs : List Fd) (cap : Nat) (bd s : ByteArray) (w : World)
    (hn : xs.length ≤ 5000) (hz : FldZ xs 100000) (hc : FldO w oa xs) (h0 : -9223372036854775808 ≤ mn) (h1 : mn ≤ 9223372036854775807) (hs : s.size ≤ 10000) (htab : PowTab w) :
    Calls Tryd.prog 45 #[reqV m tg mn oa xs.length cap bd, .string s] w fun e w' => ∃ (ob : Option Addr) (cb : Nat), e = .returned (reqV m tg 1 ob (outL mn s xs).length cb bd) ∧ FBuf w' w.heap.size (.slice ob (outL mn s xs).length cb) (outL mn s xs) ∧ Below w.heap.size w w' := by
  obtain ⟨R0, O0, b0⟩ := rows2 w (reqC m tg mn oa xs.length cap bd) 54 reqZ 54
  have hz0 : w.heap.size + 2 ≤ ((w.alloc (.cells (reqC m tg mn oa xs.length cap bd).toArray 54)).alloc (.cells reqZ.toArray 54)).heap.size := by
    rw [show ((w.alloc (.cells (reqC m tg mn oa xs.length cap bd).toArray 54)).alloc (.cells reqZ.toArray 54)).heap.size = (w.alloc (.cells (reqC m tg mn oa xs.length cap bd).toArray 54)).heap.size + 1 from Array.size_push _, show (w.alloc (.cells (reqC m tg mn oa xs.length cap bd).toArray 54)).heap.size = w.heap.size + 1 from Array.size_push _]
    exact Nat.le_refl _
  have HC0 := Lib.hid (hc.down b0)
  have HT0 := Lib.hid (htab.below b0)
  have HZ := Lib.hid hz
  obtain ⟨zs, hzs⟩ : ∃ zs, zs = stripL xs := ⟨_, rfl⟩
  have hzl : zs.length ≤ xs.length := by rw [hzs]; exact strip_len xs
  obtain ⟨vs, hvs⟩ : ∃ vs, vs = viaL mn s zs := ⟨_, rfl⟩
  have hvl : vs.length = zs.length + 1 := by rw [hvs]; unfold viaL; simp
  have hvl2 : vs.length ≤ 10000 := by omega
  have HVZ : Hid (FldZ vs 100000) := Lib.hid (by rw [hvs, hzs]; exact viaL_z h0 h1 hs (strip_z hz))
  obtain ⟨ls, hls⟩ : ∃ ls, ls = outL mn s xs := ⟨_, rfl⟩
  have HLS : Hid (vs.filter (noneB (rngN.map bs)) = ls) := Lib.hid (by rw [hls, hvs, hzs]; rfl)
  have HLE := Lib.hid hls
  have HZS := Lib.hid hzs
  have HVS := Lib.hid hvs
  have zw : w.heap.size ≤ w.heap.size := Nat.le_refl _
  clear hc hz htab hzs hvs hls hvl
  go_enter Tryd.func45, Tryd.ntmps45
  go_wp2_with fail
  generalize (w.alloc (.cells (reqC m tg mn oa xs.length cap bd).toArray 54)).alloc (.cells reqZ.toArray 54) = W0 at *
  refine wp_region_K 10 (fun w' => Below W0.heap.size W0 w') (by kernel_rfl) (Below.refl _ _).drew (fun hH => ?_)
  generalize W0.drew = w1 at *
  have B1 := hH
  clear hH
  refine wpK_pure (i := 0) (v := .pointer (some ⟨w.heap.size, 3, none⟩)) rfl (by kernel_rfl) (fun _ _ _ h => h) (by rfl) (fun w9 => by go_simp) (fun _ => B1) ?_
  try simp only [Act.put, List.setIfInBounds_toArray, List.set_cons_zero, List.set_cons_succ]
  refine wpK_load (i := 1) (v := .slice oa xs.length cap) [10] rfl (by kernel_rfl) (fun _ _ _ h => h) (by rfl) (fun w9 h9 => by have c9 := (R0.below h9).cell 3 rfl; go_simp) (fun _ => B1) ?_
  try simp only [Act.put, List.setIfInBounds_toArray, List.set_cons_zero, List.set_cons_succ]
  refine wpK_pure (i := 3) (v := .pointer (some ⟨w.heap.size, 2, none⟩)) rfl (by kernel_rfl) (fun _ _ _ h => h) (by rfl) (fun w9 => by go_simp) (fun _ => B1) ?_
  try simp only [Act.put, List.setIfInBounds_toArray, List.set_cons_zero, List.set_cons_succ]
  refine wpK_load (i := 4) (v := .int .i64 mn) [10] rfl (by kernel_rfl) (fun _ _ _ h => h) (by rfl) (fun w9 h9 => by have c9 := (R0.below h9).cell 2 rfl; go_simp) (fun _ => B1) ?_
  try simp only [Act.put, List.setIfInBounds_toArray, List.set_cons_zero, List.set_cons_succ]
  refine wpK_pure (i := 5) (v := .string s) rfl (by kernel_rfl) (fun _ _ _ h => h) (by rfl) (fun w9 => by go_simp) (fun _ => B1) ?_
  try simp only [Act.put, List.setIfInBounds_toArray, List.set_cons_zero, List.set_cons_succ]
  refine wpK_ready [2, 7] (by kernel_rfl) (by simp) ?_
  refine AllK.cons rfl (fun K hK => ?_) ?_
  · skip
    go_simp
    go_at_call 13
    refine (strip_any oa xs cap w1 (by omega) HZ.out (HC0.out.down B1)).mono ?_
    rintro e w2 ⟨v2, rfl, FB, hb⟩
    rw [hop_stripL, ← HZS.out] at FB
    obtain ⟨o2, c2, rfl, FO2⟩ := FB.shape
    have B2 := step_b B1 hb
    clear FB hb
    refine hK.out _ _ (fun _ => B2) (fun _ => ?_)
    clear hK K
    try simp only [Act.put, List.setIfInBounds_toArray, List.set_cons_zero, List.set_cons_succ]
    refine wpK_ready [6, 7] (by kernel_rfl) (by simp) ?_
    refine AllK.cons rfl (fun K hK => ?_) ?_
    · skip
      go_simp
      go_at_call 15
      refine (via_any o2 zs c2 mn s w2 (by omega) FO2 h0 h1 (by omega) (HT0.out.below B2)).mono ?_
      rintro e w3 ⟨v6, rfl, FB, hb⟩
      rw [← HVS.out] at FB
      obtain ⟨o6, c6, rfl, FO3⟩ := FB.shape
      have B3 := step_b B2 hb
      clear FB hb
      refine hK.out _ _ (fun _ => B3) (fun _ => ?_)
      clear hK K
      try simp only [Act.put, List.setIfInBounds_toArray, List.set_cons_zero, List.set_cons_succ]
      refine wpK_ready [7] (by kernel_rfl) (by simp) ?_
      refine AllK.cons rfl (fun K hK => ?_) ?_
      · skip
        go_simp
        have hb := alloc_b w3 (.cells #[.string ⟨#[82, 97, 110, 103, 101]⟩, .string ⟨#[73, 102, 45, 82, 97, 110, 103, 101]⟩] 9)
        have N4 := StrO.new w3 rngN
        rw [rngA_eq] at N4
        have FO4 := FO3.down hb
        have B4 := step_b B3 hb
        clear hb
        generalize w3.alloc (.cells #[.string ⟨#[82, 97, 110, 103, 101]⟩, .string ⟨#[73, 102, 45, 82, 97, 110, 103, 101]⟩] 9) = w4 at *
        generalize (⟨w3.heap.size, 0, none⟩ : Addr) = an at *
        refine hK.out _ _ (fun _ => B4) (fun _ => ?_)
        clear hK K
        try simp only [Act.put, List.setIfInBounds_toArray, List.set_cons_zero, List.set_cons_succ]
        refine wpK_ready [8] (by kernel_rfl) (by simp) ?_
        refine AllK.cons rfl (fun K hK => ?_) ?_
        · skip
          go_simp
          go_at_call 67
          refine (without_any o6 vs c6 (some an) rngN 2 w4 hvl2 HVZ.out FO4 (by decide) rngN_z N4).mono ?_
          rintro e w5 ⟨v8, rfl, FB, hb⟩
          rw [HLS.out] at FB
          obtain ⟨o8, c8, rfl, FO5⟩ := FB.shape
          have B5 := step_b B4 hb
          have zz : W0.heap.size ≤ w4.heap.size := B4.size
          clear hb
          refine hK.out _ _ (fun _ => B5) (fun _ => ?_)
          clear hK K
          try simp only [Act.put, List.setIfInBounds_toArray, List.set_cons_zero, List.set_cons_succ]
          refine wpK_pure (i := 9) (v := .pointer (some ⟨w.heap.size, 3, none⟩)) rfl (by kernel_rfl) (fun _ _ _ h => h) (by rfl) (fun w9 => by go_simp) (fun _ => B5) ?_
          try simp only [Act.put, List.setIfInBounds_toArray, List.set_cons_zero, List.set_cons_succ]
          refine wpK_ready [10] (by kernel_rfl) (by simp) ?_
          refine AllK.cons rfl (fun K hK => ?_) ?_
          · skip
            have Q0 := R0.below B5
            have q3 := Q0.cell 3 rfl
            have f3 := Q0.free 3
            go_simp
            refine hK.out _ _ (fun h => absurd h (by decide)) (fun _ => ?_)
            clear hK K q3 f3
            try simp only [Act.put, List.setIfInBounds_toArray, List.set_cons_zero, List.set_cons_succ]
            refine wpK_done (by kernel_rfl) ?_ _
            have Q1 := Q0.set 3 (.slice o8 ls.length c8)
            have P1 := (O0.below B5).setOther (show w.heap.size + 1 ≠ w.heap.size by omega) 3 (.slice o8 ls.length c8)
            have q2 := Q1.cell 2 rfl
            have f2 := Q1.free 2
            have Q2 := Q1.set 2 (.int .i64 1)
            have P2 := P1.setOther (show w.heap.size + 1 ≠ w.heap.size by omega) 2 (.int .i64 1)
            have D1 := ((b0.trans (B5.mono b0.size)).setCell (p := ⟨w.heap.size, 3, none⟩) (Nat.le_refl _) (.slice o8 ls.length c8)).setCell (p := ⟨w.heap.size, 2, none⟩) (Nat.le_refl _) (.int .i64 1)
            have FB1 := ((FB.lower (Nat.le_trans hz0 zz)).set (g := w.heap.size) (j := 3) (by omega) (.slice o8 ls.length c8)).set (g := w.heap.size) (j := 2) (by omega) (.int .i64 1)
            clear Q0 Q1 P1 FB
            go_wp2_with (first | (refine wpList_load_rowAt rfl _ 54 (.tmp 2) rfl w.heap.size 54 (reqC m tg 1 o8 ls.length c8 bd) Q2 rfl _ Tryd.underlying54 req_size ?_) | (refine wpList_store_row rfl _ 54 (.tmp 4) (.tmp 16) rfl (w.heap.size + 1) 54 reqZ (reqC m tg 1 o8 ls.length c8 bd) P2 rfl rfl rfl req_size (req_one _ _ _ _ _ _ _) ?_; intro w9 R9 g1 g2 g3))
            refine bodyPost_ret (results_row1 rfl _ _ (w.heap.size + 1) 54 (reqC m tg 1 o8 ls.length c8 bd) R9 rfl _ Tryd.underlying54 req_size) rfl ?_
            rw [← HLE.out]
            exact ⟨o8, c8, rfl, (FB1.others (by omega) g2).lower (by omega), D1.trans (g1 _ (by omega))⟩
          exact AllK.nil
        exact AllK.nil
      exact AllK.nil
    refine AllK.cons rfl (fun K hK => ?_) ?_
    · skip
      go_simp
      have hb := alloc_b w2 (.cells #[.string ⟨#[82, 97, 110, 103, 101]⟩, .string ⟨#[73, 102, 45, 82, 97, 110, 103, 101]⟩] 9)
      have N3 := StrO.new w2 rngN
      rw [rngA_eq] at N3
      have FO3 := FO2.down hb
      have B3 := step_b B2 hb
      clear hb
      generalize w2.alloc (.cells #[.string ⟨#[82, 97, 110, 103, 101]⟩, .string ⟨#[73, 102, 45, 82, 97, 110, 103, 101]⟩] 9) = w3 at *
      generalize (⟨w2.heap.size, 0, none⟩ : Addr) = an at *
      refine hK.out _ _ (fun _ => B3) (fun _ => ?_)
      clear hK K
      try simp only [Act.put, List.setIfInBounds_toArray, List.set_cons_zero, List.set_cons_succ]
      refine wpK_ready [6] (by kernel_rfl) (by simp) ?_
      refine AllK.cons rfl (fun K hK => ?_) ?_
      · skip
        go_simp
        go_at_call 15
        refine (via_any o2 zs c2 mn s w3 (by omega) FO3 h0 h1 (by omega) (HT0.out.below B3)).mono ?_
        rintro e w4 ⟨v6, rfl, FB, hb⟩
        rw [← HVS.out] at FB
        obtain ⟨o6, c6, rfl, FO4⟩ := FB.shape
        have B4 := step_b B3 hb
        have N4 := N3.down hb
        clear FB hb
        refine hK.out _ _ (fun _ => B4) (fun _ => ?_)
        clear hK K
        try simp only [Act.put, List.setIfInBounds_toArray, List.set_cons_zero, List.set_cons_succ]
        refine wpK_ready [8] (by kernel_rfl) (by simp) ?_
        refine AllK.cons rfl (fun K hK => ?_) ?_
        · skip
          go_simp
          go_at_call 67
          refine (without_any o6 vs c6 (some an) rngN 2 w4 hvl2 HVZ.out FO4 (by decide) rngN_z N4).mono ?_
          rintro e w5 ⟨v8, rfl, FB, hb⟩
          rw [HLS.out] at FB
          obtain ⟨o8, c8, rfl, FO5⟩ := FB.shape
          have B5 := step_b B4 hb
          have zz : W0.heap.size ≤ w4.heap.size := B4.size
          clear hb
          refine hK.out _ _ (fun _ => B5) (fun _ => ?_)
          clear hK K
          try simp only [Act.put, List.setIfInBounds_toArray, List.set_cons_zero, List.set_cons_succ]
          refine wpK_pure (i := 9) (v := .pointer (some ⟨w.heap.size, 3, none⟩)) rfl (by kernel_rfl) (fun _ _ _ h => h) (by rfl) (fun w9 => by go_simp) (fun _ => B5) ?_
          try simp only [Act.put, List.setIfInBounds_toArray, List.set_cons_zero, List.set_cons_succ]
          refine wpK_ready [10] (by kernel_rfl) (by simp) ?_
          refine AllK.cons rfl (fun K hK => ?_) ?_
          · skip
            have Q0 := R0.below B5
            have q3 := Q0.cell 3 rfl
            have f3 := Q0.free 3
            go_simp
            refine hK.out _ _ (fun h => absurd h (by decide)) (fun _ => ?_)
            clear hK K q3 f3
            try simp only [Act.put, List.setIfInBounds_toArray, List.set_cons_zero, List.set_cons_succ]
            refine wpK_done (by kernel_rfl) ?_ _
            have Q1 := Q0.set 3 (.slice o8 ls.length c8)
            have P1 := (O0.below B5).setOther (show w.heap.size + 1 ≠ w.heap.size by omega) 3 (.slice o8 ls.length c8)
            have q2 := Q1.cell 2 rfl
            have f2 := Q1.free 2
            have Q2 := Q1.set 2 (.int .i64 1)
            have P2 := P1.setOther (show w.heap.size + 1 ≠ w.heap.size by omega) 2 (.int .i64 1)
            have D1 := ((b0.trans (B5.mono b0.size)).setCell (p := ⟨w.heap.size, 3, none⟩) (Nat.le_refl _) (.slice o8 ls.length c8)).setCell (p := ⟨w.heap.size, 2, none⟩) (Nat.le_refl _) (.int .i64 1)
            have FB1 := ((FB.lower (Nat.le_trans hz0 zz)).set (g := w.heap.size) (j := 3) (by omega) (.slice o8 ls.length c8)).set (g := w.heap.size) (j := 2) (by omega) (.int .i64 1)
            clear Q0 Q1 P1 FB
            go_wp2_with (first | (refine wpList_load_rowAt rfl _ 54 (.tmp 2) rfl w.heap.size 54 (reqC m tg 1 o8 ls.length c8 bd) Q2 rfl _ Tryd.underlying54 req_size ?_) | (refine wpList_store_row rfl _ 54 (.tmp 4) (.tmp 16) rfl (w.heap.size + 1) 54 reqZ (reqC m tg 1 o8 ls.length c8 bd) P2 rfl rfl rfl req_size (req_one _ _ _ _ _ _ _) ?_; intro w9 R9 g1 g2 g3))
            refine bodyPost_ret (results_row1 rfl _ _ (w.heap.size + 1) 54 (reqC m tg 1 o8 ls.length c8 bd) R9 rfl _ Tryd.underlying54 req_size) rfl ?_
            rw [← HLE.out]
            exact ⟨o8, c8, rfl, (FB1.others (by omega) g2).lower (by omega), D1.trans (g1 _ (by omega))⟩
          exact AllK.nil
        exact AllK.nil
      exact AllK.nil
    exact AllK.nil
  refine AllK.cons rfl (fun K hK => ?_) ?_
  · skip
    go_simp
    have hb := alloc_b w1 (.cells #[.string ⟨#[82, 97, 110, 103, 101]⟩, .string ⟨#[73, 102, 45, 82, 97, 110, 103, 101]⟩] 9)
    have N2 := StrO.new w1 rngN
    rw [rngA_eq] at N2
    have B2 := step_b B1 hb
    clear hb
    generalize w1.alloc (.cells #[.string ⟨#[82, 97, 110, 103, 101]⟩, .string ⟨#[73, 102, 45, 82, 97, 110, 103, 101]⟩] 9) = w2 at *
    generalize (⟨w1.heap.size, 0, none⟩ : Addr) = an at *
    refine hK.out _ _ (fun _ => B2) (fun _ => ?_)
    clear hK K
    try simp only [Act.put, List.setIfInBounds_toArray, List.set_cons_zero, List.set_cons_succ]
    refine wpK_ready [2] (by kernel_rfl) (by simp) ?_
    refine AllK.cons rfl (fun K hK => ?_) ?_
    · skip
      go_simp
      go_at_call 13
      refine (strip_any oa xs cap w2 (by omega) HZ.out (HC0.out.down B2)).mono ?_
      rintro e w3 ⟨v2, rfl, FB, hb⟩
      rw [hop_stripL, ← HZS.out] at FB
      obtain ⟨o2, c2, rfl, FO3⟩ := FB.shape
      have B3 := step_b B2 hb
      have N3 := N2.down hb
      clear FB hb
      refine hK.out _ _ (fun _ => B3) (fun _ => ?_)
      clear hK K
      try simp only [Act.put, List.setIfInBounds_toArray, List.set_cons_zero, List.set_cons_succ]
      refine wpK_ready [6] (by kernel_rfl) (by simp) ?_
      refine AllK.cons rfl (fun K hK => ?_) ?_
      · skip
        go_simp
        go_at_call 15
        refine (via_any o2 zs c2 mn s w3 (by omega) FO3 h0 h1 (by omega) (HT0.out.below B3)).mono ?_
        rintro e w4 ⟨v6, rfl, FB, hb⟩
        rw [← HVS.out] at FB
        obtain ⟨o6, c6, rfl, FO4⟩ := FB.shape
        have B4 := step_b B3 hb
        have N4 := N3.down hb
        clear FB hb
        refine hK.out _ _ (fun _ => B4) (fun _ => ?_)
        clear hK K
        try simp only [Act.put, List.setIfInBounds_toArray, List.set_cons_zero, List.set_cons_succ]
        refine wpK_ready [8] (by kernel_rfl) (by simp) ?_
        refine AllK.cons rfl (fun K hK => ?_) ?_
        · skip
          go_simp
          go_at_call 67
          refine (without_any o6 vs c6 (some an) rngN 2 w4 hvl2 HVZ.out FO4 (by decide) rngN_z N4).mono ?_
          rintro e w5 ⟨v8, rfl, FB, hb⟩
          rw [HLS.out] at FB
          obtain ⟨o8, c8, rfl, FO5⟩ := FB.shape
          have B5 := step_b B4 hb
          have zz : W0.heap.size ≤ w4.heap.size := B4.size
          clear hb
          refine hK.out _ _ (fun _ => B5) (fun _ => ?_)
          clear hK K
          try simp only [Act.put, List.setIfInBounds_toArray, List.set_cons_zero, List.set_cons_succ]
          refine wpK_pure (i := 9) (v := .pointer (some ⟨w.heap.size, 3, none⟩)) rfl (by kernel_rfl) (fun _ _ _ h => h) (by rfl) (fun w9 => by go_simp) (fun _ => B5) ?_
          try simp only [Act.put, List.setIfInBounds_toArray, List.set_cons_zero, List.set_cons_succ]
          refine wpK_ready [10] (by kernel_rfl) (by simp) ?_
          refine AllK.cons rfl (fun K hK => ?_) ?_
          · skip
            have Q0 := R0.below B5
            have q3 := Q0.cell 3 rfl
            have f3 := Q0.free 3
            go_simp
            refine hK.out _ _ (fun h => absurd h (by decide)) (fun _ => ?_)
            clear hK K q3 f3
            try simp only [Act.put, List.setIfInBounds_toArray, List.set_cons_zero, List.set_cons_succ]
            refine wpK_done (by kernel_rfl) ?_ _
            have Q1 := Q0.set 3 (.slice o8 ls.length c8)
            have P1 := (O0.below B5).setOther (show w.heap.size + 1 ≠ w.heap.size by omega) 3 (.slice o8 ls.length c8)
            have q2 := Q1.cell 2 rfl
            have f2 := Q1.free 2
            have Q2 := Q1.set 2 (.int .i64 1)
            have P2 := P1.setOther (show w.heap.size + 1 ≠ w.heap.size by omega) 2 (.int .i64 1)
            have D1 := ((b0.trans (B5.mono b0.size)).setCell (p := ⟨w.heap.size, 3, none⟩) (Nat.le_refl _) (.slice o8 ls.length c8)).setCell (p := ⟨w.heap.size, 2, none⟩) (Nat.le_refl _) (.int .i64 1)
            have FB1 := ((FB.lower (Nat.le_trans hz0 zz)).set (g := w.heap.size) (j := 3) (by omega) (.slice o8 ls.length c8)).set (g := w.heap.size) (j := 2) (by omega) (.int .i64 1)
            clear Q0 Q1 P1 FB
            go_wp2_with (first | (refine wpList_load_rowAt rfl _ 54 (.tmp 2) rfl w.heap.size 54 (reqC m tg 1 o8 ls.length c8 bd) Q2 rfl _ Tryd.underlying54 req_size ?_) | (refine wpList_store_row rfl _ 54 (.tmp 4) (.tmp 16) rfl (w.heap.size + 1) 54 reqZ (reqC m tg 1 o8 ls.length c8 bd) P2 rfl rfl rfl req_size (req_one _ _ _ _ _ _ _) ?_; intro w9 R9 g1 g2 g3))
            refine bodyPost_ret (results_row1 rfl _ _ (w.heap.size + 1) 54 (reqC m tg 1 o8 ls.length c8 bd) R9 rfl _ Tryd.underlying54 req_size) rfl ?_
            rw [← HLE.out]
            exact ⟨o8, c8, rfl, (FB1.others (by omega) g2).lower (by omega), D1.trans (g1 _ (by omega))⟩
          exact AllK.nil
        exact AllK.nil
      exact AllK.nil
    exact AllK.nil
  exact AllK.nil
end Go.Proofs.YtlcchcbeebakpaaDoor
namespace Go.Proofs.YtlcchcbeebakpaaDoor
open Go.RowKit Go.Shelf

def keepQB (m tg bd : ByteArray) (xs : List Fd) : Bool := decide (m.size ≤ 100) && decide (tg.size ≤ 2100) && fieldsB xs && decide (bd.size ≤ 2000)
theorem keepQB_true {m tg bd : ByteArray} {xs : List Fd} (h : keepQB m tg bd xs = true) : m.size ≤ 100 ∧ tg.size ≤ 2100 ∧ bd.size ≤ 2000 ∧ xs.length ≤ 70 ∧ FldZ xs 300 := by
  unfold keepQB at h
  rw [Bool.and_eq_true, Bool.and_eq_true, Bool.and_eq_true, decide_eq_true_eq, decide_eq_true_eq, decide_eq_true_eq] at h
  obtain ⟨⟨⟨h1, h2⟩, h3⟩, h4⟩ := h
  have := fieldsB_true h3
  exact ⟨h1, h2, h4, this.1, this.2⟩
set_option maxHeartbeats 1600000 in
theorem keepQ_any (m tg : ByteArray) (mn : Int) (oa : Option Addr) (xs : List Fd) (cap : Nat) (bd : ByteArray) (w : World) (hn : xs.length ≤ 9223372036854775807) (hc : FldO w oa xs) :
    Calls Tryd.prog 35 #[reqV m tg mn oa xs.length cap bd] w fun e w' => e = .returned (.bool (keepQB m tg bd xs)) ∧ Below w.heap.size w w' := by
  have HC := Lib.hid (hc.down (alloc_b w (.cells (reqC m tg mn oa xs.length cap bd).toArray 54)))
  clear hc
  by_cases h1 : m.size ≤ 100
  · have h1' : decide ((m.size : Int) ≤ 100) = true := by simp; omega
    by_cases h2 : tg.size ≤ 2100
    · have h2' : decide ((tg.size : Int) ≤ 2100) = true := by simp; omega
      cases hf : fieldsB xs with
      | true =>
        have HF := Lib.hid hf
        have HR : Hid (keepQB m tg bd xs = decide ((bd.size : Int) ≤ 2000)) := Lib.hid (by
          unfold keepQB; rw [hf, decide_eq_true h1, decide_eq_true h2]; simp; omega)
        clear hf
        go_enter Tryd.func35, Tryd.ntmps35
        go_wp2_with fail
        refine (keepF_any oa xs cap _ hn HC.out).mono ?_
        rintro e w2 ⟨rfl, hw2⟩
        rw [HF.out]
        subst hw2
        go_wp2_with fail
        go_ret
        exact ⟨by rw [HR.out]; rfl, alloc_b w _⟩
      | false =>
        have HF := Lib.hid hf
        have HR : Hid (keepQB m tg bd xs = false) := Lib.hid (by unfold keepQB; rw [hf]; simp)
        clear hf
        go_enter Tryd.func35, Tryd.ntmps35
        go_wp2_with fail
        refine (keepF_any oa xs cap _ hn HC.out).mono ?_
        rintro e w2 ⟨rfl, hw2⟩
        rw [HF.out]
        subst hw2
        go_wp2_with fail
        go_ret
        exact ⟨by rw [HR.out]; rfl, alloc_b w _⟩
    · have h2' : decide ((tg.size : Int) ≤ 2100) = false := by simp; omega
      have HR : Hid (keepQB m tg bd xs = false) := Lib.hid (by unfold keepQB; rw [decide_eq_false h2]; simp)
      go_enter Tryd.func35, Tryd.ntmps35
      go_wp2_with fail
      go_ret
      exact ⟨by rw [HR.out]; rfl, alloc_b w _⟩
  · have h1' : decide ((m.size : Int) ≤ 100) = false := by simp; omega
    have HR : Hid (keepQB m tg bd xs = false) := Lib.hid (by unfold keepQB; rw [decide_eq_false h1]; rfl)
    go_enter Tryd.func35, Tryd.ntmps35
    go_wp2_with fail
    go_ret
    exact ⟨by rw [HR.out]; rfl, alloc_b w _⟩
end Go.Proofs.YtlcchcbeebakpaaDoor
namespace Go.Proofs.YtlcchcbeebakpaaDoor
open Go.RowKit
theorem pow_of_laidH {W : World} (h : laidMetH Tryd.prog Rows.hopOnceRow.laid W) : PowTab W := by
  rw [MakeChecks.laidMetH_plain _ _ _ (by kernel_rfl)] at h
  obtain ⟨ps, hv, _⟩ := h
  obtain ⟨q1, hv1⟩ := laid_rest hv
  obtain ⟨q2, hv2⟩ := laid_rest hv1
  exact laid_tab (g := 3) (t := 149) (e := 138) (n := 20) (by kernel_rfl) (by kernel_rfl) Tryd.underlying149 Tryd.underlying138 (by kernel_rfl) (by kernel_rfl) hv2
end Go.Proofs.YtlcchcbeebakpaaDoor
namespace Go.Proofs.YtlcchcbeebakpaaDoor
open Go.RowKit Go.Shelf
attribute [local go_sem] Oper.semAt_some
set_option linter.unusedSimpArgs false

theorem i64_bds {n : Int} (h : (Lit.int .i64 n).wf = true) : -9223372036854775808 ≤ n ∧ n ≤ 9223372036854775807 := by
  have h2 : decide (-9223372036854775808 ≤ n) && decide (n ≤ 9223372036854775807) := h
  simpa using h2
theorem getF_app2 (n : List UInt8) (a b : List Fd) : getF n (a ++ b) = getF n a ++ getF n b := by unfold getF; rw [List.filter_append, List.map_append]
theorem getF_sub {n : List UInt8} {xs : List Fd} {p : Fd → Bool} (h : ∀ x ∈ xs, isF n x = true → p x = false) : getF n (xs.filter p) = [] := by
  unfold getF
  rw [List.map_eq_nil_iff, List.filter_filter, List.filter_eq_nil_iff]
  intro x hx
  cases hf : isF n x with
  | false => simp
  | true => rw [h x hx hf]; simp
theorem getF_same {n : List UInt8} {xs : List Fd} {p : Fd → Bool} (h : ∀ x ∈ xs, isF n x = true → p x = true) : getF n (xs.filter p) = getF n xs := by
  unfold getF
  rw [List.filter_filter]
  congr 1
  refine List.filter_congr fun x hx => ?_
  cases hf : isF n x with
  | false => rfl
  | true => rw [h x hx hf]; rfl
theorem fold_lows {a b : List UInt8} : foldB a b = (lowL a == lowL b) := by
  unfold foldB
  by_cases h : lowL a = lowL b
  · have : a.length = b.length := by have := congrArg List.length h; simpa [lowL_length] using this
    simp [h, this]
  · simp [h]
theorem one_lows {a b : List UInt8} (h : lowL a = lowL b) (l : List (List UInt8)) : oneB a l = oneB b l := by rw [oneB_any, oneB_any, h]
theorem out_rng {n : ByteArray} (hn : n ∈ rngN) (mn : Int) (s : ByteArray) (xs : List Fd) : getF (bs n) (outL mn s xs) = [] := by
  unfold outL
  refine getF_sub fun x _ hf => ?_
  unfold isF at hf
  rw [fold_lows] at hf
  have hl : lowL (bs x.1) = lowL (bs n) := by simpa using hf
  unfold noneB
  rw [one_lows hl]
  have hm : oneB (bs n) (rngN.map bs) = true := by
    simp only [rngN, List.mem_cons, List.not_mem_nil, or_false] at hn
    rcases hn with rfl | rfl <;> decide +kernel
  rw [hm]; rfl
theorem strip_conn (xs : List Fd) : getF (bs nConn) (stripL xs) = [] := strip_none xs (by simp)
theorem via_notconn (mn : Int) (s : ByteArray) : getF (bs nConn) [(nVia, viaS mn s)] = [] := by
  unfold getF
  rw [List.filter_cons_of_neg (by show ¬ (foldB (bs nVia) (bs nConn) = true); decide +kernel)]; rfl
theorem out_conn (mn : Int) (s : ByteArray) (xs : List Fd) : getF (bs nConn) (outL mn s xs) = [] := by
  rw [outL_eq]
  unfold viaL
  rw [getF_app2, via_notconn, List.append_nil]
  have h := strip_conn xs
  unfold getF at h ⊢
  rw [List.map_eq_nil_iff, List.filter_eq_nil_iff] at h ⊢
  intro x hx
  exact h x (List.mem_filter.1 hx).1
theorem via_keeps {x : Fd} (conn : List (List UInt8)) (hf : isF (bs nVia) x = true) : stripB conn x = true := by
  unfold isF at hf
  rw [fold_lows] at hf
  have hl : lowL (bs x.1) = lowL (bs nVia) := by simpa using hf
  unfold stripB
  rw [one_lows hl (fixedN.map bs), one_lows hl (keptN.map bs), show oneB (bs nVia) (fixedN.map bs) = false from by decide +kernel, show oneB (bs nVia) (keptN.map bs) = true from by decide +kernel]
  simp
theorem via_none {x : Fd} (hf : isF (bs nVia) x = true) : noneB (rngN.map bs) x = true := by
  unfold isF at hf
  rw [fold_lows] at hf
  have hl : lowL (bs x.1) = lowL (bs nVia) := by simpa using hf
  unfold noneB
  rw [one_lows hl, show oneB (bs nVia) (rngN.map bs) = false from by decide +kernel]; rfl
theorem out_via (mn : Int) (s : ByteArray) (xs : List Fd) : (getF (bs nVia) (outL mn s xs)).length = (getF (bs nVia) xs).length + 1 := by
  rw [outL_eq]
  unfold viaL
  rw [getF_app2, List.length_append, getF_same (fun x _ hf => via_none hf)]
  unfold stripL
  rw [getF_same (fun x _ hf => via_keeps _ hf)]
  have : getF (bs nVia) [(nVia, viaS mn s)] = [viaS mn s] := by
    unfold getF
    rw [List.filter_cons_of_pos (by show foldB (bs nVia) (bs nVia) = true; decide +kernel)]; rfl
  rw [this]; rfl
theorem out_last (mn : Int) (s : ByteArray) (xs : List Fd) : 1 ≤ (outL mn s xs).length ∧ (outL mn s xs).length ≤ xs.length + 1 ∧ (outL mn s xs)[(outL mn s xs).length - 1]? = some (⟨#[86, 105, 97]⟩, viaS mn s) := by
  rw [outL_eq]
  unfold viaL
  have h1 : ((stripL xs).filter (noneB (rngN.map bs))).length ≤ xs.length := Nat.le_trans (List.length_filter_le _ _) (strip_len xs)
  refine ⟨by simp, by simpa using h1, ?_⟩
  rw [List.length_append, List.length_singleton, Nat.add_sub_cancel, List.getElem?_append_right (Nat.le_refl _), Nat.sub_self]; rfl
theorem outL_z {mn : Int} (h0 : -9223372036854775808 ≤ mn) (h1 : mn ≤ 9223372036854775807) {s : ByteArray} {xs : List Fd} (hs : s.size ≤ 10000) (hz : FldZ xs 100000) : FldZ (outL mn s xs) 100000 := (viaL_z h0 h1 hs (strip_z hz)).filter _
theorem keep3x {w1 w2 w3 : World} {p1 p2 : Addr} {v1 v2 : Value} (h : w1.cell? p1 = some v1 ∧ w1.cell? p2 = some v2 ∧ Below w3.heap.size w3 w1) (hb : Below w1.heap.size w1 w2) : w2.cell? p1 = some v1 ∧ w2.cell? p2 = some v2 ∧ Below w3.heap.size w3 w2 := by
  obtain ⟨h1, h2, hl⟩ := h
  exact ⟨(hb.cell (cell_lt h1)).trans h1, (hb.cell (cell_lt h2)).trans h2, step_b hl hb⟩
theorem last3x {w1 w3 : World} {p1 p2 : Addr} {v1 v2 : Value} (h : w1.cell? p1 = some v1 ∧ w1.cell? p2 = some v2 ∧ Below w3.heap.size w3 w1) : Below w3.heap.size w3 w1 := h.2.2
set_option maxHeartbeats 12800000 in
set_option maxRecDepth 100000 in
theorem cleans_walk (m tg : ByteArray) (mn : Int) (oa : Option Addr) (xs : List Fd) (cap : Nat) (bd s : ByteArray) (w : World)
    (hn : xs.length ≤ 9223372036854775807) (_ : m.size ≤ 9223372036854775807) (_ : tg.size ≤ 9223372036854775807) (_ : bd.size ≤ 9223372036854775807) (hmw : (Lit.int .i64 mn).wf = true) (hc : FldO w oa xs) (_ : s.size ≤ 9223372036854775807) (htab : PowTab w) :
    Calls Tryd.prog 10 #[reqV m tg mn oa xs.length cap bd, .string s] w fun e w' => e = .returned (.bool true) ∧ Below w.heap.size w w' := by
  have R0 := RowAt.new w (reqC m tg mn oa xs.length cap bd) 54
  have b0 := alloc_b w (.cells (reqC m tg mn oa xs.length cap bd).toArray 54)
  have HC := Lib.hid hc
  have HT := Lib.hid htab
  obtain ⟨h0, h1⟩ : -9223372036854775808 ≤ mn ∧ mn ≤ 9223372036854775807 := i64_bds hmw
  clear hc htab hmw
  cases hk : keepQB m tg bd xs with
  | false =>
    have HK := Lib.hid hk
    clear hk
    go_enter Tryd.func10, Tryd.ntmps10
    go_wp2_with fail
    refine (keepQ_any m tg mn oa xs cap bd _ hn (HC.out.down b0)).mono ?_
    rintro e w1 ⟨rfl, hb1⟩
    rw [HK.out]
    go_wp2_with fail
    go_ret
    exact ⟨rfl, step_b b0 hb1⟩
  | true =>
    obtain ⟨_, _, _, hn70, hz⟩ := keepQB_true hk
    have HZ := Lib.hid (hz.up (m := 100000) (by omega))
    have HK := Lib.hid hk
    clear hk hz
    by_cases hs100 : s.size ≤ 100
    · obtain ⟨hl1, hl2, hll⟩ := out_last mn s xs
      have hrg := out_rng (n := nRng) (by simp) mn s xs
      have hif := out_rng (n := nIfR) (by simp) mn s xs
      have hcn := out_conn mn s xs
      have hvi := out_via mn s xs
      have hoz := outL_z h0 h1 (s := s) (by omega) HZ.out
      have HO := fun (W : World) (hb : Below w.heap.size w W) => outgoing_any m tg mn oa xs cap bd s W (by omega) HZ.out (HC.out.down hb) h0 h1 (by omega) (HT.out.below hb)
      obtain ⟨ls, hls⟩ : ∃ ls, ls = outL mn s xs := ⟨_, rfl⟩
      rw [← hls] at hl1 hl2 hll hrg hif hcn hvi hoz HO
      have HOZ := Lib.hid hoz
      have HLL := Lib.hid hll
      have HRG : Hid (decide (0 < (getF (bs nRng) ls).length) = false) := Lib.hid (by rw [hrg]; rfl)
      have HIF : Hid (decide (0 < (getF (bs nIfR) ls).length) = false) := Lib.hid (by rw [hif]; rfl)
      have HCN : Hid (decide (0 < (getF (bs nConn) ls).length) = false) := Lib.hid (by rw [hcn]; rfl)
      have HVI := Lib.hid hvi
      have HOH := Lib.hid HO
      clear hls hrg hif hcn hvi hoz HO hll
      go_enter Tryd.func10, Tryd.ntmps10
      go_wp2_with fail
      refine (keepQ_any m tg mn oa xs cap bd _ hn (HC.out.down b0)).mono ?_
      rintro e w1 ⟨rfl, hb1⟩
      rw [HK.out]
      have R1 := R0.below hb1
      have b1 := step_b b0 hb1
      clear R0 hb1 b0
      go_wp2_with (refine wpList_load_rowAt rfl _ 54 (.tmp 2) rfl w.heap.size 54 (reqC m tg mn oa xs.length cap bd) R1 rfl _ Tryd.underlying54 req_size ?_)
      refine (HOH.out w1 b1).mono ?_
      rintro e w2 ⟨ob, cb, rfl, FB2, hb2⟩
      have b3 := step_b (step_b b1 hb2) (alloc_b w2 (.cells (reqC m tg 1 ob ls.length cb bd).toArray 54))
      have R3 := (R1.below hb2).alloc (.cells (reqC m tg 1 ob ls.length cb bd).toArray 54)
      have V3 := RowAt.new w2 (reqC m tg 1 ob ls.length cb bd) 54
      have FO3 := FB2.fld.down (alloc_b w2 (.cells (reqC m tg 1 ob ls.length cb bd).toArray 54))
      have v3 := V3.cell 3 rfl
      have F3 := Lib.hid FO3
      clear FB2 hb2 R1 b1 HOH FO3
      go_wp2_with fail
      refine (rhas_any ob ls cb nRng _ (by decide) (by omega) HOZ.out F3.out).mono ?_
      rintro e w4 ⟨rfl, hb4⟩
      rw [HRG.out]
      have b4 := step_b b3 hb4
      have R4 := R3.below hb4
      have V4 := V3.below hb4
      have F4 := Lib.hid (F3.out.down hb4)
      clear b3 R3 V3 F3 hb4 v3
      have v3 := V4.cell 3 rfl
      go_wp2_with fail
      refine (rhas_any ob ls cb nIfR _ (by decide) (by omega) HOZ.out F4.out).mono ?_
      rintro e w5 ⟨rfl, hb5⟩
      rw [HIF.out]
      have b5 := step_b b4 hb5
      have R5 := R4.below hb5
      have V5 := V4.below hb5
      have F5 := Lib.hid (F4.out.down hb5)
      clear b4 R4 V4 F4 hb5 v3
      have v3 := V5.cell 3 rfl
      go_wp2_with fail
      refine (rhas_any ob ls cb nConn _ (by decide) (by omega) HOZ.out F5.out).mono ?_
      rintro e w6 ⟨rfl, hb6⟩
      rw [HCN.out]
      have b6 := step_b b5 hb6
      have R6 := R5.below hb6
      have V6 := V5.below hb6
      have F6 := Lib.hid (F5.out.down hb6)
      clear b5 R5 V5 F5 hb6 v3
      obtain ⟨ad, had, cl0, cl1⟩ := F6.out.at HLL.out
      subst had
      have v0 := V6.cell 0 rfl
      have v2 := V6.cell 2 rfl
      have v3 := V6.cell 3 rfl
      have v4 := V6.cell 4 rfl
      have r0 := R6.cell 0 rfl
      have r3 := R6.cell 3 rfl
      have r4 := R6.cell 4 rfl
      clear cl1
      go_wp2_with fail
      obtain ⟨gs, has⟩ : ∃ gs, gs = getF (bs nVia) ls := ⟨_, rfl⟩
      obtain ⟨cs, hcs⟩ : ∃ cs, cs = getF (bs nVia) xs := ⟨_, rfl⟩
      have hal : gs.length = cs.length + 1 := by rw [has, hcs]; exact HVI.out
      have hcl : cs.length ≤ 70 := by rw [hcs]; exact Nat.le_trans (getF_len _ _) hn70
      have HAS := Lib.hid has
      have HCS := Lib.hid hcs
      have hwr : IntKind.i64.wrap ((cs.length : Int) + 1) = (cs.length : Int) + 1 := IntWalk.i64_in _ (by omega)
      have heq : ((gs.length : Int) == (cs.length : Int) + 1) = true := by rw [hal]; simp
      have HAL := Lib.hid hal
      clear has hcs hal cl0 v0 v2 v4 r0 r4
      go_region_held3 (fun w' => w'.cell? ⟨w2.heap.size, 3, none⟩ = some (.slice (some ad) ls.length cb) ∧ w'.cell? ⟨w.heap.size, 3, none⟩ = some (.slice oa xs.length cap) ∧ Below w6.heap.size w6 w') (first | assumption | exact ⟨v3, r3, (Below.refl _ _).drew⟩ | (exact keep3x (by first | assumption | exact ⟨v3, r3, (Below.refl _ _).drew⟩) hb)) (first | (go_at_call 28; refine (rget_any _ _ _ nVia _ (by decide) (by omega) (by first | exact HOZ.out | exact HZ.out) (by first | exact F6.out.down (by first | exact (Below.refl _ _).drew | exact last3x (by assumption)) | exact HC.out.down (step_b b6 (by first | exact (Below.refl _ _).drew | exact last3x (by assumption))))).mono ?_; rintro e w' ⟨v, rfl, SB, hb⟩; (first | rw [← HAS.out] at SB | rw [← HCS.out] at SB); obtain ⟨oz, cz, rfl, _⟩ := SB.shape) | (go_at_call 40; refine (awake31_any _).mono ?_; rintro e w' ⟨rfl, hb⟩))
      all_goals
        have hq : Below w6.heap.size w6 _ := last3x (by assumption)
        go_wp2_with fail
        go_ret
        exact ⟨rfl, step_b b6 hq⟩
    · go_enter Tryd.func10, Tryd.ntmps10
      go_wp2_with fail
      refine (keepQ_any m tg mn oa xs cap bd _ hn (HC.out.down b0)).mono ?_
      rintro e w1 ⟨rfl, hb1⟩
      rw [HK.out]
      go_wp2_with fail
      go_ret
      exact ⟨rfl, step_b b0 hb1⟩
end Go.Proofs.YtlcchcbeebakpaaDoor
