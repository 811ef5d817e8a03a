/- Regions that draw their order and whose last operations store into cells that earlier operations load: what is held is held until the first such store. -/
import Derived.OrdersHeld
import Derived.StillTail
import Derived.Deep.RegionHeld
import Derived.WalkKit
namespace Go.Proofs.YtfnmohaddkoalaaGreatDoor
open Go
section
variable {P : Program} {ops : Array Oper} {Q : Exit → Act → World → Prop} {md : Region.Mode} {k : Nat} {c : World → Prop}

/-- Whatever order is picked from here on; c holds behind every operation, until operation k has come up. -/
def wpAnyK (P : Program) (md : Region.Mode) (ops : Array Oper) (Q : Exit → Act → World → Prop) (k : Nat) (c : World → Prop) : Nat → Array Bool → Act → World → Prop
  | 0, listed, a, w => Region.ready md ops listed = [] ∧ Q .normal a w
  | fuel + 1, listed, a, w =>
    (Region.ready md ops listed = [] → Q .normal a w) ∧
    ∀ i ∈ Region.ready md ops listed, wpOp P ops Q i (fun a' w' => ((listed.setIfInBounds i true).getD k false = false → c w') ∧ wpAnyK P md ops Q k c fuel (listed.setIfInBounds i true) a' w') a w
theorem wpAny_of_K : ∀ (fuel : Nat) (listed : Array Bool) (a : Act) (w : World), wpAnyK P md ops Q k c fuel listed a w → wpAny P md ops Q fuel listed a w
  | 0, _, _, _, h => h
  | fuel + 1, _, _, _, h => ⟨h.1, fun i hi => wpOp_mono (fun a' w' h' => wpAny_of_K fuel _ a' w' h'.2) (h.2 i hi)⟩
def ClosedL (md : Region.Mode) (ops : Array Oper) (listed : Array Bool) : Prop :=
  ∀ j oj, ops[j]? = some oj → listed.getD j false = true → ∀ e ∈ oj.after, Region.binds md e = true → listed.getD e.on false = true
theorem ClosedL.set {listed : Array Bool} (h : ClosedL md ops listed) {i : Nat} (hi : i ∈ Region.ready md ops listed) : ClosedL md ops (listed.setIfInBounds i true) := by
  obtain ⟨_, oi, hoi, hall⟩ := mem_ready.1 hi
  intro j oj hj hl e he hb
  by_cases hij : i = j
  · subst hij
    have : oj = oi := Option.some.inj (hj.symm.trans hoi)
    subst this
    exact getD_set_true (hall e he hb)
  · rw [getD_set_ne false hij] at hl
    exact getD_set_true (h j oj hj hl e he hb)
theorem ClosedL.none (md : Region.Mode) (ops : Array Oper) (m : Nat) : ClosedL md ops (Array.replicate m false) := fun j _ _ hl => by
  rw [getD_replicate_false] at hl; cases hl
def closedB (md : Region.Mode) (ops : Array Oper) (listed : Array Bool) : Bool :=
  (List.range ops.size).all fun j => !listed.getD j false || ((ops[j]?).map (·.after.all fun e => !Region.binds md e || listed.getD e.on false)).getD true
theorem closedB_spec {listed : Array Bool} (h : closedB md ops listed = true) : ClosedL md ops listed := by
  intro j oj hj hl e he hb
  have hlt : j < ops.size := (Array.getElem?_eq_some_iff.1 hj).1
  have h1 := List.all_eq_true.1 h j (List.mem_range.2 hlt)
  rw [hl, hj] at h1
  simp only [Bool.not_true, Bool.false_or, Option.map_some, Option.getD_some, Array.all_eq_true_iff_forall_mem, Bool.or_eq_true, Bool.not_eq_true'] at h1
  rcases h1 e he with h2 | h2
  · rw [hb] at h2; cases h2
  · exact h2
/-- Each of the list's operations waits for the one ahead of it. -/
def pathB (md : Region.Mode) (ops : Array Oper) : Nat → List Nat → Nat → Bool
  | i, [], k => i == k
  | i, j :: r, k => Region.waitsFor md ops j i && pathB md ops j r k
theorem path_unlisted {listed : Array Bool} (hcl : ClosedL md ops listed) {k : Nat} : ∀ (r : List Nat) (i : Nat), pathB md ops i r k = true → listed.getD i false = false → listed.getD k false = false
  | [], i, h, hu => by
    have : i = k := by simpa [pathB] using h
    subst this; exact hu
  | j :: r, i, h, hu => by
    simp only [pathB, Bool.and_eq_true] at h
    obtain ⟨oj, hj, e, he, hb, hon⟩ := Region.waitsFor_spec h.1
    refine path_unlisted hcl r j h.2 ?_
    cases hl : listed.getD j false with
    | false => rfl
    | true =>
      have := hcl j oj hj hl e he hb
      rw [hon, hu] at this; cases this

theorem wpAnyK_first {i : Nat} {oi : Oper} {v : Value} {c' : World → Prop} (hi : ops[i]? = some oi) (hsel : ∀ (j : Nat) (o : Oper) cs b, ops[j]? = some o → o.op ≠ .select cs b)
    (hQ : ∀ c a w, Q (.panic c) (a.put oi.dst v) w → Q (.panic c) a w) (hik : i ≠ k)
    (hc' : ∀ (l : Array Bool) (w : World), ClosedL md ops l → l.getD i false = false → (l.getD k false = false → c w) → c' w) :
    ∀ (fuel : Nat) (listed : Array Bool) (a : Act) (w : World), ClosedL md ops listed →
      (∀ j oj, ops[j]? = some oj → j ≠ i → listed.getD j true = false → (∀ e ∈ oj.after, Region.binds md e = true → e.on ≠ i) → oi.apart ops oj = true) →
      i ∈ Region.ready md ops listed → YieldsIf P ops c' oi v a → (listed.getD k false = false → c w) →
      wpAnyK P md ops Q k c fuel (listed.setIfInBounds i true) (a.put oi.dst v) w → wpAnyK P md ops Q k c (fuel + 1) listed a w := by
  intro fuel
  induction fuel with
  | zero =>
    intro listed a w hcl _ hr hy hS H
    have hS' := hc' listed w hcl (getD_both (mem_ready.1 hr).1) hS
    refine ⟨fun h => (by rw [h] at hr; cases hr), fun j hj => ?_⟩
    by_cases hji : j = i
    · subst hji; exact hy.wpOp hi hS' ⟨fun h => hS (by rw [getD_set_ne false hik] at h; exact h), H⟩
    · have := ready_mono hj hji
      rw [H.1] at this
      cases this
  | succ fuel ih =>
    intro listed a w hcl hfree hr hy hS H
    have hS' := hc' listed w hcl (getD_both (mem_ready.1 hr).1) hS
    refine ⟨fun h => (by rw [h] at hr; cases hr), fun j hj => ?_⟩
    by_cases hji : j = i
    · subst hji; exact hy.wpOp hi hS' ⟨fun h => hS (by rw [getD_set_ne false hik] at h; exact h), H⟩
    · have h1 := H.2 j (ready_mono hj hji)
      obtain ⟨hjun, oj, hoj, hall⟩ := mem_ready.1 hj
      have hnot : ∀ e ∈ oj.after, Region.binds md e = true → e.on ≠ i := fun e he hb heq => by
        have h1 := hall e he hb
        rw [heq, getD_both (mem_ready.1 hr).1] at h1
        cases h1
      have h2 := wpOp_putIf hoj (hfree j oj hoj hji hjun hnot) (fun cs b => hsel i oi cs b hi) (fun cs b => hsel j oj cs b hoj) hQ hy h1
      have hfree' : ∀ k ok, ops[k]? = some ok → k ≠ i → (listed.setIfInBounds j true).getD k true = false →
          (∀ e ∈ ok.after, Region.binds md e = true → e.on ≠ i) → oi.apart ops ok = true := fun k ok hk hki hun hno => by
        refine hfree k ok hk hki ?_ hno
        by_cases hjk : j = k
        · subst hjk; exact hjun
        · rw [getD_set_ne true hjk] at hun; exact hun
      refine wpOp_mono (fun a' w' h3 => ?_) h2
      have hs2 : (listed.setIfInBounds j true).getD k false = false → c w' := fun h => h3.2.1 (by
        rw [Array.setIfInBounds_comm _ _ (Ne.symm hji), getD_set_ne false hik]; exact h)
      refine ⟨hs2, ih (listed.setIfInBounds j true) a' w' (hcl.set hj) hfree' (ready_mono hr (Ne.symm hji)) h3.1 hs2 ?_⟩
      rw [Array.setIfInBounds_comm _ _ hji]
      exact h3.2.2

/-- An operation that yields its value in whatever world is taken first. -/
theorem wpK_pure {i : Nat} {oi : Oper} {v : Value} {fuel : Nat} {listed : Array Bool} {a : Act} {w : World} (hi : ops[i]? = some oi)
    (hB : (Region.noSelect ops && Region.free md ops listed i && (Region.ready md ops listed).contains i && closedB md ops listed && decide (i ≠ k)) = true)
    (hQ : ∀ c a w, Q (.panic c) (a.put oi.dst v) w → Q (.panic c) a w) (hw : Region.wanted oi (yielded ops a.tmps) = true) (hy : ∀ w, (execOp a.eval oi).run P w = .ok (.value v) w) (hS : listed.getD k false = false → c w)
    (h : wpAnyK P md ops Q k c fuel (listed.setIfInBounds i true) (a.put oi.dst v) w) : wpAnyK P md ops Q k c (fuel + 1) listed a w := by
  simp only [Bool.and_eq_true, decide_eq_true_eq] at hB
  obtain ⟨⟨⟨⟨h1, h2⟩, h3⟩, h4⟩, h5⟩ := hB
  exact wpAnyK_first (c' := fun _ => True) hi (Region.noSelect_spec h1) hQ h5 (fun _ _ _ _ _ => trivial) fuel listed a w (closedB_spec h4) (Region.free_spec hi h2) (by simpa using h3) (.inl ⟨hw, fun w _ => hy w⟩) hS h
/-- A load whose cell c names, and for which operation k waits, is taken first. -/
theorem wpK_load {i : Nat} {oi : Oper} {v : Value} {fuel : Nat} {listed : Array Bool} {a : Act} {w : World} (path : List Nat) (hi : ops[i]? = some oi)
    (hB : (Region.noSelect ops && Region.free md ops listed i && (Region.ready md ops listed).contains i && closedB md ops listed && decide (i ≠ k) && pathB md ops i path k) = true)
    (hQ : ∀ c a w, Q (.panic c) (a.put oi.dst v) w → Q (.panic c) a w) (hw : Region.wanted oi (yielded ops a.tmps) = true) (hy : ∀ w, c w → (execOp a.eval oi).run P w = .ok (.value v) w) (hS : listed.getD k false = false → c w)
    (h : wpAnyK P md ops Q k c fuel (listed.setIfInBounds i true) (a.put oi.dst v) w) : wpAnyK P md ops Q k c (fuel + 1) listed a w := by
  simp only [Bool.and_eq_true, decide_eq_true_eq] at hB
  obtain ⟨⟨⟨⟨⟨h1, h2⟩, h3⟩, h4⟩, h5⟩, h6⟩ := hB
  exact wpAnyK_first (c' := c) hi (Region.noSelect_spec h1) hQ h5 (fun l w hcl hu hs => hs (path_unlisted hcl path i h6 hu)) fuel listed a w (closedB_spec h4) (Region.free_spec hi h2) (by simpa using h3) (.inl ⟨hw, hy⟩) hS h
/-- Each of the operations rs comes up next. -/
def AllK (P : Program) (md : Region.Mode) (ops : Array Oper) (Q : Exit → Act → World → Prop) (k : Nat) (c : World → Prop) (fuel : Nat) (listed : Array Bool) (a : Act) (w : World) (rs : List Nat) : Prop :=
  ∀ i ∈ rs, wpOp P ops Q i (fun a' w' => ((listed.setIfInBounds i true).getD k false = false → c w') ∧ wpAnyK P md ops Q k c fuel (listed.setIfInBounds i true) a' w') a w
theorem AllK.nil {fuel : Nat} {listed : Array Bool} {a : Act} {w : World} : AllK P md ops Q k c fuel listed a w [] := fun _ h => by cases h
theorem AllK.cons {fuel : Nat} {listed : Array Bool} {a : Act} {w : World} {i : Nat} {o : Oper} {rs : List Nat} (ho : ops[i]? = some o)
    (h : ∀ K' : Act → World → Prop, Shut (∀ a w, ((listed.setIfInBounds i true).getD k false = false → c w) → (((listed.setIfInBounds i true).getD k false = false → c w) → wpAnyK P md ops Q k c fuel (listed.setIfInBounds i true) a w) → K' a w) → if Region.wanted o (yielded ops a.tmps) = true then Oper.wp P o a w K' Q else K' (a.put o.dst undef) w)
    (hs : AllK P md ops Q k c fuel listed a w rs) : AllK P md ops Q k c fuel listed a w (i :: rs) := fun j hj => by
  rcases List.mem_cons.1 hj with rfl | hj
  · exact wpOp_step ho (fun K' hK => h K' (fun a w hS hW => hK a w ⟨hS, hW hS⟩))
  · exact hs j hj
theorem wpK_ready {fuel : Nat} {listed : Array Bool} {a : Act} {w : World} (rs : List Nat) (hr : Region.ready md ops listed = rs) (hne : rs ≠ [])
    (h : AllK P md ops Q k c fuel listed a w rs) : wpAnyK P md ops Q k c (fuel + 1) listed a w :=
  ⟨fun h0 => absurd (hr ▸ h0) hne, hr ▸ h⟩
theorem wpK_done {listed : Array Bool} {a : Act} {w : World} (hr : Region.ready md ops listed = []) (h : Q .normal a w) : ∀ fuel, wpAnyK P md ops Q k c fuel listed a w
  | 0 => ⟨hr, h⟩
  | _ + 1 => ⟨fun _ => h, by rw [hr]; simp⟩
theorem wp_region_K (k : Nat) (c : World → Prop) {id : Nat} {a : Act} {w : World} (hm : P.follows .mixedOrders = true) (hS : c w.drew)
    (h : c w.drew → wpAnyK P .any ops Q k c ops.size (Array.replicate ops.size false) a w.drew) : (Code.region id ops true).wp P Q a w :=
  wp_region_any hm (wpAny_of_K _ _ _ _ (h hS))
end
end Go.Proofs.YtfnmohaddkoalaaGreatDoor
