/- Regions that draw their order and whose last operations store into cells that earlier operations load: what is held is held until the first such store. The walk of condition.Reduce (31.4). The walks of condition.Conditional, keep.SameResponse and the sanity check of layer 31. The walk of the reference's ParseDate (20.2). The walks of the reference's entity tags (layer 21): tagText, ParseETag, ETagOf; firstDate, Validator. The walk of condition.Outgoing (31.1). Printed by gen_outw.py. The walks of the reference's ETagOf, firstDate, Validator (layers 21, 23, 24). The walks of the reference's without, Outgoing, Validation, Conditional (31.1, 31.2) and FormatETag (21.1), and of keep.SameRequest. Printed by gen_rcond.py. The walk of variantproxykeep.Strings. Entries among the arguments, opened; keep.Keys and keep.Entry walked. The walk of keep.Request. What the listed variables give the walk of ConditionRequests: the table of powers of ten. The walk of ConditionRequests (law 31). Printed by gen_reql.py. -/
import Derived.OrdersHeld
import Derived.StillTail
import Derived.Deep.RegionHeld
import Derived.WalkKit
import Derived.Test.YtjafkpedocdfjaaGreatDoorFldB
import Derived.Test.YtjafkpedocdfjaaGreatDoorCondW
import Derived.Test.YtjafkpedocdfjaaGreatDoorCondV
import Derived.Test.YtjafkpedocdfjaaGreatDoorDateW3
import Derived.Test.YtjafkpedocdfjaaGreatDoorRFld
import Derived.Test.YtjafkpedocdfjaaGreatDoorEtagX
import Derived.RegionTactic
import Derived.Test.YtjafkpedocdfjaaGreatDoorHopL
import Derived.Test.YtjafkpedocdfjaaGreatDoorStrs
import Derived.WalkSpells
import Derived.WalkLawsBesides
import Derived.Test.YtjafkpedocdfjaaGreatDoorArgO
import Derived.Test.YtjafkpedocdfjaaGreatDoorDecW
import Derived.Test.YtjafkpedocdfjaaGreatDoorPost
namespace Go.Proofs.YtjafkpedocdfjaaGreatDoor
open Go
section
variable {P : Program} {ops : Array Oper} {Q : Exit → Act → World → Prop} {md : Region.Mode} {k : Nat} {c : World → Prop}

/-- Whatever order is picked from here on; c holds behind every operation, until operation k has come up. -/
def wpAnyK (P : Program) (md : Region.Mode) (ops : Array Oper) (Q : Exit → Act → World → Prop) (k : Nat) (c : World → Prop) : Nat → Array Bool → Act → World → Prop
  | 0, listed, a, w => Region.ready md ops listed = [] ∧ Q .normal a w
  | fuel + 1, listed, a, w =>
    (Region.ready md ops listed = [] → Q .normal a w) ∧
    ∀ i ∈ Region.ready md ops listed, wpOp P ops Q i (fun a' w' => ((listed.setIfInBounds i true).getD k false = false → c w') ∧ wpAnyK P md ops Q k c fuel (listed.setIfInBounds i true) a' w') a w
theorem wpAny_of_K : ∀ (fuel : Nat) (listed : Array Bool) (a : Act) (w : World), wpAnyK P md ops Q k c fuel listed a w → wpAny P md ops Q fuel listed a w
  | 0, _, _, _, h => h
  | fuel + 1, _, _, _, h => ⟨h.1, fun i hi => wpOp_mono (fun a' w' h' => wpAny_of_K fuel _ a' w' h'.2) (h.2 i hi)⟩
def ClosedL (md : Region.Mode) (ops : Array Oper) (listed : Array Bool) : Prop :=
  ∀ j oj, ops[j]? = some oj → listed.getD j false = true → ∀ e ∈ oj.after, Region.binds md e = true → listed.getD e.on false = true
theorem ClosedL.set {listed : Array Bool} (h : ClosedL md ops listed) {i : Nat} (hi : i ∈ Region.ready md ops listed) : ClosedL md ops (listed.setIfInBounds i true) := by
  obtain ⟨_, oi, hoi, hall⟩ := mem_ready.1 hi
  intro j oj hj hl e he hb
  by_cases hij : i = j
  · subst hij
    have : oj = oi := Option.some.inj (hj.symm.trans hoi)
    subst this
    exact getD_set_true (hall e he hb)
  · rw [getD_set_ne false hij] at hl
    exact getD_set_true (h j oj hj hl e he hb)
theorem ClosedL.none (md : Region.Mode) (ops : Array Oper) (m : Nat) : ClosedL md ops (Array.replicate m false) := fun j _ _ hl => by
  rw [getD_replicate_false] at hl; cases hl
def closedB (md : Region.Mode) (ops : Array Oper) (listed : Array Bool) : Bool :=
  (List.range ops.size).all fun j => !listed.getD j false || ((ops[j]?).map (·.after.all fun e => !Region.binds md e || listed.getD e.on false)).getD true
theorem closedB_spec {listed : Array Bool} (h : closedB md ops listed = true) : ClosedL md ops listed := by
  intro j oj hj hl e he hb
  have hlt : j < ops.size := (Array.getElem?_eq_some_iff.1 hj).1
  have h1 := List.all_eq_true.1 h j (List.mem_range.2 hlt)
  rw [hl, hj] at h1
  simp only [Bool.not_true, Bool.false_or, Option.map_some, Option.getD_some, Array.all_eq_true_iff_forall_mem, Bool.or_eq_true, Bool.not_eq_true'] at h1
  rcases h1 e he with h2 | h2
  · rw [hb] at h2; cases h2
  · exact h2
/-- Each of the list's operations waits for the one ahead of it. -/
def pathB (md : Region.Mode) (ops : Array Oper) : Nat → List Nat → Nat → Bool
  | i, [], k => i == k
  | i, j :: r, k => Region.waitsFor md ops j i && pathB md ops j r k
theorem path_unlisted {listed : Array Bool} (hcl : ClosedL md ops listed) {k : Nat} : ∀ (r : List Nat) (i : Nat), pathB md ops i r k = true → listed.getD i false = false → listed.getD k false = false
  | [], i, h, hu => by
    have : i = k := by simpa [pathB] using h
    subst this; exact hu
  | j :: r, i, h, hu => by
    simp only [pathB, Bool.and_eq_true] at h
    obtain ⟨oj, hj, e, he, hb, hon⟩ := Region.waitsFor_spec h.1
    refine path_unlisted hcl r j h.2 ?_
    cases hl : listed.getD j false with
    | false => rfl
    | true =>
      have := hcl j oj hj hl e he hb
      rw [hon, hu] at this; cases this

theorem wpAnyK_first {i : Nat} {oi : Oper} {v : Value} {c' : World → Prop} (hi : ops[i]? = some oi) (hsel : ∀ (j : Nat) (o : Oper) cs b, ops[j]? = some o → o.op ≠ .select cs b)
    (hQ : ∀ c a w, Q (.panic c) (a.put oi.dst v) w → Q (.panic c) a w) (hik : i ≠ k)
    (hc' : ∀ (l : Array Bool) (w : World), ClosedL md ops l → l.getD i false = false → (l.getD k false = false → c w) → c' w) :
    ∀ (fuel : Nat) (listed : Array Bool) (a : Act) (w : World), ClosedL md ops listed →
      (∀ j oj, ops[j]? = some oj → j ≠ i → listed.getD j true = false → (∀ e ∈ oj.after, Region.binds md e = true → e.on ≠ i) → oi.apart ops oj = true) →
      i ∈ Region.ready md ops listed → YieldsIf P ops c' oi v a → (listed.getD k false = false → c w) →
      wpAnyK P md ops Q k c fuel (listed.setIfInBounds i true) (a.put oi.dst v) w → wpAnyK P md ops Q k c (fuel + 1) listed a w := by
  intro fuel
  induction fuel with
  | zero =>
    intro listed a w hcl _ hr hy hS H
    have hS' := hc' listed w hcl (getD_both (mem_ready.1 hr).1) hS
    refine ⟨fun h => (by rw [h] at hr; cases hr), fun j hj => ?_⟩
    by_cases hji : j = i
    · subst hji; exact hy.wpOp hi hS' ⟨fun h => hS (by rw [getD_set_ne false hik] at h; exact h), H⟩
    · have := ready_mono hj hji
      rw [H.1] at this
      cases this
  | succ fuel ih =>
    intro listed a w hcl hfree hr hy hS H
    have hS' := hc' listed w hcl (getD_both (mem_ready.1 hr).1) hS
    refine ⟨fun h => (by rw [h] at hr; cases hr), fun j hj => ?_⟩
    by_cases hji : j = i
    · subst hji; exact hy.wpOp hi hS' ⟨fun h => hS (by rw [getD_set_ne false hik] at h; exact h), H⟩
    · have h1 := H.2 j (ready_mono hj hji)
      obtain ⟨hjun, oj, hoj, hall⟩ := mem_ready.1 hj
      have hnot : ∀ e ∈ oj.after, Region.binds md e = true → e.on ≠ i := fun e he hb heq => by
        have h1 := hall e he hb
        rw [heq, getD_both (mem_ready.1 hr).1] at h1
        cases h1
      have h2 := wpOp_putIf hoj (hfree j oj hoj hji hjun hnot) (fun cs b => hsel i oi cs b hi) (fun cs b => hsel j oj cs b hoj) hQ hy h1
      have hfree' : ∀ k ok, ops[k]? = some ok → k ≠ i → (listed.setIfInBounds j true).getD k true = false →
          (∀ e ∈ ok.after, Region.binds md e = true → e.on ≠ i) → oi.apart ops ok = true := fun k ok hk hki hun hno => by
        refine hfree k ok hk hki ?_ hno
        by_cases hjk : j = k
        · subst hjk; exact hjun
        · rw [getD_set_ne true hjk] at hun; exact hun
      refine wpOp_mono (fun a' w' h3 => ?_) h2
      have hs2 : (listed.setIfInBounds j true).getD k false = false → c w' := fun h => h3.2.1 (by
        rw [Array.setIfInBounds_comm _ _ (Ne.symm hji), getD_set_ne false hik]; exact h)
      refine ⟨hs2, ih (listed.setIfInBounds j true) a' w' (hcl.set hj) hfree' (ready_mono hr (Ne.symm hji)) h3.1 hs2 ?_⟩
      rw [Array.setIfInBounds_comm _ _ hji]
      exact h3.2.2

/-- An operation that yields its value in whatever world is taken first. -/
theorem wpK_pure {i : Nat} {oi : Oper} {v : Value} {fuel : Nat} {listed : Array Bool} {a : Act} {w : World} (hi : ops[i]? = some oi)
    (hB : (Region.noSelect ops && Region.free md ops listed i && (Region.ready md ops listed).contains i && closedB md ops listed && decide (i ≠ k)) = true)
    (hQ : ∀ c a w, Q (.panic c) (a.put oi.dst v) w → Q (.panic c) a w) (hw : Region.wanted oi (yielded ops a.tmps) = true) (hy : ∀ w, (execOp a.eval oi).run P w = .ok (.value v) w) (hS : listed.getD k false = false → c w)
    (h : wpAnyK P md ops Q k c fuel (listed.setIfInBounds i true) (a.put oi.dst v) w) : wpAnyK P md ops Q k c (fuel + 1) listed a w := by
  simp only [Bool.and_eq_true, decide_eq_true_eq] at hB
  obtain ⟨⟨⟨⟨h1, h2⟩, h3⟩, h4⟩, h5⟩ := hB
  exact wpAnyK_first (c' := fun _ => True) hi (Region.noSelect_spec h1) hQ h5 (fun _ _ _ _ _ => trivial) fuel listed a w (closedB_spec h4) (Region.free_spec hi h2) (by simpa using h3) (.inl ⟨hw, fun w _ => hy w⟩) hS h
/-- A load whose cell c names, and for which operation k waits, is taken first. -/
theorem wpK_load {i : Nat} {oi : Oper} {v : Value} {fuel : Nat} {listed : Array Bool} {a : Act} {w : World} (path : List Nat) (hi : ops[i]? = some oi)
    (hB : (Region.noSelect ops && Region.free md ops listed i && (Region.ready md ops listed).contains i && closedB md ops listed && decide (i ≠ k) && pathB md ops i path k) = true)
    (hQ : ∀ c a w, Q (.panic c) (a.put oi.dst v) w → Q (.panic c) a w) (hw : Region.wanted oi (yielded ops a.tmps) = true) (hy : ∀ w, c w → (execOp a.eval oi).run P w = .ok (.value v) w) (hS : listed.getD k false = false → c w)
    (h : wpAnyK P md ops Q k c fuel (listed.setIfInBounds i true) (a.put oi.dst v) w) : wpAnyK P md ops Q k c (fuel + 1) listed a w := by
  simp only [Bool.and_eq_true, decide_eq_true_eq] at hB
  obtain ⟨⟨⟨⟨⟨h1, h2⟩, h3⟩, h4⟩, h5⟩, h6⟩ := hB
  exact wpAnyK_first (c' := c) hi (Region.noSelect_spec h1) hQ h5 (fun l w hcl hu hs => hs (path_unlisted hcl path i h6 hu)) fuel listed a w (closedB_spec h4) (Region.free_spec hi h2) (by simpa using h3) (.inl ⟨hw, hy⟩) hS h
/-- Each of the operations rs comes up next. -/
def AllK (P : Program) (md : Region.Mode) (ops : Array Oper) (Q : Exit → Act → World → Prop) (k : Nat) (c : World → Prop) (fuel : Nat) (listed : Array Bool) (a : Act) (w : World) (rs : List Nat) : Prop :=
  ∀ i ∈ rs, wpOp P ops Q i (fun a' w' => ((listed.setIfInBounds i true).getD k false = false → c w') ∧ wpAnyK P md ops Q k c fuel (listed.setIfInBounds i true) a' w') a w
theorem AllK.nil {fuel : Nat} {listed : Array Bool} {a : Act} {w : World} : AllK P md ops Q k c fuel listed a w [] := fun _ h => by cases h
theorem AllK.cons {fuel : Nat} {listed : Array Bool} {a : Act} {w : World} {i : Nat} {o : Oper} {rs : List Nat} (ho : ops[i]? = some o)
    (h : ∀ K' : Act → World → Prop, Shut (∀ a w, ((listed.setIfInBounds i true).getD k false = false → c w) → (((listed.setIfInBounds i true).getD k false = false → c w) → wpAnyK P md ops Q k c fuel (listed.setIfInBounds i true) a w) → K' a w) → if Region.wanted o (yielded ops a.tmps) = true then Oper.wp P o a w K' Q else K' (a.put o.dst undef) w)
    (hs : AllK P md ops Q k c fuel listed a w rs) : AllK P md ops Q k c fuel listed a w (i :: rs) := fun j hj => by
  rcases List.mem_cons.1 hj with rfl | hj
  · exact wpOp_step ho (fun K' hK => h K' (fun a w hS hW => hK a w ⟨hS, hW hS⟩))
  · exact hs j hj
theorem wpK_ready {fuel : Nat} {listed : Array Bool} {a : Act} {w : World} (rs : List Nat) (hr : Region.ready md ops listed = rs) (hne : rs ≠ [])
    (h : AllK P md ops Q k c fuel listed a w rs) : wpAnyK P md ops Q k c (fuel + 1) listed a w :=
  ⟨fun h0 => absurd (hr ▸ h0) hne, hr ▸ h⟩
theorem wpK_done {listed : Array Bool} {a : Act} {w : World} (hr : Region.ready md ops listed = []) (h : Q .normal a w) : ∀ fuel, wpAnyK P md ops Q k c fuel listed a w
  | 0 => ⟨hr, h⟩
  | _ + 1 => ⟨fun _ => h, by rw [hr]; simp⟩
theorem wp_region_K (k : Nat) (c : World → Prop) {id : Nat} {a : Act} {w : World} (hm : P.follows .mixedOrders = true) (hS : c w.drew)
    (h : c w.drew → wpAnyK P .any ops Q k c ops.size (Array.replicate ops.size false) a w.drew) : (Code.region id ops true).wp P Q a w :=
  wp_region_any hm (wpAny_of_K _ _ _ _ (h hS))
end
end Go.Proofs.YtjafkpedocdfjaaGreatDoor
namespace Go.Proofs.YtjafkpedocdfjaaGreatDoor
open Go.RowKit

abbrev reduN : List ByteArray := [⟨#[65, 103, 101]⟩, ⟨#[67, 97, 99, 104, 101, 45, 67, 111, 110, 116, 114, 111, 108]⟩, ⟨#[67, 111, 110, 116, 101, 110, 116, 45, 76, 111, 99, 97, 116, 105, 111, 110]⟩, ⟨#[68, 97, 116, 101]⟩, ⟨#[69, 84, 97, 103]⟩, ⟨#[69, 120, 112, 105, 114, 101, 115]⟩, ⟨#[76, 97, 115, 116, 45, 77, 111, 100, 105, 102, 105, 101, 100]⟩, ⟨#[86, 97, 114, 105, 97, 110, 116, 115]⟩, ⟨#[86, 97, 114, 105, 97, 110, 116, 45, 75, 101, 121]⟩, ⟨#[86, 97, 114, 121]⟩, ⟨#[86, 105, 97]⟩]
abbrev notMod : ByteArray := ⟨#[78, 111, 116, 32, 77, 111, 100, 105, 102, 105, 101, 100]⟩
def keptB (x : Fd) : Bool := oneB (bs x.1) (reduN.map bs)
theorem take_keep {xs : List Fd} {k : Nat} {x : Fd} (hx : xs[k]? = some x) (h : keptB x = true) : (xs.take (k + 1)).filter keptB = (xs.take k).filter keptB ++ [x] := by
  obtain ⟨hk, he⟩ := List.getElem?_eq_some_iff.1 hx
  rw [List.take_succ_eq_append_getElem hk, List.filter_append, he, List.filter_cons_of_pos h]; rfl
theorem take_skip {xs : List Fd} {k : Nat} {x : Fd} (hx : xs[k]? = some x) (h : keptB x = false) : (xs.take (k + 1)).filter keptB = (xs.take k).filter keptB := by
  obtain ⟨hk, he⟩ := List.getElem?_eq_some_iff.1 hx
  rw [List.take_succ_eq_append_getElem hk, List.filter_append, he, List.filter_cons_of_neg (by rw [h]; simp)]; simp
abbrev reduC (m : Int) (v : Value) : List Value := [.int .i64 m, .int .i64 304, .string notMod, v, .string ⟨#[]⟩]
abbrev zeroC : List Value := [.int .i64 0, .int .i64 0, .string ⟨#[]⟩, .slice none 0 0, .string ⟨#[]⟩]
theorem three_rows (w : World) (X Y Z : List Value) (T : TypeId) : RowAt (((w.alloc (.cells X.toArray T)).alloc (.cells Y.toArray T)).alloc (.cells Z.toArray T)) (w.heap.size + 1) T Y ∧ RowAt (((w.alloc (.cells X.toArray T)).alloc (.cells Y.toArray T)).alloc (.cells Z.toArray T)) (w.heap.size + 1 + 1) T Z ∧
    Below w.heap.size w (((w.alloc (.cells X.toArray T)).alloc (.cells Y.toArray T)).alloc (.cells Z.toArray T)) ∧ w.heap.size + 1 + 1 + 1 ≤ (((w.alloc (.cells X.toArray T)).alloc (.cells Y.toArray T)).alloc (.cells Z.toArray T)).heap.size := by
  have h2 := RowAt.new (w.alloc (.cells X.toArray T)) Y T
  have h3 := RowAt.new ((w.alloc (.cells X.toArray T)).alloc (.cells Y.toArray T)) Z T
  have hs : (w.alloc (.cells X.toArray T)).heap.size = w.heap.size + 1 := Array.size_push _
  have hs2 : ((w.alloc (.cells X.toArray T)).alloc (.cells Y.toArray T)).heap.size = w.heap.size + 1 + 1 := (Array.size_push _).trans (by rw [hs])
  rw [hs] at h2
  rw [hs2] at h3
  exact ⟨h2.alloc _, h3, ((alloc_b w _).alloc (by omega) _).alloc (by omega) _, Nat.le_of_eq ((Array.size_push _).trans (by rw [hs2])).symm⟩
theorem reduN_z : ∀ x ∈ reduN, x.size ≤ 100000 := by decide
theorem reduA_eq : (reduN.map Value.string).toArray = #[.string ⟨#[65, 103, 101]⟩, .string ⟨#[67, 97, 99, 104, 101, 45, 67, 111, 110, 116, 114, 111, 108]⟩, .string ⟨#[67, 111, 110, 116, 101, 110, 116, 45, 76, 111, 99, 97, 116, 105, 111, 110]⟩, .string ⟨#[68, 97, 116, 101]⟩, .string ⟨#[69, 84, 97, 103]⟩, .string ⟨#[69, 120, 112, 105, 114, 101, 115]⟩, .string ⟨#[76, 97, 115, 116, 45, 77, 111, 100, 105, 102, 105, 101, 100]⟩, .string ⟨#[86, 97, 114, 105, 97, 110, 116, 115]⟩, .string ⟨#[86, 97, 114, 105, 97, 110, 116, 45, 75, 101, 121]⟩, .string ⟨#[86, 97, 114, 121]⟩, .string ⟨#[86, 105, 97]⟩] := rfl
end Go.Proofs.YtjafkpedocdfjaaGreatDoor
namespace Go.Proofs.YtjafkpedocdfjaaGreatDoor
open Go.RowKit Go.Shelf

def condB (xs : List Fd) : Bool := decide (0 < (getF (bs nINM) xs).length) || decide (0 < (getF (bs nIMS) xs).length)
set_option maxHeartbeats 800000 in
theorem conditional_any (m tg : ByteArray) (mn : Int) (oa : Option Addr) (xs : List Fd) (cap : Nat) (bd : ByteArray) (w : World) (hn : xs.length ≤ 100000) (hz : FldZ xs 100000) (hc : FldO w oa xs) :
    Calls Tryz.prog 22 #[reqV m tg mn oa xs.length cap bd] w fun e w' => e = .returned (.bool (condB xs)) ∧ Below w.heap.size w w' := by
  have b0 := alloc_b w (.cells (reqC m tg mn oa xs.length cap bd).toArray 40)
  have R := RowAt.new w (reqC m tg mn oa xs.length cap bd) 40
  have HC := Lib.hid (hc.down b0)
  have HZ := Lib.hid hz
  clear hc hz
  cases h1 : decide (0 < (getF (bs nINM) xs).length) with
  | true =>
    have HD := Lib.hid h1
    clear h1
    go_enter Tryz.func22, Tryz.ntmps22
    go_wp2_with fail
    refine (has_any oa xs cap nINM _ (by decide) hn HZ.out HC.out).mono ?_
    rintro e w1 ⟨rfl, hb1⟩
    rw [HD.out]
    go_wp2_with fail
    go_ret
    exact ⟨ret_bool (by unfold condB; rw [HD.out]; rfl), step_b b0 hb1⟩
  | false =>
    have HD := Lib.hid h1
    clear h1
    go_enter Tryz.func22, Tryz.ntmps22
    go_wp2_with fail
    refine (has_any oa xs cap nINM _ (by decide) hn HZ.out HC.out).mono ?_
    rintro e w1 ⟨rfl, hb1⟩
    rw [HD.out]
    have R1 := R.below hb1
    have c3 := R1.cell 3 rfl
    have HC1 := Lib.hid (HC.out.down hb1)
    clear R R1
    go_wp2_with fail
    refine (has_any oa xs cap nIMS _ (by decide) hn HZ.out HC1.out).mono ?_
    rintro e w2 ⟨rfl, hb2⟩
    go_wp2_with fail
    go_ret
    exact ⟨ret_bool (by unfold condB; rw [HD.out]; rfl), step_b (step_b b0 hb1) hb2⟩
theorem FldO.new1 (w : World) (x : Fd) (t : TypeId) : FldO (w.alloc (.cells #[.string x.1, .string x.2] t)) (some ⟨w.heap.size, 0, none⟩) [x] := fun i y hy => by
  match i, hy with
  | 0, hy =>
    have hx : x = y := by simpa using hy
    subst hx
    exact ⟨_, rfl, new_f0 w x t, new_f1 w x t⟩
theorem valid_one : validL [(nINM, ⟨#[34, 98, 34]⟩)] [(nETag, ⟨#[34, 97, 34]⟩)] = [(nINM, ⟨#[34, 97, 34]⟩)] := by decide +kernel
theorem condB_one : condB [(nINM, ⟨#[34, 98, 34]⟩)] = true := by decide +kernel
abbrev gET : ByteArray := ⟨#[71, 69, 84]⟩
set_option maxHeartbeats 3200000 in
set_option maxRecDepth 100000 in
theorem awake31_any (w : World) :
    Calls Tryz.prog 24 #[] w fun e w' => e = .returned (.bool true) ∧ Below w.heap.size w w' := by
  have a1 := FldO.new1 w (nINM, ⟨#[34, 98, 34]⟩) 58
  have q0 := RowAt.new (w.alloc (.cells #[.string nINM, .string ⟨#[34, 98, 34]⟩] 58)) (reqC gET ⟨#[]⟩ 0 (some ⟨w.heap.size, 0, none⟩) 1 1 ⟨#[]⟩) 40
  have s1 : (w.alloc (.cells #[.string nINM, .string ⟨#[34, 98, 34]⟩] 58)).heap.size = w.heap.size + 1 := Array.size_push _
  have s2 : ((w.alloc (.cells #[.string nINM, .string ⟨#[34, 98, 34]⟩] 58)).alloc (.cells (reqC gET ⟨#[]⟩ 0 (some ⟨w.heap.size, 0, none⟩) 1 1 ⟨#[]⟩).toArray 40)).heap.size = w.heap.size + 1 + 1 := (Array.size_push _).trans (by rw [s1])
  have b1 := alloc_b w (.cells #[.string nINM, .string ⟨#[34, 98, 34]⟩] 58)
  have b2 := step_b b1 (alloc_b _ (.cells (reqC gET ⟨#[]⟩ 0 (some ⟨w.heap.size, 0, none⟩) 1 1 ⟨#[]⟩).toArray 40))
  have b3 := step_b b2 (alloc_b _ (.cells #[.string nETag, .string ⟨#[34, 97, 34]⟩] 58))
  have a3 := (a1.down (alloc_b _ (.cells (reqC gET ⟨#[]⟩ 0 (some ⟨w.heap.size, 0, none⟩) 1 1 ⟨#[]⟩).toArray 40))).down (alloc_b _ (.cells #[.string nETag, .string ⟨#[34, 97, 34]⟩] 58))
  have e3 := FldO.new1 ((w.alloc (.cells #[.string nINM, .string ⟨#[34, 98, 34]⟩] 58)).alloc (.cells (reqC gET ⟨#[]⟩ 0 (some ⟨w.heap.size, 0, none⟩) 1 1 ⟨#[]⟩).toArray 40)) (nETag, ⟨#[34, 97, 34]⟩) 58
  have q3 := q0.alloc (.cells #[.string nETag, .string ⟨#[34, 97, 34]⟩] 58)
  rw [s2] at e3
  rw [s1] at q3
  have HV := Lib.hid (valid_any gET ⟨#[]⟩ 0 (some ⟨w.heap.size, 0, none⟩) [(nINM, ⟨#[34, 98, 34]⟩)] 1 ⟨#[]⟩ (.slice none 0 0) (.slice none 0 0) (.slice none 0 0) ⟨#[]⟩ (some ⟨w.heap.size + 1 + 1, 0, none⟩) [(nETag, ⟨#[34, 97, 34]⟩)] 1 ⟨#[]⟩ 0 0 _ (by decide) (by intro x hx; simp at hx; subst hx; decide) a3 (by decide) (by intro x hx; simp at hx; subst hx; decide) e3)
  have A3 := Lib.hid a3
  clear a1 q0 s1 s2 b1 b2 a3 e3
  rw [valid_one] at HV
  go_enter Tryz.func24, Tryz.ntmps24
  go_wp2_with fail
  refine HV.out.mono ?_
  rintro e w1 ⟨ob, cb, rfl, FB1, hb1⟩
  obtain ⟨oa', cap', ev, FO⟩ := FB1.shape
  cases ev
  obtain ⟨ad, rfl, c0, c1⟩ := FO.at (i := 0) (x := (nINM, ⟨#[34, 97, 34]⟩)) rfl
  rw [show ad.add (0 * 2) = ad from by unfold Addr.add; simp] at c1
  have q1 := q3.below hb1
  have A1 := Lib.hid (A3.out.down hb1)
  have b4 := step_b b3 hb1
  clear HV FB1 q3 A3 b3 hb1 FO c0
  have q1' := q1.alloc (.cells (reqC gET ⟨#[]⟩ 0 (some ad) 1 cb ⟨#[]⟩).toArray 40)
  have n1 := RowAt.new w1 (reqC gET ⟨#[]⟩ 0 (some ad) 1 cb ⟨#[]⟩) 40
  have c3 := n1.cell 3 rfl
  have c1' := ((alloc_b w1 (.cells (reqC gET ⟨#[]⟩ 0 (some ad) 1 cb ⟨#[]⟩).toArray 40)).cell (cell_lt c1)).trans c1
  have A2 := Lib.hid (A1.out.down (alloc_b w1 (.cells (reqC gET ⟨#[]⟩ 0 (some ad) 1 cb ⟨#[]⟩).toArray 40)))
  have b5 := step_b b4 (alloc_b w1 (.cells (reqC gET ⟨#[]⟩ 0 (some ad) 1 cb ⟨#[]⟩).toArray 40))
  clear q1 n1 c1 A1 b4
  have k0 := q1'.cell 0 rfl
  have k1 := q1'.cell 1 rfl
  have k2 := q1'.cell 2 rfl
  have k3 := q1'.cell 3 rfl
  have k4 := q1'.cell 4 rfl
  clear q1'
  go_wp2_with fail
  refine (conditional_any gET ⟨#[]⟩ 0 (some ⟨w.heap.size, 0, none⟩) [(nINM, ⟨#[34, 98, 34]⟩)] 1 ⟨#[]⟩ _ (by decide) (by intro x hx; simp at hx; subst hx; decide) A2.out).mono ?_
  rintro e w2 ⟨rfl, hb2⟩
  rw [condB_one]
  go_wp2_with fail
  go_ret
  exact ⟨rfl, step_b b5 hb2⟩
end Go.Proofs.YtjafkpedocdfjaaGreatDoor
namespace Go.Proofs.YtjafkpedocdfjaaGreatDoor
open Go.RowKit

theorem months_test (s : ByteArray) (k : Nat) (hk : k < 12) : (((⟨#[74, 97, 110, 70, 101, 98, 77, 97, 114, 65, 112, 114, 77, 97, 121, 74, 117, 110, 74, 117, 108, 65, 117, 103, 83, 101, 112, 79, 99, 116, 78, 111, 118, 68, 101, 99]⟩ : ByteArray).extract (3 * k) (3 * k + 3)).toList == (s.extract 8 11).toList) = decide (nameFrom monthS (bs (s.extract 8 11)) 12 0 = k) := by
  rw [Lib.toList_data, Lib.toList_data]
  exact (congrArg (fun l => l == bs (s.extract 8 11)) (monthsT_at k hk)).trans (month_iff _ k hk)
theorem wdays_test (s : ByteArray) (k : Nat) (hk : k < 7) : (((⟨#[84, 104, 117, 70, 114, 105, 83, 97, 116, 83, 117, 110, 77, 111, 110, 84, 117, 101, 87, 101, 100]⟩ : ByteArray).extract (3 * k) (3 * k + 3)).toList == (s.extract 0 3).toList) = decide (nameFrom wdayS (bs (s.extract 0 3)) 7 0 = ((k + 3) % 7 : Nat)) := by
  rw [Lib.toList_data, Lib.toList_data]
  exact (congrArg (fun l => l == bs (s.extract 0 3)) (wdaysT_at k hk)).trans (wday_iff _ _ (by omega))

set_option maxRecDepth 100000 in
set_option maxHeartbeats 1600000 in
theorem rparse_core (s : ByteArray) (w : World) (h : s.size = 29) (h1 : (s.extract 3 5).toList = [44, 32]) (h2 : (s[7].toNat : Int) = 32) (h3 : (s[11].toNat : Int) = 32) (h4 : (s[16].toNat : Int) = 32) (h5 : (s[19].toNat : Int) = 58) (h6 : (s[22].toNat : Int) = 58) (h7 : (s.extract 25 29).toList = [32, 71, 77, 84])
    (a0 a1 a2 a3 a4 : Int) (ha2 : 0 ≤ a2 ∧ a2 ≤ 2147483647) (ha3 : 0 ≤ a3 ∧ a3 ≤ 2147483647) (ha4 : 0 ≤ a4 ∧ a4 ≤ 2147483647) (b0 b1 b2 b3 b4 : Bool) (n0 : numV (bs (s.extract 5 7)) = .tuple #[.int .i64 a0, .bool b0]) (n1 : numV (bs (s.extract 12 16)) = .tuple #[.int .i64 a1, .bool b1]) (n2 : numV (bs (s.extract 17 19)) = .tuple #[.int .i64 a2, .bool b2])
    (n3 : numV (bs (s.extract 20 22)) = .tuple #[.int .i64 a3, .bool b3]) (n4 : numV (bs (s.extract 23 25)) = .tuple #[.int .i64 a4, .bool b4]) :
    Calls Tryz.prog 57 #[.string s] w fun e w' => e = .returned (dateV (if b0 && b1 && b2 && b3 && b4 then secs a0 a1 a2 a3 a4 (nameFrom monthS (bs (s.extract 8 11)) 12 0 + 1) (nameFrom wdayS (bs (s.extract 0 3)) 7 0) else none)) ∧ Below w.heap.size w w' := by
  obtain ⟨nm, hnm⟩ : ∃ nm, nameFrom monthS (bs (s.extract 8 11)) 12 0 = nm := ⟨_, rfl⟩
  have hm : -1 ≤ nm ∧ nm < 12 := by rw [← hnm]; exact nameFrom_bd monthS (bs (s.extract 8 11)) 12 0
  have Hnm := Lib.hid hnm
  clear hnm
  go_enter Tryz.func57, Tryz.ntmps57
  go_wp2_with fail
  refine (digits_any s 5 2 7 _ _ _ rfl rfl rfl (by omega) (by omega)).mono ?_
  rintro e w' ⟨rfl, rfl⟩
  go_wp2_with fail
  refine (digits_any s 12 4 16 _ _ _ rfl rfl rfl (by omega) (by omega)).mono ?_
  rintro e w' ⟨rfl, rfl⟩
  go_wp2_with fail
  refine (digits_any s 17 2 19 _ _ _ rfl rfl rfl (by omega) (by omega)).mono ?_
  rintro e w' ⟨rfl, rfl⟩
  go_wp2_with fail
  refine (digits_any s 20 2 22 _ _ _ rfl rfl rfl (by omega) (by omega)).mono ?_
  rintro e w' ⟨rfl, rfl⟩
  go_wp2_with fail
  refine (digits_any s 23 2 25 _ _ _ rfl rfl rfl (by omega) (by omega)).mono ?_
  rintro e w' ⟨rfl, rfl⟩
  go_wp2_with fail
  go_loopw [14, 15] (fun mo x wr => ∃ (k n : Nat) (mv : Int), k ≤ 12 ∧ x = .int .i64 k ∧ mo = .int .i64 mv ∧ Hid (mv = if nm < k then nm + 1 else 0) ∧ wr = w.drewN n) (fun _ x _ => 12 - (intOf x).toNat)
  case atStart => exact ⟨0, 0, 0, by omega, rfl, rfl, Lib.hid (by split <;> omega), rfl⟩
  case round =>
    obtain ⟨k, n, mv, hk, rfl, rfl, Hmv, rfl⟩ := hrel
    by_cases hlt : k < 12
    · have e1 : IntKind.i64.wrap (3 * (k : Int)) = 3 * k := IntWalk.i64_in _ (by omega)
      have e2 : IntKind.i64.wrap (3 * (k : Int) + 3) = 3 * k + 3 := IntWalk.i64_in _ (by omega)
      have e3 : (3 * (k : Int)).toNat = 3 * k := by omega
      have e4 : (3 * (k : Int) + 3).toNat = 3 * k + 3 := by omega
      have e5 : 0 ≤ 3 * (k : Int) := by omega
      have e6 : 3 * (k : Int) + 3 ≤ 36 := by omega
      have ht := months_test s k hlt
      rw [Hnm.out] at ht
      have hlt' : (k : Int) < 12 := by omega
      cases hb : decide (nm = (k : Int)) with
      | true =>
        rw [hb] at ht
        have Hb := Lib.hid (of_decide_eq_true hb)
        clear hb
        go_wp2_with fail
        go_quiet (fail)
        go_wp2_with fail
        go_roundw
        case rel => exact ⟨k + 1, n + nq, k + 1, by omega, by go_num, rfl, Lib.hid (by have := Hb.out; rw [if_pos (by omega)]; omega), rfl⟩
        case measure => simp [intOf]; omega
      | false =>
        rw [hb] at ht
        have Hb := Lib.hid (of_decide_eq_false hb)
        clear hb
        go_wp2_with fail
        go_quiet (fail)
        go_wp2_with fail
        go_roundw
        case rel => exact ⟨k + 1, n + nq, mv, by omega, by go_num, rfl, Lib.hid (by have := Hb.out; rw [Hmv.out]; split <;> split <;> omega), rfl⟩
        case measure => simp [intOf]; omega
    · obtain rfl : k = 12 := by omega
      obtain rfl : mv = nm + 1 := by have e := Hmv.out; have hx : nm < ((12 : Nat) : Int) := hm.2; rw [if_pos hx] at e; exact e
      clear Hmv
      obtain ⟨dn, hdn⟩ : ∃ dn, days a1 (nm + 1) a0 = dn := ⟨_, rfl⟩
      obtain ⟨wi, hwi⟩ : ∃ wi, nameFrom wdayS (bs (s.extract 0 3)) 7 0 = wi := ⟨_, rfl⟩
      have H : Hid (secs a0 a1 a2 a3 a4 (nameFrom monthS (bs (s.extract 8 11)) 12 0 + 1) (nameFrom wdayS (bs (s.extract 0 3)) 7 0) = if dn < 0 ∨ 23 < a2 ∨ 59 < a3 ∨ 59 < a4 ∨ wi ≠ (dn + 3) % 7 then none else some (dn * 86400 + (a2 * 3600 + a3 * 60 + a4))) := Lib.hid (by rw [Hnm.out, hwi, ← hdn]; rfl)
      have hdb := days_bd a1 (nm + 1) a0
      rw [hdn] at hdb
      have Hwi := Lib.hid hwi
      clear hwi
      go_wp2_with fail
      refine (rdays_any _ _ _ _).mono ?_
      rintro e w' ⟨rfl, rfl⟩
      go_wp2_with fail
      cases b0
      · go_quiet (fail)
        go_wp2_with fail
        go_ret2
        exact ⟨rfl, below_drewN (Below.refl _ _) _⟩
      cases b1
      · go_quiet (fail)
        go_wp2_with fail
        go_ret2
        exact ⟨rfl, below_drewN (Below.refl _ _) _⟩
      cases b2
      · go_quiet (fail)
        go_wp2_with fail
        go_ret2
        exact ⟨rfl, below_drewN (Below.refl _ _) _⟩
      cases b3
      · go_quiet (fail)
        go_wp2_with fail
        go_ret2
        exact ⟨rfl, below_drewN (Below.refl _ _) _⟩
      cases b4
      · go_quiet (fail)
        go_wp2_with fail
        go_ret2
        exact ⟨rfl, below_drewN (Below.refl _ _) _⟩
      by_cases c1 : dn < 0
      · have Hc := Lib.hid c1
        go_quiet (fail)
        go_wp2_with fail
        go_ret2
        exact ⟨by show _ = Ending.returned (dateV (secs _ _ _ _ _ _ _)); rw [H.out, if_pos (by have := Hc.out; omega)]; rfl, below_drewN (Below.refl _ _) _⟩
      have c1' : decide (dn < 0) = false := by simpa using c1
      by_cases c2 : 23 < a2
      · have Hc := Lib.hid c2
        go_quiet (fail)
        go_wp2_with fail
        go_ret2
        exact ⟨by show _ = Ending.returned (dateV (secs _ _ _ _ _ _ _)); rw [H.out, if_pos (by have := Hc.out; omega)]; rfl, below_drewN (Below.refl _ _) _⟩
      have c2' : decide (23 < a2) = false := by simpa using c2
      by_cases c3 : 59 < a3
      · have Hc := Lib.hid c3
        go_quiet (fail)
        go_wp2_with fail
        go_ret2
        exact ⟨by show _ = Ending.returned (dateV (secs _ _ _ _ _ _ _)); rw [H.out, if_pos (by have := Hc.out; omega)]; rfl, below_drewN (Below.refl _ _) _⟩
      have c3' : decide (59 < a3) = false := by simpa using c3
      by_cases c4 : 59 < a4
      · have Hc := Lib.hid c4
        go_quiet (fail)
        go_wp2_with fail
        go_ret2
        exact ⟨by show _ = Ending.returned (dateV (secs _ _ _ _ _ _ _)); rw [H.out, if_pos (by have := Hc.out; omega)]; rfl, below_drewN (Below.refl _ _) _⟩
      have c4' : decide (59 < a4) = false := by simpa using c4
      obtain ⟨r, hr⟩ : ∃ r : Nat, dn % 7 = r := ⟨(dn % 7).toNat, by omega⟩
      have hr7 : r < 7 := by omega
      have hwt := wdays_test s r hr7
      rw [Hwi.out] at hwt
      have e0 : 0 ≤ dn := by omega
      have e0' : IntKind.i64.wrap (dn.tmod 7) = r := by rw [Int.tmod_eq_emod_of_nonneg e0, hr]; exact IntWalk.i64_in _ (by omega)
      have e1 : IntKind.i64.wrap (3 * (r : Int)) = 3 * r := IntWalk.i64_in _ (by omega)
      have e2 : IntKind.i64.wrap (3 * (r : Int) + 3) = 3 * r + 3 := IntWalk.i64_in _ (by omega)
      have e3 : (3 * (r : Int)).toNat = 3 * r := by omega
      have e4 : (3 * (r : Int) + 3).toNat = 3 * r + 3 := by omega
      have e5 : 0 ≤ 3 * (r : Int) := by omega
      have e6 : 3 * (r : Int) + 3 ≤ 21 := by omega
      have hw7 : (((r + 3) % 7 : Nat) : Int) = (dn + 3) % 7 := by omega
      rw [hw7] at hwt
      cases hb : decide (wi = (dn + 3) % 7) with
      | true =>
        rw [hb] at hwt
        have Hb := Lib.hid (of_decide_eq_true hb)
        have Hr := Lib.hid hr
        clear hb hw7
        go_quiet (fail)
        go_wp2_with fail
        go_ret2
        exact ⟨by show _ = Ending.returned (dateV (secs _ _ _ _ _ _ _)); rw [H.out, if_neg (by have := Hb.out; omega)]; rfl, below_drewN (Below.refl _ _) _⟩
      | false =>
        rw [hb] at hwt
        have Hb := Lib.hid (of_decide_eq_false hb)
        have Hr := Lib.hid hr
        clear hb hw7
        go_quiet (fail)
        go_wp2_with fail
        go_ret2
        exact ⟨by show _ = Ending.returned (dateV (secs _ _ _ _ _ _ _)); rw [H.out, if_pos (by have := Hb.out; omega)]; rfl, below_drewN (Below.refl _ _) _⟩
set_option maxRecDepth 100000 in
set_option maxHeartbeats 800000 in
theorem rparse_no (s : ByteArray) (w : World) (h : ¬ Form s) :
    Calls Tryz.prog 57 #[.string s] w fun e w' => e = .returned (dateV none) ∧ Below w.heap.size w w' := by
  have H := Lib.hid h
  clear h
  by_cases h29 : s.size = 29
  · go_enter Tryz.func57, Tryz.ntmps57
    go_wp2_with fail
    all_goals first | (go_ret2; exact ⟨rfl, Below.refl _ _⟩) | (exfalso; exact H.out ⟨h29, by assumption, by omega, by omega, by omega, by omega, by omega, by simpa using (show (!((s.extract 25 29).toList == [32, 71, 77, 84])) = false by assumption)⟩)
  · go_enter Tryz.func57, Tryz.ntmps57
    go_wp2_with fail
    go_ret2
    exact ⟨rfl, Below.refl _ _⟩

theorem num_of' (s : ByteArray) (i j : Nat) (hij : i < j) (hj : j ≤ s.size) : ∃ (a : Int) (b : Bool), (0 ≤ a ∧ a ≤ 2147483647) ∧ numV (bs (s.extract i j)) = .tuple #[.int .i64 a, .bool b] ∧ numAt (bs s) i j = if b then some a else none := by
  rcases num_of s i j hij hj with ⟨a, l, m, h1, h2⟩ | ⟨h1, h2⟩
  · exact ⟨a, true, ⟨l, m⟩, h2, h1⟩
  · exact ⟨0, false, ⟨by omega, by omega⟩, h2, h1⟩
theorem rparse_any (s : ByteArray) (w : World) :
    Calls Tryz.prog 57 #[.string s] w fun e w' => e = .returned (dateV (parseD (bs s))) ∧ Below w.heap.size w w' := by
  by_cases hf : Form s
  · have hp : parseD (bs s) = parts (bs s) := by unfold parseD; rw [if_pos ((formB_iff s).2 hf)]
    rw [hp]
    obtain ⟨h, h1, h2, h3, h4, h5, h6, h7⟩ := hf
    obtain ⟨x0, b0, _, q0, p0⟩ := num_of' s 5 7 (by omega) (by omega)
    obtain ⟨x1, b1, _, q1, p1⟩ := num_of' s 12 16 (by omega) (by omega)
    obtain ⟨x2, b2, m2, q2, p2⟩ := num_of' s 17 19 (by omega) (by omega)
    obtain ⟨x3, b3, m3, q3, p3⟩ := num_of' s 20 22 (by omega) (by omega)
    obtain ⟨x4, b4, m4, q4, p4⟩ := num_of' s 23 25 (by omega) (by omega)
    have e : parts (bs s) = if b0 && b1 && b2 && b3 && b4 then secs x0 x1 x2 x3 x4 (nameFrom monthS (bs (s.extract 8 11)) 12 0 + 1) (nameFrom wdayS (bs (s.extract 0 3)) 7 0) else none := by
      unfold parts
      rw [p0, p1, p2, p3, p4, sub_extract, sub_extract]
      cases b0 <;> cases b1 <;> cases b2 <;> cases b3 <;> cases b4 <;> rfl
    rw [e]
    exact rparse_core s w h h1 (by omega) (by omega) (by omega) (by omega) (by omega) h7 x0 x1 x2 x3 x4 m2 m3 m4 b0 b1 b2 b3 b4 q0 q1 q2 q3 q4
  · have hp : parseD (bs s) = none := by unfold parseD; rw [if_neg (fun h => hf ((formB_iff s).1 h))]
    rw [hp]
    exact rparse_no s w hf
end Go.Proofs.YtjafkpedocdfjaaGreatDoor
namespace Go.Proofs.YtjafkpedocdfjaaGreatDoor
open Go.RowKit Go.Shelf

set_option maxHeartbeats 800000 in
theorem rpermitted_any (s : ByteArray) (w : World) (hs : s.size ≤ 9223372036854775807) :
    Calls Tryz.prog 87 #[.string s] w fun e w' => e = .returned (.bool (permB (bs s))) ∧ w = w' := by
  go_enter Tryz.func87, Tryz.ntmps87
  go_wp2
  go_loop [3] (fun j => ∃ k : Nat, k ≤ s.size ∧ j = .int .i64 k ∧ Hid ((bs s).all permC = ((bs s).drop k).all permC)) (fun j => s.size - (intOf j).toNat)
  case atStart => exact ⟨0, by omega, rfl, Lib.hid rfl⟩
  case round =>
    obtain ⟨k, hk, rfl, H⟩ := hrel
    by_cases hlt : k < s.size
    · have Hs := Lib.hid (all_step permC s hlt)
      by_cases h1 : s[k].toNat < 33
      · have hd := Lib.hid (permC_false (.inl h1))
        have k1 : (s[k].toNat : Int) < 33 := by omega
        clear h1
        go_wp2
        go_ret
        exact ⟨ret_bool (by unfold permB; rw [H.out, Hs.out, hd.out]; rfl), rfl⟩
      · have k1 : ¬ (s[k].toNat : Int) < 33 := by omega
        by_cases h2 : s[k].toNat = 34
        · have hd := Lib.hid (permC_false (.inr (.inl h2)))
          have k2 : ((s[k].toNat : Int) == 34) = true := by simp; omega
          clear h1 h2
          go_wp2
          go_ret
          exact ⟨ret_bool (by unfold permB; rw [H.out, Hs.out, hd.out]; rfl), rfl⟩
        · have k2 : ((s[k].toNat : Int) == 34) = false := by simp; omega
          by_cases h3 : s[k].toNat = 127
          · have hd := Lib.hid (permC_false (.inr (.inr h3)))
            have k3 : ((s[k].toNat : Int) == 127) = true := by simp; omega
            clear h1 h2 h3
            go_wp2
            go_ret
            exact ⟨ret_bool (by unfold permB; rw [H.out, Hs.out, hd.out]; rfl), rfl⟩
          · have hd := Lib.hid (permC_true h1 h2 h3)
            have k3 : ((s[k].toNat : Int) == 127) = false := by simp; omega
            clear h1 h2 h3
            go_wp2
            go_round
            case rel => exact ⟨k + 1, by omega, by go_num, Lib.hid (by rw [H.out, Hs.out, hd.out]; rfl)⟩
            case measure => simp [intOf]; omega
    · have He := Lib.hid (all_end permC s (k := k) (by omega))
      go_wp2
      go_ret
      exact ⟨ret_bool (by unfold permB; rw [H.out, He.out]), rfl⟩
theorem weak_yes {s : ByteArray} (h : (s.extract 0 2).toList = [87, 47]) : weakL (bs s) = (bs (s.extract 2 s.size), true) := by
  have e : bs (s.extract 0 2) = [87, 47] := by rw [← h, Lib.toList_data]
  have e1 : bs (s.extract 0 2) = (bs s).take 2 := by unfold bs; rw [Lib.extract_data]; simp
  have hp : Lib.hasPrefix (bs s) [87, 47] = true := by
    unfold Lib.hasPrefix
    rw [List.isPrefixOf_iff_prefix, ← e, e1]
    exact List.take_prefix 2 _
  unfold weakL
  rw [hp, if_pos rfl]
  congr 1
  unfold bs
  rw [Lib.extract_data]
  exact (List.take_of_length_le (by rw [List.length_drop, ← Lib.size_eq]; omega)).symm
theorem weak_no {s : ByteArray} (h : s.size < 2 ∨ ¬ (s.extract 0 2).toList = [87, 47]) : weakL (bs s) = (bs s, false) := by
  have hp : Lib.hasPrefix (bs s) [87, 47] = false := by
    cases hq : Lib.hasPrefix (bs s) [87, 47] with
    | false => rfl
    | true =>
      unfold Lib.hasPrefix at hq
      rw [List.isPrefixOf_iff_prefix] at hq
      exfalso
      have hl := hq.length_le
      rw [bs_length] at hl
      rcases h with h | h
      · simp at hl; omega
      · apply h
        rw [Lib.toList_data]
        show bs (s.extract 0 2) = _
        have e1 : bs (s.extract 0 2) = (bs s).take 2 := by unfold bs; rw [Lib.extract_data]; simp
        rw [e1]
        exact (List.prefix_iff_eq_take.1 hq).symm
  unfold weakL
  rw [hp]; rfl
-- generated below
theorem rows2 (w : World) (X : List Value) (TX : TypeId) (Y : List Value) (TY : TypeId) :
    RowAt ((w.alloc (.cells X.toArray TX)).alloc (.cells Y.toArray TY)) w.heap.size TX X ∧ RowAt ((w.alloc (.cells X.toArray TX)).alloc (.cells Y.toArray TY)) (w.heap.size + 1) TY Y ∧ Below w.heap.size w ((w.alloc (.cells X.toArray TX)).alloc (.cells Y.toArray TY)) := by
  have h1 := RowAt.new w X TX
  have h2 := RowAt.new (w.alloc (.cells X.toArray TX)) Y TY
  have s1 : (w.alloc (.cells X.toArray TX)).heap.size = w.heap.size + 1 := Array.size_push _
  rw [s1] at h2
  exact ⟨h1.alloc _, h2, step_b (alloc_b w _) (alloc_b _ _)⟩
theorem below_drew {B : Nat} {a w : World} (h : Below B a w) : Below B a w.drew := ⟨h.os, h.tape, h.output, h.size, h.block⟩
set_option maxHeartbeats 6400000 in
set_option maxRecDepth 100000 in
theorem retag_any (s : ByteArray) (w : World) (hs : s.size ≤ 9223372036854775807) :
    Calls Tryz.prog 86 #[.string s] w fun e w' => e = .returned (etagV (etagL (bs s))) ∧ Below w.heap.size w w' := by
  obtain ⟨R0, R1, b2⟩ := rows2 w (etC false ⟨#[]⟩) 73 (etC false ⟨#[]⟩) 73
  by_cases h2 : 2 < s.size
  · have k2 : (2 : Int) < (s.size : Int) := by omega
    by_cases hw : (s.extract 0 2).toList = [87, 47]
    · obtain ⟨x, hx⟩ : ∃ x, s.extract 0 2 = x := ⟨_, rfl⟩
      obtain ⟨u, hu⟩ : ∃ u, s.extract 2 s.size = u := ⟨_, rfl⟩
      have HW : Hid (weakL (bs s) = (bs u, true)) := Lib.hid (by rw [weak_yes hw, hu])
      have hzu : u.size = s.size - 2 := by rw [← hu]; simp
      rw [hx] at hw
      have huz : u.size ≤ 9223372036854775807 := by omega
      clear hzu
      by_cases hq2 : u.size < 2
      · have hq2' : (u.size : Int) < 2 := by omega
        have HE : Hid (etagL (bs s) = none) := Lib.hid (by unfold etagL; rw [HW.out]; rw [if_neg (by rw [quot_short hq2]; decide)])
        clear hq2
        go_enter Tryz.func86, Tryz.ntmps86
        go_wp2_with fail
        go_region
        obtain ⟨R0, R1, b2⟩ := rows2 w (etC false ⟨#[]⟩) 73 (etC true ⟨#[]⟩) 73
        have R0 := R0.drew
        have R1 := R1.drew
        have b2 := below_drew b2
        go_wp2_with (refine wpList_store_row rfl _ 73 (.tmp 2) (.tmp 41) rfl w.heap.size 73 (etC false ⟨#[]⟩) (etC false ⟨#[]⟩) R0 rfl rfl rfl et_size (et_one _ _) ?_; intro w5 R5 f1 f2 f3)
        refine bodyPost_ret (results_row2 rfl _ _ w.heap.size 73 (etC false ⟨#[]⟩) R5 rfl _ Tryz.underlying73 et_size) rfl ?_
        exact ⟨by rw [HE.out]; rfl, b2.trans (f1 _ (Nat.le_refl _))⟩
      have hq2' : ¬ (u.size : Int) < 2 := by omega
      have hn : 0 < u.size := by omega
      have hl : u.size - 1 < u.size := by omega
      have e1 : ((u.size : Int) - 1).toNat = u.size - 1 := by omega
      by_cases h0 : (u[0]'hn).toNat = 34
      · have q0 : ((u[0].toNat : Int) != 34) = false := by rw [h0]; rfl
        by_cases h1 : (u[u.size - 1]'hl).toNat = 34
        · have q1 : ((u[u.size - 1].toNat : Int) != 34) = false := by rw [h1]; rfl
          obtain ⟨t, ht⟩ : ∃ t, u.extract 1 (u.size - 1) = t := ⟨_, rfl⟩
          have htz : t.size ≤ 9223372036854775807 := by rw [← ht]; simp; omega
          have hqm := quot_mid (by omega) hn hl h0 h1
          rw [ht] at hqm
          cases hp : permB (bs t) with
          | false =>
            have HP := Lib.hid hp
            have HE : Hid (etagL (bs s) = none) := Lib.hid (by unfold etagL; rw [HW.out]; rw [if_neg (by rw [hqm, hp]; decide)])
            clear h0 h1 hp hqm
            go_enter Tryz.func86, Tryz.ntmps86
            go_wp2_with fail
            go_region
            obtain ⟨R0, R1, b2⟩ := rows2 w (etC false ⟨#[]⟩) 73 (etC true ⟨#[]⟩) 73
            have R0 := R0.drew
            have R1 := R1.drew
            have b2 := below_drew b2
            go_wp2_with fail
            refine (rpermitted_any t _ htz).mono ?_
            rintro e w1 ⟨rfl, hw1⟩
            rw [HP.out]
            subst hw1
            go_wp2_with (refine wpList_store_row rfl _ 73 (.tmp 2) (.tmp 41) rfl w.heap.size 73 (etC false ⟨#[]⟩) (etC false ⟨#[]⟩) R0 rfl rfl rfl et_size (et_one _ _) ?_; intro w5 R5 f1 f2 f3)
            refine bodyPost_ret (results_row2 rfl _ _ w.heap.size 73 (etC false ⟨#[]⟩) R5 rfl _ Tryz.underlying73 et_size) rfl ?_
            exact ⟨by rw [HE.out]; rfl, b2.trans (f1 _ (Nat.le_refl _))⟩
          | true =>
            have HP := Lib.hid hp
            have HE : Hid (etagL (bs s) = some (true, bs t)) := Lib.hid (by unfold etagL; rw [HW.out]; rw [if_pos (by rw [hqm, hp])]; show some (true, ((bs u).drop 1).take ((bs u).length - 2)) = _; rw [bs_mid, ht])
            clear h0 h1 hp hqm
            go_enter Tryz.func86, Tryz.ntmps86
            go_wp2_with fail
            go_region
            obtain ⟨R0, R1, b2⟩ := rows2 w (etC false ⟨#[]⟩) 73 (etC true ⟨#[]⟩) 73
            have R0 := R0.drew
            have R1 := R1.drew
            have b2 := below_drew b2
            go_wp2_with fail
            refine (rpermitted_any t _ htz).mono ?_
            rintro e w1 ⟨rfl, hw1⟩
            rw [HP.out]
            subst hw1
            clear R0 R1 b2
            obtain ⟨R7, R6, b7⟩ := rows2 w (etC false ⟨#[]⟩) 73 (etC true t) 73
            have R7 := R7.drew
            have R6 := R6.drew
            have b7 := below_drew b7
            go_wp2_with (first | (refine wpList_load_rowAt rfl _ 73 (.tmp 4) rfl (w.heap.size + 1) 73 (etC true t) R6 rfl _ Tryz.underlying73 et_size ?_) | (refine wpList_store_row rfl _ 73 (.tmp 2) (.tmp 48) rfl w.heap.size 73 (etC false ⟨#[]⟩) (etC true t) R7 rfl rfl rfl et_size (et_one _ _) ?_; intro w5 R5 f1 f2 f3))
            refine bodyPost_ret (results_row2 rfl _ _ w.heap.size 73 (etC true t) R5 rfl _ Tryz.underlying73 et_size) rfl ?_
            exact ⟨by rw [HE.out]; rfl, b7.trans (f1 _ (Nat.le_refl _))⟩
        · have q1 : ((u[u.size - 1].toNat : Int) != 34) = true := by simp; omega
          have HE : Hid (etagL (bs s) = none) := Lib.hid (by unfold etagL; rw [HW.out]; rw [if_neg (by rw [quot_end hl h1]; decide)])
          clear h0 h1
          go_enter Tryz.func86, Tryz.ntmps86
          go_wp2_with fail
          go_region
          obtain ⟨R0, R1, b2⟩ := rows2 w (etC false ⟨#[]⟩) 73 (etC true ⟨#[]⟩) 73
          have R0 := R0.drew
          have R1 := R1.drew
          have b2 := below_drew b2
          go_wp2_with (refine wpList_store_row rfl _ 73 (.tmp 2) (.tmp 41) rfl w.heap.size 73 (etC false ⟨#[]⟩) (etC false ⟨#[]⟩) R0 rfl rfl rfl et_size (et_one _ _) ?_; intro w5 R5 f1 f2 f3)
          refine bodyPost_ret (results_row2 rfl _ _ w.heap.size 73 (etC false ⟨#[]⟩) R5 rfl _ Tryz.underlying73 et_size) rfl ?_
          exact ⟨by rw [HE.out]; rfl, b2.trans (f1 _ (Nat.le_refl _))⟩
      · have q0 : ((u[0].toNat : Int) != 34) = true := by simp; omega
        have HE : Hid (etagL (bs s) = none) := Lib.hid (by unfold etagL; rw [HW.out]; rw [if_neg (by rw [quot_first hn h0]; decide)])
        clear h0
        go_enter Tryz.func86, Tryz.ntmps86
        go_wp2_with fail
        go_region
        obtain ⟨R0, R1, b2⟩ := rows2 w (etC false ⟨#[]⟩) 73 (etC true ⟨#[]⟩) 73
        have R0 := R0.drew
        have R1 := R1.drew
        have b2 := below_drew b2
        go_wp2_with (refine wpList_store_row rfl _ 73 (.tmp 2) (.tmp 41) rfl w.heap.size 73 (etC false ⟨#[]⟩) (etC false ⟨#[]⟩) R0 rfl rfl rfl et_size (et_one _ _) ?_; intro w5 R5 f1 f2 f3)
        refine bodyPost_ret (results_row2 rfl _ _ w.heap.size 73 (etC false ⟨#[]⟩) R5 rfl _ Tryz.underlying73 et_size) rfl ?_
        exact ⟨by rw [HE.out]; rfl, b2.trans (f1 _ (Nat.le_refl _))⟩
    · have HW : Hid (weakL (bs s) = (bs s, false)) := Lib.hid (weak_no (.inr hw))
      obtain ⟨x, hx⟩ : ∃ x, s.extract 0 2 = x := ⟨_, rfl⟩
      rw [hx] at hw
      have hwb : (x.toList == [87, 47]) = false := by simpa using hw
      clear hw
      obtain ⟨u, hu⟩ : ∃ u, s = u := ⟨_, rfl⟩
      subst hu
      have huz : s.size ≤ 9223372036854775807 := by omega
      by_cases hq2 : s.size < 2
      · have hq2' : (s.size : Int) < 2 := by omega
        have HE : Hid (etagL (bs s) = none) := Lib.hid (by unfold etagL; rw [HW.out]; rw [if_neg (by rw [quot_short hq2]; decide)])
        clear hq2
        go_enter Tryz.func86, Tryz.ntmps86
        go_wp2_with (refine wpList_store_row rfl _ 73 (.tmp 2) (.tmp 41) rfl w.heap.size 73 (etC false ⟨#[]⟩) (etC false ⟨#[]⟩) R0 rfl rfl rfl et_size (et_one _ _) ?_; intro w5 R5 f1 f2 f3)
        refine bodyPost_ret (results_row2 rfl _ _ w.heap.size 73 (etC false ⟨#[]⟩) R5 rfl _ Tryz.underlying73 et_size) rfl ?_
        exact ⟨by rw [HE.out]; rfl, b2.trans (f1 _ (Nat.le_refl _))⟩
      have hq2' : ¬ (s.size : Int) < 2 := by omega
      have hn : 0 < s.size := by omega
      have hl : s.size - 1 < s.size := by omega
      have e1 : ((s.size : Int) - 1).toNat = s.size - 1 := by omega
      by_cases h0 : (s[0]'hn).toNat = 34
      · have q0 : ((s[0].toNat : Int) != 34) = false := by rw [h0]; rfl
        by_cases h1 : (s[s.size - 1]'hl).toNat = 34
        · have q1 : ((s[s.size - 1].toNat : Int) != 34) = false := by rw [h1]; rfl
          obtain ⟨t, ht⟩ : ∃ t, s.extract 1 (s.size - 1) = t := ⟨_, rfl⟩
          have htz : t.size ≤ 9223372036854775807 := by rw [← ht]; simp; omega
          have hqm := quot_mid (by omega) hn hl h0 h1
          rw [ht] at hqm
          cases hp : permB (bs t) with
          | false =>
            have HP := Lib.hid hp
            have HE : Hid (etagL (bs s) = none) := Lib.hid (by unfold etagL; rw [HW.out]; rw [if_neg (by rw [hqm, hp]; decide)])
            clear h0 h1 hp hqm
            go_enter Tryz.func86, Tryz.ntmps86
            go_wp2_with fail
            refine (rpermitted_any t _ htz).mono ?_
            rintro e w1 ⟨rfl, hw1⟩
            rw [HP.out]
            subst hw1
            go_wp2_with (refine wpList_store_row rfl _ 73 (.tmp 2) (.tmp 41) rfl w.heap.size 73 (etC false ⟨#[]⟩) (etC false ⟨#[]⟩) R0 rfl rfl rfl et_size (et_one _ _) ?_; intro w5 R5 f1 f2 f3)
            refine bodyPost_ret (results_row2 rfl _ _ w.heap.size 73 (etC false ⟨#[]⟩) R5 rfl _ Tryz.underlying73 et_size) rfl ?_
            exact ⟨by rw [HE.out]; rfl, b2.trans (f1 _ (Nat.le_refl _))⟩
          | true =>
            have HP := Lib.hid hp
            have HE : Hid (etagL (bs s) = some (false, bs t)) := Lib.hid (by unfold etagL; rw [HW.out]; rw [if_pos (by rw [hqm, hp])]; show some (false, ((bs s).drop 1).take ((bs s).length - 2)) = _; rw [bs_mid, ht])
            clear h0 h1 hp hqm
            go_enter Tryz.func86, Tryz.ntmps86
            go_wp2_with fail
            refine (rpermitted_any t _ htz).mono ?_
            rintro e w1 ⟨rfl, hw1⟩
            rw [HP.out]
            subst hw1
            clear R0 R1 b2
            obtain ⟨R7, R6, b7⟩ := rows2 w (etC false ⟨#[]⟩) 73 (etC false t) 73
            go_wp2_with (first | (refine wpList_load_rowAt rfl _ 73 (.tmp 4) rfl (w.heap.size + 1) 73 (etC false t) R6 rfl _ Tryz.underlying73 et_size ?_) | (refine wpList_store_row rfl _ 73 (.tmp 2) (.tmp 48) rfl w.heap.size 73 (etC false ⟨#[]⟩) (etC false t) R7 rfl rfl rfl et_size (et_one _ _) ?_; intro w5 R5 f1 f2 f3))
            refine bodyPost_ret (results_row2 rfl _ _ w.heap.size 73 (etC false t) R5 rfl _ Tryz.underlying73 et_size) rfl ?_
            exact ⟨by rw [HE.out]; rfl, b7.trans (f1 _ (Nat.le_refl _))⟩
        · have q1 : ((s[s.size - 1].toNat : Int) != 34) = true := by simp; omega
          have HE : Hid (etagL (bs s) = none) := Lib.hid (by unfold etagL; rw [HW.out]; rw [if_neg (by rw [quot_end hl h1]; decide)])
          clear h0 h1
          go_enter Tryz.func86, Tryz.ntmps86
          go_wp2_with (refine wpList_store_row rfl _ 73 (.tmp 2) (.tmp 41) rfl w.heap.size 73 (etC false ⟨#[]⟩) (etC false ⟨#[]⟩) R0 rfl rfl rfl et_size (et_one _ _) ?_; intro w5 R5 f1 f2 f3)
          refine bodyPost_ret (results_row2 rfl _ _ w.heap.size 73 (etC false ⟨#[]⟩) R5 rfl _ Tryz.underlying73 et_size) rfl ?_
          exact ⟨by rw [HE.out]; rfl, b2.trans (f1 _ (Nat.le_refl _))⟩
      · have q0 : ((s[0].toNat : Int) != 34) = true := by simp; omega
        have HE : Hid (etagL (bs s) = none) := Lib.hid (by unfold etagL; rw [HW.out]; rw [if_neg (by rw [quot_first hn h0]; decide)])
        clear h0
        go_enter Tryz.func86, Tryz.ntmps86
        go_wp2_with (refine wpList_store_row rfl _ 73 (.tmp 2) (.tmp 41) rfl w.heap.size 73 (etC false ⟨#[]⟩) (etC false ⟨#[]⟩) R0 rfl rfl rfl et_size (et_one _ _) ?_; intro w5 R5 f1 f2 f3)
        refine bodyPost_ret (results_row2 rfl _ _ w.heap.size 73 (etC false ⟨#[]⟩) R5 rfl _ Tryz.underlying73 et_size) rfl ?_
        exact ⟨by rw [HE.out]; rfl, b2.trans (f1 _ (Nat.le_refl _))⟩
  · have k2 : ¬ (2 : Int) < (s.size : Int) := by omega
    have HW : Hid (etagL (bs s) = if quotB (bs s) then some (false, ((bs s).drop 1).take ((bs s).length - 2)) else none) := Lib.hid (by
      by_cases hw : (s.extract 0 2).toList = [87, 47]
      · have e : bs s = [87, 47] := by
          have e1 : s.extract 0 2 = s := by
            apply ByteArray.ext; simp only [ByteArray.data_extract]; rw [Array.extract_eq_self_iff.2 (by right; exact ⟨rfl, by have : s.data.size = s.size := rfl; omega⟩)]
          rw [← e1, ← hw, Lib.toList_data]
        rw [e]; decide
      · unfold etagL; rw [weak_no (.inr hw)])
    have huz : s.size ≤ 9223372036854775807 := by omega
    by_cases hq2 : s.size < 2
    · have hq2' : (s.size : Int) < 2 := by omega
      have HE : Hid (etagL (bs s) = none) := Lib.hid (by rw [HW.out]; rw [if_neg (by rw [quot_short hq2]; decide)])
      clear hq2
      go_enter Tryz.func86, Tryz.ntmps86
      go_wp2_with (refine wpList_store_row rfl _ 73 (.tmp 2) (.tmp 41) rfl w.heap.size 73 (etC false ⟨#[]⟩) (etC false ⟨#[]⟩) R0 rfl rfl rfl et_size (et_one _ _) ?_; intro w5 R5 f1 f2 f3)
      refine bodyPost_ret (results_row2 rfl _ _ w.heap.size 73 (etC false ⟨#[]⟩) R5 rfl _ Tryz.underlying73 et_size) rfl ?_
      exact ⟨by rw [HE.out]; rfl, b2.trans (f1 _ (Nat.le_refl _))⟩
    have hq2' : ¬ (s.size : Int) < 2 := by omega
    have hn : 0 < s.size := by omega
    have hl : s.size - 1 < s.size := by omega
    have e1 : ((s.size : Int) - 1).toNat = s.size - 1 := by omega
    by_cases h0 : (s[0]'hn).toNat = 34
    · have q0 : ((s[0].toNat : Int) != 34) = false := by rw [h0]; rfl
      by_cases h1 : (s[s.size - 1]'hl).toNat = 34
      · have q1 : ((s[s.size - 1].toNat : Int) != 34) = false := by rw [h1]; rfl
        obtain ⟨t, ht⟩ : ∃ t, s.extract 1 (s.size - 1) = t := ⟨_, rfl⟩
        have htz : t.size ≤ 9223372036854775807 := by rw [← ht]; simp; omega
        have hqm := quot_mid (by omega) hn hl h0 h1
        rw [ht] at hqm
        cases hp : permB (bs t) with
        | false =>
          have HP := Lib.hid hp
          have HE : Hid (etagL (bs s) = none) := Lib.hid (by rw [HW.out]; rw [if_neg (by rw [hqm, hp]; decide)])
          clear h0 h1 hp hqm
          go_enter Tryz.func86, Tryz.ntmps86
          go_wp2_with fail
          refine (rpermitted_any t _ htz).mono ?_
          rintro e w1 ⟨rfl, hw1⟩
          rw [HP.out]
          subst hw1
          go_wp2_with (refine wpList_store_row rfl _ 73 (.tmp 2) (.tmp 41) rfl w.heap.size 73 (etC false ⟨#[]⟩) (etC false ⟨#[]⟩) R0 rfl rfl rfl et_size (et_one _ _) ?_; intro w5 R5 f1 f2 f3)
          refine bodyPost_ret (results_row2 rfl _ _ w.heap.size 73 (etC false ⟨#[]⟩) R5 rfl _ Tryz.underlying73 et_size) rfl ?_
          exact ⟨by rw [HE.out]; rfl, b2.trans (f1 _ (Nat.le_refl _))⟩
        | true =>
          have HP := Lib.hid hp
          have HE : Hid (etagL (bs s) = some (false, bs t)) := Lib.hid (by rw [HW.out]; rw [if_pos (by rw [hqm, hp])]; show some (false, ((bs s).drop 1).take ((bs s).length - 2)) = _; rw [bs_mid, ht])
          clear h0 h1 hp hqm
          go_enter Tryz.func86, Tryz.ntmps86
          go_wp2_with fail
          refine (rpermitted_any t _ htz).mono ?_
          rintro e w1 ⟨rfl, hw1⟩
          rw [HP.out]
          subst hw1
          clear R0 R1 b2
          obtain ⟨R7, R6, b7⟩ := rows2 w (etC false ⟨#[]⟩) 73 (etC false t) 73
          go_wp2_with (first | (refine wpList_load_rowAt rfl _ 73 (.tmp 4) rfl (w.heap.size + 1) 73 (etC false t) R6 rfl _ Tryz.underlying73 et_size ?_) | (refine wpList_store_row rfl _ 73 (.tmp 2) (.tmp 48) rfl w.heap.size 73 (etC false ⟨#[]⟩) (etC false t) R7 rfl rfl rfl et_size (et_one _ _) ?_; intro w5 R5 f1 f2 f3))
          refine bodyPost_ret (results_row2 rfl _ _ w.heap.size 73 (etC false t) R5 rfl _ Tryz.underlying73 et_size) rfl ?_
          exact ⟨by rw [HE.out]; rfl, b7.trans (f1 _ (Nat.le_refl _))⟩
      · have q1 : ((s[s.size - 1].toNat : Int) != 34) = true := by simp; omega
        have HE : Hid (etagL (bs s) = none) := Lib.hid (by rw [HW.out]; rw [if_neg (by rw [quot_end hl h1]; decide)])
        clear h0 h1
        go_enter Tryz.func86, Tryz.ntmps86
        go_wp2_with (refine wpList_store_row rfl _ 73 (.tmp 2) (.tmp 41) rfl w.heap.size 73 (etC false ⟨#[]⟩) (etC false ⟨#[]⟩) R0 rfl rfl rfl et_size (et_one _ _) ?_; intro w5 R5 f1 f2 f3)
        refine bodyPost_ret (results_row2 rfl _ _ w.heap.size 73 (etC false ⟨#[]⟩) R5 rfl _ Tryz.underlying73 et_size) rfl ?_
        exact ⟨by rw [HE.out]; rfl, b2.trans (f1 _ (Nat.le_refl _))⟩
    · have q0 : ((s[0].toNat : Int) != 34) = true := by simp; omega
      have HE : Hid (etagL (bs s) = none) := Lib.hid (by rw [HW.out]; rw [if_neg (by rw [quot_first hn h0]; decide)])
      clear h0
      go_enter Tryz.func86, Tryz.ntmps86
      go_wp2_with (refine wpList_store_row rfl _ 73 (.tmp 2) (.tmp 41) rfl w.heap.size 73 (etC false ⟨#[]⟩) (etC false ⟨#[]⟩) R0 rfl rfl rfl et_size (et_one _ _) ?_; intro w5 R5 f1 f2 f3)
      refine bodyPost_ret (results_row2 rfl _ _ w.heap.size 73 (etC false ⟨#[]⟩) R5 rfl _ Tryz.underlying73 et_size) rfl ?_
      exact ⟨by rw [HE.out]; rfl, b2.trans (f1 _ (Nat.le_refl _))⟩
end Go.Proofs.YtjafkpedocdfjaaGreatDoor
namespace Go.Proofs.YtjafkpedocdfjaaGreatDoor
open Go.RowKit Go.Shelf
attribute [local go_sem] Oper.semAt_some
set_option linter.unusedSimpArgs false

abbrev nRng : ByteArray := ⟨#[82, 97, 110, 103, 101]⟩
abbrev nIfR : ByteArray := ⟨#[73, 102, 45, 82, 97, 110, 103, 101]⟩
abbrev rngN : List ByteArray := [⟨#[82, 97, 110, 103, 101]⟩, ⟨#[73, 102, 45, 82, 97, 110, 103, 101]⟩]
theorem rngN_z : ∀ x ∈ rngN, x.size ≤ 100000 := by decide
theorem rngA_eq : (rngN.map Value.string).toArray = #[.string ⟨#[82, 97, 110, 103, 101]⟩, .string ⟨#[73, 102, 45, 82, 97, 110, 103, 101]⟩] := rfl
def outL (n : Int) (s : ByteArray) (xs : List Fd) : List Fd := (viaL n s (stripL xs)).filter (noneB (rngN.map bs))
theorem outL_eq (n : Int) (s : ByteArray) (xs : List Fd) : outL n s xs = viaL n s ((stripL xs).filter (noneB (rngN.map bs))) := by
  unfold outL viaL
  rw [List.filter_append, List.filter_cons_of_pos (by show noneB (rngN.map bs) (nVia, viaS n s) = true; unfold noneB; rw [show (oneB (bs (nVia, viaS n s).1) (rngN.map bs)) = false from by show oneB (bs nVia) (rngN.map bs) = false; decide +kernel]; rfl), List.filter_nil]
theorem viaL_z {n : Int} (h0 : -9223372036854775808 ≤ n) (h1 : n ≤ 9223372036854775807) {s : ByteArray} {xs : List Fd} (hs : s.size ≤ 10000) (hz : FldZ xs 100000) : FldZ (viaL n s xs) 100000 := by
  intro x hx
  unfold viaL at hx
  rcases List.mem_append.1 hx with hx | hx
  · exact hz x hx
  · have e : x = (nVia, viaS n s) := by simpa using hx
    subst e
    exact ⟨show nVia.size ≤ 100000 by decide, by have := viaS_size h0 h1 s; show (viaS n s).size ≤ _; omega⟩
set_option maxHeartbeats 6400000 in
set_option maxRecDepth 100000 in
theorem outgoing_any (m tg : ByteArray) (mn : Int) (oa : Option Addr) (xs : List Fd) (cap : Nat) (bd s : ByteArray) (w : World)
    (hn : xs.length ≤ 5000) (hz : FldZ xs 100000) (hc : FldO w oa xs) (h0 : -9223372036854775808 ≤ mn) (h1 : mn ≤ 9223372036854775807) (hs : s.size ≤ 10000) (htab : PowTab w) :
    Calls Tryz.prog 18 #[reqV m tg mn oa xs.length cap bd, .string s] w fun e w' => ∃ (ob : Option Addr) (cb : Nat), e = .returned (reqV m tg 1 ob (outL mn s xs).length cb bd) ∧ FBuf w' w.heap.size (.slice ob (outL mn s xs).length cb) (outL mn s xs) ∧ Below w.heap.size w w' := by
  obtain ⟨R0, O0, b0⟩ := rows2 w (reqC m tg mn oa xs.length cap bd) 40 reqZ 40
  have hz0 : w.heap.size + 2 ≤ ((w.alloc (.cells (reqC m tg mn oa xs.length cap bd).toArray 40)).alloc (.cells reqZ.toArray 40)).heap.size := by
    rw [show ((w.alloc (.cells (reqC m tg mn oa xs.length cap bd).toArray 40)).alloc (.cells reqZ.toArray 40)).heap.size = (w.alloc (.cells (reqC m tg mn oa xs.length cap bd).toArray 40)).heap.size + 1 from Array.size_push _, show (w.alloc (.cells (reqC m tg mn oa xs.length cap bd).toArray 40)).heap.size = w.heap.size + 1 from Array.size_push _]
    exact Nat.le_refl _
  have HC0 := Lib.hid (hc.down b0)
  have HT0 := Lib.hid (htab.below b0)
  have HZ := Lib.hid hz
  obtain ⟨zs, hzs⟩ : ∃ zs, zs = stripL xs := ⟨_, rfl⟩
  have hzl : zs.length ≤ xs.length := by rw [hzs]; exact strip_len xs
  obtain ⟨vs, hvs⟩ : ∃ vs, vs = viaL mn s zs := ⟨_, rfl⟩
  have hvl : vs.length = zs.length + 1 := by rw [hvs]; unfold viaL; simp
  have hvl2 : vs.length ≤ 10000 := by omega
  have HVZ : Hid (FldZ vs 100000) := Lib.hid (by rw [hvs, hzs]; exact viaL_z h0 h1 hs (strip_z hz))
  obtain ⟨ls, hls⟩ : ∃ ls, ls = outL mn s xs := ⟨_, rfl⟩
  have HLS : Hid (vs.filter (noneB (rngN.map bs)) = ls) := Lib.hid (by rw [hls, hvs, hzs]; rfl)
  have HLE := Lib.hid hls
  have HZS := Lib.hid hzs
  have HVS := Lib.hid hvs
  have zw : w.heap.size ≤ w.heap.size := Nat.le_refl _
  clear hc hz htab hzs hvs hls hvl
  go_enter Tryz.func18, Tryz.ntmps18
  go_wp2_with fail
  generalize (w.alloc (.cells (reqC m tg mn oa xs.length cap bd).toArray 40)).alloc (.cells reqZ.toArray 40) = W0 at *
  refine wp_region_K 10 (fun w' => Below W0.heap.size W0 w') (by kernel_rfl) (Below.refl _ _).drew (fun hH => ?_)
  generalize W0.drew = w1 at *
  have B1 := hH
  clear hH
  refine wpK_pure (i := 0) (v := .pointer (some ⟨w.heap.size, 3, none⟩)) rfl (by kernel_rfl) (fun _ _ _ h => h) (by rfl) (fun w9 => by go_simp) (fun _ => B1) ?_
  try simp only [Act.put, List.setIfInBounds_toArray, List.set_cons_zero, List.set_cons_succ]
  refine wpK_load (i := 1) (v := .slice oa xs.length cap) [10] rfl (by kernel_rfl) (fun _ _ _ h => h) (by rfl) (fun w9 h9 => by have c9 := (R0.below h9).cell 3 rfl; go_simp) (fun _ => B1) ?_
  try simp only [Act.put, List.setIfInBounds_toArray, List.set_cons_zero, List.set_cons_succ]
  refine wpK_pure (i := 3) (v := .pointer (some ⟨w.heap.size, 2, none⟩)) rfl (by kernel_rfl) (fun _ _ _ h => h) (by rfl) (fun w9 => by go_simp) (fun _ => B1) ?_
  try simp only [Act.put, List.setIfInBounds_toArray, List.set_cons_zero, List.set_cons_succ]
  refine wpK_load (i := 4) (v := .int .i64 mn) [10] rfl (by kernel_rfl) (fun _ _ _ h => h) (by rfl) (fun w9 h9 => by have c9 := (R0.below h9).cell 2 rfl; go_simp) (fun _ => B1) ?_
  try simp only [Act.put, List.setIfInBounds_toArray, List.set_cons_zero, List.set_cons_succ]
  refine wpK_pure (i := 5) (v := .string s) rfl (by kernel_rfl) (fun _ _ _ h => h) (by rfl) (fun w9 => by go_simp) (fun _ => B1) ?_
  try simp only [Act.put, List.setIfInBounds_toArray, List.set_cons_zero, List.set_cons_succ]
  refine wpK_ready [2, 7] (by kernel_rfl) (by simp) ?_
  refine AllK.cons rfl (fun K hK => ?_) ?_
  · skip
    go_simp
    go_at_call 48
    refine (strip_any oa xs cap w1 (by omega) HZ.out (HC0.out.down B1)).mono ?_
    rintro e w2 ⟨v2, rfl, FB, hb⟩
    rw [hop_stripL, ← HZS.out] at FB
    obtain ⟨o2, c2, rfl, FO2⟩ := FB.shape
    have B2 := step_b B1 hb
    clear FB hb
    refine hK.out _ _ (fun _ => B2) (fun _ => ?_)
    clear hK K
    try simp only [Act.put, List.setIfInBounds_toArray, List.set_cons_zero, List.set_cons_succ]
    refine wpK_ready [6, 7] (by kernel_rfl) (by simp) ?_
    refine AllK.cons rfl (fun K hK => ?_) ?_
    · skip
      go_simp
      go_at_call 47
      refine (via_any o2 zs c2 mn s w2 (by omega) FO2 h0 h1 (by omega) (HT0.out.below B2)).mono ?_
      rintro e w3 ⟨v6, rfl, FB, hb⟩
      rw [← HVS.out] at FB
      obtain ⟨o6, c6, rfl, FO3⟩ := FB.shape
      have B3 := step_b B2 hb
      clear FB hb
      refine hK.out _ _ (fun _ => B3) (fun _ => ?_)
      clear hK K
      try simp only [Act.put, List.setIfInBounds_toArray, List.set_cons_zero, List.set_cons_succ]
      refine wpK_ready [7] (by kernel_rfl) (by simp) ?_
      refine AllK.cons rfl (fun K hK => ?_) ?_
      · skip
        go_simp
        have hb := alloc_b w3 (.cells #[.string ⟨#[82, 97, 110, 103, 101]⟩, .string ⟨#[73, 102, 45, 82, 97, 110, 103, 101]⟩] 9)
        have N4 := StrO.new w3 rngN
        rw [rngA_eq] at N4
        have FO4 := FO3.down hb
        have B4 := step_b B3 hb
        clear hb
        generalize w3.alloc (.cells #[.string ⟨#[82, 97, 110, 103, 101]⟩, .string ⟨#[73, 102, 45, 82, 97, 110, 103, 101]⟩] 9) = w4 at *
        generalize (⟨w3.heap.size, 0, none⟩ : Addr) = an at *
        refine hK.out _ _ (fun _ => B4) (fun _ => ?_)
        clear hK K
        try simp only [Act.put, List.setIfInBounds_toArray, List.set_cons_zero, List.set_cons_succ]
        refine wpK_ready [8] (by kernel_rfl) (by simp) ?_
        refine AllK.cons rfl (fun K hK => ?_) ?_
        · skip
          go_simp
          go_at_call 46
          refine (without_any o6 vs c6 (some an) rngN 2 w4 hvl2 HVZ.out FO4 (by decide) rngN_z N4).mono ?_
          rintro e w5 ⟨v8, rfl, FB, hb⟩
          rw [HLS.out] at FB
          obtain ⟨o8, c8, rfl, FO5⟩ := FB.shape
          have B5 := step_b B4 hb
          have zz : W0.heap.size ≤ w4.heap.size := B4.size
          clear hb
          refine hK.out _ _ (fun _ => B5) (fun _ => ?_)
          clear hK K
          try simp only [Act.put, List.setIfInBounds_toArray, List.set_cons_zero, List.set_cons_succ]
          refine wpK_pure (i := 9) (v := .pointer (some ⟨w.heap.size, 3, none⟩)) rfl (by kernel_rfl) (fun _ _ _ h => h) (by rfl) (fun w9 => by go_simp) (fun _ => B5) ?_
          try simp only [Act.put, List.setIfInBounds_toArray, List.set_cons_zero, List.set_cons_succ]
          refine wpK_ready [10] (by kernel_rfl) (by simp) ?_
          refine AllK.cons rfl (fun K hK => ?_) ?_
          · skip
            have Q0 := R0.below B5
            have q3 := Q0.cell 3 rfl
            have f3 := Q0.free 3
            go_simp
            refine hK.out _ _ (fun h => absurd h (by decide)) (fun _ => ?_)
            clear hK K q3 f3
            try simp only [Act.put, List.setIfInBounds_toArray, List.set_cons_zero, List.set_cons_succ]
            refine wpK_done (by kernel_rfl) ?_ _
            have Q1 := Q0.set 3 (.slice o8 ls.length c8)
            have P1 := (O0.below B5).setOther (show w.heap.size + 1 ≠ w.heap.size by omega) 3 (.slice o8 ls.length c8)
            have q2 := Q1.cell 2 rfl
            have f2 := Q1.free 2
            have Q2 := Q1.set 2 (.int .i64 1)
            have P2 := P1.setOther (show w.heap.size + 1 ≠ w.heap.size by omega) 2 (.int .i64 1)
            have D1 := ((b0.trans (B5.mono b0.size)).setCell (p := ⟨w.heap.size, 3, none⟩) (Nat.le_refl _) (.slice o8 ls.length c8)).setCell (p := ⟨w.heap.size, 2, none⟩) (Nat.le_refl _) (.int .i64 1)
            have FB1 := ((FB.lower (Nat.le_trans hz0 zz)).set (g := w.heap.size) (j := 3) (by omega) (.slice o8 ls.length c8)).set (g := w.heap.size) (j := 2) (by omega) (.int .i64 1)
            clear Q0 Q1 P1 FB
            go_wp2_with (first | (refine wpList_load_rowAt rfl _ 40 (.tmp 2) rfl w.heap.size 40 (reqC m tg 1 o8 ls.length c8 bd) Q2 rfl _ Tryz.underlying40 req_size ?_) | (refine wpList_store_row rfl _ 40 (.tmp 4) (.tmp 16) rfl (w.heap.size + 1) 40 reqZ (reqC m tg 1 o8 ls.length c8 bd) P2 rfl rfl rfl req_size (req_one _ _ _ _ _ _ _) ?_; intro w9 R9 g1 g2 g3))
            refine bodyPost_ret (results_row1 rfl _ _ (w.heap.size + 1) 40 (reqC m tg 1 o8 ls.length c8 bd) R9 rfl _ Tryz.underlying40 req_size) rfl ?_
            rw [← HLE.out]
            exact ⟨o8, c8, rfl, (FB1.others (by omega) g2).lower (by omega), D1.trans (g1 _ (by omega))⟩
          exact AllK.nil
        exact AllK.nil
      exact AllK.nil
    refine AllK.cons rfl (fun K hK => ?_) ?_
    · skip
      go_simp
      have hb := alloc_b w2 (.cells #[.string ⟨#[82, 97, 110, 103, 101]⟩, .string ⟨#[73, 102, 45, 82, 97, 110, 103, 101]⟩] 9)
      have N3 := StrO.new w2 rngN
      rw [rngA_eq] at N3
      have FO3 := FO2.down hb
      have B3 := step_b B2 hb
      clear hb
      generalize w2.alloc (.cells #[.string ⟨#[82, 97, 110, 103, 101]⟩, .string ⟨#[73, 102, 45, 82, 97, 110, 103, 101]⟩] 9) = w3 at *
      generalize (⟨w2.heap.size, 0, none⟩ : Addr) = an at *
      refine hK.out _ _ (fun _ => B3) (fun _ => ?_)
      clear hK K
      try simp only [Act.put, List.setIfInBounds_toArray, List.set_cons_zero, List.set_cons_succ]
      refine wpK_ready [6] (by kernel_rfl) (by simp) ?_
      refine AllK.cons rfl (fun K hK => ?_) ?_
      · skip
        go_simp
        go_at_call 47
        refine (via_any o2 zs c2 mn s w3 (by omega) FO3 h0 h1 (by omega) (HT0.out.below B3)).mono ?_
        rintro e w4 ⟨v6, rfl, FB, hb⟩
        rw [← HVS.out] at FB
        obtain ⟨o6, c6, rfl, FO4⟩ := FB.shape
        have B4 := step_b B3 hb
        have N4 := N3.down hb
        clear FB hb
        refine hK.out _ _ (fun _ => B4) (fun _ => ?_)
        clear hK K
        try simp only [Act.put, List.setIfInBounds_toArray, List.set_cons_zero, List.set_cons_succ]
        refine wpK_ready [8] (by kernel_rfl) (by simp) ?_
        refine AllK.cons rfl (fun K hK => ?_) ?_
        · skip
          go_simp
          go_at_call 46
          refine (without_any o6 vs c6 (some an) rngN 2 w4 hvl2 HVZ.out FO4 (by decide) rngN_z N4).mono ?_
          rintro e w5 ⟨v8, rfl, FB, hb⟩
          rw [HLS.out] at FB
          obtain ⟨o8, c8, rfl, FO5⟩ := FB.shape
          have B5 := step_b B4 hb
          have zz : W0.heap.size ≤ w4.heap.size := B4.size
          clear hb
          refine hK.out _ _ (fun _ => B5) (fun _ => ?_)
          clear hK K
          try simp only [Act.put, List.setIfInBounds_toArray, List.set_cons_zero, List.set_cons_succ]
          refine wpK_pure (i := 9) (v := .pointer (some ⟨w.heap.size, 3, none⟩)) rfl (by kernel_rfl) (fun _ _ _ h => h) (by rfl) (fun w9 => by go_simp) (fun _ => B5) ?_
          try simp only [Act.put, List.setIfInBounds_toArray, List.set_cons_zero, List.set_cons_succ]
          refine wpK_ready [10] (by kernel_rfl) (by simp) ?_
          refine AllK.cons rfl (fun K hK => ?_) ?_
          · skip
            have Q0 := R0.below B5
            have q3 := Q0.cell 3 rfl
            have f3 := Q0.free 3
            go_simp
            refine hK.out _ _ (fun h => absurd h (by decide)) (fun _ => ?_)
            clear hK K q3 f3
            try simp only [Act.put, List.setIfInBounds_toArray, List.set_cons_zero, List.set_cons_succ]
            refine wpK_done (by kernel_rfl) ?_ _
            have Q1 := Q0.set 3 (.slice o8 ls.length c8)
            have P1 := (O0.below B5).setOther (show w.heap.size + 1 ≠ w.heap.size by omega) 3 (.slice o8 ls.length c8)
            have q2 := Q1.cell 2 rfl
            have f2 := Q1.free 2
            have Q2 := Q1.set 2 (.int .i64 1)
            have P2 := P1.setOther (show w.heap.size + 1 ≠ w.heap.size by omega) 2 (.int .i64 1)
            have D1 := ((b0.trans (B5.mono b0.size)).setCell (p := ⟨w.heap.size, 3, none⟩) (Nat.le_refl _) (.slice o8 ls.length c8)).setCell (p := ⟨w.heap.size, 2, none⟩) (Nat.le_refl _) (.int .i64 1)
            have FB1 := ((FB.lower (Nat.le_trans hz0 zz)).set (g := w.heap.size) (j := 3) (by omega) (.slice o8 ls.length c8)).set (g := w.heap.size) (j := 2) (by omega) (.int .i64 1)
            clear Q0 Q1 P1 FB
            go_wp2_with (first | (refine wpList_load_rowAt rfl _ 40 (.tmp 2) rfl w.heap.size 40 (reqC m tg 1 o8 ls.length c8 bd) Q2 rfl _ Tryz.underlying40 req_size ?_) | (refine wpList_store_row rfl _ 40 (.tmp 4) (.tmp 16) rfl (w.heap.size + 1) 40 reqZ (reqC m tg 1 o8 ls.length c8 bd) P2 rfl rfl rfl req_size (req_one _ _ _ _ _ _ _) ?_; intro w9 R9 g1 g2 g3))
            refine bodyPost_ret (results_row1 rfl _ _ (w.heap.size + 1) 40 (reqC m tg 1 o8 ls.length c8 bd) R9 rfl _ Tryz.underlying40 req_size) rfl ?_
            rw [← HLE.out]
            exact ⟨o8, c8, rfl, (FB1.others (by omega) g2).lower (by omega), D1.trans (g1 _ (by omega))⟩
          exact AllK.nil
        exact AllK.nil
      exact AllK.nil
    exact AllK.nil
  refine AllK.cons rfl (fun K hK => ?_) ?_
  · skip
    go_simp
    have hb := alloc_b w1 (.cells #[.string ⟨#[82, 97, 110, 103, 101]⟩, .string ⟨#[73, 102, 45, 82, 97, 110, 103, 101]⟩] 9)
    have N2 := StrO.new w1 rngN
    rw [rngA_eq] at N2
    have B2 := step_b B1 hb
    clear hb
    generalize w1.alloc (.cells #[.string ⟨#[82, 97, 110, 103, 101]⟩, .string ⟨#[73, 102, 45, 82, 97, 110, 103, 101]⟩] 9) = w2 at *
    generalize (⟨w1.heap.size, 0, none⟩ : Addr) = an at *
    refine hK.out _ _ (fun _ => B2) (fun _ => ?_)
    clear hK K
    try simp only [Act.put, List.setIfInBounds_toArray, List.set_cons_zero, List.set_cons_succ]
    refine wpK_ready [2] (by kernel_rfl) (by simp) ?_
    refine AllK.cons rfl (fun K hK => ?_) ?_
    · skip
      go_simp
      go_at_call 48
      refine (strip_any oa xs cap w2 (by omega) HZ.out (HC0.out.down B2)).mono ?_
      rintro e w3 ⟨v2, rfl, FB, hb⟩
      rw [hop_stripL, ← HZS.out] at FB
      obtain ⟨o2, c2, rfl, FO3⟩ := FB.shape
      have B3 := step_b B2 hb
      have N3 := N2.down hb
      clear FB hb
      refine hK.out _ _ (fun _ => B3) (fun _ => ?_)
      clear hK K
      try simp only [Act.put, List.setIfInBounds_toArray, List.set_cons_zero, List.set_cons_succ]
      refine wpK_ready [6] (by kernel_rfl) (by simp) ?_
      refine AllK.cons rfl (fun K hK => ?_) ?_
      · skip
        go_simp
        go_at_call 47
        refine (via_any o2 zs c2 mn s w3 (by omega) FO3 h0 h1 (by omega) (HT0.out.below B3)).mono ?_
        rintro e w4 ⟨v6, rfl, FB, hb⟩
        rw [← HVS.out] at FB
        obtain ⟨o6, c6, rfl, FO4⟩ := FB.shape
        have B4 := step_b B3 hb
        have N4 := N3.down hb
        clear FB hb
        refine hK.out _ _ (fun _ => B4) (fun _ => ?_)
        clear hK K
        try simp only [Act.put, List.setIfInBounds_toArray, List.set_cons_zero, List.set_cons_succ]
        refine wpK_ready [8] (by kernel_rfl) (by simp) ?_
        refine AllK.cons rfl (fun K hK => ?_) ?_
        · skip
          go_simp
          go_at_call 46
          refine (without_any o6 vs c6 (some an) rngN 2 w4 hvl2 HVZ.out FO4 (by decide) rngN_z N4).mono ?_
          rintro e w5 ⟨v8, rfl, FB, hb⟩
          rw [HLS.out] at FB
          obtain ⟨o8, c8, rfl, FO5⟩ := FB.shape
          have B5 := step_b B4 hb
          have zz : W0.heap.size ≤ w4.heap.size := B4.size
          clear hb
          refine hK.out _ _ (fun _ => B5) (fun _ => ?_)
          clear hK K
          try simp only [Act.put, List.setIfInBounds_toArray, List.set_cons_zero, List.set_cons_succ]
          refine wpK_pure (i := 9) (v := .pointer (some ⟨w.heap.size, 3, none⟩)) rfl (by kernel_rfl) (fun _ _ _ h => h) (by rfl) (fun w9 => by go_simp) (fun _ => B5) ?_
          try simp only [Act.put, List.setIfInBounds_toArray, List.set_cons_zero, List.set_cons_succ]
          refine wpK_ready [10] (by kernel_rfl) (by simp) ?_
          refine AllK.cons rfl (fun K hK => ?_) ?_
          · skip
            have Q0 := R0.below B5
            have q3 := Q0.cell 3 rfl
            have f3 := Q0.free 3
            go_simp
            refine hK.out _ _ (fun h => absurd h (by decide)) (fun _ => ?_)
            clear hK K q3 f3
            try simp only [Act.put, List.setIfInBounds_toArray, List.set_cons_zero, List.set_cons_succ]
            refine wpK_done (by kernel_rfl) ?_ _
            have Q1 := Q0.set 3 (.slice o8 ls.length c8)
            have P1 := (O0.below B5).setOther (show w.heap.size + 1 ≠ w.heap.size by omega) 3 (.slice o8 ls.length c8)
            have q2 := Q1.cell 2 rfl
            have f2 := Q1.free 2
            have Q2 := Q1.set 2 (.int .i64 1)
            have P2 := P1.setOther (show w.heap.size + 1 ≠ w.heap.size by omega) 2 (.int .i64 1)
            have D1 := ((b0.trans (B5.mono b0.size)).setCell (p := ⟨w.heap.size, 3, none⟩) (Nat.le_refl _) (.slice o8 ls.length c8)).setCell (p := ⟨w.heap.size, 2, none⟩) (Nat.le_refl _) (.int .i64 1)
            have FB1 := ((FB.lower (Nat.le_trans hz0 zz)).set (g := w.heap.size) (j := 3) (by omega) (.slice o8 ls.length c8)).set (g := w.heap.size) (j := 2) (by omega) (.int .i64 1)
            clear Q0 Q1 P1 FB
            go_wp2_with (first | (refine wpList_load_rowAt rfl _ 40 (.tmp 2) rfl w.heap.size 40 (reqC m tg 1 o8 ls.length c8 bd) Q2 rfl _ Tryz.underlying40 req_size ?_) | (refine wpList_store_row rfl _ 40 (.tmp 4) (.tmp 16) rfl (w.heap.size + 1) 40 reqZ (reqC m tg 1 o8 ls.length c8 bd) P2 rfl rfl rfl req_size (req_one _ _ _ _ _ _ _) ?_; intro w9 R9 g1 g2 g3))
            refine bodyPost_ret (results_row1 rfl _ _ (w.heap.size + 1) 40 (reqC m tg 1 o8 ls.length c8 bd) R9 rfl _ Tryz.underlying40 req_size) rfl ?_
            rw [← HLE.out]
            exact ⟨o8, c8, rfl, (FB1.others (by omega) g2).lower (by omega), D1.trans (g1 _ (by omega))⟩
          exact AllK.nil
        exact AllK.nil
      exact AllK.nil
    exact AllK.nil
  exact AllK.nil
end Go.Proofs.YtjafkpedocdfjaaGreatDoor
namespace Go.Proofs.YtjafkpedocdfjaaGreatDoor
open Go.RowKit Go.Shelf

set_option maxHeartbeats 800000 in
theorem rof_any (oa : Option Addr) (xs : List Fd) (cap : Nat) (w : World) (hn : xs.length ≤ 100000) (hz : FldZ xs 100000) (hc : FldO w oa xs) :
    Calls Tryz.prog 55 #[.slice oa xs.length cap] w fun e w' => e = .returned (etagV (ofE xs)) ∧ Below w.heap.size w w' := by
  have R := RowAt.new w (etC false ⟨#[]⟩) 73
  have hb := alloc_b w (.cells #[.bool false, .string ⟨#[]⟩] 73)
  have HFi := Lib.hid (rfirst_any oa xs cap nETag (w.alloc (.cells #[.bool false, .string ⟨#[]⟩] 73)) (by decide) hn hz (hc.down hb))
  cases hg : getF (bs nETag) xs with
  | nil =>
    rw [hg] at HFi
    have HE : Hid (ofE xs = none) := Lib.hid (by unfold ofE; rw [hg])
    clear hg hz hc
    go_enter Tryz.func55, Tryz.ntmps55
    go_wp2_with fail
    refine HFi.out.mono ?_
    rintro e w1 ⟨he, hb1⟩
    rw [firstV] at he
    subst he
    have R1 := R.below hb1
    have b1 := step_b hb hb1
    clear R hb hb1 HFi
    go_wp2_with (refine wpList_store_row rfl _ 73 (.tmp 2) (.tmp 13) rfl w.heap.size 73 (etC false ⟨#[]⟩) (etC false ⟨#[]⟩) R1 rfl rfl rfl et_size (et_one _ _) ?_; intro w5 R5 f1 f2 f3)
    refine bodyPost_ret (results_row2 rfl _ _ w.heap.size 73 (etC false ⟨#[]⟩) R5 rfl _ Tryz.underlying73 et_size) rfl ?_
    exact ⟨by rw [HE.out]; rfl, b1.trans (f1 _ (Nat.le_refl _))⟩
  | cons x t =>
    rw [hg] at HFi
    have hx : x.size ≤ 100000 := getF_mem hz (n := bs nETag) (by rw [hg]; simp)
    have HE : Hid (ofE xs = etagL (bs x)) := Lib.hid (by unfold ofE; rw [hg])
    clear hg hz hc
    go_enter Tryz.func55, Tryz.ntmps55
    go_wp2_with fail
    refine HFi.out.mono ?_
    rintro e w1 ⟨he, hb1⟩
    rw [firstV] at he
    subst he
    have R1 := R.below hb1
    have b1 := step_b hb hb1
    clear R hb hb1 HFi
    go_wp2_with fail
    refine (retag_any x _ (by omega)).mono ?_
    rintro e w2 ⟨he, hb2⟩
    obtain ⟨b, l, ok, hV⟩ := etagV_form (etagL (bs x))
    rw [hV] at he
    subst he
    have R2 := R1.below hb2
    have b2 := step_b b1 hb2
    have HV := Lib.hid hV
    clear R1 b1 hb2 hV
    go_wp2_with (refine wpList_store_row rfl _ 73 (.tmp 2) (.tmp 16) rfl w.heap.size 73 (etC false ⟨#[]⟩) (etC b l) R2 rfl rfl rfl et_size (et_one _ _) ?_; intro w5 R5 f1 f2 f3)
    refine bodyPost_ret (results_row2 rfl _ _ w.heap.size 73 (etC b l) R5 rfl _ Tryz.underlying73 et_size) rfl ?_
    exact ⟨by rw [HE.out, HV.out]; rfl, b2.trans (f1 _ (Nat.le_refl _))⟩
theorem rdateV_form (l : List UInt8) : dateV (parseD l) = .tuple #[.int .i64 (dpt l).1, .bool (dpt l).2] := dateV_form l
def validTB (es : List Fd) : Bool := (ofE es).isSome || (dpt (bs (datedS (bs nLM) es))).2
theorem etagV_ok (o : Option (Bool × List UInt8)) : ∃ (b : Bool) (l : ByteArray), etagV o = .tuple #[.agg #[.bool b, .string l], .bool o.isSome] := by
  cases o with
  | none => exact ⟨false, ⟨#[]⟩, rfl⟩
  | some p => exact ⟨p.1, ⟨p.2.toArray⟩, rfl⟩
end Go.Proofs.YtjafkpedocdfjaaGreatDoor
namespace Go.Proofs.YtjafkpedocdfjaaGreatDoor
open Go.RowKit Go.Shelf
attribute [local go_sem] Oper.semAt_some
set_option linter.unusedSimpArgs false

theorem step_append_fld {ops : Array Oper} {o : Oper} {a : Act} {K : Act → World → Prop} {Q : Exit → Act → World → Prop} {E : Prop} (hgd : o.guard = none) (s x : Operand)
    (ho : o.op = .call { callee := .builtin .append, args := #[s, x], argTypes := #[24, 24] })
    (w0 w : World) (B : Nat) (v : Value) (xs : List Fd) (hs : a.eval s = v) (hown : FBuf w B v xs) (hb : Below B w0 w) (hB : B ≤ w.heap.size)
    (ad : Addr) (c : Fd) (hx : a.eval x = .slice (some ad) 1 1) (hc0 : w.cell? (ad.add 0) = some (.string c.1)) (hc1 : w.cell? (ad.add 1) = some (.string c.2)) (hl : xs.length + 1 ≤ 1000000)
    (h : ∀ v' w', FBuf w' B v' (xs ++ [c]) → Below B w0 w' → B ≤ w'.heap.size → K (a.put o.dst v') w') :
    if Region.wanted o (yielded ops a.tmps) = true then Oper.wp Tryz.prog o a w K Q else E := by
  have hw : Region.wanted o (yielded ops a.tmps) = true := by simp [Region.wanted, hgd]
  rw [if_pos hw]
  obtain ⟨i, hi, hz0, hz1, hz2⟩ := info_parts infoFld
  refine wp_append_own w s x 24 ho B 58 i (.agg #[.string ByteArray.empty, .string ByteArray.empty]) 2 32 Tryz.underlying24 hi hz0 hz1 hz2 rfl (by decide) v xs.length _ hs hown ad 1 1 [.string c.1, .string c.2] hx rfl ?_ ?_ (by unfold maxLen; omega) (by omega) hB ?_
  · intro j u hj
    rcases j with _ | _ | j
    · simp at hj; subst hj; exact hc0
    · simp at hj; subst hj; exact hc1
    · simp at hj
  · intro u hu
    simp at hu
    rcases hu with rfl | rfl <;> rfl
  · intro v' w' hown' hg _
    refine h v' w' ?_ (hb.grown hg hB (fun j hj => (World.ownsRow.lt hown j hj).1)) (Nat.le_trans hB hg.size)
    unfold FBuf
    rw [fcells_snoc, List.length_append]
    exact hown'
set_option maxHeartbeats 1600000 in
theorem refmt_any (wk : Bool) (t : ByteArray) (w : World) (hs : t.size ≤ 1000000) :
    Calls Tryz.prog 56 #[.agg #[.bool wk, .string t]] w fun e w' => e = .returned (.string ⟨(etfmtL (wk, bs t)).toArray⟩) ∧ Below w.heap.size w w' := by
  have hb := alloc_b w (.cells #[.bool wk, .string t] 73)
  have R := RowAt.new w (etC wk t) 73
  have c0 := R.cell 0 rfl
  have c1 := R.cell 1 rfl
  have z1 : ((⟨#[34]⟩ : ByteArray).size : Int) = 1 := rfl
  have z2 : ((⟨#[87, 47, 34]⟩ : ByteArray).size : Int) = 3 := rfl
  clear R
  cases hp : permB (bs t) with
  | false =>
    have HF : Hid (etfmtL (wk, bs t) = []) := Lib.hid (by unfold etfmtL; rw [hp]; rfl)
    have HP := Lib.hid hp
    clear hp
    go_enter Tryz.func56, Tryz.ntmps56
    go_wp2_with fail
    refine (rpermitted_any t _ (by omega)).mono ?_
    rintro e w1 ⟨rfl, hw1⟩
    rw [HP.out]
    subst hw1
    go_wp2_with fail
    go_ret
    exact ⟨by rw [HF.out]; rfl, hb⟩
  | true =>
    have HF : Hid (etfmtL (wk, bs t) = if wk then [87, 47] ++ ([34] ++ bs t ++ [34]) else [34] ++ bs t ++ [34]) := Lib.hid (by unfold etfmtL; rw [hp]; rfl)
    have HP := Lib.hid hp
    clear hp
    cases wk with
    | true =>
      obtain ⟨x, hx⟩ : ∃ x : ByteArray, (⟨#[87, 47, 34]⟩ : ByteArray) ++ t = x := ⟨_, rfl⟩
      obtain ⟨y, hy⟩ : ∃ y : ByteArray, x ++ (⟨#[34]⟩ : ByteArray) = y := ⟨_, rfl⟩
      have hxb : bs x = [87, 47, 34] ++ bs t := by rw [← hx, cat_bs]
      have hyb : bs y = [87, 47, 34] ++ bs t ++ [34] := by rw [← hy, cat_bs]; show bs x ++ [34] = _; rw [hxb]
      have hxz : x.size = t.size + 3 := by rw [← bs_length, hxb]; simp
      have s1 : ∀ wx, (Op.stringOp .add ⟨#[87, 47, 34]⟩ t).run Tryz.prog wx = .ok (.string x) wx := fun wx => (run_string_add_sum (P := Tryz.prog) (w := wx) ⟨#[87, 47, 34]⟩ t (by show 3 + t.size ≤ _; omega)).trans (by rw [hx])
      have s2 : ∀ wx, (Op.stringOp .add x ⟨#[34]⟩).run Tryz.prog wx = .ok (.string y) wx := fun wx => (run_string_add_sum (P := Tryz.prog) (w := wx) x ⟨#[34]⟩ (by show x.size + 1 ≤ _; omega)).trans (by rw [hy])
      have HV : Hid (y = ⟨(etfmtL (true, bs t)).toArray⟩) := Lib.hid (by rw [HF.out, if_pos rfl]; apply ByteArray.ext; apply Array.toList_inj.1; show bs y = _; rw [hyb]; simp)
      clear hx hy hxb hyb
      go_enter Tryz.func56, Tryz.ntmps56
      go_wp2_with fail
      refine (rpermitted_any t _ (by omega)).mono ?_
      rintro e w1 ⟨rfl, hw1⟩
      rw [HP.out]
      subst hw1
      go_wp2_with fail
      go_ret
      exact ⟨by rw [← HV.out]; rfl, hb⟩
    | false =>
      obtain ⟨x, hx⟩ : ∃ x : ByteArray, (⟨#[34]⟩ : ByteArray) ++ t = x := ⟨_, rfl⟩
      obtain ⟨y, hy⟩ : ∃ y : ByteArray, x ++ (⟨#[34]⟩ : ByteArray) = y := ⟨_, rfl⟩
      have hxb : bs x = [34] ++ bs t := by rw [← hx, cat_bs]
      have hyb : bs y = [34] ++ bs t ++ [34] := by rw [← hy, cat_bs]; show bs x ++ [34] = _; rw [hxb]
      have hxz : x.size = t.size + 1 := by rw [← bs_length, hxb]; simp
      have s1 : ∀ wx, (Op.stringOp .add ⟨#[34]⟩ t).run Tryz.prog wx = .ok (.string x) wx := fun wx => (run_string_add_sum (P := Tryz.prog) (w := wx) ⟨#[34]⟩ t (by show 1 + t.size ≤ _; omega)).trans (by rw [hx])
      have s2 : ∀ wx, (Op.stringOp .add x ⟨#[34]⟩).run Tryz.prog wx = .ok (.string y) wx := fun wx => (run_string_add_sum (P := Tryz.prog) (w := wx) x ⟨#[34]⟩ (by show x.size + 1 ≤ _; omega)).trans (by rw [hy])
      have HV : Hid (y = ⟨(etfmtL (false, bs t)).toArray⟩) := Lib.hid (by rw [HF.out, if_neg (by simp)]; apply ByteArray.ext; apply Array.toList_inj.1; show bs y = _; rw [hyb])
      clear hx hy hxb hyb
      go_enter Tryz.func56, Tryz.ntmps56
      go_wp2_with fail
      refine (rpermitted_any t _ (by omega)).mono ?_
      rintro e w1 ⟨rfl, hw1⟩
      rw [HP.out]
      subst hw1
      go_wp2_with fail
      go_ret
      exact ⟨by rw [← HV.out]; rfl, hb⟩
set_option maxHeartbeats 1600000 in
theorem rwithout_any (oa : Option Addr) (xs : List Fd) (cap : Nat) (on : Option Addr) (ns : List ByteArray) (cn : Nat) (w : World) (hn : xs.length ≤ 10000) (hz : FldZ xs 100000) (hc : FldO w oa xs)
    (hm : ns.length ≤ 10000) (hnz : ∀ x ∈ ns, x.size ≤ 100000) (hs : StrO w on ns) :
    Calls Tryz.prog 49 #[.slice oa xs.length cap, .slice on ns.length cn] w fun e w' => ∃ v, e = .returned v ∧ FBuf w' w.heap.size v (xs.filter (noneB (ns.map bs))) ∧ Below w.heap.size w w' := by
  have HC := Lib.hid hc
  have HZ := Lib.hid hz
  have HS := Lib.hid hs
  have HN := Lib.hid hnz
  clear hc hz hs hnz
  go_enter Tryz.func49, Tryz.ntmps49
  go_wp2_with (at_builtin; refine wpList_append_flds rfl (.const (.slice none 0 0)) (.tmp 7) rfl w _ w.heap.size _ [] rfl (FBuf.nil_ _ _) (Below.refl _ _) (Nat.le_refl _) oa xs cap rfl HC.out (by simp; omega) ?_)
  intro v0 w0 FB0 hb0 z0
  go_wp2_with fail
  go_loopw [5, 6] (fun v j wr => ∃ (k : Nat) (ys : List Fd), k ≤ ns.length ∧ j = .int .i64 k ∧ Hid (ys = xs.filter (noneB ((ns.take k).map bs))) ∧ ys.length ≤ xs.length ∧ FBuf wr w.heap.size v ys ∧ Below w.heap.size w wr) (fun _ j _ => ns.length - (intOf j).toNat)
  case atStart => exact ⟨0, xs, by omega, rfl, Lib.hid (noneB_nil xs), Nat.le_refl _, FB0, hb0⟩
  case round =>
    obtain ⟨k, ys, hk, rfl, HY, hyl, FB, hb⟩ := hrel
    clear FB0 hb0 z0
    by_cases hlt : k < ns.length
    · obtain ⟨n, hx⟩ : ∃ x, ns[k]? = some x := ⟨_, List.getElem?_eq_getElem hlt⟩
      obtain ⟨ad, rfl, c0⟩ := (HS.out.down hb) k n hx
      have zn := HN.out n (List.mem_of_getElem? hx)
      obtain ⟨ob, cb, rfl, FO⟩ := FB.shape
      have HY2 := Lib.hid (without_step (xs := xs) hx)
      have HR := Lib.hid (rremove_any ob ys cb n wr (by omega) (by omega) (by rw [HY.out]; exact HZ.out.filter _) FO)
      have hb' := hb.size
      clear hx FO
      go_wp2_with fail
      refine HR.out.mono ?_
      rintro e w2 ⟨v2, rfl, FB2, hb2⟩
      have b2 := step_b hb hb2
      have FB3 := FB2.lower hb'
      clear FB2 hb2 hb FB HR c0
      go_wp2_with fail
      go_roundw
      case rel => exact ⟨k + 1, _, by omega, by go_num, Lib.hid (by rw [HY.out]; exact HY2.out), Nat.le_trans (List.length_filter_le _ _) hyl, FB3, b2⟩
      case measure => simp [intOf]; omega
    · have HF : Hid (xs.filter (noneB (ns.map bs)) = ys) := Lib.hid (by rw [HY.out, List.take_of_length_le (by omega)])
      go_wp2_with fail
      go_ret
      exact ⟨_, rfl, by rw [HF.out]; exact FB, hb⟩
set_option maxHeartbeats 6400000 in
set_option maxRecDepth 100000 in
theorem routgoing_any (m tg : ByteArray) (mn : Int) (oa : Option Addr) (xs : List Fd) (cap : Nat) (bd s : ByteArray) (w : World)
    (hn : xs.length ≤ 5000) (hz : FldZ xs 100000) (hc : FldO w oa xs) (h0 : -9223372036854775808 ≤ mn) (h1 : mn ≤ 9223372036854775807) (hs : s.size ≤ 10000) :
    Calls Tryz.prog 19 #[reqV m tg mn oa xs.length cap bd, .string s] w fun e w' => ∃ (ob : Option Addr) (cb : Nat), e = .returned (reqV m tg 1 ob (outL mn s xs).length cb bd) ∧ FBuf w' w.heap.size (.slice ob (outL mn s xs).length cb) (outL mn s xs) ∧ Below w.heap.size w w' := by
  obtain ⟨R0, O0, b0⟩ := rows2 w (reqC m tg mn oa xs.length cap bd) 40 reqZ 40
  have hz0 : w.heap.size + 2 ≤ ((w.alloc (.cells (reqC m tg mn oa xs.length cap bd).toArray 40)).alloc (.cells reqZ.toArray 40)).heap.size := by
    rw [show ((w.alloc (.cells (reqC m tg mn oa xs.length cap bd).toArray 40)).alloc (.cells reqZ.toArray 40)).heap.size = (w.alloc (.cells (reqC m tg mn oa xs.length cap bd).toArray 40)).heap.size + 1 from Array.size_push _, show (w.alloc (.cells (reqC m tg mn oa xs.length cap bd).toArray 40)).heap.size = w.heap.size + 1 from Array.size_push _]
    exact Nat.le_refl _
  have HC0 := Lib.hid (hc.down b0)
  have HZ := Lib.hid hz
  obtain ⟨zs, hzs⟩ : ∃ zs, zs = stripL xs := ⟨_, rfl⟩
  have hzl : zs.length ≤ xs.length := by rw [hzs]; exact strip_len xs
  have HZZ : Hid (FldZ zs 100000) := Lib.hid (by rw [hzs]; exact strip_z hz)
  obtain ⟨ys, hys⟩ : ∃ ys, ys = zs.filter (noneB (rngN.map bs)) := ⟨_, rfl⟩
  have hyl : ys.length ≤ zs.length := by rw [hys]; exact List.length_filter_le _ _
  obtain ⟨ls, hls⟩ : ∃ ls, ls = outL mn s xs := ⟨_, rfl⟩
  have HLS : Hid (viaL mn s ys = ls) := Lib.hid (by rw [hls, outL_eq, hys, hzs])
  have HZS := Lib.hid hzs
  have HYS := Lib.hid hys
  have HLE := Lib.hid hls
  clear hc hz hzs hys hls
  go_enter Tryz.func19, Tryz.ntmps19
  go_wp2_with fail
  generalize (w.alloc (.cells (reqC m tg mn oa xs.length cap bd).toArray 40)).alloc (.cells reqZ.toArray 40) = W0 at *
  refine (rstrip_any oa xs cap _ (by omega) HZ.out HC0.out).mono ?_
  rintro e w1 ⟨v1, rfl, FB1, hb1⟩
  rw [← HZS.out] at FB1
  obtain ⟨o1, c1, rfl, FO1⟩ := FB1.shape
  have B1 := hb1
  have n2 := StrO.new w1 rngN
  rw [rngA_eq] at n2
  have a2 := alloc_b w1 (.cells #[.string ⟨#[82, 97, 110, 103, 101]⟩, .string ⟨#[73, 102, 45, 82, 97, 110, 103, 101]⟩] 9)
  have F2 := Lib.hid (FO1.down a2)
  have N2 := Lib.hid n2
  have B2 := step_b B1 a2
  have R2 := R0.below B2
  have O2 := O0.below B2
  have zz2 := B2.size
  clear FB1 hb1 FO1 n2 a2 B1
  go_wp2_with fail
  refine (rwithout_any o1 zs c1 (some ⟨w1.heap.size, 0, none⟩) rngN 2 _ (by omega) HZZ.out F2.out (by decide) rngN_z N2.out).mono ?_
  rintro e w3 ⟨v3, rfl, FB3, hb3⟩
  rw [← HYS.out] at FB3
  obtain ⟨o3, c3, rfl, FO3⟩ := FB3.shape
  have F3 := Lib.hid FO3
  have B3 := step_b B2 hb3
  have R3 := R2.below hb3
  have O3 := O2.below hb3
  have q2 := R3.cell 2 rfl
  clear FB3 FO3 hb3 B2 R2 O2 F2 N2 zz2
  have zz3 := B3.size
  go_wp2_with fail
  refine (rvia_any o3 ys c3 mn s w3 (by omega) F3.out h0 h1 (by omega)).mono ?_
  rintro e w4 ⟨v4, rfl, FB4, hb4⟩
  rw [HLS.out] at FB4
  obtain ⟨o4, c4, rfl, _⟩ := FB4.shape
  have B4 := step_b B3 hb4
  have R4 := R3.below hb4
  have O4 := O3.below hb4
  have q3 := R4.cell 3 rfl
  have f3 := R4.free 3
  have Q1 := R4.set 3 (.slice o4 ls.length c4)
  have P1 := O4.setOther (show w.heap.size + 1 ≠ w.heap.size by omega) 3 (.slice o4 ls.length c4)
  have q2 := Q1.cell 2 rfl
  have f2 := Q1.free 2
  have Q2 := Q1.set 2 (.int .i64 1)
  have P2 := P1.setOther (show w.heap.size + 1 ≠ w.heap.size by omega) 2 (.int .i64 1)
  have D1 := ((b0.trans (B4.mono b0.size)).setCell (p := ⟨w.heap.size, 3, none⟩) (Nat.le_refl _) (.slice o4 ls.length c4)).setCell (p := ⟨w.heap.size, 2, none⟩) (Nat.le_refl _) (.int .i64 1)
  have FB1 := ((FB4.lower (Nat.le_trans hz0 zz3)).set (g := w.heap.size) (j := 3) (by omega) (.slice o4 ls.length c4)).set (g := w.heap.size) (j := 2) (by omega) (.int .i64 1)
  clear R3 R4 O3 O4 Q1 P1 B3 B4 FB4 hb4 F3
  go_wp2_with (first | (refine wpList_load_rowAt rfl _ 40 (.tmp 2) rfl w.heap.size 40 (reqC m tg 1 o4 ls.length c4 bd) Q2 rfl _ Tryz.underlying40 req_size ?_) | (refine wpList_store_row rfl _ 40 (.tmp 4) (.tmp 18) rfl (w.heap.size + 1) 40 reqZ (reqC m tg 1 o4 ls.length c4 bd) P2 rfl rfl rfl req_size (req_one _ _ _ _ _ _ _) ?_; intro w9 R9 g1 g2 g3))
  refine bodyPost_ret (results_row1 rfl _ _ (w.heap.size + 1) 40 (reqC m tg 1 o4 ls.length c4 bd) R9 rfl _ Tryz.underlying40 req_size) rfl ?_
  rw [← HLE.out]
  exact ⟨o4, c4, rfl, (FB1.others (by omega) g2).lower (by omega), D1.trans (g1 _ (by omega))⟩
set_option maxHeartbeats 800000 in
theorem rconditional_any (m tg : ByteArray) (mn : Int) (oa : Option Addr) (xs : List Fd) (cap : Nat) (bd : ByteArray) (w : World) (hn : xs.length ≤ 100000) (hz : FldZ xs 100000) (hc : FldO w oa xs) :
    Calls Tryz.prog 23 #[reqV m tg mn oa xs.length cap bd] w fun e w' => e = .returned (.bool (condB xs)) ∧ Below w.heap.size w w' := by
  have b0 := alloc_b w (.cells (reqC m tg mn oa xs.length cap bd).toArray 40)
  have R := RowAt.new w (reqC m tg mn oa xs.length cap bd) 40
  have HC := Lib.hid (hc.down b0)
  have HZ := Lib.hid hz
  clear hc hz
  cases h1 : decide (0 < (getF (bs nINM) xs).length) with
  | true =>
    have HD := Lib.hid h1
    clear h1
    go_enter Tryz.func23, Tryz.ntmps23
    go_wp2_with fail
    refine (rhas_any oa xs cap nINM _ (by decide) hn HZ.out HC.out).mono ?_
    rintro e w1 ⟨rfl, hb1⟩
    rw [HD.out]
    go_wp2_with fail
    go_ret
    exact ⟨ret_bool (by unfold condB; rw [HD.out]; rfl), step_b b0 hb1⟩
  | false =>
    have HD := Lib.hid h1
    clear h1
    go_enter Tryz.func23, Tryz.ntmps23
    go_wp2_with fail
    refine (rhas_any oa xs cap nINM _ (by decide) hn HZ.out HC.out).mono ?_
    rintro e w1 ⟨rfl, hb1⟩
    rw [HD.out]
    have R1 := R.below hb1
    have c3 := R1.cell 3 rfl
    have HC1 := Lib.hid (HC.out.down hb1)
    clear R R1
    go_wp2_with fail
    refine (rhas_any oa xs cap nIMS _ (by decide) hn HZ.out HC1.out).mono ?_
    rintro e w2 ⟨rfl, hb2⟩
    go_wp2_with fail
    go_ret
    exact ⟨ret_bool (by unfold condB; rw [HD.out]; rfl), step_b (step_b b0 hb1) hb2⟩
set_option maxHeartbeats 1600000 in
theorem sameReq_any (m tg : ByteArray) (mn : Int) (oa : Option Addr) (xs : List Fd) (ca : Nat) (ob : Option Addr) (cb : Nat) (bd : ByteArray) (w : World) (hn : xs.length ≤ 1000000) (ha : FldO w oa xs) (hb : FldO w ob xs) :
    Calls Tryz.prog 17 #[reqV m tg mn oa xs.length ca bd, reqV m tg mn ob xs.length cb bd] w fun e w' => e = .returned (.bool true) ∧ Below w.heap.size w w' := by
  obtain ⟨R1, R2, b2⟩ := rows2 w (reqC m tg mn oa xs.length ca bd) 40 (reqC m tg mn ob xs.length cb bd) 40
  have HS := Lib.hid (sameFields_any oa ob xs ca cb _ hn (ha.down b2) (hb.down b2))
  clear ha hb
  go_enter Tryz.func17, Tryz.ntmps17
  go_wp2_with fail
  refine HS.out.mono ?_
  rintro e w1 ⟨rfl, hb1⟩
  have c1 := (R1.below hb1).cell 4 rfl
  have c2 := (R2.below hb1).cell 4 rfl
  have b3 := step_b b2 hb1
  clear R1 R2 HS hb1 b2
  go_wp2_with fail
  go_ret
  exact ⟨rfl, b3⟩
theorem rwithout6 (oa : Option Addr) (xs : List Fd) (cap : Nat) (w : World) (A B C : Obj) (hn : xs.length ≤ 10000) (hz : FldZ xs 100000) (hc : FldO w oa xs) :
    Calls Tryz.prog 49 #[.slice oa xs.length cap, .slice (some ⟨w.heap.size + 1 + 1 + 1, 0, none⟩) 6 6] ((((w.alloc A).alloc B).alloc C).alloc (.cells #[.string ⟨#[73, 102, 45, 78, 111, 110, 101, 45, 77, 97, 116, 99, 104]⟩, .string ⟨#[73, 102, 45, 77, 111, 100, 105, 102, 105, 101, 100, 45, 83, 105, 110, 99, 101]⟩, .string ⟨#[73, 102, 45, 77, 97, 116, 99, 104]⟩, .string ⟨#[73, 102, 45, 85, 110, 109, 111, 100, 105, 102, 105, 101, 100, 45, 83, 105, 110, 99, 101]⟩, .string ⟨#[73, 102, 45, 82, 97, 110, 103, 101]⟩, .string ⟨#[82, 97, 110, 103, 101]⟩] 9)) fun e w' => ∃ v, e = .returned v ∧ FBuf w' (w.heap.size + 1 + 1 + 1 + 1) v (xs.filter (noneB (condN.map bs))) ∧ Below (w.heap.size + 1 + 1 + 1 + 1) ((((w.alloc A).alloc B).alloc C).alloc (.cells #[.string ⟨#[73, 102, 45, 78, 111, 110, 101, 45, 77, 97, 116, 99, 104]⟩, .string ⟨#[73, 102, 45, 77, 111, 100, 105, 102, 105, 101, 100, 45, 83, 105, 110, 99, 101]⟩, .string ⟨#[73, 102, 45, 77, 97, 116, 99, 104]⟩, .string ⟨#[73, 102, 45, 85, 110, 109, 111, 100, 105, 102, 105, 101, 100, 45, 83, 105, 110, 99, 101]⟩, .string ⟨#[73, 102, 45, 82, 97, 110, 103, 101]⟩, .string ⟨#[82, 97, 110, 103, 101]⟩] 9)) w' := by
  have s1 : (w.alloc A).heap.size = w.heap.size + 1 := Array.size_push _
  have s2 : ((w.alloc A).alloc B).heap.size = w.heap.size + 1 + 1 := (Array.size_push _).trans (by rw [s1])
  have s3 : (((w.alloc A).alloc B).alloc C).heap.size = w.heap.size + 1 + 1 + 1 := (Array.size_push _).trans (by rw [s2])
  have h := rwithout_any oa xs cap (some ⟨(((w.alloc A).alloc B).alloc C).heap.size, 0, none⟩) condN 6 ((((w.alloc A).alloc B).alloc C).alloc (.cells (condN.map Value.string).toArray 9)) hn hz ((((hc.down (alloc_b w A)).down (alloc_b _ B)).down (alloc_b _ C)).down (alloc_b _ _)) (by decide) condN_z (StrO.new _ condN)
  have s4 : ((((w.alloc A).alloc B).alloc C).alloc (.cells (condN.map Value.string).toArray 9)).heap.size = w.heap.size + 1 + 1 + 1 + 1 := (Array.size_push _).trans (by rw [s3])
  rw [s4, s3, condA_eq, show condN.length = 6 from rfl] at h
  exact h
/-- What stands in the rows of a Validation that is under way. -/
def RVal (w : World) (m tg : ByteArray) (mn : Int) (bd : ByteArray) (oy : Option Addr) (ys : List Fd) (cy : Nat) (E : List Value) (x : World) : Prop :=
  RowAt x w.heap.size 40 (reqC m tg mn oy ys.length cy bd) ∧ RowAt x (w.heap.size + 1) 43 E ∧ RowAt x (w.heap.size + 1 + 1) 40 reqZ ∧ FBuf x (w.heap.size + 1 + 1 + 1) (.slice oy ys.length cy) ys ∧ Below w.heap.size w x ∧ w.heap.size + 1 + 1 + 1 ≤ x.heap.size
theorem RVal.below {w : World} {m tg : ByteArray} {mn : Int} {bd : ByteArray} {oy : Option Addr} {ys : List Fd} {cy : Nat} {E : List Value} {x y : World} (h : RVal w m tg mn bd oy ys cy E x) (hb : Below x.heap.size x y) : RVal w m tg mn bd oy ys cy E y := by
  obtain ⟨h1, h2, h3, h4, h5, h6⟩ := h
  exact ⟨h1.below hb, h2.below hb, h3.below hb, h4.below hb (Nat.le_refl _), step_b h5 hb, Nat.le_trans h6 hb.size⟩
theorem RVal.turn {w : World} {m tg : ByteArray} {mn : Int} {bd : ByteArray} {oy oz : Option Addr} {ys zs : List Fd} {cy cz : Nat} {E : List Value} {x y : World} (h : RVal w m tg mn bd oy ys cy E x) (hF : FBuf y (w.heap.size + 1 + 1 + 1) (.slice oz zs.length cz) zs) (hb : Below (w.heap.size + 1 + 1 + 1) x y) :
    RVal w m tg mn bd oz zs cz E (y.setCell ⟨w.heap.size, 3, none⟩ (.slice oz zs.length cz)) := by
  obtain ⟨h1, h2, h3, h4, h5, h6⟩ := h
  have e : (y.setCell ⟨w.heap.size, 3, none⟩ (.slice oz zs.length cz)).heap.size = y.heap.size := by simp
  refine ⟨(h1.belowB hb (by omega)).set 3 _, (h2.belowB hb (by omega)).setOther (by omega) 3 _, (h3.belowB hb (by omega)).setOther (by omega) 3 _, hF.set (by omega) _, (h5.trans (hb.mono (by omega))).setCell (p := ⟨w.heap.size, 3, none⟩) (Nat.le_refl _) _, by rw [e]; exact Nat.le_trans h6 hb.size⟩
set_option maxHeartbeats 12800000 in
set_option maxRecDepth 100000 in
theorem rvalid_any (m tg : ByteArray) (mn : Int) (oa : Option Addr) (xs : List Fd) (cap : Nat) (bd : ByteArray) (k1 k2 k3 : Value) (rs : ByteArray) (oe : Option Addr) (es : List Fd) (cape : Nat) (be : ByteArray) (r1 r2 : Int) (w : World)
    (hn : xs.length ≤ 10000) (hz : FldZ xs 100000) (hc : FldO w oa xs) (hne : es.length ≤ 10000) (hze : FldZ es 100000) (hce : FldO w oe es) :
    Calls Tryz.prog 21 #[reqV m tg mn oa xs.length cap bd, entV k1 k2 k3 rs oe es.length cape be r1 r2] w fun e w' => ∃ (ob : Option Addr) (cb : Nat), e = .returned (reqV m tg mn ob (validL xs es).length cb bd) ∧ FBuf w' w.heap.size (.slice ob (validL xs es).length cb) (validL xs es) ∧ Below w.heap.size w w' := by
  have RR := Lib.hid (rows3 w (reqC m tg mn oa xs.length cap bd) 40 (entC k1 k2 k3 rs oe es.length cape be r1 r2) 43 reqZ 40 (.cells #[.string ⟨#[73, 102, 45, 78, 111, 110, 101, 45, 77, 97, 116, 99, 104]⟩, .string ⟨#[73, 102, 45, 77, 111, 100, 105, 102, 105, 101, 100, 45, 83, 105, 110, 99, 101]⟩, .string ⟨#[73, 102, 45, 77, 97, 116, 99, 104]⟩, .string ⟨#[73, 102, 45, 85, 110, 109, 111, 100, 105, 102, 105, 101, 100, 45, 83, 105, 110, 99, 101]⟩, .string ⟨#[73, 102, 45, 82, 97, 110, 103, 101]⟩, .string ⟨#[82, 97, 110, 103, 101]⟩] 9))
  have HW6 := Lib.hid (rwithout6 oa xs cap w (.cells (reqC m tg mn oa xs.length cap bd).toArray 40) (.cells (entC k1 k2 k3 rs oe es.length cape be r1 r2).toArray 43) (.cells reqZ.toArray 40) hn hz hc)
  have HZE := Lib.hid hze
  have HE := Lib.hid hce
  obtain ⟨ys, hys⟩ : ∃ ys, ys = xs.filter (noneB (condN.map bs)) := ⟨_, rfl⟩
  have hyl : ys.length ≤ 10000 := by rw [hys]; exact Nat.le_trans (List.length_filter_le _ _) hn
  rw [← hys] at HW6
  have HYS := Lib.hid hys
  obtain ⟨sv, hsv⟩ : ∃ sv, sv = datedS (bs nLM) es := ⟨_, rfl⟩
  have hsz : sv.size ≤ 100000 := by rw [hsv]; exact datedS_size hze
  have HSV := Lib.hid hsv
  obtain ⟨lz, hlz⟩ : ∃ lz, lz = validL xs es := ⟨_, rfl⟩
  have HLZ := Lib.hid hlz
  have HVL : Hid (lz = ys ++ tagF es ++ sinceF es) := Lib.hid (by rw [hlz, hys]; rfl)
  have HPD : Hid (dateV (parseD (bs sv)) = .tuple #[.int .i64 (dpt (bs sv)).1, .bool (dpt (bs sv)).2]) := Lib.hid (dateV_form _)
  have HSF : Hid (sinceF es = if (dpt (bs sv)).2 then [(nIMS, sv)] else []) := Lib.hid (by rw [hsv]; rfl)
  rw [← hlz]
  clear hc hz hce hze hys hsv hlz
  go_enter Tryz.func21, Tryz.ntmps21
  go_wp2_with fail
  refine HW6.out.mono ?_
  rintro e w1 ⟨v1, rfl, FB1, hb1⟩
  obtain ⟨o1, c1, rfl, _⟩ := FB1.shape
  have Q1 := RR.out.1.belowB hb1 (by omega)
  have E1 := RR.out.2.1.belowB hb1 (by omega)
  have O1 := RR.out.2.2.1.belowB hb1 (by omega)
  have b1 := RR.out.2.2.2.1.trans (hb1.mono (by omega))
  have z1 : w.heap.size + 1 + 1 + 1 ≤ w1.heap.size := by have h1 := hb1.size; have h2 := RR.out.2.2.2.2; omega
  have q3 := Q1.cell 3 rfl
  have f3 := Q1.free 3
  have V1 : RVal w m tg mn bd o1 ys c1 (entC k1 k2 k3 rs oe es.length cape be r1 r2) (w1.setCell ⟨w.heap.size, 3, none⟩ (.slice o1 ys.length c1)) := by
    have e : (w1.setCell ⟨w.heap.size, 3, none⟩ (.slice o1 ys.length c1)).heap.size = w1.heap.size := by simp
    exact ⟨Q1.set 3 _, E1.setOther (by omega) 3 _, O1.setOther (by omega) 3 _, (FB1.lower (by omega)).set (by omega) _, b1.setCell (p := ⟨w.heap.size, 3, none⟩) (Nat.le_refl _) _, by rw [e]; exact z1⟩
  clear FB1 hb1 Q1 E1 O1 b1 z1 RR HW6
  have e4 := V1.2.1.cell 4 rfl
  have HO := Lib.hid (rof_any oe es cape (w1.setCell ⟨w.heap.size, 3, none⟩ (.slice o1 ys.length c1)) (by omega) HZE.out (HE.out.down V1.2.2.2.2.1))
  go_wp2_with fail
  generalize w1.setCell ⟨w.heap.size, 3, none⟩ (.slice o1 ys.length c1) = x1 at *
  refine HO.out.mono ?_
  clear HO q3 f3
  rintro e w2 ⟨he, hb2⟩
  have V2 := V1.below hb2
  clear V1 e4 hb2
  cases ht : ofE es with
  | none =>
    have HT : Hid (tagF es = []) := Lib.hid (by unfold tagF; rw [ht])
    rw [ht, show etagV none = .tuple #[.agg #[.bool false, .string ⟨#[]⟩], .bool false] from rfl] at he
    subst he
    clear ht
    have V3 := V2.below (alloc_b w2 (.cells #[.bool false, .string ⟨#[]⟩] 73))
    clear V2
    have e4 := V3.2.1.cell 4 rfl
    have HFi := Lib.hid (rfirst_any oe es cape nLM (w2.alloc (.cells #[.bool false, .string ⟨#[]⟩] 73)) (by decide) (by omega) HZE.out (HE.out.down V3.2.2.2.2.1))
    go_wp2_with fail
    refine HFi.out.mono ?_
    rintro e w6 ⟨he, hb6⟩
    rw [firstV_form, show (getF (bs nLM) es).headD ⟨#[]⟩ = sv from HSV.out.symm] at he
    subst he
    have V6 := V3.below hb6
    clear V3 hb6 HFi e4
    go_wp2_with fail
    refine (rparse_any sv _).mono ?_
    rintro e w7 ⟨he, hb7⟩
    rw [HPD.out] at he
    have V7 := V6.below hb7
    clear V6 hb7
    cases hd : (dpt (bs sv)).2 with
    | true =>
      have HL : Hid (lz = ys ++ [(nIMS, sv)]) := Lib.hid (by rw [HVL.out, HT.out, HSF.out, hd, if_pos rfl]; simp)
      rw [hd] at he
      subst he
      clear hd
      obtain ⟨_, _, _, FB7, _, z7⟩ := id V7
      have q3 := V7.1.cell 3 rfl
      go_wp2_with (at_builtin; refine wpList_append_fld rfl (.tmp 44) (.tmp 47) rfl w7 _ (w.heap.size + 1 + 1 + 1) _ ys rfl (FB7.alloc _) ((Below.refl _ _).alloc z7 _) (le_alloc z7 _) ⟨w7.heap.size, 0, none⟩ (nIMS, sv) rfl (new_f0 w7 (nIMS, sv) _) (new_f1 w7 (nIMS, sv) _) (by omega) ?_)
      intro v8 w8 FB8 hb8 z8
      rw [← HL.out] at FB8
      obtain ⟨o8, c8, rfl, _⟩ := FB8.shape
      have V9 := V7.turn FB8 hb8
      have q3 := (V7.1.belowB hb8 (by omega)).cell 3 rfl
      have f3 := (V7.1.belowB hb8 (by omega)).free 3
      clear V7 FB7 FB8 hb8 z7
      obtain ⟨Q9, _, O9, FB9, b9, z9⟩ := V9
      skip
      go_wp2_with (first | (refine wpList_load_rowAt rfl _ 40 (.tmp 2) rfl w.heap.size 40 (reqC m tg mn o8 lz.length c8 bd) Q9 rfl _ Tryz.underlying40 req_size ?_) | (refine wpList_store_row rfl _ 40 (.tmp 4) (.tmp 50) rfl (w.heap.size + 1 + 1) 40 reqZ (reqC m tg mn o8 lz.length c8 bd) O9 rfl rfl rfl req_size (req_one _ _ _ _ _ _ _) ?_; intro w9 R9 g1 g2 g3))
      refine bodyPost_ret (results_row1 rfl _ _ (w.heap.size + 1 + 1) 40 (reqC m tg mn o8 lz.length c8 bd) R9 rfl _ Tryz.underlying40 req_size) rfl ?_
      exact ⟨o8, c8, rfl, (FB9.others (by omega) g2).lower (by omega), b9.trans (g1 _ (by omega))⟩
    | false =>
      have HL : Hid (lz = ys) := Lib.hid (by rw [HVL.out, HT.out, HSF.out, hd, if_neg (by simp)]; simp)
      rw [hd] at he
      subst he
      clear hd
      rw [← HL.out] at V7
      obtain ⟨Q9, _, O9, FB9, b9, z9⟩ := V7
      skip
      go_wp2_with (first | (refine wpList_load_rowAt rfl _ 40 (.tmp 2) rfl w.heap.size 40 (reqC m tg mn o1 lz.length c1 bd) Q9 rfl _ Tryz.underlying40 req_size ?_) | (refine wpList_store_row rfl _ 40 (.tmp 4) (.tmp 50) rfl (w.heap.size + 1 + 1) 40 reqZ (reqC m tg mn o1 lz.length c1 bd) O9 rfl rfl rfl req_size (req_one _ _ _ _ _ _ _) ?_; intro w9 R9 g1 g2 g3))
      refine bodyPost_ret (results_row1 rfl _ _ (w.heap.size + 1 + 1) 40 (reqC m tg mn o1 lz.length c1 bd) R9 rfl _ Tryz.underlying40 req_size) rfl ?_
      exact ⟨o1, c1, rfl, (FB9.others (by omega) g2).lower (by omega), b9.trans (g1 _ (by omega))⟩
  | some t =>
    obtain ⟨tb, tl⟩ := t
    have hlt := etfmt_len HZE.out ht
    have HTA : Hid (tagF es = [(nINM, ⟨(etfmtL (tb, tl)).toArray⟩)]) := Lib.hid (by unfold tagF; rw [ht])
    rw [ht, show etagV (some (tb, tl)) = .tuple #[.agg #[.bool tb, .string ⟨tl.toArray⟩], .bool true] from rfl] at he
    subst he
    clear ht
    have V3 := V2.below (alloc_b w2 (.cells #[.bool tb, .string ⟨tl.toArray⟩] 73))
    have T3 := RowAt.new w2 [.bool tb, .string ⟨tl.toArray⟩] 73
    clear V2
    go_wp2_with fail
    generalize w2.alloc (.cells #[.bool tb, .string ⟨tl.toArray⟩] 73) = w3 at *
    have HT3 := Lib.hid T3
    clear T3
    have hmix : True := trivial
    refine wp_region_K 6 (fun w' => Below w3.heap.size w3 w') (by kernel_rfl) (Below.refl _ _).drew (fun hH => ?_)
    generalize w3.drew = y1 at *
    refine wpK_pure (i := 0) (v := .pointer (some ⟨w.heap.size, 3, none⟩)) rfl (by kernel_rfl) (fun _ _ _ h => h) (by rfl) (fun w9 => by go_simp) (fun _ => hH) ?_
    try simp only [Act.put, List.setIfInBounds_toArray, List.set_cons_zero, List.set_cons_succ]
    refine wpK_load (i := 1) (v := .slice o1 ys.length c1) [6] rfl (by kernel_rfl) (fun _ _ _ h => h) (by rfl) (fun w9 h9 => by have c9 := (V3.1.below h9).cell 3 rfl; go_simp) (fun _ => hH) ?_
    try simp only [Act.put, List.setIfInBounds_toArray, List.set_cons_zero, List.set_cons_succ]
    refine wpK_load (i := 2) (v := .agg #[.bool tb, .string ⟨tl.toArray⟩]) [3, 4, 5, 6] rfl (by kernel_rfl) (fun _ _ _ h => h) (by rfl) (fun w9 h9 => by have c9 := (HT3.out.below h9).cell 0 rfl; have d9 := (HT3.out.below h9).cell 1 rfl; go_simp) (fun _ => hH) ?_
    try simp only [Act.put, List.setIfInBounds_toArray, List.set_cons_zero, List.set_cons_succ]
    refine wpK_ready [3] (by kernel_rfl) (by simp) ?_
    refine AllK.cons rfl (fun K hK => ?_) ?_
    · go_simp
      go_at_call 56
      refine (refmt_any tb ⟨tl.toArray⟩ y1 (by show tl.length ≤ _; omega)).mono ?_
      rintro e y2 ⟨rfl, hb4⟩
      have H2 := step_b hH hb4
      clear hb4 hH
      obtain ⟨tv, htv⟩ : ∃ tv : ByteArray, (⟨(etfmtL (tb, bs ⟨tl.toArray⟩)).toArray⟩ : ByteArray) = tv := ⟨_, rfl⟩
      rw [htv]
      have HTV : Hid (tagF es = [(nINM, tv)]) := Lib.hid (by rw [HTA.out, ← htv])
      clear htv
      refine hK.out _ _ (fun _ => H2) (fun _ => ?_)
      clear hK K
      try simp only [Act.put, List.setIfInBounds_toArray, List.set_cons_zero, List.set_cons_succ]
      refine wpK_pure (i := 4) (v := .agg #[.string nINM, .string tv]) rfl (by kernel_rfl) (fun _ _ _ h => h) (by rfl) (fun w9 => by go_simp) (fun _ => H2) ?_
      try simp only [Act.put, List.setIfInBounds_toArray, List.set_cons_zero, List.set_cons_succ]
      refine wpK_ready [5] (by kernel_rfl) (by simp) ?_
      refine AllK.cons rfl (fun K hK => ?_) ?_
      · go_simp
        have V4 := V3.below H2
        obtain ⟨_, _, _, FB4, _, z4⟩ := id V4
        have H3 := step_b H2 (alloc_b y2 (.cells #[.string nINM, .string tv] 58))
        refine hK.out _ _ (fun _ => H3) (fun _ => ?_)
        clear hK K
        try simp only [Act.put, List.setIfInBounds_toArray, List.set_cons_zero, List.set_cons_succ]
        refine wpK_ready [6] (by kernel_rfl) (by simp) ?_
        refine AllK.cons rfl (fun K hK => ?_) ?_
        · refine step_append_fld rfl (.tmp 24) (.tmp 28) rfl y2 _ (w.heap.size + 1 + 1 + 1) _ ys rfl (FB4.alloc _) ((Below.refl _ _).alloc z4 _) (le_alloc z4 _) ⟨y2.heap.size, 0, none⟩ (nINM, tv) rfl (new_f0 y2 (nINM, tv) _) (new_f1 y2 (nINM, tv) _) (by omega) ?_
          intro v5 y5 FB5 hb5 z5
          obtain ⟨zs, hzs⟩ : ∃ zs, zs = ys ++ [(nINM, tv)] := ⟨_, rfl⟩
          have hzl : zs.length ≤ 10001 := by rw [hzs, List.length_append, List.length_singleton]; omega
          rw [← hzs] at FB5
          have HZ5 := Lib.hid hzs
          clear hzs
          obtain ⟨o5, c5, rfl, _⟩ := FB5.shape
          have V5 := V4.turn FB5 hb5
          have q3 := (V4.1.belowB hb5 (by omega)).cell 3 rfl
          have f3 := (V4.1.belowB hb5 (by omega)).free 3
          clear FB4 H3 z4 V3 V4 FB5 hb5 H2
          refine hK.out _ _ (fun h => absurd h (by decide)) (fun _ => ?_)
          clear hK K
          try simp only [Act.put, List.setIfInBounds_toArray, List.set_cons_zero, List.set_cons_succ]
          refine wpK_pure (i := 7) (v := .pointer (some ⟨w.heap.size, 3, none⟩)) rfl (by kernel_rfl) (fun _ _ _ h => h) (by rfl) (fun w9 => by go_simp) (fun h => absurd h (by decide)) ?_
          try simp only [Act.put, List.setIfInBounds_toArray, List.set_cons_zero, List.set_cons_succ]
          refine wpK_ready [8] (by kernel_rfl) (by simp) ?_
          refine AllK.cons rfl (fun K hK => ?_) ?_
          · go_simp
            refine hK.out _ _ (fun h => absurd h (by decide)) (fun _ => ?_)
            clear hK K
            try simp only [Act.put, List.setIfInBounds_toArray, List.set_cons_zero, List.set_cons_succ]
            refine wpK_done (by kernel_rfl) ?_ _
            generalize y5.setCell ⟨w.heap.size, 3, none⟩ (.slice o5 zs.length c5) = x5 at *
            clear q3 f3
            have e4 := V5.2.1.cell 4 rfl
            have HFi := Lib.hid (rfirst_any oe es cape nLM x5 (by decide) (by omega) HZE.out (HE.out.down V5.2.2.2.2.1))
            go_wp2_with fail
            refine HFi.out.mono ?_
            rintro e w6 ⟨he, hb6⟩
            rw [firstV_form, show (getF (bs nLM) es).headD ⟨#[]⟩ = sv from HSV.out.symm] at he
            subst he
            have V6 := V5.below hb6
            clear V5 hb6 HFi e4
            go_wp2_with fail
            refine (rparse_any sv _).mono ?_
            rintro e w7 ⟨he, hb7⟩
            rw [HPD.out] at he
            have V7 := V6.below hb7
            clear V6 hb7
            cases hd : (dpt (bs sv)).2 with
            | true =>
              have HL : Hid (lz = zs ++ [(nIMS, sv)]) := Lib.hid (by rw [HVL.out, HTV.out, HSF.out, hd, if_pos rfl]; rw [← HZ5.out])
              rw [hd] at he
              subst he
              clear hd
              obtain ⟨_, _, _, FB7, _, z7⟩ := id V7
              have q3 := V7.1.cell 3 rfl
              go_wp2_with (at_builtin; refine wpList_append_fld rfl (.tmp 44) (.tmp 47) rfl w7 _ (w.heap.size + 1 + 1 + 1) _ zs rfl (FB7.alloc _) ((Below.refl _ _).alloc z7 _) (le_alloc z7 _) ⟨w7.heap.size, 0, none⟩ (nIMS, sv) rfl (new_f0 w7 (nIMS, sv) _) (new_f1 w7 (nIMS, sv) _) (by omega) ?_)
              intro v8 w8 FB8 hb8 z8
              rw [← HL.out] at FB8
              obtain ⟨o8, c8, rfl, _⟩ := FB8.shape
              have V9 := V7.turn FB8 hb8
              have q3 := (V7.1.belowB hb8 (by omega)).cell 3 rfl
              have f3 := (V7.1.belowB hb8 (by omega)).free 3
              clear V7 FB7 FB8 hb8 z7
              obtain ⟨Q9, _, O9, FB9, b9, z9⟩ := V9
              skip
              go_wp2_with (first | (refine wpList_load_rowAt rfl _ 40 (.tmp 2) rfl w.heap.size 40 (reqC m tg mn o8 lz.length c8 bd) Q9 rfl _ Tryz.underlying40 req_size ?_) | (refine wpList_store_row rfl _ 40 (.tmp 4) (.tmp 50) rfl (w.heap.size + 1 + 1) 40 reqZ (reqC m tg mn o8 lz.length c8 bd) O9 rfl rfl rfl req_size (req_one _ _ _ _ _ _ _) ?_; intro w9 R9 g1 g2 g3))
              refine bodyPost_ret (results_row1 rfl _ _ (w.heap.size + 1 + 1) 40 (reqC m tg mn o8 lz.length c8 bd) R9 rfl _ Tryz.underlying40 req_size) rfl ?_
              exact ⟨o8, c8, rfl, (FB9.others (by omega) g2).lower (by omega), b9.trans (g1 _ (by omega))⟩
            | false =>
              have HL : Hid (lz = zs) := Lib.hid (by rw [HVL.out, HTV.out, HSF.out, hd, if_neg (by simp)]; rw [List.append_nil, ← HZ5.out])
              rw [hd] at he
              subst he
              clear hd
              rw [← HL.out] at V7
              obtain ⟨Q9, _, O9, FB9, b9, z9⟩ := V7
              skip
              go_wp2_with (first | (refine wpList_load_rowAt rfl _ 40 (.tmp 2) rfl w.heap.size 40 (reqC m tg mn o5 lz.length c5 bd) Q9 rfl _ Tryz.underlying40 req_size ?_) | (refine wpList_store_row rfl _ 40 (.tmp 4) (.tmp 50) rfl (w.heap.size + 1 + 1) 40 reqZ (reqC m tg mn o5 lz.length c5 bd) O9 rfl rfl rfl req_size (req_one _ _ _ _ _ _ _) ?_; intro w9 R9 g1 g2 g3))
              refine bodyPost_ret (results_row1 rfl _ _ (w.heap.size + 1 + 1) 40 (reqC m tg mn o5 lz.length c5 bd) R9 rfl _ Tryz.underlying40 req_size) rfl ?_
              exact ⟨o5, c5, rfl, (FB9.others (by omega) g2).lower (by omega), b9.trans (g1 _ (by omega))⟩
          · exact AllK.nil
        · exact AllK.nil
      · exact AllK.nil
    · exact AllK.nil
end Go.Proofs.YtjafkpedocdfjaaGreatDoor
namespace Go.Proofs.YtjafkpedocdfjaaGreatDoor
open Go.RowKit

/-- It answers; and true says that the list is short. -/
def KeepOf (xs : List ByteArray) (w : World) (e : Ending) (w' : World) : Prop := ∃ b : Bool, e = .returned (.bool b) ∧ w = w' ∧ (b = true → xs.length ≤ 20 ∧ ∀ x ∈ xs, x.size ≤ 100)
theorem keepstr_any (oa : Option Addr) (xs : List ByteArray) (cap : Nat) (w : World) (hc : StrO w oa xs) (hz : ∀ x ∈ xs, x.size ≤ 9223372036854775807) (hn : xs.length ≤ 9223372036854775807) :
    Calls Tryz.prog 44 #[.slice oa xs.length cap] w (KeepOf xs w) := by
  have HC := Lib.hid hc
  have HZ := Lib.hid hz
  clear hc hz
  go_enter Tryz.func44, Tryz.ntmps44
  go_wp2_with fail
  go_loop [3] (fun j => ∃ k : Nat, k ≤ xs.length ∧ k ≤ 21 ∧ j = .int .i64 k ∧ Hid (∀ (i : Nat) (x : ByteArray), i < k → xs[i]? = some x → x.size ≤ 100)) (fun j => xs.length - (intOf j).toNat)
  case atStart => exact ⟨0, by omega, by omega, rfl, Lib.hid (fun i x h => by omega)⟩
  case round =>
    obtain ⟨k, hk, hk2, rfl, H⟩ := hrel
    by_cases hlt : k < xs.length
    · by_cases h21 : k < 21
      · obtain ⟨x, hx⟩ : ∃ x, xs[k]? = some x := ⟨_, List.getElem?_eq_getElem hlt⟩
        obtain ⟨ad, rfl, hcx⟩ := HC.out k x hx
        have zx := HZ.out x (List.mem_of_getElem? hx)
        have HX := Lib.hid hx
        clear hx
        by_cases hb : 100 < (x.size : Int)
        · go_wp2_with fail
          go_ret
          exact ⟨false, rfl, rfl, fun h => by cases h⟩
        · go_wp2_with fail
          go_round
          case rel =>
            refine ⟨k + 1, by omega, by omega, by go_num, Lib.hid (fun i y hi hy => ?_)⟩
            by_cases he : i = k
            · subst he
              have := HX.out
              rw [this] at hy; cases hy; omega
            · exact H.out i y (by omega) hy
          case measure => simp [intOf]; omega
      · have hl : ¬ (xs.length : Int) ≤ 20 := by omega
        go_wp2_with fail
        go_ret
        exact ⟨false, rfl, rfl, fun h => by cases h⟩
    · by_cases hl : (xs.length : Int) ≤ 20
      · go_wp2_with fail
        go_ret
        refine ⟨true, rfl, rfl, fun _ => ⟨by omega, fun x hx => ?_⟩⟩
        obtain ⟨i, hi⟩ := List.getElem?_of_mem hx
        exact H.out i x (by have := (List.getElem?_eq_some_iff.1 hi).1; omega) hi
      · go_wp2_with fail
        go_ret
        exact ⟨false, rfl, rfl, fun h => by cases h⟩
end Go.Proofs.YtjafkpedocdfjaaGreatDoor
namespace Go.Proofs.YtjafkpedocdfjaaGreatDoor
open Go.Joins Go.ChangeShapes Go.WideShapes Go.RowKit Go.Deep

section
variable {H : Type} {enc : TypeId × Value → H} {P : Program}
theorem open8 {w : World} {base : Nat} {spare : Nat → Bool} {held : Bool} {r : Reach} {b0 : Nat} {t : TypeId} {f0 f1 f2 f3 f4 f5 f6 f7 : Field} {v : Value} {d : DataW H} {pl : List MemPlace} (hs : P.underlying t = some (.struct #[f0, f1, f2, f3, f4, f5, f6, f7])) (hone : oneCellFields P #[f0, f1, f2, f3, f4, f5, f6, f7] = true) (hC : P.cellsOf t = 8)
    (hv : Value.okWide P w r b0 t v) (h : DataW.Trod enc P w base spare held t v d pl) :
    ∃ (c0 c1 c2 c3 c4 c5 c6 c7 : Value) (n : Nat) (y0 y1 y2 y3 y4 y5 y6 y7 : DataW H × List MemPlace), v = .agg #[c0, c1, c2, c3, c4, c5, c6, c7] ∧ DataW.trod enc P w base spare held n f0.type [c0] = some y0 ∧ DataW.trod enc P w base spare held n f1.type [c1] = some y1 ∧
      DataW.trod enc P w base spare held n f2.type [c2] = some y2 ∧ DataW.trod enc P w base spare held n f3.type [c3] = some y3 ∧ DataW.trod enc P w base spare held n f4.type [c4] = some y4 ∧ DataW.trod enc P w base spare held n f5.type [c5] = some y5 ∧ DataW.trod enc P w base spare held n f6.type [c6] = some y6 ∧ DataW.trod enc P w base spare held n f7.type [c7] = some y7 := by
  obtain ⟨cs, rfl, hsz⟩ := okWide_struct hs hv
  obtain ⟨l⟩ := cs
  match l, hsz.trans hC with
  | [c0, c1, c2, c3, c4, c5, c6, c7], _ =>
    obtain ⟨fuel, hf⟩ := h
    obtain ⟨xs, n, _, hx, _, hlen, hg⟩ := DataW.trod_struct hs hf
    obtain ⟨o0, k0⟩ := hone_of hone 0 f0 rfl
    obtain ⟨o1, k1⟩ := hone_of hone 1 f1 rfl
    obtain ⟨o2, k2⟩ := hone_of hone 2 f2 rfl
    obtain ⟨o3, k3⟩ := hone_of hone 3 f3 rfl
    obtain ⟨o4, k4⟩ := hone_of hone 4 f4 rfl
    obtain ⟨o5, k5⟩ := hone_of hone 5 f5 rfl
    obtain ⟨o6, k6⟩ := hone_of hone 6 f6 rfl
    obtain ⟨o7, k7⟩ := hone_of hone 7 f7 rfl
    match xs, hlen with
    | [y0, y1, y2, y3, y4, y5, y6, y7], _ =>
      exact ⟨c0, c1, c2, c3, c4, c5, c6, c7, n, y0, y1, y2, y3, y4, y5, y6, y7, rfl, by simpa [Value.cells, o0, k0] using hg 0 f0 rfl, by simpa [Value.cells, o1, k1] using hg 1 f1 rfl, by simpa [Value.cells, o2, k2] using hg 2 f2 rfl, by simpa [Value.cells, o3, k3] using hg 3 f3 rfl, by simpa [Value.cells, o4, k4] using hg 4 f4 rfl,
        by simpa [Value.cells, o5, k5] using hg 5 f5 rfl, by simpa [Value.cells, o6, k6] using hg 6 f6 rfl, by simpa [Value.cells, o7, k7] using hg 7 f7 rfl⟩
theorem open_strs_c {e0 t : TypeId} {W : World} {n : Nat} {v : Value} {y : DataW H × List MemPlace} (he : P.underlying e0 = some .string) (hce : P.cellsOf e0 = 1) (ht : P.underlying t = some (.slice e0))
    (hf : DataW.trod enc P W 0 (fun _ => true) true n t [v] = some y) :
    ∃ (oa : Option Addr) (xs : List ByteArray) (cap : Nat), v = .slice oa xs.length cap ∧ StrO W oa xs ∧ (∀ x ∈ xs, x.size ≤ bigN) ∧ xs.length ≤ bigN := by
  rcases open_strings ht he hce hf with ⟨hcs, hx⟩ | ⟨a, len', cap', ss, hcs, _, hl, hm, hz, hx, hcell, hws⟩
  · cases one_cell hcs
    exact ⟨none, [], 0, rfl, fun i x hx => by simp at hx, fun x hx => by simp at hx, by simp⟩
  · cases one_cell hcs
    simp only [if_true] at hz
    have hlen : (ss.take len').length = len' := by rw [List.length_take]; omega
    refine ⟨some a, ss.take len', cap', by rw [hlen], fun i x hx => ?_, fun x hx => ?_, ?_⟩
    · rw [List.getElem?_take] at hx
      split at hx
      · rename_i hi
        have hi' : i < ss.length := (List.getElem?_eq_some_iff.1 hx).1
        refine ⟨a, rfl, ?_⟩
        rw [hcell i hi', List.getD_eq_getElem?_getD, hx]; rfl
      · cases hx
    · have := hws x (List.mem_of_mem_take hx)
      unfold maxLen at this; exact this
    · rw [hlen]; unfold maxLen at hm; show _ ≤ 9223372036854775807; omega
end
/-- A list of lists of strings lies behind the address. -/
def MatO (w : World) (oa : Option Addr) (ks : List (List ByteArray)) : Prop := ∀ (i : Nat) (row : List ByteArray), ks[i]? = some row → ∃ (ad : Addr) (o : Option Addr) (cap : Nat), oa = some ad ∧ w.cell? (ad.add i) = some (.slice o row.length cap) ∧ StrO w o row
def MatZ (ks : List (List ByteArray)) (n m : Nat) : Prop := ∀ row ∈ ks, row.length ≤ n ∧ ∀ x ∈ row, x.size ≤ m
theorem MatO.down {w w' : World} {oa : Option Addr} {ks : List (List ByteArray)} (h : MatO w oa ks) (hb : Below w.heap.size w w') : MatO w' oa ks := fun i row hr => by
  obtain ⟨ad, o, cap, h1, h2, h3⟩ := h i row hr
  exact ⟨ad, o, cap, h1, (hb.cell (cell_lt h2)).trans h2, h3.down hb⟩
theorem open_mat {H : Type} {enc : TypeId × Value → H} {P : Program} {e0 t u : TypeId} {W : World} {n : Nat} {v : Value} {y : DataW H × List MemPlace} (he : P.underlying e0 = some .string) (hce : P.cellsOf e0 = 1) (ht : P.underlying t = some (.slice e0)) (hct : P.cellsOf t = 1) (hu : P.underlying u = some (.slice t))
    (hf : DataW.trod enc P W 0 (fun _ => true) true n u [v] = some y) :
    ∃ (oa : Option Addr) (ks : List (List ByteArray)) (cap : Nat), v = .slice oa ks.length cap ∧ MatO W oa ks ∧ MatZ ks bigN bigN ∧ ks.length ≤ bigN := by
  rcases open_slice1 hu hct hf with ⟨hcs, _⟩ | ⟨a, len, cap, m, n', V, D, Pl, hcs, _, hl, hm, hmm, _, hi⟩
  · cases one_cell hcs
    exact ⟨none, [], 0, rfl, fun i x hx => by simp at hx, fun x hx => by simp at hx, by simp⟩
  · cases one_cell hcs
    simp only [if_true] at hmm
    have each : ∀ i, i < m → ∃ row : List ByteArray, (∃ (o : Option Addr) (c : Nat), W.cell? (a.add i) = some (.slice o row.length c) ∧ StrO W o row) ∧ (∀ x ∈ row, x.size ≤ bigN) ∧ row.length ≤ bigN := by
      intro i him
      obtain ⟨c0, t0⟩ := hi i him
      obtain ⟨o, row, c, e1, h1, h2, h3⟩ := open_strs_c he hce ht t0
      exact ⟨row, ⟨o, c, by rw [c0, e1], h1⟩, h2, h3⟩
    obtain ⟨q, hq⟩ := choose_lt each
    refine ⟨some a, (List.range len).map q, cap, by simp, fun i row hx => ?_, fun row hx => ?_, ?_⟩
    · rw [List.getElem?_map] at hx
      cases hr : (List.range len)[i]? with
      | none => rw [hr] at hx; cases hx
      | some j =>
        rw [hr] at hx
        obtain ⟨hil, hj⟩ := List.getElem?_eq_some_iff.1 hr
        rw [List.length_range] at hil
        rw [List.getElem_range] at hj
        subst hj
        cases hx
        obtain ⟨⟨o, c, h1, h2⟩, _⟩ := hq i (by omega)
        exact ⟨a, o, c, rfl, h1, h2⟩
    · obtain ⟨i, hi', rfl⟩ := List.mem_map.1 hx
      have := hq i (by have := List.mem_range.1 hi'; omega)
      exact ⟨this.2.2, this.2.1⟩
    · rw [List.length_map, List.length_range]; unfold maxLen at hm; show _ ≤ 9223372036854775807; omega
theorem cells_strs : Tryz.prog.cellsOf 29 = 1 := by kernel_rfl
theorem open_ent {H : Type} {enc : TypeId × Value → H} {W : World} {v : Value}
    (h8 : ∃ (c0 c1 c2 c3 c4 c5 c6 c7 : Value) (n : Nat) (y0 y1 y2 y3 y4 y5 y6 y7 : DataW H × List MemPlace), v = .agg #[c0, c1, c2, c3, c4, c5, c6, c7] ∧ DataW.trod enc Tryz.prog W 0 (fun _ => true) true n 41 [c0] = some y0 ∧ DataW.trod enc Tryz.prog W 0 (fun _ => true) true n 29 [c1] = some y1 ∧
      DataW.trod enc Tryz.prog W 0 (fun _ => true) true n 29 [c2] = some y2 ∧ DataW.trod enc Tryz.prog W 0 (fun _ => true) true n 9 [c3] = some y3 ∧ DataW.trod enc Tryz.prog W 0 (fun _ => true) true n 24 [c4] = some y4 ∧ DataW.trod enc Tryz.prog W 0 (fun _ => true) true n 9 [c5] = some y5 ∧
      DataW.trod enc Tryz.prog W 0 (fun _ => true) true n 2 [c6] = some y6 ∧ DataW.trod enc Tryz.prog W 0 (fun _ => true) true n 2 [c7] = some y7) :
    ∃ (ok : Option Addr) (ks : List (List ByteArray)) (ck : Nat) (ov : Option Addr) (vs : List ByteArray) (cv : Nat) (os : Option Addr) (ss : List ByteArray) (cs : Nat) (rs : ByteArray) (oe : Option Addr) (es : List Fd) (ce : Nat) (be : ByteArray) (r1 r2 : Int),
      v = .agg #[.slice ok ks.length ck, .slice ov vs.length cv, .slice os ss.length cs, .string rs, .slice oe es.length ce, .string be, .int .i64 r1, .int .i64 r2] ∧ MatO W ok ks ∧ MatZ ks bigN bigN ∧ ks.length ≤ bigN ∧ StrO W ov vs ∧ (∀ x ∈ vs, x.size ≤ bigN) ∧ vs.length ≤ bigN ∧ StrO W os ss ∧ (∀ x ∈ ss, x.size ≤ bigN) ∧ ss.length ≤ bigN ∧
      rs.size ≤ bigN ∧ FldO W oe es ∧ FldZ es bigN ∧ es.length ≤ bigN ∧ be.size ≤ bigN ∧ (Lit.int .i64 r1).wf = true ∧ (Lit.int .i64 r2).wf = true := by
  obtain ⟨c0, c1, c2, c3, c4, c5, c6, c7, n, y0, y1, y2, y3, y4, y5, y6, y7, rfl, g0, g1, g2, g3, g4, g5, g6, g7⟩ := h8
  obtain ⟨ok, ks, ck, e0, k1, k2, k3⟩ := open_mat Tryz.underlying9 cells_str Tryz.underlying29 cells_strs Tryz.underlying41 g0
  obtain ⟨ov, vs, cv, e1, v1, v2, v3⟩ := open_strs_c Tryz.underlying9 cells_str Tryz.underlying29 g1
  obtain ⟨os, ss, cs, e2, s1, s2, s3⟩ := open_strs_c Tryz.underlying9 cells_str Tryz.underlying29 g2
  obtain ⟨rs, e3, _, z3⟩ := DataW.trod_string Tryz.underlying9 g3
  obtain ⟨oe, es, ce, e4, f1, f2, f3⟩ := open_fld g4
  obtain ⟨be, e5, _, z5⟩ := DataW.trod_string Tryz.underlying9 g5
  obtain ⟨r1, e6, _, w6⟩ := DataW.trod_int Tryz.underlying2 g6
  obtain ⟨r2, e7, _, w7⟩ := DataW.trod_int Tryz.underlying2 g7
  cases e0; cases e1; cases e2; cases one_cell e3; cases e4; cases one_cell e5; cases one_cell e6; cases one_cell e7
  unfold maxLen at z3 z5
  exact ⟨ok, ks, ck, ov, vs, cv, os, ss, cs, rs, oe, es, ce, be, r1, r2, rfl, k1, k2, k3, v1, v2, v3, s1, s2, s3, z3, f1, f2, f3, z5, w6, w7⟩
/-- keep.Keys answers; and true says that the keys are few and short. -/
def KeysOf (ks : List (List ByteArray)) (w : World) (e : Ending) (w' : World) : Prop := ∃ b : Bool, e = .returned (.bool b) ∧ w = w' ∧ (b = true → ks.length ≤ 10 ∧ MatZ ks 20 100)
set_option maxHeartbeats 1600000 in
theorem keepkeys_any (oa : Option Addr) (ks : List (List ByteArray)) (cap : Nat) (w : World) (hc : MatO w oa ks) (hz : MatZ ks bigN bigN) (hn : ks.length ≤ bigN) :
    Calls Tryz.prog 43 #[.slice oa ks.length cap] w (KeysOf ks w) := by
  have HC := Lib.hid hc
  have HZ := Lib.hid hz
  have hn' : ks.length ≤ 9223372036854775807 := hn
  clear hc hz hn
  go_enter Tryz.func43, Tryz.ntmps43
  go_wp2_with fail
  go_loop [3] (fun j => ∃ k : Nat, k ≤ ks.length ∧ k ≤ 11 ∧ j = .int .i64 k ∧ Hid (∀ (i : Nat) (row : List ByteArray), i < k → ks[i]? = some row → row.length ≤ 20 ∧ ∀ x ∈ row, x.size ≤ 100)) (fun j => ks.length - (intOf j).toNat)
  case atStart => exact ⟨0, by omega, by omega, rfl, Lib.hid (fun i x h => by omega)⟩
  case round =>
    obtain ⟨k, hk, hk2, rfl, H⟩ := hrel
    by_cases hlt : k < ks.length
    · by_cases h21 : k < 11
      · obtain ⟨row, hx⟩ : ∃ x, ks[k]? = some x := ⟨_, List.getElem?_eq_getElem hlt⟩
        obtain ⟨ad, o, c, rfl, hcx, hs⟩ := HC.out k row hx
        have zx := HZ.out row (List.mem_of_getElem? hx)
        have HKS := Lib.hid (keepstr_any o row c w hs zx.2 zx.1)
        have HX := Lib.hid hx
        clear hx zx hs
        go_wp2_with fail
        refine HKS.out.mono ?_
        rintro e w1 ⟨b, rfl, hw1, hbz⟩
        have HB := Lib.hid hbz
        subst hw1
        clear hbz
        cases b with
        | false =>
          go_wp2_with fail
          go_ret
          exact ⟨false, rfl, rfl, fun h => by cases h⟩
        | true =>
          go_wp2_with fail
          go_round
          case rel =>
            refine ⟨k + 1, by omega, by omega, by go_num, Lib.hid (fun i y hi hy => ?_)⟩
            by_cases he : i = k
            · subst he
              have := HX.out
              rw [this] at hy; cases hy; exact HB.out trivial
            · exact H.out i y (by omega) hy
          case measure => simp [intOf]; omega
      · have hl : ¬ (ks.length : Int) ≤ 10 := by omega
        go_wp2_with fail
        go_ret
        exact ⟨false, rfl, rfl, fun h => by cases h⟩
    · by_cases hl : (ks.length : Int) ≤ 10
      · go_wp2_with fail
        go_ret
        refine ⟨true, rfl, rfl, fun _ => ⟨by omega, fun row hx => ?_⟩⟩
        obtain ⟨i, hi⟩ := List.getElem?_of_mem hx
        exact H.out i row (by have := (List.getElem?_eq_some_iff.1 hi).1; omega) hi
      · go_wp2_with fail
        go_ret
        exact ⟨false, rfl, rfl, fun h => by cases h⟩
def EntZ (ks : List (List ByteArray)) (vs ss : List ByteArray) (rs : ByteArray) (es : List Fd) (be : ByteArray) : Prop :=
  (ks.length ≤ 10 ∧ MatZ ks 20 100) ∧ (vs.length ≤ 20 ∧ ∀ x ∈ vs, x.size ≤ 100) ∧ (ss.length ≤ 20 ∧ ∀ x ∈ ss, x.size ≤ 100) ∧ rs.size ≤ 100 ∧ be.size ≤ 2000 ∧ es.length ≤ 70 ∧ FldZ es 300
def EntOf (ks : List (List ByteArray)) (vs ss : List ByteArray) (rs : ByteArray) (es : List Fd) (be : ByteArray) (w : World) (e : Ending) (w' : World) : Prop := ∃ b : Bool, e = .returned (.bool b) ∧ Below w.heap.size w w' ∧ (b = true → EntZ ks vs ss rs es be)
abbrev entC8 (ok : Option Addr) (nk ck : Nat) (ov : Option Addr) (nv cv : Nat) (os : Option Addr) (ns cs : Nat) (rs : ByteArray) (oe : Option Addr) (ne ce : Nat) (be : ByteArray) (r1 r2 : Int) : List Value := [.slice ok nk ck, .slice ov nv cv, .slice os ns cs, .string rs, .slice oe ne ce, .string be, .int .i64 r1, .int .i64 r2]
abbrev entV8 (ok : Option Addr) (nk ck : Nat) (ov : Option Addr) (nv cv : Nat) (os : Option Addr) (ns cs : Nat) (rs : ByteArray) (oe : Option Addr) (ne ce : Nat) (be : ByteArray) (r1 r2 : Int) : Value := .agg #[.slice ok nk ck, .slice ov nv cv, .slice os ns cs, .string rs, .slice oe ne ce, .string be, .int .i64 r1, .int .i64 r2]
set_option maxHeartbeats 3200000 in
theorem keepE_any (ok : Option Addr) (ks : List (List ByteArray)) (ck : Nat) (ov : Option Addr) (vs : List ByteArray) (cv : Nat) (os : Option Addr) (ss : List ByteArray) (cs : Nat) (rs : ByteArray) (oe : Option Addr) (es : List Fd) (ce : Nat) (be : ByteArray) (r1 r2 : Int) (w : World)
    (hk1 : MatO w ok ks) (hk2 : MatZ ks bigN bigN) (hk3 : ks.length ≤ bigN) (hv1 : StrO w ov vs) (hv2 : ∀ x ∈ vs, x.size ≤ bigN) (hv3 : vs.length ≤ bigN) (hs1 : StrO w os ss) (hs2 : ∀ x ∈ ss, x.size ≤ bigN) (hs3 : ss.length ≤ bigN) (hf1 : FldO w oe es) (hf3 : es.length ≤ bigN) :
    Calls Tryz.prog 16 #[entV8 ok ks.length ck ov vs.length cv os ss.length cs rs oe es.length ce be r1 r2] w (EntOf ks vs ss rs es be w) := by
  have b0 := alloc_b w (.cells (entC8 ok ks.length ck ov vs.length cv os ss.length cs rs oe es.length ce be r1 r2).toArray 43)
  have HK := Lib.hid (keepkeys_any ok ks ck _ (hk1.down b0) hk2 hk3)
  have HV := Lib.hid (keepstr_any ov vs cv _ (hv1.down b0) hv2 hv3)
  have HS := Lib.hid (keepstr_any os ss cs _ (hs1.down b0) hs2 hs3)
  have HF := Lib.hid (keepF_any oe es ce _ hf3 (hf1.down b0))
  clear hk1 hk2 hk3 hv1 hv2 hv3 hs1 hs2 hs3 hf1 hf3
  by_cases h1 : rs.size ≤ 100
  · have h1' : decide ((rs.size : Int) ≤ 100) = true := by simp; omega
    by_cases h2 : be.size ≤ 2000
    · have h2' : decide ((be.size : Int) ≤ 2000) = true := by simp; omega
      go_enter Tryz.func16, Tryz.ntmps16
      go_wp2_with fail
      refine HK.out.mono ?_
      rintro e w1 ⟨b1, rfl, hw1, hz1⟩
      have HZ1 := Lib.hid hz1
      subst hw1
      clear hz1
      cases b1 with
      | false =>
        go_wp2_with fail
        go_ret
        exact ⟨false, rfl, b0, fun h => by cases h⟩
      | true =>
        go_wp2_with fail
        refine HV.out.mono ?_
        rintro e w1 ⟨b1, rfl, hw1, hz1⟩
        have HZ2 := Lib.hid hz1
        subst hw1
        clear hz1
        cases b1 with
        | false =>
          go_wp2_with fail
          go_ret
          exact ⟨false, rfl, b0, fun h => by cases h⟩
        | true =>
          go_wp2_with fail
          refine HS.out.mono ?_
          rintro e w1 ⟨b1, rfl, hw1, hz1⟩
          have HZ3 := Lib.hid hz1
          subst hw1
          clear hz1
          cases b1 with
          | false =>
            go_wp2_with fail
            go_ret
            exact ⟨false, rfl, b0, fun h => by cases h⟩
          | true =>
            go_wp2_with fail
            refine HF.out.mono ?_
            rintro e w1 ⟨rfl, hw1⟩
            subst hw1
            cases hf : fieldsB es with
            | false =>
              have HFB := Lib.hid hf
              clear hf
              go_wp2_with fail
              go_ret
              exact ⟨false, rfl, b0, fun h => by cases h⟩
            | true =>
              have HFB := Lib.hid hf
              clear hf
              go_wp2_with fail
              go_ret
              exact ⟨true, rfl, b0, fun _ => ⟨HZ1.out trivial, HZ2.out trivial, HZ3.out trivial, h1, h2, fieldsB_true HFB.out⟩⟩
    · have h2' : decide ((be.size : Int) ≤ 2000) = false := by simp; omega
      go_enter Tryz.func16, Tryz.ntmps16
      go_wp2_with fail
      refine HK.out.mono ?_
      rintro e w1 ⟨b1, rfl, hw1, _⟩
      subst hw1
      cases b1 with
      | false =>
        go_wp2_with fail
        go_ret
        exact ⟨false, rfl, b0, fun h => by cases h⟩
      | true =>
        go_wp2_with fail
        refine HV.out.mono ?_
        rintro e w1 ⟨b1, rfl, hw1, _⟩
        subst hw1
        cases b1 with
        | false =>
          go_wp2_with fail
          go_ret
          exact ⟨false, rfl, b0, fun h => by cases h⟩
        | true =>
          go_wp2_with fail
          refine HS.out.mono ?_
          rintro e w1 ⟨b1, rfl, hw1, _⟩
          subst hw1
          cases b1 with
          | false =>
            go_wp2_with fail
            go_ret
            exact ⟨false, rfl, b0, fun h => by cases h⟩
          | true =>
            go_wp2_with fail
            go_ret
            exact ⟨false, rfl, b0, fun h => by cases h⟩
  · have h1' : decide ((rs.size : Int) ≤ 100) = false := by simp; omega
    go_enter Tryz.func16, Tryz.ntmps16
    go_wp2_with fail
    refine HK.out.mono ?_
    rintro e w1 ⟨b1, rfl, hw1, _⟩
    subst hw1
    cases b1 with
    | false =>
      go_wp2_with fail
      go_ret
      exact ⟨false, rfl, b0, fun h => by cases h⟩
    | true =>
      go_wp2_with fail
      refine HV.out.mono ?_
      rintro e w1 ⟨b1, rfl, hw1, _⟩
      subst hw1
      cases b1 with
      | false =>
        go_wp2_with fail
        go_ret
        exact ⟨false, rfl, b0, fun h => by cases h⟩
      | true =>
        go_wp2_with fail
        refine HS.out.mono ?_
        rintro e w1 ⟨b1, rfl, hw1, _⟩
        subst hw1
        cases b1 with
        | false =>
          go_wp2_with fail
          go_ret
          exact ⟨false, rfl, b0, fun h => by cases h⟩
        | true =>
          go_wp2_with fail
          go_ret
          exact ⟨false, rfl, b0, fun h => by cases h⟩
end Go.Proofs.YtjafkpedocdfjaaGreatDoor
namespace Go.Proofs.YtjafkpedocdfjaaGreatDoor
open Go.RowKit Go.Shelf

def keepQB (m tg bd : ByteArray) (xs : List Fd) : Bool := decide (m.size ≤ 100) && decide (tg.size ≤ 2100) && fieldsB xs && decide (bd.size ≤ 2000)
theorem keepQB_true {m tg bd : ByteArray} {xs : List Fd} (h : keepQB m tg bd xs = true) : m.size ≤ 100 ∧ tg.size ≤ 2100 ∧ bd.size ≤ 2000 ∧ xs.length ≤ 70 ∧ FldZ xs 300 := by
  unfold keepQB at h
  rw [Bool.and_eq_true, Bool.and_eq_true, Bool.and_eq_true, decide_eq_true_eq, decide_eq_true_eq, decide_eq_true_eq] at h
  obtain ⟨⟨⟨h1, h2⟩, h3⟩, h4⟩ := h
  have := fieldsB_true h3
  exact ⟨h1, h2, h4, this.1, this.2⟩
set_option maxHeartbeats 1600000 in
theorem keepQ_any (m tg : ByteArray) (mn : Int) (oa : Option Addr) (xs : List Fd) (cap : Nat) (bd : ByteArray) (w : World) (hn : xs.length ≤ 9223372036854775807) (hc : FldO w oa xs) :
    Calls Tryz.prog 15 #[reqV m tg mn oa xs.length cap bd] w fun e w' => e = .returned (.bool (keepQB m tg bd xs)) ∧ Below w.heap.size w w' := by
  have HC := Lib.hid (hc.down (alloc_b w (.cells (reqC m tg mn oa xs.length cap bd).toArray 40)))
  clear hc
  by_cases h1 : m.size ≤ 100
  · have h1' : decide ((m.size : Int) ≤ 100) = true := by simp; omega
    by_cases h2 : tg.size ≤ 2100
    · have h2' : decide ((tg.size : Int) ≤ 2100) = true := by simp; omega
      cases hf : fieldsB xs with
      | true =>
        have HF := Lib.hid hf
        have HR : Hid (keepQB m tg bd xs = decide ((bd.size : Int) ≤ 2000)) := Lib.hid (by
          unfold keepQB; rw [hf, decide_eq_true h1, decide_eq_true h2]; simp; omega)
        clear hf
        go_enter Tryz.func15, Tryz.ntmps15
        go_wp2_with fail
        refine (keepF_any oa xs cap _ hn HC.out).mono ?_
        rintro e w2 ⟨rfl, hw2⟩
        rw [HF.out]
        subst hw2
        go_wp2_with fail
        go_ret
        exact ⟨by rw [HR.out]; rfl, alloc_b w _⟩
      | false =>
        have HF := Lib.hid hf
        have HR : Hid (keepQB m tg bd xs = false) := Lib.hid (by unfold keepQB; rw [hf]; simp)
        clear hf
        go_enter Tryz.func15, Tryz.ntmps15
        go_wp2_with fail
        refine (keepF_any oa xs cap _ hn HC.out).mono ?_
        rintro e w2 ⟨rfl, hw2⟩
        rw [HF.out]
        subst hw2
        go_wp2_with fail
        go_ret
        exact ⟨by rw [HR.out]; rfl, alloc_b w _⟩
    · have h2' : decide ((tg.size : Int) ≤ 2100) = false := by simp; omega
      have HR : Hid (keepQB m tg bd xs = false) := Lib.hid (by unfold keepQB; rw [decide_eq_false h2]; simp)
      go_enter Tryz.func15, Tryz.ntmps15
      go_wp2_with fail
      go_ret
      exact ⟨by rw [HR.out]; rfl, alloc_b w _⟩
  · have h1' : decide ((m.size : Int) ≤ 100) = false := by simp; omega
    have HR : Hid (keepQB m tg bd xs = false) := Lib.hid (by unfold keepQB; rw [decide_eq_false h1]; rfl)
    go_enter Tryz.func15, Tryz.ntmps15
    go_wp2_with fail
    go_ret
    exact ⟨by rw [HR.out]; rfl, alloc_b w _⟩
end Go.Proofs.YtjafkpedocdfjaaGreatDoor
namespace Go.Proofs.YtjafkpedocdfjaaGreatDoor
open Go.RowKit
theorem pow_of_laidR {W : World} (h : laidMetH Tryz.prog Rows.conditionRequestsRow.laid W) : PowTab W := by
  rw [MakeChecks.laidMetH_plain _ _ _ (by kernel_rfl)] at h
  obtain ⟨ps, hv, _⟩ := h
  obtain ⟨q1, hv1⟩ := laid_rest hv
  obtain ⟨q2, hv2⟩ := laid_rest hv1
  exact laid_tab (g := 3) (t := 167) (e := 149) (n := 20) (by kernel_rfl) (by kernel_rfl) Tryz.underlying167 Tryz.underlying149 (by kernel_rfl) (by kernel_rfl) hv2
end Go.Proofs.YtjafkpedocdfjaaGreatDoor
namespace Go.Proofs.YtjafkpedocdfjaaGreatDoor
open Go.RowKit Go.Shelf
set_option linter.unusedSimpArgs false

theorem i64_bnd {n : Int} (h : (Lit.int .i64 n).wf = true) : -9223372036854775808 ≤ n ∧ n ≤ 9223372036854775807 := by
  have h2 : decide (-9223372036854775808 ≤ n) && decide (n ≤ 9223372036854775807) := h
  simpa using h2
theorem outL_len (mn : Int) (s : ByteArray) (xs : List Fd) : (outL mn s xs).length ≤ xs.length + 1 := by
  rw [outL_eq]
  unfold viaL
  rw [List.length_append, List.length_singleton]
  have := Nat.le_trans (List.length_filter_le (noneB (rngN.map bs)) (stripL xs)) (strip_len xs)
  omega
theorem validL_len (xs es : List Fd) : (validL xs es).length ≤ xs.length + 2 := by
  unfold validL
  rw [List.length_append, List.length_append]
  have h1 : (tagF es).length ≤ 1 := by unfold tagF; cases ofE es <;> simp
  have h2 : (sinceF es).length ≤ 1 := by unfold sinceF; split <;> simp
  have h3 := List.length_filter_le (noneB (condN.map bs)) xs
  omega
theorem keep14 {w1 w2 w3 : World} {p0 p1 p2 p3 p4 p5 p6 p7 p8 p9 p10 p11 p12 : Addr} {v0 v1 v2 v3 v4 v5 v6 v7 v8 v9 v10 v11 v12 : Value} (h : w1.cell? p0 = some v0 ∧ w1.cell? p1 = some v1 ∧ w1.cell? p2 = some v2 ∧ w1.cell? p3 = some v3 ∧ w1.cell? p4 = some v4 ∧ w1.cell? p5 = some v5 ∧ w1.cell? p6 = some v6 ∧ w1.cell? p7 = some v7 ∧ w1.cell? p8 = some v8 ∧ w1.cell? p9 = some v9 ∧ w1.cell? p10 = some v10 ∧ w1.cell? p11 = some v11 ∧ w1.cell? p12 = some v12 ∧ Below w3.heap.size w3 w1) (hb : Below w1.heap.size w1 w2) : w2.cell? p0 = some v0 ∧ w2.cell? p1 = some v1 ∧ w2.cell? p2 = some v2 ∧ w2.cell? p3 = some v3 ∧ w2.cell? p4 = some v4 ∧ w2.cell? p5 = some v5 ∧ w2.cell? p6 = some v6 ∧ w2.cell? p7 = some v7 ∧ w2.cell? p8 = some v8 ∧ w2.cell? p9 = some v9 ∧ w2.cell? p10 = some v10 ∧ w2.cell? p11 = some v11 ∧ w2.cell? p12 = some v12 ∧ Below w3.heap.size w3 w2 := by
  obtain ⟨h0, h1, h2, h3, h4, h5, h6, h7, h8, h9, h10, h11, h12, hl⟩ := h
  exact ⟨(hb.cell (cell_lt h0)).trans h0, (hb.cell (cell_lt h1)).trans h1, (hb.cell (cell_lt h2)).trans h2, (hb.cell (cell_lt h3)).trans h3, (hb.cell (cell_lt h4)).trans h4, (hb.cell (cell_lt h5)).trans h5, (hb.cell (cell_lt h6)).trans h6, (hb.cell (cell_lt h7)).trans h7, (hb.cell (cell_lt h8)).trans h8, (hb.cell (cell_lt h9)).trans h9, (hb.cell (cell_lt h10)).trans h10, (hb.cell (cell_lt h11)).trans h11, (hb.cell (cell_lt h12)).trans h12, step_b hl hb⟩
theorem last14 {w1 w3 : World} {p0 p1 p2 p3 p4 p5 p6 p7 p8 p9 p10 p11 p12 : Addr} {v0 v1 v2 v3 v4 v5 v6 v7 v8 v9 v10 v11 v12 : Value} (h : w1.cell? p0 = some v0 ∧ w1.cell? p1 = some v1 ∧ w1.cell? p2 = some v2 ∧ w1.cell? p3 = some v3 ∧ w1.cell? p4 = some v4 ∧ w1.cell? p5 = some v5 ∧ w1.cell? p6 = some v6 ∧ w1.cell? p7 = some v7 ∧ w1.cell? p8 = some v8 ∧ w1.cell? p9 = some v9 ∧ w1.cell? p10 = some v10 ∧ w1.cell? p11 = some v11 ∧ w1.cell? p12 = some v12 ∧ Below w3.heap.size w3 w1) : Below w3.heap.size w3 w1 := h.2.2.2.2.2.2.2.2.2.2.2.2.2
set_option maxHeartbeats 25600000 in
set_option maxRecDepth 100000 in
theorem requests_walk (m tg : ByteArray) (mn : Int) (oa : Option Addr) (xs : List Fd) (cap : Nat) (bd : ByteArray)
    (ok : Option Addr) (ks : List (List ByteArray)) (ck : Nat) (ov : Option Addr) (vs : List ByteArray) (cv : Nat) (os : Option Addr) (ss : List ByteArray) (cs : Nat) (rs : ByteArray) (oe : Option Addr) (es : List Fd) (ce : Nat) (be : ByteArray) (r1 r2 : Int) (s : ByteArray) (w : World)
    (hn : xs.length ≤ bigN) (_ : m.size ≤ bigN) (_ : tg.size ≤ bigN) (_ : bd.size ≤ bigN) (hmw : (Lit.int .i64 mn).wf = true) (hc : FldO w oa xs)
    (hk1 : MatO w ok ks) (hk2 : MatZ ks bigN bigN) (hk3 : ks.length ≤ bigN) (hv1 : StrO w ov vs) (hv2 : ∀ x ∈ vs, x.size ≤ bigN) (hv3 : vs.length ≤ bigN) (hs1 : StrO w os ss) (hs2 : ∀ x ∈ ss, x.size ≤ bigN) (hs3 : ss.length ≤ bigN) (_ : rs.size ≤ bigN) (hf1 : FldO w oe es) (hf3 : es.length ≤ bigN) (_ : be.size ≤ bigN) (_ : (Lit.int .i64 r1).wf = true) (_ : (Lit.int .i64 r2).wf = true) (_ : s.size ≤ 9223372036854775807) (htab : PowTab w) :
    Calls Tryz.prog 5 #[reqV m tg mn oa xs.length cap bd, entV8 ok ks.length ck ov vs.length cv os ss.length cs rs oe es.length ce be r1 r2, .string s] w fun e w' => e = .returned (.bool true) ∧ Below w.heap.size w w' := by
  obtain ⟨R0, R1, b0⟩ := rows2 w (reqC m tg mn oa xs.length cap bd) 40 (entC8 ok ks.length ck ov vs.length cv os ss.length cs rs oe es.length ce be r1 r2) 43
  have HC := Lib.hid hc
  have HE := Lib.hid hf1
  have HT := Lib.hid htab
  obtain ⟨h0, h1⟩ := i64_bnd hmw
  have hn9 : xs.length ≤ 9223372036854775807 := hn
  have HKE := fun (wl : World) (hb : Below w.heap.size w wl) => keepE_any ok ks ck ov vs cv os ss cs rs oe es ce be r1 r2 wl (hk1.down hb) hk2 hk3 (hv1.down hb) hv2 hv3 (hs1.down hb) hs2 hs3 (hf1.down hb) hf3
  have HKH := Lib.hid HKE
  clear hc hf1 HKE hk1 hk2 hv1 hv2 hs1 hs2 htab hmw
  cases hk : keepQB m tg bd xs with
  | false =>
    have HK := Lib.hid hk
    clear hk
    go_enter Tryz.func5, Tryz.ntmps5
    go_wp2_with fail
    refine (keepQ_any m tg mn oa xs cap bd _ hn9 (HC.out.down b0)).mono ?_
    rintro e w1 ⟨rfl, hb1⟩
    rw [HK.out]
    go_wp2_with fail
    go_ret
    exact ⟨rfl, step_b b0 hb1⟩
  | true =>
    obtain ⟨_, _, _, hn70, hz⟩ := keepQB_true hk
    have HZ := Lib.hid (hz.up (m := 100000) (by omega))
    have HK := Lib.hid hk
    clear hk hz
    go_enter Tryz.func5, Tryz.ntmps5
    go_wp2_with fail
    refine (keepQ_any m tg mn oa xs cap bd _ hn9 (HC.out.down b0)).mono ?_
    rintro e w1 ⟨rfl, hb1⟩
    rw [HK.out]
    have Q1 := R0.below hb1
    have E1 := R1.below hb1
    have b1 := step_b b0 hb1
    have HKC := Lib.hid (HKH.out w1 b1)
    clear hb1 R0 R1 b0 HKH
    have d0 := E1.cell 0 rfl
    have d1 := E1.cell 1 rfl
    have d2 := E1.cell 2 rfl
    have d3 := E1.cell 3 rfl
    have d4 := E1.cell 4 rfl
    have d5 := E1.cell 5 rfl
    have d6 := E1.cell 6 rfl
    have d7 := E1.cell 7 rfl
    go_wp2_with fail
    refine HKC.out.mono ?_
    rintro e w2 ⟨b, rfl, hb2, hbz⟩
    clear d0 d1 d2 d3 d4 d5 d6 d7
    have b2 := step_b b1 hb2
    cases b with
    | false =>
      clear hbz
      go_wp2_with fail
      go_ret
      exact ⟨rfl, b2⟩
    | true =>
      obtain ⟨_, _, _, _, _, hne70, hze⟩ := hbz rfl
      have HZE : Hid (FldZ es 100000) := Lib.hid (hze.up (by omega))
      have Q2 := Q1.below hb2
      have E2 := E1.below hb2
      clear hbz hze hb2 Q1 E1 HKC b1
      by_cases hs100 : s.size ≤ 100
      · have HA0 := fun (W : World) (hb : Below w.heap.size w W) => outgoing_any m tg mn oa xs cap bd s W (by omega) HZ.out (HC.out.down hb) h0 h1 (by omega) (HT.out.below hb)
        have HB0 := fun (W : World) (hb : Below w.heap.size w W) => routgoing_any m tg mn oa xs cap bd s W (by omega) HZ.out (HC.out.down hb) h0 h1 (by omega)
        have HV0 := fun (W : World) (hb : Below w.heap.size w W) => valid_any m tg mn oa xs cap bd (.slice ok ks.length ck) (.slice ov vs.length cv) (.slice os ss.length cs) rs oe es ce be r1 r2 W (by omega) HZ.out (HC.out.down hb) (by omega) HZE.out (HE.out.down hb)
        have HR0 := fun (W : World) (hb : Below w.heap.size w W) => rvalid_any m tg mn oa xs cap bd (.slice ok ks.length ck) (.slice ov vs.length cv) (.slice os ss.length cs) rs oe es ce be r1 r2 W (by omega) HZ.out (HC.out.down hb) (by omega) HZE.out (HE.out.down hb)
        have hl1 := outL_len mn s xs
        have hl2 := validL_len xs es
        obtain ⟨ls, hls⟩ : ∃ ls, ls = outL mn s xs := ⟨_, rfl⟩
        obtain ⟨vl, hvl⟩ : ∃ vl, vl = validL xs es := ⟨_, rfl⟩
        rw [← hls] at HA0 HB0 hl1
        rw [← hvl] at HV0 HR0 hl2
        have HA := Lib.hid HA0
        have HB := Lib.hid HB0
        have HV := Lib.hid HV0
        have HR := Lib.hid HR0
        have hl3 : ls.length ≤ 1000000 := by omega
        have hl4 : vl.length ≤ 1000000 := by omega
        obtain ⟨cb, hcb⟩ : ∃ cb, cb = condB xs := ⟨_, rfl⟩
        have HCB := Lib.hid hcb.symm
        clear hls hvl HA0 HB0 HV0 HR0 hl1 hl2 hcb
        have q0 := Q2.cell 0 rfl
        have q1 := Q2.cell 1 rfl
        have q2 := Q2.cell 2 rfl
        have q3 := Q2.cell 3 rfl
        have q4 := Q2.cell 4 rfl
        have d0 := E2.cell 0 rfl
        have d1 := E2.cell 1 rfl
        have d2 := E2.cell 2 rfl
        have d3 := E2.cell 3 rfl
        have d4 := E2.cell 4 rfl
        have d5 := E2.cell 5 rfl
        have d6 := E2.cell 6 rfl
        have d7 := E2.cell 7 rfl
        clear Q2 E2
        have hbs : decide (100 < (s.size : Int)) = false := by simp; omega
        go_wp2_with fail
        go_region_held3 (fun w' => w'.cell? ⟨w.heap.size, 0, none⟩ = some (.string m) ∧ w'.cell? ⟨w.heap.size, 1, none⟩ = some (.string tg) ∧ w'.cell? ⟨w.heap.size, 2, none⟩ = some (.int .i64 mn) ∧ w'.cell? ⟨w.heap.size, 3, none⟩ = some (.slice oa xs.length cap) ∧ w'.cell? ⟨w.heap.size, 4, none⟩ = some (.string bd) ∧ w'.cell? ⟨w.heap.size + 1, 0, none⟩ = some (.slice ok ks.length ck) ∧ w'.cell? ⟨w.heap.size + 1, 1, none⟩ = some (.slice ov vs.length cv) ∧ w'.cell? ⟨w.heap.size + 1, 2, none⟩ = some (.slice os ss.length cs) ∧ w'.cell? ⟨w.heap.size + 1, 3, none⟩ = some (.string rs) ∧ w'.cell? ⟨w.heap.size + 1, 4, none⟩ = some (.slice oe es.length ce) ∧ w'.cell? ⟨w.heap.size + 1, 5, none⟩ = some (.string be) ∧ w'.cell? ⟨w.heap.size + 1, 6, none⟩ = some (.int .i64 r1) ∧ w'.cell? ⟨w.heap.size + 1, 7, none⟩ = some (.int .i64 r2) ∧ Below w2.heap.size w2 w') (first | assumption | exact ⟨q0, q1, q2, q3, q4, d0, d1, d2, d3, d4, d5, d6, d7, (Below.refl _ _).drew⟩ | (exact keep14 (by first | assumption | exact ⟨q0, q1, q2, q3, q4, d0, d1, d2, d3, d4, d5, d6, d7, (Below.refl _ _).drew⟩) hb)) (first | (go_at_call 18; refine (HA.out _ (step_b b2 (by first | exact (Below.refl _ _).drew | exact last14 (by assumption)))).mono ?_; rintro e w' ⟨ob1, cb1, rfl, FB, hb⟩; have F1 := FB.fld; clear FB) | (go_at_call 19; refine (HB.out _ (step_b b2 (by first | exact (Below.refl _ _).drew | exact last14 (by assumption)))).mono ?_; rintro e w' ⟨ob2, cb2, rfl, FB, hb⟩; have F2 := FB.fld; have F1 := F1.down hb; clear FB) | (go_at_call 17; refine (sameReq_any _ _ _ _ _ _ _ _ _ _ (by assumption) (by assumption) (by assumption)).mono ?_; rintro e w' ⟨rfl, hb⟩) | (go_at_call 20; refine (HV.out _ (step_b b2 (by first | exact (Below.refl _ _).drew | exact last14 (by assumption)))).mono ?_; rintro e w' ⟨ob3, cb3, rfl, FB, hb⟩; have F3 := FB.fld; clear FB) | (go_at_call 21; refine (HR.out _ (step_b b2 (by first | exact (Below.refl _ _).drew | exact last14 (by assumption)))).mono ?_; rintro e w' ⟨ob4, cb4, rfl, FB, hb⟩; have F4 := FB.fld; have F3 := F3.down hb; clear FB) | (go_at_call 22; refine (conditional_any m tg mn oa xs cap bd _ (by omega) HZ.out (HC.out.down (step_b b2 (by first | exact (Below.refl _ _).drew | exact last14 (by assumption))))).mono ?_; rintro e w' ⟨he, hb⟩; rw [HCB.out] at he; subst he) | (go_at_call 23; refine (rconditional_any m tg mn oa xs cap bd _ (by omega) HZ.out (HC.out.down (step_b b2 (by first | exact (Below.refl _ _).drew | exact last14 (by assumption))))).mono ?_; rintro e w' ⟨he, hb⟩; rw [HCB.out] at he; subst he) | (go_at_call 24; refine (awake31_any _).mono ?_; rintro e w' ⟨rfl, hb⟩))
        all_goals
          have hq : Below w2.heap.size w2 _ := last14 (by assumption)
          go_wp2_with fail
          go_ret
          exact ⟨rfl, step_b b2 hq⟩
      · go_wp2_with fail
        go_ret
        exact ⟨rfl, b2⟩
end Go.Proofs.YtjafkpedocdfjaaGreatDoor
