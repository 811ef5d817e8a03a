/- Rows of lists of strings that a call makes, grown by append. The walks of slices.Clone at lists of strings and at lists of fields. Regions that draw their order and whose last operations store into cells that earlier operations load: what is held is held until the first such store. The walks of the reference's among and Strip (25.1). Printed by gen_rstrip.py. The walks of the reference's ETagOf, firstDate, Validator (layers 21, 23, 24). append(own, list...) of strings as one operation of a drawn region; what a copy of an entry is. The walks of clone.Entry and of the reference's OwnEntry. Printed by gen_entw.py. The walks of ref10.SameStrings, keep.SameStrings, ref26.SameKeys at two equal lists. What Refresh answers (layer 29), plainly. The walks of etag.Weak, of the program and of the reference, for lists of tags not needed. The walks of update.merge, of both Matches and of the reference's Equal. Printed by gen_updw.py. A range over an iterator that keeps its state in a cell of its own (strings.SplitSeq): the loop's law for bodies that always go on. strings.SplitSeq at a blank: what it hands out, one by one. strings.SplitSeq: the iterator's function value and its three boxes. A map[string]bool of the call's own, as the names at which it holds true; the loop's law in plain form. The walk of hop.Strip. The walk of update.Refresh. Printed by gen_updr.py. The walk of the reference's Refresh. Printed by gen_updr.py. The walks of UpdateRefreshes and UpdateKeeps (law 29). Printed by gen_updl.py. The walk of UpdateTargets (law 29). Printed by gen_tgtl.py. The walk of UpdateLocal (law 29). Printed by gen_tgtl.py. -/
import Derived.Test.YtglckhljpjcmaaaGreatDoorQSBufA
import Derived.Test.YtglckhljpjcmaaaGreatDoorQEntO
import Derived.Maps.AppendAt
import Derived.OrdersHeld
import Derived.StillTail
import Derived.Deep.RegionHeld
import Derived.WalkKit
import Derived.Test.YtglckhljpjcmaaaGreatDoorQRListX
import Derived.Test.YtglckhljpjcmaaaGreatDoorQCondV
import Derived.Test.YtglckhljpjcmaaaGreatDoorQREtagW
import Derived.WalkMore
import Derived.RangeFuncNested
import Derived.RangeFuncBound
import Derived.RangeFuncCalls
import Derived.RangeFuncLeaves
import Derived.Shelf.Abstract
import Derived.Shelf.RegionOpen
import Derived.OwnWalkIn
import Derived.TacticsInMore
import Derived.LoopNIn
import Derived.LoopIn
import Derived.Maps.OwnIn
import Derived.Test.YtglckhljpjcmaaaGreatDoorShelf
import Derived.Maps.OwnSet
import Derived.Maps.OwnOps
import Derived.Maps.Views
import Derived.StringKeys
import Derived.Test.YtglckhljpjcmaaaGreatDoorQListX
import Derived.Test.YtglckhljpjcmaaaGreatDoorQPre
import Derived.Deep.RegionHeld3
import Derived.Test.YtglckhljpjcmaaaGreatDoorQTgtV
import Derived.Test.YtglckhljpjcmaaaGreatDoorQTgtI
import Derived.BigQuiet
import Derived.Deep.QuietTactic
namespace Go.Proofs.YtglckhljpjcmaaaGreatDoor
open Go.RowKit
theorem infoSl : (Tryz.prog.info? 29).map (fun i => (i.zero, i.size, i.bytes)) = some (some (.slice none 0 0), 1, 24) := by kernel_rfl
/-- The strings lie in a block of the call's own that is not the row's. -/
def InAt (w : World) (B : Nat) (v : Value) (oc : Option Addr) (ns : List ByteArray) : Prop := ∀ (j : Nat) (x : ByteArray), ns[j]? = some x → ∃ g, oc = some ⟨g, 0, none⟩ ∧ B ≤ g ∧ some g ≠ v.ownBlock ∧ w.cell? ⟨g, j, none⟩ = some (.string x)
def KBuf (w : World) (B : Nat) (v : Value) (ks : List (List ByteArray)) : Prop :=
  ∃ cs : List Value, w.ownsRow B 29 1 v ks.length cs ∧ ∀ (i : Nat) (row : List ByteArray), ks[i]? = some row → ∃ (o : Option Addr) (cap : Nat), cs[i]? = some (.slice o row.length cap) ∧ InAt w B v o row
theorem row_below {w w' : World} {B B' : Nat} {e : TypeId} {z : Nat} {v : Value} {n : Nat} {cs : List Value} (h : w.ownsRow B e z v n cs) (hb : Below B' w w') (hB : w.heap.size ≤ B') : w'.ownsRow B e z v n cs := by
  refine ⟨h.1, ?_⟩
  rcases h.2 with h0 | ⟨g, cap, cur, h1, h2, h3, h4⟩
  · exact .inl h0
  · have hg : g < w.heap.size := by
      rcases Nat.lt_or_ge g w.heap.size with hlt | hge
      · exact hlt
      · rw [Array.getElem?_eq_none hge] at h3; cases h3
    exact .inr ⟨g, cap, cur, h1, h2, (hb.block g (by omega)).trans h3, h4⟩
theorem row_others {w w' : World} {B : Nat} {e : TypeId} {z : Nat} {v : Value} {n : Nat} {cs : List Value} (h : w.ownsRow B e z v n cs) {b : Nat} (hb : b < B) (f : ∀ k, k ≠ b → w'.heap[k]? = w.heap[k]?) : w'.ownsRow B e z v n cs := by
  refine ⟨h.1, ?_⟩
  rcases h.2 with h0 | ⟨g, cap, cur, h1, h2, h3, h4⟩
  · exact .inl h0
  · exact .inr ⟨g, cap, cur, h1, h2, (f g (by omega)).trans h3, h4⟩
theorem InAt.down {w w' : World} {B : Nat} {v : Value} {oc : Option Addr} {ns : List ByteArray} (h : InAt w B v oc ns) {B' : Nat} (hb : Below B' w w') (hB : w.heap.size ≤ B') : InAt w' B v oc ns := fun j x hx => by
  obtain ⟨g, h1, h0, h2, h3⟩ := h j x hx
  have hg : g < w.heap.size := cell_lt h3
  refine ⟨g, h1, h0, h2, ?_⟩
  rw [← h3]; unfold World.cell?; rw [hb.block g (by omega)]
theorem InAt.others {w w' : World} {B : Nat} {v : Value} {oc : Option Addr} {ns : List ByteArray} (h : InAt w B v oc ns) {b : Nat} (hb : b < B) (f : ∀ k, k ≠ b → w'.heap[k]? = w.heap[k]?) : InAt w' B v oc ns := fun j x hx => by
  obtain ⟨g, h1, h0, h2, h3⟩ := h j x hx
  refine ⟨g, h1, h0, h2, ?_⟩
  rw [← h3]; unfold World.cell?; rw [f g (by omega)]
theorem KBuf.nil_ (w : World) (B : Nat) : KBuf w B (.slice none 0 0) [] := ⟨[], World.ownsRow_nil _ _ _ _, fun i row h => by simp at h⟩
theorem KBuf.below {w w' : World} {B B' : Nat} {v : Value} {ks : List (List ByteArray)} (h : KBuf w B v ks) (hb : Below B' w w') (hB : w.heap.size ≤ B') : KBuf w' B v ks := by
  obtain ⟨cs, h1, h2⟩ := h
  refine ⟨cs, row_below h1 hb hB, fun i row hr => ?_⟩
  obtain ⟨o, cap, e, hi⟩ := h2 i row hr
  exact ⟨o, cap, e, hi.down hb hB⟩
theorem KBuf.alloc {w : World} {B : Nat} {v : Value} {ks : List (List ByteArray)} (h : KBuf w B v ks) (o : Obj) : KBuf (w.alloc o) B v ks := h.below (alloc_b w o) (Nat.le_refl _)
theorem KBuf.others {w w' : World} {B : Nat} {v : Value} {ks : List (List ByteArray)} (h : KBuf w B v ks) {b : Nat} (hb : b < B) (f : ∀ k, k ≠ b → w'.heap[k]? = w.heap[k]?) : KBuf w' B v ks := by
  obtain ⟨cs, h1, h2⟩ := h
  refine ⟨cs, row_others h1 hb f, fun i row hr => ?_⟩
  obtain ⟨o, cap, e, hi⟩ := h2 i row hr
  exact ⟨o, cap, e, hi.others hb f⟩
theorem KBuf.set {w : World} {B : Nat} {v : Value} {ks : List (List ByteArray)} (h : KBuf w B v ks) {g j : Nat} (hg : g < B) (u : Value) : KBuf (w.setCell ⟨g, j, none⟩ u) B v ks := h.others hg (fun _ hk => heap_setCell_other _ _ _ _ hk)
theorem InAt.str {w : World} {B : Nat} {v : Value} {oc : Option Addr} {ns : List ByteArray} (h : InAt w B v oc ns) : StrO w oc ns := fun j x hx => by
  obtain ⟨g, h1, _, _, h3⟩ := h j x hx
  refine ⟨_, h1, ?_⟩
  rw [← h3]
  have e : (⟨g, 0, none⟩ : Addr).add j = ⟨g, j, none⟩ := by
    unfold Addr.add; simp
    exact fun h => h.symm
  rw [e]
theorem KBuf.shape {w : World} {B : Nat} {v : Value} {ks : List (List ByteArray)} (h : KBuf w B v ks) : ∃ oa cap, v = .slice oa ks.length cap ∧ MatO w oa ks := by
  obtain ⟨cs, h1, h2⟩ := h
  rcases h1.2 with ⟨rfl, h0⟩ | ⟨g, cap, cur, rfl, hB, h3, h4, h5⟩
  · obtain rfl : ks = [] := List.length_eq_zero_iff.1 h0
    exact ⟨none, 0, rfl, fun i x hx => by simp at hx⟩
  · refine ⟨_, _, rfl, fun i row hx => ?_⟩
    obtain ⟨o, c, e, hi⟩ := h2 i row hx
    exact ⟨_, o, c, rfl, World.ownsRow.cells h1 (g := g) rfl i _ e, hi.str⟩
theorem KBuf.mat {w : World} {B : Nat} {oa : Option Addr} {n cap : Nat} {ks : List (List ByteArray)} (h : KBuf w B (.slice oa n cap) ks) : MatO w oa ks := by
  obtain ⟨oa', cap', e, h'⟩ := h.shape
  cases e; exact h'
theorem KBuf.own_lt {w : World} {B : Nat} {v : Value} {ks : List (List ByteArray)} (h : KBuf w B v ks) {g : Nat} (hg : v.ownBlock = some g) : g < w.heap.size := by
  obtain ⟨cs, h1, _⟩ := h
  exact (World.ownsRow.lt h1 g hg).2
/-- What a call has made since then lies outside the row. -/
theorem InAt.of {w w2 : World} {B : Nat} {v v2 : Value} {ks : List (List ByteArray)} {ns : List ByteArray} (h : KBuf w B v ks) (hB : B ≤ w.heap.size) (h2 : SBuf w2 w.heap.size v2 ns) : ∃ oc cap, v2 = .slice oc ns.length cap ∧ InAt w2 B v oc ns := by
  obtain ⟨oc, cap, rfl, _⟩ := h2.shape
  refine ⟨oc, cap, rfl, fun j x hx => ?_⟩
  have hl : 0 < ns.length := by have := (List.getElem?_eq_some_iff.1 hx).1; omega
  obtain ⟨g, cap', e, hg1, _, hA, _⟩ := h2.form hl
  cases e
  exact ⟨g, rfl, by omega, fun e => by have := h.own_lt e.symm; omega, hA j x hx⟩
theorem KBuf.turn {w w' : World} {B : Nat} {v v' : Value} {ks : List (List ByteArray)} {row : List ByteArray} {o : Option Addr} {cap : Nat} {cs : List Value}
    (h2 : ∀ (i : Nat) (row : List ByteArray), ks[i]? = some row → ∃ (o : Option Addr) (cap : Nat), cs[i]? = some (.slice o row.length cap) ∧ InAt w B v o row) (hl : cs.length = ks.length) (hi : InAt w B v o row)
    (hown : w'.ownsRow B 29 1 v' (ks.length + 1) (cs ++ [.slice o row.length cap])) (hg : w.grownBy w' v.ownBlock) (hat : v'.ownBlock = v.ownBlock ∨ v'.ownBlock = some w.heap.size) : KBuf w' B v' (ks ++ [row]) := by
  have turn : ∀ (o : Option Addr) (ns : List ByteArray), InAt w B v o ns → InAt w' B v' o ns := fun o ns h j x hx => by
    obtain ⟨g, e1, e0, e2, e3⟩ := h j x hx
    have hlt : g < w.heap.size := cell_lt e3
    refine ⟨g, e1, e0, fun e => ?_, ?_⟩
    · rcases hat with k | k
      · exact e2 (e.trans k)
      · rw [k] at e; cases e; omega
    · rw [← e3]; unfold World.cell?; rw [hg.block g hlt e2]
  refine ⟨cs ++ [.slice o row.length cap], by rw [List.length_append, List.length_singleton]; exact hown, fun i r hr => ?_⟩
  rcases Nat.lt_or_ge i ks.length with hlt | hge
  · rw [List.getElem?_append_left hlt] at hr
    obtain ⟨o', c', e, h'⟩ := h2 i r hr
    exact ⟨o', c', by rw [List.getElem?_append_left (by omega)]; exact e, turn _ _ h'⟩
  · rw [List.getElem?_append_right hge] at hr
    have hz : i - ks.length = 0 := by have := (List.getElem?_eq_some_iff.1 hr).1; simp at this; omega
    rw [hz] at hr
    cases hr
    exact ⟨o, cap, by rw [List.getElem?_append_right (by omega), hl, hz]; rfl, turn _ _ hi⟩
theorem run_append_mat {o : Oper} (w0 w : World) (B : Nat) (v : Value) (ks : List (List ByteArray)) (hown : KBuf w B v ks) (hb : Below B w0 w) (hB : B ≤ w.heap.size)
    (ad : Addr) (oc : Option Addr) (row : List ByteArray) (cap : Nat) (hc : w.cell? ad = some (.slice oc row.length cap)) (hi : InAt w B v oc row) (hl : ks.length + 1 ≤ 1000000) :
    ∃ v' w', (Builtin.append_ #[48, 48] o.type #[v, .slice (some ad) 1 1]).run Tryz.prog w = .ok v' w' ∧ KBuf w' B v' (ks ++ [row]) ∧ Below B w0 w' ∧ B ≤ w'.heap.size := by
  obtain ⟨i, hi0, hz0, hz1, hz2⟩ := info_parts infoSl
  obtain ⟨cs, h1, h2⟩ := hown
  have hcl : cs.length = ks.length := by have := h1.1; omega
  obtain ⟨v', w', hr, g2, g3, g4, g5⟩ := run_append_own_at (P := Tryz.prog) w B 48 o.type 29 i (.slice none 0 0) 1 24 Tryz.underlying48 hi0 hz0 hz1 hz2 rfl (by decide) v ks.length cs h1 ad 1 1 [.slice oc row.length cap] rfl (by
    intro j u hj
    rcases j with _ | j
    · simp at hj; subst hj
      have : ad.add 0 = ad := by unfold Addr.add; simp
      rw [this]; exact hc
    · simp at hj) (by intro u hu; simp at hu; subst hu; rfl) (by unfold maxLen; omega) (by omega) hB
  exact ⟨v', w', hr, KBuf.turn h2 hcl hi g2 g3 g5, hb.grown g3 hB (fun j hj => (World.ownsRow.lt h1 j hj).1), Nat.le_trans hB g3.size⟩
theorem wpList_append_mat {ops : Array Oper} {rest : List Oper} {o : Oper} {a : Act} {Q : Exit → Act → World → Prop} (hgd : o.guard = none) (s x : Operand)
    (ho : o.op = .call { callee := .builtin .append, args := #[s, x], argTypes := #[48, 48] })
    (w0 w : World) (B : Nat) (v : Value) (ks : List (List ByteArray)) (hs : a.eval s = v) (hown : KBuf w B v ks) (hb : Below B w0 w) (hB : B ≤ w.heap.size)
    (ad : Addr) (oc : Option Addr) (row : List ByteArray) (cap : Nat) (hx : a.eval x = .slice (some ad) 1 1) (hc : w.cell? ad = some (.slice oc row.length cap)) (hi : InAt w B v oc row) (hl : ks.length + 1 ≤ 1000000)
    (h : ∀ v' w', KBuf w' B v' (ks ++ [row]) → Below B w0 w' → B ≤ w'.heap.size → wpList Tryz.prog ops Q rest (a.put o.dst v') w') : wpList Tryz.prog ops Q (o :: rest) a w := by
  refine wpList_plain hgd fun K hK => ?_
  obtain ⟨v', w', hr, h2, h3, h4⟩ := run_append_mat (o := o) w0 w B v ks hown hb hB ad oc row cap hc hi hl
  unfold Oper.wp execOp
  simp only [ho, resolve, invoke, builtin, Sem.run_bind, Sem.run_pure, Result.andThen_ok, List.map_toArray, List.map_cons, List.map_nil, hs, hx, hr]
  exact hK _ _ (h v' w' h2 h3 h4)
theorem step_append_mat {ops : Array Oper} {o : Oper} {a : Act} {K : Act → World → Prop} {Q : Exit → Act → World → Prop} {E : Prop} (hgd : o.guard = none) (s x : Operand)
    (ho : o.op = .call { callee := .builtin .append, args := #[s, x], argTypes := #[48, 48] })
    (w0 w : World) (B : Nat) (v : Value) (ks : List (List ByteArray)) (hs : a.eval s = v) (hown : KBuf w B v ks) (hb : Below B w0 w) (hB : B ≤ w.heap.size)
    (ad : Addr) (oc : Option Addr) (row : List ByteArray) (cap : Nat) (hx : a.eval x = .slice (some ad) 1 1) (hc : w.cell? ad = some (.slice oc row.length cap)) (hi : InAt w B v oc row) (hl : ks.length + 1 ≤ 1000000)
    (h : ∀ v' w', KBuf w' B v' (ks ++ [row]) → Below B w0 w' → B ≤ w'.heap.size → K (a.put o.dst v') w') :
    if Region.wanted o (yielded ops a.tmps) = true then Oper.wp Tryz.prog o a w K Q else E := by
  have hw : Region.wanted o (yielded ops a.tmps) = true := by simp [Region.wanted, hgd]
  rw [if_pos hw]
  obtain ⟨v', w', hr, h2, h3, h4⟩ := run_append_mat (o := o) w0 w B v ks hown hb hB ad oc row cap hc hi hl
  unfold Oper.wp execOp
  simp only [ho, resolve, invoke, builtin, Sem.run_bind, Sem.run_pure, Result.andThen_ok, List.map_toArray, List.map_cons, List.map_nil, hs, hx, hr]
  exact h v' w' h2 h3 h4
theorem cell_new_sl (w : World) (v : Value) (t : TypeId) : (w.alloc (.cells #[v] t)).cell? ⟨w.heap.size, 0, none⟩ = some v := (RowAt.new w [v] t).cell 0 rfl
end Go.Proofs.YtglckhljpjcmaaaGreatDoor
namespace Go.Proofs.YtglckhljpjcmaaaGreatDoor
open Go.RowKit Go.Lib

theorem StrO.none_nil {w : World} {xs : List ByteArray} (h : StrO w none xs) : xs = [] := by
  cases xs with
  | nil => rfl
  | cons y t => obtain ⟨ad, h', _⟩ := h 0 y rfl; cases h'
theorem FldO.none_nil {w : World} {xs : List Fd} (h : FldO w none xs) : xs = [] := by
  cases xs with
  | nil => rfl
  | cons y t => obtain ⟨ad, h', _⟩ := h 0 y rfl; cases h'
theorem SBuf.made (w : World) : SBuf (w.alloc (.cells #[] 9)) w.heap.size (.slice (some ⟨w.heap.size, 0, none⟩) 0 0) [] := World.ownsRow_made w #[] 0 (Nat.le_refl _) (Nat.zero_le _) rfl
theorem FBuf.made (w : World) : FBuf (w.alloc (.cells #[] 47)) w.heap.size (.slice (some ⟨w.heap.size, 0, none⟩) 0 0) [] := World.ownsRow_made w #[] 0 (Nat.le_refl _) (Nat.zero_le _) rfl
set_option maxHeartbeats 800000 in
theorem cloneS_any (oa : Option Addr) (xs : List ByteArray) (cap : Nat) (w : World) (hn : xs.length ≤ 100000) (hc : StrO w oa xs) :
    Calls Tryz.prog 64 #[.slice oa xs.length cap] w fun e w' => ∃ v, e = .returned v ∧ SBuf w' w.heap.size v xs ∧ Below w.heap.size w w' := by
  have q : ∀ (w : World) (a : Option Addr) (n c n' c' : Nat), (binOp .eql 29 (.slice a n c) (.slice none n' c')).run Tryz.prog w = .ok (.bool a.isNone) w := fun w a n c n' c' => Lib.run_eql_slice_nil w _ _ a n c n' c' Tryz.underlying29
  cases oa with
  | none =>
    obtain rfl := hc.none_nil
    clear hc
    go_enter Tryz.func64, Tryz.ntmps64
    go_wp2
    go_ret
    exact ⟨_, rfl, SBuf.nil_ _ _, Below.refl _ _⟩
  | some ad =>
    have HC := Lib.hid hc
    clear hc
    go_enter Tryz.func64, Tryz.ntmps64
    go_wp2_with (at_builtin; refine wpList_append_strs rfl (.tmp 5) (.tmp 6) rfl w _ w.heap.size _ [] rfl (SBuf.made w) (alloc_b w _) (alloc_b w _).size (some ad) xs cap rfl (HC.out.down (alloc_b w _)) (by simp; omega) ?_)
    intro v1 w1 SB hb hz
    go_wp2
    go_ret
    exact ⟨_, rfl, SB, hb⟩
set_option maxHeartbeats 800000 in
theorem cloneF_any (oa : Option Addr) (xs : List Fd) (cap : Nat) (w : World) (hn : xs.length ≤ 100000) (hc : FldO w oa xs) :
    Calls Tryz.prog 65 #[.slice oa xs.length cap] w fun e w' => ∃ v, e = .returned v ∧ FBuf w' w.heap.size v xs ∧ Below w.heap.size w w' := by
  have q : ∀ (w : World) (a : Option Addr) (n c n' c' : Nat), (binOp .eql 24 (.slice a n c) (.slice none n' c')).run Tryz.prog w = .ok (.bool a.isNone) w := fun w a n c n' c' => Lib.run_eql_slice_nil w _ _ a n c n' c' Tryz.underlying24
  cases oa with
  | none =>
    obtain rfl := hc.none_nil
    clear hc
    go_enter Tryz.func65, Tryz.ntmps65
    go_wp2
    go_ret
    exact ⟨_, rfl, FBuf.nil_ _ _, Below.refl _ _⟩
  | some ad =>
    have HC := Lib.hid hc
    clear hc
    go_enter Tryz.func65, Tryz.ntmps65
    go_wp2_with (at_builtin; refine wpList_append_flds rfl (.tmp 5) (.tmp 6) rfl w _ w.heap.size _ [] rfl (FBuf.made w) (alloc_b w _) (alloc_b w _).size (some ad) xs cap rfl (HC.out.down (alloc_b w _)) (by simp; omega) ?_)
    intro v1 w1 FB hb hz
    go_wp2
    go_ret
    exact ⟨_, rfl, FB, hb⟩
end Go.Proofs.YtglckhljpjcmaaaGreatDoor
namespace Go.Proofs.YtglckhljpjcmaaaGreatDoor
open Go
section
variable {P : Program} {ops : Array Oper} {Q : Exit → Act → World → Prop} {md : Region.Mode} {k : Nat} {c : World → Prop}

/-- Whatever order is picked from here on; c holds behind every operation, until operation k has come up. -/
def wpAnyK (P : Program) (md : Region.Mode) (ops : Array Oper) (Q : Exit → Act → World → Prop) (k : Nat) (c : World → Prop) : Nat → Array Bool → Act → World → Prop
  | 0, listed, a, w => Region.ready md ops listed = [] ∧ Q .normal a w
  | fuel + 1, listed, a, w =>
    (Region.ready md ops listed = [] → Q .normal a w) ∧
    ∀ i ∈ Region.ready md ops listed, wpOp P ops Q i (fun a' w' => ((listed.setIfInBounds i true).getD k false = false → c w') ∧ wpAnyK P md ops Q k c fuel (listed.setIfInBounds i true) a' w') a w
theorem wpAny_of_K : ∀ (fuel : Nat) (listed : Array Bool) (a : Act) (w : World), wpAnyK P md ops Q k c fuel listed a w → wpAny P md ops Q fuel listed a w
  | 0, _, _, _, h => h
  | fuel + 1, _, _, _, h => ⟨h.1, fun i hi => wpOp_mono (fun a' w' h' => wpAny_of_K fuel _ a' w' h'.2) (h.2 i hi)⟩
def ClosedL (md : Region.Mode) (ops : Array Oper) (listed : Array Bool) : Prop :=
  ∀ j oj, ops[j]? = some oj → listed.getD j false = true → ∀ e ∈ oj.after, Region.binds md e = true → listed.getD e.on false = true
theorem ClosedL.set {listed : Array Bool} (h : ClosedL md ops listed) {i : Nat} (hi : i ∈ Region.ready md ops listed) : ClosedL md ops (listed.setIfInBounds i true) := by
  obtain ⟨_, oi, hoi, hall⟩ := mem_ready.1 hi
  intro j oj hj hl e he hb
  by_cases hij : i = j
  · subst hij
    have : oj = oi := Option.some.inj (hj.symm.trans hoi)
    subst this
    exact getD_set_true (hall e he hb)
  · rw [getD_set_ne false hij] at hl
    exact getD_set_true (h j oj hj hl e he hb)
theorem ClosedL.none (md : Region.Mode) (ops : Array Oper) (m : Nat) : ClosedL md ops (Array.replicate m false) := fun j _ _ hl => by
  rw [getD_replicate_false] at hl; cases hl
def closedB (md : Region.Mode) (ops : Array Oper) (listed : Array Bool) : Bool :=
  (List.range ops.size).all fun j => !listed.getD j false || ((ops[j]?).map (·.after.all fun e => !Region.binds md e || listed.getD e.on false)).getD true
theorem closedB_spec {listed : Array Bool} (h : closedB md ops listed = true) : ClosedL md ops listed := by
  intro j oj hj hl e he hb
  have hlt : j < ops.size := (Array.getElem?_eq_some_iff.1 hj).1
  have h1 := List.all_eq_true.1 h j (List.mem_range.2 hlt)
  rw [hl, hj] at h1
  simp only [Bool.not_true, Bool.false_or, Option.map_some, Option.getD_some, Array.all_eq_true_iff_forall_mem, Bool.or_eq_true, Bool.not_eq_true'] at h1
  rcases h1 e he with h2 | h2
  · rw [hb] at h2; cases h2
  · exact h2
/-- Each of the list's operations waits for the one ahead of it. -/
def pathB (md : Region.Mode) (ops : Array Oper) : Nat → List Nat → Nat → Bool
  | i, [], k => i == k
  | i, j :: r, k => Region.waitsFor md ops j i && pathB md ops j r k
theorem path_unlisted {listed : Array Bool} (hcl : ClosedL md ops listed) {k : Nat} : ∀ (r : List Nat) (i : Nat), pathB md ops i r k = true → listed.getD i false = false → listed.getD k false = false
  | [], i, h, hu => by
    have : i = k := by simpa [pathB] using h
    subst this; exact hu
  | j :: r, i, h, hu => by
    simp only [pathB, Bool.and_eq_true] at h
    obtain ⟨oj, hj, e, he, hb, hon⟩ := Region.waitsFor_spec h.1
    refine path_unlisted hcl r j h.2 ?_
    cases hl : listed.getD j false with
    | false => rfl
    | true =>
      have := hcl j oj hj hl e he hb
      rw [hon, hu] at this; cases this

theorem wpAnyK_first {i : Nat} {oi : Oper} {v : Value} {c' : World → Prop} (hi : ops[i]? = some oi) (hsel : ∀ (j : Nat) (o : Oper) cs b, ops[j]? = some o → o.op ≠ .select cs b)
    (hQ : ∀ c a w, Q (.panic c) (a.put oi.dst v) w → Q (.panic c) a w) (hik : i ≠ k)
    (hc' : ∀ (l : Array Bool) (w : World), ClosedL md ops l → l.getD i false = false → (l.getD k false = false → c w) → c' w) :
    ∀ (fuel : Nat) (listed : Array Bool) (a : Act) (w : World), ClosedL md ops listed →
      (∀ j oj, ops[j]? = some oj → j ≠ i → listed.getD j true = false → (∀ e ∈ oj.after, Region.binds md e = true → e.on ≠ i) → oi.apart ops oj = true) →
      i ∈ Region.ready md ops listed → YieldsIf P ops c' oi v a → (listed.getD k false = false → c w) →
      wpAnyK P md ops Q k c fuel (listed.setIfInBounds i true) (a.put oi.dst v) w → wpAnyK P md ops Q k c (fuel + 1) listed a w := by
  intro fuel
  induction fuel with
  | zero =>
    intro listed a w hcl _ hr hy hS H
    have hS' := hc' listed w hcl (getD_both (mem_ready.1 hr).1) hS
    refine ⟨fun h => (by rw [h] at hr; cases hr), fun j hj => ?_⟩
    by_cases hji : j = i
    · subst hji; exact hy.wpOp hi hS' ⟨fun h => hS (by rw [getD_set_ne false hik] at h; exact h), H⟩
    · have := ready_mono hj hji
      rw [H.1] at this
      cases this
  | succ fuel ih =>
    intro listed a w hcl hfree hr hy hS H
    have hS' := hc' listed w hcl (getD_both (mem_ready.1 hr).1) hS
    refine ⟨fun h => (by rw [h] at hr; cases hr), fun j hj => ?_⟩
    by_cases hji : j = i
    · subst hji; exact hy.wpOp hi hS' ⟨fun h => hS (by rw [getD_set_ne false hik] at h; exact h), H⟩
    · have h1 := H.2 j (ready_mono hj hji)
      obtain ⟨hjun, oj, hoj, hall⟩ := mem_ready.1 hj
      have hnot : ∀ e ∈ oj.after, Region.binds md e = true → e.on ≠ i := fun e he hb heq => by
        have h1 := hall e he hb
        rw [heq, getD_both (mem_ready.1 hr).1] at h1
        cases h1
      have h2 := wpOp_putIf hoj (hfree j oj hoj hji hjun hnot) (fun cs b => hsel i oi cs b hi) (fun cs b => hsel j oj cs b hoj) hQ hy h1
      have hfree' : ∀ k ok, ops[k]? = some ok → k ≠ i → (listed.setIfInBounds j true).getD k true = false →
          (∀ e ∈ ok.after, Region.binds md e = true → e.on ≠ i) → oi.apart ops ok = true := fun k ok hk hki hun hno => by
        refine hfree k ok hk hki ?_ hno
        by_cases hjk : j = k
        · subst hjk; exact hjun
        · rw [getD_set_ne true hjk] at hun; exact hun
      refine wpOp_mono (fun a' w' h3 => ?_) h2
      have hs2 : (listed.setIfInBounds j true).getD k false = false → c w' := fun h => h3.2.1 (by
        rw [Array.setIfInBounds_comm _ _ (Ne.symm hji), getD_set_ne false hik]; exact h)
      refine ⟨hs2, ih (listed.setIfInBounds j true) a' w' (hcl.set hj) hfree' (ready_mono hr (Ne.symm hji)) h3.1 hs2 ?_⟩
      rw [Array.setIfInBounds_comm _ _ hji]
      exact h3.2.2

/-- An operation that yields its value in whatever world is taken first. -/
theorem wpK_pure {i : Nat} {oi : Oper} {v : Value} {fuel : Nat} {listed : Array Bool} {a : Act} {w : World} (hi : ops[i]? = some oi)
    (hB : (Region.noSelect ops && Region.free md ops listed i && (Region.ready md ops listed).contains i && closedB md ops listed && decide (i ≠ k)) = true)
    (hQ : ∀ c a w, Q (.panic c) (a.put oi.dst v) w → Q (.panic c) a w) (hw : Region.wanted oi (yielded ops a.tmps) = true) (hy : ∀ w, (execOp a.eval oi).run P w = .ok (.value v) w) (hS : listed.getD k false = false → c w)
    (h : wpAnyK P md ops Q k c fuel (listed.setIfInBounds i true) (a.put oi.dst v) w) : wpAnyK P md ops Q k c (fuel + 1) listed a w := by
  simp only [Bool.and_eq_true, decide_eq_true_eq] at hB
  obtain ⟨⟨⟨⟨h1, h2⟩, h3⟩, h4⟩, h5⟩ := hB
  exact wpAnyK_first (c' := fun _ => True) hi (Region.noSelect_spec h1) hQ h5 (fun _ _ _ _ _ => trivial) fuel listed a w (closedB_spec h4) (Region.free_spec hi h2) (by simpa using h3) (.inl ⟨hw, fun w _ => hy w⟩) hS h
/-- A load whose cell c names, and for which operation k waits, is taken first. -/
theorem wpK_load {i : Nat} {oi : Oper} {v : Value} {fuel : Nat} {listed : Array Bool} {a : Act} {w : World} (path : List Nat) (hi : ops[i]? = some oi)
    (hB : (Region.noSelect ops && Region.free md ops listed i && (Region.ready md ops listed).contains i && closedB md ops listed && decide (i ≠ k) && pathB md ops i path k) = true)
    (hQ : ∀ c a w, Q (.panic c) (a.put oi.dst v) w → Q (.panic c) a w) (hw : Region.wanted oi (yielded ops a.tmps) = true) (hy : ∀ w, c w → (execOp a.eval oi).run P w = .ok (.value v) w) (hS : listed.getD k false = false → c w)
    (h : wpAnyK P md ops Q k c fuel (listed.setIfInBounds i true) (a.put oi.dst v) w) : wpAnyK P md ops Q k c (fuel + 1) listed a w := by
  simp only [Bool.and_eq_true, decide_eq_true_eq] at hB
  obtain ⟨⟨⟨⟨⟨h1, h2⟩, h3⟩, h4⟩, h5⟩, h6⟩ := hB
  exact wpAnyK_first (c' := c) hi (Region.noSelect_spec h1) hQ h5 (fun l w hcl hu hs => hs (path_unlisted hcl path i h6 hu)) fuel listed a w (closedB_spec h4) (Region.free_spec hi h2) (by simpa using h3) (.inl ⟨hw, hy⟩) hS h
/-- Each of the operations rs comes up next. -/
def AllK (P : Program) (md : Region.Mode) (ops : Array Oper) (Q : Exit → Act → World → Prop) (k : Nat) (c : World → Prop) (fuel : Nat) (listed : Array Bool) (a : Act) (w : World) (rs : List Nat) : Prop :=
  ∀ i ∈ rs, wpOp P ops Q i (fun a' w' => ((listed.setIfInBounds i true).getD k false = false → c w') ∧ wpAnyK P md ops Q k c fuel (listed.setIfInBounds i true) a' w') a w
theorem AllK.nil {fuel : Nat} {listed : Array Bool} {a : Act} {w : World} : AllK P md ops Q k c fuel listed a w [] := fun _ h => by cases h
theorem AllK.cons {fuel : Nat} {listed : Array Bool} {a : Act} {w : World} {i : Nat} {o : Oper} {rs : List Nat} (ho : ops[i]? = some o)
    (h : ∀ K' : Act → World → Prop, Shut (∀ a w, ((listed.setIfInBounds i true).getD k false = false → c w) → (((listed.setIfInBounds i true).getD k false = false → c w) → wpAnyK P md ops Q k c fuel (listed.setIfInBounds i true) a w) → K' a w) → if Region.wanted o (yielded ops a.tmps) = true then Oper.wp P o a w K' Q else K' (a.put o.dst undef) w)
    (hs : AllK P md ops Q k c fuel listed a w rs) : AllK P md ops Q k c fuel listed a w (i :: rs) := fun j hj => by
  rcases List.mem_cons.1 hj with rfl | hj
  · exact wpOp_step ho (fun K' hK => h K' (fun a w hS hW => hK a w ⟨hS, hW hS⟩))
  · exact hs j hj
theorem wpK_ready {fuel : Nat} {listed : Array Bool} {a : Act} {w : World} (rs : List Nat) (hr : Region.ready md ops listed = rs) (hne : rs ≠ [])
    (h : AllK P md ops Q k c fuel listed a w rs) : wpAnyK P md ops Q k c (fuel + 1) listed a w :=
  ⟨fun h0 => absurd (hr ▸ h0) hne, hr ▸ h⟩
theorem wpK_done {listed : Array Bool} {a : Act} {w : World} (hr : Region.ready md ops listed = []) (h : Q .normal a w) : ∀ fuel, wpAnyK P md ops Q k c fuel listed a w
  | 0 => ⟨hr, h⟩
  | _ + 1 => ⟨fun _ => h, by rw [hr]; simp⟩
theorem wp_region_K (k : Nat) (c : World → Prop) {id : Nat} {a : Act} {w : World} (hm : P.follows .mixedOrders = true) (hS : c w.drew)
    (h : c w.drew → wpAnyK P .any ops Q k c ops.size (Array.replicate ops.size false) a w.drew) : (Code.region id ops true).wp P Q a w :=
  wp_region_any hm (wpAny_of_K _ _ _ _ (h hS))
end
end Go.Proofs.YtglckhljpjcmaaaGreatDoor
namespace Go.Proofs.YtglckhljpjcmaaaGreatDoor
open Go.RowKit Go.Shelf

theorem map_mkB' (l : List (List UInt8)) : (l.map mkB).map bs = l := by rw [List.map_map]; exact (List.map_congr_left fun x _ => rfl).trans (List.map_id _)
abbrev fixedN : List ByteArray := [⟨#[67, 111, 110, 110, 101, 99, 116, 105, 111, 110]⟩, ⟨#[75, 101, 101, 112, 45, 65, 108, 105, 118, 101]⟩, ⟨#[80, 114, 111, 120, 121, 45, 67, 111, 110, 110, 101, 99, 116, 105, 111, 110]⟩, ⟨#[80, 114, 111, 120, 121, 45, 65, 117, 116, 104, 101, 110, 116, 105, 99, 97, 116, 101]⟩, ⟨#[80, 114, 111, 120, 121, 45, 65, 117, 116, 104, 111, 114, 105, 122, 97, 116, 105, 111, 110]⟩, ⟨#[84, 69]⟩, ⟨#[84, 114, 97, 105, 108, 101, 114]⟩, ⟨#[84, 114, 97, 110, 115, 102, 101, 114, 45, 69, 110, 99, 111, 100, 105, 110, 103]⟩, ⟨#[67, 111, 110, 116, 101, 110, 116, 45, 76, 101, 110, 103, 116, 104]⟩, ⟨#[85, 112, 103, 114, 97, 100, 101]⟩]
abbrev keptN : List ByteArray := [⟨#[72, 111, 115, 116]⟩, ⟨#[67, 97, 99, 104, 101, 45, 67, 111, 110, 116, 114, 111, 108]⟩, ⟨#[86, 97, 114, 121]⟩, ⟨#[86, 97, 114, 105, 97, 110, 116, 115]⟩, ⟨#[86, 97, 114, 105, 97, 110, 116, 45, 75, 101, 121]⟩, ⟨#[86, 105, 97]⟩]
abbrev nConn : ByteArray := ⟨#[67, 111, 110, 110, 101, 99, 116, 105, 111, 110]⟩
theorem fixedN_z : ∀ x ∈ fixedN, x.size ≤ 100000 := by decide
theorem keptN_z : ∀ x ∈ keptN, x.size ≤ 100000 := by decide
theorem fixedA_eq : (fixedN.map Value.string).toArray = #[.string ⟨#[67, 111, 110, 110, 101, 99, 116, 105, 111, 110]⟩, .string ⟨#[75, 101, 101, 112, 45, 65, 108, 105, 118, 101]⟩, .string ⟨#[80, 114, 111, 120, 121, 45, 67, 111, 110, 110, 101, 99, 116, 105, 111, 110]⟩, .string ⟨#[80, 114, 111, 120, 121, 45, 65, 117, 116, 104, 101, 110, 116, 105, 99, 97, 116, 101]⟩, .string ⟨#[80, 114, 111, 120, 121, 45, 65, 117, 116, 104, 111, 114, 105, 122, 97, 116, 105, 111, 110]⟩, .string ⟨#[84, 69]⟩, .string ⟨#[84, 114, 97, 105, 108, 101, 114]⟩, .string ⟨#[84, 114, 97, 110, 115, 102, 101, 114, 45, 69, 110, 99, 111, 100, 105, 110, 103]⟩, .string ⟨#[67, 111, 110, 116, 101, 110, 116, 45, 76, 101, 110, 103, 116, 104]⟩, .string ⟨#[85, 112, 103, 114, 97, 100, 101]⟩] := rfl
theorem keptA_eq : (keptN.map Value.string).toArray = #[.string ⟨#[72, 111, 115, 116]⟩, .string ⟨#[67, 97, 99, 104, 101, 45, 67, 111, 110, 116, 114, 111, 108]⟩, .string ⟨#[86, 97, 114, 121]⟩, .string ⟨#[86, 97, 114, 105, 97, 110, 116, 115]⟩, .string ⟨#[86, 97, 114, 105, 97, 110, 116, 45, 75, 101, 121]⟩, .string ⟨#[86, 105, 97]⟩] := rfl
/-- A field is passed on, if Connection names these. -/
def stripB (conn : List (List UInt8)) (x : Fd) : Bool := !(oneB (bs x.1) (fixedN.map bs) || (oneB (bs x.1) conn && !oneB (bs x.1) (keptN.map bs)))
def stripL (xs : List Fd) : List Fd := xs.filter (stripB (allL (bs nConn) xs))
theorem strip_names (w : World) : StrO ((w.alloc (.cells #[.string ⟨#[67, 111, 110, 110, 101, 99, 116, 105, 111, 110]⟩, .string ⟨#[75, 101, 101, 112, 45, 65, 108, 105, 118, 101]⟩, .string ⟨#[80, 114, 111, 120, 121, 45, 67, 111, 110, 110, 101, 99, 116, 105, 111, 110]⟩, .string ⟨#[80, 114, 111, 120, 121, 45, 65, 117, 116, 104, 101, 110, 116, 105, 99, 97, 116, 101]⟩, .string ⟨#[80, 114, 111, 120, 121, 45, 65, 117, 116, 104, 111, 114, 105, 122, 97, 116, 105, 111, 110]⟩, .string ⟨#[84, 69]⟩, .string ⟨#[84, 114, 97, 105, 108, 101, 114]⟩, .string ⟨#[84, 114, 97, 110, 115, 102, 101, 114, 45, 69, 110, 99, 111, 100, 105, 110, 103]⟩, .string ⟨#[67, 111, 110, 116, 101, 110, 116, 45, 76, 101, 110, 103, 116, 104]⟩, .string ⟨#[85, 112, 103, 114, 97, 100, 101]⟩] 9)).alloc (.cells #[.string ⟨#[72, 111, 115, 116]⟩, .string ⟨#[67, 97, 99, 104, 101, 45, 67, 111, 110, 116, 114, 111, 108]⟩, .string ⟨#[86, 97, 114, 121]⟩, .string ⟨#[86, 97, 114, 105, 97, 110, 116, 115]⟩, .string ⟨#[86, 97, 114, 105, 97, 110, 116, 45, 75, 101, 121]⟩, .string ⟨#[86, 105, 97]⟩] 9)) (some ⟨w.heap.size, 0, none⟩) fixedN ∧
    StrO ((w.alloc (.cells #[.string ⟨#[67, 111, 110, 110, 101, 99, 116, 105, 111, 110]⟩, .string ⟨#[75, 101, 101, 112, 45, 65, 108, 105, 118, 101]⟩, .string ⟨#[80, 114, 111, 120, 121, 45, 67, 111, 110, 110, 101, 99, 116, 105, 111, 110]⟩, .string ⟨#[80, 114, 111, 120, 121, 45, 65, 117, 116, 104, 101, 110, 116, 105, 99, 97, 116, 101]⟩, .string ⟨#[80, 114, 111, 120, 121, 45, 65, 117, 116, 104, 111, 114, 105, 122, 97, 116, 105, 111, 110]⟩, .string ⟨#[84, 69]⟩, .string ⟨#[84, 114, 97, 105, 108, 101, 114]⟩, .string ⟨#[84, 114, 97, 110, 115, 102, 101, 114, 45, 69, 110, 99, 111, 100, 105, 110, 103]⟩, .string ⟨#[67, 111, 110, 116, 101, 110, 116, 45, 76, 101, 110, 103, 116, 104]⟩, .string ⟨#[85, 112, 103, 114, 97, 100, 101]⟩] 9)).alloc (.cells #[.string ⟨#[72, 111, 115, 116]⟩, .string ⟨#[67, 97, 99, 104, 101, 45, 67, 111, 110, 116, 114, 111, 108]⟩, .string ⟨#[86, 97, 114, 121]⟩, .string ⟨#[86, 97, 114, 105, 97, 110, 116, 115]⟩, .string ⟨#[86, 97, 114, 105, 97, 110, 116, 45, 75, 101, 121]⟩, .string ⟨#[86, 105, 97]⟩] 9)) (some ⟨w.heap.size + 1, 0, none⟩) keptN ∧
    Below w.heap.size w ((w.alloc (.cells #[.string ⟨#[67, 111, 110, 110, 101, 99, 116, 105, 111, 110]⟩, .string ⟨#[75, 101, 101, 112, 45, 65, 108, 105, 118, 101]⟩, .string ⟨#[80, 114, 111, 120, 121, 45, 67, 111, 110, 110, 101, 99, 116, 105, 111, 110]⟩, .string ⟨#[80, 114, 111, 120, 121, 45, 65, 117, 116, 104, 101, 110, 116, 105, 99, 97, 116, 101]⟩, .string ⟨#[80, 114, 111, 120, 121, 45, 65, 117, 116, 104, 111, 114, 105, 122, 97, 116, 105, 111, 110]⟩, .string ⟨#[84, 69]⟩, .string ⟨#[84, 114, 97, 105, 108, 101, 114]⟩, .string ⟨#[84, 114, 97, 110, 115, 102, 101, 114, 45, 69, 110, 99, 111, 100, 105, 110, 103]⟩, .string ⟨#[67, 111, 110, 116, 101, 110, 116, 45, 76, 101, 110, 103, 116, 104]⟩, .string ⟨#[85, 112, 103, 114, 97, 100, 101]⟩] 9)).alloc (.cells #[.string ⟨#[72, 111, 115, 116]⟩, .string ⟨#[67, 97, 99, 104, 101, 45, 67, 111, 110, 116, 114, 111, 108]⟩, .string ⟨#[86, 97, 114, 121]⟩, .string ⟨#[86, 97, 114, 105, 97, 110, 116, 115]⟩, .string ⟨#[86, 97, 114, 105, 97, 110, 116, 45, 75, 101, 121]⟩, .string ⟨#[86, 105, 97]⟩] 9)) := by
  have h1 := StrO.new w fixedN
  have h2 := StrO.new (w.alloc (.cells (fixedN.map Value.string).toArray 9)) keptN
  rw [show (w.alloc (.cells (fixedN.map Value.string).toArray 9)).heap.size = w.heap.size + 1 from Array.size_push _] at h2
  have h3 := h1.down (alloc_b _ (.cells (keptN.map Value.string).toArray 9))
  have h4 := step_b (alloc_b w (.cells (fixedN.map Value.string).toArray 9)) (alloc_b _ (.cells (keptN.map Value.string).toArray 9))
  rw [fixedA_eq, keptA_eq] at h2 h3 h4
  exact ⟨h3, h2, h4⟩
end Go.Proofs.YtglckhljpjcmaaaGreatDoor
namespace Go.Proofs.YtglckhljpjcmaaaGreatDoor
open Go.RowKit Go.Shelf

theorem rdateV_form (l : List UInt8) : dateV (parseD l) = .tuple #[.int .i64 (dpt l).1, .bool (dpt l).2] := dateV_form l
def validTB (es : List Fd) : Bool := (ofE es).isSome || (dpt (bs (datedS (bs nLM) es))).2
theorem etagV_ok (o : Option (Bool × List UInt8)) : ∃ (b : Bool) (l : ByteArray), etagV o = .tuple #[.agg #[.bool b, .string l], .bool o.isSome] := by
  cases o with
  | none => exact ⟨false, ⟨#[]⟩, rfl⟩
  | some p => exact ⟨p.1, ⟨p.2.toArray⟩, rfl⟩
end Go.Proofs.YtglckhljpjcmaaaGreatDoor
namespace Go.Proofs.YtglckhljpjcmaaaGreatDoor
open Go.RowKit
theorem step_append_strs {ops : Array Oper} {o : Oper} {a : Act} {K : Act → World → Prop} {Q : Exit → Act → World → Prop} {E : Prop} (hgd : o.guard = none) (s x : Operand)
    (ho : o.op = .call { callee := .builtin .append, args := #[s, x], argTypes := #[29, 29] })
    (w0 w : World) (B : Nat) (v : Value) (xs : List ByteArray) (hs : a.eval s = v) (hown : SBuf w B v xs) (hb : Below B w0 w) (hB : B ≤ w.heap.size)
    (oa : Option Addr) (ys : List ByteArray) (cap : Nat) (hx : a.eval x = .slice oa ys.length cap) (hy : StrO w oa ys) (hl : xs.length + ys.length ≤ 1000000)
    (h : ∀ v' w', SBuf w' B v' (xs ++ ys) → Below B w0 w' → B ≤ w'.heap.size → K (a.put o.dst v') w') :
    if Region.wanted o (yielded ops a.tmps) = true then Oper.wp Tryz.prog o a w K Q else E := by
  have hw : Region.wanted o (yielded ops a.tmps) = true := by simp [Region.wanted, hgd]
  rw [if_pos hw]
  obtain ⟨i, hi, hz0, hz1, hz2⟩ := info_parts infoStr
  cases oa with
  | none =>
    obtain rfl := hy.none_nil
    have hrun := run_append_none_any (P := Tryz.prog) (w := w) B 29 o.type 9 i 1 Tryz.underlying29 hi v xs.length _ cap hown
    unfold Oper.wp
    have hx' : a.eval x = .slice none 0 cap := hx
    simp [execOp, ho, resolve, invoke, builtin, hs, hx', hrun, Result.andThen]
    exact h v w (by rw [List.append_nil]; exact hown) hb hB
  | some ad =>
    refine wp_append_own w s x 29 ho B 9 i (.string ByteArray.empty) 1 16 Tryz.underlying29 hi hz0 hz1 hz2 rfl (by decide) v xs.length _ hs hown ad ys.length cap (ys.map Value.string) hx (by simp) ?_ ?_ (by unfold maxLen; omega) (by omega) hB ?_
    · intro j u hj
      rw [List.getElem?_map] at hj
      cases hq : ys[j]? with
      | none => rw [hq] at hj; cases hj
      | some y =>
        rw [hq] at hj
        cases hj
        obtain ⟨ad', e', c0⟩ := hy j y hq
        cases e'
        exact c0
    · intro u hu
      obtain ⟨y, _, rfl⟩ := List.mem_map.1 hu
      rfl
    · intro v' w' hown' hg _
      refine h v' w' ?_ (hb.grown hg hB (fun j hj => (World.ownsRow.lt hown j hj).1)) (Nat.le_trans hB hg.size)
      unfold SBuf
      rw [List.map_append, List.length_append]
      exact hown'
abbrev entZ8 : List Value := [.slice none 0 0, .slice none 0 0, .slice none 0 0, .string ⟨#[]⟩, .slice none 0 0, .string ⟨#[]⟩, .int .i64 0, .int .i64 0]
theorem ent_one (ok : Option Addr) (nk ck : Nat) (ov : Option Addr) (nv cv : Nat) (os : Option Addr) (ns cs : Nat) (rs : ByteArray) (oe : Option Addr) (ne ce : Nat) (be : ByteArray) (r1 r2 : Int) : ∀ u ∈ entC8 ok nk ck ov nv cv os ns cs rs oe ne ce be r1 r2, u.oneCell' = true := by
  intro u hu; simp at hu; rcases hu with rfl | rfl | rfl | rfl | rfl | rfl | rfl | rfl <;> rfl
theorem SBuf.others {w w' : World} {B : Nat} {v : Value} {xs : List ByteArray} (h : SBuf w B v xs) {b : Nat} (hb : b < B) (f : ∀ k, k ≠ b → w'.heap[k]? = w.heap[k]?) : SBuf w' B v xs := row_others h hb f
theorem SBuf.set {w : World} {B : Nat} {v : Value} {xs : List ByteArray} (h : SBuf w B v xs) {g j : Nat} (hg : g < B) (u : Value) : SBuf (w.setCell ⟨g, j, none⟩ u) B v xs := h.others hg (fun _ hk => heap_setCell_other _ _ _ _ hk)
theorem SBuf.str {w : World} {B : Nat} {oa : Option Addr} {n cap : Nat} {xs : List ByteArray} (h : SBuf w B (.slice oa n cap) xs) : StrO w oa xs := by
  obtain ⟨oa', cap', e, h'⟩ := StrO.ofS h
  cases e; exact h'
/-- What a copy is made of: four rows of the call's own. -/
def EBufs (w : World) (B : Nat) (vk : Value) (ks : List (List ByteArray)) (vv : Value) (vs : List ByteArray) (vz : Value) (ss : List ByteArray) (vf : Value) (es : List Fd) : Prop := KBuf w B vk ks ∧ SBuf w B vv vs ∧ SBuf w B vz ss ∧ FBuf w B vf es
theorem EBufs.others {w w' : World} {B : Nat} {vk vv vz vf : Value} {ks : List (List ByteArray)} {vs ss : List ByteArray} {es : List Fd} (h : EBufs w B vk ks vv vs vz ss vf es) {b : Nat} (hb : b < B) (f : ∀ k, k ≠ b → w'.heap[k]? = w.heap[k]?) : EBufs w' B vk ks vv vs vz ss vf es :=
  ⟨h.1.others hb f, h.2.1.others hb f, h.2.2.1.others hb f, h.2.2.2.others hb f⟩
theorem EBufs.set {w : World} {B : Nat} {vk vv vz vf : Value} {ks : List (List ByteArray)} {vs ss : List ByteArray} {es : List Fd} (h : EBufs w B vk ks vv vs vz ss vf es) {g j : Nat} (hg : g < B) (u : Value) : EBufs (w.setCell ⟨g, j, none⟩ u) B vk ks vv vs vz ss vf es := h.others hg (fun _ hk => heap_setCell_other _ _ _ _ hk)
theorem row_lower {w : World} {B B' : Nat} {e : TypeId} {z : Nat} {v : Value} {n : Nat} {cs : List Value} (h : w.ownsRow B e z v n cs) (hB : B' ≤ B) : w.ownsRow B' e z v n cs := by
  refine ⟨h.1, ?_⟩
  rcases h.2 with h0 | ⟨g, cap, cur, h1, h2, h3, h4⟩
  · exact .inl h0
  · exact .inr ⟨g, cap, cur, h1, by omega, h3, h4⟩
theorem KBuf.lower {w : World} {B B' : Nat} {v : Value} {ks : List (List ByteArray)} (h : KBuf w B v ks) (hB : B' ≤ B) : KBuf w B' v ks := by
  obtain ⟨cs, h1, h2⟩ := h
  refine ⟨cs, row_lower h1 hB, fun i row hr => ?_⟩
  obtain ⟨o, cap, e, hi⟩ := h2 i row hr
  refine ⟨o, cap, e, fun j x hx => ?_⟩
  obtain ⟨g, q1, q2, q3⟩ := hi j x hx
  exact ⟨g, q1, by omega, q3⟩
theorem EBufs.below {w w' : World} {B B' : Nat} {vk vv vz vf : Value} {ks : List (List ByteArray)} {vs ss : List ByteArray} {es : List Fd} (h : EBufs w B vk ks vv vs vz ss vf es) (hb : Below B' w w') (hB : w.heap.size ≤ B') : EBufs w' B vk ks vv vs vz ss vf es :=
  ⟨h.1.below hb hB, h.2.1.below hb hB, h.2.2.1.below hb hB, h.2.2.2.below hb hB⟩
theorem EBufs.lower {w : World} {B B' : Nat} {vk vv vz vf : Value} {ks : List (List ByteArray)} {vs ss : List ByteArray} {es : List Fd} (h : EBufs w B vk ks vv vs vz ss vf es) (hB : B' ≤ B) : EBufs w B' vk ks vv vs vz ss vf es :=
  ⟨h.1.lower hB, h.2.1.lower hB, h.2.2.1.lower hB, h.2.2.2.lower hB⟩
/-- An entry of the call's own memory: what a copy is. -/
def EntOut (ks : List (List ByteArray)) (vs ss : List ByteArray) (rs : ByteArray) (es : List Fd) (be : ByteArray) (r1 r2 : Int) (w : World) (e : Ending) (w' : World) : Prop :=
  ∃ (ok : Option Addr) (ck : Nat) (ov : Option Addr) (cv : Nat) (os : Option Addr) (cs : Nat) (oe : Option Addr) (ce : Nat), e = .returned (entV8 ok ks.length ck ov vs.length cv os ss.length cs rs oe es.length ce be r1 r2) ∧
    EBufs w' w.heap.size (.slice ok ks.length ck) ks (.slice ov vs.length cv) vs (.slice os ss.length cs) ss (.slice oe es.length ce) es ∧ Below w.heap.size w w'
/-- An entry's cells, whatever its list of fields. -/
abbrev entF (k1 k2 k3 : Value) (rs : ByteArray) (v : Value) (bd : ByteArray) (r1 r2 : Int) : List Value := [k1, k2, k3, .string rs, v, .string bd, .int .i64 r1, .int .i64 r2]
end Go.Proofs.YtglckhljpjcmaaaGreatDoor
namespace Go.Proofs.YtglckhljpjcmaaaGreatDoor
open Go.RowKit Go.Shelf
attribute [local go_sem] Oper.semAt_some
set_option linter.unusedSimpArgs false

set_option maxHeartbeats 12800000 in
set_option maxRecDepth 100000 in
theorem clone_any (ok : Option Addr) (ks : List (List ByteArray)) (ck : Nat) (ov : Option Addr) (vs : List ByteArray) (cv : Nat) (os : Option Addr) (ss : List ByteArray) (cs : Nat) (rs : ByteArray) (oe : Option Addr) (es : List Fd) (ce : Nat) (be : ByteArray) (r1 r2 : Int) (w : World)
    (hk : MatO w ok ks) (hkz : MatZ ks 1000 1000) (hkl : ks.length ≤ 1000) (hv : StrO w ov vs) (hvl : vs.length ≤ 100000) (hs : StrO w os ss) (hsl : ss.length ≤ 100000) (hf : FldO w oe es) (hfl : es.length ≤ 100000) :
    Calls Tryz.prog 41 #[entV8 ok ks.length ck ov vs.length cv os ss.length cs rs oe es.length ce be r1 r2] w (EntOut ks vs ss rs es be r1 r2 w) := by
  have RR := Lib.hid (rows2 w (entC (.slice none 0 0) (.slice ov vs.length cv) (.slice os ss.length cs) rs oe es.length ce be r1 r2) 50 entZ8 50)
  have hz0 : w.heap.size + 2 ≤ ((w.alloc (.cells (entC (.slice none 0 0) (.slice ov vs.length cv) (.slice os ss.length cs) rs oe es.length ce be r1 r2).toArray 50)).alloc (.cells entZ8.toArray 50)).heap.size := by
    rw [show ((w.alloc (.cells (entC (.slice none 0 0) (.slice ov vs.length cv) (.slice os ss.length cs) rs oe es.length ce be r1 r2).toArray 50)).alloc (.cells entZ8.toArray 50)).heap.size = (w.alloc (.cells (entC (.slice none 0 0) (.slice ov vs.length cv) (.slice os ss.length cs) rs oe es.length ce be r1 r2).toArray 50)).heap.size + 1 from Array.size_push _, show (w.alloc (.cells (entC (.slice none 0 0) (.slice ov vs.length cv) (.slice os ss.length cs) rs oe es.length ce be r1 r2).toArray 50)).heap.size = w.heap.size + 1 from Array.size_push _]
    exact Nat.le_refl _
  have HK := Lib.hid hk
  have HKZ := Lib.hid hkz
  have HV := Lib.hid hv
  have HS := Lib.hid hs
  have HF := Lib.hid hf
  have HZ0 := Lib.hid hz0
  clear hk hkz hv hs hf hz0
  go_enter Tryz.func41, Tryz.ntmps41
  go_wp2_with fail
  go_loopw [11] (fun j wr => ∃ (k : Nat) (v : Value), k ≤ ks.length ∧ j = .int .i64 k ∧ RowAt wr w.heap.size 50 (entC v (.slice ov vs.length cv) (.slice os ss.length cs) rs oe es.length ce be r1 r2) ∧ RowAt wr (w.heap.size + 1) 50 entZ8 ∧ KBuf wr (w.heap.size + 2) v (ks.take k) ∧ Below w.heap.size w wr ∧ w.heap.size + 2 ≤ wr.heap.size) (fun j _ => ks.length - (intOf j).toNat)
  case atStart => exact ⟨0, .slice none 0 0, by omega, rfl, RR.out.1, RR.out.2.1, KBuf.nil_ _ _, RR.out.2.2, HZ0.out⟩
  case round =>
    obtain ⟨k, v, hk, rfl, R0, O0, KB, hb, hz⟩ := hrel
    by_cases hlt : k < ks.length
    · obtain ⟨row, hx⟩ : ∃ x, ks[k]? = some x := ⟨_, List.getElem?_eq_getElem hlt⟩
      obtain ⟨ad, o, c, rfl, hc, hrow⟩ := (HK.out.down hb) k row hx
      have zr : row.length ≤ 1000 := (HKZ.out row (List.mem_of_getElem? hx)).1
      have HR := Lib.hid hrow
      have HT : Hid (ks.take (k + 1) = ks.take k ++ [row]) := Lib.hid (by rw [List.take_add_one, hx]; rfl)
      clear hx hrow
      go_wp2_with fail
      refine wp_region_K 5 (fun w' => Below wr.heap.size wr w') (by kernel_rfl) (Below.refl _ _).drew (fun hH => ?_)
      generalize wr.drew = w1 at *
      have B1 := hH
      clear hH
      refine wpK_pure (i := 0) (v := .pointer (some ⟨w.heap.size, 0, none⟩)) rfl (by kernel_rfl) (fun _ _ _ h => h) (by rfl) (fun w9 => by go_simp) (fun _ => B1) ?_
      try simp only [Act.put, List.setIfInBounds_toArray, List.set_cons_zero, List.set_cons_succ]
      refine wpK_load (i := 1) (v := v) [5] rfl (by kernel_rfl) (fun _ _ _ h => h) (by rfl) (fun w9 h9 => by have c9 := (R0.below h9).cell 0 rfl; go_simp) (fun _ => B1) ?_
      try simp only [Act.put, List.setIfInBounds_toArray, List.set_cons_zero, List.set_cons_succ]
      refine wpK_pure (i := 2) (v := .slice o row.length c) rfl (by kernel_rfl) (fun _ _ _ h => h) (by rfl) (fun w9 => by go_simp) (fun _ => B1) ?_
      try simp only [Act.put, List.setIfInBounds_toArray, List.set_cons_zero, List.set_cons_succ]
      refine wpK_ready [3] (by kernel_rfl) (by simp) ?_
      refine AllK.cons rfl (fun K hK => ?_) AllK.nil
      go_simp
      go_at_call 64
      refine (cloneS_any o row c w1 (by omega) (HR.out.down B1)).mono ?_
      rintro e w2 ⟨v2, rfl, SB, hb2⟩
      have KB1 := KB.below B1 (Nat.le_refl _)
      have hz1 := Nat.le_trans hz B1.size
      obtain ⟨oc, c2, rfl, HI⟩ := InAt.of KB1 hz1 SB
      have KB2 := KB1.below hb2 (Nat.le_refl _)
      have B2 := step_b B1 hb2
      have hz2 := Nat.le_trans hz B2.size
      clear SB hb2 KB1 hz1
      refine hK.out _ _ (fun _ => B2) (fun _ => ?_)
      clear hK K
      try simp only [Act.put, List.setIfInBounds_toArray, List.set_cons_zero, List.set_cons_succ]
      refine wpK_ready [4] (by kernel_rfl) (by simp) ?_
      refine AllK.cons rfl (fun K hK => ?_) AllK.nil
      go_simp
      have a3 := alloc_b w2 (.cells #[.slice oc row.length c2] 29)
      have HI3 := HI.down a3 (Nat.le_refl _)
      have KB3 := KB2.alloc (.cells #[.slice oc row.length c2] 29)
      have c0 := cell_new_sl w2 (.slice oc row.length c2) 29
      have B3 := step_b B2 a3
      have hz3 := Nat.le_trans hz B3.size
      have O3 := O0.below B3
      have R3 := R0.below B3
      have D3 := step_b hb B3
      clear a3 HI KB2 hz2 KB
      generalize w2.alloc (.cells #[.slice oc row.length c2] 29) = w3 at *
      generalize (⟨w2.heap.size, 0, none⟩ : Addr) = ac at *
      refine hK.out _ _ (fun _ => B3) (fun _ => ?_)
      clear hK K
      try simp only [Act.put, List.setIfInBounds_toArray, List.set_cons_zero, List.set_cons_succ]
      refine wpK_ready [5] (by kernel_rfl) (by simp) ?_
      refine AllK.cons rfl (fun K hK => ?_) AllK.nil
      refine step_append_mat rfl (.tmp 16) (.tmp 19) rfl w3 w3 (w.heap.size + 2) v (ks.take k) rfl KB3 (Below.refl _ _) hz3 ac oc row c2 rfl c0 HI3 (by rw [List.length_take]; omega) ?_
      intro v5 w5 KB5 hb5 z5
      obtain ⟨zs, hzs⟩ : ∃ zs, zs = ks.take k ++ [row] := ⟨_, rfl⟩
      rw [← hzs] at KB5
      have HZS := Lib.hid hzs
      clear hzs
      obtain ⟨o5, c5, rfl, _⟩ := KB5.shape
      have R5 := R3.belowB hb5 (by omega)
      have O5 := O3.belowB hb5 (by omega)
      have D5 := D3.trans (hb5.mono (by omega))
      have q0 := R5.cell 0 rfl
      have f0 := R5.free 0
      clear R3 O3 D3 KB3 HI3 c0 B3 R0 O0 hb5 hz3
      refine hK.out _ _ (fun h => absurd h (by decide)) (fun _ => ?_)
      clear hK K
      try simp only [Act.put, List.setIfInBounds_toArray, List.set_cons_zero, List.set_cons_succ]
      refine wpK_pure (i := 6) (v := .pointer (some ⟨w.heap.size, 0, none⟩)) rfl (by kernel_rfl) (fun _ _ _ h => h) (by rfl) (fun w9 => by go_simp) (fun h => absurd h (by decide)) ?_
      try simp only [Act.put, List.setIfInBounds_toArray, List.set_cons_zero, List.set_cons_succ]
      refine wpK_ready [7] (by kernel_rfl) (by simp) ?_
      refine AllK.cons rfl (fun K hK => ?_) AllK.nil
      go_simp
      refine hK.out _ _ (fun h => absurd h (by decide)) (fun _ => ?_)
      clear hK K
      try simp only [Act.put, List.setIfInBounds_toArray, List.set_cons_zero, List.set_cons_succ]
      refine wpK_done (by kernel_rfl) ?_ _
      clear q0 f0
      go_wp2_with fail
      go_roundw
      case rel => exact ⟨k + 1, .slice o5 zs.length c5, by omega, by go_num, R5.set 0 (.slice o5 zs.length c5), O5.setOther (by omega) 0 (.slice o5 zs.length c5), by rw [HT.out, ← HZS.out]; exact KB5.set (by omega) (.slice o5 zs.length c5), D5.setCell (p := ⟨w.heap.size, 0, none⟩) (Nat.le_refl _) (.slice o5 zs.length c5), by simpa using z5⟩
      case measure => simp [intOf]; omega
    · have ek : ks.take k = ks := List.take_of_length_le (by omega)
      rw [ek] at KB
      obtain ⟨o0, c0, rfl, _⟩ := KB.shape
      have HV1 := Lib.hid (HV.out.down hb)
      have HS1 := Lib.hid (HS.out.down hb)
      have HF1 := Lib.hid (HF.out.down hb)
      clear ek
      go_wp2_with fail
      refine wp_region_K 10 (fun w' => Below wr.heap.size wr w') (by kernel_rfl) (Below.refl _ _).drew (fun hH => ?_)
      generalize wr.drew = w1 at *
      have B1 := hH
      clear hH
      refine wpK_pure (i := 0) (v := .pointer (some ⟨w.heap.size, 1, none⟩)) rfl (by kernel_rfl) (fun _ _ _ h => h) (by rfl) (fun w9 => by go_simp) (fun _ => B1) ?_
      try simp only [Act.put, List.setIfInBounds_toArray, List.set_cons_zero, List.set_cons_succ]
      refine wpK_load (i := 1) (v := .slice ov vs.length cv) [10] rfl (by kernel_rfl) (fun _ _ _ h => h) (by rfl) (fun w9 h9 => by have c9 := (R0.below h9).cell 1 rfl; go_simp) (fun _ => B1) ?_
      try simp only [Act.put, List.setIfInBounds_toArray, List.set_cons_zero, List.set_cons_succ]
      refine wpK_pure (i := 3) (v := .pointer (some ⟨w.heap.size, 2, none⟩)) rfl (by kernel_rfl) (fun _ _ _ h => h) (by rfl) (fun w9 => by go_simp) (fun _ => B1) ?_
      try simp only [Act.put, List.setIfInBounds_toArray, List.set_cons_zero, List.set_cons_succ]
      refine wpK_load (i := 4) (v := .slice os ss.length cs) [10] rfl (by kernel_rfl) (fun _ _ _ h => h) (by rfl) (fun w9 h9 => by have c9 := (R0.below h9).cell 2 rfl; go_simp) (fun _ => B1) ?_
      try simp only [Act.put, List.setIfInBounds_toArray, List.set_cons_zero, List.set_cons_succ]
      refine wpK_pure (i := 6) (v := .pointer (some ⟨w.heap.size, 4, none⟩)) rfl (by kernel_rfl) (fun _ _ _ h => h) (by rfl) (fun w9 => by go_simp) (fun _ => B1) ?_
      try simp only [Act.put, List.setIfInBounds_toArray, List.set_cons_zero, List.set_cons_succ]
      refine wpK_load (i := 7) (v := .slice oe es.length ce) [10] rfl (by kernel_rfl) (fun _ _ _ h => h) (by rfl) (fun w9 h9 => by have c9 := (R0.below h9).cell 4 rfl; go_simp) (fun _ => B1) ?_
      try simp only [Act.put, List.setIfInBounds_toArray, List.set_cons_zero, List.set_cons_succ]
      refine wpK_ready [2] (by kernel_rfl) (by simp) ?_
      refine AllK.cons rfl (fun K hK => ?_) AllK.nil
      go_simp
      go_at_call 64
      refine (cloneS_any ov vs cv w1 hvl (HV1.out.down B1)).mono ?_
      rintro e w2 ⟨v2, rfl, SB2, hb2⟩
      have B2 := step_b B1 hb2
      have SB2 := SB2.lower (Nat.le_trans hz B1.size)
      obtain ⟨o2, c2, rfl, _⟩ := SB2.shape
      clear hb2
      refine hK.out _ _ (fun _ => B2) (fun _ => ?_)
      clear hK K
      try simp only [Act.put, List.setIfInBounds_toArray, List.set_cons_zero, List.set_cons_succ]
      refine wpK_pure (i := 9) (v := .pointer (some ⟨w.heap.size, 1, none⟩)) rfl (by kernel_rfl) (fun _ _ _ h => h) (by rfl) (fun w9 => by go_simp) (fun _ => B2) ?_
      try simp only [Act.put, List.setIfInBounds_toArray, List.set_cons_zero, List.set_cons_succ]
      refine wpK_ready [5] (by kernel_rfl) (by simp) ?_
      refine AllK.cons rfl (fun K hK => ?_) AllK.nil
      go_simp
      go_at_call 64
      refine (cloneS_any os ss cs w2 hsl (HS1.out.down B2)).mono ?_
      rintro e w3 ⟨v3, rfl, SB3, hb3⟩
      have B3 := step_b B2 hb3
      have SB3 := SB3.lower (Nat.le_trans hz B2.size)
      have SB2 := SB2.below hb3 (Nat.le_refl _)
      obtain ⟨o3, c3, rfl, _⟩ := SB3.shape
      clear hb3
      refine hK.out _ _ (fun _ => B3) (fun _ => ?_)
      clear hK K
      try simp only [Act.put, List.setIfInBounds_toArray, List.set_cons_zero, List.set_cons_succ]
      refine wpK_ready [8] (by kernel_rfl) (by simp) ?_
      refine AllK.cons rfl (fun K hK => ?_) AllK.nil
      go_simp
      go_at_call 65
      refine (cloneF_any oe es ce w3 hfl (HF1.out.down B3)).mono ?_
      rintro e w4 ⟨v4, rfl, FB4, hb4⟩
      have B4 := step_b B3 hb4
      have FB4 := FB4.lower (Nat.le_trans hz B3.size)
      have SB2 := SB2.below hb4 (Nat.le_refl _)
      have SB3 := SB3.below hb4 (Nat.le_refl _)
      obtain ⟨o4, c4, rfl, _⟩ := FB4.shape
      have KB4 := KB.below B4 (Nat.le_refl _)
      have E4 : EBufs w4 (w.heap.size + 2) (.slice o0 ks.length c0) ks (.slice o2 vs.length c2) vs (.slice o3 ss.length c3) ss (.slice o4 es.length c4) es := ⟨KB4, SB2, SB3, FB4⟩
      have R4 := R0.below B4
      have O4 := O0.below B4
      have D4 := step_b hb B4
      clear hb4 FB4 SB2 SB3 KB4 KB R0 O0
      refine hK.out _ _ (fun _ => B4) (fun _ => ?_)
      clear hK K
      try simp only [Act.put, List.setIfInBounds_toArray, List.set_cons_zero, List.set_cons_succ]
      have q0 := R4.cell 1 rfl
      have f0 := R4.free 1
      refine wpK_ready [10] (by kernel_rfl) (by simp) ?_
      refine AllK.cons rfl (fun K hK => ?_) AllK.nil
      go_simp
      refine hK.out _ _ (fun h => absurd h (by decide)) (fun _ => ?_)
      clear hK K q0 f0
      try simp only [Act.put, List.setIfInBounds_toArray, List.set_cons_zero, List.set_cons_succ]
      have S0 := R4.set 1 (.slice o2 vs.length c2)
      have P0 := O4.setOther (show w.heap.size + 1 ≠ w.heap.size by omega) 1 (.slice o2 vs.length c2)
      have G0 := D4.setCell (p := ⟨w.heap.size, 1, none⟩) (Nat.le_refl _) (.slice o2 vs.length c2)
      have X0 := E4.set (g := w.heap.size) (j := 1) (by omega) (.slice o2 vs.length c2)
      clear R4 O4 D4 E4
      refine wpK_pure (i := 11) (v := .pointer (some ⟨w.heap.size, 2, none⟩)) rfl (by kernel_rfl) (fun _ _ _ h => h) (by rfl) (fun w9 => by go_simp) (fun h => absurd h (by decide)) ?_
      try simp only [Act.put, List.setIfInBounds_toArray, List.set_cons_zero, List.set_cons_succ]
      have q1 := S0.cell 2 rfl
      have f1 := S0.free 2
      refine wpK_ready [12] (by kernel_rfl) (by simp) ?_
      refine AllK.cons rfl (fun K hK => ?_) AllK.nil
      go_simp
      refine hK.out _ _ (fun h => absurd h (by decide)) (fun _ => ?_)
      clear hK K q1 f1
      try simp only [Act.put, List.setIfInBounds_toArray, List.set_cons_zero, List.set_cons_succ]
      have S1 := S0.set 2 (.slice o3 ss.length c3)
      have P1 := P0.setOther (show w.heap.size + 1 ≠ w.heap.size by omega) 2 (.slice o3 ss.length c3)
      have G1 := G0.setCell (p := ⟨w.heap.size, 2, none⟩) (Nat.le_refl _) (.slice o3 ss.length c3)
      have X1 := X0.set (g := w.heap.size) (j := 2) (by omega) (.slice o3 ss.length c3)
      clear S0 P0 G0 X0
      refine wpK_pure (i := 13) (v := .pointer (some ⟨w.heap.size, 4, none⟩)) rfl (by kernel_rfl) (fun _ _ _ h => h) (by rfl) (fun w9 => by go_simp) (fun h => absurd h (by decide)) ?_
      try simp only [Act.put, List.setIfInBounds_toArray, List.set_cons_zero, List.set_cons_succ]
      have q2 := S1.cell 4 rfl
      have f2 := S1.free 4
      refine wpK_ready [14] (by kernel_rfl) (by simp) ?_
      refine AllK.cons rfl (fun K hK => ?_) AllK.nil
      go_simp
      refine hK.out _ _ (fun h => absurd h (by decide)) (fun _ => ?_)
      clear hK K q2 f2
      try simp only [Act.put, List.setIfInBounds_toArray, List.set_cons_zero, List.set_cons_succ]
      have S2 := S1.set 4 (.slice o4 es.length c4)
      have P2 := P1.setOther (show w.heap.size + 1 ≠ w.heap.size by omega) 4 (.slice o4 es.length c4)
      have G2 := G1.setCell (p := ⟨w.heap.size, 4, none⟩) (Nat.le_refl _) (.slice o4 es.length c4)
      have X2 := X1.set (g := w.heap.size) (j := 4) (by omega) (.slice o4 es.length c4)
      clear S1 P1 G1 X1
      refine wpK_done (by kernel_rfl) ?_ _
      go_wp2_with (first | (refine wpList_load_rowAt rfl _ 50 (.tmp 1) rfl w.heap.size 50 (entC8 o0 ks.length c0 o2 vs.length c2 o3 ss.length c3 rs o4 es.length c4 be r1 r2) S2 rfl _ Tryz.underlying50 ent_size ?_) | (refine wpList_store_row rfl _ 50 (.tmp 2) (.tmp 35) rfl (w.heap.size + 1) 50 entZ8 (entC8 o0 ks.length c0 o2 vs.length c2 o3 ss.length c3 rs o4 es.length c4 be r1 r2) P2 rfl rfl rfl ent_size (ent_one _ _ _ _ _ _ _ _ _ _ _ _ _ _ _ _) ?_; intro w9 R9 g1 g2 g3))
      refine bodyPost_ret (results_row1 rfl _ _ (w.heap.size + 1) 50 (entC8 o0 ks.length c0 o2 vs.length c2 o3 ss.length c3 rs o4 es.length c4 be r1 r2) R9 rfl _ Tryz.underlying50 ent_size) rfl ?_
      have X9 := X2.others (by omega) g2
      exact ⟨o0, c0, o2, c2, o3, c3, o4, c4, rfl, X9.lower (by omega), G2.trans (g1 _ (by omega))⟩
theorem rows3e (w : World) (X Y Z : List Value) (T : TypeId) : RowAt (((w.alloc (.cells X.toArray T)).alloc (.cells Y.toArray T)).alloc (.cells Z.toArray T)) w.heap.size T X ∧ RowAt (((w.alloc (.cells X.toArray T)).alloc (.cells Y.toArray T)).alloc (.cells Z.toArray T)) (w.heap.size + 1) T Y ∧ RowAt (((w.alloc (.cells X.toArray T)).alloc (.cells Y.toArray T)).alloc (.cells Z.toArray T)) (w.heap.size + 1 + 1) T Z ∧
    Below w.heap.size w (((w.alloc (.cells X.toArray T)).alloc (.cells Y.toArray T)).alloc (.cells Z.toArray T)) ∧ w.heap.size + 3 ≤ (((w.alloc (.cells X.toArray T)).alloc (.cells Y.toArray T)).alloc (.cells Z.toArray T)).heap.size := by
  have h1 := RowAt.new w X T
  have h2 := RowAt.new (w.alloc (.cells X.toArray T)) Y T
  have h3 := RowAt.new ((w.alloc (.cells X.toArray T)).alloc (.cells Y.toArray T)) Z T
  have hs : (w.alloc (.cells X.toArray T)).heap.size = w.heap.size + 1 := Array.size_push _
  have hs2 : ((w.alloc (.cells X.toArray T)).alloc (.cells Y.toArray T)).heap.size = w.heap.size + 1 + 1 := (Array.size_push _).trans (by rw [hs])
  rw [hs] at h2
  rw [hs2] at h3
  exact ⟨(h1.alloc _).alloc _, h2.alloc _, h3, ((alloc_b w _).alloc (by omega) _).alloc (by omega) _, Nat.le_of_eq ((Array.size_push _).trans (by rw [hs2])).symm⟩
end Go.Proofs.YtglckhljpjcmaaaGreatDoor
namespace Go.Proofs.YtglckhljpjcmaaaGreatDoor
open Go.RowKit
theorem same_str {xs : List ByteArray} {oa : Option Addr} {w : World} (h : StrO w oa xs) {i : Nat} (hi : i < xs.length) : ∃ (x : ByteArray) (ad : Addr), oa = some ad ∧ w.cell? (ad.add i) = some (.string x) ∧ xs[i]? = some x := by
  have e := List.getElem?_eq_getElem hi
  obtain ⟨ad, h1, h2⟩ := h i _ e
  exact ⟨_, ad, h1, h2, e⟩
set_option maxHeartbeats 1600000 in
theorem samestr_any (oa ob : Option Addr) (L : List ByteArray) (ca cb : Nat) (w : World) (ha : StrO w oa L) (hb : StrO w ob L) (hn : L.length ≤ 1000000) :
    Calls Tryz.prog 15 #[.slice oa L.length ca, .slice ob L.length cb] w fun e w' => e = .returned (.bool true) ∧ Below w.heap.size w w' := by
  have HA := Lib.hid ha
  have HB := Lib.hid hb
  have hne : ((L.length : Int) != (L.length : Int)) = false := by simp
  clear ha hb
  go_enter Tryz.func15, Tryz.ntmps15
  go_wp2_with fail
  go_loopw [5] (fun j wr => ∃ k : Nat, k ≤ L.length ∧ j = .int .i64 k ∧ Below w.heap.size w wr) (fun j _ => L.length - (intOf j).toNat)
  case atStart => exact ⟨0, by omega, rfl, Below.refl _ _⟩
  case round =>
    obtain ⟨k, hk, rfl, hb⟩ := hrel
    by_cases hlt : k < L.length
    · obtain ⟨x, ad, rfl, hc, hx⟩ := same_str (HA.out.down hb) hlt
      obtain ⟨y, ad', rfl, hc', hy⟩ := same_str (HB.out.down hb) hlt
      rw [hx] at hy
      cases hy
      have hxx : (x.toList != x.toList) = false := by simp
      clear hx
      go_wp2_with fail
      go_quiet (fail)
      go_wp2_with fail
      go_roundw
      case rel => exact ⟨k + 1, by omega, by go_num, below_drewN hb _⟩
      case measure => simp [intOf]; omega
    · go_wp2_with fail
      go_ret
      exact ⟨rfl, hb⟩
set_option maxHeartbeats 400000 in
theorem ksamestr_any (oa ob : Option Addr) (L : List ByteArray) (ca cb : Nat) (w : World) (ha : StrO w oa L) (hb : StrO w ob L) (hn : L.length ≤ 1000000) :
    Calls Tryz.prog 6 #[.slice oa L.length ca, .slice ob L.length cb] w fun e w' => e = .returned (.bool true) ∧ Below w.heap.size w w' := by
  have H := Lib.hid (samestr_any oa ob L ca cb w ha hb hn)
  clear ha hb
  go_enter Tryz.func6, Tryz.ntmps6
  go_wp2_with fail
  refine H.out.mono ?_
  rintro e w1 ⟨rfl, hb1⟩
  go_wp2_with fail
  go_ret
  exact ⟨rfl, hb1⟩
theorem keep3s {w w1 w2 : World} {p q : Addr} {u v : Value} (h : w1.cell? p = some u ∧ w1.cell? q = some v ∧ Below w.heap.size w w1) (hb : Below w1.heap.size w1 w2) : w2.cell? p = some u ∧ w2.cell? q = some v ∧ Below w.heap.size w w2 :=
  ⟨(hb.cell (cell_lt h.1)).trans h.1, (hb.cell (cell_lt h.2.1)).trans h.2.1, step_b h.2.2 hb⟩
theorem same_mat {ks : List (List ByteArray)} {oa : Option Addr} {w : World} (h : MatO w oa ks) {i : Nat} (hi : i < ks.length) : ∃ (row : List ByteArray) (ad : Addr) (o : Option Addr) (c : Nat), oa = some ad ∧ w.cell? (ad.add i) = some (.slice o row.length c) ∧ StrO w o row ∧ ks[i]? = some row := by
  have e := List.getElem?_eq_getElem hi
  obtain ⟨ad, o, c, h1, h2, h3⟩ := h i _ e
  exact ⟨_, ad, o, c, h1, h2, h3, e⟩
end Go.Proofs.YtglckhljpjcmaaaGreatDoor
namespace Go.Proofs.YtglckhljpjcmaaaGreatDoor
open Go.RowKit
abbrev updN : List ByteArray := [⟨#[67, 111, 110, 116, 101, 110, 116, 45, 69, 110, 99, 111, 100, 105, 110, 103]⟩, ⟨#[67, 111, 110, 116, 101, 110, 116, 45, 84, 121, 112, 101]⟩, ⟨#[67, 111, 110, 116, 101, 110, 116, 45, 82, 97, 110, 103, 101]⟩, ⟨#[86, 97, 114, 105, 97, 110, 116, 115]⟩, ⟨#[86, 97, 114, 105, 97, 110, 116, 45, 75, 101, 121]⟩, ⟨#[86, 97, 114, 121]⟩]
abbrev nAge : ByteArray := ⟨#[65, 103, 101]⟩
abbrev nCT : ByteArray := ⟨#[67, 111, 110, 116, 101, 110, 116, 45, 84, 121, 112, 101]⟩
abbrev nCE : ByteArray := ⟨#[67, 111, 110, 116, 101, 110, 116, 45, 69, 110, 99, 111, 100, 105, 110, 103]⟩
theorem updN_z : ∀ x ∈ updN, x.size ≤ 100000 := by decide
theorem updA_eq : (updN.map Value.string).toArray = #[.string ⟨#[67, 111, 110, 116, 101, 110, 116, 45, 69, 110, 99, 111, 100, 105, 110, 103]⟩, .string ⟨#[67, 111, 110, 116, 101, 110, 116, 45, 84, 121, 112, 101]⟩, .string ⟨#[67, 111, 110, 116, 101, 110, 116, 45, 82, 97, 110, 103, 101]⟩, .string ⟨#[86, 97, 114, 105, 97, 110, 116, 115]⟩, .string ⟨#[86, 97, 114, 105, 97, 110, 116, 45, 75, 101, 121]⟩, .string ⟨#[86, 97, 114, 121]⟩] := rfl
/-- The fields of the response that are taken over. -/
def newsL (xs : List Fd) : List Fd := (stripL xs).filter (noneB (updN.map bs))
def namesL (ns : List Fd) : List (List UInt8) := ns.map fun g => bs g.1
/-- merge of the program. -/
def mrgL (es ns : List Fd) : List Fd := es.filter (noneB (namesL ns)) ++ ns
def agedL (es ns : List Fd) : List Fd := if 0 < (getF (bs nAge) ns).length then es else es.filter fun x => !isF (bs nAge) x
/-- The fields of a refreshed entry, as the program has them. -/
def updL (es xs : List Fd) : List Fd := mrgL (agedL es (newsL xs)) (newsL xs)
/-- As the reference has them. -/
def rupdL (es xs : List Fd) : List Fd := (es.filter fun x => !isF (bs nAge) x).filter (noneB (namesL (newsL xs))) ++ newsL xs
theorem foldB_iff2 {a b : List UInt8} : foldB a b = true ↔ lowL a = lowL b := by
  unfold foldB
  constructor
  · intro h; simp at h; exact h.2
  · intro h
    have hl : a.length = b.length := by have := congrArg List.length h; simpa [lowL_length] using this
    simp [hl, h]
theorem foldB_symm2 {a b : List UInt8} (h : foldB a b = true) : foldB b a = true := foldB_iff2.2 (foldB_iff2.1 h).symm
theorem foldB_tr {a b c : List UInt8} (h : foldB a b = true) (h' : foldB b c = true) : foldB a c = true := foldB_iff2.2 ((foldB_iff2.1 h).trans (foldB_iff2.1 h'))
theorem oneB_iff {n : List UInt8} {l : List (List UInt8)} : oneB n l = true ↔ ∃ x ∈ l, foldB n x = true := by
  induction l with
  | nil => simp [oneB]
  | cons y t ih => simp [oneB, ih]
theorem noneB_iff {l : List (List UInt8)} {f : Fd} : noneB l f = true ↔ ∀ x ∈ l, foldB (bs f.1) x = false := by
  unfold noneB
  rw [Bool.not_eq_true', ← Bool.not_eq_true, oneB_iff]
  constructor
  · intro h x hx
    cases hf : foldB (bs f.1) x with
    | false => rfl
    | true => exact absurd ⟨x, hx, hf⟩ h
  · rintro h ⟨x, hx, hf⟩
    rw [h x hx] at hf; cases hf
theorem mem_names {ns : List Fd} {x : List UInt8} : x ∈ namesL ns ↔ ∃ g ∈ ns, bs g.1 = x := by unfold namesL; exact List.mem_map
theorem isF_mem_getF {n : List UInt8} {xs : List Fd} : 0 < (getF n xs).length ↔ ∃ g ∈ xs, isF n g = true := by
  unfold getF
  rw [List.length_map]
  constructor
  · intro h
    obtain ⟨g, hg⟩ := List.exists_mem_of_length_pos h
    exact ⟨g, (List.mem_filter.1 hg).1, (List.mem_filter.1 hg).2⟩
  · rintro ⟨g, h1, h2⟩
    exact List.length_pos_of_mem (List.mem_filter.2 ⟨h1, h2⟩)
/-- Both have the same fields. -/
theorem updL_eq (es xs : List Fd) : updL es xs = rupdL es xs := by
  unfold updL rupdL mrgL agedL
  split
  · rename_i h
    obtain ⟨g, hg, hga⟩ := isF_mem_getF.1 h
    congr 1
    rw [List.filter_filter]
    refine List.filter_congr fun f _ => ?_
    cases hf : isF (bs nAge) f with
    | false => simp
    | true =>
      have : noneB (namesL (newsL xs)) f = false := by
        cases hn : noneB (namesL (newsL xs)) f with
        | false => rfl
        | true =>
          have := noneB_iff.1 hn _ (mem_names.2 ⟨g, hg, rfl⟩)
          rw [foldB_tr hf (foldB_symm2 hga)] at this; cases this
      rw [this]; simp
  · rfl
theorem getF_append (n : List UInt8) (xs ys : List Fd) : getF n (xs ++ ys) = getF n xs ++ getF n ys := by unfold getF; rw [List.filter_append, List.map_append]
theorem getF_none {n : List UInt8} {xs : List Fd} (h : ∀ g ∈ xs, isF n g = false) : getF n xs = [] := by
  unfold getF
  rw [List.filter_eq_nil_iff.2 (fun g hg => by rw [h g hg]; simp)]; rfl
theorem getF_kept {n : List UInt8} {xs : List Fd} {p : Fd → Bool} (h : ∀ x ∈ xs, isF n x = true → p x = true) : getF n (xs.filter p) = getF n xs := by
  unfold getF
  rw [List.filter_filter]
  congr 1
  refine List.filter_congr fun x hx => ?_
  cases hi : isF n x with
  | false => simp
  | true => simp [h x hx hi]
/-- A name that no new field bears keeps its values. -/
theorem upd_keeps {n : List UInt8} {es xs : List Fd} (h : ∀ g ∈ newsL xs, isF n g = false) (ha : foldB n (bs nAge) = false) : getF n (updL es xs) = getF n es := by
  rw [updL_eq]
  unfold rupdL
  rw [getF_append, getF_none h, List.append_nil, getF_kept, getF_kept]
  · intro x _ hx
    cases hi : isF (bs nAge) x with
    | false => rfl
    | true =>
      have := foldB_tr (foldB_symm2 hx) hi
      rw [ha] at this; cases this
  · intro x _ hx
    refine noneB_iff.2 fun y hy => ?_
    obtain ⟨g, hg, rfl⟩ := mem_names.1 hy
    cases hf : foldB (bs x.1) (bs g.1) with
    | false => rfl
    | true =>
      have := foldB_tr (foldB_symm2 hf) hx
      rw [show foldB (bs g.1) n = isF n g from rfl, h g hg] at this; cases this
theorem news_sub {xs : List Fd} {g : Fd} (h : g ∈ newsL xs) : g ∈ xs ∧ noneB (updN.map bs) g = true := by
  unfold newsL stripL at h
  have h1 := List.mem_filter.1 h
  exact ⟨(List.mem_filter.1 h1.1).1, h1.2⟩
theorem news_len (xs : List Fd) : (newsL xs).length ≤ xs.length := by
  unfold newsL stripL
  exact Nat.le_trans (List.length_filter_le _ _) (List.length_filter_le _ _)
theorem news_z {xs : List Fd} {n : Nat} (h : FldZ xs n) : FldZ (newsL xs) n := fun x hx => h x (news_sub hx).1
theorem aged_len (es ns : List Fd) : (agedL es ns).length ≤ es.length := by
  unfold agedL; split
  · exact Nat.le_refl _
  · exact List.length_filter_le _ _
theorem aged_z {es ns : List Fd} {n : Nat} (h : FldZ es n) : FldZ (agedL es ns) n := by
  unfold agedL; split
  · exact h
  · exact h.filter _
theorem mrg_len (es ns : List Fd) : (mrgL es ns).length ≤ es.length + ns.length := by
  unfold mrgL
  rw [List.length_append]
  have := List.length_filter_le (noneB (namesL ns)) es
  omega
theorem upd_len (es xs : List Fd) : (updL es xs).length ≤ es.length + xs.length := by
  have h1 := mrg_len (agedL es (newsL xs)) (newsL xs)
  have h2 := aged_len es (newsL xs)
  have h3 := news_len xs
  unfold updL; omega
theorem upd_z {es xs : List Fd} {n : Nat} (h : FldZ es n) (h' : FldZ xs n) : FldZ (updL es xs) n := by
  intro x hx
  unfold updL mrgL at hx
  rcases List.mem_append.1 hx with h1 | h1
  · exact aged_z h x (List.mem_filter.1 h1).1
  · exact news_z h' x h1
/-- No field of a name of the list is new. -/
theorem news_none {n : ByteArray} (hn : n ∈ updN) (xs : List Fd) : ∀ g ∈ newsL xs, isF (bs n) g = false := fun _ hg => noneB_iff.1 (news_sub hg).2 _ (List.mem_map.2 ⟨n, hn, rfl⟩)
theorem keeps_ct (es xs : List Fd) : getF (bs nCT) (updL es xs) = getF (bs nCT) es := upd_keeps (news_none (by simp) xs) (by decide +kernel)
theorem keeps_ce (es xs : List Fd) : getF (bs nCE) (updL es xs) = getF (bs nCE) es := upd_keeps (news_none (by simp) xs) (by decide +kernel)
theorem keeps_name {n : List UInt8} {es xs : List Fd} (h : ¬ 0 < (getF n xs).length) (ha : foldB n (bs nAge) = false) : getF n (updL es xs) = getF n es := by
  refine upd_keeps (fun g hg => ?_) ha
  cases hf : isF n g with
  | false => rfl
  | true => exact absurd (isF_mem_getF.2 ⟨g, (news_sub hg).1, hf⟩) h
/-- One name more. -/
theorem rupd_step {es ns : List Fd} {k : Nat} {g : Fd} (h : ns[k]? = some g) : (es.filter (noneB (namesL (ns.take k)))).filter (fun x => !isF (bs g.1) x) = es.filter (noneB (namesL (ns.take (k + 1)))) := by
  rw [List.filter_filter]
  refine List.filter_congr fun f _ => ?_
  rw [List.take_add_one, h]
  unfold namesL noneB
  rw [List.map_append]
  show ((!isF (bs g.1) f) && !oneB (bs f.1) _) = !oneB (bs f.1) (_ ++ [bs g.1])
  rw [oneB_snoc]
  show ((!foldB (bs f.1) (bs g.1)) && _) = _
  cases foldB (bs f.1) (bs g.1) <;> cases oneB (bs f.1) ((ns.take k).map fun g => bs g.1) <;> rfl
theorem names_hit {n : List UInt8} {ns : List Fd} {j : Nat} {g : Fd} (h : ns[j]? = some g) (hf : foldB n (bs g.1) = true) : oneB n (namesL ns) = true :=
  oneB_iff.2 ⟨_, mem_names.2 ⟨g, List.mem_of_getElem? h, rfl⟩, hf⟩
theorem names_next {n : List UInt8} {ns : List Fd} {j : Nat} {g : Fd} (hm : oneB n (namesL (ns.take j)) = false) (h : ns[j]? = some g) (hf : foldB n (bs g.1) = false) : oneB n (namesL (ns.take (j + 1))) = false := by
  rw [List.take_add_one, h]
  unfold namesL at *
  rw [List.map_append]
  show oneB n (_ ++ [bs g.1]) = false
  rw [oneB_snoc, hm, hf]; rfl
theorem fldz_up {xs : List Fd} {n m : Nat} (h : FldZ xs n) (hm : n ≤ m) : FldZ xs m := fun x hx => ⟨Nat.le_trans (h x hx).1 hm, Nat.le_trans (h x hx).2 hm⟩
theorem stripL_len (xs : List Fd) : (stripL xs).length ≤ xs.length := List.length_filter_le _ _
/-- Matches (29.1). -/
def mtB (xs es : List Fd) : Bool := match ofE xs with
  | none => true
  | some a => match ofE es with
    | none => false
    | some b => a.2 == b.2
end Go.Proofs.YtglckhljpjcmaaaGreatDoor
namespace Go.Proofs.YtglckhljpjcmaaaGreatDoor
open Go.RowKit Go.Shelf

theorem bs_beq2 (a b : ByteArray) : (a.toList == b.toList) = (bs a == bs b) := by rw [Lib.toList_data, Lib.toList_data]
end Go.Proofs.YtglckhljpjcmaaaGreatDoor
namespace Go.Proofs.YtglckhljpjcmaaaGreatDoor
open Go.RowKit Go.Shelf
set_option linter.unusedSimpArgs false

set_option maxHeartbeats 6400000 in
set_option maxRecDepth 100000 in
theorem merge_any (oa : Option Addr) (es : List Fd) (ca : Nat) (ob : Option Addr) (ns : List Fd) (cb : Nat) (w : World) (hn : es.length ≤ 10000) (hm : ns.length ≤ 10000) (hz : FldZ es 100000) (hzn : FldZ ns 100000) (hc : FldO w oa es) (hd : FldO w ob ns) :
    Calls Tryz.prog 43 #[.slice oa es.length ca, .slice ob ns.length cb] w fun e w' => ∃ v, e = .returned v ∧ FBuf w' w.heap.size v (mrgL es ns) ∧ Below w.heap.size w w' := by
  have HC := Lib.hid hc
  have HD := Lib.hid hd
  have HZ := Lib.hid hz
  have HZN := Lib.hid hzn
  clear hc hd hz hzn
  go_enter Tryz.func43, Tryz.ntmps43
  go_wp2_with fail
  go_step3
  go_wp2_with fail
  go_step3
  go_wp2_with fail
  go_loopw [5, 12] (fun u j wr => ∃ (k : Nat) (ys : List Fd) (v : Value), v = u ∧ k ≤ es.length ∧ j = .int .i64 k ∧ Hid (ys = (es.take k).filter (noneB (namesL ns))) ∧ ys.length ≤ k ∧ FBuf wr w.heap.size v ys ∧ Below w.heap.size w wr) (fun _ j _ => es.length - (intOf j).toNat)
  case atStart => exact ⟨0, [], _, rfl, by omega, rfl, Lib.hid rfl, by simp, FBuf.nil_ _ _, Below.refl _ _⟩
  case round =>
    obtain ⟨k, ys, v, rfl, hk, rfl, HY, hyl, FB, hb⟩ := hrel
    by_cases hlt : k < es.length
    · obtain ⟨x, hx⟩ : ∃ x, es[k]? = some x := ⟨_, List.getElem?_eq_getElem hlt⟩
      obtain ⟨ad, rfl, c0, c1⟩ := (HC.out.down hb).at hx
      have zx := (HZ.out x (List.mem_of_getElem? hx)).1
      have HX := Lib.hid hx
      have a1 := alloc_b wr (.cells #[.string x.1, .string x.2] 47)
      have R1 := RowAt.new wr [.string x.1, .string x.2] 47
      have FB1 := FB.alloc (.cells #[.string x.1, .string x.2] 47)
      have b1 := step_b hb a1
      clear hx a1 FB hb
      go_wp2_with fail
      generalize wr.heap.size = g at *
      go_loopw [18] (fun c wi => ∃ i : Nat, i ≤ ns.length ∧ c = .int .i64 i ∧ Hid (oneB (bs x.1) (namesL (ns.take i)) = false) ∧ FBuf wi w.heap.size v ys ∧ RowAt wi g 47 [.string x.1, .string x.2] ∧ Below w.heap.size w wi) (fun c _ => ns.length - (intOf c).toNat)
      case atStart => exact ⟨0, by omega, rfl, Lib.hid rfl, FB1, R1, b1⟩
      case round =>
        clear FB1 R1 b1 c0 c1
        obtain ⟨i, hi, rfl, HM, FB, R, hb⟩ := hrel
        by_cases hil : i < ns.length
        · obtain ⟨y, hy⟩ : ∃ y, ns[i]? = some y := ⟨_, List.getElem?_eq_getElem hil⟩
          obtain ⟨an, rfl, d0, d1⟩ := (HD.out.down hb).at hy
          have zy := (HZN.out y (List.mem_of_getElem? hy)).1
          have R2 := R.alloc (.cells #[.string y.1, .string y.2] 47)
          have N2 := RowAt.new wr [.string y.1, .string y.2] 47
          have b2 := step_b hb (alloc_b wr (.cells #[.string y.1, .string y.2] 47))
          have FB2 := FB.alloc (.cells #[.string y.1, .string y.2] 47)
          have q0 := R2.cell 0 rfl
          have n0 := N2.cell 0 rfl
          cases hf : foldB (bs x.1) (bs y.1) with
          | true =>
            have HF := Lib.hid hf
            have HS : Hid ((es.take (k + 1)).filter (noneB (namesL ns)) = (es.take k).filter (noneB (namesL ns))) := Lib.hid (ftake_skip HX.out (by unfold noneB; rw [names_hit hy hf]; rfl))
            clear hy hf FB R hb N2
            go_wp2_with fail
            refine (fold_any x.1 y.1 _ (by omega) (by omega)).mono ?_
            rintro e w5 ⟨he, hb5⟩
            rw [HF.out] at he
            subst he
            have FB5 := FB2.below hb5 (Nat.le_refl _)
            have b5 := step_b b2 hb5
            clear FB2 b2 hb5 R2 q0 n0 d0 d1
            go_wp2_with fail
            go_roundw
            case rel => exact ⟨k + 1, ys, _, rfl, by omega, by go_num, Lib.hid (by rw [HS.out]; exact HY.out), by omega, FB5, b5⟩
            case measure => simp [intOf]; omega
          | false =>
            have HF := Lib.hid hf
            have HM2 := Lib.hid (names_next HM.out hy hf)
            clear hy hf FB R hb N2
            go_wp2_with fail
            refine (fold_any x.1 y.1 _ (by omega) (by omega)).mono ?_
            rintro e w5 ⟨he, hb5⟩
            rw [HF.out] at he
            subst he
            have FB5 := FB2.below hb5 (Nat.le_refl _)
            have R5 := R2.below hb5
            have b5 := step_b b2 hb5
            clear FB2 b2 hb5 R2 q0 n0 d0 d1
            go_wp2_with fail
            go_roundw
            case rel => exact ⟨i + 1, by omega, by go_num, HM2, FB5, R5, b5⟩
            case measure => simp [intOf]; omega
        · have HN : Hid (noneB (namesL ns) x = true) := Lib.hid (by unfold noneB; have h := HM.out; rw [List.take_of_length_le (by omega)] at h; rw [h]; rfl)
          have HS := Lib.hid (ftake_keep HX.out HN.out)
          have e0 := R.cell 0 rfl
          have e1 := R.cell 1 rfl
          have hl10 : ys.length + 1 ≤ 1000000 := by omega
          go_wp2_with (at_builtin; refine wpList_append_fld rfl (.tmp 28) (.tmp 30) rfl wr _ w.heap.size _ ys rfl (FB.alloc _) ((Below.refl _ _).alloc hb.size _) (le_alloc hb.size _) ⟨wr.heap.size, 0, none⟩ x rfl (new_f0 wr x _) (new_f1 wr x _) hl10 ?_)
          intro v5 w5 FB5 hb5 z5
          have b5 := hb.trans hb5
          clear hb5 FB R hb e0 e1
          go_wp2_with fail
          go_roundw
          case rel => exact ⟨k + 1, ys ++ [x], _, rfl, by omega, by go_num, Lib.hid (by rw [HS.out, HY.out]), by simp; omega, FB5, b5⟩
          case measure => simp [intOf]; omega
    · have HF : Hid (mrgL es ns = ys ++ ns) := Lib.hid (by unfold mrgL; rw [HY.out, List.take_of_length_le (by omega)])
      go_wp2_with (at_builtin; refine wpList_append_flds rfl (.tmp 33) (.tmp 34) rfl w _ w.heap.size _ ys rfl FB hb hb.size ob ns cb rfl (HD.out.down hb) (by omega) ?_)
      intro v5 w5 FB5 hb5 z5
      go_wp2_with fail
      try rw [Exit.noGoto_ret]
      go_ret
      exact ⟨_, rfl, by rw [HF.out]; exact FB5, hb5⟩
end Go.Proofs.YtglckhljpjcmaaaGreatDoor
namespace Go.Proofs.YtglckhljpjcmaaaGreatDoor
open Go.RowKit Go.Shelf

/-- The three blocks from b0 on lie as they lay. -/
def Box3 (b0 : Nat) (A B : World) : Prop := ∀ b, b0 ≤ b → b ≤ b0 + 2 → B.heap[b]? = A.heap[b]?
theorem Box3.trans {b0 : Nat} {A B C : World} (h : Box3 b0 A B) (k : Box3 b0 B C) : Box3 b0 A C := fun b h1 h2 => (k b h1 h2).trans (h b h1 h2)
/-- What a round does that goes on. -/
def goesOn (B b0 : Nat) (J : World → Prop) (W : World) : Exit → Act → World → Prop
  | .normal, _, W' => KeepsFrom B W W' ∧ Box3 b0 W W' ∧ J W'
  | _, _, _ => False
/-- What is asked of the iterator: it hands out these strings, one by one, and turns its own cell alone. -/
def OwnGives (F : Fence) (n : Nat) (P : Program) (g : Nat) (lb : Array Value) (xs : List ByteArray) (b0 : Nat) (w : World) : Prop :=
  ∀ (l : Nat) (J : List ByteArray → World → Prop) (W : World), Box3 b0 w W → (∀ s A v, J s A → J s (A.setCell ⟨b0, 0, none⟩ v)) →
    (∀ pre x suf W1, xs = pre ++ x :: suf → J pre W1 → YieldAt F (n - 1) P l #[.string x] W1 fun e W' => e = .returned (.bool true) ∧ J (pre ++ [x]) W' ∧ Box3 b0 W1 W') →
    J [] W → CallsIn F n P g (#[.func (.yield l) #[] #[]] ++ lb) W fun e W' => (∃ v, e = .returned v) ∧ J xs W'
section
variable {F : Fence} {n : Nat} {P : Program}
/-- The loop's two blocks at b: the deferred calls' and the record. -/
def LoopIs (b : Nat) (r : Loop) (W : World) : Prop := W.heap[b + 1]? = some (.loop r) ∧ W.heap[b]? = some (.deferred (some []))
theorem LoopIs.set {b b0 : Nat} {r : Loop} {W : World} (h : LoopIs b r W) (hb : b0 < b) (v : Value) : LoopIs b r (W.setCell ⟨b0, 0, none⟩ v) :=
  ⟨(Below.heap_setCell W ⟨b0, 0, none⟩ v (b + 1) (by show b + 1 ≠ b0; omega)).trans h.1, (Below.heap_setCell W ⟨b0, 0, none⟩ v b (by show b ≠ b0; omega)).trans h.2⟩
theorem LoopIs.put {b : Nat} {r : Loop} {W : World} (h : LoopIs b r W) (r' : Loop) : LoopIs b r' (W.putObj (b + 1) (.loop r')) :=
  ⟨World.putObj_heap_same (Array.getElem?_eq_some_iff.1 h.1).1, (World.putObj_heap_other (by omega)).trans h.2⟩
theorem LoopIs.keep {b : Nat} {r : Loop} {W W' : World} (h : LoopIs b r W) (k : KeepsFrom b W W') : LoopIs b r W' := ⟨k.same _ _ (by omega) h.1 rfl, k.same _ _ (Nat.le_refl _) h.2 rfl⟩
theorem box3_put {b0 b : Nat} (hb : b0 + 2 < b) (W : World) (o : Obj) : Box3 b0 W (W.putObj (b + 1) o) := fun k _ _ => World.putObj_heap_other (by omega)
theorem LoopIs.start (w : World) (r : Loop) : LoopIs w.heap.size r ((w.alloc (.deferred (some []))).alloc (.loop r)) := by
  have h1 := World.alloc_heap_new (w.alloc (.deferred (some []))) (.loop r)
  rw [World.size_alloc] at h1
  exact ⟨h1, (Below.heap_alloc _ _ _ (by simp)).trans (World.alloc_heap_new w _)⟩
theorem wpIn_range_own {g : Operand} {p : Tmp} {assign body : Code} {Q : Exit → Act → World → Prop} {a : Act} {w : World}
    (hro : F.round = none) (h1 : 1 ≤ n) {gf : Nat} {lb : Array Value} (hg : a.eval g = .func (.func gf) #[] lb) (hFg : F.fn gf) (eg : ∀ args w, (callFunc gf args).run P w = .ok (.enter gf args) w)
    {xs : List ByteArray} {b0 : Nat} (hb0 : b0 + 2 < w.heap.size) (hseq : OwnGives F (n - 1) P gf lb xs b0 w)
    (I : List ByteArray → World → Prop) (hI : OwnFrom w.heap.size I) (hIs : ∀ s W v, I s W → I s (W.setCell ⟨b0, 0, none⟩ v)) (h0 : I [] w) (a1 : ByteArray → Act)
    (hassign : ∀ (l : Nat) (x : ByteArray) (W : World) (K : Act → World → Prop), K (a1 x) W →
      assign.wpIn (F.inRound l) (n - 1 - 1) P (Exit.then K (fun _ _ _ => False)) { tmps := a.tmps.setIfInBounds p (.string x), defers := [] } W)
    (hbody : ∀ (l : Nat) (pre : List ByteArray) (x : ByteArray) (suf : List ByteArray) (W : World), xs = pre ++ x :: suf → I pre W → body.wpIn (F.inRound l) (n - 1 - 1) P (goesOn w.heap.size b0 (I (pre ++ [x])) W) (a1 x) W)
    (hdone : ∀ W : World, I xs W → W.heap[w.heap.size]? = some (.deferred (some [])) → Q .normal { a with defers := { target := .collected w.heap.size, args := #[] } :: a.defers } W) :
    (Code.rangeFunc g #[p] assign body).wpIn F n P Q a w := by
  refine wpIn_rangeFunc fun fn hfn => ?_
  rw [hro]
  let rec_ : LoopState → Option Code → Loop := fun st pe => { state := st, pending := pe, fn, tmps := a.tmps, params := #[p], assign, body, defers := w.heap.size }
  have hst := LoopIs.start w (rec_ .ready none)
  have hi1 : I [] ((w.alloc (.deferred (some []))).alloc (.loop (rec_ .ready none))) := hI.alloc _ (hI.alloc _ h0)
  refine ⟨w.heap.size + 1, [{ target := .collected w.heap.size, args := #[] }], (w.alloc (.deferred (some []))).alloc (.loop (rec_ .ready none)), { target := .fn (.func gf) lb, args := #[.func (.yield (w.heap.size + 1)) #[] #[]] }, (w.alloc (.deferred (some []))).alloc (.loop (rec_ .ready none)), gf,
    #[.func (.yield (w.heap.size + 1)) #[] #[]] ++ lb, (w.alloc (.deferred (some []))).alloc (.loop (rec_ .ready none)), run_enterLoop_outer _ _ _ _ _, ?_, ?_, ?_, fun _ => h1, ?_⟩
  · simp only [resolve, hg]
    simp [go_sem]
  · intro f' hf'
    simp [Target.leads] at hf'
    subst hf'; exact hFg
  · simp [invoke, go_sem, eg]
  · have hb3 : Box3 b0 w ((w.alloc (.deferred (some []))).alloc (.loop (rec_ .ready none))) := fun k _ hk => (Below.heap_alloc _ _ _ (by simp; omega)).trans (Below.heap_alloc _ _ _ (by omega))
    let J : List ByteArray → World → Prop := fun s W => I s W ∧ LoopIs w.heap.size (rec_ .ready none) W
    have hJs : ∀ (s : List ByteArray) (A : World) (v : Value), J s A → J s (A.setCell ⟨b0, 0, none⟩ v) := fun s A v h => ⟨hIs s A v h.1, h.2.set (by omega) v⟩
    refine (hseq (w.heap.size + 1) J _ hb3 hJs ?_ ⟨hi1, hst⟩).mono ?_
    · rintro pre x suf W hx ⟨hi, hl⟩
      refine ⟨fn, _, assign, body, run_yield (P := P) hl.1 rfl, roundIn_of_wpIn hfn ?_⟩
      have ez : ((#[p].zip #[Value.string x]).foldl (fun tmps (t, a) => tmps.setIfInBounds t a) a.tmps) = a.tmps.setIfInBounds p (.string x) := by simp
      show assign.wpIn _ _ _ _ { tmps := ((#[p].zip #[Value.string x]).foldl (fun tmps (t, a) => tmps.setIfInBounds t a) a.tmps), defers := [] } W
      rw [ez]
      refine hassign _ x W _ ?_
      refine ⟨_, run_beginRound hl.1 rfl, ?_⟩
      have hl2 := hl.put (rec_ .busy none)
      have hi2 := hI.putObj (.loop (rec_ .busy none)) hi (Nat.le_succ _) hl.1 rfl
      have hx2 := box3_put hb0 W (.loop (rec_ .busy none))
      refine wpIn_mono (hbody _ pre x suf _ hx hi2) ?_
      rintro e a3 W3 hp
      cases e with
      | normal =>
        obtain ⟨k1, k2, k3⟩ := hp
        have hl3 := hl2.keep k1
        refine ⟨_, _, run_endRound (P := P) none hl3.1, ?_⟩
        have hi4 := hI.putObj (.loop (rec_ .ready none)) k3 (Nat.le_succ _) hl3.1 rfl
        have hl4 := hl3.put (rec_ .ready none)
        have hx4 := (hx2.trans k2).trans (box3_put hb0 W3 (.loop (rec_ .ready none)))
        exact ⟨rfl, ⟨hi4, hl4⟩, hx4⟩
      | ret => exact hp.elim
      | exit _ => exact hp.elim
      | goto _ => exact hp.elim
      | panic _ => exact hp.elim
      | outgrown => exact hp.elim
    · rintro e W2 ⟨⟨v, rfl⟩, hi, hl⟩
      exact ⟨none, _, run_endLoop (P := P) hl.1 (by simp [rec_]), hdone _ (hI.putObj _ hi (Nat.le_succ _) hl.1 rfl) ((World.putObj_heap_other (by omega)).trans hl.2)⟩
end
end Go.Proofs.YtglckhljpjcmaaaGreatDoor
namespace Go.Proofs.YtglckhljpjcmaaaGreatDoor
open Go.RowKit Go.Shelf
attribute [local go_sem] Oper.semAt_some

/-- The pieces between blanks. -/
def spC : List UInt8 → List UInt8 → List (List UInt8)
  | acc, [] => [acc]
  | acc, c :: t => if c = 32 then acc :: spC [] t else spC (acc ++ [c]) t
theorem spC_cases (l : List UInt8) : (Lib.indexByte l 32 = -1 ∧ ∀ acc, spC acc l = [acc ++ l]) ∨ ∃ i : Nat, Lib.indexByte l 32 = i ∧ i < l.length ∧ ∀ acc, spC acc l = (acc ++ l.take i) :: spC [] (l.drop (i + 1)) := by
  induction l with
  | nil => exact .inl ⟨rfl, fun acc => by simp [spC]⟩
  | cons c t ih =>
    by_cases hc : c = 32
    · subst hc
      exact .inr ⟨0, by simp [Lib.indexByte], by simp, fun acc => by simp [spC]⟩
    · have hcb : (c == (32 : UInt8)) = false := by simpa using hc
      rcases ih with ⟨h1, h2⟩ | ⟨i, h1, h2, h3⟩
      · left
        refine ⟨by rw [Lib.indexByte, hcb, h1]; rfl, fun acc => ?_⟩
        rw [spC, if_neg hc, h2]; simp
      · right
        refine ⟨i + 1, ?_, by simp; omega, fun acc => ?_⟩
        · rw [Lib.indexByte, hcb, h1]
          have : (((i : Nat) : Int) == -1) = false := by rw [beq_eq_false_iff_ne]; omega
          rw [this]; simp
        · rw [spC, if_neg hc, h3]; simp
def boxLen (b0 : Nat) (W : World) : Nat := match W.cell? ⟨b0, 0, none⟩ with | some (.string t) => t.size | _ => 0
theorem boxLen_row {b0 : Nat} {W : World} {T : TypeId} {t : ByteArray} (h : RowAt W b0 T [.string t]) : boxLen b0 W = t.size := by unfold boxLen; rw [h.cell 0 rfl]
theorem RowAt.box {b0 b : Nat} {A B : World} {T : TypeId} {cs : List Value} (h : RowAt A b T cs) (k : Box3 b0 A B) (h1 : b0 ≤ b) (h2 : b ≤ b0 + 2) : RowAt B b T cs := (k b h1 h2).trans h
theorem splitseq_gives (s : ByteArray) (b0 b1 b2 : Nat) (hb1 : b1 = b0 + 1) (hb2 : b2 = b0 + 2) (w : World) (n : Nat) (hn : 1 ≤ n) (hs : s.size ≤ 100000)
    (R0 : RowAt w b0 9 [.string s]) (R1 : RowAt w b1 9 [.string ⟨#[32]⟩]) (R2 : RowAt w b2 3 [.int .i64 0]) :
    OwnGives Fence.wide n Tryz.prog 93 #[.pointer (some ⟨b1, 0, none⟩), .pointer (some ⟨b0, 0, none⟩), .pointer (some ⟨b2, 0, none⟩)] ((spC [] (bs s)).map mkB) b0 w := by
  intro l J W hbx hJs hY h0
  have r0 := R0.box hbx (by omega) (by omega)
  have r1 := R1.box hbx (by omega) (by omega)
  have r2 := R2.box hbx (by omega) (by omega)
  have HY := Lib.hid hY
  have HJ := Lib.hid hJs
  obtain ⟨xs, hxs⟩ : ∃ xs, xs = (spC [] (bs s)).map mkB := ⟨_, rfl⟩
  rw [← hxs] at HY ⊢
  have HXS := Lib.hid hxs
  have c1 := r1.cell 0 rfl
  have e01 : b0 ≠ b1 := by omega
  have e02 : b0 ≠ b2 := by omega
  have HB1 := Lib.hid hb1
  have HB2 := Lib.hid hb2
  clear hY hJs R0 R1 R2 hbx hxs hb1 hb2
  refine callsIn_of_wp Tryz.func93 rfl trivial ?_ rfl
  simp only [Tryz.ntmps93, List.size_toArray, List.length_cons, List.length_nil, Nat.reduceAdd, Nat.reduceSub, Array.replicate_succ, Array.replicate_zero, List.push_toArray, List.append_toArray, List.nil_append, List.cons_append]
  gi_wp2
  gi_loopw [7] (fun _ wr => ∃ (pre : List ByteArray) (t : ByteArray), Hid (xs = pre ++ (spC [] (bs t)).map mkB) ∧ t.size ≤ 100000 ∧ RowAt wr b0 9 [.string t] ∧ RowAt wr b1 9 [.string ⟨#[32]⟩] ∧ RowAt wr b2 3 [.int .i64 0] ∧ J pre wr) (fun _ wr => boxLen b0 wr)
  case atStart => exact ⟨[], s, Lib.hid (by rw [HXS.out]; rfl), hs, r0, r1, r2, h0⟩
  case round =>
    obtain ⟨pre, t, HX, ht, q0, q1, q2, hJ⟩ := hrel
    have d0 := q0.cell 0 rfl
    have d1 := q1.cell 0 rfl
    have d2 := q2.cell 0 rfl
    gi_wp2
    refine ⟨trivial, ?_⟩
    refine (callsIn_wide.2 (Tryz.strings_Index_one t 32 _)).mono ?_
    rintro e w' ⟨rfl, hw⟩
    cases hw
    rcases spC_cases (bs t) with ⟨h1, h2⟩ | ⟨i, h1, h2, h3⟩
    · rw [show t.data.toList = bs t from rfl, h1]
      have HH := Lib.hid h2
      clear h2 h1
      obtain ⟨fn, tmps, assign, body, hy, hR⟩ := HY.out pre t [] _ (by rw [HX.out, HH.out]; simp [mkB, bs]) hJ
      have HR := Lib.hid hR
      clear hR
      gi_wp2
      refine HR.out.mono ?_
      rintro e W3 ⟨rfl, hJ3, hk3⟩
      gi_wp2
      go_end0
      refine ⟨⟨_, rfl⟩, ?_⟩
      have hx : xs = pre ++ [t] := by rw [HX.out, HH.out]; simp [mkB, bs]
      rw [hx]; exact hJ3
    · rw [show t.data.toList = bs t from rfl, h1]
      have H3 := Lib.hid h3
      clear h3 h1
      have hil : i < t.size := h2
      have hm : mkB ((bs t).take i) = t.extract 0 i := by rw [mk_span]; simp [span]
      obtain ⟨fn, tmps, assign, body, hy, hR⟩ := HY.out pre (t.extract 0 i) ((spC [] ((bs t).drop (i + 1))).map mkB) _ (by rw [HX.out, H3.out, ← hm]; simp) hJ
      have HR := Lib.hid hR
      clear hR hm
      gi_wp2
      refine HR.out.mono ?_
      rintro e W3 ⟨rfl, hJ3, hk3⟩
      have p0 := q0.box hk3 (by omega) (by omega)
      have p1 := q1.box hk3 (by have := HB1.out; omega) (by have := HB1.out; omega)
      have p2 := q2.box hk3 (by have := HB2.out; omega) (by have := HB2.out; omega)
      have g0 := p0.cell 0 rfl
      have g1 := p1.cell 0 rfl
      have g2 := p2.cell 0 rfl
      have f0 := p0.free 0
      gi_wp2
      case roundEnd =>
        have m0 : RowAt (W3.setCell ⟨b0, 0, none⟩ (.string (t.extract (i + 1) t.size))) b0 9 [.string (t.extract (i + 1) t.size)] := p0.set 0 _
        refine ⟨⟨pre ++ [t.extract 0 i], t.extract (i + 1) t.size, Lib.hid ?_, ?_, m0, p1.setOther (fun e => e01 e.symm) 0 _, p2.setOther (fun e => e02 e.symm) 0 _, HJ.out _ _ _ hJ3⟩, ?_⟩
        · rw [HX.out, H3.out, show bs (t.extract (i + 1) t.size) = (bs t).drop (i + 1) from by rw [span_bs, span, List.take_of_length_le (by rw [List.length_drop, bs_length]; omega)]]
          simp [show mkB (List.take i (bs t)) = t.extract 0 i from by rw [mk_span]; simp [span]]
        · simp; omega
        · rw [boxLen_row m0, boxLen_row q0]; simp; omega
end Go.Proofs.YtglckhljpjcmaaaGreatDoor
namespace Go.Proofs.YtglckhljpjcmaaaGreatDoor
open Go.RowKit Go.Shelf
attribute [local go_sem] Oper.semAt_some

def seqF (b : Nat) : Value := .func (.func 93) #[] #[.pointer (some ⟨b + 1, 0, none⟩), .pointer (some ⟨b, 0, none⟩), .pointer (some ⟨b + 2, 0, none⟩)]
theorem splitseq_calls (s : ByteArray) (w : World) : Calls Tryz.prog 62 #[.string s, .string ⟨#[32]⟩] w fun e w' =>
    e = .returned (seqF w.heap.size) ∧ Below w.heap.size w w' ∧ w'.heap.size = w.heap.size + 3 ∧ RowAt w' w.heap.size 9 [.string s] ∧ RowAt w' (w.heap.size + 1) 9 [.string ⟨#[32]⟩] ∧ RowAt w' (w.heap.size + 2) 3 [.int .i64 0] := by
  go_enter Tryz.func62, Tryz.ntmps62
  go_wp2
  go_ret
  refine ⟨rfl, (((Below.refl _ _).alloc (Nat.le_refl _) _).alloc (by simp) _).alloc (by simp; omega) _, by simp, ((RowAt.new w _ _).alloc _).alloc _, ?_, ?_⟩
  · have h := (RowAt.new (w.alloc (.cells #[.string s] 9)) [.string ⟨#[32]⟩] 9).alloc (.cells #[.int .i64 0] 3)
    rw [World.size_alloc] at h; exact h
  · have h := RowAt.new ((w.alloc (.cells #[.string s] 9)).alloc (.cells #[.string ⟨#[32]⟩] 9)) [.int .i64 0] 3
    rw [World.size_alloc, World.size_alloc] at h; exact h
end Go.Proofs.YtglckhljpjcmaaaGreatDoor
namespace Go.Proofs.YtglckhljpjcmaaaGreatDoor
open Go.RowKit Go.Shelf
attribute [local go_sem] Oper.semAt_some

/-- Block b holds a map[string]bool, of at most n entries, at which a look-up gives f. -/
def MapB (W : World) (b n : Nat) (f : List UInt8 → Bool) : Prop :=
  ∃ D : DataW Unit, W.ownsMap Tryz.prog 9 (plainElem (H := Unit) Tryz.prog 4) b n D ∧ ∀ s, D.atKey (.string s) (.lit (.bool false)) = .lit (.bool (f s))
theorem mapB_made (w : World) : MapB (w.alloc (.map #[] 0)) w.heap.size 0 (fun _ => false) :=
  ⟨.map [], World.ownsMap_made _ _ _ _, fun _ => rfl⟩
theorem MapB.kept {W W' : World} {b n : Nat} {f : List UInt8 → Bool} {row : Option Nat} (h : MapB W b n f) (hg : W.grownBy W' row) (hne : some b ≠ row) : MapB W' b n f := by
  obtain ⟨D, h1, h2⟩ := h; exact ⟨D, h1.kept hg hne, h2⟩
theorem MapB.alloc {W : World} {b n : Nat} {f : List UInt8 → Bool} (h : MapB W b n f) (o : Obj) : MapB (W.alloc o) b n f := by
  obtain ⟨D, h1, h2⟩ := h; exact ⟨D, h1.alloc o, h2⟩
theorem MapB.mono {W : World} {b n m : Nat} {f : List UInt8 → Bool} (h : MapB W b n f) (hm : n ≤ m) : MapB W b m f := by
  obtain ⟨D, h1, h2⟩ := h; exact ⟨D, h1.mono hm, h2⟩
theorem MapB.lt {W : World} {b n : Nat} {f : List UInt8 → Bool} (h : MapB W b n f) : b < W.heap.size := by
  obtain ⟨D, h1, _⟩ := h; exact h1.lt
theorem MapB.row {W W' : World} {b n : Nat} {f : List UInt8 → Bool} (h : MapB W b n f) (hb : W'.heap[b]? = W.heap[b]?) : MapB W' b n f := by
  obtain ⟨D, ⟨es, ck, g1, g2⟩, h2⟩ := h; exact ⟨D, ⟨es, ck, hb.trans g1, g2⟩, h2⟩
theorem MapB.setCell {W : World} {b n : Nat} {f : List UInt8 → Bool} (h : MapB W b n f) {a : Addr} (ha : b ≠ a.block) (u : Value) : MapB (W.setCell a u) b n f := by
  obtain ⟨D, h1, h2⟩ := h; exact ⟨D, h1.setCell ha u, h2⟩
theorem lit_key (s : List UInt8) : WideAt.IsKeyLit (.string s) := by constructor
theorem MapB.put {W : World} {b n : Nat} {f : List UInt8 → Bool} (h : MapB W b n f) (hn : n < maxLen) (s : ByteArray) (hs : s.size ≤ maxLen) :
    ∃ W', (Instr.mapUpdate 78 (.map (some b)) (.string s) (.bool true)).run Tryz.prog W = .ok () W' ∧ MapB W' b (n + 1) (fun x => x == bs s || f x) ∧ W.grownBy W' (some b) := by
  obtain ⟨D, h1, h2⟩ := h
  obtain ⟨W', r1, r2, r3⟩ := h1.update (Maps.string_keyed Tryz.underlying9) Tryz.underlying78 hn (WideMaps.keyOf_string_mk Tryz.underlying9 hs) (plainElem_bool Tryz.underlying4 true)
  refine ⟨W', r1, ⟨_, r2, fun x => ?_⟩, r3⟩
  by_cases hx : x = bs s
  · subst hx
    simp only [beq_self_eq_true, Bool.true_or]
    exact Maps.atKey_put_same h1.isMap (lit_key _) _ _
  · have hne : (Lit.string x) ≠ .string s.data.toList := fun e => hx (by injection e)
    show _ = DataW.lit (.bool (x == bs s || f x))
    rw [show (x == bs s) = false from by simpa using hx, Bool.false_or]
    exact (Maps.atKey_put_other hne _ _).trans (h2 x)
theorem MapB.del {W : World} {b n : Nat} {f : List UInt8 → Bool} (h : MapB W b n f) (s : ByteArray) (hs : s.size ≤ maxLen) (ty : TypeId) :
    ∃ W', (Builtin.delete_ #[78, 9] ty #[.map (some b), .string s]).run Tryz.prog W = .ok (.tuple #[]) W' ∧ MapB W' b n (fun x => !(x == bs s) && f x) ∧ W.grownBy W' (some b) := by
  obtain ⟨D, h1, h2⟩ := h
  obtain ⟨W', r1, r2, r3⟩ := h1.drop (Maps.string_keyed Tryz.underlying9) Tryz.underlying78 (WideMaps.keyOf_string_mk Tryz.underlying9 hs) ty
  refine ⟨W', r1, ⟨_, r2, fun x => ?_⟩, r3.grown⟩
  by_cases hx : x = bs s
  · subst hx
    simp only [beq_self_eq_true, Bool.not_true, Bool.false_and]
    exact Maps.atKey_del_same _
  · have hne : (Lit.string x) ≠ .string s.data.toList := fun e => hx (by injection e)
    show _ = DataW.lit (.bool (!(x == bs s) && f x))
    rw [show (x == bs s) = false from by simpa using hx, Bool.not_false, Bool.true_and]
    exact (Maps.atKey_del_other hne _).trans (h2 x)
theorem plainElem_bool_inv {v : Value} {x : Bool} {ps : List MemPlace} (h : plainElem (H := Unit) Tryz.prog 4 v = some (.lit (.bool x), ps)) : v = .bool x := by
  unfold plainElem at h
  have hu := Tryz.underlying4
  generalize Tryz.prog.underlying 4 = u at h hu
  subst hu
  cases v <;> simp_all
theorem zeroB (w : World) : (zeroValue 4).run Tryz.prog w = .ok (.bool false) w := by kernel_rfl
theorem MapB.look {W : World} {b n : Nat} {f : List UInt8 → Bool} (h : MapB W b n f) (s : ByteArray) (hs : s.size ≤ maxLen) :
    (Instr.lookup 78 (.map (some b)) (.string s) false).run Tryz.prog W = .ok (.bool (f (bs s))) W := by
  obtain ⟨D, h1, h2⟩ := h
  obtain ⟨v, ps, r1, r2⟩ := h1.lookup (Maps.string_keyed Tryz.underlying9) Tryz.underlying78 (z := .bool false) (zeroB _) (plainElem_bool Tryz.underlying4 false) (WideMaps.keyOf_string_mk Tryz.underlying9 hs)
  rw [show s.data.toList = bs s from rfl, h2] at r2
  rw [plainElem_bool_inv r2] at r1
  exact r1
end Go.Proofs.YtglckhljpjcmaaaGreatDoor
namespace Go.Proofs.YtglckhljpjcmaaaGreatDoor
open Go.RowKit Go.Shelf
attribute [local go_sem] Oper.semAt_some

def addF (l : List (List UInt8)) (f : List UInt8 → Bool) : List UInt8 → Bool := l.foldl (fun f y x => x == y || f x) f
def delF (l : List (List UInt8)) (f : List UInt8 → Bool) : List UInt8 → Bool := l.foldl (fun f y x => !(x == y) && f x) f
theorem addF_snoc (l : List (List UInt8)) (y : List UInt8) (f : List UInt8 → Bool) : addF (l ++ [y]) f = fun x => x == y || addF l f x := by simp [addF]
theorem delF_snoc (l : List (List UInt8)) (y : List UInt8) (f : List UInt8 → Bool) : delF (l ++ [y]) f = fun x => !(x == y) && delF l f x := by simp [delF]
def noF : List UInt8 → Bool := fun _ => false
def tenS : ByteArray := ⟨#[99, 111, 110, 110, 101, 99, 116, 105, 111, 110, 32, 107, 101, 101, 112, 45, 97, 108, 105, 118, 101, 32, 112, 114, 111, 120, 121, 45, 99, 111, 110, 110, 101, 99, 116, 105, 111, 110, 32, 112, 114, 111, 120, 121, 45, 97, 117, 116, 104, 101, 110, 116, 105, 99, 97, 116, 101, 32, 112, 114, 111, 120, 121, 45, 97, 117, 116, 104, 111, 114, 105, 122, 97, 116, 105, 111, 110, 32, 116, 101, 32, 116, 114, 97, 105, 108, 101, 114, 32, 116, 114, 97, 110, 115, 102, 101, 114, 45, 101, 110, 99, 111, 100, 105, 110, 103, 32, 99, 111, 110, 116, 101, 110, 116, 45, 108, 101, 110, 103, 116, 104, 32, 117, 112, 103, 114, 97, 100, 101]⟩
def sixS : ByteArray := ⟨#[104, 111, 115, 116, 32, 99, 97, 99, 104, 101, 45, 99, 111, 110, 116, 114, 111, 108, 32, 118, 97, 114, 121, 32, 118, 97, 114, 105, 97, 110, 116, 115, 32, 118, 97, 114, 105, 97, 110, 116, 45, 107, 101, 121, 32, 118, 105, 97]⟩
/-- What the map holds true, Connection's members being conn; what is passed on. -/
def dropF (conn : List (List UInt8)) : List UInt8 → Bool := addF (((spC [] (bs tenS)).map mkB).map bs) (delF (((spC [] (bs sixS)).map mkB).map bs) (addF (conn.map lowL) noF))
def hopB (conn : List (List UInt8)) (x : Fd) : Bool := !(dropF conn (lowL (bs x.1)))
theorem map_low (l : List (List UInt8)) : (l.map mkB).map (fun m => lowL (bs m)) = l.map lowL := by rw [List.map_map]; rfl
theorem grow_below {A B : World} (b : Nat) (h : Below A.heap.size A B) : A.grownBy B (some b) := ⟨h.os, h.tape, h.output, h.size, fun k hk _ => h.block k hk⟩
theorem grow_trans {A B C : World} {r : Option Nat} (h : A.grownBy B r) (k : B.grownBy C r) : A.grownBy C r :=
  ⟨k.os.trans h.os, k.tape.trans h.tape, k.output.trans h.output, Nat.le_trans h.size k.size, fun i hi hr => (k.block i (Nat.lt_of_lt_of_le hi h.size) hr).trans (h.block i hi hr)⟩
theorem StrO.grown {A B : World} {oa : Option Addr} {xs : List ByteArray} {b n : Nat} {f : List UInt8 → Bool} (h : StrO A oa xs) (hm : MapB A b n f) (g : A.grownBy B (some b)) : StrO B oa xs := fun i x hx => by
  obtain ⟨ad, h1, h2⟩ := h i x hx
  obtain ⟨D, ⟨es, ck, hb, _⟩, _⟩ := hm
  exact ⟨ad, h1, cell_kept h2 g (fun r e => by cases e; exact ⟨_, hb, rfl⟩)⟩
theorem RowAt.grown {A B : World} {r b : Nat} {T : TypeId} {cs : List Value} (h : RowAt A r T cs) (g : A.grownBy B (some b)) (hne : r ≠ b) (hlt : r < A.heap.size) : RowAt B r T cs := (g.block r hlt (by simpa using hne)).trans h
/-- The map's box and the map, beside what lay ahead. -/
def MapI (w : World) (z n : Nat) (f : List UInt8 → Bool) (W : World) : Prop := z ≤ W.heap.size ∧ RowAt W (w.heap.size + 1) 78 [.map (some w.heap.size)] ∧ MapB W w.heap.size n f ∧ Below w.heap.size w W
theorem MapI.big {w W : World} {z n : Nat} {f : List UInt8 → Bool} (h : MapI w z n f W) : w.heap.size + 1 < W.heap.size := (Array.getElem?_eq_some_iff.1 h.2.1).1
theorem mapI_own (w : World) {z B : Nat} (hB : w.heap.size + 2 ≤ B) (nf : List ByteArray → Nat) (ff : List ByteArray → List UInt8 → Bool) : OwnFrom B (fun pre W => MapI w z (nf pre) (ff pre) W) := fun s W W' row h hg hr =>
  ⟨Nat.le_trans h.1 hg.size, (hg.block _ h.big (fun e => by have := (hr _ e.symm).1; omega)).trans h.2.1, h.2.2.1.kept hg (fun e => by have := (hr _ e.symm).1; omega), h.2.2.2.grown hg h.2.2.2.size (fun k e => by have := (hr _ e).1; omega)⟩
theorem MapI.setCell {w W : World} {z n : Nat} {f : List UInt8 → Bool} (h : MapI w z n f W) {b : Nat} (hb : w.heap.size + 2 ≤ b) (v : Value) : MapI w z n f (W.setCell ⟨b, 0, none⟩ v) :=
  ⟨by have := h.1; simpa [World.setCell] using this, h.2.1.setOther (by omega) 0 v, h.2.2.1.setCell (by show w.heap.size ≠ b; omega) v, h.2.2.2.setCell (p := ⟨b, 0, none⟩) (by show w.heap.size ≤ b; omega) v⟩
theorem MapI.turn {w W W' : World} {z n n' : Nat} {f f' : List UInt8 → Bool} (h : MapI w z n f W) (hM : MapB W' w.heap.size n' f') (g : W.grownBy W' (some w.heap.size)) : MapI w z n' f' W' :=
  ⟨Nat.le_trans h.1 g.size, (g.block _ h.big (by simp)).trans h.2.1, hM, h.2.2.2.grown g h.2.2.2.size (fun k e => by cases e; exact Nat.le_refl _)⟩
theorem MapI.goes {w W W' : World} {z n n' b0 : Nat} {f f' : List UInt8 → Bool} (h : MapI w z n f W) (hM : MapB W' w.heap.size n' f') (g : W.grownBy W' (some w.heap.size)) (hz : z = b0 + 3) (hb : w.heap.size + 1 < b0) :
    KeepsFrom z W W' ∧ Box3 b0 W W' ∧ MapI w z n' f' W' :=
  ⟨KeepsFrom.of_grownBy g (fun j e => by cases e; omega), fun k h1 h2 => g.block k (by have := h.1; omega) (fun e => by cases e; omega), h.turn hM g⟩
/-- .. and the first loop's record of deferred calls. -/
def MapD (w : World) (z d n : Nat) (f : List UInt8 → Bool) (W : World) : Prop := MapI w z n f W ∧ W.heap[d]? = some (.deferred (some []))
theorem mapD_own (w : World) {z d B : Nat} (hB : w.heap.size + 2 ≤ B) (hd : d < B) (nf : List ByteArray → Nat) (ff : List ByteArray → List UInt8 → Bool) : OwnFrom B (fun pre W => MapD w z d (nf pre) (ff pre) W) := fun s W W' row h hg hr =>
  ⟨mapI_own w hB nf ff s W W' row h.1 hg hr, (hg.block _ (Array.getElem?_eq_some_iff.1 h.2).1 (fun e => by have := (hr _ e.symm).1; omega)).trans h.2⟩
theorem MapD.setCell {w W : World} {z d n : Nat} {f : List UInt8 → Bool} (h : MapD w z d n f W) {b : Nat} (hb : w.heap.size + 2 ≤ b) (hd : d ≠ b) (v : Value) : MapD w z d n f (W.setCell ⟨b, 0, none⟩ v) :=
  ⟨h.1.setCell hb v, (Below.heap_setCell W ⟨b, 0, none⟩ v d hd).trans h.2⟩
theorem MapD.turn {w W W' : World} {z d n n' : Nat} {f f' : List UInt8 → Bool} (h : MapD w z d n f W) (hM : MapB W' w.heap.size n' f') (g : W.grownBy W' (some w.heap.size)) (hd : w.heap.size < d) : MapD w z d n' f' W' :=
  ⟨h.1.turn hM g, (g.block _ (Array.getElem?_eq_some_iff.1 h.2).1 (fun e => by cases e; omega)).trans h.2⟩
theorem MapD.goes {w W W' : World} {z d n n' b0 : Nat} {f f' : List UInt8 → Bool} (h : MapD w z d n f W) (hM : MapB W' w.heap.size n' f') (g : W.grownBy W' (some w.heap.size)) (hz : z = b0 + 3) (hb : w.heap.size + 1 < b0) (hd : w.heap.size < d) :
    KeepsFrom z W W' ∧ Box3 b0 W W' ∧ MapD w z d n' f' W' :=
  ⟨KeepsFrom.of_grownBy g (fun j e => by cases e; omega), fun k h1 h2 => g.block k (by have := h.1.1; omega) (fun e => by cases e; omega), h.turn hM g hd⟩
theorem piece_count {l : List ByteArray} {pre suf : List ByteArray} {x : ByteArray} (hx : l = pre ++ x :: suf) (hl : l.length ≤ 1000) : pre.length < 1000 := by
  have := congrArg List.length hx; simp at this; omega
theorem piece_size {l : List ByteArray} {pre suf : List ByteArray} {x : ByteArray} (hx : l = pre ++ x :: suf) (hl : ∀ y ∈ l, y.size ≤ 1000) : x.size ≤ 1000 := hl x (by rw [hx]; simp)
set_option maxHeartbeats 3200000 in
set_option maxRecDepth 100000 in
theorem strip_any (oa : Option Addr) (xs : List Fd) (cap : Nat) (w : World) (hn : xs.length ≤ 10000) (hz : FldZ xs 100000) (hc : FldO w oa xs) :
    Calls Tryz.prog 39 #[.slice oa xs.length cap] w fun e w' => ∃ v, e = .returned v ∧ FBuf w' w.heap.size v (xs.filter (hopB (allL (bs nConn) xs))) ∧ Below w.heap.size w w' := by
  have HC := Lib.hid hc
  have HZ := Lib.hid hz
  have hmm := @run_makeMap Tryz.prog
  have b0 : Below w.heap.size w ((w.alloc (.map #[] 0)).alloc (.cells #[.map (some w.heap.size)] 78)) := ((Below.refl _ w).alloc (Nat.le_refl _) _).alloc (by simp) _
  have HA := Lib.hid (all_any oa xs cap ⟨#[67, 111, 110, 110, 101, 99, 116, 105, 111, 110]⟩ _ (by decide) hn hz (hc.down b0))
  have M0 := (mapB_made w).alloc (.cells #[.map (some w.heap.size)] 78)
  have R0 := RowAt.new (w.alloc (.map #[] 0)) [.map (some w.heap.size)] 78
  rw [World.size_alloc] at R0
  clear hc hz
  refine (callsIn_wide (n := 3)).1 ?_
  refine callsIn_of_wp_marks Tryz.func39 rfl trivial ?_
  refine wpIn_wide.2 ?_
  simp only [Tryz.ntmps39, List.size_toArray, List.length_cons, List.length_nil, Nat.reduceAdd, Nat.reduceSub, Array.replicate_succ, Array.replicate_zero, List.push_toArray, List.append_toArray, List.nil_append, List.cons_append]
  go_wp2_with fail
  refine HA.out.mono ?_
  rintro e w1 ⟨om, cm, ms, rfl, hms, SO, hb1⟩
  have hml : ms.length ≤ 64 := by rw [hms, List.length_map]; exact allL_len _ _
  have HMZ : Hid (∀ x ∈ ms, x.size ≤ 100000) := Lib.hid fun x hx => by
    rw [hms] at hx
    obtain ⟨y, hy, rfl⟩ := List.mem_map.1 hx
    exact allL_mem HZ.out hy
  have HMB := Lib.hid hms
  have HS := Lib.hid SO
  have b1 := step_b b0 hb1
  clear hms SO HA
  have M1 := M0.row (hb1.block w.heap.size (by simp; omega))
  have R1 : RowAt w1 (w.heap.size + 1) 78 [.map (some w.heap.size)] := (hb1.block (w.heap.size + 1) (by simp)).trans R0
  have z1 : w.heap.size + 2 ≤ w1.heap.size := by have := hb1.size; simp at this; omega
  obtain ⟨ls, hls⟩ : ∃ ls, ls = ms.map (fun m => lowL (bs m)) := ⟨_, rfl⟩
  have HLS := Lib.hid hls
  have hll : ls.length = ms.length := by rw [hls, List.length_map]
  have M1 : MapB w1 w.heap.size 0 (addF (ls.take 0) noF) := M1
  have HL : ∀ x : ByteArray, (⟨(lowL (bs x)).toArray⟩ : ByteArray).size = x.size := fun x => by show (lowL (bs x)).toArray.size = _; rw [List.size_toArray, lowL_length, bs_length]
  have HK : ∀ k : Nat, k < 1000000 → k < maxLen := fun k h => Nat.lt_of_lt_of_le h (by decide)
  have HLH := Lib.hid HL
  have HKH := Lib.hid HK
  clear hls M0 R0 hb1 b0 HL HK
  go_wp2_with fail
  go_loopw [15] (fun j wr => ∃ k : Nat, k ≤ ms.length ∧ j = .int .i64 k ∧ MapB wr w.heap.size k (addF (ls.take k) noF) ∧ w1.grownBy wr (some w.heap.size) ∧ Below w.heap.size w wr) (fun j _ => ms.length - (intOf j).toNat)
  case atStart => exact ⟨0, by omega, rfl, M1, grow_below _ (Below.refl _ _), b1⟩
  case round =>
    obtain ⟨k, hk, rfl, M, hg, hb⟩ := hrel
    by_cases hlt : k < ms.length
    · obtain ⟨x, hx⟩ : ∃ x, ms[k]? = some x := ⟨_, List.getElem?_eq_getElem hlt⟩
      obtain ⟨ad, rfl, hcx⟩ := (HS.out.grown M1 hg) k x hx
      have R := R1.grown hg (by omega) (by omega)
      have r0 := R.cell 0 rfl
      have hzr : w.heap.size + 1 < wr.heap.size := by have := hg.size; omega
      have zx := HMZ.out x (List.mem_of_getElem? hx)
      have Hs : Hid (addF (ls.take (k + 1)) noF = fun y => y == lowL (bs x) || addF (ls.take k) noF y) := Lib.hid (by
        rw [← addF_snoc]
        congr 1
        have hx' : ls[k]? = some (lowL (bs x)) := by rw [HLS.out, List.getElem?_map, hx]; rfl
        obtain ⟨hlt', e⟩ := List.getElem?_eq_some_iff.1 hx'
        rw [List.take_succ_eq_append_getElem hlt', e])
      clear hx
      go_wp2_with fail
      go_region_held3 (fun w' => w'.cell? ⟨w.heap.size + 1, 0, none⟩ = some (.map (some w.heap.size)) ∧ wr.grownBy w' (some w.heap.size)) (first | assumption | exact ⟨r0, grow_below _ (Below.refl _ _).drew⟩) (first | (go_at_call 61; refine (lower_any x _ (by omega)).mono ?_; rintro e w4 ⟨rfl, hb4⟩; have hb4 : Below wr.heap.size wr w4 := Below.trans (Below.refl wr.heap.size wr).drew hb4; obtain ⟨w5, hput, M5, g5⟩ := (M.row (hb4.block _ M.lt)).put (HKH.out k (by omega)) ⟨(lowL (bs x)).toArray⟩ (by rw [HLH.out x]; exact Nat.le_of_lt (HKH.out _ (by omega))); have r4 := RowAt.cell ((hb4.block _ hzr).trans R) 0 rfl; have S4 : w4.cell? ⟨w.heap.size + 1, 0, none⟩ = some (.map (some w.heap.size)) ∧ wr.grownBy w4 (some w.heap.size) := ⟨r4, grow_below _ hb4⟩; have S5 : w5.cell? ⟨w.heap.size + 1, 0, none⟩ = some (.map (some w.heap.size)) ∧ wr.grownBy w5 (some w.heap.size) := ⟨RowAt.cell ((g5.block _ (Nat.lt_of_lt_of_le hzr hb4.size) (by simp)).trans ((hb4.block _ hzr).trans R)) 0 rfl, grow_trans (grow_below _ hb4) g5⟩))
      have M6 : MapB w5 w.heap.size (k + 1) (addF (ls.take (k + 1)) noF) := by rw [Hs.out]; exact M5
      have b5 : Below w.heap.size w w5 := (step_b hb hb4).grown g5 (by have := hb.size; have := hb4.size; omega) (fun k e => by cases e; exact Nat.le_refl _)
      have G5 := S5.2
      clear M5 S4 S5 hput r4 g5 hb4
      go_wp2_with fail
      go_roundw
      case rel => exact ⟨k + 1, by omega, by go_num, M6, grow_trans hg G5, b5⟩
      case measure => simp [intOf]; omega
    · have hkm : k = ms.length := by omega
      subst hkm
      rw [← hll, List.take_length] at M
      go_wp2_with fail
      refine (splitseq_calls ⟨#[104, 111, 115, 116, 32, 99, 97, 99, 104, 101, 45, 99, 111, 110, 116, 114, 111, 108, 32, 118, 97, 114, 121, 32, 118, 97, 114, 105, 97, 110, 116, 115, 32, 118, 97, 114, 105, 97, 110, 116, 45, 107, 101, 121, 32, 118, 105, 97]⟩ _).mono ?_
      rintro e w2 ⟨rfl, hb2, hz2, T0, T1, T2⟩
      have M2 := M.row (hb2.block w.heap.size M.lt)
      have hzr : w.heap.size + 1 < wr.heap.size := by have := hg.size; omega
      have R2 : RowAt w2 (w.heap.size + 1) 78 [.map (some w.heap.size)] := (hb2.block (w.heap.size + 1) hzr).trans (R1.grown hg (by omega) (by omega))
      have b2 := step_b hb hb2
      have I2 : MapI w w2.heap.size ls.length (delF ([].map bs) (addF ls noF)) w2 := ⟨Nat.le_refl _, R2, M2, b2⟩
      obtain ⟨f0, hf0⟩ : ∃ f0, f0 = addF ls noF := ⟨_, rfl⟩
      rw [← hf0] at I2
      have HF0 := Lib.hid hf0
      have HZ2 := Lib.hid hz2
      clear M hg hb hb2 R1 M1 b1 hlt hk z1 M2 R2 b2 hf0 hz2
      go_wp2_with fail
      refine (wpIn_wide (n := 3)).1 ?_
      refine wpIn_range_own (a1 := ?a1) rfl (by omega) (gf := 93) (lb := #[.pointer (some ⟨wr.heap.size + 1, 0, none⟩), .pointer (some ⟨wr.heap.size, 0, none⟩), .pointer (some ⟨wr.heap.size + 2, 0, none⟩)]) rfl trivial (enters_of Tryz.func93 (by kernel_rfl) rfl) (b0 := wr.heap.size) (by rw [HZ2.out]; omega)
        (splitseq_gives _ wr.heap.size (wr.heap.size + 1) (wr.heap.size + 2) rfl rfl w2 2 (by omega) (by decide) T0 T1 T2) (fun pre W => MapI w w2.heap.size ls.length (delF (pre.map bs) f0) W) (mapI_own w (by have := HZ2.out; omega) _ _) (fun s W v h => h.setCell (by omega) v) I2 ?assign ?body ?done
      case assign =>
        intro l x W K hK
        gi_wp2
        exact hK
      case body =>
        rintro l pre x suf W hx h
        have r0 := h.2.1.cell 0 rfl
        have zx := piece_size hx (by decide)
        obtain ⟨W', hdel, M', g'⟩ := h.2.2.1.del x (Nat.le_of_lt (HKH.out _ (by omega))) 0
        have e := delF_snoc (pre.map bs) (bs x) f0
        have G := h.goes M' g' HZ2.out hzr
        rw [← e] at G
        gi_wp2
        show KeepsFrom _ _ _ ∧ Box3 _ _ _ ∧ _
        rw [List.map_append]
        exact G
      case done =>
        intro W h hK
        have hd : w2.heap.size < W.heap.size := (Array.getElem?_eq_some_iff.1 hK).1
        have hdw : w.heap.size < w2.heap.size := by have := HZ2.out; omega
        obtain ⟨f1, hf1⟩ : ∃ f1, f1 = delF (((spC [] (bs sixS)).map mkB).map bs) f0 := ⟨_, rfl⟩
        have h : MapI w w2.heap.size ls.length f1 W := by rw [hf1]; exact h
        have HF1 := Lib.hid hf1
        have HDF := Lib.hid hK
        clear hK hf1 T0 T1 T2 I2
        go_wp2_with fail
        refine (splitseq_calls _ _).mono ?_
        rintro e w3 ⟨rfl, hb3, hz3, T0, T1, T2⟩
        have I3 : MapD w w3.heap.size w2.heap.size (ls.length + ([] : List ByteArray).length) (addF ([].map bs) f1) w3 :=
          ⟨⟨Nat.le_refl _, (hb3.block (w.heap.size + 1) h.big).trans h.2.1, h.2.2.1.row (hb3.block w.heap.size h.2.2.1.lt), step_b h.2.2.2 hb3⟩, (hb3.block _ hd).trans HDF.out⟩
        have hbig : w.heap.size + 1 < W.heap.size := h.big
        have HZ3 := Lib.hid hz3
        clear h hb3 HDF hz3
        go_wp2_with fail
        refine (wpIn_wide (n := 3)).1 ?_
        refine wpIn_range_own (a1 := ?a2) rfl (by omega) (gf := 93) (lb := #[.pointer (some ⟨W.heap.size + 1, 0, none⟩), .pointer (some ⟨W.heap.size, 0, none⟩), .pointer (some ⟨W.heap.size + 2, 0, none⟩)]) rfl trivial (enters_of Tryz.func93 (by kernel_rfl) rfl) (b0 := W.heap.size) (by rw [HZ3.out]; omega)
          (splitseq_gives _ W.heap.size (W.heap.size + 1) (W.heap.size + 2) rfl rfl w3 2 (by omega) (by decide) T0 T1 T2) (fun pre V => MapD w w3.heap.size w2.heap.size (ls.length + pre.length) (addF (pre.map bs) f1) V) (mapD_own w (by have := HZ3.out; omega) (by have := HZ3.out; omega) _ _) (fun s W v h => h.setCell (by omega) (by omega) v) I3 ?assign ?body ?done
        case assign =>
          intro l x W K hK
          gi_wp2
          exact hK
        case body =>
          rintro l pre x suf V hx h
          have r0 := h.1.2.1.cell 0 rfl
          have zx := piece_size hx (by decide)
          have zp := piece_count hx (by decide)
          obtain ⟨W', hput, M', g'⟩ := h.1.2.2.1.put (HKH.out _ (by omega)) x (Nat.le_of_lt (HKH.out _ (by omega)))
          have e := addF_snoc (pre.map bs) (bs x) f1
          have G := h.goes M' g' HZ3.out hbig hdw
          rw [← e] at G
          gi_wp2
          show KeepsFrom _ _ _ ∧ Box3 _ _ _ ∧ _
          rw [List.map_append, List.length_append]
          exact G
        case done =>
          intro V h hK
          have HDV := Lib.hid hK
          have HV := Lib.hid h
          have hdv : w3.heap.size < V.heap.size := (Array.getElem?_eq_some_iff.1 hK).1
          clear hK h T0 T1 T2 I3
          obtain ⟨f2, hf2⟩ : ∃ f2, f2 = addF (((spC [] (bs tenS)).map mkB).map bs) f1 := ⟨_, rfl⟩
          have HF2 := Lib.hid hf2
          have hMV : Hid (∃ n, MapB V w.heap.size n f2) := Lib.hid ⟨_, by rw [hf2]; exact HV.out.1.2.2.1⟩
          have hRV : RowAt V (w.heap.size + 1) 78 [.map (some w.heap.size)] := HV.out.1.2.1
          have hbV : Below w.heap.size w V := HV.out.1.2.2.2
          have HDW := Lib.hid HV.out.2
          have zV : w.heap.size + 1 < V.heap.size := HV.out.1.big
          obtain ⟨p, hp⟩ : ∃ p : Fd → Bool, p = fun x => !(f2 (lowL (bs x.1))) := ⟨_, rfl⟩
          have HP := Lib.hid hp
          clear HV hf2 hp
          go_wp2_with fail
          go_loopw [8, 33] (fun v j wr => ∃ (k : Nat) (ys : List Fd), k ≤ xs.length ∧ j = .int .i64 k ∧ Hid (ys = (xs.take k).filter p) ∧ ys.length ≤ k ∧ FBuf wr V.heap.size v ys ∧ Below V.heap.size V wr) (fun _ j _ => xs.length - (intOf j).toNat)
          case atStart => exact ⟨0, [], by omega, rfl, Lib.hid rfl, by simp, FBuf.nil_ _ _, Below.refl _ _⟩
          case round =>
            obtain ⟨k, ys, hk, rfl, HY, hyl, FB, hb⟩ := hrel
            by_cases hlt : k < xs.length
            · obtain ⟨x, hx⟩ : ∃ x, xs[k]? = some x := ⟨_, List.getElem?_eq_getElem hlt⟩
              obtain ⟨ad, rfl, c0, c1⟩ := ((HC.out.down hbV).down hb).at hx
              have zx := (HZ.out x (List.mem_of_getElem? hx)).1
              have hl10 : ys.length + 1 ≤ 1000000 := by omega
              have zr := hb.size
              obtain ⟨ob, cb, rfl, FO⟩ := FB.shape
              clear FO
              obtain ⟨A, hA⟩ : ∃ A, A = (wr.alloc (.cells #[.string x.1, .string x.2] 47)) := ⟨_, rfl⟩
              have HAe := Lib.hid hA
              have hbA : Below V.heap.size V A := by rw [hA]; exact hb.alloc zr _
              have rA : RowAt A (w.heap.size + 1) 78 [.map (some w.heap.size)] := (hbA.block _ zV).trans hRV
              have sA : RowAt A wr.heap.size 47 [.string x.1, .string x.2] := by rw [hA]; exact RowAt.new wr _ _
              have FBA : FBuf A V.heap.size (.slice ob ys.length cb) ys := by rw [hA]; exact FB.alloc _
              have zA2 : wr.heap.size < A.heap.size := by rw [hA]; simp
              have zA1 : w.heap.size + 1 < A.heap.size := by omega
              have zA0 : w.heap.size < A.heap.size := by omega
              have rA0 := rA.cell 0 rfl
              have sA0 := sA.cell 0 rfl
              obtain ⟨n0, MV⟩ := hMV.out
              clear hA FB hb
              cases hkp : f2 (lowL (bs x.1)) with
              | false =>
                have HKP := Lib.hid hkp
                have HS := Lib.hid (ftake_keep (p := p) hx (by rw [HP.out]; simp [hkp]))
                clear hx hkp
                go_wp2_with fail
                rw [← HAe.out]
                go_region_held3 (fun w' => w'.cell? ⟨w.heap.size + 1, 0, none⟩ = some (.map (some w.heap.size)) ∧ w'.cell? ⟨wr.heap.size, 0, none⟩ = some (.string x.1) ∧ Below A.heap.size A w') (first | assumption | exact ⟨rA0, sA0, (Below.refl A.heap.size A).drew⟩) (first | (go_at_call 61; refine (lower_any x.1 _ (by omega)).mono ?_; rintro e w4 ⟨rfl, hb4⟩; have hb4 : Below A.heap.size A w4 := Below.trans (Below.refl A.heap.size A).drew hb4; have L4 := ((MV.row (hbA.block _ MV.lt)).row (hb4.block _ zA0)).look ⟨(lowL (bs x.1)).toArray⟩ (by rw [HLH.out x.1]; exact Nat.le_of_lt (HKH.out _ (by omega))); rw [show f2 (bs ⟨(lowL (bs x.1)).toArray⟩) = false from HKP.out] at L4; have S4 : w4.cell? ⟨w.heap.size + 1, 0, none⟩ = some (.map (some w.heap.size)) ∧ w4.cell? ⟨wr.heap.size, 0, none⟩ = some (.string x.1) ∧ Below A.heap.size A w4 := ⟨RowAt.cell ((hb4.block _ zA1).trans rA) 0 rfl, RowAt.cell ((hb4.block _ zA2).trans sA) 0 rfl, hb4⟩))
                have F4 := sA.below hb4
                have FB4 := FBA.below hb4 (by omega)
                have b4 := step_b hbA hb4
                have z4 : V.heap.size ≤ w4.heap.size := b4.size
                clear S4 L4 hb4 hbA rA sA FBA rA0 sA0 c0 c1
                have e0 := F4.cell 0 rfl
                have e1 := F4.cell 1 rfl
                go_wp2_with (at_builtin; refine wpList_append_fld rfl (.tmp 43) (.tmp 45) rfl V _ V.heap.size _ ys rfl (FB4.alloc _) (b4.alloc z4 _) (le_alloc z4 _) ⟨w4.heap.size, 0, none⟩ x rfl (new_f0 w4 x _) (new_f1 w4 x _) hl10 ?_)
                intro v5 w5 FB5 hb5 z5
                clear FB4 F4 b4 z4 e0 e1
                go_wp2_with fail
                go_roundw
                case rel => exact ⟨k + 1, ys ++ [x], by omega, by go_num, Lib.hid (by rw [HS.out, HY.out]), by simp; omega, FB5, hb5⟩
                case measure => simp [intOf]; omega
              | true =>
                have HKP := Lib.hid hkp
                have HS := Lib.hid (ftake_skip (p := p) hx (by rw [HP.out]; simp [hkp]))
                clear hx hkp
                go_wp2_with fail
                rw [← HAe.out]
                go_region_held3 (fun w' => w'.cell? ⟨w.heap.size + 1, 0, none⟩ = some (.map (some w.heap.size)) ∧ w'.cell? ⟨wr.heap.size, 0, none⟩ = some (.string x.1) ∧ Below A.heap.size A w') (first | assumption | exact ⟨rA0, sA0, (Below.refl A.heap.size A).drew⟩) (first | (go_at_call 61; refine (lower_any x.1 _ (by omega)).mono ?_; rintro e w4 ⟨rfl, hb4⟩; have hb4 : Below A.heap.size A w4 := Below.trans (Below.refl A.heap.size A).drew hb4; have L4 := ((MV.row (hbA.block _ MV.lt)).row (hb4.block _ zA0)).look ⟨(lowL (bs x.1)).toArray⟩ (by rw [HLH.out x.1]; exact Nat.le_of_lt (HKH.out _ (by omega))); rw [show f2 (bs ⟨(lowL (bs x.1)).toArray⟩) = true from HKP.out] at L4; have S4 : w4.cell? ⟨w.heap.size + 1, 0, none⟩ = some (.map (some w.heap.size)) ∧ w4.cell? ⟨wr.heap.size, 0, none⟩ = some (.string x.1) ∧ Below A.heap.size A w4 := ⟨RowAt.cell ((hb4.block _ zA1).trans rA) 0 rfl, RowAt.cell ((hb4.block _ zA2).trans sA) 0 rfl, hb4⟩))
                have FB4 := FBA.below hb4 (by omega)
                have b4 := step_b hbA hb4
                clear S4 L4 hb4 hbA rA sA FBA rA0 sA0 c0 c1
                go_wp2_with fail
                go_roundw
                case rel => exact ⟨k + 1, ys, by omega, by go_num, Lib.hid (by rw [HS.out]; exact HY.out), by omega, FB4, b4⟩
                case measure => simp [intOf]; omega
            · have HF : Hid (xs.filter p = ys) := Lib.hid (by rw [HY.out, List.take_of_length_le (by omega)])
              go_wp2_with fail
              have d3 : wr.heap[w3.heap.size]? = some (.deferred (some [])) := (hb.block _ hdv).trans HDV.out
              have h23 : w2.heap.size ≠ w3.heap.size := by have := HZ3.out; omega
              have h2v : w2.heap.size < V.heap.size := (Array.getElem?_eq_some_iff.1 HDW.out).1
              have d2 : (wr.putObj w3.heap.size (.deferred none)).heap[w2.heap.size]? = some (.deferred (some [])) :=
                (World.putObj_heap_other h23).trans ((hb.block _ h2v).trans HDW.out)
              refine ⟨by simp, .inl ⟨_, _, rfl, run_takeDeferred d3, ?_⟩⟩
              refine ⟨by simp, .inl ⟨_, _, rfl, run_takeDeferred d2, ?_⟩⟩
              refine ⟨_, results_tmp rfl _ _ _, _, rfl, ?_, ?_⟩
              · have F := (FB.others hdv (w' := wr.putObj w3.heap.size (.deferred none)) fun k hk => World.putObj_heap_other hk).others h2v (w' := (wr.putObj w3.heap.size (.deferred none)).putObj w2.heap.size (.deferred none)) fun k hk => World.putObj_heap_other hk
                rw [← HF.out] at F
                have F := F.lower (Nat.le_of_lt (Nat.lt_of_succ_lt zV))
                have hpp : p = hopB (allL (bs nConn) xs) := by
                  rw [HP.out]; unfold hopB dropF
                  rw [HF2.out, HF1.out, HF0.out, HLS.out, HMB.out, map_low]
                rw [hpp] at F
                exact F
              · have q1 := step_b hbV hb
                exact (q1.grown (grownBy_putObj' _ w3.heap.size _) q1.size (fun k e => by cases e; have := HZ3.out; omega)).grown (grownBy_putObj' _ w2.heap.size _) (by have := q1.size; simpa using this) (fun k e => by cases e; omega)
theorem addF_eq (l : List (List UInt8)) (f : List UInt8 → Bool) (x : List UInt8) : addF l f x = (l.any (fun y => x == y) || f x) := by
  induction l generalizing f with
  | nil => rfl
  | cons y t ih => show addF t (fun z => z == y || f z) x = _; rw [ih, List.any_cons]; cases t.any (fun y => x == y) <;> cases (x == y) <;> simp
theorem delF_eq (l : List (List UInt8)) (f : List UInt8 → Bool) (x : List UInt8) : delF l f x = (!(l.any (fun y => x == y)) && f x) := by
  induction l generalizing f with
  | nil => simp [delF]
  | cons y t ih => show delF t (fun z => !(z == y) && f z) x = _; rw [ih, List.any_cons]; cases t.any (fun y => x == y) <;> cases (x == y) <;> simp
theorem oneB_any (n : List UInt8) (l : List (List UInt8)) : oneB n l = (l.map lowL).any (fun y => lowL n == y) := by
  induction l with
  | nil => rfl
  | cons y t ih =>
    rw [oneB, ih, List.map_cons, List.any_cons]
    congr 1
    unfold foldB
    by_cases h : lowL n = lowL y
    · have : n.length = y.length := by have := congrArg List.length h; simpa [lowL_length] using this
      simp [h, this]
    · simp [h]
theorem ten_eq : ((spC [] (bs tenS)).map mkB).map bs = (fixedN.map bs).map lowL := by decide
theorem six_eq : ((spC [] (bs sixS)).map mkB).map bs = (keptN.map bs).map lowL := by decide
theorem hop_strip (conn : List (List UInt8)) (x : Fd) : hopB conn x = stripB conn x := by
  unfold hopB stripB dropF
  rw [addF_eq, delF_eq, addF_eq, ten_eq, six_eq, ← oneB_any, ← oneB_any, ← oneB_any]
  unfold noF
  rw [Bool.or_false]
  cases oneB (bs x.1) (fixedN.map bs) <;> cases oneB (bs x.1) conn <;> cases oneB (bs x.1) (keptN.map bs) <;> rfl
theorem hop_stripL (xs : List Fd) : xs.filter (hopB (allL (bs nConn) xs)) = stripL xs := by
  unfold stripL; congr 1; funext x; exact hop_strip _ x
end Go.Proofs.YtglckhljpjcmaaaGreatDoor
namespace Go.Proofs.YtglckhljpjcmaaaGreatDoor
open Go.RowKit Go.Shelf
attribute [local go_sem] Oper.semAt_some
set_option linter.unusedSimpArgs false

theorem rows3t (w : World) (X : List Value) (TX : TypeId) (Y : List Value) (TY : TypeId) (Z : List Value) (TZ : TypeId) : RowAt (((w.alloc (.cells X.toArray TX)).alloc (.cells Y.toArray TY)).alloc (.cells Z.toArray TZ)) w.heap.size TX X ∧ RowAt (((w.alloc (.cells X.toArray TX)).alloc (.cells Y.toArray TY)).alloc (.cells Z.toArray TZ)) (w.heap.size + 1) TY Y ∧ RowAt (((w.alloc (.cells X.toArray TX)).alloc (.cells Y.toArray TY)).alloc (.cells Z.toArray TZ)) (w.heap.size + 1 + 1) TZ Z ∧
    Below w.heap.size w (((w.alloc (.cells X.toArray TX)).alloc (.cells Y.toArray TY)).alloc (.cells Z.toArray TZ)) ∧ w.heap.size + 3 ≤ (((w.alloc (.cells X.toArray TX)).alloc (.cells Y.toArray TY)).alloc (.cells Z.toArray TZ)).heap.size := by
  have h1 := RowAt.new w X TX
  have h2 := RowAt.new (w.alloc (.cells X.toArray TX)) Y TY
  have h3 := RowAt.new ((w.alloc (.cells X.toArray TX)).alloc (.cells Y.toArray TY)) Z TZ
  have hs : (w.alloc (.cells X.toArray TX)).heap.size = w.heap.size + 1 := Array.size_push _
  have hs2 : ((w.alloc (.cells X.toArray TX)).alloc (.cells Y.toArray TY)).heap.size = w.heap.size + 1 + 1 := (Array.size_push _).trans (by rw [hs])
  rw [hs] at h2
  rw [hs2] at h3
  exact ⟨(h1.alloc _).alloc _, h2.alloc _, h3, ((alloc_b w _).alloc (by omega) _).alloc (by omega) _, Nat.le_of_eq ((Array.size_push _).trans (by rw [hs2])).symm⟩
set_option maxHeartbeats 12800000 in
set_option maxRecDepth 100000 in
theorem refresh_any (ok : Option Addr) (ks : List (List ByteArray)) (ck : Nat) (ov : Option Addr) (vs : List ByteArray) (cv : Nat) (os : Option Addr) (ss : List ByteArray) (cs : Nat) (rs : ByteArray) (oe : Option Addr) (es : List Fd) (ce : Nat) (be : ByteArray) (r1 r2 : Int) (m st : Int) (rr : ByteArray) (ox : Option Addr) (xs : List Fd) (cx : Nat) (bd : ByteArray) (rq rc : Int) (w : World)
    (hk : MatO w ok ks) (hkz : MatZ ks 1000 1000) (hkl : ks.length ≤ 1000) (hv : StrO w ov vs) (hvl : vs.length ≤ 100000) (hs : StrO w os ss) (hsl : ss.length ≤ 100000) (hf : FldO w oe es) (hfl : es.length ≤ 5000) (hfz : FldZ es 100000) (hx : FldO w ox xs) (hxl : xs.length ≤ 5000) (hxz : FldZ xs 100000) :
    Calls Tryz.prog 24 #[entV8 ok ks.length ck ov vs.length cv os ss.length cs rs oe es.length ce be r1 r2, respV m st rr ox xs.length cx bd, .int .i64 rq, .int .i64 rc] w (EntOut ks vs ss rs (updL es xs) be rq rc w) := by
  obtain ⟨R0, P0, O0, b0, z0⟩ := rows3t w (entC8 ok ks.length ck ov vs.length cv os ss.length cs rs oe es.length ce be r1 r2) 50 (respC m st rr ox xs.length cx bd) 26 entZ8 50
  have HK := Lib.hid hk
  have HKZ := Lib.hid hkz
  have HV := Lib.hid hv
  have HS := Lib.hid hs
  have HF := Lib.hid hf
  have HFZ := Lib.hid hfz
  have HX := Lib.hid (hx.down b0)
  have HXZ := Lib.hid hxz
  obtain ⟨zs, hzs⟩ : ∃ zs, zs = stripL xs := ⟨_, rfl⟩
  have hzl : zs.length ≤ xs.length := by rw [hzs]; exact stripL_len xs
  have HZZ : Hid (FldZ zs 100000) := Lib.hid (by rw [hzs]; exact hxz.filter _)
  have HNW : Hid (zs.filter (noneB (updN.map bs)) = newsL xs) := Lib.hid (by rw [hzs]; rfl)
  have HZS := Lib.hid hzs
  obtain ⟨us, hus⟩ : ∃ us, us = updL es xs := ⟨_, rfl⟩
  have HUS := Lib.hid hus
  clear hk hkz hv hs hf hfz hx hxz hzs hus
  go_enter Tryz.func24, Tryz.ntmps24
  go_wp2_with fail
  generalize (((w.alloc (.cells (entC8 ok ks.length ck ov vs.length cv os ss.length cs rs oe es.length ce be r1 r2).toArray 50)).alloc (.cells (respC m st rr ox xs.length cx bd).toArray 26)).alloc (.cells entZ8.toArray 50)) = W0 at *
  refine (strip_any ox xs cx _ (by omega) HXZ.out HX.out).mono ?_
  rintro e w1 ⟨v1, rfl, FB1, hb1⟩
  rw [hop_stripL, ← HZS.out] at FB1
  obtain ⟨o1, c1, rfl, _⟩ := FB1.shape
  have a2 := alloc_b w1 (.cells #[.string ⟨#[67, 111, 110, 116, 101, 110, 116, 45, 69, 110, 99, 111, 100, 105, 110, 103]⟩, .string ⟨#[67, 111, 110, 116, 101, 110, 116, 45, 84, 121, 112, 101]⟩, .string ⟨#[67, 111, 110, 116, 101, 110, 116, 45, 82, 97, 110, 103, 101]⟩, .string ⟨#[86, 97, 114, 105, 97, 110, 116, 115]⟩, .string ⟨#[86, 97, 114, 105, 97, 110, 116, 45, 75, 101, 121]⟩, .string ⟨#[86, 97, 114, 121]⟩] 9)
  have N2 := StrO.new w1 updN
  rw [updA_eq] at N2
  have HN2 := Lib.hid N2
  have R2 := (R0.below hb1).below a2
  have O2 := (O0.below hb1).below a2
  have D2 := step_b (step_b b0 hb1) a2
  have FB2 := (FB1.lower z0).alloc (.cells #[.string ⟨#[67, 111, 110, 116, 101, 110, 116, 45, 69, 110, 99, 111, 100, 105, 110, 103]⟩, .string ⟨#[67, 111, 110, 116, 101, 110, 116, 45, 84, 121, 112, 101]⟩, .string ⟨#[67, 111, 110, 116, 101, 110, 116, 45, 82, 97, 110, 103, 101]⟩, .string ⟨#[86, 97, 114, 105, 97, 110, 116, 115]⟩, .string ⟨#[86, 97, 114, 105, 97, 110, 116, 45, 75, 101, 121]⟩, .string ⟨#[86, 97, 114, 121]⟩] 9)
  have z2 := Nat.le_trans z0 (Nat.le_trans hb1.size a2.size)
  clear R0 P0 O0 b0 z0 HX FB1 hb1 a2 N2
  go_wp2_with fail
  generalize w1.alloc (.cells #[.string ⟨#[67, 111, 110, 116, 101, 110, 116, 45, 69, 110, 99, 111, 100, 105, 110, 103]⟩, .string ⟨#[67, 111, 110, 116, 101, 110, 116, 45, 84, 121, 112, 101]⟩, .string ⟨#[67, 111, 110, 116, 101, 110, 116, 45, 82, 97, 110, 103, 101]⟩, .string ⟨#[86, 97, 114, 105, 97, 110, 116, 115]⟩, .string ⟨#[86, 97, 114, 105, 97, 110, 116, 45, 75, 101, 121]⟩, .string ⟨#[86, 97, 114, 121]⟩] 9) = w2 at *
  generalize (⟨w1.heap.size, 0, none⟩ : Addr) = an at *
  go_loopw [9, 18] (fun u j wr => ∃ (k : Nat) (ys : List Fd) (v : Value), v = u ∧ k ≤ 6 ∧ j = .int .i64 k ∧ Hid (ys = zs.filter (noneB ((updN.take k).map bs))) ∧ ys.length ≤ zs.length ∧ FBuf wr (w.heap.size + 3) v ys ∧ RowAt wr w.heap.size 50 (entC8 ok ks.length ck ov vs.length cv os ss.length cs rs oe es.length ce be r1 r2) ∧ RowAt wr (w.heap.size + 1 + 1) 50 entZ8 ∧ Hid (StrO wr (some an) updN) ∧ Below w.heap.size w wr ∧ w.heap.size + 3 ≤ wr.heap.size) (fun _ j _ => 6 - (intOf j).toNat)
  case atStart => exact ⟨0, zs, _, rfl, by omega, rfl, Lib.hid (noneB_nil zs), Nat.le_refl _, FB2, R2, O2, HN2, D2, z2⟩
  case round =>
    clear FB2 R2 O2 HN2 D2 z2
    obtain ⟨k, ys, v, rfl, hk, rfl, HY, hyl, FB, R, O, HN, hb, hz⟩ := hrel
    by_cases hlt : k < 6
    · obtain ⟨nm, hx⟩ : ∃ x, updN[k]? = some x := ⟨_, List.getElem?_eq_getElem (show k < updN.length from hlt)⟩
      obtain ⟨ad, had, c0⟩ := HN.out k nm hx
      cases had
      have zn := updN_z nm (List.mem_of_getElem? hx)
      obtain ⟨oc, cc, rfl, FO⟩ := FB.shape
      have HY2 := Lib.hid (without_step (xs := zs) hx)
      have HR := Lib.hid (remove_any oc ys cc nm wr (by omega) (by omega) (by rw [HY.out]; exact HZZ.out.filter _) FO)
      clear hx FO
      go_wp2_with fail
      refine HR.out.mono ?_
      rintro e w3 ⟨v3, rfl, FB3, hb3⟩
      have b3 := step_b hb hb3
      have FB3 := FB3.lower hz
      have R3 := R.below hb3
      have O3 := O.below hb3
      have HN3 := Lib.hid (HN.out.down hb3)
      have z3 := Nat.le_trans hz hb3.size
      clear FB R O HN hb hz hb3 c0 HR
      go_wp2_with fail
      go_roundw
      case rel => exact ⟨k + 1, _, _, rfl, by omega, by go_num, Lib.hid (by rw [HY.out]; exact HY2.out), Nat.le_trans (List.length_filter_le _ _) hyl, FB3, R3, O3, HN3, b3, z3⟩
      case measure => simp [intOf]; omega
    · have HNS : Hid (ys = newsL xs) := Lib.hid (by rw [HY.out, List.take_of_length_le (by show 6 ≤ k; omega)]; exact HNW.out)
      have nl : ys.length ≤ 5000 := by omega
      have HNZ : Hid (FldZ ys 100000) := Lib.hid (by rw [HY.out]; exact HZZ.out.filter _)
      obtain ⟨on, cn, rfl, FN⟩ := FB.shape
      have HFN := Lib.hid FN
      have HC := Lib.hid (clone_any ok ks ck ov vs cv os ss cs rs oe es ce be r1 r2 wr (HK.out.down hb) HKZ.out hkl (HV.out.down hb) hvl (HS.out.down hb) hsl (HF.out.down hb) (by omega))
      clear FN FB HN HY hk
      go_wp2_with (refine wpList_load_rowAt rfl _ 50 (.tmp 4) rfl w.heap.size 50 (entC8 ok ks.length ck ov vs.length cv os ss.length cs rs oe es.length ce be r1 r2) R rfl _ Tryz.underlying50 ent_size ?_)
      refine HC.out.mono ?_
      rintro e w5 ⟨ok2, ck2, ov2, cv2, os2, cs2, oe2, ce2, rfl, EB, hb5⟩
      have D5 := step_b hb hb5
      have z5 := Nat.le_trans hz hb5.size
      have a6 := alloc_b w5 (.cells (entC8 ok2 ks.length ck2 ov2 vs.length cv2 os2 ss.length cs2 rs oe2 es.length ce2 be r1 r2).toArray 50)
      have s6 : (w5.alloc (.cells (entC8 ok2 ks.length ck2 ov2 vs.length cv2 os2 ss.length cs2 rs oe2 es.length ce2 be r1 r2).toArray 50)).heap.size = w5.heap.size + 1 := Array.size_push _
      have P6 := RowAt.new w5 (entC8 ok2 ks.length ck2 ov2 vs.length cv2 os2 ss.length cs2 rs oe2 es.length ce2 be r1 r2) 50
      have FN6 := Lib.hid ((HFN.out.down hb5).down a6)
      have HFN5 := Lib.hid (HFN.out.down hb5)
      have O6 := (O.below hb5).below a6
      have R6 := (R.below hb5).below a6
      clear R O HFN HC hb hb5
      go_wp2_with fail
      generalize w5.alloc (.cells (entC8 ok2 ks.length ck2 ov2 vs.length cv2 os2 ss.length cs2 rs oe2 es.length ce2 be r1 r2).toArray 50) = w6 at *
      cases hg : decide (0 < (getF (bs nAge) ys).length) with
      | true =>
        have HG := Lib.hid hg
        have HAG : Hid (mrgL es ys = us) := Lib.hid (by rw [HUS.out]; unfold updL agedL; rw [← HNS.out, if_pos (of_decide_eq_true hg)])
        clear hg
        refine (has_any on ys cn nAge w6 (by decide) (by omega) HNZ.out FN6.out).mono ?_
        rintro e w7 ⟨he, hb7⟩
        rw [HG.out] at he
        subst he
        have D7 := step_b a6 hb7
        have P7 := P6.below hb7
        have O7 := O6.below hb7
        have q4 := P7.cell 4 rfl
        have F7 := (EB.below D7 (Nat.le_refl _)).2.2.2.fld
        have FN7 := FN6.out.down hb7
        have HM := Lib.hid (merge_any oe2 es ce2 on ys cn w7 (by omega) (by omega) HFZ.out HNZ.out F7 FN7)
        have z7 := hb7.size
        clear P6 O6 R6 FN6 hb7 F7 FN7
        go_wp2_with fail
        refine HM.out.mono ?_
        rintro e w9 ⟨v9, rfl, FB9, hb9⟩
        rw [HAG.out] at FB9
        obtain ⟨o9, c9, rfl, _⟩ := FB9.shape
        clear q4
        have P9 := P7.below hb9
        have q4 := P9.cell 4 rfl
        have f4 := P9.free 4
        have Y1 := P9.set 4 (.slice o9 us.length c9)
        have q6 := Y1.cell 6 rfl
        have f6 := Y1.free 6
        have Y2 := Y1.set 6 (.int .i64 rq)
        have q7 := Y2.cell 7 rfl
        have f7 := Y2.free 7
        have Y3 := Y2.set 7 (.int .i64 rc)
        have O9 := (((O7.below hb9).setOther (show w.heap.size + 1 + 1 ≠ w5.heap.size by omega) 4 (.slice o9 us.length c9)).setOther (show w.heap.size + 1 + 1 ≠ w5.heap.size by omega) 6 (.int .i64 rq)).setOther (show w.heap.size + 1 + 1 ≠ w5.heap.size by omega) 7 (.int .i64 rc)
        have D9 := (((step_b D7 hb9).setCell (p := ⟨w5.heap.size, 4, none⟩) (Nat.le_refl _) (.slice o9 us.length c9)).setCell (p := ⟨w5.heap.size, 6, none⟩) (Nat.le_refl _) (.int .i64 rq)).setCell (p := ⟨w5.heap.size, 7, none⟩) (Nat.le_refl _) (.int .i64 rc)
        have F9 := ((FB9.set (g := w5.heap.size) (j := 4) (by omega) (.slice o9 us.length c9)).set (g := w5.heap.size) (j := 6) (by omega) (.int .i64 rq)).set (g := w5.heap.size) (j := 7) (by omega) (.int .i64 rc)
        have E9 := EB.below D9 (Nat.le_refl _)
        clear P7 O7 hb9 P9 Y1 Y2
        go_wp2_with (first | (refine wpList_load_rowAt rfl _ 50 (.tmp 12) rfl w5.heap.size 50 (entC8 ok2 ks.length ck2 ov2 vs.length cv2 os2 ss.length cs2 rs o9 us.length c9 be rq rc) Y3 rfl _ Tryz.underlying50 ent_size ?_) | (refine wpList_store_row rfl _ 50 (.tmp 8) (.tmp 44) rfl (w.heap.size + 1 + 1) 50 entZ8 (entC8 ok2 ks.length ck2 ov2 vs.length cv2 os2 ss.length cs2 rs o9 us.length c9 be rq rc) O9 rfl rfl rfl ent_size (ent_one _ _ _ _ _ _ _ _ _ _ _ _ _ _ _ _) ?_; intro w10 R10 g1 g2 g3))
        refine bodyPost_ret (results_row1 rfl _ _ (w.heap.size + 1 + 1) 50 (entC8 ok2 ks.length ck2 ov2 vs.length cv2 os2 ss.length cs2 rs o9 us.length c9 be rq rc) R10 rfl _ Tryz.underlying50 ent_size) rfl ?_
        rw [← HUS.out]
        have X9 : EBufs _ (w.heap.size + 3) (.slice ok2 ks.length ck2) ks (.slice ov2 vs.length cv2) vs (.slice os2 ss.length cs2) ss (.slice o9 us.length c9) us := ⟨E9.1.lower hz, E9.2.1.lower hz, E9.2.2.1.lower hz, F9.lower (by omega)⟩
        exact ⟨ok2, ck2, ov2, cv2, os2, cs2, o9, c9, rfl, (X9.others (by omega) g2).lower (by omega), (step_b D5 D9).trans (g1 _ (by omega))⟩
      | false =>
        have HG := Lib.hid hg
        obtain ⟨ag, hag⟩ : ∃ ag, ag = es.filter (fun x => !isF (bs nAge) x) := ⟨_, rfl⟩
        have HAG : Hid (mrgL ag ys = us) := Lib.hid (by rw [HUS.out, hag]; unfold updL agedL; rw [← HNS.out, if_neg (of_decide_eq_false hg)])
        have agl : ag.length ≤ es.length := by rw [hag]; exact List.length_filter_le _ _
        have HAZ : Hid (FldZ ag 100000) := Lib.hid (by rw [hag]; exact HFZ.out.filter _)
        have HA := Lib.hid hag
        clear hg hag
        refine (has_any on ys cn nAge w6 (by decide) (by omega) HNZ.out FN6.out).mono ?_
        rintro e w7 ⟨he, hb7⟩
        rw [HG.out] at he
        subst he
        have D7 := step_b a6 hb7
        have P7 := P6.below hb7
        have O7 := O6.below hb7
        have q4 := P7.cell 4 rfl
        have F7 := (EB.below D7 (Nat.le_refl _)).2.2.2.fld
        have HM := Lib.hid (remove_any oe2 es ce2 nAge w7 (by decide) (by omega) HFZ.out F7)
        have z7 := hb7.size
        clear P6 O6 R6 hb7 F7
        go_wp2_with fail
        refine HM.out.mono ?_
        rintro e w8 ⟨v8, rfl, FB8, hb8⟩
        rw [← HA.out] at FB8
        obtain ⟨o8, c8, rfl, _⟩ := FB8.shape
        clear q4 HM
        have P8 := P7.below hb8
        have q4 := P8.cell 4 rfl
        have f4 := P8.free 4
        have X8 := P8.set 4 (.slice o8 ag.length c8)
        have e4 := X8.cell 4 rfl
        have O8 := (O7.below hb8).setOther (show w.heap.size + 1 + 1 ≠ w5.heap.size by omega) 4 (.slice o8 ag.length c8)
        have D8 := (step_b D7 hb8).setCell (p := ⟨w5.heap.size, 4, none⟩) (Nat.le_refl _) (.slice o8 ag.length c8)
        have F8 := (FB8.set (g := w5.heap.size) (j := 4) (by omega) (.slice o8 ag.length c8)).fld
        have FN8 := HFN5.out.down D8
        have z8 : w5.heap.size < (w8.setCell ⟨w5.heap.size, 4, none⟩ (.slice o8 ag.length c8)).heap.size := X8.lt
        have HM := Lib.hid (merge_any o8 ag c8 on ys cn _ (by omega) (by omega) HAZ.out HNZ.out F8 FN8)
        clear P7 O7 D7 P8 FB8 hb8 F8 FN8 FN6 HFN5
        go_wp2_with fail
        refine HM.out.mono ?_
        rintro e w9 ⟨v9, rfl, FB9, hb9⟩
        rw [HAG.out] at FB9
        obtain ⟨o9, c9, rfl, _⟩ := FB9.shape
        clear q4 f4 e4 HM
        have P9 := X8.below hb9
        have q4 := P9.cell 4 rfl
        have f4 := P9.free 4
        have Y1 := P9.set 4 (.slice o9 us.length c9)
        have q6 := Y1.cell 6 rfl
        have f6 := Y1.free 6
        have Y2 := Y1.set 6 (.int .i64 rq)
        have q7 := Y2.cell 7 rfl
        have f7 := Y2.free 7
        have Y3 := Y2.set 7 (.int .i64 rc)
        have O9 := (((O8.below hb9).setOther (show w.heap.size + 1 + 1 ≠ w5.heap.size by omega) 4 (.slice o9 us.length c9)).setOther (show w.heap.size + 1 + 1 ≠ w5.heap.size by omega) 6 (.int .i64 rq)).setOther (show w.heap.size + 1 + 1 ≠ w5.heap.size by omega) 7 (.int .i64 rc)
        have D9 := (((step_b D8 hb9).setCell (p := ⟨w5.heap.size, 4, none⟩) (Nat.le_refl _) (.slice o9 us.length c9)).setCell (p := ⟨w5.heap.size, 6, none⟩) (Nat.le_refl _) (.int .i64 rq)).setCell (p := ⟨w5.heap.size, 7, none⟩) (Nat.le_refl _) (.int .i64 rc)
        have F9 := ((FB9.set (g := w5.heap.size) (j := 4) (by omega) (.slice o9 us.length c9)).set (g := w5.heap.size) (j := 6) (by omega) (.int .i64 rq)).set (g := w5.heap.size) (j := 7) (by omega) (.int .i64 rc)
        have E9 := EB.below D9 (Nat.le_refl _)
        clear X8 O8 hb9 P9 Y1 Y2
        go_wp2_with (first | (refine wpList_load_rowAt rfl _ 50 (.tmp 12) rfl w5.heap.size 50 (entC8 ok2 ks.length ck2 ov2 vs.length cv2 os2 ss.length cs2 rs o9 us.length c9 be rq rc) Y3 rfl _ Tryz.underlying50 ent_size ?_) | (refine wpList_store_row rfl _ 50 (.tmp 8) (.tmp 44) rfl (w.heap.size + 1 + 1) 50 entZ8 (entC8 ok2 ks.length ck2 ov2 vs.length cv2 os2 ss.length cs2 rs o9 us.length c9 be rq rc) O9 rfl rfl rfl ent_size (ent_one _ _ _ _ _ _ _ _ _ _ _ _ _ _ _ _) ?_; intro w10 R10 g1 g2 g3))
        refine bodyPost_ret (results_row1 rfl _ _ (w.heap.size + 1 + 1) 50 (entC8 ok2 ks.length ck2 ov2 vs.length cv2 os2 ss.length cs2 rs o9 us.length c9 be rq rc) R10 rfl _ Tryz.underlying50 ent_size) rfl ?_
        rw [← HUS.out]
        have X9 : EBufs _ (w.heap.size + 3) (.slice ok2 ks.length ck2) ks (.slice ov2 vs.length cv2) vs (.slice os2 ss.length cs2) ss (.slice o9 us.length c9) us := ⟨E9.1.lower hz, E9.2.1.lower hz, E9.2.2.1.lower hz, F9.lower (by omega)⟩
        exact ⟨ok2, ck2, ov2, cv2, os2, cs2, o9, c9, rfl, (X9.others (by omega) g2).lower (by omega), (step_b D5 D9).trans (g1 _ (by omega))⟩
end Go.Proofs.YtglckhljpjcmaaaGreatDoor
namespace Go.Proofs.YtglckhljpjcmaaaGreatDoor
open Go.RowKit Go.Shelf
attribute [local go_sem] Oper.semAt_some
set_option linter.unusedSimpArgs false

end Go.Proofs.YtglckhljpjcmaaaGreatDoor
namespace Go.Proofs.YtglckhljpjcmaaaGreatDoor
open Go.RowKit Go.Shelf

theorem FldO.ofRow {w : World} {g : Nat} {T : TypeId} {xs : List Fd} (h : RowAt w g T (fcells xs)) : FldO w (some ⟨g, 0, none⟩) xs := fun i x hx => by
  obtain ⟨h0, h1⟩ := fcells_at xs i x hx
  have e : ∀ n : Nat, (⟨g, 0, none⟩ : Addr).add n = ⟨g, n, none⟩ := fun n => by unfold Addr.add; split <;> simp_all
  exact ⟨⟨g, 0, none⟩, rfl, by rw [e]; exact h.cell _ h0, by rw [e]; exact h.cell _ h1⟩
theorem MatO.nil_ (w : World) (oa : Option Addr) : MatO w oa [] := fun i row h => by simp at h
theorem StrO.nil_ (w : World) (oa : Option Addr) : StrO w oa [] := fun i row h => by simp at h
theorem MatZ.nil_ (n m : Nat) : MatZ [] n m := fun row h => by cases h
abbrev wkE : List Fd := [(⟨#[67, 97, 99, 104, 101, 45, 67, 111, 110, 116, 114, 111, 108]⟩, ⟨#[109, 97, 120, 45, 97, 103, 101, 61, 49]⟩), (⟨#[120]⟩, ⟨#[121]⟩)]
abbrev wkX : List Fd := [(⟨#[99, 97, 99, 104, 101, 45, 99, 111, 110, 116, 114, 111, 108]⟩, ⟨#[109, 97, 120, 45, 97, 103, 101, 61, 53]⟩)]
abbrev wkO : List Fd := [(⟨#[120]⟩, ⟨#[121]⟩), (⟨#[99, 97, 99, 104, 101, 45, 99, 111, 110, 116, 114, 111, 108]⟩, ⟨#[109, 97, 120, 45, 97, 103, 101, 61, 53]⟩)]
theorem wk_upd : updL wkE wkX = wkO := by decide +kernel
theorem wkE_z : FldZ wkE 100000 := by intro x hx; simp only [wkE, List.mem_cons, List.not_mem_nil, or_false] at hx; rcases hx with rfl | rfl <;> decide
theorem wkX_z : FldZ wkX 100000 := by intro x hx; simp only [wkX, List.mem_cons, List.not_mem_nil, or_false] at hx; rcases hx with rfl <;> decide
theorem wk_refresh (a c : Addr) (w : World) (hE : FldO w (some a) wkE) (hX : FldO w (some c) wkX) :
    Calls Tryz.prog 24 #[entV8 none 0 0 none 0 0 none 0 0 ⟨#[]⟩ (some a) 2 2 ⟨#[]⟩ 0 0, respV 0 304 ⟨#[]⟩ (some c) 1 1 ⟨#[]⟩, .int .i64 1, .int .i64 2] w fun e w' => ∃ (ok : Option Addr) (ck : Nat) (ov : Option Addr) (cv : Nat) (os : Option Addr) (cs : Nat) (oe : Option Addr) (ce : Nat), e = .returned (entV8 ok 0 ck ov 0 cv os 0 cs ⟨#[]⟩ oe 2 ce ⟨#[]⟩ 1 2) ∧ FldO w' oe wkO ∧ Below w.heap.size w w' := by
  have h := refresh_any none [] 0 none [] 0 none [] 0 ⟨#[]⟩ (some a) wkE 2 ⟨#[]⟩ 0 0 0 304 ⟨#[]⟩ (some c) wkX 1 ⟨#[]⟩ 1 2 w (MatO.nil_ _ _) (MatZ.nil_ _ _) (by decide) (StrO.nil_ _ _) (by decide) (StrO.nil_ _ _) (by decide) hE (by decide) wkE_z hX (by decide) wkX_z
  rw [wk_upd] at h
  refine h.mono ?_
  rintro e w' ⟨ok, ck, ov, cv, os, cs, oe, ce, rfl, EB, hb⟩
  exact ⟨ok, ck, ov, cv, os, cs, oe, ce, rfl, EB.2.2.2.fld, hb⟩
abbrev pOST : ByteArray := ⟨#[80, 79, 83, 84]⟩
theorem unsafe_post (w : World) : Calls Tryz.prog 22 #[.string pOST] w fun e w' => e = .returned (.bool true) ∧ w = w' := by
  go_enter Tryz.func22, Tryz.ntmps22
  go_wp2_with fail
  go_ret
  exact ⟨rfl, rfl⟩
theorem inval_post (w : World) : Calls Tryz.prog 9 #[.string pOST, .int .i64 201] w fun e w' => e = .returned (.bool true) ∧ w = w' := by
  go_enter Tryz.func9, Tryz.ntmps9
  go_wp2_with fail
  refine (unsafe_post w).mono ?_
  rintro e w1 ⟨rfl, rfl⟩
  go_wp2_with fail
  go_ret
  exact ⟨rfl, rfl⟩
set_option maxHeartbeats 3200000 in
set_option maxRecDepth 100000 in
theorem awake29_any (w : World) :
    Calls Tryz.prog 11 #[] w fun e w' => e = .returned (.bool true) ∧ Below w.heap.size w w' := by
  obtain ⟨R0, R1, R2, b3, z3⟩ := rows3t w (fcells wkE) 47 (entC8 none 0 0 none 0 0 none 0 0 ⟨#[]⟩ (some ⟨w.heap.size, 0, none⟩) 2 2 ⟨#[]⟩ 0 0) 50 (fcells wkX) 47
  have HR := Lib.hid (wk_refresh _ _ _ (FldO.ofRow R0) (FldO.ofRow R2))
  have RE := RowAt.new (w.alloc (.cells (fcells wkE).toArray 47)) (entC8 none 0 0 none 0 0 none 0 0 ⟨#[]⟩ (some ⟨w.heap.size, 0, none⟩) 2 2 ⟨#[]⟩ 0 0) 50
  clear R0 R2 R1
  go_enter Tryz.func11, Tryz.ntmps11
  go_wp2_with fail
  refine HR.out.mono ?_
  rintro e w4 ⟨ok, ck, ov, cv, os, cs, oe, ce, rfl, FO, hb⟩
  obtain ⟨ad, rfl, c0, c1⟩ := FO.at (i := 0) (x := (⟨#[120]⟩, ⟨#[121]⟩)) rfl
  obtain ⟨ad', had, d0, d1⟩ := FO.at (i := 1) (x := (⟨#[99, 97, 99, 104, 101, 45, 99, 111, 110, 116, 114, 111, 108]⟩, ⟨#[109, 97, 120, 45, 97, 103, 101, 61, 53]⟩)) rfl
  cases had
  rw [show ad.add (0 * 2) = ad from by unfold Addr.add; simp] at c0 c1
  have a5 := alloc_b w4 (.cells (entC8 ok 0 ck ov 0 cv os 0 cs ⟨#[]⟩ (some ad) 2 ce ⟨#[]⟩ 1 2).toArray 50)
  have c0 := (a5.cell (cell_lt c0)).trans c0
  have d1 := (a5.cell (cell_lt d1)).trans d1
  have d1 : (w4.alloc (.cells (entC8 ok 0 ck ov 0 cv os 0 cs ⟨#[]⟩ (some ad) 2 ce ⟨#[]⟩ 1 2).toArray 50)).cell? ⟨ad.block, ad.off + 2 + 1, none⟩ = some (.string ⟨#[109, 97, 120, 45, 97, 103, 101, 61, 53]⟩) := d1
  have n5 := RowAt.new w4 (entC8 ok 0 ck ov 0 cv os 0 cs ⟨#[]⟩ (some ad) 2 ce ⟨#[]⟩ 1 2) 50
  have n4 := n5.cell 4 rfl
  have n7 := n5.cell 7 rfl
  have b5 := step_b (step_b b3 hb) a5
  clear HR RE z3 b3 hb FO c1 d0 a5 n5
  go_wp2_with fail
  refine (inval_post _).mono ?_
  rintro e w6 ⟨rfl, rfl⟩
  go_wp2_with fail
  go_ret
  exact ⟨rfl, b5⟩
theorem wpAnyH_takeD {P : Program} {ops : Array Oper} {Q : Exit → Act → World → Prop} {md : Region.Mode} {S : World → Prop} {i : Nat} {oi : Oper} {v : Value} {d : Option Tmp} {fuel : Nat} {listed : Array Bool} {a : Act} {w : World} (hi : ops[i]? = some oi) (hd : oi.dst = d)
    (hs : Region.noSelect ops = true) (hf : Region.free md ops listed i = true) (hr : (Region.ready md ops listed).contains i = true)
    (hQ : ∀ c a w, Q (.panic c) (a.put d v) w → Q (.panic c) a w) (hy : YieldsIf P ops S oi v a) (hS : S w)
    (h : wpAnyH P md ops Q S fuel (listed.setIfInBounds i true) (a.put d v) w) : wpAnyH P md ops Q S (fuel + 1) listed a w := by
  subst hd
  exact wpAnyH_take hi hs hf hr hQ hy hS h
theorem upk13 {w1 w2 w3 : World} {p0 p1 p2 p3 p4 p5 p6 p7 p8 p9 p10 p11 p12 : Addr} {v0 v1 v2 v3 v4 v5 v6 v7 v8 v9 v10 v11 v12 : Value} (h : w1.cell? p0 = some v0 ∧ w1.cell? p1 = some v1 ∧ w1.cell? p2 = some v2 ∧ w1.cell? p3 = some v3 ∧ w1.cell? p4 = some v4 ∧ w1.cell? p5 = some v5 ∧ w1.cell? p6 = some v6 ∧ w1.cell? p7 = some v7 ∧ w1.cell? p8 = some v8 ∧ w1.cell? p9 = some v9 ∧ w1.cell? p10 = some v10 ∧ w1.cell? p11 = some v11 ∧ w1.cell? p12 = some v12 ∧ Below w3.heap.size w3 w1) (hb : Below w1.heap.size w1 w2) : w2.cell? p0 = some v0 ∧ w2.cell? p1 = some v1 ∧ w2.cell? p2 = some v2 ∧ w2.cell? p3 = some v3 ∧ w2.cell? p4 = some v4 ∧ w2.cell? p5 = some v5 ∧ w2.cell? p6 = some v6 ∧ w2.cell? p7 = some v7 ∧ w2.cell? p8 = some v8 ∧ w2.cell? p9 = some v9 ∧ w2.cell? p10 = some v10 ∧ w2.cell? p11 = some v11 ∧ w2.cell? p12 = some v12 ∧ Below w3.heap.size w3 w2 := by
  obtain ⟨h0, h1, h2, h3, h4, h5, h6, h7, h8, h9, h10, h11, h12, hl⟩ := h
  exact ⟨(hb.cell (cell_lt h0)).trans h0, (hb.cell (cell_lt h1)).trans h1, (hb.cell (cell_lt h2)).trans h2, (hb.cell (cell_lt h3)).trans h3, (hb.cell (cell_lt h4)).trans h4, (hb.cell (cell_lt h5)).trans h5, (hb.cell (cell_lt h6)).trans h6, (hb.cell (cell_lt h7)).trans h7, (hb.cell (cell_lt h8)).trans h8, (hb.cell (cell_lt h9)).trans h9, (hb.cell (cell_lt h10)).trans h10, (hb.cell (cell_lt h11)).trans h11, (hb.cell (cell_lt h12)).trans h12, step_b hl hb⟩
theorem uph13 {w1 w3 : World} {p0 p1 p2 p3 p4 p5 p6 p7 p8 p9 p10 p11 p12 : Addr} {v0 v1 v2 v3 v4 v5 v6 v7 v8 v9 v10 v11 v12 : Value} (h : w1.cell? p0 = some v0 ∧ w1.cell? p1 = some v1 ∧ w1.cell? p2 = some v2 ∧ w1.cell? p3 = some v3 ∧ w1.cell? p4 = some v4 ∧ w1.cell? p5 = some v5 ∧ w1.cell? p6 = some v6 ∧ w1.cell? p7 = some v7 ∧ w1.cell? p8 = some v8 ∧ w1.cell? p9 = some v9 ∧ w1.cell? p10 = some v10 ∧ w1.cell? p11 = some v11 ∧ w1.cell? p12 = some v12 ∧ Below w3.heap.size w3 w1) : w1.cell? p0 = some v0 ∧ w1.cell? p1 = some v1 ∧ w1.cell? p2 = some v2 ∧ w1.cell? p3 = some v3 ∧ w1.cell? p4 = some v4 ∧ w1.cell? p5 = some v5 ∧ w1.cell? p6 = some v6 ∧ w1.cell? p7 = some v7 ∧ w1.cell? p8 = some v8 ∧ w1.cell? p9 = some v9 ∧ w1.cell? p10 = some v10 ∧ w1.cell? p11 = some v11 ∧ w1.cell? p12 = some v12 ∧ Below w3.heap.size w3 w1 := h
theorem upl13 {w1 w3 : World} {p0 p1 p2 p3 p4 p5 p6 p7 p8 p9 p10 p11 p12 : Addr} {v0 v1 v2 v3 v4 v5 v6 v7 v8 v9 v10 v11 v12 : Value} (h : w1.cell? p0 = some v0 ∧ w1.cell? p1 = some v1 ∧ w1.cell? p2 = some v2 ∧ w1.cell? p3 = some v3 ∧ w1.cell? p4 = some v4 ∧ w1.cell? p5 = some v5 ∧ w1.cell? p6 = some v6 ∧ w1.cell? p7 = some v7 ∧ w1.cell? p8 = some v8 ∧ w1.cell? p9 = some v9 ∧ w1.cell? p10 = some v10 ∧ w1.cell? p11 = some v11 ∧ w1.cell? p12 = some v12 ∧ Below w3.heap.size w3 w1) : Below w3.heap.size w3 w1 := h.2.2.2.2.2.2.2.2.2.2.2.2.2
theorem upk3 {w1 w2 w3 : World} {p0 p1 p2 : Addr} {v0 v1 v2 : Value} (h : w1.cell? p0 = some v0 ∧ w1.cell? p1 = some v1 ∧ w1.cell? p2 = some v2 ∧ Below w3.heap.size w3 w1) (hb : Below w1.heap.size w1 w2) : w2.cell? p0 = some v0 ∧ w2.cell? p1 = some v1 ∧ w2.cell? p2 = some v2 ∧ Below w3.heap.size w3 w2 := by
  obtain ⟨h0, h1, h2, hl⟩ := h
  exact ⟨(hb.cell (cell_lt h0)).trans h0, (hb.cell (cell_lt h1)).trans h1, (hb.cell (cell_lt h2)).trans h2, step_b hl hb⟩
theorem uph3 {w1 w3 : World} {p0 p1 p2 : Addr} {v0 v1 v2 : Value} (h : w1.cell? p0 = some v0 ∧ w1.cell? p1 = some v1 ∧ w1.cell? p2 = some v2 ∧ Below w3.heap.size w3 w1) : w1.cell? p0 = some v0 ∧ w1.cell? p1 = some v1 ∧ w1.cell? p2 = some v2 ∧ Below w3.heap.size w3 w1 := h
theorem upl3 {w1 w3 : World} {p0 p1 p2 : Addr} {v0 v1 v2 : Value} (h : w1.cell? p0 = some v0 ∧ w1.cell? p1 = some v1 ∧ w1.cell? p2 = some v2 ∧ Below w3.heap.size w3 w1) : Below w3.heap.size w3 w1 := h.2.2.2
theorem upk2 {w1 w2 w3 : World} {p0 p1 : Addr} {v0 v1 : Value} (h : w1.cell? p0 = some v0 ∧ w1.cell? p1 = some v1 ∧ Below w3.heap.size w3 w1) (hb : Below w1.heap.size w1 w2) : w2.cell? p0 = some v0 ∧ w2.cell? p1 = some v1 ∧ Below w3.heap.size w3 w2 := by
  obtain ⟨h0, h1, hl⟩ := h
  exact ⟨(hb.cell (cell_lt h0)).trans h0, (hb.cell (cell_lt h1)).trans h1, step_b hl hb⟩
theorem uph2 {w1 w3 : World} {p0 p1 : Addr} {v0 v1 : Value} (h : w1.cell? p0 = some v0 ∧ w1.cell? p1 = some v1 ∧ Below w3.heap.size w3 w1) : w1.cell? p0 = some v0 ∧ w1.cell? p1 = some v1 ∧ Below w3.heap.size w3 w1 := h
theorem upl2 {w1 w3 : World} {p0 p1 : Addr} {v0 v1 : Value} (h : w1.cell? p0 = some v0 ∧ w1.cell? p1 = some v1 ∧ Below w3.heap.size w3 w1) : Below w3.heap.size w3 w1 := h.2.2
end Go.Proofs.YtglckhljpjcmaaaGreatDoor
namespace Go.Proofs.YtglckhljpjcmaaaGreatDoor
open Go.RowKit Go.Shelf
set_option linter.unusedSimpArgs false

def TgtOut (ls : List ByteArray) (w : World) (e : Ending) (w' : World) : Prop := ∃ (oa : Option Addr) (ca : Nat), e = .returned (.slice oa ls.length ca) ∧ StrO w' oa ls ∧ Below w.heap.size w w'
theorem TgtOut.of {ls : List ByteArray} {w : World} {e : Ending} {w' : World} (h : ∃ v, e = .returned v ∧ SBuf w' w.heap.size v ls ∧ Below w.heap.size w w') : TgtOut ls w e w' := by
  obtain ⟨v, rfl, SB, hb⟩ := h
  obtain ⟨oa, ca, rfl, so⟩ := StrO.ofS SB
  exact ⟨oa, ca, rfl, so, hb⟩
theorem tgt_len (u : Uri) (xs : List Fd) : (tgtL u xs).length ≤ 3 := by
  have h1 := stepT_len u [keyB u] (firstS (bs nLoc) xs)
  have h2 := stepT_len u (stepT u [keyB u] (firstS (bs nLoc) xs)) (firstS (bs nCLoc) xs)
  have h3 : ([keyB u] : List ByteArray).length = 1 := rfl
  show (stepT u (stepT u [keyB u] (firstS (bs nLoc) xs)) (firstS (bs nCLoc) xs)).length ≤ 3
  omega
theorem tgk10 {w1 w2 w3 : World} {p0 p1 p2 p3 p4 p5 p6 p7 p8 p9 : Addr} {v0 v1 v2 v3 v4 v5 v6 v7 v8 v9 : Value} (h : w1.cell? p0 = some v0 ∧ w1.cell? p1 = some v1 ∧ w1.cell? p2 = some v2 ∧ w1.cell? p3 = some v3 ∧ w1.cell? p4 = some v4 ∧ w1.cell? p5 = some v5 ∧ w1.cell? p6 = some v6 ∧ w1.cell? p7 = some v7 ∧ w1.cell? p8 = some v8 ∧ w1.cell? p9 = some v9 ∧ Below w3.heap.size w3 w1) (hb : Below w1.heap.size w1 w2) : w2.cell? p0 = some v0 ∧ w2.cell? p1 = some v1 ∧ w2.cell? p2 = some v2 ∧ w2.cell? p3 = some v3 ∧ w2.cell? p4 = some v4 ∧ w2.cell? p5 = some v5 ∧ w2.cell? p6 = some v6 ∧ w2.cell? p7 = some v7 ∧ w2.cell? p8 = some v8 ∧ w2.cell? p9 = some v9 ∧ Below w3.heap.size w3 w2 := by
  obtain ⟨h0, h1, h2, h3, h4, h5, h6, h7, h8, h9, hl⟩ := h
  exact ⟨(hb.cell (cell_lt h0)).trans h0, (hb.cell (cell_lt h1)).trans h1, (hb.cell (cell_lt h2)).trans h2, (hb.cell (cell_lt h3)).trans h3, (hb.cell (cell_lt h4)).trans h4, (hb.cell (cell_lt h5)).trans h5, (hb.cell (cell_lt h6)).trans h6, (hb.cell (cell_lt h7)).trans h7, (hb.cell (cell_lt h8)).trans h8, (hb.cell (cell_lt h9)).trans h9, step_b hl hb⟩
theorem tgl10 {w1 w3 : World} {p0 p1 p2 p3 p4 p5 p6 p7 p8 p9 : Addr} {v0 v1 v2 v3 v4 v5 v6 v7 v8 v9 : Value} (h : w1.cell? p0 = some v0 ∧ w1.cell? p1 = some v1 ∧ w1.cell? p2 = some v2 ∧ w1.cell? p3 = some v3 ∧ w1.cell? p4 = some v4 ∧ w1.cell? p5 = some v5 ∧ w1.cell? p6 = some v6 ∧ w1.cell? p7 = some v7 ∧ w1.cell? p8 = some v8 ∧ w1.cell? p9 = some v9 ∧ Below w3.heap.size w3 w1) : Below w3.heap.size w3 w1 := h.2.2.2.2.2.2.2.2.2.2
set_option maxHeartbeats 12800000 in
set_option maxRecDepth 100000 in
theorem targets_walk (h : ByteArray) (n : Int) (p q : ByteArray) (b : Bool) (m st : Int) (rs : ByteArray) (ox : Option Addr) (xs : List Fd) (cx : Nat) (bd : ByteArray) (me : ByteArray) (sx : Int) (w : World) (hw : (Lit.int .i64 n).wf = true) (hn : xs.length ≤ bigN) (_ : rs.size ≤ bigN) (_ : bd.size ≤ bigN) (hc : FldO w ox xs) (hme : me.size ≤ 9223372036854775807) (hsx : (Lit.int .i64 sx).wf = true) (hT : PowTab w) (hM : MaxOf w) :
    Calls Tryz.prog 3 #[.agg #[.string h, .int .i64 n, .string p, .string q, .bool b], respV m st rs ox xs.length cx bd, .string me, .int .i64 sx] w fun e w' => e = .returned (.bool true) ∧ Below w.heap.size w w' := by
  obtain ⟨i1, i2⟩ := bounds_i64 hw
  obtain ⟨i3, i4⟩ := bounds_i64 hsx
  obtain ⟨R0, P0, b0⟩ := rows2 w (uriC h n p q b) 23 (respC m st rs ox xs.length cx bd) 26
  have HX := Lib.hid hc
  have HT := Lib.hid hT
  have HM := Lib.hid hM
  have hn9 : xs.length ≤ 9223372036854775807 := hn
  clear hc hT hM hw hsx
  by_cases k1 : 100 < (h.size : Int)
  · go_enter Tryz.func3, Tryz.ntmps3
    go_wp2_with fail
    go_ret
    exact ⟨rfl, b0⟩
  by_cases k2 : 500 < (p.size : Int)
  · go_enter Tryz.func3, Tryz.ntmps3
    go_wp2_with fail
    go_ret
    exact ⟨rfl, b0⟩
  by_cases k3 : 500 < (q.size : Int)
  · go_enter Tryz.func3, Tryz.ntmps3
    go_wp2_with fail
    go_ret
    exact ⟨rfl, b0⟩
  go_enter Tryz.func3, Tryz.ntmps3
  go_wp2_with fail
  refine (keepR_any m st rs ox xs cx bd _ hn9 (HX.out.down b0)).mono ?_
  rintro e w1 ⟨he, hb1⟩
  have b1 := step_b b0 hb1
  have R1 := R0.below hb1
  have P1 := P0.below hb1
  clear b0 hb1 R0 P0
  cases hq : keepRB rs bd xs with
  | false =>
    rw [hq] at he
    subst he
    clear hq R1 P1
    go_wp2_with fail
    go_ret
    exact ⟨rfl, b1⟩
  | true =>
    rw [hq] at he
    subst he
    obtain ⟨hn70, hzx⟩ : xs.length ≤ 70 ∧ FldZ xs 300 := by
      unfold keepRB at hq
      simp only [Bool.and_eq_true, decide_eq_true_eq] at hq
      exact fieldsB_true hq.1.2
    have HXZ := Lib.hid hzx
    clear hq hzx
    by_cases k5 : 100 < (me.size : Int)
    · clear R1 P1
      go_wp2_with fail
      go_ret
      exact ⟨rfl, b1⟩
    obtain ⟨ls, hls⟩ : ∃ ls, ls = tgtL (mkU h n p q b) xs := ⟨_, rfl⟩
    have hl3 : ls.length ≤ 3 := by rw [hls]; exact tgt_len _ _
    have HTA : Hid (∀ (W : World), FldO W ox xs → PowTab W → MaxOf W → Calls Tryz.prog 7 #[.agg #[.string h, .int .i64 n, .string p, .string q, .bool b], respV m st rs ox xs.length cx bd] W (TgtOut ls W)) := Lib.hid fun W h1 h2 h3 => by
      rw [hls]
      exact (targets_any h n p q b m st rs ox xs cx bd W (by omega) (by omega) (by omega) i1 i2 (by omega) HXZ.out h1 h2 h3).mono fun _ _ h => TgtOut.of h
    have HRA : Hid (∀ (W : World), FldO W ox xs → Calls Tryz.prog 8 #[.agg #[.string h, .int .i64 n, .string p, .string q, .bool b], respV m st rs ox xs.length cx bd] W (TgtOut ls W)) := Lib.hid fun W h1 => by
      rw [hls]
      exact (rtargets_any h n p q b m st rs ox xs cx bd W (by omega) (by omega) (by omega) i1 i2 (by omega) HXZ.out h1).mono fun _ _ h => TgtOut.of h
    obtain ⟨r, hr⟩ : ∃ r, r = invB me sx := ⟨_, rfl⟩
    have HQ := Lib.hid hr
    have HX1 := Lib.hid (HX.out.down b1)
    have HT1 := Lib.hid (HT.out.below b1)
    have HM1 := Lib.hid (HM.out.below b1)
    have r0 := R1.cell 0 rfl
    have p0 := P1.cell 0 rfl
    have r1 := R1.cell 1 rfl
    have p1 := P1.cell 1 rfl
    have r2 := R1.cell 2 rfl
    have p2 := P1.cell 2 rfl
    have r3 := R1.cell 3 rfl
    have p3 := P1.cell 3 rfl
    have r4 := R1.cell 4 rfl
    have p4 := P1.cell 4 rfl
    clear hr hls HX HT HM R1 P1
    go_wp2_with fail
    go_region_held3 (fun w' => w'.cell? ⟨w.heap.size, 0, none⟩ = some (.string h) ∧ w'.cell? ⟨w.heap.size, 1, none⟩ = some (.int .i64 n) ∧ w'.cell? ⟨w.heap.size, 2, none⟩ = some (.string p) ∧ w'.cell? ⟨w.heap.size, 3, none⟩ = some (.string q) ∧ w'.cell? ⟨w.heap.size, 4, none⟩ = some (.bool b) ∧ w'.cell? ⟨w.heap.size + 1, 0, none⟩ = some (.int .i64 m) ∧ w'.cell? ⟨w.heap.size + 1, 1, none⟩ = some (.int .i64 st) ∧ w'.cell? ⟨w.heap.size + 1, 2, none⟩ = some (.string rs) ∧ w'.cell? ⟨w.heap.size + 1, 3, none⟩ = some (.slice ox xs.length cx) ∧ w'.cell? ⟨w.heap.size + 1, 4, none⟩ = some (.string bd) ∧ Below w1.heap.size w1 w') (first | assumption | exact ⟨r0, r1, r2, r3, r4, p0, p1, p2, p3, p4, (Below.refl _ _).drew⟩ | (exact tgk10 (by first | assumption | exact ⟨r0, r1, r2, r3, r4, p0, p1, p2, p3, p4, (Below.refl _ _).drew⟩) hbx)) (first | (go_at_call 7; (with_reducible refine (HTA.out _ (HX1.out.down (by first | exact (Below.refl _ _).drew | exact tgl10 (by assumption))) (HT1.out.below (by first | exact (Below.refl _ _).drew | exact tgl10 (by assumption))) (HM1.out.below (by first | exact (Below.refl _ _).drew | exact tgl10 (by assumption)))).mono ?_); rintro e w' ⟨o1, c1, rfl, G1, hbx⟩) | (go_at_call 8; (with_reducible refine (HRA.out _ (HX1.out.down (by first | exact (Below.refl _ _).drew | exact tgl10 (by assumption)))).mono ?_); rintro e w' ⟨o2, c2, rfl, G2, hbx⟩; have G1 := G1.down hbx) | (go_at_call 6; refine (ksamestr_any o1 o2 ls c1 c2 _ G1 G2 (by omega)).mono ?_; rintro e w' ⟨rfl, hbx⟩) | (go_at_call 9; refine (inval_any me sx _ i3 i4).mono ?_; rintro e w' ⟨he, rfl⟩; rw [← HQ.out] at he; subst he) | (go_at_call 10; refine (rinval_any me sx _ i3 i4).mono ?_; rintro e w' ⟨he, rfl⟩; rw [← HQ.out] at he; subst he) | (go_at_call 11; refine (awake29_any _).mono ?_; rintro e w' ⟨rfl, hbx⟩))
    all_goals
      have hq := tgl10 (w3 := w1) (by assumption)
      go_wp2_with fail
      go_ret
      exact ⟨rfl, step_b b1 hq⟩
end Go.Proofs.YtglckhljpjcmaaaGreatDoor
namespace Go.Proofs.YtglckhljpjcmaaaGreatDoor
open Go.RowKit Go.Shelf
set_option linter.unusedSimpArgs false

theorem tmk6 {w1 w2 w3 : World} {p0 p1 p2 p3 p4 p5 : Addr} {v0 v1 v2 v3 v4 v5 : Value} (h : w1.cell? p0 = some v0 ∧ w1.cell? p1 = some v1 ∧ w1.cell? p2 = some v2 ∧ w1.cell? p3 = some v3 ∧ w1.cell? p4 = some v4 ∧ w1.cell? p5 = some v5 ∧ Below w3.heap.size w3 w1) (hb : Below w1.heap.size w1 w2) : w2.cell? p0 = some v0 ∧ w2.cell? p1 = some v1 ∧ w2.cell? p2 = some v2 ∧ w2.cell? p3 = some v3 ∧ w2.cell? p4 = some v4 ∧ w2.cell? p5 = some v5 ∧ Below w3.heap.size w3 w2 := by
  obtain ⟨h0, h1, h2, h3, h4, h5, hl⟩ := h
  exact ⟨(hb.cell (cell_lt h0)).trans h0, (hb.cell (cell_lt h1)).trans h1, (hb.cell (cell_lt h2)).trans h2, (hb.cell (cell_lt h3)).trans h3, (hb.cell (cell_lt h4)).trans h4, (hb.cell (cell_lt h5)).trans h5, step_b hl hb⟩
theorem tml6 {w1 w3 : World} {p0 p1 p2 p3 p4 p5 : Addr} {v0 v1 v2 v3 v4 v5 : Value} (h : w1.cell? p0 = some v0 ∧ w1.cell? p1 = some v1 ∧ w1.cell? p2 = some v2 ∧ w1.cell? p3 = some v3 ∧ w1.cell? p4 = some v4 ∧ w1.cell? p5 = some v5 ∧ Below w3.heap.size w3 w1) : Below w3.heap.size w3 w1 := h.2.2.2.2.2.2
theorem uri_form2 (r : Uri × Int) : ∃ (N : ByteArray) (k : Int) (P Q : ByteArray) (b : Bool) (e : Int), r = (mkU N k P Q b, e) := ⟨⟨r.1.host.toArray⟩, r.1.port, ⟨r.1.path.toArray⟩, ⟨r.1.query.toArray⟩, r.1.has, r.2, rfl⟩
theorem each_of {U : Uri} {ls : List ByteArray} {mx : Nat} (ho : TgtOk U ls mx) {i : Nat} {x : ByteArray} (hx : ls[i]? = some x) {N : ByteArray} (hN : bs N = U.host) : ∃ (P Q : ByteArray) (b : Bool), parseV (parseU (bs x) (bs ⟨#[]⟩)) = .tuple #[.agg #[.string N, .int .i64 U.port, .string P, .string Q, .bool b], .int .i64 0] ∧ x.size ≤ 100000 := by
  obtain ⟨v, rfl, h1, h2, h3, h4⟩ := ho.each x (List.mem_of_getElem? hx)
  refine ⟨⟨v.path.toArray⟩, ⟨v.query.toArray⟩, v.has, ?_, ?_⟩
  · rw [keyB_bs, h4]
    show Value.tuple #[uriV v, .int .i64 0] = _
    unfold uriV
    rw [h1, h2, ← hN]
  · show (keyL v).length ≤ 100000
    omega
theorem apart_of {U : Uri} {ls : List ByteArray} {mx : Nat} (ho : TgtOk U ls mx) {i j : Nat} (hj : j < i) {x y : ByteArray} (hy : ls[j]? = some y) (hx : ls[i]? = some x) : (y.toList == x.toList) = false := by
  have := ho.apart i j hj y x hy hx
  rw [Bool.eq_false_iff]
  intro e
  rw [beq_iff_eq, Lib.toList_data, Lib.toList_data] at e
  exact this (by cases y; cases x; simp only [ByteArray.mk.injEq]; exact Array.toList_inj.1 e)
set_option maxHeartbeats 12800000 in
set_option maxRecDepth 100000 in
theorem local_walk (ta ho : ByteArray) (m st : Int) (rs : ByteArray) (ox : Option Addr) (xs : List Fd) (cx : Nat) (bd : ByteArray) (w : World) (_ : ta.size ≤ 9223372036854775807) (_ : ho.size ≤ 9223372036854775807) (hn : xs.length ≤ bigN) (_ : rs.size ≤ bigN) (_ : bd.size ≤ bigN) (hc : FldO w ox xs) (hT : PowTab w) (hM : MaxOf w) :
    Calls Tryz.prog 4 #[.string ta, .string ho, respV m st rs ox xs.length cx bd] w fun e w' => e = .returned (.bool true) ∧ Below w.heap.size w w' := by
  have P0 := RowAt.new w (respC m st rs ox xs.length cx bd) 26
  have b0 := alloc_b w (.cells (respC m st rs ox xs.length cx bd).toArray 26)
  have HX := Lib.hid hc
  have HT := Lib.hid hT
  have HM := Lib.hid hM
  have hn9 : xs.length ≤ 9223372036854775807 := hn
  clear hc hT hM
  by_cases k1 : 500 < (ta.size : Int)
  · go_enter Tryz.func4, Tryz.ntmps4
    go_wp2_with fail
    go_ret
    exact ⟨rfl, b0⟩
  by_cases k2 : 100 < (ho.size : Int)
  · go_enter Tryz.func4, Tryz.ntmps4
    go_wp2_with fail
    go_ret
    exact ⟨rfl, b0⟩
  go_enter Tryz.func4, Tryz.ntmps4
  go_wp2_with fail
  refine (keepR_any m st rs ox xs cx bd _ hn9 (HX.out.down b0)).mono ?_
  rintro e w1 ⟨he, hb1⟩
  have b1 := step_b b0 hb1
  have P1 := P0.below hb1
  clear b0 hb1 P0
  cases hq : keepRB rs bd xs with
  | false =>
    rw [hq] at he
    subst he
    clear hq P1
    go_wp2_with fail
    go_ret
    exact ⟨rfl, b1⟩
  | true =>
    rw [hq] at he
    subst he
    obtain ⟨hn70, hzx⟩ : xs.length ≤ 70 ∧ FldZ xs 300 := by
      unfold keepRB at hq
      simp only [Bool.and_eq_true, decide_eq_true_eq] at hq
      exact fieldsB_true hq.1.2
    have HXZ := Lib.hid hzx
    clear hq hzx
    obtain ⟨N, k, P, Q, b, er, hpu⟩ := uri_form2 (parseU (bs ta) (bs ho))
    have HPV : Hid (parseV (parseU (bs ta) (bs ho)) = .tuple #[.agg #[.string N, .int .i64 k, .string P, .string Q, .bool b], .int .i64 er]) := Lib.hid (by rw [hpu]; rfl)
    have HP := Lib.hid hpu
    clear hpu
    go_wp2_with fail
    refine (ruparse_any ta ho _ (by omega) (by omega)).mono ?_
    rintro e w2 ⟨rfl, hb2⟩
    rw [HPV.out]
    have a3 := alloc_b w2 (.cells (uriC N k P Q b).toArray 23)
    have R3 := RowAt.new w2 (uriC N k P Q b) 23
    have P3 := (P1.below hb2).below a3
    have b3 := step_b (step_b b1 hb2) a3
    clear a3 hb2 b1 P1 HPV
    by_cases her : er = 0
    · subst her
      have hpu := HP.out
      have hpl := parse_len hpu
      simp only [bs_length] at hpl
      have zN : N.size ≤ 600 := by have := hpl.1; have e : (mkU N k P Q b).host.length = N.size := bs_length N; omega
      have zP : P.size ≤ 501 := by have := hpl.2.1; have e : (mkU N k P Q b).path.length = P.size := bs_length P; omega
      have zQ : Q.size ≤ 500 := by have := hpl.2.2.1; have e : (mkU N k P Q b).query.length = Q.size := bs_length Q; omega
      have zk : k = 80 ∨ 1 ≤ k ∧ k ≤ 65535 := hpl.2.2.2
      have i1 : -9223372036854775808 ≤ k := by omega
      have i2 : k ≤ 9223372036854775807 := by omega
      have zi : (Lib.itoa k).length ≤ 40 := itoa_len i1 i2
      obtain ⟨U, hU⟩ : ∃ U, U = mkU N k P Q b := ⟨_, rfl⟩
      obtain ⟨ls, hls⟩ : ∃ ls, ls = tgtL U xs := ⟨_, rfl⟩
      have hok : TgtOk U ls 3 := by
        rw [hls, hU]
        exact tgt_ok hpu (by rw [bs_length, bs_length]; omega) HXZ.out zi
      obtain ⟨K, hK⟩ : ∃ K, K = keyB U := ⟨_, rfl⟩
      have HOK := Lib.hid hok
      have hl1 := hok.len.1
      have hl3 := hok.len.2
      have hNU : bs N = U.host := by rw [hU]
      have hkU : U.port = k := by rw [hU]
      have HNU := Lib.hid hNU
      have HKU := Lib.hid hkU
      have HL0 : Hid (ls[0]? = some K) := Lib.hid (by rw [hK]; exact hok.head)
      have HTA : Hid (∀ (W : World), FldO W ox xs → PowTab W → MaxOf W → Calls Tryz.prog 7 #[.agg #[.string N, .int .i64 k, .string P, .string Q, .bool b], respV m st rs ox xs.length cx bd] W (TgtOut ls W)) := Lib.hid fun W h1 h2 h3 => by
        rw [hls, hU]
        exact (targets_any N k P Q b m st rs ox xs cx bd W (by omega) (by omega) (by omega) i1 i2 (by omega) HXZ.out h1 h2 h3).mono fun _ _ h => TgtOut.of h
      have HKA : Hid (∀ (W : World), Calls Tryz.prog 13 #[.agg #[.string N, .int .i64 k, .string P, .string Q, .bool b]] W fun e w' => e = .returned (.string K) ∧ Below W.heap.size W w') := Lib.hid fun W => by
        rw [hK, hU]
        exact rkey_any N k P Q b W (by omega) (by omega) (by omega) i1 i2
      have HX3 := Lib.hid (HX.out.down b3)
      have HT3 := Lib.hid (HT.out.below b3)
      have HM3 := Lib.hid (HM.out.below b3)
      have p0 := P3.cell 0 rfl
      have p1 := P3.cell 1 rfl
      have p2 := P3.cell 2 rfl
      have p3 := P3.cell 3 rfl
      have p4 := P3.cell 4 rfl
      clear hpu hpl hok hU hls hK hNU hkU HX HT HM P3 HP
      go_wp2_with fail
      generalize w2.alloc (.cells (uriC N k P Q b).toArray 23) = w3 at *
      generalize w2.heap.size = gU at *
      refine (HTA.out w3 HX3.out HT3.out HM3.out).mono ?_
      rintro e w5 ⟨o5, c5, rfl, G5, hb5⟩
      have R5 := R3.below hb5
      have b5 := step_b b3 hb5
      obtain ⟨ad, rfl, c0⟩ := G5 0 K HL0.out
      rw [show ad.add 0 = ad from by unfold Addr.add; simp] at c0
      have HG5 := Lib.hid G5
      have r0 := R5.cell 0 rfl
      have r1 := R5.cell 1 rfl
      have r2 := R5.cell 2 rfl
      have r3 := R5.cell 3 rfl
      have r4 := R5.cell 4 rfl
      have n1 : ¬ (ls.length : Int) < 1 := by omega
      have n3 : ¬ 3 < (ls.length : Int) := by omega
      have n0 : (0 : Int) < (ls.length : Int) := by omega
      have n0' : 0 < ls.length := by omega
      have m1 : decide ((ls.length : Int) < 1) = false := by simp only [decide_eq_false_iff_not]; omega
      have m3 : decide (3 < (ls.length : Int)) = false := by simp only [decide_eq_false_iff_not]; omega
      clear hb5 R3 b3 G5 HX3 HT3 HM3 HTA p0 p1 p2 p3 p4
      go_wp2_with fail
      go_region_held3 (fun w' => w'.cell? ad = some (.string K) ∧ w'.cell? ⟨gU, 0, none⟩ = some (.string N) ∧ w'.cell? ⟨gU, 1, none⟩ = some (.int .i64 k) ∧ w'.cell? ⟨gU, 2, none⟩ = some (.string P) ∧ w'.cell? ⟨gU, 3, none⟩ = some (.string Q) ∧ w'.cell? ⟨gU, 4, none⟩ = some (.bool b) ∧ Below w5.heap.size w5 w') (first | assumption | exact ⟨c0, r0, r1, r2, r3, r4, (Below.refl _ _).drew⟩ | (exact tmk6 (by first | assumption | exact ⟨c0, r0, r1, r2, r3, r4, (Below.refl _ _).drew⟩) hbx)) ((go_at_call 13; (with_reducible refine (HKA.out _).mono ?_); rintro e w' ⟨rfl, hbx⟩))
      all_goals
        have d7 := tml6 (w3 := w5) (by assumption)
        have b7 := step_b b5 d7
        have HG7 := Lib.hid (HG5.out.down d7)
        have R7 := R5.below d7
        clear c0 r0 r1 r2 r3 r4 d7 b5 HG5 R5 n1 n3 m1 m3
        go_wp2_with fail
        generalize w' = w7 at *
        go_loopw [10] (fun c wr => ∃ i : Nat, i ≤ ls.length ∧ c = .int .i64 i ∧ Below w7.heap.size w7 wr) (fun c _ => ls.length - (intOf c).toNat)
        case atStart => exact ⟨0, by omega, rfl, Below.refl _ _⟩
        case round =>
          obtain ⟨i, hi, rfl, hb⟩ := hrel
          by_cases hil : i < ls.length
          · obtain ⟨x, hx⟩ : ∃ x, ls[i]? = some x := ⟨_, List.getElem?_eq_getElem hil⟩
            obtain ⟨_, had, c1⟩ := (HG7.out.down hb) i x hx
            cases had
            obtain ⟨P2, Q2, b2, hpv, zx⟩ := each_of HOK.out hx HNU.out
            rw [HKU.out] at hpv
            have HPV := Lib.hid hpv
            have hi2 : (i : Int) < (ls.length : Int) := by omega
            have HXI := Lib.hid hx
            clear hpv hx
            go_wp2_with fail
            refine (ruparse_any x ⟨#[]⟩ _ (by omega) (by decide)).mono ?_
            rintro e w9 ⟨rfl, hb9⟩
            rw [HPV.out]
            have a10 := alloc_b w9 (.cells (uriC N k P2 Q2 b2).toArray 23)
            have V10 := RowAt.new w9 (uriC N k P2 Q2 b2) 23
            have b10 := step_b hb (step_b hb9 a10)
            have R10 := R7.below b10
            have v0 := V10.cell 0 rfl
            have v1 := V10.cell 1 rfl
            have r0 := R10.cell 0 rfl
            have r1 := R10.cell 1 rfl
            clear c1 hb hb9 a10 V10 R10 HPV
            go_wp2_with fail
            generalize w9.alloc (.cells (uriC N k P2 Q2 b2).toArray 23) = w10 at *
            clear v0 v1 r0 r1
            go_loopw [13] (fun c wr => ∃ j : Nat, j ≤ i ∧ c = .int .i64 j ∧ Below w7.heap.size w7 wr) (fun c _ => i - (intOf c).toNat)
            case atStart => exact ⟨0, by omega, rfl, b10⟩
            case round =>
              clear b10
              obtain ⟨j, hj, rfl, hb⟩ := hrel
              by_cases hjl : j < i
              · obtain ⟨y, hy⟩ : ∃ y, ls[j]? = some y := ⟨_, List.getElem?_eq_getElem (show j < ls.length by omega)⟩
                obtain ⟨_, had, c1⟩ := (HG7.out.down hb) i x HXI.out
                cases had
                obtain ⟨_, had, c2⟩ := (HG7.out.down hb) j y hy
                cases had
                have hap := apart_of HOK.out hjl hy HXI.out
                have e1 : (0 : Int) ≤ (i : Int) := by omega
                have e2 : (0 : Int) ≤ (j : Int) := by omega
                have e3 : (j : Int) < (ls.length : Int) := by omega
                have e4 : (j : Int) < (i : Int) := by omega
                clear hy
                go_wp2_with fail
                go_quiet (fail)
                go_wp2_with fail
                go_roundw
                case rel => exact ⟨j + 1, by omega, by go_num, below_drewN hb _⟩
                case measure => simp [intOf]; omega
              · have e4 : ¬ (j : Int) < (i : Int) := by omega
                go_wp2_with fail
                go_roundw
                case rel => exact ⟨i + 1, by omega, by go_num, hb⟩
                case measure => simp [intOf]; omega
          · have e4 : ¬ (i : Int) < (ls.length : Int) := by omega
            go_wp2_with fail
            refine (awake29_any _).mono ?_
            rintro e w9 ⟨rfl, hb9⟩
            go_wp2_with fail
            go_ret
            exact ⟨rfl, step_b (step_b b7 hb) hb9⟩
    · have her' : (er != 0) = true := by simp [her]
      clear P3 R3
      go_wp2_with fail
      go_ret
      exact ⟨rfl, b3⟩
end Go.Proofs.YtglckhljpjcmaaaGreatDoor
