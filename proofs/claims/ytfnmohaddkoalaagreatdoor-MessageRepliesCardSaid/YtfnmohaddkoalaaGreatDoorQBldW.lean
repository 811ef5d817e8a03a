/- A strings.Builder of the call's own: copyCheck and WriteString, with what they leave as it was (lines of a worked proof, turned to this program: its copyCheck has no panic that the model gives a meaning). -/
import Derived.Test.YtfnmohaddkoalaaGreatDoorQPre
import Derived.Test.YtfnmohaddkoalaaGreatDoorShelf
import Derived.Shelf.Strings.BuilderK
import Derived.Lib.OthersKept
namespace Go.Proofs.YtfnmohaddkoalaaGreatDoor
open Go.RowKit Go.Shelf
set_option linter.unusedSimpArgs false

abbrev tBld : TypeId := 87
abbrev tU8 : TypeId := 5
theorem bld_size : (Tryz.prog.info? 87).map (·.size) = some 2 := by kernel_rfl
theorem bld_lies : liesAt Tryz.prog Tryz.prog.depth 87 (2 / Tryz.prog.cellsOf 87) 0 87 1 = true := by kernel_rfl
theorem bld_byte : (Tryz.prog.info? 5).map (fun i => (i.zero, i.size, i.bytes)) = some (some (.int .u8 0), 1, 1) := by kernel_rfl
/-- A builder that holds these bytes. -/
def BldAt (w : World) (B b : Nat) (l : List UInt8) : Prop := Lib.IsBuilder 87 5 B b (Lib.byteCells l) w
set_option maxHeartbeats 1000000 in
set_option maxRecDepth 100000 in
theorem ccheck_used (b : Nat) (w : World) (h0 : w.cell? ⟨b, 0, none⟩ = some (.pointer (some ⟨b, 0, none⟩))) :
    Calls Tryz.prog 82 #[.pointer (some ⟨b, 0, none⟩)] w fun e w' => e = .returned (.tuple #[]) ∧ w' = w := by
  obtain ⟨j, hj, _⟩ := Option.map_eq_some_iff.1 bld_size
  go_enter Tryz.func82, Tryz.ntmps82
  go_wp2
  rw [Lib.run_neq_ptr_same w _ Tryz.underlying84 hj]
  go_wp2
  go_end0
  exact ⟨rfl, rfl⟩
set_option maxHeartbeats 1000000 in
set_option maxRecDepth 100000 in
theorem ccheck_fresh (b : Nat) (w : World) (h0 : w.cell? ⟨b, 0, none⟩ = some (.pointer none)) (hsh : w.shape? b = some (87, 2)) (hfz : w.frozen? ⟨b, 0, none⟩ = false) :
    Calls Tryz.prog 82 #[.pointer (some ⟨b, 0, none⟩)] w fun e w' => e = .returned (.tuple #[]) ∧ w' = w.setCell ⟨b, 0, none⟩ (.pointer (some ⟨b, 0, none⟩)) := by
  obtain ⟨j, hj, hjs⟩ := Option.map_eq_some_iff.1 bld_size
  go_enter Tryz.func82, Tryz.ntmps82
  go_wp2
  rw [Lib.run_to_unsafe w ⟨b, 0, none⟩ Tryz.underlying84 Tryz.underlying122 hj (by rw [hjs]; decide) hsh (Nat.zero_lt_succ 1)]
  simp only [Result.andThen]
  rw [Oper.upon_value]
  go_wp2
  rw [run_callFunc_extern Tryz.func104 (by kernel_rfl) (by kernel_rfl) (by kernel_rfl) (e := Extern.AbiNoEscape.same) (by kernel_rfl)]
  rw [Lib.run_noEscape]
  simp only [Result.andThen]
  rw [Oper.upon_value]
  go_wp2
  rw [Lib.run_from_unsafe w ⟨b, 0, none⟩ Tryz.underlying122 Tryz.underlying84 hj hsh bld_lies]
  simp only [Result.andThen]
  rw [Oper.upon_value]
  go_wp2
  go_end0
  exact ⟨rfl, rfl⟩
/-- What is no row of bytes, and not the builder, stands. -/
def StandsBut (b : Nat) (w w' : World) : Prop := ∀ (k : Nat) (t : TypeId) (cs : List Value), k ≠ b → t ≠ 5 → RowAt w k t cs → RowAt w' k t cs
theorem ccheck_any (B b : Nat) (l : List UInt8) (w : World) (h : BldAt w B b l) :
    Calls Tryz.prog 82 #[.pointer (some ⟨b, 0, none⟩)] w fun e w' => e = .returned (.tuple #[]) ∧ Lib.BuilderAt 87 5 B b (.pointer (some ⟨b, 0, none⟩)) (Lib.byteCells l) w' ∧ Below B w w' ∧ w'.heap.size = w.heap.size ∧ ∀ k, k ≠ b → w'.heap[k]? = w.heap[k]? := by
  rcases h with h | h
  · refine (ccheck_fresh b w h.cell0 h.shape h.frozen0).mono ?_
    rintro e w' ⟨rfl, rfl⟩
    exact ⟨rfl, h.used _, (Below.refl B w).setCell (p := ⟨b, 0, none⟩) h.1 _, by simp, fun k hk => heap_setCell_other _ _ _ _ hk⟩
  · refine (ccheck_used b w h.cell0).mono ?_
    rintro e w' ⟨rfl, rfl⟩
    exact ⟨rfl, h, Below.refl B _, rfl, fun k _ => rfl⟩
set_option maxHeartbeats 2000000 in
set_option maxRecDepth 100000 in
theorem wrs_any (B b : Nat) (l : List UInt8) (s : ByteArray) (w : World) (h : BldAt w B b l) (hlen : l.length + s.size ≤ 1000000) (hBw : B ≤ w.heap.size) :
    Calls Tryz.prog 54 #[.pointer (some ⟨b, 0, none⟩), .string s] w fun e w' => e = .returned (.tuple #[.int .i64 s.size, .nilIface]) ∧ BldAt w' B b (l ++ bs s) ∧ Below B w w' ∧ w.heap.size ≤ w'.heap.size ∧ StandsBut b w w' := by
  obtain ⟨i0, hi, hz0, hz1, hz2⟩ := info_parts bld_byte
  have hBL : (Lib.byteCells l).length = l.length := Lib.byteCells_length l
  go_enter Tryz.func54, Tryz.ntmps54
  go_wp2_with (go_at_call 82; refine (ccheck_any B b l _ h).mono ?_)
  rintro e w1 ⟨rfl, h1, hb1, hz1', hk1⟩
  obtain ⟨hB, v, hbk, hown, hne⟩ := h1
  have c0 : w1.cell? ⟨b, 0, none⟩ = some (.pointer (some ⟨b, 0, none⟩)) := by rw [Lib.cell_of_heap hbk]; rfl
  have c1 : w1.cell? ⟨b, 1, none⟩ = some v := by rw [Lib.cell_of_heap hbk]; rfl
  go_wp2_with (at_builtin; refine Lib.wpList_append_own_string _ rfl _ _ 85 9 rfl B 5 i0 Tryz.underlying85 Tryz.underlying9 hi hz0 hz1 hz2 _ _ _ rfl hown s rfl ?c3 ?c4 ?c5 ?_)
  case c3 => unfold maxLen; omega
  case c4 => omega
  case c5 => omega
  intro v' w2 hown' hgrow _
  have hlt : b < w1.heap.size := by
    rcases Nat.lt_or_ge b w1.heap.size with h' | h'
    · exact h'
    · simp [Array.getElem?_eq_none h'] at hbk
  have hb2 : w2.heap[b]? = some (.cells #[.pointer (some ⟨b, 0, none⟩), v] 87 (0, 0)) := by
    rw [hgrow.block b hlt (fun e => hne e.symm)]
    exact hbk
  have d0 : w2.cell? ⟨b, 0, none⟩ = some (.pointer (some ⟨b, 0, none⟩)) := by rw [Lib.cell_of_heap hb2]; rfl
  have d1 : w2.cell? ⟨b, 1, none⟩ = some v := by rw [Lib.cell_of_heap hb2]; rfl
  have f1 : w2.frozen? ⟨b, 1, none⟩ = false := Lib.frozen_of_heap hb2 1
  have hgs := hgrow.size
  have hrow : StandsBut b w1 w2 := fun k t cs hk ht hr => by
    have hkl : k < w1.heap.size := hr.lt
    have hno := Lib.ownBlock_ne hown hr ht
    show w2.heap[k]? = _
    rw [hgrow.block k hkl (fun e => hno e.symm)]
    exact hr
  have hlow : ∀ j, v.ownBlock = some j → B ≤ j := fun j hj => (hown.lt j hj).1
  obtain ⟨ao, n', cap, rfl⟩ : ∃ ao n' cap, v' = .slice ao n' cap := by
    rcases hown'.2 with ⟨hv, _⟩ | ⟨g, cap, cur, hv, _⟩
    · exact ⟨_, _, _, hv⟩
    · exact ⟨_, _, _, hv⟩
  go_wp2
  go_ret2
  refine ⟨rfl, ?_, ?_, ?_, ?_⟩
  · refine .inr ?_
    have e1 : Lib.byteCells (l ++ bs s) = Lib.byteCells l ++ Lib.strCells s := Lib.byteCells_append l (bs s)
    rw [e1]
    exact Lib.BuilderAt.put (T := 87) (e := 5) hB hb2 (bs' := Lib.byteCells l ++ Lib.strCells s) (by simpa [Lib.strCells_length, hBL] using hown') (by decide)
  · exact (hb1.grown hgrow (by omega) hlow).setCell (p := ⟨b, 1, none⟩) hB _
  · have e2 : (w2.setCell ⟨b, 1, none⟩ (.slice ao n' cap)).heap.size = w2.heap.size := by simp
    rw [e2]; omega
  · intro k t cs hk ht hr
    have h1 : RowAt w1 k t cs := by show w1.heap[k]? = _; rw [hk1 k hk]; exact hr
    exact (hrow k t cs hk ht h1).setOther hk 1 _
theorem BldAt.fresh (w : World) : BldAt (w.alloc (.cells #[.pointer none, .slice none 0 0] 87)) w.heap.size w.heap.size [] := Lib.fresh_isBuilder _ _ w
theorem BldAt.lt {w : World} {B b : Nat} {l : List UInt8} (h : BldAt w B b l) : b < w.heap.size := by
  rcases h with h | h
  · exact h.lt
  · exact h.lt
/-- What leaves the builder's two blocks as they were leaves the builder. -/
theorem BldAt.kept {w w' : World} {B b : Nat} {l : List UInt8} (h : BldAt w B b l) (hk : ∀ (k : Nat) (c : Array Value) (t : TypeId), (t = 87 ∨ t = 5) → w.heap[k]? = some (Obj.cells c t (0, 0)) → w'.heap[k]? = w.heap[k]?) (hk2 : ∀ (k : Nat) (c : Array Value), w.heap[k]? = some (Obj.cells c 5 (0, 0)) → w'.heap[k]? = w.heap[k]?) : BldAt w' B b l := by
  have one : ∀ p, Lib.BuilderAt 87 5 B b p (Lib.byteCells l) w → Lib.BuilderAt 87 5 B b p (Lib.byteCells l) w' := by
    rintro p ⟨hB, v, hb, hown, hne⟩
    refine ⟨hB, v, by rw [hk b _ _ (.inl rfl) hb]; exact hb, ?_, hne⟩
    refine ⟨hown.1, ?_⟩
    rcases hown.2 with h0 | ⟨g, cap, cur, hv, h1, h2, h3⟩
    · exact .inl h0
    · exact .inr ⟨g, cap, cur, hv, h1, by rw [hk2 g _ h2]; exact h2, h3⟩
  exact h.elim (fun x => .inl (one _ x)) (fun x => .inr (one _ x))
theorem BldAt.below {w w' : World} {B b : Nat} {l : List UInt8} (h : BldAt w B b l) (hb : Below w.heap.size w w') : BldAt w' B b l := by
  have hlt : ∀ k (o : Obj), w.heap[k]? = some o → w'.heap[k]? = w.heap[k]? := fun k o hk => by
    rcases Nat.lt_or_ge k w.heap.size with h' | h'
    · exact hb.block k h'
    · rw [Array.getElem?_eq_none h'] at hk; cases hk
  exact h.kept (fun k c t _ hk => hlt k _ hk) (fun k c hk => hlt k _ hk)
theorem BldAt.setCell {w : World} {B b : Nat} {l : List UInt8} (h : BldAt w B b l) {g j : Nat} {t : TypeId} {cs : List Value} (hr : RowAt w g t cs) (ht : t ≠ 87 ∧ t ≠ 5) (v : Value) : BldAt (w.setCell ⟨g, j, none⟩ v) B b l := by
  have hne : ∀ (k : Nat) (c : Array Value) (u : TypeId), u ≠ t → w.heap[k]? = some (Obj.cells c u (0, 0)) → k ≠ g := fun k c u hu hk e => by
    subst e
    have h2 : w.heap[k]? = some (.cells cs.toArray t (0, 0)) := hr
    rw [h2] at hk
    cases hk
    exact hu rfl
  refine h.kept (fun k c u hu hk => ?_) (fun k c hk => ?_)
  · refine heap_setCell_other _ _ _ _ (hne k c u ?_ hk)
    rcases hu with rfl | rfl
    · exact fun e => ht.1 e.symm
    · exact fun e => ht.2 e.symm
  · exact heap_setCell_other _ _ _ _ (hne k c _ (fun e => ht.2 e.symm) hk)
theorem blen_any (B b : Nat) (l : List UInt8) (w : World) (h : BldAt w B b l) :
    Calls Tryz.prog 56 #[.pointer (some ⟨b, 0, none⟩)] w fun e w' => e = .returned (.int .i64 l.length) ∧ w = w' :=
  (Tryz.Builder_Len B b _ w h).mono fun e w' ⟨h1, h2⟩ => ⟨by rw [h1, Lib.byteCells_length], h2.symm⟩
/-- String: the bytes; what is no row of bytes stands. -/
theorem bstr_any (B b : Nat) (l : List UInt8) (w : World) (h : BldAt w B b l) (hBw : B ≤ w.heap.size) :
    Calls Tryz.prog 58 #[.pointer (some ⟨b, 0, none⟩)] w fun e w' => e = .returned (.string ⟨l.toArray⟩) ∧ Below B w w' ∧ StandsBut b w w' :=
  (Tryz.Builder_String_any_k B b l w (Lib.IsBuilderF.of h) hBw).mono fun e w' ⟨h1, _, h3, h4⟩ => ⟨h1, h3, fun k t cs hk ht hr => by
    have := h4 k _ (show w.heap[k]? = some (.cells cs.toArray t (0, 0)) from hr) (by simpa using hk) (fun c fz e => by cases e; exact ht rfl)
    exact this⟩
end Go.Proofs.YtfnmohaddkoalaaGreatDoor
