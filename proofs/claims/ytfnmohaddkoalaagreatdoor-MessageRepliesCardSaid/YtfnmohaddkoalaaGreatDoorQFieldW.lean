/- The walks of field lines (3.1, 3.2), of the program and of the reference. Printed by gen_fieldw.py. -/
import Derived.Test.YtfnmohaddkoalaaGreatDoorQLineW
import Derived.Test.YtfnmohaddkoalaaGreatDoorQAsciiW1
import Derived.Test.YtfnmohaddkoalaaGreatDoorQTrimW
import Derived.Test.YtfnmohaddkoalaaGreatDoorQPre
import Derived.Test.YtfnmohaddkoalaaGreatDoorQIdxW
import Derived.Deep.RegionHeld3
namespace Go.Proofs.YtfnmohaddkoalaaGreatDoor
open Go.RowKit Go.Shelf
set_option linter.unusedSimpArgs false

theorem wpAnyH_takeF {P : Program} {ops : Array Oper} {Q : Exit → Act → World → Prop} {md : Region.Mode} {S : World → Prop} {i : Nat} {oi : Oper} {v : Value} {d : Option Tmp} {fuel : Nat} {listed : Array Bool} {a : Act} {w : World} (hi : ops[i]? = some oi) (hd : oi.dst = d)
    (hs : Region.noSelect ops = true) (hf : Region.free md ops listed i = true) (hr : (Region.ready md ops listed).contains i = true)
    (hQ : ∀ c a w, Q (.panic c) (a.put d v) w → Q (.panic c) a w) (hy : YieldsIf P ops S oi v a) (hS : S w)
    (h : wpAnyH P md ops Q S fuel (listed.setIfInBounds i true) (a.put d v) w) : wpAnyH P md ops Q S (fuel + 1) listed a w := by
  subst hd
  exact wpAnyH_take hi hs hf hr hQ hy hS h
theorem fcat (a b : List UInt8) : (⟨a.toArray⟩ : ByteArray) ++ ⟨b.toArray⟩ = ⟨(a ++ b).toArray⟩ := by
  apply ByteArray.ext
  rw [ByteArray.data_append]
  simp
theorem femp_no {s : ByteArray} (h : s.size ≠ 0) : s.toList.isEmpty = false ∧ bs s ≠ [] := by
  have hb : bs s ≠ [] := fun e => h (by rw [← bs_length, e]; rfl)
  refine ⟨?_, hb⟩
  rw [Lib.toList_data]
  cases hx : s.data.toList with
  | nil => exact absurd hx hb
  | cons => rfl
theorem femp_yes {s : ByteArray} (h : s.size = 0) : s.toList.isEmpty = true ∧ bs s = [] := by
  have hb : bs s = [] := List.length_eq_zero_iff.1 (by rw [bs_length]; exact h)
  refine ⟨?_, hb⟩
  rw [Lib.toList_data]; show (bs s).isEmpty = true; rw [hb]; rfl
theorem fkeep2 {w1 w2 w3 : World} {p0 p1 : Addr} {v0 v1 : Value} (h : w1.cell? p0 = some v0 ∧ w1.cell? p1 = some v1 ∧ Below w3.heap.size w3 w1) (hb : Below w1.heap.size w1 w2) : w2.cell? p0 = some v0 ∧ w2.cell? p1 = some v1 ∧ Below w3.heap.size w3 w2 := ⟨(hb.cell (cell_lt h.1)).trans h.1, (hb.cell (cell_lt h.2.1)).trans h.2.1, step_b h.2.2 hb⟩
theorem flast2 {w1 w3 : World} {p0 p1 : Addr} {v0 v1 : Value} (h : w1.cell? p0 = some v0 ∧ w1.cell? p1 = some v1 ∧ Below w3.heap.size w3 w1) : Below w3.heap.size w3 w1 := h.2.2
set_option maxHeartbeats 800000 in
theorem line_any (n v : ByteArray) (w : World) (hn : n.size ≤ 1000000) (hv : v.size ≤ 1000000) :
    Calls Tryz.prog 84 #[.agg #[.string n, .string v]] w fun e w' => e = .returned (.string ⟨(formL (bs n) (bs v)).toArray⟩) ∧ Below w.heap.size w w' := by
  have b0 := alloc_b w (.cells #[.string n, .string v] 69)
  by_cases hz : v.size = 0
  · obtain ⟨e1, e2⟩ := femp_yes hz
    obtain ⟨x, hx⟩ : ∃ x : ByteArray, x = n ++ ⟨#[58]⟩ := ⟨_, rfl⟩
    have s1 : ∀ wx, (Op.stringOp .add n ⟨#[58]⟩).run Tryz.prog wx = .ok (.string x) wx := fun wx => by
      rw [hx]; exact run_string_add_sum wx _ _ (by show n.size + 1 ≤ _; omega)
    have HF : Hid (x = ⟨(formL (bs n) (bs v)).toArray⟩) := Lib.hid (by
      rw [hx, e2]
      show (⟨(bs n).toArray⟩ : ByteArray) ++ ⟨([58] : List UInt8).toArray⟩ = _
      rw [fcat]; rfl)
    clear hx hz e2
    go_enter Tryz.func84, Tryz.ntmps84
    go_wp2_with fail
    go_ret
    exact ⟨by rw [← HF.out]; rfl, b0⟩
  · obtain ⟨e1, e2⟩ := femp_no hz
    obtain ⟨x, hx⟩ : ∃ x : ByteArray, x = n ++ ⟨#[58, 32]⟩ := ⟨_, rfl⟩
    obtain ⟨y, hy⟩ : ∃ y : ByteArray, y = x ++ v := ⟨_, rfl⟩
    have zx : x.size ≤ 1000002 := by rw [hx, ByteArray.size_append]; show n.size + 2 ≤ _; omega
    have s1 : ∀ wx, (Op.stringOp .add n ⟨#[58, 32]⟩).run Tryz.prog wx = .ok (.string x) wx := fun wx => by
      rw [hx]; exact run_string_add_sum wx _ _ (by show n.size + 2 ≤ _; omega)
    have s2 : ∀ wx, (Op.stringOp .add x v).run Tryz.prog wx = .ok (.string y) wx := fun wx => by
      rw [hy]; exact run_string_add_sum wx _ _ (by omega)
    have HF : Hid (y = ⟨(formL (bs n) (bs v)).toArray⟩) := Lib.hid (by
      rw [hy, hx]
      show ((⟨(bs n).toArray⟩ : ByteArray) ++ ⟨([58, 32] : List UInt8).toArray⟩) ++ ⟨(bs v).toArray⟩ = _
      rw [fcat, fcat]
      unfold formL
      rw [if_neg e2, List.append_assoc]; rfl)
    clear hx hy hz e2 zx
    go_enter Tryz.func84, Tryz.ntmps84
    go_wp2_with fail
    go_ret
    exact ⟨by rw [← HF.out]; rfl, b0⟩
set_option maxHeartbeats 800000 in
theorem rform_any (n v : ByteArray) (w : World) (hn : n.size ≤ 1000000) (hv : v.size ≤ 1000000) :
    Calls Tryz.prog 43 #[.agg #[.string n, .string v]] w fun e w' => e = .returned (.string ⟨(formL (bs n) (bs v)).toArray⟩) ∧ Below w.heap.size w w' := by
  have b0 := alloc_b w (.cells #[.string n, .string v] 69)
  by_cases hz : v.size = 0
  · obtain ⟨e1, e2⟩ := femp_yes hz
    obtain ⟨x, hx⟩ : ∃ x : ByteArray, x = n ++ ⟨#[58]⟩ := ⟨_, rfl⟩
    have s1 : ∀ wx, (Op.stringOp .add n ⟨#[58]⟩).run Tryz.prog wx = .ok (.string x) wx := fun wx => by
      rw [hx]; exact run_string_add_sum wx _ _ (by show n.size + 1 ≤ _; omega)
    have HF : Hid (x = ⟨(formL (bs n) (bs v)).toArray⟩) := Lib.hid (by
      rw [hx, e2]
      show (⟨(bs n).toArray⟩ : ByteArray) ++ ⟨([58] : List UInt8).toArray⟩ = _
      rw [fcat]; rfl)
    clear hx hz e2
    go_enter Tryz.func43, Tryz.ntmps43
    go_wp2_with fail
    go_ret
    exact ⟨by rw [← HF.out]; rfl, b0⟩
  · obtain ⟨e1, e2⟩ := femp_no hz
    obtain ⟨x, hx⟩ : ∃ x : ByteArray, x = n ++ ⟨#[58, 32]⟩ := ⟨_, rfl⟩
    obtain ⟨y, hy⟩ : ∃ y : ByteArray, y = x ++ v := ⟨_, rfl⟩
    have zx : x.size ≤ 1000002 := by rw [hx, ByteArray.size_append]; show n.size + 2 ≤ _; omega
    have s1 : ∀ wx, (Op.stringOp .add n ⟨#[58, 32]⟩).run Tryz.prog wx = .ok (.string x) wx := fun wx => by
      rw [hx]; exact run_string_add_sum wx _ _ (by show n.size + 2 ≤ _; omega)
    have s2 : ∀ wx, (Op.stringOp .add x v).run Tryz.prog wx = .ok (.string y) wx := fun wx => by
      rw [hy]; exact run_string_add_sum wx _ _ (by omega)
    have HF : Hid (y = ⟨(formL (bs n) (bs v)).toArray⟩) := Lib.hid (by
      rw [hy, hx]
      show ((⟨(bs n).toArray⟩ : ByteArray) ++ ⟨([58, 32] : List UInt8).toArray⟩) ++ ⟨(bs v).toArray⟩ = _
      rw [fcat, fcat]
      unfold formL
      rw [if_neg e2, List.append_assoc]; rfl)
    clear hx hy hz e2 zx
    go_enter Tryz.func43, Tryz.ntmps43
    go_wp2_with fail
    go_ret
    exact ⟨by rw [← HF.out]; rfl, b0⟩
set_option maxHeartbeats 3200000 in
set_option maxRecDepth 100000 in
theorem fvalid_any (n v : ByteArray) (w : World) (hn : n.size ≤ 1000000) (hv : v.size ≤ 1000000) :
    Calls Tryz.prog 83 #[.agg #[.string n, .string v]] w fun e w' => e = .returned (.bool (validF (bs n) (bs v))) ∧ Below w.heap.size w w' := by
  have b0 := alloc_b w (.cells #[.string n, .string v] 69)
  have c0 := (RowAt.new w [.string n, .string v] 69).cell 0 rfl
  have c1 := (RowAt.new w [.string n, .string v] 69).cell 1 rfl
  obtain ⟨r, hr⟩ : ∃ r, r = validF (bs n) (bs v) := ⟨_, rfl⟩
  have HR := Lib.hid hr
  rw [← hr]
  clear hr
  cases ht : tokenB (bs n) with
  | false =>
    have HV : Hid (r = false) := Lib.hid (by rw [HR.out]; unfold validF; rw [ht]; rfl)
    have HT := Lib.hid ht
    clear ht
    go_enter Tryz.func83, Tryz.ntmps83
    go_wp2_with fail
    generalize w.alloc (.cells #[.string n, .string v] 69) = w1 at *
    refine wp_region_held_drew (S := fun w' => w'.cell? ⟨w.heap.size, 0, none⟩ = some (.string n) ∧ w'.cell? ⟨w.heap.size, 1, none⟩ = some (.string v) ∧ Below w1.heap.size w1 w') (by kernel_rfl) ⟨c0, c1, (Below.refl _ _).drew⟩ (fun hH => ?_)
    generalize w1.drew = y1 at *
    refine wpAnyH_takeF (i := 0) (v := .pointer (some ⟨w.heap.size, 0, none⟩)) (d := some 3) rfl rfl (by kernel_rfl) (by kernel_rfl) (by kernel_rfl) (fun _ _ _ h => h) (Or.inl ⟨by kernel_rfl, fun w9 h9 => by go_simp⟩) hH ?_
    try simp only [Act.put, List.setIfInBounds_toArray, List.set_cons_zero, List.set_cons_succ]
    refine wpAnyH_takeF (i := 1) (v := .string n) (d := some 4) rfl rfl (by kernel_rfl) (by kernel_rfl) (by kernel_rfl) (fun _ _ _ h => h) (Or.inl ⟨by kernel_rfl, fun w9 h9 => by have c9 := h9.1; go_simp⟩) hH ?_
    try simp only [Act.put, List.setIfInBounds_toArray, List.set_cons_zero, List.set_cons_succ]
    refine wpAnyH_ready (rs := [2]) (by kernel_rfl) (by simp) ?_
    refine AllReadyH.cons rfl (fun K hK => ?_) AllReadyH.nil
    go_simp
    go_at_call 72
    refine (token_any n _ (by omega)).mono ?_
    rintro e w' ⟨he, rfl⟩
    rw [HT.out] at he
    subst he
    refine hK.out _ _ hH (fun hH => ?_)
    clear hK K
    try simp only [Act.put, List.setIfInBounds_toArray, List.set_cons_zero, List.set_cons_succ]
    refine wpAnyH_takeF (i := 3) (v := .bool false) (d := some 6) rfl rfl (by kernel_rfl) (by kernel_rfl) (by kernel_rfl) (fun _ _ _ h => h) (Or.inl ⟨by kernel_rfl, fun w9 h9 => by go_simp⟩) hH ?_
    try simp only [Act.put, List.setIfInBounds_toArray, List.set_cons_zero, List.set_cons_succ]
    refine wpAnyH_takeF (i := 4) (v := undef) (d := some 7) rfl rfl (by kernel_rfl) (by kernel_rfl) (by kernel_rfl) (fun _ _ _ h => h) (Or.inr ⟨by kernel_rfl, rfl⟩) hH ?_
    try simp only [Act.put, List.setIfInBounds_toArray, List.set_cons_zero, List.set_cons_succ]
    refine wpAnyH_takeF (i := 5) (v := undef) (d := some 8) rfl rfl (by kernel_rfl) (by kernel_rfl) (by kernel_rfl) (fun _ _ _ h => h) (Or.inr ⟨by kernel_rfl, rfl⟩) hH ?_
    try simp only [Act.put, List.setIfInBounds_toArray, List.set_cons_zero, List.set_cons_succ]
    refine wpAnyH_takeF (i := 6) (v := undef) (d := some 9) rfl rfl (by kernel_rfl) (by kernel_rfl) (by kernel_rfl) (fun _ _ _ h => h) (Or.inr ⟨by kernel_rfl, rfl⟩) hH ?_
    try simp only [Act.put, List.setIfInBounds_toArray, List.set_cons_zero, List.set_cons_succ]
    refine wpAnyH_takeF (i := 7) (v := .bool false) (d := some 10) rfl rfl (by kernel_rfl) (by kernel_rfl) (by kernel_rfl) (fun _ _ _ h => h) (Or.inl ⟨by kernel_rfl, fun w9 h9 => by go_simp⟩) hH ?_
    try simp only [Act.put, List.setIfInBounds_toArray, List.set_cons_zero, List.set_cons_succ]
    refine wpAnyH_takeF (i := 8) (v := .bool false) (d := some 11) rfl rfl (by kernel_rfl) (by kernel_rfl) (by kernel_rfl) (fun _ _ _ h => h) (Or.inl ⟨by kernel_rfl, fun w9 h9 => by go_simp⟩) hH ?_
    try simp only [Act.put, List.setIfInBounds_toArray, List.set_cons_zero, List.set_cons_succ]
    refine wpAnyH_takeF (i := 9) (v := undef) (d := some 12) rfl rfl (by kernel_rfl) (by kernel_rfl) (by kernel_rfl) (fun _ _ _ h => h) (Or.inr ⟨by kernel_rfl, rfl⟩) hH ?_
    try simp only [Act.put, List.setIfInBounds_toArray, List.set_cons_zero, List.set_cons_succ]
    refine wpAnyH_takeF (i := 10) (v := undef) (d := some 13) rfl rfl (by kernel_rfl) (by kernel_rfl) (by kernel_rfl) (fun _ _ _ h => h) (Or.inr ⟨by kernel_rfl, rfl⟩) hH ?_
    try simp only [Act.put, List.setIfInBounds_toArray, List.set_cons_zero, List.set_cons_succ]
    refine wpAnyH_takeF (i := 11) (v := undef) (d := some 14) rfl rfl (by kernel_rfl) (by kernel_rfl) (by kernel_rfl) (fun _ _ _ h => h) (Or.inr ⟨by kernel_rfl, rfl⟩) hH ?_
    try simp only [Act.put, List.setIfInBounds_toArray, List.set_cons_zero, List.set_cons_succ]
    refine wpAnyH_takeF (i := 12) (v := undef) (d := some 15) rfl rfl (by kernel_rfl) (by kernel_rfl) (by kernel_rfl) (fun _ _ _ h => h) (Or.inr ⟨by kernel_rfl, rfl⟩) hH ?_
    try simp only [Act.put, List.setIfInBounds_toArray, List.set_cons_zero, List.set_cons_succ]
    refine wpAnyH_takeF (i := 13) (v := undef) (d := some 16) rfl rfl (by kernel_rfl) (by kernel_rfl) (by kernel_rfl) (fun _ _ _ h => h) (Or.inr ⟨by kernel_rfl, rfl⟩) hH ?_
    try simp only [Act.put, List.setIfInBounds_toArray, List.set_cons_zero, List.set_cons_succ]
    refine wpAnyH_takeF (i := 14) (v := undef) (d := some 17) rfl rfl (by kernel_rfl) (by kernel_rfl) (by kernel_rfl) (fun _ _ _ h => h) (Or.inr ⟨by kernel_rfl, rfl⟩) hH ?_
    try simp only [Act.put, List.setIfInBounds_toArray, List.set_cons_zero, List.set_cons_succ]
    refine wpAnyH_takeF (i := 15) (v := .bool false) (d := some 18) rfl rfl (by kernel_rfl) (by kernel_rfl) (by kernel_rfl) (fun _ _ _ h => h) (Or.inl ⟨by kernel_rfl, fun w9 h9 => by go_simp⟩) hH ?_
    try simp only [Act.put, List.setIfInBounds_toArray, List.set_cons_zero, List.set_cons_succ]
    refine wpAnyH_takeF (i := 16) (v := .bool false) (d := some 19) rfl rfl (by kernel_rfl) (by kernel_rfl) (by kernel_rfl) (fun _ _ _ h => h) (Or.inl ⟨by kernel_rfl, fun w9 h9 => by go_simp⟩) hH ?_
    try simp only [Act.put, List.setIfInBounds_toArray, List.set_cons_zero, List.set_cons_succ]
    refine wpAnyH_takeF (i := 17) (v := undef) (d := some 20) rfl rfl (by kernel_rfl) (by kernel_rfl) (by kernel_rfl) (fun _ _ _ h => h) (Or.inr ⟨by kernel_rfl, rfl⟩) hH ?_
    try simp only [Act.put, List.setIfInBounds_toArray, List.set_cons_zero, List.set_cons_succ]
    refine wpAnyH_takeF (i := 18) (v := undef) (d := some 21) rfl rfl (by kernel_rfl) (by kernel_rfl) (by kernel_rfl) (fun _ _ _ h => h) (Or.inr ⟨by kernel_rfl, rfl⟩) hH ?_
    try simp only [Act.put, List.setIfInBounds_toArray, List.set_cons_zero, List.set_cons_succ]
    refine wpAnyH_takeF (i := 19) (v := undef) (d := some 22) rfl rfl (by kernel_rfl) (by kernel_rfl) (by kernel_rfl) (fun _ _ _ h => h) (Or.inr ⟨by kernel_rfl, rfl⟩) hH ?_
    try simp only [Act.put, List.setIfInBounds_toArray, List.set_cons_zero, List.set_cons_succ]
    refine wpAnyH_takeF (i := 20) (v := undef) (d := some 23) rfl rfl (by kernel_rfl) (by kernel_rfl) (by kernel_rfl) (fun _ _ _ h => h) (Or.inr ⟨by kernel_rfl, rfl⟩) hH ?_
    try simp only [Act.put, List.setIfInBounds_toArray, List.set_cons_zero, List.set_cons_succ]
    refine wpAnyH_takeF (i := 21) (v := .bool false) (d := some 24) rfl rfl (by kernel_rfl) (by kernel_rfl) (by kernel_rfl) (fun _ _ _ h => h) (Or.inl ⟨by kernel_rfl, fun w9 h9 => by go_simp⟩) hH ?_
    try simp only [Act.put, List.setIfInBounds_toArray, List.set_cons_zero, List.set_cons_succ]
    refine wpAnyH_takeF (i := 22) (v := .bool false) (d := some 2) rfl rfl (by kernel_rfl) (by kernel_rfl) (by kernel_rfl) (fun _ _ _ h => h) (Or.inl ⟨by kernel_rfl, fun w9 h9 => by go_simp⟩) hH ?_
    try simp only [Act.put, List.setIfInBounds_toArray, List.set_cons_zero, List.set_cons_succ]
    refine wpAnyH_done (by kernel_rfl) ?_ _
    have hq := flast2 hH
    go_wp2_with fail
    go_ret
    exact ⟨ret_bool HV.out.symm, step_b b0 hq⟩
  | true =>
    have HT := Lib.hid ht
    cases hx : textB (bs v) with
    | false =>
      have HV : Hid (r = false) := Lib.hid (by rw [HR.out]; unfold validF; rw [ht, hx]; rfl)
      have HX := Lib.hid hx
      clear ht hx
      go_enter Tryz.func83, Tryz.ntmps83
      go_wp2_with fail
      generalize w.alloc (.cells #[.string n, .string v] 69) = w1 at *
      refine wp_region_held_drew (S := fun w' => w'.cell? ⟨w.heap.size, 0, none⟩ = some (.string n) ∧ w'.cell? ⟨w.heap.size, 1, none⟩ = some (.string v) ∧ Below w1.heap.size w1 w') (by kernel_rfl) ⟨c0, c1, (Below.refl _ _).drew⟩ (fun hH => ?_)
      generalize w1.drew = y1 at *
      refine wpAnyH_takeF (i := 0) (v := .pointer (some ⟨w.heap.size, 0, none⟩)) (d := some 3) rfl rfl (by kernel_rfl) (by kernel_rfl) (by kernel_rfl) (fun _ _ _ h => h) (Or.inl ⟨by kernel_rfl, fun w9 h9 => by go_simp⟩) hH ?_
      try simp only [Act.put, List.setIfInBounds_toArray, List.set_cons_zero, List.set_cons_succ]
      refine wpAnyH_takeF (i := 1) (v := .string n) (d := some 4) rfl rfl (by kernel_rfl) (by kernel_rfl) (by kernel_rfl) (fun _ _ _ h => h) (Or.inl ⟨by kernel_rfl, fun w9 h9 => by have c9 := h9.1; go_simp⟩) hH ?_
      try simp only [Act.put, List.setIfInBounds_toArray, List.set_cons_zero, List.set_cons_succ]
      refine wpAnyH_ready (rs := [2]) (by kernel_rfl) (by simp) ?_
      refine AllReadyH.cons rfl (fun K hK => ?_) AllReadyH.nil
      go_simp
      go_at_call 72
      refine (token_any n _ (by omega)).mono ?_
      rintro e w' ⟨he, rfl⟩
      rw [HT.out] at he
      subst he
      refine hK.out _ _ hH (fun hH => ?_)
      clear hK K
      try simp only [Act.put, List.setIfInBounds_toArray, List.set_cons_zero, List.set_cons_succ]
      refine wpAnyH_takeF (i := 3) (v := .bool true) (d := some 6) rfl rfl (by kernel_rfl) (by kernel_rfl) (by kernel_rfl) (fun _ _ _ h => h) (Or.inl ⟨by kernel_rfl, fun w9 h9 => by go_simp⟩) hH ?_
      try simp only [Act.put, List.setIfInBounds_toArray, List.set_cons_zero, List.set_cons_succ]
      refine wpAnyH_takeF (i := 4) (v := .pointer (some ⟨w.heap.size, 1, none⟩)) (d := some 7) rfl rfl (by kernel_rfl) (by kernel_rfl) (by kernel_rfl) (fun _ _ _ h => h) (Or.inl ⟨by kernel_rfl, fun w9 h9 => by go_simp⟩) hH ?_
      try simp only [Act.put, List.setIfInBounds_toArray, List.set_cons_zero, List.set_cons_succ]
      refine wpAnyH_takeF (i := 5) (v := .string v) (d := some 8) rfl rfl (by kernel_rfl) (by kernel_rfl) (by kernel_rfl) (fun _ _ _ h => h) (Or.inl ⟨by kernel_rfl, fun w9 h9 => by have c9 := h9.2.1; go_simp⟩) hH ?_
      try simp only [Act.put, List.setIfInBounds_toArray, List.set_cons_zero, List.set_cons_succ]
      refine wpAnyH_ready (rs := [6]) (by kernel_rfl) (by simp) ?_
      refine AllReadyH.cons rfl (fun K hK => ?_) AllReadyH.nil
      go_simp
      go_at_call 87
      refine (text_any v _ (by omega)).mono ?_
      rintro e w' ⟨he, rfl⟩
      rw [HX.out] at he
      subst he
      refine hK.out _ _ hH (fun hH => ?_)
      clear hK K
      try simp only [Act.put, List.setIfInBounds_toArray, List.set_cons_zero, List.set_cons_succ]
      refine wpAnyH_takeF (i := 7) (v := .bool false) (d := some 10) rfl rfl (by kernel_rfl) (by kernel_rfl) (by kernel_rfl) (fun _ _ _ h => h) (Or.inl ⟨by kernel_rfl, fun w9 h9 => by go_simp⟩) hH ?_
      try simp only [Act.put, List.setIfInBounds_toArray, List.set_cons_zero, List.set_cons_succ]
      refine wpAnyH_takeF (i := 8) (v := .bool false) (d := some 11) rfl rfl (by kernel_rfl) (by kernel_rfl) (by kernel_rfl) (fun _ _ _ h => h) (Or.inl ⟨by kernel_rfl, fun w9 h9 => by go_simp⟩) hH ?_
      try simp only [Act.put, List.setIfInBounds_toArray, List.set_cons_zero, List.set_cons_succ]
      refine wpAnyH_takeF (i := 9) (v := undef) (d := some 12) rfl rfl (by kernel_rfl) (by kernel_rfl) (by kernel_rfl) (fun _ _ _ h => h) (Or.inr ⟨by kernel_rfl, rfl⟩) hH ?_
      try simp only [Act.put, List.setIfInBounds_toArray, List.set_cons_zero, List.set_cons_succ]
      refine wpAnyH_takeF (i := 10) (v := undef) (d := some 13) rfl rfl (by kernel_rfl) (by kernel_rfl) (by kernel_rfl) (fun _ _ _ h => h) (Or.inr ⟨by kernel_rfl, rfl⟩) hH ?_
      try simp only [Act.put, List.setIfInBounds_toArray, List.set_cons_zero, List.set_cons_succ]
      refine wpAnyH_takeF (i := 11) (v := undef) (d := some 14) rfl rfl (by kernel_rfl) (by kernel_rfl) (by kernel_rfl) (fun _ _ _ h => h) (Or.inr ⟨by kernel_rfl, rfl⟩) hH ?_
      try simp only [Act.put, List.setIfInBounds_toArray, List.set_cons_zero, List.set_cons_succ]
      refine wpAnyH_takeF (i := 12) (v := undef) (d := some 15) rfl rfl (by kernel_rfl) (by kernel_rfl) (by kernel_rfl) (fun _ _ _ h => h) (Or.inr ⟨by kernel_rfl, rfl⟩) hH ?_
      try simp only [Act.put, List.setIfInBounds_toArray, List.set_cons_zero, List.set_cons_succ]
      refine wpAnyH_takeF (i := 13) (v := undef) (d := some 16) rfl rfl (by kernel_rfl) (by kernel_rfl) (by kernel_rfl) (fun _ _ _ h => h) (Or.inr ⟨by kernel_rfl, rfl⟩) hH ?_
      try simp only [Act.put, List.setIfInBounds_toArray, List.set_cons_zero, List.set_cons_succ]
      refine wpAnyH_takeF (i := 14) (v := undef) (d := some 17) rfl rfl (by kernel_rfl) (by kernel_rfl) (by kernel_rfl) (fun _ _ _ h => h) (Or.inr ⟨by kernel_rfl, rfl⟩) hH ?_
      try simp only [Act.put, List.setIfInBounds_toArray, List.set_cons_zero, List.set_cons_succ]
      refine wpAnyH_takeF (i := 15) (v := .bool false) (d := some 18) rfl rfl (by kernel_rfl) (by kernel_rfl) (by kernel_rfl) (fun _ _ _ h => h) (Or.inl ⟨by kernel_rfl, fun w9 h9 => by go_simp⟩) hH ?_
      try simp only [Act.put, List.setIfInBounds_toArray, List.set_cons_zero, List.set_cons_succ]
      refine wpAnyH_takeF (i := 16) (v := .bool false) (d := some 19) rfl rfl (by kernel_rfl) (by kernel_rfl) (by kernel_rfl) (fun _ _ _ h => h) (Or.inl ⟨by kernel_rfl, fun w9 h9 => by go_simp⟩) hH ?_
      try simp only [Act.put, List.setIfInBounds_toArray, List.set_cons_zero, List.set_cons_succ]
      refine wpAnyH_takeF (i := 17) (v := undef) (d := some 20) rfl rfl (by kernel_rfl) (by kernel_rfl) (by kernel_rfl) (fun _ _ _ h => h) (Or.inr ⟨by kernel_rfl, rfl⟩) hH ?_
      try simp only [Act.put, List.setIfInBounds_toArray, List.set_cons_zero, List.set_cons_succ]
      refine wpAnyH_takeF (i := 18) (v := undef) (d := some 21) rfl rfl (by kernel_rfl) (by kernel_rfl) (by kernel_rfl) (fun _ _ _ h => h) (Or.inr ⟨by kernel_rfl, rfl⟩) hH ?_
      try simp only [Act.put, List.setIfInBounds_toArray, List.set_cons_zero, List.set_cons_succ]
      refine wpAnyH_takeF (i := 19) (v := undef) (d := some 22) rfl rfl (by kernel_rfl) (by kernel_rfl) (by kernel_rfl) (fun _ _ _ h => h) (Or.inr ⟨by kernel_rfl, rfl⟩) hH ?_
      try simp only [Act.put, List.setIfInBounds_toArray, List.set_cons_zero, List.set_cons_succ]
      refine wpAnyH_takeF (i := 20) (v := undef) (d := some 23) rfl rfl (by kernel_rfl) (by kernel_rfl) (by kernel_rfl) (fun _ _ _ h => h) (Or.inr ⟨by kernel_rfl, rfl⟩) hH ?_
      try simp only [Act.put, List.setIfInBounds_toArray, List.set_cons_zero, List.set_cons_succ]
      refine wpAnyH_takeF (i := 21) (v := .bool false) (d := some 24) rfl rfl (by kernel_rfl) (by kernel_rfl) (by kernel_rfl) (fun _ _ _ h => h) (Or.inl ⟨by kernel_rfl, fun w9 h9 => by go_simp⟩) hH ?_
      try simp only [Act.put, List.setIfInBounds_toArray, List.set_cons_zero, List.set_cons_succ]
      refine wpAnyH_takeF (i := 22) (v := .bool false) (d := some 2) rfl rfl (by kernel_rfl) (by kernel_rfl) (by kernel_rfl) (fun _ _ _ h => h) (Or.inl ⟨by kernel_rfl, fun w9 h9 => by go_simp⟩) hH ?_
      try simp only [Act.put, List.setIfInBounds_toArray, List.set_cons_zero, List.set_cons_succ]
      refine wpAnyH_done (by kernel_rfl) ?_ _
      have hq := flast2 hH
      go_wp2_with fail
      go_ret
      exact ⟨ret_bool HV.out.symm, step_b b0 hq⟩
    | true =>
      have HX := Lib.hid hx
      obtain ⟨m, hm⟩ : ∃ m : ByteArray, m = ⟨(trimL (bs v)).toArray⟩ := ⟨_, rfl⟩
      have HM : Hid ((Ending.returned (.string ⟨(trimL (bs v)).toArray⟩) : Ending) = .returned (.string m)) := Lib.hid (by rw [hm])
      cases hq : (m.toList == v.toList) with
      | false =>
        have HV : Hid (r = false) := Lib.hid (by
          rw [HR.out]; unfold validF
          have : (trimL (bs v) == bs v) = false := by rw [Lib.toList_data, Lib.toList_data, hm] at hq; exact hq
          rw [this]; simp)
        clear ht hx hm
        go_enter Tryz.func83, Tryz.ntmps83
        go_wp2_with fail
        generalize w.alloc (.cells #[.string n, .string v] 69) = w1 at *
        refine wp_region_held_drew (S := fun w' => w'.cell? ⟨w.heap.size, 0, none⟩ = some (.string n) ∧ w'.cell? ⟨w.heap.size, 1, none⟩ = some (.string v) ∧ Below w1.heap.size w1 w') (by kernel_rfl) ⟨c0, c1, (Below.refl _ _).drew⟩ (fun hH => ?_)
        generalize w1.drew = y1 at *
        refine wpAnyH_takeF (i := 0) (v := .pointer (some ⟨w.heap.size, 0, none⟩)) (d := some 3) rfl rfl (by kernel_rfl) (by kernel_rfl) (by kernel_rfl) (fun _ _ _ h => h) (Or.inl ⟨by kernel_rfl, fun w9 h9 => by go_simp⟩) hH ?_
        try simp only [Act.put, List.setIfInBounds_toArray, List.set_cons_zero, List.set_cons_succ]
        refine wpAnyH_takeF (i := 1) (v := .string n) (d := some 4) rfl rfl (by kernel_rfl) (by kernel_rfl) (by kernel_rfl) (fun _ _ _ h => h) (Or.inl ⟨by kernel_rfl, fun w9 h9 => by have c9 := h9.1; go_simp⟩) hH ?_
        try simp only [Act.put, List.setIfInBounds_toArray, List.set_cons_zero, List.set_cons_succ]
        refine wpAnyH_ready (rs := [2]) (by kernel_rfl) (by simp) ?_
        refine AllReadyH.cons rfl (fun K hK => ?_) AllReadyH.nil
        go_simp
        go_at_call 72
        refine (token_any n _ (by omega)).mono ?_
        rintro e w' ⟨he, rfl⟩
        rw [HT.out] at he
        subst he
        refine hK.out _ _ hH (fun hH => ?_)
        clear hK K
        try simp only [Act.put, List.setIfInBounds_toArray, List.set_cons_zero, List.set_cons_succ]
        refine wpAnyH_takeF (i := 3) (v := .bool true) (d := some 6) rfl rfl (by kernel_rfl) (by kernel_rfl) (by kernel_rfl) (fun _ _ _ h => h) (Or.inl ⟨by kernel_rfl, fun w9 h9 => by go_simp⟩) hH ?_
        try simp only [Act.put, List.setIfInBounds_toArray, List.set_cons_zero, List.set_cons_succ]
        refine wpAnyH_takeF (i := 4) (v := .pointer (some ⟨w.heap.size, 1, none⟩)) (d := some 7) rfl rfl (by kernel_rfl) (by kernel_rfl) (by kernel_rfl) (fun _ _ _ h => h) (Or.inl ⟨by kernel_rfl, fun w9 h9 => by go_simp⟩) hH ?_
        try simp only [Act.put, List.setIfInBounds_toArray, List.set_cons_zero, List.set_cons_succ]
        refine wpAnyH_takeF (i := 5) (v := .string v) (d := some 8) rfl rfl (by kernel_rfl) (by kernel_rfl) (by kernel_rfl) (fun _ _ _ h => h) (Or.inl ⟨by kernel_rfl, fun w9 h9 => by have c9 := h9.2.1; go_simp⟩) hH ?_
        try simp only [Act.put, List.setIfInBounds_toArray, List.set_cons_zero, List.set_cons_succ]
        refine wpAnyH_ready (rs := [6]) (by kernel_rfl) (by simp) ?_
        refine AllReadyH.cons rfl (fun K hK => ?_) AllReadyH.nil
        go_simp
        go_at_call 87
        refine (text_any v _ (by omega)).mono ?_
        rintro e w' ⟨he, rfl⟩
        rw [HX.out] at he
        subst he
        refine hK.out _ _ hH (fun hH => ?_)
        clear hK K
        try simp only [Act.put, List.setIfInBounds_toArray, List.set_cons_zero, List.set_cons_succ]
        refine wpAnyH_takeF (i := 7) (v := .bool true) (d := some 10) rfl rfl (by kernel_rfl) (by kernel_rfl) (by kernel_rfl) (fun _ _ _ h => h) (Or.inl ⟨by kernel_rfl, fun w9 h9 => by go_simp⟩) hH ?_
        try simp only [Act.put, List.setIfInBounds_toArray, List.set_cons_zero, List.set_cons_succ]
        refine wpAnyH_takeF (i := 8) (v := .bool true) (d := some 11) rfl rfl (by kernel_rfl) (by kernel_rfl) (by kernel_rfl) (fun _ _ _ h => h) (Or.inl ⟨by kernel_rfl, fun w9 h9 => by go_simp⟩) hH ?_
        try simp only [Act.put, List.setIfInBounds_toArray, List.set_cons_zero, List.set_cons_succ]
        refine wpAnyH_takeF (i := 9) (v := .pointer (some ⟨w.heap.size, 1, none⟩)) (d := some 12) rfl rfl (by kernel_rfl) (by kernel_rfl) (by kernel_rfl) (fun _ _ _ h => h) (Or.inl ⟨by kernel_rfl, fun w9 h9 => by go_simp⟩) hH ?_
        try simp only [Act.put, List.setIfInBounds_toArray, List.set_cons_zero, List.set_cons_succ]
        refine wpAnyH_takeF (i := 10) (v := .string v) (d := some 13) rfl rfl (by kernel_rfl) (by kernel_rfl) (by kernel_rfl) (fun _ _ _ h => h) (Or.inl ⟨by kernel_rfl, fun w9 h9 => by have c9 := h9.2.1; go_simp⟩) hH ?_
        try simp only [Act.put, List.setIfInBounds_toArray, List.set_cons_zero, List.set_cons_succ]
        refine wpAnyH_takeF (i := 12) (v := .pointer (some ⟨w.heap.size, 1, none⟩)) (d := some 15) rfl rfl (by kernel_rfl) (by kernel_rfl) (by kernel_rfl) (fun _ _ _ h => h) (Or.inl ⟨by kernel_rfl, fun w9 h9 => by go_simp⟩) hH ?_
        try simp only [Act.put, List.setIfInBounds_toArray, List.set_cons_zero, List.set_cons_succ]
        refine wpAnyH_takeF (i := 13) (v := .string v) (d := some 16) rfl rfl (by kernel_rfl) (by kernel_rfl) (by kernel_rfl) (fun _ _ _ h => h) (Or.inl ⟨by kernel_rfl, fun w9 h9 => by have c9 := h9.2.1; go_simp⟩) hH ?_
        try simp only [Act.put, List.setIfInBounds_toArray, List.set_cons_zero, List.set_cons_succ]
        refine wpAnyH_ready (rs := [11]) (by kernel_rfl) (by simp) ?_
        refine AllReadyH.cons rfl (fun K hK => ?_) AllReadyH.nil
        go_simp
        go_at_call 97
        refine (trim_any v _ (by omega)).mono ?_
        rintro e w' ⟨he, hb⟩
        rw [HM.out] at he
        subst he
        have hS := fkeep2 hH hb
        clear hb hH
        refine hK.out _ _ hS (fun hH => ?_)
        clear hK K
        try simp only [Act.put, List.setIfInBounds_toArray, List.set_cons_zero, List.set_cons_succ]
        refine wpAnyH_takeF (i := 14) (v := .bool false) (d := some 17) rfl rfl (by kernel_rfl) (by kernel_rfl) (by kernel_rfl) (fun _ _ _ h => h) (Or.inl ⟨by kernel_rfl, fun w9 h9 => by go_simp⟩) hH ?_
        try simp only [Act.put, List.setIfInBounds_toArray, List.set_cons_zero, List.set_cons_succ]
        refine wpAnyH_takeF (i := 15) (v := .bool false) (d := some 18) rfl rfl (by kernel_rfl) (by kernel_rfl) (by kernel_rfl) (fun _ _ _ h => h) (Or.inl ⟨by kernel_rfl, fun w9 h9 => by go_simp⟩) hH ?_
        try simp only [Act.put, List.setIfInBounds_toArray, List.set_cons_zero, List.set_cons_succ]
        refine wpAnyH_takeF (i := 16) (v := .bool false) (d := some 19) rfl rfl (by kernel_rfl) (by kernel_rfl) (by kernel_rfl) (fun _ _ _ h => h) (Or.inl ⟨by kernel_rfl, fun w9 h9 => by go_simp⟩) hH ?_
        try simp only [Act.put, List.setIfInBounds_toArray, List.set_cons_zero, List.set_cons_succ]
        refine wpAnyH_takeF (i := 17) (v := undef) (d := some 20) rfl rfl (by kernel_rfl) (by kernel_rfl) (by kernel_rfl) (fun _ _ _ h => h) (Or.inr ⟨by kernel_rfl, rfl⟩) hH ?_
        try simp only [Act.put, List.setIfInBounds_toArray, List.set_cons_zero, List.set_cons_succ]
        refine wpAnyH_takeF (i := 18) (v := undef) (d := some 21) rfl rfl (by kernel_rfl) (by kernel_rfl) (by kernel_rfl) (fun _ _ _ h => h) (Or.inr ⟨by kernel_rfl, rfl⟩) hH ?_
        try simp only [Act.put, List.setIfInBounds_toArray, List.set_cons_zero, List.set_cons_succ]
        refine wpAnyH_takeF (i := 19) (v := undef) (d := some 22) rfl rfl (by kernel_rfl) (by kernel_rfl) (by kernel_rfl) (fun _ _ _ h => h) (Or.inr ⟨by kernel_rfl, rfl⟩) hH ?_
        try simp only [Act.put, List.setIfInBounds_toArray, List.set_cons_zero, List.set_cons_succ]
        refine wpAnyH_takeF (i := 20) (v := undef) (d := some 23) rfl rfl (by kernel_rfl) (by kernel_rfl) (by kernel_rfl) (fun _ _ _ h => h) (Or.inr ⟨by kernel_rfl, rfl⟩) hH ?_
        try simp only [Act.put, List.setIfInBounds_toArray, List.set_cons_zero, List.set_cons_succ]
        refine wpAnyH_takeF (i := 21) (v := .bool false) (d := some 24) rfl rfl (by kernel_rfl) (by kernel_rfl) (by kernel_rfl) (fun _ _ _ h => h) (Or.inl ⟨by kernel_rfl, fun w9 h9 => by go_simp⟩) hH ?_
        try simp only [Act.put, List.setIfInBounds_toArray, List.set_cons_zero, List.set_cons_succ]
        refine wpAnyH_takeF (i := 22) (v := .bool false) (d := some 2) rfl rfl (by kernel_rfl) (by kernel_rfl) (by kernel_rfl) (fun _ _ _ h => h) (Or.inl ⟨by kernel_rfl, fun w9 h9 => by go_simp⟩) hH ?_
        try simp only [Act.put, List.setIfInBounds_toArray, List.set_cons_zero, List.set_cons_succ]
        refine wpAnyH_done (by kernel_rfl) ?_ _
        have hq := flast2 hH
        go_wp2_with fail
        go_ret
        exact ⟨ret_bool HV.out.symm, step_b b0 hq⟩
      | true =>
        obtain ⟨x, hxx⟩ : ∃ x : ByteArray, x = ⟨(formL (bs n) (bs v)).toArray⟩ := ⟨_, rfl⟩
        have HL : Hid (∀ wx, Calls Tryz.prog 84 #[.agg #[.string n, .string v]] wx fun e w' => e = .returned (.string x) ∧ Below wx.heap.size wx w') := Lib.hid fun wx => by
          rw [hxx]; exact line_any n v wx hn hv
        have HV : Hid (r = decide ((x.size : Int) ≤ 2000)) := Lib.hid (by
          rw [HR.out]; unfold validF
          have h1 : (trimL (bs v) == bs v) = true := by rw [Lib.toList_data, Lib.toList_data, hm] at hq; exact hq
          have h2 : x.size = (formL (bs n) (bs v)).length := by rw [hxx]; rfl
          rw [ht, hx, h1, h2]
          show decide _ = decide _
          rw [Bool.eq_iff_iff]; simp only [decide_eq_true_eq]; omega)
        clear ht hx hm hxx
        go_enter Tryz.func83, Tryz.ntmps83
        go_wp2_with fail
        generalize w.alloc (.cells #[.string n, .string v] 69) = w1 at *
        go_region_held3 (fun w' => w'.cell? ⟨w.heap.size, 0, none⟩ = some (.string n) ∧ w'.cell? ⟨w.heap.size, 1, none⟩ = some (.string v) ∧ Below w1.heap.size w1 w') (first | assumption | exact ⟨c0, c1, (Below.refl _ _).drew⟩ | (exact fkeep2 (by first | assumption | exact ⟨c0, c1, (Below.refl _ _).drew⟩) hbx)) (first | (go_at_call 72; refine (token_any n _ (by omega)).mono ?_; rintro e w' ⟨he, rfl⟩; rw [HT.out] at he; subst he) | (go_at_call 87; refine (text_any v _ (by omega)).mono ?_; rintro e w' ⟨he, rfl⟩; rw [HX.out] at he; subst he) | (go_at_call 97; refine (trim_any v _ (by omega)).mono ?_; rintro e w' ⟨he, hbx⟩; rw [HM.out] at he; subst he) | (go_at_call 84; (with_reducible refine (HL.out _).mono ?_); rintro e w' ⟨rfl, hbx⟩))
        all_goals
          have hq := flast2 (w3 := w1) (by assumption)
          go_wp2_with fail
          go_ret
          exact ⟨ret_bool HV.out.symm, step_b b0 hq⟩
set_option maxHeartbeats 3200000 in
set_option maxRecDepth 100000 in
theorem rfvalid_any (n v : ByteArray) (w : World) (hn : n.size ≤ 1000000) (hv : v.size ≤ 1000000) :
    Calls Tryz.prog 42 #[.agg #[.string n, .string v]] w fun e w' => e = .returned (.bool (validF (bs n) (bs v))) ∧ Below w.heap.size w w' := by
  have b0 := alloc_b w (.cells #[.string n, .string v] 69)
  have c0 := (RowAt.new w [.string n, .string v] 69).cell 0 rfl
  have c1 := (RowAt.new w [.string n, .string v] 69).cell 1 rfl
  obtain ⟨r, hr⟩ : ∃ r, r = validF (bs n) (bs v) := ⟨_, rfl⟩
  have HR := Lib.hid hr
  rw [← hr]
  clear hr
  cases ht : tokenB (bs n) with
  | false =>
    have HV : Hid (r = false) := Lib.hid (by rw [HR.out]; unfold validF; rw [ht]; rfl)
    have HT := Lib.hid ht
    clear ht
    go_enter Tryz.func42, Tryz.ntmps42
    go_wp2_with fail
    generalize w.alloc (.cells #[.string n, .string v] 69) = w1 at *
    refine wp_region_held_drew (S := fun w' => w'.cell? ⟨w.heap.size, 0, none⟩ = some (.string n) ∧ w'.cell? ⟨w.heap.size, 1, none⟩ = some (.string v) ∧ Below w1.heap.size w1 w') (by kernel_rfl) ⟨c0, c1, (Below.refl _ _).drew⟩ (fun hH => ?_)
    generalize w1.drew = y1 at *
    refine wpAnyH_takeF (i := 0) (v := .pointer (some ⟨w.heap.size, 0, none⟩)) (d := some 3) rfl rfl (by kernel_rfl) (by kernel_rfl) (by kernel_rfl) (fun _ _ _ h => h) (Or.inl ⟨by kernel_rfl, fun w9 h9 => by go_simp⟩) hH ?_
    try simp only [Act.put, List.setIfInBounds_toArray, List.set_cons_zero, List.set_cons_succ]
    refine wpAnyH_takeF (i := 1) (v := .string n) (d := some 4) rfl rfl (by kernel_rfl) (by kernel_rfl) (by kernel_rfl) (fun _ _ _ h => h) (Or.inl ⟨by kernel_rfl, fun w9 h9 => by have c9 := h9.1; go_simp⟩) hH ?_
    try simp only [Act.put, List.setIfInBounds_toArray, List.set_cons_zero, List.set_cons_succ]
    refine wpAnyH_ready (rs := [2]) (by kernel_rfl) (by simp) ?_
    refine AllReadyH.cons rfl (fun K hK => ?_) AllReadyH.nil
    go_simp
    go_at_call 63
    refine (rtoken_any n _ (by omega)).mono ?_
    rintro e w' ⟨he, rfl⟩
    rw [HT.out] at he
    subst he
    refine hK.out _ _ hH (fun hH => ?_)
    clear hK K
    try simp only [Act.put, List.setIfInBounds_toArray, List.set_cons_zero, List.set_cons_succ]
    refine wpAnyH_takeF (i := 3) (v := .bool false) (d := some 6) rfl rfl (by kernel_rfl) (by kernel_rfl) (by kernel_rfl) (fun _ _ _ h => h) (Or.inl ⟨by kernel_rfl, fun w9 h9 => by go_simp⟩) hH ?_
    try simp only [Act.put, List.setIfInBounds_toArray, List.set_cons_zero, List.set_cons_succ]
    refine wpAnyH_takeF (i := 4) (v := undef) (d := some 7) rfl rfl (by kernel_rfl) (by kernel_rfl) (by kernel_rfl) (fun _ _ _ h => h) (Or.inr ⟨by kernel_rfl, rfl⟩) hH ?_
    try simp only [Act.put, List.setIfInBounds_toArray, List.set_cons_zero, List.set_cons_succ]
    refine wpAnyH_takeF (i := 5) (v := undef) (d := some 8) rfl rfl (by kernel_rfl) (by kernel_rfl) (by kernel_rfl) (fun _ _ _ h => h) (Or.inr ⟨by kernel_rfl, rfl⟩) hH ?_
    try simp only [Act.put, List.setIfInBounds_toArray, List.set_cons_zero, List.set_cons_succ]
    refine wpAnyH_takeF (i := 6) (v := undef) (d := some 9) rfl rfl (by kernel_rfl) (by kernel_rfl) (by kernel_rfl) (fun _ _ _ h => h) (Or.inr ⟨by kernel_rfl, rfl⟩) hH ?_
    try simp only [Act.put, List.setIfInBounds_toArray, List.set_cons_zero, List.set_cons_succ]
    refine wpAnyH_takeF (i := 7) (v := .bool false) (d := some 10) rfl rfl (by kernel_rfl) (by kernel_rfl) (by kernel_rfl) (fun _ _ _ h => h) (Or.inl ⟨by kernel_rfl, fun w9 h9 => by go_simp⟩) hH ?_
    try simp only [Act.put, List.setIfInBounds_toArray, List.set_cons_zero, List.set_cons_succ]
    refine wpAnyH_takeF (i := 8) (v := .bool false) (d := some 11) rfl rfl (by kernel_rfl) (by kernel_rfl) (by kernel_rfl) (fun _ _ _ h => h) (Or.inl ⟨by kernel_rfl, fun w9 h9 => by go_simp⟩) hH ?_
    try simp only [Act.put, List.setIfInBounds_toArray, List.set_cons_zero, List.set_cons_succ]
    refine wpAnyH_takeF (i := 9) (v := undef) (d := some 12) rfl rfl (by kernel_rfl) (by kernel_rfl) (by kernel_rfl) (fun _ _ _ h => h) (Or.inr ⟨by kernel_rfl, rfl⟩) hH ?_
    try simp only [Act.put, List.setIfInBounds_toArray, List.set_cons_zero, List.set_cons_succ]
    refine wpAnyH_takeF (i := 10) (v := undef) (d := some 13) rfl rfl (by kernel_rfl) (by kernel_rfl) (by kernel_rfl) (fun _ _ _ h => h) (Or.inr ⟨by kernel_rfl, rfl⟩) hH ?_
    try simp only [Act.put, List.setIfInBounds_toArray, List.set_cons_zero, List.set_cons_succ]
    refine wpAnyH_takeF (i := 11) (v := undef) (d := some 14) rfl rfl (by kernel_rfl) (by kernel_rfl) (by kernel_rfl) (fun _ _ _ h => h) (Or.inr ⟨by kernel_rfl, rfl⟩) hH ?_
    try simp only [Act.put, List.setIfInBounds_toArray, List.set_cons_zero, List.set_cons_succ]
    refine wpAnyH_takeF (i := 12) (v := undef) (d := some 15) rfl rfl (by kernel_rfl) (by kernel_rfl) (by kernel_rfl) (fun _ _ _ h => h) (Or.inr ⟨by kernel_rfl, rfl⟩) hH ?_
    try simp only [Act.put, List.setIfInBounds_toArray, List.set_cons_zero, List.set_cons_succ]
    refine wpAnyH_takeF (i := 13) (v := undef) (d := some 16) rfl rfl (by kernel_rfl) (by kernel_rfl) (by kernel_rfl) (fun _ _ _ h => h) (Or.inr ⟨by kernel_rfl, rfl⟩) hH ?_
    try simp only [Act.put, List.setIfInBounds_toArray, List.set_cons_zero, List.set_cons_succ]
    refine wpAnyH_takeF (i := 14) (v := undef) (d := some 17) rfl rfl (by kernel_rfl) (by kernel_rfl) (by kernel_rfl) (fun _ _ _ h => h) (Or.inr ⟨by kernel_rfl, rfl⟩) hH ?_
    try simp only [Act.put, List.setIfInBounds_toArray, List.set_cons_zero, List.set_cons_succ]
    refine wpAnyH_takeF (i := 15) (v := .bool false) (d := some 18) rfl rfl (by kernel_rfl) (by kernel_rfl) (by kernel_rfl) (fun _ _ _ h => h) (Or.inl ⟨by kernel_rfl, fun w9 h9 => by go_simp⟩) hH ?_
    try simp only [Act.put, List.setIfInBounds_toArray, List.set_cons_zero, List.set_cons_succ]
    refine wpAnyH_takeF (i := 16) (v := .bool false) (d := some 19) rfl rfl (by kernel_rfl) (by kernel_rfl) (by kernel_rfl) (fun _ _ _ h => h) (Or.inl ⟨by kernel_rfl, fun w9 h9 => by go_simp⟩) hH ?_
    try simp only [Act.put, List.setIfInBounds_toArray, List.set_cons_zero, List.set_cons_succ]
    refine wpAnyH_takeF (i := 17) (v := undef) (d := some 20) rfl rfl (by kernel_rfl) (by kernel_rfl) (by kernel_rfl) (fun _ _ _ h => h) (Or.inr ⟨by kernel_rfl, rfl⟩) hH ?_
    try simp only [Act.put, List.setIfInBounds_toArray, List.set_cons_zero, List.set_cons_succ]
    refine wpAnyH_takeF (i := 18) (v := undef) (d := some 21) rfl rfl (by kernel_rfl) (by kernel_rfl) (by kernel_rfl) (fun _ _ _ h => h) (Or.inr ⟨by kernel_rfl, rfl⟩) hH ?_
    try simp only [Act.put, List.setIfInBounds_toArray, List.set_cons_zero, List.set_cons_succ]
    refine wpAnyH_takeF (i := 19) (v := undef) (d := some 22) rfl rfl (by kernel_rfl) (by kernel_rfl) (by kernel_rfl) (fun _ _ _ h => h) (Or.inr ⟨by kernel_rfl, rfl⟩) hH ?_
    try simp only [Act.put, List.setIfInBounds_toArray, List.set_cons_zero, List.set_cons_succ]
    refine wpAnyH_takeF (i := 20) (v := undef) (d := some 23) rfl rfl (by kernel_rfl) (by kernel_rfl) (by kernel_rfl) (fun _ _ _ h => h) (Or.inr ⟨by kernel_rfl, rfl⟩) hH ?_
    try simp only [Act.put, List.setIfInBounds_toArray, List.set_cons_zero, List.set_cons_succ]
    refine wpAnyH_takeF (i := 21) (v := .bool false) (d := some 24) rfl rfl (by kernel_rfl) (by kernel_rfl) (by kernel_rfl) (fun _ _ _ h => h) (Or.inl ⟨by kernel_rfl, fun w9 h9 => by go_simp⟩) hH ?_
    try simp only [Act.put, List.setIfInBounds_toArray, List.set_cons_zero, List.set_cons_succ]
    refine wpAnyH_takeF (i := 22) (v := .bool false) (d := some 2) rfl rfl (by kernel_rfl) (by kernel_rfl) (by kernel_rfl) (fun _ _ _ h => h) (Or.inl ⟨by kernel_rfl, fun w9 h9 => by go_simp⟩) hH ?_
    try simp only [Act.put, List.setIfInBounds_toArray, List.set_cons_zero, List.set_cons_succ]
    refine wpAnyH_done (by kernel_rfl) ?_ _
    have hq := flast2 hH
    go_wp2_with fail
    go_ret
    exact ⟨ret_bool HV.out.symm, step_b b0 hq⟩
  | true =>
    have HT := Lib.hid ht
    cases hx : textB (bs v) with
    | false =>
      have HV : Hid (r = false) := Lib.hid (by rw [HR.out]; unfold validF; rw [ht, hx]; rfl)
      have HX := Lib.hid hx
      clear ht hx
      go_enter Tryz.func42, Tryz.ntmps42
      go_wp2_with fail
      generalize w.alloc (.cells #[.string n, .string v] 69) = w1 at *
      refine wp_region_held_drew (S := fun w' => w'.cell? ⟨w.heap.size, 0, none⟩ = some (.string n) ∧ w'.cell? ⟨w.heap.size, 1, none⟩ = some (.string v) ∧ Below w1.heap.size w1 w') (by kernel_rfl) ⟨c0, c1, (Below.refl _ _).drew⟩ (fun hH => ?_)
      generalize w1.drew = y1 at *
      refine wpAnyH_takeF (i := 0) (v := .pointer (some ⟨w.heap.size, 0, none⟩)) (d := some 3) rfl rfl (by kernel_rfl) (by kernel_rfl) (by kernel_rfl) (fun _ _ _ h => h) (Or.inl ⟨by kernel_rfl, fun w9 h9 => by go_simp⟩) hH ?_
      try simp only [Act.put, List.setIfInBounds_toArray, List.set_cons_zero, List.set_cons_succ]
      refine wpAnyH_takeF (i := 1) (v := .string n) (d := some 4) rfl rfl (by kernel_rfl) (by kernel_rfl) (by kernel_rfl) (fun _ _ _ h => h) (Or.inl ⟨by kernel_rfl, fun w9 h9 => by have c9 := h9.1; go_simp⟩) hH ?_
      try simp only [Act.put, List.setIfInBounds_toArray, List.set_cons_zero, List.set_cons_succ]
      refine wpAnyH_ready (rs := [2]) (by kernel_rfl) (by simp) ?_
      refine AllReadyH.cons rfl (fun K hK => ?_) AllReadyH.nil
      go_simp
      go_at_call 63
      refine (rtoken_any n _ (by omega)).mono ?_
      rintro e w' ⟨he, rfl⟩
      rw [HT.out] at he
      subst he
      refine hK.out _ _ hH (fun hH => ?_)
      clear hK K
      try simp only [Act.put, List.setIfInBounds_toArray, List.set_cons_zero, List.set_cons_succ]
      refine wpAnyH_takeF (i := 3) (v := .bool true) (d := some 6) rfl rfl (by kernel_rfl) (by kernel_rfl) (by kernel_rfl) (fun _ _ _ h => h) (Or.inl ⟨by kernel_rfl, fun w9 h9 => by go_simp⟩) hH ?_
      try simp only [Act.put, List.setIfInBounds_toArray, List.set_cons_zero, List.set_cons_succ]
      refine wpAnyH_takeF (i := 4) (v := .pointer (some ⟨w.heap.size, 1, none⟩)) (d := some 7) rfl rfl (by kernel_rfl) (by kernel_rfl) (by kernel_rfl) (fun _ _ _ h => h) (Or.inl ⟨by kernel_rfl, fun w9 h9 => by go_simp⟩) hH ?_
      try simp only [Act.put, List.setIfInBounds_toArray, List.set_cons_zero, List.set_cons_succ]
      refine wpAnyH_takeF (i := 5) (v := .string v) (d := some 8) rfl rfl (by kernel_rfl) (by kernel_rfl) (by kernel_rfl) (fun _ _ _ h => h) (Or.inl ⟨by kernel_rfl, fun w9 h9 => by have c9 := h9.2.1; go_simp⟩) hH ?_
      try simp only [Act.put, List.setIfInBounds_toArray, List.set_cons_zero, List.set_cons_succ]
      refine wpAnyH_ready (rs := [6]) (by kernel_rfl) (by simp) ?_
      refine AllReadyH.cons rfl (fun K hK => ?_) AllReadyH.nil
      go_simp
      go_at_call 64
      refine (rtext_any v _ (by omega)).mono ?_
      rintro e w' ⟨he, rfl⟩
      rw [HX.out] at he
      subst he
      refine hK.out _ _ hH (fun hH => ?_)
      clear hK K
      try simp only [Act.put, List.setIfInBounds_toArray, List.set_cons_zero, List.set_cons_succ]
      refine wpAnyH_takeF (i := 7) (v := .bool false) (d := some 10) rfl rfl (by kernel_rfl) (by kernel_rfl) (by kernel_rfl) (fun _ _ _ h => h) (Or.inl ⟨by kernel_rfl, fun w9 h9 => by go_simp⟩) hH ?_
      try simp only [Act.put, List.setIfInBounds_toArray, List.set_cons_zero, List.set_cons_succ]
      refine wpAnyH_takeF (i := 8) (v := .bool false) (d := some 11) rfl rfl (by kernel_rfl) (by kernel_rfl) (by kernel_rfl) (fun _ _ _ h => h) (Or.inl ⟨by kernel_rfl, fun w9 h9 => by go_simp⟩) hH ?_
      try simp only [Act.put, List.setIfInBounds_toArray, List.set_cons_zero, List.set_cons_succ]
      refine wpAnyH_takeF (i := 9) (v := undef) (d := some 12) rfl rfl (by kernel_rfl) (by kernel_rfl) (by kernel_rfl) (fun _ _ _ h => h) (Or.inr ⟨by kernel_rfl, rfl⟩) hH ?_
      try simp only [Act.put, List.setIfInBounds_toArray, List.set_cons_zero, List.set_cons_succ]
      refine wpAnyH_takeF (i := 10) (v := undef) (d := some 13) rfl rfl (by kernel_rfl) (by kernel_rfl) (by kernel_rfl) (fun _ _ _ h => h) (Or.inr ⟨by kernel_rfl, rfl⟩) hH ?_
      try simp only [Act.put, List.setIfInBounds_toArray, List.set_cons_zero, List.set_cons_succ]
      refine wpAnyH_takeF (i := 11) (v := undef) (d := some 14) rfl rfl (by kernel_rfl) (by kernel_rfl) (by kernel_rfl) (fun _ _ _ h => h) (Or.inr ⟨by kernel_rfl, rfl⟩) hH ?_
      try simp only [Act.put, List.setIfInBounds_toArray, List.set_cons_zero, List.set_cons_succ]
      refine wpAnyH_takeF (i := 12) (v := undef) (d := some 15) rfl rfl (by kernel_rfl) (by kernel_rfl) (by kernel_rfl) (fun _ _ _ h => h) (Or.inr ⟨by kernel_rfl, rfl⟩) hH ?_
      try simp only [Act.put, List.setIfInBounds_toArray, List.set_cons_zero, List.set_cons_succ]
      refine wpAnyH_takeF (i := 13) (v := undef) (d := some 16) rfl rfl (by kernel_rfl) (by kernel_rfl) (by kernel_rfl) (fun _ _ _ h => h) (Or.inr ⟨by kernel_rfl, rfl⟩) hH ?_
      try simp only [Act.put, List.setIfInBounds_toArray, List.set_cons_zero, List.set_cons_succ]
      refine wpAnyH_takeF (i := 14) (v := undef) (d := some 17) rfl rfl (by kernel_rfl) (by kernel_rfl) (by kernel_rfl) (fun _ _ _ h => h) (Or.inr ⟨by kernel_rfl, rfl⟩) hH ?_
      try simp only [Act.put, List.setIfInBounds_toArray, List.set_cons_zero, List.set_cons_succ]
      refine wpAnyH_takeF (i := 15) (v := .bool false) (d := some 18) rfl rfl (by kernel_rfl) (by kernel_rfl) (by kernel_rfl) (fun _ _ _ h => h) (Or.inl ⟨by kernel_rfl, fun w9 h9 => by go_simp⟩) hH ?_
      try simp only [Act.put, List.setIfInBounds_toArray, List.set_cons_zero, List.set_cons_succ]
      refine wpAnyH_takeF (i := 16) (v := .bool false) (d := some 19) rfl rfl (by kernel_rfl) (by kernel_rfl) (by kernel_rfl) (fun _ _ _ h => h) (Or.inl ⟨by kernel_rfl, fun w9 h9 => by go_simp⟩) hH ?_
      try simp only [Act.put, List.setIfInBounds_toArray, List.set_cons_zero, List.set_cons_succ]
      refine wpAnyH_takeF (i := 17) (v := undef) (d := some 20) rfl rfl (by kernel_rfl) (by kernel_rfl) (by kernel_rfl) (fun _ _ _ h => h) (Or.inr ⟨by kernel_rfl, rfl⟩) hH ?_
      try simp only [Act.put, List.setIfInBounds_toArray, List.set_cons_zero, List.set_cons_succ]
      refine wpAnyH_takeF (i := 18) (v := undef) (d := some 21) rfl rfl (by kernel_rfl) (by kernel_rfl) (by kernel_rfl) (fun _ _ _ h => h) (Or.inr ⟨by kernel_rfl, rfl⟩) hH ?_
      try simp only [Act.put, List.setIfInBounds_toArray, List.set_cons_zero, List.set_cons_succ]
      refine wpAnyH_takeF (i := 19) (v := undef) (d := some 22) rfl rfl (by kernel_rfl) (by kernel_rfl) (by kernel_rfl) (fun _ _ _ h => h) (Or.inr ⟨by kernel_rfl, rfl⟩) hH ?_
      try simp only [Act.put, List.setIfInBounds_toArray, List.set_cons_zero, List.set_cons_succ]
      refine wpAnyH_takeF (i := 20) (v := undef) (d := some 23) rfl rfl (by kernel_rfl) (by kernel_rfl) (by kernel_rfl) (fun _ _ _ h => h) (Or.inr ⟨by kernel_rfl, rfl⟩) hH ?_
      try simp only [Act.put, List.setIfInBounds_toArray, List.set_cons_zero, List.set_cons_succ]
      refine wpAnyH_takeF (i := 21) (v := .bool false) (d := some 24) rfl rfl (by kernel_rfl) (by kernel_rfl) (by kernel_rfl) (fun _ _ _ h => h) (Or.inl ⟨by kernel_rfl, fun w9 h9 => by go_simp⟩) hH ?_
      try simp only [Act.put, List.setIfInBounds_toArray, List.set_cons_zero, List.set_cons_succ]
      refine wpAnyH_takeF (i := 22) (v := .bool false) (d := some 2) rfl rfl (by kernel_rfl) (by kernel_rfl) (by kernel_rfl) (fun _ _ _ h => h) (Or.inl ⟨by kernel_rfl, fun w9 h9 => by go_simp⟩) hH ?_
      try simp only [Act.put, List.setIfInBounds_toArray, List.set_cons_zero, List.set_cons_succ]
      refine wpAnyH_done (by kernel_rfl) ?_ _
      have hq := flast2 hH
      go_wp2_with fail
      go_ret
      exact ⟨ret_bool HV.out.symm, step_b b0 hq⟩
    | true =>
      have HX := Lib.hid hx
      obtain ⟨m, hm⟩ : ∃ m : ByteArray, m = ⟨(trimL (bs v)).toArray⟩ := ⟨_, rfl⟩
      have HM : Hid ((Ending.returned (.string ⟨(trimL (bs v)).toArray⟩) : Ending) = .returned (.string m)) := Lib.hid (by rw [hm])
      cases hq : (m.toList == v.toList) with
      | false =>
        have HV : Hid (r = false) := Lib.hid (by
          rw [HR.out]; unfold validF
          have : (trimL (bs v) == bs v) = false := by rw [Lib.toList_data, Lib.toList_data, hm] at hq; exact hq
          rw [this]; simp)
        clear ht hx hm
        go_enter Tryz.func42, Tryz.ntmps42
        go_wp2_with fail
        generalize w.alloc (.cells #[.string n, .string v] 69) = w1 at *
        refine wp_region_held_drew (S := fun w' => w'.cell? ⟨w.heap.size, 0, none⟩ = some (.string n) ∧ w'.cell? ⟨w.heap.size, 1, none⟩ = some (.string v) ∧ Below w1.heap.size w1 w') (by kernel_rfl) ⟨c0, c1, (Below.refl _ _).drew⟩ (fun hH => ?_)
        generalize w1.drew = y1 at *
        refine wpAnyH_takeF (i := 0) (v := .pointer (some ⟨w.heap.size, 0, none⟩)) (d := some 3) rfl rfl (by kernel_rfl) (by kernel_rfl) (by kernel_rfl) (fun _ _ _ h => h) (Or.inl ⟨by kernel_rfl, fun w9 h9 => by go_simp⟩) hH ?_
        try simp only [Act.put, List.setIfInBounds_toArray, List.set_cons_zero, List.set_cons_succ]
        refine wpAnyH_takeF (i := 1) (v := .string n) (d := some 4) rfl rfl (by kernel_rfl) (by kernel_rfl) (by kernel_rfl) (fun _ _ _ h => h) (Or.inl ⟨by kernel_rfl, fun w9 h9 => by have c9 := h9.1; go_simp⟩) hH ?_
        try simp only [Act.put, List.setIfInBounds_toArray, List.set_cons_zero, List.set_cons_succ]
        refine wpAnyH_ready (rs := [2]) (by kernel_rfl) (by simp) ?_
        refine AllReadyH.cons rfl (fun K hK => ?_) AllReadyH.nil
        go_simp
        go_at_call 63
        refine (rtoken_any n _ (by omega)).mono ?_
        rintro e w' ⟨he, rfl⟩
        rw [HT.out] at he
        subst he
        refine hK.out _ _ hH (fun hH => ?_)
        clear hK K
        try simp only [Act.put, List.setIfInBounds_toArray, List.set_cons_zero, List.set_cons_succ]
        refine wpAnyH_takeF (i := 3) (v := .bool true) (d := some 6) rfl rfl (by kernel_rfl) (by kernel_rfl) (by kernel_rfl) (fun _ _ _ h => h) (Or.inl ⟨by kernel_rfl, fun w9 h9 => by go_simp⟩) hH ?_
        try simp only [Act.put, List.setIfInBounds_toArray, List.set_cons_zero, List.set_cons_succ]
        refine wpAnyH_takeF (i := 4) (v := .pointer (some ⟨w.heap.size, 1, none⟩)) (d := some 7) rfl rfl (by kernel_rfl) (by kernel_rfl) (by kernel_rfl) (fun _ _ _ h => h) (Or.inl ⟨by kernel_rfl, fun w9 h9 => by go_simp⟩) hH ?_
        try simp only [Act.put, List.setIfInBounds_toArray, List.set_cons_zero, List.set_cons_succ]
        refine wpAnyH_takeF (i := 5) (v := .string v) (d := some 8) rfl rfl (by kernel_rfl) (by kernel_rfl) (by kernel_rfl) (fun _ _ _ h => h) (Or.inl ⟨by kernel_rfl, fun w9 h9 => by have c9 := h9.2.1; go_simp⟩) hH ?_
        try simp only [Act.put, List.setIfInBounds_toArray, List.set_cons_zero, List.set_cons_succ]
        refine wpAnyH_ready (rs := [6]) (by kernel_rfl) (by simp) ?_
        refine AllReadyH.cons rfl (fun K hK => ?_) AllReadyH.nil
        go_simp
        go_at_call 64
        refine (rtext_any v _ (by omega)).mono ?_
        rintro e w' ⟨he, rfl⟩
        rw [HX.out] at he
        subst he
        refine hK.out _ _ hH (fun hH => ?_)
        clear hK K
        try simp only [Act.put, List.setIfInBounds_toArray, List.set_cons_zero, List.set_cons_succ]
        refine wpAnyH_takeF (i := 7) (v := .bool true) (d := some 10) rfl rfl (by kernel_rfl) (by kernel_rfl) (by kernel_rfl) (fun _ _ _ h => h) (Or.inl ⟨by kernel_rfl, fun w9 h9 => by go_simp⟩) hH ?_
        try simp only [Act.put, List.setIfInBounds_toArray, List.set_cons_zero, List.set_cons_succ]
        refine wpAnyH_takeF (i := 8) (v := .bool true) (d := some 11) rfl rfl (by kernel_rfl) (by kernel_rfl) (by kernel_rfl) (fun _ _ _ h => h) (Or.inl ⟨by kernel_rfl, fun w9 h9 => by go_simp⟩) hH ?_
        try simp only [Act.put, List.setIfInBounds_toArray, List.set_cons_zero, List.set_cons_succ]
        refine wpAnyH_takeF (i := 9) (v := .pointer (some ⟨w.heap.size, 1, none⟩)) (d := some 12) rfl rfl (by kernel_rfl) (by kernel_rfl) (by kernel_rfl) (fun _ _ _ h => h) (Or.inl ⟨by kernel_rfl, fun w9 h9 => by go_simp⟩) hH ?_
        try simp only [Act.put, List.setIfInBounds_toArray, List.set_cons_zero, List.set_cons_succ]
        refine wpAnyH_takeF (i := 10) (v := .string v) (d := some 13) rfl rfl (by kernel_rfl) (by kernel_rfl) (by kernel_rfl) (fun _ _ _ h => h) (Or.inl ⟨by kernel_rfl, fun w9 h9 => by have c9 := h9.2.1; go_simp⟩) hH ?_
        try simp only [Act.put, List.setIfInBounds_toArray, List.set_cons_zero, List.set_cons_succ]
        refine wpAnyH_takeF (i := 12) (v := .pointer (some ⟨w.heap.size, 1, none⟩)) (d := some 15) rfl rfl (by kernel_rfl) (by kernel_rfl) (by kernel_rfl) (fun _ _ _ h => h) (Or.inl ⟨by kernel_rfl, fun w9 h9 => by go_simp⟩) hH ?_
        try simp only [Act.put, List.setIfInBounds_toArray, List.set_cons_zero, List.set_cons_succ]
        refine wpAnyH_takeF (i := 13) (v := .string v) (d := some 16) rfl rfl (by kernel_rfl) (by kernel_rfl) (by kernel_rfl) (fun _ _ _ h => h) (Or.inl ⟨by kernel_rfl, fun w9 h9 => by have c9 := h9.2.1; go_simp⟩) hH ?_
        try simp only [Act.put, List.setIfInBounds_toArray, List.set_cons_zero, List.set_cons_succ]
        refine wpAnyH_ready (rs := [11]) (by kernel_rfl) (by simp) ?_
        refine AllReadyH.cons rfl (fun K hK => ?_) AllReadyH.nil
        go_simp
        go_at_call 65
        refine (rtrim_any v _ (by omega)).mono ?_
        rintro e w' ⟨he, rfl⟩
        rw [HM.out] at he
        subst he
        refine hK.out _ _ hH (fun hH => ?_)
        clear hK K
        try simp only [Act.put, List.setIfInBounds_toArray, List.set_cons_zero, List.set_cons_succ]
        refine wpAnyH_takeF (i := 14) (v := .bool false) (d := some 17) rfl rfl (by kernel_rfl) (by kernel_rfl) (by kernel_rfl) (fun _ _ _ h => h) (Or.inl ⟨by kernel_rfl, fun w9 h9 => by go_simp⟩) hH ?_
        try simp only [Act.put, List.setIfInBounds_toArray, List.set_cons_zero, List.set_cons_succ]
        refine wpAnyH_takeF (i := 15) (v := .bool false) (d := some 18) rfl rfl (by kernel_rfl) (by kernel_rfl) (by kernel_rfl) (fun _ _ _ h => h) (Or.inl ⟨by kernel_rfl, fun w9 h9 => by go_simp⟩) hH ?_
        try simp only [Act.put, List.setIfInBounds_toArray, List.set_cons_zero, List.set_cons_succ]
        refine wpAnyH_takeF (i := 16) (v := .bool false) (d := some 19) rfl rfl (by kernel_rfl) (by kernel_rfl) (by kernel_rfl) (fun _ _ _ h => h) (Or.inl ⟨by kernel_rfl, fun w9 h9 => by go_simp⟩) hH ?_
        try simp only [Act.put, List.setIfInBounds_toArray, List.set_cons_zero, List.set_cons_succ]
        refine wpAnyH_takeF (i := 17) (v := undef) (d := some 20) rfl rfl (by kernel_rfl) (by kernel_rfl) (by kernel_rfl) (fun _ _ _ h => h) (Or.inr ⟨by kernel_rfl, rfl⟩) hH ?_
        try simp only [Act.put, List.setIfInBounds_toArray, List.set_cons_zero, List.set_cons_succ]
        refine wpAnyH_takeF (i := 18) (v := undef) (d := some 21) rfl rfl (by kernel_rfl) (by kernel_rfl) (by kernel_rfl) (fun _ _ _ h => h) (Or.inr ⟨by kernel_rfl, rfl⟩) hH ?_
        try simp only [Act.put, List.setIfInBounds_toArray, List.set_cons_zero, List.set_cons_succ]
        refine wpAnyH_takeF (i := 19) (v := undef) (d := some 22) rfl rfl (by kernel_rfl) (by kernel_rfl) (by kernel_rfl) (fun _ _ _ h => h) (Or.inr ⟨by kernel_rfl, rfl⟩) hH ?_
        try simp only [Act.put, List.setIfInBounds_toArray, List.set_cons_zero, List.set_cons_succ]
        refine wpAnyH_takeF (i := 20) (v := undef) (d := some 23) rfl rfl (by kernel_rfl) (by kernel_rfl) (by kernel_rfl) (fun _ _ _ h => h) (Or.inr ⟨by kernel_rfl, rfl⟩) hH ?_
        try simp only [Act.put, List.setIfInBounds_toArray, List.set_cons_zero, List.set_cons_succ]
        refine wpAnyH_takeF (i := 21) (v := .bool false) (d := some 24) rfl rfl (by kernel_rfl) (by kernel_rfl) (by kernel_rfl) (fun _ _ _ h => h) (Or.inl ⟨by kernel_rfl, fun w9 h9 => by go_simp⟩) hH ?_
        try simp only [Act.put, List.setIfInBounds_toArray, List.set_cons_zero, List.set_cons_succ]
        refine wpAnyH_takeF (i := 22) (v := .bool false) (d := some 2) rfl rfl (by kernel_rfl) (by kernel_rfl) (by kernel_rfl) (fun _ _ _ h => h) (Or.inl ⟨by kernel_rfl, fun w9 h9 => by go_simp⟩) hH ?_
        try simp only [Act.put, List.setIfInBounds_toArray, List.set_cons_zero, List.set_cons_succ]
        refine wpAnyH_done (by kernel_rfl) ?_ _
        have hq := flast2 hH
        go_wp2_with fail
        go_ret
        exact ⟨ret_bool HV.out.symm, step_b b0 hq⟩
      | true =>
        obtain ⟨x, hxx⟩ : ∃ x : ByteArray, x = ⟨(formL (bs n) (bs v)).toArray⟩ := ⟨_, rfl⟩
        have HL : Hid (∀ wx, Calls Tryz.prog 43 #[.agg #[.string n, .string v]] wx fun e w' => e = .returned (.string x) ∧ Below wx.heap.size wx w') := Lib.hid fun wx => by
          rw [hxx]; exact rform_any n v wx hn hv
        have HV : Hid (r = decide ((x.size : Int) ≤ 2000)) := Lib.hid (by
          rw [HR.out]; unfold validF
          have h1 : (trimL (bs v) == bs v) = true := by rw [Lib.toList_data, Lib.toList_data, hm] at hq; exact hq
          have h2 : x.size = (formL (bs n) (bs v)).length := by rw [hxx]; rfl
          rw [ht, hx, h1, h2]
          show decide _ = decide _
          rw [Bool.eq_iff_iff]; simp only [decide_eq_true_eq]; omega)
        clear ht hx hm hxx
        go_enter Tryz.func42, Tryz.ntmps42
        go_wp2_with fail
        generalize w.alloc (.cells #[.string n, .string v] 69) = w1 at *
        go_region_held3 (fun w' => w'.cell? ⟨w.heap.size, 0, none⟩ = some (.string n) ∧ w'.cell? ⟨w.heap.size, 1, none⟩ = some (.string v) ∧ Below w1.heap.size w1 w') (first | assumption | exact ⟨c0, c1, (Below.refl _ _).drew⟩ | (exact fkeep2 (by first | assumption | exact ⟨c0, c1, (Below.refl _ _).drew⟩) hbx)) (first | (go_at_call 63; refine (rtoken_any n _ (by omega)).mono ?_; rintro e w' ⟨he, rfl⟩; rw [HT.out] at he; subst he) | (go_at_call 64; refine (rtext_any v _ (by omega)).mono ?_; rintro e w' ⟨he, rfl⟩; rw [HX.out] at he; subst he) | (go_at_call 65; refine (rtrim_any v _ (by omega)).mono ?_; rintro e w' ⟨he, rfl⟩; rw [HM.out] at he; subst he) | (go_at_call 43; (with_reducible refine (HL.out _).mono ?_); rintro e w' ⟨rfl, hbx⟩))
        all_goals
          have hq := flast2 (w3 := w1) (by assumption)
          go_wp2_with fail
          go_ret
          exact ⟨ret_bool HV.out.symm, step_b b0 hq⟩
end Go.Proofs.YtfnmohaddkoalaaGreatDoor
