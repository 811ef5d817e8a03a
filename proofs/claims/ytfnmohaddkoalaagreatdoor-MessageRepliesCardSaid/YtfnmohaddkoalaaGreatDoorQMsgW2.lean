/- The reader of messages (layer 6): appends in a region that draws its order, and the walk of its field. -/
import Derived.Test.YtfnmohaddkoalaaGreatDoorQMsgW1
import Derived.Test.YtfnmohaddkoalaaGreatDoorQPre
import Derived.Deep.RegionHeld3
import Derived.IntWalk
import Derived.Test.YtfnmohaddkoalaaGreatDoorQPeel
namespace Go.Proofs.YtfnmohaddkoalaaGreatDoor
open Go.RowKit Go.Shelf
set_option linter.unusedSimpArgs false
set_option linter.unusedVariables false

theorem step_append_strO {ops : Array Oper} {o : Oper} {a : Act} {K : Act → World → Prop} {Q : Exit → Act → World → Prop} {E : Prop} (hgd : o.guard = none) (s x : Operand)
    (ho : o.op = .call { callee := .builtin .append, args := #[s, x], argTypes := #[37, 37] })
    (w0 w : World) (B : Nat) (v : Value) (xs : List ByteArray) (hs : a.eval s = v) (hown : SBuf w B v xs) (hb : Below B w0 w) (hB : B ≤ w.heap.size)
    (ad : Addr) (c : ByteArray) (hx : a.eval x = .slice (some ad) 1 1) (hc : w.cell? ad = some (.string c)) (hl : xs.length + 1 ≤ 1000000)
    (h : ∀ v' w', SBuf w' B v' (xs ++ [c]) → Below B w0 w' → B ≤ w'.heap.size → TurnOwn w w' v v' → K (a.put o.dst v') w') :
    if Region.wanted o (yielded ops a.tmps) = true then Oper.wp Tryz.prog o a w K Q else E := by
  have hw : Region.wanted o (yielded ops a.tmps) = true := by simp [Region.wanted, hgd]
  rw [if_pos hw]
  obtain ⟨i, hi, hz0, hz1, hz2⟩ := info_parts infoStr
  obtain ⟨v', w', hr, h2, hg, h4, hloc⟩ := run_append_own_at (P := Tryz.prog) w B 37 o.type 9 i (.string ByteArray.empty) 1 16 Tryz.underlying37 hi hz0 hz1 hz2 rfl (by decide) v xs.length _ hown ad 1 1 [.string c] (by rfl)
    (by
      intro j u hj
      rcases j with _ | j
      · simp at hj; subst hj
        have : ad.add 0 = ad := by unfold Addr.add; simp
        rw [this]; exact hc
      · simp at hj)
    (by
      intro u hu
      simp at hu; subst hu; rfl) (by unfold maxLen; omega) (by omega) hB
  unfold Oper.wp execOp
  simp only [ho, resolve, invoke, builtin, Sem.run_bind, Sem.run_pure, Result.andThen_ok, List.map_toArray, List.map_cons, List.map_nil, hs, hx, hr]
  refine h v' w' ?_ (hb.grown hg hB (fun j hj => (World.ownsRow.lt hown j hj).1)) (Nat.le_trans hB hg.size) (fun b hbl hbn => ⟨hg.block b hbl hbn, fun e => ?_⟩)
  · unfold SBuf
    simpa using h2
  · rcases hloc with hl' | hl'
    · exact hbn (e.trans hl')
    · rw [hl'] at e; cases e; omega
theorem step_append_fldO {ops : Array Oper} {o : Oper} {a : Act} {K : Act → World → Prop} {Q : Exit → Act → World → Prop} {E : Prop} (hgd : o.guard = none) (s x : Operand)
    (ho : o.op = .call { callee := .builtin .append, args := #[s, x], argTypes := #[22, 22] })
    (w0 w : World) (B : Nat) (v : Value) (xs : List Fd) (hs : a.eval s = v) (hown : FBuf w B v xs) (hb : Below B w0 w) (hB : B ≤ w.heap.size)
    (ad : Addr) (c : Fd) (hx : a.eval x = .slice (some ad) 1 1) (hc0 : w.cell? (ad.add 0) = some (.string c.1)) (hc1 : w.cell? (ad.add 1) = some (.string c.2)) (hl : xs.length + 1 ≤ 1000000)
    (h : ∀ v' w', FBuf w' B v' (xs ++ [c]) → Below B w0 w' → B ≤ w'.heap.size → TurnOwn w w' v v' → K (a.put o.dst v') w') :
    if Region.wanted o (yielded ops a.tmps) = true then Oper.wp Tryz.prog o a w K Q else E := by
  have hw : Region.wanted o (yielded ops a.tmps) = true := by simp [Region.wanted, hgd]
  rw [if_pos hw]
  obtain ⟨i, hi, hz0, hz1, hz2⟩ := info_parts infoFld
  obtain ⟨v', w', hr, h2, hg, h4, hloc⟩ := run_append_own_at (P := Tryz.prog) w B 22 o.type 69 i (.agg #[.string ByteArray.empty, .string ByteArray.empty]) 2 32 Tryz.underlying22 hi hz0 hz1 hz2 rfl (by decide) v xs.length _ hown ad 1 1 [.string c.1, .string c.2] (by rfl)
    (by
      intro j u hj
      rcases j with _ | _ | j
      · simp at hj; subst hj; exact hc0
      · simp at hj; subst hj; exact hc1
      · simp at hj)
    (by
      intro u hu
      simp at hu
      rcases hu with rfl | rfl <;> rfl) (by unfold maxLen; omega) (by omega) hB
  unfold Oper.wp execOp
  simp only [ho, resolve, invoke, builtin, Sem.run_bind, Sem.run_pure, Result.andThen_ok, List.map_toArray, List.map_cons, List.map_nil, hs, hx, hr]
  refine h v' w' ?_ (hb.grown hg hB (fun j hj => (World.ownsRow.lt hown j hj).1)) (Nat.le_trans hB hg.size) (fun b hbl hbn => ⟨hg.block b hbl hbn, fun e => ?_⟩)
  · unfold FBuf
    rw [fcells_snoc, List.length_append]
    exact h2
  · rcases hloc with hl' | hl'
    · exact hbn (e.trans hl')
    · rw [hl'] at e; cases e; omega
abbrev clC : ByteArray := ⟨#[67, 111, 110, 116, 101, 110, 116, 45, 76, 101, 110, 103, 116, 104]⟩
abbrev teC : ByteArray := ⟨#[84, 114, 97, 110, 115, 102, 101, 114, 45, 69, 110, 99, 111, 100, 105, 110, 103]⟩
/-- A field line's parts. -/
theorem field_words (r : (List UInt8 × List UInt8) × Int) : ∃ (N V : ByteArray) (e : Int), r.2 = e ∧ mkF r.1 = (N, V) ∧ fieldV r = .tuple #[.agg #[.string N, .string V], .int .i64 e] := ⟨⟨r.1.1.toArray⟩, ⟨r.1.2.toArray⟩, r.2, rfl, rfl, rfl⟩
/-- What the reader is behind a field. -/
def FieldAt (T : TypeId) (w : World) (B g : Nat) (s : ByteArray) (a : Nat) (fs : List Fd) (ls cs : List ByteArray) (rest : List Value) (x : Fd) : Prop :=
  ∃ vf vl vc, RdAt T w B g s a (fs ++ [x].filter plainF) (ls ++ getF clN [x]) (cs ++ getF teN [x]) vf vl vc rest
theorem cl_te {l : List UInt8} (h : foldB l clN = true) : foldB l teN = false := by
  unfold foldB at h ⊢
  rw [Bool.and_eq_true, decide_eq_true_eq] at h
  rw [h.1]; rfl
theorem field_cl {N V : ByteArray} (h : foldB (bs N) clN = true) : [((N, V) : Fd)].filter plainF = [] ∧ getF clN [(N, V)] = [V] ∧ getF teN [(N, V)] = [] := by
  have h2 := cl_te h
  simp [plainF, getF, isF, h, h2]
theorem field_te {N V : ByteArray} (h : foldB (bs N) clN = false) (h2 : foldB (bs N) teN = true) : [((N, V) : Fd)].filter plainF = [] ∧ getF clN [(N, V)] = [] ∧ getF teN [(N, V)] = [V] := by
  simp [plainF, getF, isF, h, h2]
theorem field_no {N V : ByteArray} (h : foldB (bs N) clN = false) (h2 : foldB (bs N) teN = false) : [((N, V) : Fd)].filter plainF = [(N, V)] ∧ getF clN [(N, V)] = [] ∧ getF teN [(N, V)] = [] := by
  simp [plainF, getF, isF, h, h2]
set_option maxHeartbeats 1600000 in
theorem field_any (T : TypeId) (w : World) (B g : Nat) (s : ByteArray) (a : Nat) (fs : List Fd) (ls cs : List ByteArray) (vf vl vc : Value) (rest : List Value) (line : ByteArray)
    (R : RdAt T w B g s a fs ls cs vf vl vc rest) (hs : line.size ≤ 100000) (hz : ∀ e, fieldL (bs line) = e → e.1.1.length ≤ 100000) (hl : fs.length ≤ 1000 ∧ ls.length ≤ 1000 ∧ cs.length ≤ 1000) (hM : MaxOf w) :
    Calls Tryz.prog 47 #[.pointer (some ⟨g, 0, none⟩), .string line] w fun e w' => e = .returned (.int .i64 (fieldL (bs line)).2) ∧ Below g w w' ∧ ((fieldL (bs line)).2 = 0 → FieldAt T w' B g s a fs ls cs rest (mkF (fieldL (bs line)).1)) := by
  obtain ⟨N, V, er, h1, h2, h3⟩ := field_words (fieldL (bs line))
  have HV := Lib.hid h3
  have zN : N.size ≤ 100000 := by
    have := hz _ rfl
    have e1 : N = ⟨(fieldL (bs line)).1.1.toArray⟩ := (congrArg Prod.fst h2).symm
    rw [e1]; exact this
  rw [h1, h2]
  have HF := Lib.hid (fparse_any line w hs hM)
  have hgw : g ≤ w.heap.size := by have := R.gB; have := R.sz; omega
  clear h3 h1 h2 hM hz
  go_enter Tryz.func47, Tryz.ntmps47
  go_wp2_with fail
  refine HF.out.mono ?_
  rintro e w1 ⟨rfl, hb1⟩
  rw [HV.out]
  by_cases h0 : er = 0
  · subst h0
    have F2 := RowAt.new w1 [.string N, .string V] 69
    have R2 := (R.below hb1).below (alloc_b w1 (.cells #[.string N, .string V] 69))
    have b2 := step_b hb1 (alloc_b w1 (.cells #[.string N, .string V] 69))
    clear R HF HV
    go_wp2_with fail
    generalize w1.heap.size = k at *
    generalize (w1.alloc (.cells #[.string N, .string V] 69)) = w2 at *
    refine (fold_any N clC w2 (by omega) (by decide)).mono ?_
    rintro e w3 ⟨he, hb3⟩
    have R3 := R2.below hb3
    have F3 := F2.below hb3
    have b3 := step_b b2 hb3
    clear R2 F2 hb3 b2
    cases hcl : foldB (bs N) (bs clC) with
    | true =>
      rw [hcl] at he
      subst he
      go_wp2_with fail
      refine wp_region_K 8 (fun w' => Below w3.heap.size w3 w') (by kernel_rfl) (Below.refl _ _).drew (fun hH => ?_)
      generalize w3.drew = y1 at *
      refine wpK_pure (i := 0) (v := .pointer (some ⟨g, 0, none⟩)) rfl (by kernel_rfl) (fun _ _ _ h => h) (by rfl) (fun w9 => by go_simp) (fun _ => hH) ?_
      try simp only [Act.put, List.setIfInBounds_toArray, List.set_cons_zero, List.set_cons_succ]
      refine wpK_pure (i := 1) (v := .pointer (some ⟨g, 0, none⟩)) rfl (by kernel_rfl) (fun _ _ _ h => h) (by rfl) (fun w9 => by go_simp) (fun _ => hH) ?_
      try simp only [Act.put, List.setIfInBounds_toArray, List.set_cons_zero, List.set_cons_succ]
      refine wpK_pure (i := 2) (v := .pointer (some ⟨g, 0, none⟩)) rfl (by kernel_rfl) (fun _ _ _ h => h) (by rfl) (fun w9 => by go_simp) (fun _ => hH) ?_
      try simp only [Act.put, List.setIfInBounds_toArray, List.set_cons_zero, List.set_cons_succ]
      refine wpK_pure (i := 3) (v := .pointer (some ⟨g, 3, none⟩)) rfl (by kernel_rfl) (fun _ _ _ h => h) (by rfl) (fun w9 => by go_simp) (fun _ => hH) ?_
      try simp only [Act.put, List.setIfInBounds_toArray, List.set_cons_zero, List.set_cons_succ]
      refine wpK_pure (i := 5) (v := .pointer (some ⟨k, 1, none⟩)) rfl (by kernel_rfl) (fun _ _ _ h => h) (by rfl) (fun w9 => by go_simp) (fun _ => hH) ?_
      try simp only [Act.put, List.setIfInBounds_toArray, List.set_cons_zero, List.set_cons_succ]
      refine wpK_load (i := 4) (v := vl) [8] rfl (by kernel_rfl) (fun _ _ _ h => h) (by rfl) (fun w9 h9 => by have c9 := (R3.row.below h9).cell 3 rfl; go_simp) (fun _ => hH) ?_
      try simp only [Act.put, List.setIfInBounds_toArray, List.set_cons_zero, List.set_cons_succ]
      refine wpK_load (i := 6) (v := .string V) [7, 8] rfl (by kernel_rfl) (fun _ _ _ h => h) (by rfl) (fun w9 h9 => by have c9 := (F3.below h9).cell 1 rfl; go_simp) (fun _ => hH) ?_
      try simp only [Act.put, List.setIfInBounds_toArray, List.set_cons_zero, List.set_cons_succ]
      have R4 := R3.below hH
      have b4 := step_b b3 hH
      refine wpK_ready [7] (by kernel_rfl) (by simp) ?_
      refine AllK.cons rfl (fun K hK => ?_) AllK.nil
      go_simp
      refine hK.out _ _ (fun _ => step_b hH (alloc_b y1 (.cells #[.string V] 9))) (fun _ => ?_)
      clear hK K
      try simp only [Act.put, List.setIfInBounds_toArray, List.set_cons_zero, List.set_cons_succ]
      have R5 := R4.below (alloc_b y1 (.cells #[.string V] 9))
      have b5 := step_b b4 (alloc_b y1 (.cells #[.string V] 9))
      have n5 : (y1.alloc (.cells #[.string V] 9)).cell? ⟨y1.heap.size, 0, none⟩ = some (.string V) := cell_new y1 _ _
      generalize y1.heap.size = j at *
      generalize y1.alloc (.cells #[.string V] 9) = y5 at *
      refine wpK_ready [8] (by kernel_rfl) (by simp) ?_
      refine AllK.cons rfl (fun K hK => ?_) AllK.nil
      refine step_append_strO rfl (.tmp 34) (.tmp 37) rfl y5 y5 B vl ls rfl R5.l (Below.refl _ _) R5.sz ⟨j, 0, none⟩ V rfl n5 (by omega) ?_
      intro v6 y6 S6 hb6 z6 k6
      obtain ⟨zs, hzs⟩ : ∃ zs, zs = ls ++ [V] := ⟨_, rfl⟩
      rw [← hzs] at S6
      have HZS := Lib.hid hzs
      clear hzs
      obtain ⟨o6, c6, rfl, _⟩ := S6.shape
      have q6 := (R5.row.belowB hb6 R5.gB).cell 3 rfl
      have f6 := (R5.row.belowB hb6 R5.gB).free 3
      have R7 := R5.pushL S6 hb6 k6
      have b7 : Below g w (y6.setCell ⟨g, 3, none⟩ (.slice o6 zs.length c6)) := ((b5.mono hgw).trans (hb6.mono (Nat.le_of_lt R5.gB))).setCell (Nat.le_refl _) _
      clear S6 k6 hb6 z6 R5 R4 R3 F3 hH b3 b4 b5
      refine hK.out _ _ (fun h => absurd h (by decide)) (fun _ => ?_)
      clear hK K
      try simp only [Act.put, List.setIfInBounds_toArray, List.set_cons_zero, List.set_cons_succ]
      refine wpK_pure (i := 9) (v := .pointer (some ⟨g, 0, none⟩)) rfl (by kernel_rfl) (fun _ _ _ h => h) (by rfl) (fun w9 => by go_simp) (fun h => absurd h (by decide)) ?_
      try simp only [Act.put, List.setIfInBounds_toArray, List.set_cons_zero, List.set_cons_succ]
      refine wpK_pure (i := 10) (v := .pointer (some ⟨g, 3, none⟩)) rfl (by kernel_rfl) (fun _ _ _ h => h) (by rfl) (fun w9 => by go_simp) (fun h => absurd h (by decide)) ?_
      try simp only [Act.put, List.setIfInBounds_toArray, List.set_cons_zero, List.set_cons_succ]
      refine wpK_ready [11] (by kernel_rfl) (by simp) ?_
      refine AllK.cons rfl (fun K hK => ?_) AllK.nil
      go_simp
      refine hK.out _ _ (fun h => absurd h (by decide)) (fun _ => ?_)
      clear hK K
      try simp only [Act.put, List.setIfInBounds_toArray, List.set_cons_zero, List.set_cons_succ]
      refine wpK_done (by kernel_rfl) ?_ _
      go_wp2_with fail
      go_ret
      exact ⟨rfl, b7, by obtain ⟨e1, e2, e3⟩ := field_cl (V := V) hcl; unfold FieldAt; rw [e1, e2, e3, List.append_nil, List.append_nil, ← HZS.out]; exact ⟨_, _, _, R7⟩⟩
    | false =>
      rw [hcl] at he
      subst he
      have c0 := F3.cell 0 rfl
      go_wp2_with fail
      clear c0
      refine (fold_any N teC w3 (by omega) (by decide)).mono ?_
      rintro e w4 ⟨he, hb4⟩
      have Q3 := R3.below hb4
      have G3 := F3.below hb4
      have d3 := step_b b3 hb4
      clear R3 F3 b3 hb4
      cases hte : foldB (bs N) (bs teC) with
      | true =>
        rw [hte] at he
        subst he
        go_wp2_with fail
        refine wp_region_K 8 (fun w' => Below w4.heap.size w4 w') (by kernel_rfl) (Below.refl _ _).drew (fun hH => ?_)
        generalize w4.drew = y1 at *
        refine wpK_pure (i := 0) (v := .pointer (some ⟨g, 0, none⟩)) rfl (by kernel_rfl) (fun _ _ _ h => h) (by rfl) (fun w9 => by go_simp) (fun _ => hH) ?_
        try simp only [Act.put, List.setIfInBounds_toArray, List.set_cons_zero, List.set_cons_succ]
        refine wpK_pure (i := 1) (v := .pointer (some ⟨g, 0, none⟩)) rfl (by kernel_rfl) (fun _ _ _ h => h) (by rfl) (fun w9 => by go_simp) (fun _ => hH) ?_
        try simp only [Act.put, List.setIfInBounds_toArray, List.set_cons_zero, List.set_cons_succ]
        refine wpK_pure (i := 2) (v := .pointer (some ⟨g, 0, none⟩)) rfl (by kernel_rfl) (fun _ _ _ h => h) (by rfl) (fun w9 => by go_simp) (fun _ => hH) ?_
        try simp only [Act.put, List.setIfInBounds_toArray, List.set_cons_zero, List.set_cons_succ]
        refine wpK_pure (i := 3) (v := .pointer (some ⟨g, 4, none⟩)) rfl (by kernel_rfl) (fun _ _ _ h => h) (by rfl) (fun w9 => by go_simp) (fun _ => hH) ?_
        try simp only [Act.put, List.setIfInBounds_toArray, List.set_cons_zero, List.set_cons_succ]
        refine wpK_pure (i := 5) (v := .pointer (some ⟨k, 1, none⟩)) rfl (by kernel_rfl) (fun _ _ _ h => h) (by rfl) (fun w9 => by go_simp) (fun _ => hH) ?_
        try simp only [Act.put, List.setIfInBounds_toArray, List.set_cons_zero, List.set_cons_succ]
        refine wpK_load (i := 4) (v := vc) [8] rfl (by kernel_rfl) (fun _ _ _ h => h) (by rfl) (fun w9 h9 => by have c9 := (Q3.row.below h9).cell 4 rfl; go_simp) (fun _ => hH) ?_
        try simp only [Act.put, List.setIfInBounds_toArray, List.set_cons_zero, List.set_cons_succ]
        refine wpK_load (i := 6) (v := .string V) [7, 8] rfl (by kernel_rfl) (fun _ _ _ h => h) (by rfl) (fun w9 h9 => by have c9 := (G3.below h9).cell 1 rfl; go_simp) (fun _ => hH) ?_
        try simp only [Act.put, List.setIfInBounds_toArray, List.set_cons_zero, List.set_cons_succ]
        have R4 := Q3.below hH
        have b4 := step_b d3 hH
        refine wpK_ready [7] (by kernel_rfl) (by simp) ?_
        refine AllK.cons rfl (fun K hK => ?_) AllK.nil
        go_simp
        refine hK.out _ _ (fun _ => step_b hH (alloc_b y1 (.cells #[.string V] 9))) (fun _ => ?_)
        clear hK K
        try simp only [Act.put, List.setIfInBounds_toArray, List.set_cons_zero, List.set_cons_succ]
        have R5 := R4.below (alloc_b y1 (.cells #[.string V] 9))
        have b5 := step_b b4 (alloc_b y1 (.cells #[.string V] 9))
        have n5 : (y1.alloc (.cells #[.string V] 9)).cell? ⟨y1.heap.size, 0, none⟩ = some (.string V) := cell_new y1 _ _
        generalize y1.heap.size = j at *
        generalize y1.alloc (.cells #[.string V] 9) = y5 at *
        refine wpK_ready [8] (by kernel_rfl) (by simp) ?_
        refine AllK.cons rfl (fun K hK => ?_) AllK.nil
        refine step_append_strO rfl (.tmp 49) (.tmp 52) rfl y5 y5 B vc cs rfl R5.c (Below.refl _ _) R5.sz ⟨j, 0, none⟩ V rfl n5 (by omega) ?_
        intro v6 y6 S6 hb6 z6 k6
        obtain ⟨zs, hzs⟩ : ∃ zs, zs = cs ++ [V] := ⟨_, rfl⟩
        rw [← hzs] at S6
        have HZS := Lib.hid hzs
        clear hzs
        obtain ⟨o6, c6, rfl, _⟩ := S6.shape
        have q6 := (R5.row.belowB hb6 R5.gB).cell 4 rfl
        have f6 := (R5.row.belowB hb6 R5.gB).free 4
        have R7 := R5.pushC S6 hb6 k6
        have b7 : Below g w (y6.setCell ⟨g, 4, none⟩ (.slice o6 zs.length c6)) := ((b5.mono hgw).trans (hb6.mono (Nat.le_of_lt R5.gB))).setCell (Nat.le_refl _) _
        clear S6 k6 hb6 z6 R5 R4 Q3 G3 hH d3 b4 b5
        refine hK.out _ _ (fun h => absurd h (by decide)) (fun _ => ?_)
        clear hK K
        try simp only [Act.put, List.setIfInBounds_toArray, List.set_cons_zero, List.set_cons_succ]
        refine wpK_pure (i := 9) (v := .pointer (some ⟨g, 0, none⟩)) rfl (by kernel_rfl) (fun _ _ _ h => h) (by rfl) (fun w9 => by go_simp) (fun h => absurd h (by decide)) ?_
        try simp only [Act.put, List.setIfInBounds_toArray, List.set_cons_zero, List.set_cons_succ]
        refine wpK_pure (i := 10) (v := .pointer (some ⟨g, 4, none⟩)) rfl (by kernel_rfl) (fun _ _ _ h => h) (by rfl) (fun w9 => by go_simp) (fun h => absurd h (by decide)) ?_
        try simp only [Act.put, List.setIfInBounds_toArray, List.set_cons_zero, List.set_cons_succ]
        refine wpK_ready [11] (by kernel_rfl) (by simp) ?_
        refine AllK.cons rfl (fun K hK => ?_) AllK.nil
        go_simp
        refine hK.out _ _ (fun h => absurd h (by decide)) (fun _ => ?_)
        clear hK K
        try simp only [Act.put, List.setIfInBounds_toArray, List.set_cons_zero, List.set_cons_succ]
        refine wpK_done (by kernel_rfl) ?_ _
        go_wp2_with fail
        go_ret
        exact ⟨rfl, b7, by obtain ⟨e1, e2, e3⟩ := field_te (V := V) hcl hte; unfold FieldAt; rw [e1, e2, e3, List.append_nil, List.append_nil, ← HZS.out]; exact ⟨_, _, _, R7⟩⟩
      | false =>
        rw [hte] at he
        subst he
        go_wp2_with fail
        refine wp_region_K 7 (fun w' => Below w4.heap.size w4 w') (by kernel_rfl) (Below.refl _ _).drew (fun hH => ?_)
        generalize w4.drew = y1 at *
        refine wpK_pure (i := 0) (v := .pointer (some ⟨g, 0, none⟩)) rfl (by kernel_rfl) (fun _ _ _ h => h) (by rfl) (fun w9 => by go_simp) (fun _ => hH) ?_
        try simp only [Act.put, List.setIfInBounds_toArray, List.set_cons_zero, List.set_cons_succ]
        refine wpK_pure (i := 1) (v := .pointer (some ⟨g, 0, none⟩)) rfl (by kernel_rfl) (fun _ _ _ h => h) (by rfl) (fun w9 => by go_simp) (fun _ => hH) ?_
        try simp only [Act.put, List.setIfInBounds_toArray, List.set_cons_zero, List.set_cons_succ]
        refine wpK_pure (i := 2) (v := .pointer (some ⟨g, 0, none⟩)) rfl (by kernel_rfl) (fun _ _ _ h => h) (by rfl) (fun w9 => by go_simp) (fun _ => hH) ?_
        try simp only [Act.put, List.setIfInBounds_toArray, List.set_cons_zero, List.set_cons_succ]
        refine wpK_pure (i := 3) (v := .pointer (some ⟨g, 2, none⟩)) rfl (by kernel_rfl) (fun _ _ _ h => h) (by rfl) (fun w9 => by go_simp) (fun _ => hH) ?_
        try simp only [Act.put, List.setIfInBounds_toArray, List.set_cons_zero, List.set_cons_succ]
        refine wpK_load (i := 4) (v := vf) [7] rfl (by kernel_rfl) (fun _ _ _ h => h) (by rfl) (fun w9 h9 => by have c9 := (Q3.row.below h9).cell 2 rfl; go_simp) (fun _ => hH) ?_
        try simp only [Act.put, List.setIfInBounds_toArray, List.set_cons_zero, List.set_cons_succ]
        refine wpK_load (i := 5) (v := .agg #[.string N, .string V]) [6, 7] rfl (by kernel_rfl) (fun _ _ _ h => h) (by rfl) (fun w9 h9 => by have c9 := (G3.below h9).cell 0 rfl; have d9 := (G3.below h9).cell 1 rfl; go_simp) (fun _ => hH) ?_
        try simp only [Act.put, List.setIfInBounds_toArray, List.set_cons_zero, List.set_cons_succ]
        have R4 := Q3.below hH
        have b4 := step_b d3 hH
        refine wpK_ready [6] (by kernel_rfl) (by simp) ?_
        refine AllK.cons rfl (fun K hK => ?_) AllK.nil
        go_simp
        refine hK.out _ _ (fun _ => step_b hH (alloc_b y1 (.cells #[.string N, .string V] 69))) (fun _ => ?_)
        clear hK K
        try simp only [Act.put, List.setIfInBounds_toArray, List.set_cons_zero, List.set_cons_succ]
        have R5 := R4.below (alloc_b y1 (.cells #[.string N, .string V] 69))
        have b5 := step_b b4 (alloc_b y1 (.cells #[.string N, .string V] 69))
        have n5 := new_f0 y1 (N, V) 69
        have m5 := new_f1 y1 (N, V) 69
        refine wpK_ready [7] (by kernel_rfl) (by simp) ?_
        refine AllK.cons rfl (fun K hK => ?_) AllK.nil
        refine step_append_fldO rfl (.tmp 16) (.tmp 18) rfl (y1.alloc (.cells #[.string N, .string V] 69)) (y1.alloc (.cells #[.string N, .string V] 69)) B vf fs rfl R5.f (Below.refl _ _) R5.sz ⟨y1.heap.size, 0, none⟩ (N, V) rfl n5 m5 (by omega) ?_
        intro v6 y6 S6 hb6 z6 k6
        obtain ⟨zs, hzs⟩ : ∃ zs, zs = fs ++ [(N, V)] := ⟨_, rfl⟩
        rw [← hzs] at S6
        have HZS := Lib.hid hzs
        clear hzs
        obtain ⟨o6, c6, rfl, _⟩ := S6.shape
        have q6 := (R5.row.belowB hb6 R5.gB).cell 2 rfl
        have f6 := (R5.row.belowB hb6 R5.gB).free 2
        have R7 := R5.pushF S6 hb6 k6
        have b7 : Below g w (y6.setCell ⟨g, 2, none⟩ (.slice o6 zs.length c6)) := ((b5.mono hgw).trans (hb6.mono (Nat.le_of_lt R5.gB))).setCell (Nat.le_refl _) _
        clear S6 k6 hb6 z6 R5 R4 Q3 G3 hH d3 b4 b5 n5 m5
        refine hK.out _ _ (fun h => absurd h (by decide)) (fun _ => ?_)
        clear hK K
        try simp only [Act.put, List.setIfInBounds_toArray, List.set_cons_zero, List.set_cons_succ]
        refine wpK_pure (i := 8) (v := .pointer (some ⟨g, 0, none⟩)) rfl (by kernel_rfl) (fun _ _ _ h => h) (by rfl) (fun w9 => by go_simp) (fun h => absurd h (by decide)) ?_
        try simp only [Act.put, List.setIfInBounds_toArray, List.set_cons_zero, List.set_cons_succ]
        refine wpK_pure (i := 9) (v := .pointer (some ⟨g, 2, none⟩)) rfl (by kernel_rfl) (fun _ _ _ h => h) (by rfl) (fun w9 => by go_simp) (fun h => absurd h (by decide)) ?_
        try simp only [Act.put, List.setIfInBounds_toArray, List.set_cons_zero, List.set_cons_succ]
        refine wpK_ready [10] (by kernel_rfl) (by simp) ?_
        refine AllK.cons rfl (fun K hK => ?_) AllK.nil
        go_simp
        refine hK.out _ _ (fun h => absurd h (by decide)) (fun _ => ?_)
        clear hK K
        try simp only [Act.put, List.setIfInBounds_toArray, List.set_cons_zero, List.set_cons_succ]
        refine wpK_done (by kernel_rfl) ?_ _
        go_wp2_with fail
        go_ret
        exact ⟨rfl, b7, by obtain ⟨e1, e2, e3⟩ := field_no (V := V) hcl hte; unfold FieldAt; rw [e1, e2, e3, List.append_nil, List.append_nil, ← HZS.out]; exact ⟨_, _, _, R7⟩⟩
  · have h0' : (er != 0) = true := by simp [h0]
    go_wp2_with fail
    go_ret
    exact ⟨rfl, (step_b hb1 (alloc_b w1 _)).mono hgw, fun h => absurd h h0⟩
end Go.Proofs.YtfnmohaddkoalaaGreatDoor
