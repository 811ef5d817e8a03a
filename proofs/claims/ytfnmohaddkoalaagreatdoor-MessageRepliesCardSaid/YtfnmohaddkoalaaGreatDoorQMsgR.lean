/- message.ParseRequest (layer 6): it answers parseQ. Printed by gen_msgr.py. -/
import Derived.Test.YtfnmohaddkoalaaGreatDoorQMsgH
import Derived.Test.YtfnmohaddkoalaaGreatDoorQMsgB
import Derived.Test.YtfnmohaddkoalaaGreatDoorQFline2
import Derived.Test.YtfnmohaddkoalaaGreatDoorQMsgF
namespace Go.Proofs.YtfnmohaddkoalaaGreatDoor
open Go.RowKit Go.Shelf
set_option linter.unusedSimpArgs false
set_option linter.unusedVariables false

theorem results_cell_tmp2 {P : Program} {fn : Func} {p u v : Tmp} {ty : TypeId} (h : fn.results = #[.cell p ty, .tmp u, .tmp v]) (tmps : Array Value) (w : World) :
    (results fn tmps).run P w =
      ((asAddr (tmps.getD p undef)).run P w).andThen fun a w₁ => ((loadVar ty a).run P w₁).andThen fun x w₂ => .ok (.tuple #[x, tmps.getD u undef, tmps.getD v undef]) w₂ := by
  simp only [results, h]
  simp [Sem.run_bind, Result.andThen]
theorem results_row3 {P : Program} {fn : Func} {p u v : Tmp} {ty : TypeId} (h : fn.results = #[.cell p ty, .tmp u, .tmp v]) (tmps : Array Value) (w : World) (b : Nat) (t : TypeId) (cs : List Value) (hg : RowAt w b t cs)
    (hp : tmps.getD p undef = .pointer (some ⟨b, 0, none⟩)) (fs : Array Field) (hu : P.underlying ty = some (.struct fs)) (hi : (P.info? ty).map (·.size) = some cs.length) :
    (results fn tmps).run P w = .ok (.tuple #[.agg cs.toArray, tmps.getD u undef, tmps.getD v undef]) w := by
  have hr := run_loadVar_row (P := P) w b t ty cs.toArray (0, 0) (.struct fs) hg hu rfl (by rw [hi]; simp)
  rw [results_cell_tmp2 h, hp]
  have e1 : (asAddr (.pointer (some ⟨b, 0, none⟩))).run P w = .ok ⟨b, 0, none⟩ w := by simp [asAddr]
  rw [e1, Result.andThen_ok, hr, Result.andThen_ok]
theorem mreq_size : (Tryz.prog.info? 24).map (·.size) = some 5 := by kernel_rfl
/-- A request's cells. -/
abbrev reqC (m t : ByteArray) (v : Int) (vf : Value) (b : ByteArray) : List Value := [.string m, .string t, .int .i64 v, vf, .string b]
abbrev zReq : List Value := reqC ⟨#[]⟩ ⟨#[]⟩ 0 (.slice none 0 0) ⟨#[]⟩
theorem reqC_one (m t : ByteArray) (v : Int) (oa : Option Addr) (n c : Nat) (b : ByteArray) : ∀ u ∈ reqC m t v (.slice oa n c) b, u.oneCell' = true := by
  intro u hu
  simp only [List.mem_cons, List.not_mem_nil, or_false] at hu
  rcases hu with rfl | rfl | rfl | rfl | rfl <;> rfl
theorem getF_sz {n : List UInt8} {xs : List Fd} {k : Nat} (h : ∀ x ∈ xs, x.1.size ≤ k ∧ x.2.size ≤ k) : ∀ c ∈ getF n xs, c.size ≤ k := fun c hc => by
  unfold getF at hc
  obtain ⟨x, hx, rfl⟩ := List.mem_map.1 hc
  exact (h x (List.mem_filter.1 hx).1).2
theorem FBuf.nil3 (w : World) (B : Nat) : FBuf w B (.slice none 0 0) [] := FBuf.nil_ _ _
theorem FBuf.other {w w' : World} {B b : Nat} {v : Value} {xs : List Fd} (h : FBuf w B v xs) (hb : b < B) (hk : ∀ k, k ≠ b → w'.heap[k]? = w.heap[k]?) : FBuf w' B v xs := by
  refine ⟨h.1, ?_⟩
  rcases h.2 with h0 | ⟨g, cap, cur, h1, h2, h3, h4⟩
  · exact .inl h0
  · exact .inr ⟨g, cap, cur, h1, h2, (hk g (by omega)).trans h3, h4⟩
theorem wp_store_rowS {P : Program} {ops : Array Oper} {E : Prop} {op : Oper} {a : Act} {K : Act → World → Prop} {Q : Exit → Act → World → Prop} {w : World} (hgd : op.guard = none) (ty : TypeId) (x y : Operand) (ho : op.op = .store ty x y)
    (b : Nat) (t : TypeId) (cs vs : List Value) (hg : RowAt w b t cs) (hx : a.eval x = .pointer (some ⟨b, 0, none⟩)) (hy : a.eval y = .agg vs.toArray) (hl : vs.length = cs.length)
    (hi : (P.info? ty).map (·.size) = some cs.length) (h1 : ∀ v ∈ vs, v.oneCell' = true)
    (h : ∀ w', RowAt w' b t vs → (∀ B, B ≤ b → Below B w w') → (∀ k, k ≠ b → w'.heap[k]? = w.heap[k]?) → w'.heap.size = w.heap.size → K (a.put op.dst undef) w') : if Region.wanted op (yielded ops a.tmps) = true then op.wp P a w K Q else E := by
  have hw : Region.wanted op (yielded ops a.tmps) = true := by simp [Region.wanted, hgd]
  rw [if_pos hw]
  refine wp_store_mid ty x y ho b 0 vs.toArray hx hy (fun j hj => ?_) (by rw [hi]; simp [hl]) (all_oneCell_toArray h1) ?_
  · have hj' : j < cs.length := by simp at hj; omega
    rw [Nat.zero_add]
    exact ⟨by rw [hg.cell j (List.getElem?_eq_getElem hj')]; rfl, hg.free j⟩
  · have hr := setCells_row vs cs 0 w hg (by omega)
    rw [Nat.zero_add, hl, List.drop_length, List.take_zero, List.nil_append, List.append_nil] at hr
    exact h _ hr (fun B hB => setCells_below hB _ _ _ (Below.refl _ _)) (fun k hk => setCells_other _ _ _ _ hk) (setCells_size _ _ _)
theorem wpK_pureD {P : Program} {ops : Array Oper} {Q : Exit → Act → World → Prop} {md : Region.Mode} {k : Nat} {c : World → Prop} {i : Nat} {oi : Oper} {v : Value} {d : Option Tmp} {fuel : Nat} {listed : Array Bool} {a : Act} {w : World} (hi : ops[i]? = some oi) (hd : oi.dst = d)
    (hB : (Region.noSelect ops && Region.free md ops listed i && (Region.ready md ops listed).contains i && closedB md ops listed && decide (i ≠ k)) = true)
    (hQ : ∀ c a w, Q (.panic c) (a.put oi.dst v) w → Q (.panic c) a w) (hw : Region.wanted oi (yielded ops a.tmps) = true) (hy : ∀ w, (execOp a.eval oi).run P w = .ok (.value v) w) (hS : listed.getD k false = false → c w)
    (h : wpAnyK P md ops Q k c fuel (listed.setIfInBounds i true) (a.put d v) w) : wpAnyK P md ops Q k c (fuel + 1) listed a w := by
  subst hd
  exact wpK_pure hi hB hQ hw hy hS h
/-- What ParseRequest answers. -/
def ReqOut (r : ReqP × Nat × Int) (w : World) (e : Ending) (w' : World) : Prop :=
  ∃ vf, e = .returned (.tuple #[.agg (reqC ⟨r.1.m.toArray⟩ ⟨r.1.t.toArray⟩ r.1.v vf ⟨r.1.b.toArray⟩).toArray, .int .i64 r.2.1, .int .i64 r.2.2]) ∧ FBuf w' w.heap.size vf r.1.xs ∧ Below w.heap.size w w'
theorem reqOut_err (er : Int) {w w' : World} (hb : Below w.heap.size w w') : ReqOut (req0, 0, er) w (.returned (.tuple #[.agg zReq.toArray, .int .i64 0, .int .i64 er])) w' := ⟨_, rfl, FBuf.nil_ _ _, hb⟩
theorem eg_start (args : Array Value) (w : World) : (callFunc 30 args).run Tryz.prog w = .ok (.enter 30 args) w := enters_of Tryz.func30 (by kernel_rfl) rfl args w
abbrev stR : List UInt8 → Int := fun x => (reqL x).2.2.2
abbrev r2R : List Value := [.slice none 0 0, .string ⟨#[]⟩]
abbrev r1R (x : List UInt8) : List Value := .string ⟨(reqL x).1.toArray⟩ :: .string ⟨(reqL x).2.1.toArray⟩ :: .int .i64 (reqL x).2.2.1 :: r2R
theorem start_pred (w0 w : World) (B g : Nat) (s : ByteArray) (ea eb : Addr) (mx : Int) (hE : StartEnv w0 ea eb mx) (hb : Below w0.heap.size w0 w) (hg : w0.heap.size ≤ g) :
    SPred 30 58 w B g s stR (.string ⟨#[]⟩ :: .string ⟨#[]⟩ :: .int .i64 0 :: r2R) r1R := by
  intro W a vf vl vc line hW R hl
  exact start_any W B g s a [] [] [] vf vl vc ⟨#[]⟩ ⟨#[]⟩ 0 r2R line ⟨(reqL (bs line)).1.toArray⟩ ⟨(reqL (bs line)).2.1.toArray⟩ (reqL (bs line)).2.2.1 (reqL (bs line)).2.2.2 ea eb mx R rfl (hE.below (hb.trans (hW.mono hg))) (by omega)
section
variable {l : List UInt8}
theorem parseQ_e1 (h : (hdL stR l).1 ≠ 0) : parseQ l = (req0, 0, (hdL stR l).1) := by unfold parseQ; rw [if_pos h]
theorem parseQ_e2 (h : (hdL stR l).1 = 0) (h2 : frL (hdL stR l).2.2 ≠ 0) : parseQ l = (req0, 0, frL (hdL stR l).2.2) := by unfold parseQ; rw [if_neg (by simpa using h), if_pos h2]
theorem parseQ_e3 (h : (hdL stR l).1 = 0) (h2 : frL (hdL stR l).2.2 = 0) (h3 : 1 < (getF hoN (hdL stR l).2.2).length ∨ (getF hoN (hdL stR l).2.2).length = 0 ∧ (reqL (nextL l).1).2.2.1 = 1) : parseQ l = (req0, 0, 6) := by
  unfold parseQ; rw [if_neg (by simpa using h), if_neg (by simpa using h2), if_pos h3]
theorem parseQ_e4 (h : (hdL stR l).1 = 0) (h2 : frL (hdL stR l).2.2 = 0) (h3 : ¬ (1 < (getF hoN (hdL stR l).2.2).length ∨ (getF hoN (hdL stR l).2.2).length = 0 ∧ (reqL (nextL l).1).2.2.1 = 1)) {b : List UInt8} {n : Nat} {e : Int} (h4 : bdL (hdL stR l).2.2 (l.drop (hdL stR l).2.1) = (b, n, e)) (h5 : e ≠ 0) : parseQ l = (req0, 0, e) := by
  unfold parseQ; rw [if_neg (by simpa using h), if_neg (by simpa using h2), if_neg h3]; simp only [h4]; rw [if_pos h5]
theorem parseQ_ok (h : (hdL stR l).1 = 0) (h2 : frL (hdL stR l).2.2 = 0) (h3 : ¬ (1 < (getF hoN (hdL stR l).2.2).length ∨ (getF hoN (hdL stR l).2.2).length = 0 ∧ (reqL (nextL l).1).2.2.1 = 1)) {b : List UInt8} {n : Nat} (h4 : bdL (hdL stR l).2.2 (l.drop (hdL stR l).2.1) = (b, n, 0)) :
    parseQ l = (⟨(reqL (nextL l).1).1, (reqL (nextL l).1).2.1, (reqL (nextL l).1).2.2.1, unfrL (hdL stR l).2.2, b⟩, (hdL stR l).2.1 + n, 0) := by
  unfold parseQ; rw [if_neg (by simpa using h), if_neg (by simpa using h2), if_neg h3]; simp only [h4]; rw [if_neg (by simp)]
end
set_option maxHeartbeats 6400000 in
set_option maxRecDepth 100000 in
theorem parse_any (s : ByteArray) (w : World) (hs : s.size ≤ 1000000) (hM : MaxOf w) (ea eb : Addr) (mx : Int) (hE : StartEnv w ea eb mx) :
    Calls Tryz.prog 12 #[.string s] w (ReqOut (parseQ (bs s)) w) := by
  have b2 : Below w.heap.size w ((w.alloc (.cells #[.string ⟨#[]⟩, .string ⟨#[]⟩, .int .i64 0, .slice none 0 0, .string ⟨#[]⟩] 24)).alloc (.cells #[.string s, .int .i64 0, .slice none 0 0, .slice none 0 0, .slice none 0 0, .string ⟨#[]⟩, .string ⟨#[]⟩, .int .i64 0, .slice none 0 0, .string ⟨#[]⟩] 58)) := ((Below.refl _ _).alloc (Nat.le_refl _) _).alloc (by rw [World.size_alloc]; omega) _
  have Z2 : RowAt ((w.alloc (.cells #[.string ⟨#[]⟩, .string ⟨#[]⟩, .int .i64 0, .slice none 0 0, .string ⟨#[]⟩] 24)).alloc (.cells #[.string s, .int .i64 0, .slice none 0 0, .slice none 0 0, .slice none 0 0, .string ⟨#[]⟩, .string ⟨#[]⟩, .int .i64 0, .slice none 0 0, .string ⟨#[]⟩] 58)) w.heap.size 24 zReq := (RowAt.new w zReq 24).alloc _
  have G0 : RowAt ((w.alloc (.cells #[.string ⟨#[]⟩, .string ⟨#[]⟩, .int .i64 0, .slice none 0 0, .string ⟨#[]⟩] 24)).alloc (.cells #[.string s, .int .i64 0, .slice none 0 0, .slice none 0 0, .slice none 0 0, .string ⟨#[]⟩, .string ⟨#[]⟩, .int .i64 0, .slice none 0 0, .string ⟨#[]⟩] 58)) (w.heap.size + 1) 58 ([.string s, .int .i64 0, .slice none 0 0, .slice none 0 0, .slice none 0 0] ++ zReq) := by
    have := RowAt.new (w.alloc (.cells zReq.toArray 24)) ([.string s, .int .i64 0, .slice none 0 0, .slice none 0 0, .slice none 0 0] ++ zReq) 58
    rw [World.size_alloc] at this
    exact this
  have z2 : ((w.alloc (.cells #[.string ⟨#[]⟩, .string ⟨#[]⟩, .int .i64 0, .slice none 0 0, .string ⟨#[]⟩] 24)).alloc (.cells #[.string s, .int .i64 0, .slice none 0 0, .slice none 0 0, .slice none 0 0, .string ⟨#[]⟩, .string ⟨#[]⟩, .int .i64 0, .slice none 0 0, .string ⟨#[]⟩] 58)).heap.size = w.heap.size + 2 := by rw [World.size_alloc, World.size_alloc]
  go_enter Tryz.func12, Tryz.ntmps12
  go_wp2_with fail
  generalize ((w.alloc (.cells #[.string ⟨#[]⟩, .string ⟨#[]⟩, .int .i64 0, .slice none 0 0, .string ⟨#[]⟩] 24)).alloc (.cells #[.string s, .int .i64 0, .slice none 0 0, .slice none 0 0, .slice none 0 0, .string ⟨#[]⟩, .string ⟨#[]⟩, .int .i64 0, .slice none 0 0, .string ⟨#[]⟩] 58)) = w2 at b2 Z2 G0 z2 ⊢
  have RD : RdAt 58 w2 (w.heap.size + 2) (w.heap.size + 1) s 0 [] [] [] (.slice none 0 0) (.slice none 0 0) (.slice none 0 0) zReq := ⟨G0, FBuf.nil_ _ _, SBuf.nil_ _ _, SBuf.nil_ _ _, (fun b h => by cases h), by omega, by omega⟩
  have HC := head_any 58 w2 (w.heap.size + 2) (w.heap.size + 1) s stR 30 zReq r1R _ _ _ RD hs (fun W hW => hM.below (b2.trans (hW.mono (by omega)))) eg_start (start_pred w w2 _ _ s ea eb mx hE b2 (by omega))
  clear RD G0
  obtain ⟨er, a, xs, hhd⟩ : ∃ er a xs, (er, a, xs) = hdL stR (bs s) := ⟨_, _, _, rfl⟩
  rw [← hhd] at HC
  refine HC.mono ?_
  rintro e w3 ⟨rfl, hb3, hRD⟩
  dsimp only at hRD ⊢
  clear HC
  have Z3 := Z2.belowB hb3 (by omega)
  have b3 := b2.trans (hb3.mono (by omega))
  have z3 := hb3.size
  by_cases h1 : er = 0
  · subst h1
    obtain ⟨⟨vf, vl, vc, R3⟩, hat, hxl, hxz⟩ := hRD rfl
    obtain ⟨M, T, v, ev, hreq, _⟩ := req_words (reqL (nextL (bs s)).1)
    have R3 : RdAt 58 w3 (w.heap.size + 2) (w.heap.size + 1) s a (unfrL xs) (getF clN xs) (getF teN xs) vf vl vc (.string M :: .string T :: .int .i64 v :: r2R) := by
      unfold r1R at R3
      rw [hreq] at R3
      exact R3
    go_wp2_with fail
    have hfl : (unfrL xs).length ≤ 65 := by have := List.length_filter_le plainF xs; unfold unfrL; omega
    have HFR := framing_any 58 w3 (w.heap.size + 2) (w.heap.size + 1) s a _ _ _ _ _ _ _ R3 (fun c hc => by have := getF_sz hxz c hc; omega) (fun c hc => by have := getF_sz hxz c hc; omega) (by have := getF_len2 clN xs; omega)
    obtain ⟨ef, hef⟩ : ∃ ef, ef = frE (getF teN xs) (getF clN xs) := ⟨_, rfl⟩
    rw [← hef] at HFR
    have HEF := Lib.hid hef
    clear hef
    refine HFR.mono ?_
    rintro e w4 ⟨rfl, hb4⟩
    have R4 := R3.below hb4
    have Z4 := Z3.below hb4
    have b4 := b3.trans (hb4.mono b3.size)
    have z4 := hb4.size
    clear R3 Z3 hb4 hRD HFR
    by_cases h2 : ef = 0
    · subst h2
      have hfr : frL xs = 0 := HEF.out.symm
      obtain ⟨oa, cap, rfl, HFO⟩ := R4.f.shape
      have c2 := R4.row.cell 2 rfl
      have c8 := R4.row.cell 8 rfl
      have f8 := R4.row.free 8
      have R5 := R4.set 8 (.slice oa (unfrL xs).length cap) a (.string M :: .string T :: .int .i64 v :: .slice oa (unfrL xs).length cap :: [.string ⟨#[]⟩]) rfl
      have Z5 := Z4.setOther (show w.heap.size ≠ w.heap.size + 1 by omega) 8 (.slice oa (unfrL xs).length cap)
      have b5 := b4.setCell (p := ⟨w.heap.size + 1, 8, none⟩) (by show w.heap.size ≤ w.heap.size + 1; omega) (.slice oa (unfrL xs).length cap)
      have g2 := R5.row.cell 2 rfl
      have z5 := size_setM w4 ⟨w.heap.size + 1, 8, none⟩ (.slice oa (unfrL xs).length cap)
      have HFO5 := R5.f.fld
      clear R4 Z4 b4 HFO
      go_wp2_with fail
      generalize (w4.setCell ⟨w.heap.size + 1, 8, none⟩ (.slice oa (unfrL xs).length cap)) = w5 at *
      refine (get_any oa (unfrL xs) cap ⟨#[72, 111, 115, 116]⟩ w5 (by decide) (by omega) (fun x hx => by have := hxz x (List.mem_filter.1 hx).1; omega) HFO5).mono ?_
      rintro e w6 ⟨vh, rfl, SH, hb6⟩
      have R6 := R5.below hb6
      have Z6 := Z5.below hb6
      have b6 := b5.trans (hb6.mono b5.size)
      have z6 := hb6.size
      have d7 := R6.row.cell 7 rfl
      obtain ⟨hs6, hhs⟩ : ∃ l, l = getF hoN xs := ⟨_, rfl⟩
      rw [show getF (bs ⟨#[72, 111, 115, 116]⟩) (unfrL xs) = hs6 by rw [hhs]; exact unfr_ho xs] at SH
      obtain ⟨oh, ch, rfl, _⟩ := SH.shape
      obtain ⟨nh, hlen⟩ : ∃ nh, nh = hs6.length := ⟨_, rfl⟩
      rw [← hlen]
      rw [hhs] at hlen
      have HLEN := Lib.hid hlen
      clear R5 Z5 b5 hb6 SH g2 c2 c8 f8 HFO5 z5 hhs hlen
      by_cases hh1 : 1 < (nh : Int)
      · have HQ : Hid (parseQ (bs s) = (req0, 0, 6)) := Lib.hid (parseQ_e3 (by rw [← hhd]) (by rw [← hhd]; exact hfr) (by rw [← hhd]; left; show 1 < (getF hoN xs).length; have := HLEN.out; omega))
        go_wp2_with (refine wpList_store_row rfl _ 24 (.tmp 2) (.tmp 63) rfl w.heap.size 24 zReq zReq Z6 rfl rfl rfl mreq_size (reqC_one _ _ _ _ _ _ _) ?_; intro w9 R9 f1 f2 f3)
        refine bodyPost_ret (results_row3 rfl _ _ w.heap.size 24 zReq R9 rfl _ Tryz.underlying24 mreq_size) rfl ?_
        rw [HQ.out]
        exact reqOut_err _ (b6.trans (f1 _ (Nat.le_refl _)))
      obtain ⟨bX, n, eb2, hbd0⟩ : ∃ b n e, bdE (getF teN xs) (getF clN xs) ((bs s).drop a) = (b, n, e) := ⟨_, _, _, rfl⟩
      obtain ⟨X, rfl⟩ : ∃ X : ByteArray, bX = bs X := ⟨⟨bX.toArray⟩, rfl⟩
      have hbd := hbd0
      by_cases hh0 : nh = 0
      · have hh0' : ((nh : Int) == 0) = true := by rw [beq_iff_eq]; omega
        by_cases hv1 : v = 1
        · have HQ : Hid (parseQ (bs s) = (req0, 0, 6)) := Lib.hid (parseQ_e3 (by rw [← hhd]) (by rw [← hhd]; exact hfr) (by rw [← hhd, hreq]; right; exact ⟨by show (getF hoN xs).length = 0; have := HLEN.out; omega, hv1⟩))
          subst hv1
          go_wp2_with (refine wpList_store_row rfl _ 24 (.tmp 2) (.tmp 63) rfl w.heap.size 24 zReq zReq Z6 rfl rfl rfl mreq_size (reqC_one _ _ _ _ _ _ _) ?_; intro w9 R9 f1 f2 f3)
          refine bodyPost_ret (results_row3 rfl _ _ w.heap.size 24 zReq R9 rfl _ Tryz.underlying24 mreq_size) rfl ?_
          rw [HQ.out]
          exact reqOut_err _ (b6.trans (f1 _ (Nat.le_refl _)))
        have hv1' : (v == 1) = false := by rw [beq_eq_false_iff_ne]; exact hv1
        have hho : ¬ (1 < nh ∨ nh = 0 ∧ v = 1) := by omega
        go_wp2_with fail
        refine (body_any 58 w6 (w.heap.size + 2) (w.heap.size + 1) s a _ _ _ _ _ _ _ R6 hat hs (hM.below b6) hfr X n eb2 hbd).mono ?_
        rintro e w7 ⟨rfl, hb7, R7, hat7⟩
        have Z7 := Z6.belowB hb7 (by omega)
        have b7 := b6.trans (hb7.mono (by omega))
        have z7 := hb7.size
        by_cases h4 : eb2 = 0
        · subst h4
          have HQ : Hid (parseQ (bs s) = (⟨bs M, bs T, v, unfrL xs, bs X⟩, a + n, 0)) := Lib.hid (by
            have := parseQ_ok (l := bs s) (b := bs X) (n := n) (by rw [← hhd]) (by rw [← hhd]; exact hfr) (by rw [← hhd, hreq]; rw [HLEN.out] at hho; exact hho) (by rw [← hhd]; exact hbd)
            rw [this, ← hhd, hreq])
          have R8 := R7.set 9 (.string X) (a + n) (.string M :: .string T :: .int .i64 v :: .slice oa (unfrL xs).length cap :: [.string X]) rfl
          have f7 := R7.row.free 9
          have c7 := R7.row.cell 9 rfl
          have Z8 := Z7.setOther (show w.heap.size ≠ w.heap.size + 1 by omega) 9 (.string X)
          have b8 := b7.setCell (p := ⟨w.heap.size + 1, 9, none⟩) (by show w.heap.size ≤ w.heap.size + 1; omega) (.string X)
          clear R7 Z7 b7 hb7
          go_wp2_with fail
          generalize (w7.setCell ⟨w.heap.size + 1, 9, none⟩ (.string X)) = w8 at *
          refine wp_region_K 9 (fun w' => Below w8.heap.size w8 w') (by kernel_rfl) (Below.refl _ _).drew (fun hH => ?_)
          generalize w8.drew = y1 at *
          refine wpK_pure (i := 0) (v := .pointer (some ⟨w.heap.size + 1, 0, none⟩)) rfl (by kernel_rfl) (fun _ _ _ h => h) (by rfl) (fun w9 => by go_simp) (fun _ => hH) ?_
          try simp only [Act.put, List.setIfInBounds_toArray, List.set_cons_zero, List.set_cons_succ]
          refine wpK_pure (i := 1) (v := .pointer (some ⟨w.heap.size + 1, 0, none⟩)) rfl (by kernel_rfl) (fun _ _ _ h => h) (by rfl) (fun w9 => by go_simp) (fun _ => hH) ?_
          try simp only [Act.put, List.setIfInBounds_toArray, List.set_cons_zero, List.set_cons_succ]
          refine wpK_pure (i := 2) (v := .pointer (some ⟨w.heap.size + 1, 5, none⟩)) rfl (by kernel_rfl) (fun _ _ _ h => h) (by rfl) (fun w9 => by go_simp) (fun _ => hH) ?_
          try simp only [Act.put, List.setIfInBounds_toArray, List.set_cons_zero, List.set_cons_succ]
          refine wpK_load (i := 3) (v := .agg (reqC M T v (.slice oa (unfrL xs).length cap) X).toArray) [9] rfl (by kernel_rfl) (fun _ _ _ h => h) (by rfl) (fun w9 h9 => by have Q := (R8.row.below h9); have d5 := Q.cell 5 rfl; have d6 := Q.cell 6 rfl; have d7 := Q.cell 7 rfl; have d8 := Q.cell 8 rfl; have d9 := Q.cell 9 rfl; clear Q; go_simp) (fun _ => hH) ?_
          try simp only [Act.put, List.setIfInBounds_toArray, List.set_cons_zero, List.set_cons_succ]
          refine wpK_pure (i := 4) (v := .pointer (some ⟨w.heap.size + 1, 0, none⟩)) rfl (by kernel_rfl) (fun _ _ _ h => h) (by rfl) (fun w9 => by go_simp) (fun _ => hH) ?_
          try simp only [Act.put, List.setIfInBounds_toArray, List.set_cons_zero, List.set_cons_succ]
          refine wpK_pure (i := 5) (v := .pointer (some ⟨w.heap.size + 1, 0, none⟩)) rfl (by kernel_rfl) (fun _ _ _ h => h) (by rfl) (fun w9 => by go_simp) (fun _ => hH) ?_
          try simp only [Act.put, List.setIfInBounds_toArray, List.set_cons_zero, List.set_cons_succ]
          refine wpK_pure (i := 6) (v := .pointer (some ⟨w.heap.size + 1, 0, none⟩)) rfl (by kernel_rfl) (fun _ _ _ h => h) (by rfl) (fun w9 => by go_simp) (fun _ => hH) ?_
          try simp only [Act.put, List.setIfInBounds_toArray, List.set_cons_zero, List.set_cons_succ]
          refine wpK_pure (i := 7) (v := .pointer (some ⟨w.heap.size + 1, 1, none⟩)) rfl (by kernel_rfl) (fun _ _ _ h => h) (by rfl) (fun w9 => by go_simp) (fun _ => hH) ?_
          try simp only [Act.put, List.setIfInBounds_toArray, List.set_cons_zero, List.set_cons_succ]
          have ZQ := Z8.below hH
          refine wpK_ready [8, 9] (by kernel_rfl) (by simp) ?_
          refine AllK.cons (i := 8) (rs := [9]) rfl ?_ (AllK.cons (i := 9) (rs := []) rfl ?_ AllK.nil)
          · intro K hK
            have c9 := (R8.row.below hH).cell 1 rfl
            go_simp
            refine hK.out _ _ (fun _ => hH) ?_
            intro _
            clear hK K
            try simp only [Act.put, List.setIfInBounds_toArray, List.set_cons_zero, List.set_cons_succ]
            refine wpK_ready [9] (by kernel_rfl) (by simp) ?_
            refine AllK.cons (i := 9) (rs := []) rfl ?_ AllK.nil
            intro K hK
            have z0 := ZQ.cell 0 rfl
            have f0 := ZQ.free 0
            have z1 := ZQ.cell 1 rfl
            have f1 := ZQ.free 1
            have z2 := ZQ.cell 2 rfl
            have f2 := ZQ.free 2
            have z3 := ZQ.cell 3 rfl
            have f3 := ZQ.free 3
            have z4 := ZQ.cell 4 rfl
            have f4 := ZQ.free 4
            have RQ : RowAt (((((y1.setCell ⟨w.heap.size, 0, none⟩ (.string M)).setCell ⟨w.heap.size, 1, none⟩ (.string T)).setCell ⟨w.heap.size, 2, none⟩ (.int .i64 v)).setCell ⟨w.heap.size, 3, none⟩ (.slice oa (unfrL xs).length cap)).setCell ⟨w.heap.size, 4, none⟩ (.string X)) w.heap.size 24 (reqC M T v (.slice oa (unfrL xs).length cap) X) := (((((ZQ.set 0 (.string M)).set 1 (.string T)).set 2 (.int .i64 v)).set 3 (.slice oa (unfrL xs).length cap)).set 4 (.string X))
            have k1 : Below w.heap.size y1 (((((y1.setCell ⟨w.heap.size, 0, none⟩ (.string M)).setCell ⟨w.heap.size, 1, none⟩ (.string T)).setCell ⟨w.heap.size, 2, none⟩ (.int .i64 v)).setCell ⟨w.heap.size, 3, none⟩ (.slice oa (unfrL xs).length cap)).setCell ⟨w.heap.size, 4, none⟩ (.string X)) := ((((((Below.refl _ _).setCell (p := ⟨w.heap.size, 0, none⟩) (Nat.le_refl _) (.string M)).setCell (p := ⟨w.heap.size, 1, none⟩) (Nat.le_refl _) (.string T)).setCell (p := ⟨w.heap.size, 2, none⟩) (Nat.le_refl _) (.int .i64 v)).setCell (p := ⟨w.heap.size, 3, none⟩) (Nat.le_refl _) (.slice oa (unfrL xs).length cap)).setCell (p := ⟨w.heap.size, 4, none⟩) (Nat.le_refl _) (.string X))
            have k2 : ∀ k, k ≠ w.heap.size → (((((y1.setCell ⟨w.heap.size, 0, none⟩ (.string M)).setCell ⟨w.heap.size, 1, none⟩ (.string T)).setCell ⟨w.heap.size, 2, none⟩ (.int .i64 v)).setCell ⟨w.heap.size, 3, none⟩ (.slice oa (unfrL xs).length cap)).setCell ⟨w.heap.size, 4, none⟩ (.string X)).heap[k]? = y1.heap[k]? := fun k hk => ((heap_setCell_other _ _ _ _ hk).trans ((heap_setCell_other _ _ _ _ hk).trans ((heap_setCell_other _ _ _ _ hk).trans ((heap_setCell_other _ _ _ _ hk).trans ((heap_setCell_other _ _ _ _ hk).trans rfl)))))
            go_simp
            generalize (((((y1.setCell ⟨w.heap.size, 0, none⟩ (.string M)).setCell ⟨w.heap.size, 1, none⟩ (.string T)).setCell ⟨w.heap.size, 2, none⟩ (.int .i64 v)).setCell ⟨w.heap.size, 3, none⟩ (.slice oa (unfrL xs).length cap)).setCell ⟨w.heap.size, 4, none⟩ (.string X)) = y2 at RQ k1 k2 ⊢
            refine hK.out _ _ (fun h => absurd h (by decide)) ?_
            intro _
            clear hK K z0 z1 z2 z3 z4 f0 f1 f2 f3 f4
            try simp only [Act.put, List.setIfInBounds_toArray, List.set_cons_zero, List.set_cons_succ]
            refine wpK_pureD (i := 10) (d := some 3) (v := .int .i64 ((a + n : Nat) : Int)) rfl rfl (by kernel_rfl) (fun _ _ _ h => h) (by rfl) (fun w9 => by go_simp) (fun h => absurd h (by decide)) ?_
            try simp only [Act.put, List.setIfInBounds_toArray, List.set_cons_zero, List.set_cons_succ]
            refine wpK_pureD (i := 11) (d := some 4) (v := .int .i64 0) rfl rfl (by kernel_rfl) (fun _ _ _ h => h) (by rfl) (fun w9 => by go_simp) (fun h => absurd h (by decide)) ?_
            try simp only [Act.put, List.setIfInBounds_toArray, List.set_cons_zero, List.set_cons_succ]
            refine wpK_done (by kernel_rfl) ?_ _
            go_wp2_with fail
            refine bodyPost_ret (results_row3 rfl _ _ w.heap.size 24 (reqC M T v (.slice oa (unfrL xs).length cap) X) RQ rfl _ Tryz.underlying24 mreq_size) rfl ?_
            rw [HQ.out]
            exact ⟨_, rfl, ((R8.below hH).f.other (show w.heap.size < w.heap.size + 2 by omega) k2).lower (by omega), (b8.trans (hH.mono b8.size)).trans k1⟩
          · intro K hK
            have z0 := ZQ.cell 0 rfl
            have f0 := ZQ.free 0
            have z1 := ZQ.cell 1 rfl
            have f1 := ZQ.free 1
            have z2 := ZQ.cell 2 rfl
            have f2 := ZQ.free 2
            have z3 := ZQ.cell 3 rfl
            have f3 := ZQ.free 3
            have z4 := ZQ.cell 4 rfl
            have f4 := ZQ.free 4
            have RQ : RowAt (((((y1.setCell ⟨w.heap.size, 0, none⟩ (.string M)).setCell ⟨w.heap.size, 1, none⟩ (.string T)).setCell ⟨w.heap.size, 2, none⟩ (.int .i64 v)).setCell ⟨w.heap.size, 3, none⟩ (.slice oa (unfrL xs).length cap)).setCell ⟨w.heap.size, 4, none⟩ (.string X)) w.heap.size 24 (reqC M T v (.slice oa (unfrL xs).length cap) X) := (((((ZQ.set 0 (.string M)).set 1 (.string T)).set 2 (.int .i64 v)).set 3 (.slice oa (unfrL xs).length cap)).set 4 (.string X))
            have k1 : Below w.heap.size y1 (((((y1.setCell ⟨w.heap.size, 0, none⟩ (.string M)).setCell ⟨w.heap.size, 1, none⟩ (.string T)).setCell ⟨w.heap.size, 2, none⟩ (.int .i64 v)).setCell ⟨w.heap.size, 3, none⟩ (.slice oa (unfrL xs).length cap)).setCell ⟨w.heap.size, 4, none⟩ (.string X)) := ((((((Below.refl _ _).setCell (p := ⟨w.heap.size, 0, none⟩) (Nat.le_refl _) (.string M)).setCell (p := ⟨w.heap.size, 1, none⟩) (Nat.le_refl _) (.string T)).setCell (p := ⟨w.heap.size, 2, none⟩) (Nat.le_refl _) (.int .i64 v)).setCell (p := ⟨w.heap.size, 3, none⟩) (Nat.le_refl _) (.slice oa (unfrL xs).length cap)).setCell (p := ⟨w.heap.size, 4, none⟩) (Nat.le_refl _) (.string X))
            have k2 : ∀ k, k ≠ w.heap.size → (((((y1.setCell ⟨w.heap.size, 0, none⟩ (.string M)).setCell ⟨w.heap.size, 1, none⟩ (.string T)).setCell ⟨w.heap.size, 2, none⟩ (.int .i64 v)).setCell ⟨w.heap.size, 3, none⟩ (.slice oa (unfrL xs).length cap)).setCell ⟨w.heap.size, 4, none⟩ (.string X)).heap[k]? = y1.heap[k]? := fun k hk => ((heap_setCell_other _ _ _ _ hk).trans ((heap_setCell_other _ _ _ _ hk).trans ((heap_setCell_other _ _ _ _ hk).trans ((heap_setCell_other _ _ _ _ hk).trans ((heap_setCell_other _ _ _ _ hk).trans rfl)))))
            go_simp
            generalize (((((y1.setCell ⟨w.heap.size, 0, none⟩ (.string M)).setCell ⟨w.heap.size, 1, none⟩ (.string T)).setCell ⟨w.heap.size, 2, none⟩ (.int .i64 v)).setCell ⟨w.heap.size, 3, none⟩ (.slice oa (unfrL xs).length cap)).setCell ⟨w.heap.size, 4, none⟩ (.string X)) = y2 at RQ k1 k2 ⊢
            refine hK.out _ _ (fun h => absurd h (by decide)) ?_
            intro _
            clear hK K z0 z1 z2 z3 z4 f0 f1 f2 f3 f4
            try simp only [Act.put, List.setIfInBounds_toArray, List.set_cons_zero, List.set_cons_succ]
            have c9 : y2.cell? ⟨w.heap.size + 1, 1, none⟩ = some (.int .i64 ((a + n : Nat) : Int)) := by
              have h9 : RowAt y2 (w.heap.size + 1) _ _ := (k2 (w.heap.size + 1) (by omega)).trans (R8.row.below hH)
              exact h9.cell 1 rfl
            refine wpK_ready [8] (by kernel_rfl) (by simp) ?_
            refine AllK.cons (i := 8) (rs := []) rfl ?_ AllK.nil
            intro K hK
            go_simp
            refine hK.out _ _ (fun h => absurd h (by decide)) ?_
            intro _
            clear hK K
            try simp only [Act.put, List.setIfInBounds_toArray, List.set_cons_zero, List.set_cons_succ]
            refine wpK_pureD (i := 10) (d := some 3) (v := .int .i64 ((a + n : Nat) : Int)) rfl rfl (by kernel_rfl) (fun _ _ _ h => h) (by rfl) (fun w9 => by go_simp) (fun h => absurd h (by decide)) ?_
            try simp only [Act.put, List.setIfInBounds_toArray, List.set_cons_zero, List.set_cons_succ]
            refine wpK_pureD (i := 11) (d := some 4) (v := .int .i64 0) rfl rfl (by kernel_rfl) (fun _ _ _ h => h) (by rfl) (fun w9 => by go_simp) (fun h => absurd h (by decide)) ?_
            try simp only [Act.put, List.setIfInBounds_toArray, List.set_cons_zero, List.set_cons_succ]
            refine wpK_done (by kernel_rfl) ?_ _
            go_wp2_with fail
            refine bodyPost_ret (results_row3 rfl _ _ w.heap.size 24 (reqC M T v (.slice oa (unfrL xs).length cap) X) RQ rfl _ Tryz.underlying24 mreq_size) rfl ?_
            rw [HQ.out]
            exact ⟨_, rfl, ((R8.below hH).f.other (show w.heap.size < w.heap.size + 2 by omega) k2).lower (by omega), (b8.trans (hH.mono b8.size)).trans k1⟩
        · have h4' : (eb2 != 0) = true := by simp [h4]
          have HQ : Hid (parseQ (bs s) = (req0, 0, eb2)) := Lib.hid (parseQ_e4 (l := bs s) (b := bs X) (n := n) (by rw [← hhd]) (by rw [← hhd]; exact hfr) (by rw [← hhd, hreq]; rw [HLEN.out] at hho; exact hho) (by rw [← hhd]; exact hbd) h4)
          go_wp2_with (refine wpList_store_row rfl _ 24 (.tmp 2) (.tmp 73) rfl w.heap.size 24 zReq zReq Z7 rfl rfl rfl mreq_size (reqC_one _ _ _ _ _ _ _) ?_; intro w9 R9 f1 f2 f3)
          refine bodyPost_ret (results_row3 rfl _ _ w.heap.size 24 zReq R9 rfl _ Tryz.underlying24 mreq_size) rfl ?_
          rw [HQ.out]
          exact reqOut_err _ (b7.trans (f1 _ (Nat.le_refl _)))
      · have hh0' : ((nh : Int) == 0) = false := by rw [beq_eq_false_iff_ne]; omega
        have hho : ¬ (1 < nh ∨ nh = 0 ∧ v = 1) := by omega
        go_wp2_with fail
        refine (body_any 58 w6 (w.heap.size + 2) (w.heap.size + 1) s a _ _ _ _ _ _ _ R6 hat hs (hM.below b6) hfr X n eb2 hbd).mono ?_
        rintro e w7 ⟨rfl, hb7, R7, hat7⟩
        have Z7 := Z6.belowB hb7 (by omega)
        have b7 := b6.trans (hb7.mono (by omega))
        have z7 := hb7.size
        by_cases h4 : eb2 = 0
        · subst h4
          have HQ : Hid (parseQ (bs s) = (⟨bs M, bs T, v, unfrL xs, bs X⟩, a + n, 0)) := Lib.hid (by
            have := parseQ_ok (l := bs s) (b := bs X) (n := n) (by rw [← hhd]) (by rw [← hhd]; exact hfr) (by rw [← hhd, hreq]; rw [HLEN.out] at hho; exact hho) (by rw [← hhd]; exact hbd)
            rw [this, ← hhd, hreq])
          have R8 := R7.set 9 (.string X) (a + n) (.string M :: .string T :: .int .i64 v :: .slice oa (unfrL xs).length cap :: [.string X]) rfl
          have f7 := R7.row.free 9
          have c7 := R7.row.cell 9 rfl
          have Z8 := Z7.setOther (show w.heap.size ≠ w.heap.size + 1 by omega) 9 (.string X)
          have b8 := b7.setCell (p := ⟨w.heap.size + 1, 9, none⟩) (by show w.heap.size ≤ w.heap.size + 1; omega) (.string X)
          clear R7 Z7 b7 hb7
          go_wp2_with fail
          generalize (w7.setCell ⟨w.heap.size + 1, 9, none⟩ (.string X)) = w8 at *
          refine wp_region_K 9 (fun w' => Below w8.heap.size w8 w') (by kernel_rfl) (Below.refl _ _).drew (fun hH => ?_)
          generalize w8.drew = y1 at *
          refine wpK_pure (i := 0) (v := .pointer (some ⟨w.heap.size + 1, 0, none⟩)) rfl (by kernel_rfl) (fun _ _ _ h => h) (by rfl) (fun w9 => by go_simp) (fun _ => hH) ?_
          try simp only [Act.put, List.setIfInBounds_toArray, List.set_cons_zero, List.set_cons_succ]
          refine wpK_pure (i := 1) (v := .pointer (some ⟨w.heap.size + 1, 0, none⟩)) rfl (by kernel_rfl) (fun _ _ _ h => h) (by rfl) (fun w9 => by go_simp) (fun _ => hH) ?_
          try simp only [Act.put, List.setIfInBounds_toArray, List.set_cons_zero, List.set_cons_succ]
          refine wpK_pure (i := 2) (v := .pointer (some ⟨w.heap.size + 1, 5, none⟩)) rfl (by kernel_rfl) (fun _ _ _ h => h) (by rfl) (fun w9 => by go_simp) (fun _ => hH) ?_
          try simp only [Act.put, List.setIfInBounds_toArray, List.set_cons_zero, List.set_cons_succ]
          refine wpK_load (i := 3) (v := .agg (reqC M T v (.slice oa (unfrL xs).length cap) X).toArray) [9] rfl (by kernel_rfl) (fun _ _ _ h => h) (by rfl) (fun w9 h9 => by have Q := (R8.row.below h9); have d5 := Q.cell 5 rfl; have d6 := Q.cell 6 rfl; have d7 := Q.cell 7 rfl; have d8 := Q.cell 8 rfl; have d9 := Q.cell 9 rfl; clear Q; go_simp) (fun _ => hH) ?_
          try simp only [Act.put, List.setIfInBounds_toArray, List.set_cons_zero, List.set_cons_succ]
          refine wpK_pure (i := 4) (v := .pointer (some ⟨w.heap.size + 1, 0, none⟩)) rfl (by kernel_rfl) (fun _ _ _ h => h) (by rfl) (fun w9 => by go_simp) (fun _ => hH) ?_
          try simp only [Act.put, List.setIfInBounds_toArray, List.set_cons_zero, List.set_cons_succ]
          refine wpK_pure (i := 5) (v := .pointer (some ⟨w.heap.size + 1, 0, none⟩)) rfl (by kernel_rfl) (fun _ _ _ h => h) (by rfl) (fun w9 => by go_simp) (fun _ => hH) ?_
          try simp only [Act.put, List.setIfInBounds_toArray, List.set_cons_zero, List.set_cons_succ]
          refine wpK_pure (i := 6) (v := .pointer (some ⟨w.heap.size + 1, 0, none⟩)) rfl (by kernel_rfl) (fun _ _ _ h => h) (by rfl) (fun w9 => by go_simp) (fun _ => hH) ?_
          try simp only [Act.put, List.setIfInBounds_toArray, List.set_cons_zero, List.set_cons_succ]
          refine wpK_pure (i := 7) (v := .pointer (some ⟨w.heap.size + 1, 1, none⟩)) rfl (by kernel_rfl) (fun _ _ _ h => h) (by rfl) (fun w9 => by go_simp) (fun _ => hH) ?_
          try simp only [Act.put, List.setIfInBounds_toArray, List.set_cons_zero, List.set_cons_succ]
          have ZQ := Z8.below hH
          refine wpK_ready [8, 9] (by kernel_rfl) (by simp) ?_
          refine AllK.cons (i := 8) (rs := [9]) rfl ?_ (AllK.cons (i := 9) (rs := []) rfl ?_ AllK.nil)
          · intro K hK
            have c9 := (R8.row.below hH).cell 1 rfl
            go_simp
            refine hK.out _ _ (fun _ => hH) ?_
            intro _
            clear hK K
            try simp only [Act.put, List.setIfInBounds_toArray, List.set_cons_zero, List.set_cons_succ]
            refine wpK_ready [9] (by kernel_rfl) (by simp) ?_
            refine AllK.cons (i := 9) (rs := []) rfl ?_ AllK.nil
            intro K hK
            have z0 := ZQ.cell 0 rfl
            have f0 := ZQ.free 0
            have z1 := ZQ.cell 1 rfl
            have f1 := ZQ.free 1
            have z2 := ZQ.cell 2 rfl
            have f2 := ZQ.free 2
            have z3 := ZQ.cell 3 rfl
            have f3 := ZQ.free 3
            have z4 := ZQ.cell 4 rfl
            have f4 := ZQ.free 4
            have RQ : RowAt (((((y1.setCell ⟨w.heap.size, 0, none⟩ (.string M)).setCell ⟨w.heap.size, 1, none⟩ (.string T)).setCell ⟨w.heap.size, 2, none⟩ (.int .i64 v)).setCell ⟨w.heap.size, 3, none⟩ (.slice oa (unfrL xs).length cap)).setCell ⟨w.heap.size, 4, none⟩ (.string X)) w.heap.size 24 (reqC M T v (.slice oa (unfrL xs).length cap) X) := (((((ZQ.set 0 (.string M)).set 1 (.string T)).set 2 (.int .i64 v)).set 3 (.slice oa (unfrL xs).length cap)).set 4 (.string X))
            have k1 : Below w.heap.size y1 (((((y1.setCell ⟨w.heap.size, 0, none⟩ (.string M)).setCell ⟨w.heap.size, 1, none⟩ (.string T)).setCell ⟨w.heap.size, 2, none⟩ (.int .i64 v)).setCell ⟨w.heap.size, 3, none⟩ (.slice oa (unfrL xs).length cap)).setCell ⟨w.heap.size, 4, none⟩ (.string X)) := ((((((Below.refl _ _).setCell (p := ⟨w.heap.size, 0, none⟩) (Nat.le_refl _) (.string M)).setCell (p := ⟨w.heap.size, 1, none⟩) (Nat.le_refl _) (.string T)).setCell (p := ⟨w.heap.size, 2, none⟩) (Nat.le_refl _) (.int .i64 v)).setCell (p := ⟨w.heap.size, 3, none⟩) (Nat.le_refl _) (.slice oa (unfrL xs).length cap)).setCell (p := ⟨w.heap.size, 4, none⟩) (Nat.le_refl _) (.string X))
            have k2 : ∀ k, k ≠ w.heap.size → (((((y1.setCell ⟨w.heap.size, 0, none⟩ (.string M)).setCell ⟨w.heap.size, 1, none⟩ (.string T)).setCell ⟨w.heap.size, 2, none⟩ (.int .i64 v)).setCell ⟨w.heap.size, 3, none⟩ (.slice oa (unfrL xs).length cap)).setCell ⟨w.heap.size, 4, none⟩ (.string X)).heap[k]? = y1.heap[k]? := fun k hk => ((heap_setCell_other _ _ _ _ hk).trans ((heap_setCell_other _ _ _ _ hk).trans ((heap_setCell_other _ _ _ _ hk).trans ((heap_setCell_other _ _ _ _ hk).trans ((heap_setCell_other _ _ _ _ hk).trans rfl)))))
            go_simp
            generalize (((((y1.setCell ⟨w.heap.size, 0, none⟩ (.string M)).setCell ⟨w.heap.size, 1, none⟩ (.string T)).setCell ⟨w.heap.size, 2, none⟩ (.int .i64 v)).setCell ⟨w.heap.size, 3, none⟩ (.slice oa (unfrL xs).length cap)).setCell ⟨w.heap.size, 4, none⟩ (.string X)) = y2 at RQ k1 k2 ⊢
            refine hK.out _ _ (fun h => absurd h (by decide)) ?_
            intro _
            clear hK K z0 z1 z2 z3 z4 f0 f1 f2 f3 f4
            try simp only [Act.put, List.setIfInBounds_toArray, List.set_cons_zero, List.set_cons_succ]
            refine wpK_pureD (i := 10) (d := some 3) (v := .int .i64 ((a + n : Nat) : Int)) rfl rfl (by kernel_rfl) (fun _ _ _ h => h) (by rfl) (fun w9 => by go_simp) (fun h => absurd h (by decide)) ?_
            try simp only [Act.put, List.setIfInBounds_toArray, List.set_cons_zero, List.set_cons_succ]
            refine wpK_pureD (i := 11) (d := some 4) (v := .int .i64 0) rfl rfl (by kernel_rfl) (fun _ _ _ h => h) (by rfl) (fun w9 => by go_simp) (fun h => absurd h (by decide)) ?_
            try simp only [Act.put, List.setIfInBounds_toArray, List.set_cons_zero, List.set_cons_succ]
            refine wpK_done (by kernel_rfl) ?_ _
            go_wp2_with fail
            refine bodyPost_ret (results_row3 rfl _ _ w.heap.size 24 (reqC M T v (.slice oa (unfrL xs).length cap) X) RQ rfl _ Tryz.underlying24 mreq_size) rfl ?_
            rw [HQ.out]
            exact ⟨_, rfl, ((R8.below hH).f.other (show w.heap.size < w.heap.size + 2 by omega) k2).lower (by omega), (b8.trans (hH.mono b8.size)).trans k1⟩
          · intro K hK
            have z0 := ZQ.cell 0 rfl
            have f0 := ZQ.free 0
            have z1 := ZQ.cell 1 rfl
            have f1 := ZQ.free 1
            have z2 := ZQ.cell 2 rfl
            have f2 := ZQ.free 2
            have z3 := ZQ.cell 3 rfl
            have f3 := ZQ.free 3
            have z4 := ZQ.cell 4 rfl
            have f4 := ZQ.free 4
            have RQ : RowAt (((((y1.setCell ⟨w.heap.size, 0, none⟩ (.string M)).setCell ⟨w.heap.size, 1, none⟩ (.string T)).setCell ⟨w.heap.size, 2, none⟩ (.int .i64 v)).setCell ⟨w.heap.size, 3, none⟩ (.slice oa (unfrL xs).length cap)).setCell ⟨w.heap.size, 4, none⟩ (.string X)) w.heap.size 24 (reqC M T v (.slice oa (unfrL xs).length cap) X) := (((((ZQ.set 0 (.string M)).set 1 (.string T)).set 2 (.int .i64 v)).set 3 (.slice oa (unfrL xs).length cap)).set 4 (.string X))
            have k1 : Below w.heap.size y1 (((((y1.setCell ⟨w.heap.size, 0, none⟩ (.string M)).setCell ⟨w.heap.size, 1, none⟩ (.string T)).setCell ⟨w.heap.size, 2, none⟩ (.int .i64 v)).setCell ⟨w.heap.size, 3, none⟩ (.slice oa (unfrL xs).length cap)).setCell ⟨w.heap.size, 4, none⟩ (.string X)) := ((((((Below.refl _ _).setCell (p := ⟨w.heap.size, 0, none⟩) (Nat.le_refl _) (.string M)).setCell (p := ⟨w.heap.size, 1, none⟩) (Nat.le_refl _) (.string T)).setCell (p := ⟨w.heap.size, 2, none⟩) (Nat.le_refl _) (.int .i64 v)).setCell (p := ⟨w.heap.size, 3, none⟩) (Nat.le_refl _) (.slice oa (unfrL xs).length cap)).setCell (p := ⟨w.heap.size, 4, none⟩) (Nat.le_refl _) (.string X))
            have k2 : ∀ k, k ≠ w.heap.size → (((((y1.setCell ⟨w.heap.size, 0, none⟩ (.string M)).setCell ⟨w.heap.size, 1, none⟩ (.string T)).setCell ⟨w.heap.size, 2, none⟩ (.int .i64 v)).setCell ⟨w.heap.size, 3, none⟩ (.slice oa (unfrL xs).length cap)).setCell ⟨w.heap.size, 4, none⟩ (.string X)).heap[k]? = y1.heap[k]? := fun k hk => ((heap_setCell_other _ _ _ _ hk).trans ((heap_setCell_other _ _ _ _ hk).trans ((heap_setCell_other _ _ _ _ hk).trans ((heap_setCell_other _ _ _ _ hk).trans ((heap_setCell_other _ _ _ _ hk).trans rfl)))))
            go_simp
            generalize (((((y1.setCell ⟨w.heap.size, 0, none⟩ (.string M)).setCell ⟨w.heap.size, 1, none⟩ (.string T)).setCell ⟨w.heap.size, 2, none⟩ (.int .i64 v)).setCell ⟨w.heap.size, 3, none⟩ (.slice oa (unfrL xs).length cap)).setCell ⟨w.heap.size, 4, none⟩ (.string X)) = y2 at RQ k1 k2 ⊢
            refine hK.out _ _ (fun h => absurd h (by decide)) ?_
            intro _
            clear hK K z0 z1 z2 z3 z4 f0 f1 f2 f3 f4
            try simp only [Act.put, List.setIfInBounds_toArray, List.set_cons_zero, List.set_cons_succ]
            have c9 : y2.cell? ⟨w.heap.size + 1, 1, none⟩ = some (.int .i64 ((a + n : Nat) : Int)) := by
              have h9 : RowAt y2 (w.heap.size + 1) _ _ := (k2 (w.heap.size + 1) (by omega)).trans (R8.row.below hH)
              exact h9.cell 1 rfl
            refine wpK_ready [8] (by kernel_rfl) (by simp) ?_
            refine AllK.cons (i := 8) (rs := []) rfl ?_ AllK.nil
            intro K hK
            go_simp
            refine hK.out _ _ (fun h => absurd h (by decide)) ?_
            intro _
            clear hK K
            try simp only [Act.put, List.setIfInBounds_toArray, List.set_cons_zero, List.set_cons_succ]
            refine wpK_pureD (i := 10) (d := some 3) (v := .int .i64 ((a + n : Nat) : Int)) rfl rfl (by kernel_rfl) (fun _ _ _ h => h) (by rfl) (fun w9 => by go_simp) (fun h => absurd h (by decide)) ?_
            try simp only [Act.put, List.setIfInBounds_toArray, List.set_cons_zero, List.set_cons_succ]
            refine wpK_pureD (i := 11) (d := some 4) (v := .int .i64 0) rfl rfl (by kernel_rfl) (fun _ _ _ h => h) (by rfl) (fun w9 => by go_simp) (fun h => absurd h (by decide)) ?_
            try simp only [Act.put, List.setIfInBounds_toArray, List.set_cons_zero, List.set_cons_succ]
            refine wpK_done (by kernel_rfl) ?_ _
            go_wp2_with fail
            refine bodyPost_ret (results_row3 rfl _ _ w.heap.size 24 (reqC M T v (.slice oa (unfrL xs).length cap) X) RQ rfl _ Tryz.underlying24 mreq_size) rfl ?_
            rw [HQ.out]
            exact ⟨_, rfl, ((R8.below hH).f.other (show w.heap.size < w.heap.size + 2 by omega) k2).lower (by omega), (b8.trans (hH.mono b8.size)).trans k1⟩
        · have h4' : (eb2 != 0) = true := by simp [h4]
          have HQ : Hid (parseQ (bs s) = (req0, 0, eb2)) := Lib.hid (parseQ_e4 (l := bs s) (b := bs X) (n := n) (by rw [← hhd]) (by rw [← hhd]; exact hfr) (by rw [← hhd, hreq]; rw [HLEN.out] at hho; exact hho) (by rw [← hhd]; exact hbd) h4)
          go_wp2_with (refine wpList_store_row rfl _ 24 (.tmp 2) (.tmp 73) rfl w.heap.size 24 zReq zReq Z7 rfl rfl rfl mreq_size (reqC_one _ _ _ _ _ _ _) ?_; intro w9 R9 f1 f2 f3)
          refine bodyPost_ret (results_row3 rfl _ _ w.heap.size 24 zReq R9 rfl _ Tryz.underlying24 mreq_size) rfl ?_
          rw [HQ.out]
          exact reqOut_err _ (b7.trans (f1 _ (Nat.le_refl _)))
    · have h2' : (ef != 0) = true := by simp [h2]
      have HQ : Hid (parseQ (bs s) = (req0, 0, ef)) := Lib.hid ((parseQ_e2 (l := bs s) (by rw [← hhd]) (by rw [← hhd]; have h9 := h2; rw [HEF.out] at h9; exact h9)).trans (by rw [← hhd, HEF.out]; rfl))
      go_wp2_with (refine wpList_store_row rfl _ 24 (.tmp 2) (.tmp 31) rfl w.heap.size 24 zReq zReq Z4 rfl rfl rfl mreq_size (reqC_one _ _ _ _ _ _ _) ?_; intro w9 R9 f1 f2 f3)
      refine bodyPost_ret (results_row3 rfl _ _ w.heap.size 24 zReq R9 rfl _ Tryz.underlying24 mreq_size) rfl ?_
      rw [HQ.out]
      exact reqOut_err _ (b4.trans (f1 _ (Nat.le_refl _)))
  · have h1' : (er != 0) = true := by simp [h1]
    have HQ : Hid (parseQ (bs s) = (req0, 0, er)) := Lib.hid ((parseQ_e1 (by rw [← hhd]; exact h1)).trans (by rw [← hhd]))
    go_wp2_with (refine wpList_store_row rfl _ 24 (.tmp 2) (.tmp 23) rfl w.heap.size 24 zReq zReq Z3 rfl rfl rfl mreq_size (reqC_one _ _ _ _ _ _ _) ?_; intro w9 R9 f1 f2 f3)
    refine bodyPost_ret (results_row3 rfl _ _ w.heap.size 24 zReq R9 rfl _ Tryz.underlying24 mreq_size) rfl ?_
    rw [HQ.out]
    exact reqOut_err _ (b3.trans (f1 _ (Nat.le_refl _)))
end Go.Proofs.YtfnmohaddkoalaaGreatDoor
