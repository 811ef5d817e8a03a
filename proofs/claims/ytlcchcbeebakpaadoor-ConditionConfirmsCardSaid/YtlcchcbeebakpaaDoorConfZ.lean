/- The plain law of ConditionConfirms: a response with the validators of an entry confirms it. The walk of keep.Request. Entries among the arguments, opened; keep.Keys and keep.Entry walked. The walk of ConditionConfirms (law 31). Printed by gen_confl.py. -/
import Derived.Test.YtlcchcbeebakpaaDoorNotM
import Derived.Test.YtlcchcbeebakpaaDoorCondX
import Derived.Test.YtlcchcbeebakpaaDoorArgO
import Derived.Test.YtlcchcbeebakpaaDoorKeepS
import Derived.Test.YtlcchcbeebakpaaDoorCondV
namespace Go.Proofs.YtlcchcbeebakpaaDoor
open Go.RowKit

theorem getF_app (n : List UInt8) (a b : List Fd) : getF n (a ++ b) = getF n a ++ getF n b := by unfold getF; rw [List.filter_append, List.map_append]
theorem oneB_mem {n : List UInt8} {l : List (List UInt8)} {x : List UInt8} (hx : x ∈ l) (h : foldB n x = true) : oneB n l = true := by
  induction l with
  | nil => cases hx
  | cons y t ih =>
    rcases List.mem_cons.1 hx with rfl | hx
    · simp [oneB, h]
    · simp [oneB, ih hx]
theorem getF_none {ns : List (List UInt8)} {n : List UInt8} (hn : n ∈ ns) (xs : List Fd) : getF n (xs.filter (noneB ns)) = [] := by
  unfold getF
  rw [List.filter_filter, List.map_eq_nil_iff, List.filter_eq_nil_iff]
  intro x _ h
  rw [Bool.and_eq_true] at h
  have h1 : foldB (bs x.1) n = true := h.1
  have h2 := h.2
  unfold noneB at h2
  rw [oneB_mem hn h1] at h2
  cases h2
theorem qcut_tail (t : List UInt8) (h : permB t = true) : ∀ (st : Nat) (acc : List UInt8), st = 1 ∨ st = 2 → qcut 44 st acc (t ++ [34]) = [acc ++ t ++ [34]] := by
  induction t with
  | nil =>
    intro st acc hst
    rw [List.nil_append, qcut_go (by omega), qcut]; simp
  | cons c t ih =>
    intro st acc hst
    unfold permB at h
    rw [List.all_cons, Bool.and_eq_true] at h
    have hc : ¬ c.toNat = 34 := fun e => by rw [permC_false (.inr (.inl e))] at h; cases h.1
    rw [List.cons_append, qcut_go (by omega), ih h.2 _ _ (by
      unfold qstep
      rcases hst with rfl | rfl
      · by_cases h92 : c.toNat = 92
        · simp [h92]
        · simp [h92, hc]
      · simp)]
    simp
theorem members_fmt (b : Bool) (t : List UInt8) (h : permB t = true) : membersL (etfmtL (b, t)) = [etfmtL (b, t)] := by
  have hf : etfmtL (b, t) = (if b then [87, 47] else []) ++ (34 :: (t ++ [34])) := by
    unfold etfmtL; rw [h]; cases b <;> simp
  have hq : qcut 44 0 [] (etfmtL (b, t)) = [etfmtL (b, t)] := by
    rw [hf]
    cases b with
    | true =>
      show qcut 44 0 [] (87 :: 47 :: 34 :: (t ++ [34])) = _
      rw [qcut_go (by decide), qcut_go (by decide), qcut_go (by decide), show qstep (qstep (qstep 0 87) 47) 34 = 1 from by decide, qcut_tail t h 1 _ (.inl rfl)]
      simp
    | false =>
      show qcut 44 0 [] (34 :: (t ++ [34])) = _
      rw [qcut_go (by decide), show qstep 0 34 = 1 from by decide, qcut_tail t h 1 _ (.inl rfl)]
      simp
  have hlast : ∃ u, etfmtL (b, t) = u ++ [34] := ⟨(if b then [87, 47] else []) ++ (34 :: t), by rw [hf]; simp⟩
  have hhead : ∃ c u, etfmtL (b, t) = c :: u ∧ blankC c = false := by
    rw [hf]
    cases b with
    | true => exact ⟨87, _, rfl, by decide⟩
    | false => exact ⟨34, _, rfl, by decide⟩
  have ht : trimL (etfmtL (b, t)) = etfmtL (b, t) := by
    obtain ⟨u, hu⟩ := hlast
    obtain ⟨c, u2, hu2, hc⟩ := hhead
    rw [← trimL_eq]
    have h1 : leftL (etfmtL (b, t)) = etfmtL (b, t) := by unfold leftL; rw [hu2]; exact drop_none hc
    rw [h1]
    unfold rightL
    rw [hu, List.reverse_append]
    show ((34 :: u.reverse).dropWhile blankC).reverse = _
    rw [drop_none (by decide)]; simp
  unfold membersL
  rw [hq]
  unfold memP
  rw [List.map_singleton, ht]
  obtain ⟨c, u2, hu2, _⟩ := hhead
  rw [List.filter_cons_of_pos (by rw [hu2]; rfl)]
  rfl
theorem quot_fmt (t : List UInt8) (h : permB t = true) : quotB (34 :: (t ++ [34])) = true ∧ ((34 :: (t ++ [34])).drop 1).take ((34 :: (t ++ [34])).length - 2) = t := by
  have e : ((34 :: (t ++ [34])).drop 1).take ((34 :: (t ++ [34])).length - 2) = t := by simp
  refine ⟨?_, e⟩
  have hl : (34 :: (t ++ [34])).getLast? = some (34 : UInt8) := List.getLast?_eq_some_iff.2 ⟨34 :: t, by simp⟩
  unfold quotB
  rw [e, h, hl]
  simp
theorem etag_fmt (b : Bool) (t : List UInt8) (h : permB t = true) : etagL (etfmtL (b, t)) = some (b, t) := by
  obtain ⟨q1, q2⟩ := quot_fmt t h
  have hw : weakL (etfmtL (b, t)) = (34 :: (t ++ [34]), b) := by
    unfold etfmtL weakL
    rw [h]
    cases b with
    | true => rfl
    | false => rfl
  unfold etagL
  rw [hw]
  show (if quotB (34 :: (t ++ [34])) = true then _ else _) = _
  rw [if_pos q1]
  show some (b, ((34 :: (t ++ [34])).drop 1).take ((34 :: (t ++ [34])).length - 2)) = _
  rw [q2]
theorem ofE_perm {es : List Fd} {b : Bool} {t : List UInt8} (h : ofE es = some (b, t)) : permB t = true := by
  unfold ofE at h
  cases hg : getF (bs nETag) es with
  | nil => rw [hg] at h; cases h
  | cons x y =>
    rw [hg] at h
    have h' : etagL (bs x) = some (b, t) := h
    unfold etagL at h'
    split at h'
    · rename_i hq
      cases h'
      unfold quotB at hq
      rw [Bool.and_eq_true] at hq
      exact hq.2
    · cases h'
theorem valid_inm (xs es : List Fd) : getF (bs nINM) (validL xs es) = match ofE es with | none => [] | some t => [⟨(etfmtL t).toArray⟩] := by
  unfold validL
  rw [getF_app, getF_app, getF_none (show bs nINM ∈ condN.map bs from by decide)]
  have h2 : getF (bs nINM) (sinceF es) = [] := by
    unfold sinceF
    split
    · unfold getF; rw [List.filter_cons_of_neg (show ¬ isF (bs nINM) (nIMS, datedS (bs nLM) es) = true from by show ¬ foldB (bs nIMS) (bs nINM) = true; decide)]; rfl
    · rfl
  rw [h2]
  unfold tagF
  cases ofE es with
  | none => rfl
  | some t =>
    show [] ++ getF (bs nINM) [(nINM, ⟨(etfmtL t).toArray⟩)] ++ [] = _
    unfold getF
    rw [List.filter_cons_of_pos (show isF (bs nINM) (nINM, (⟨(etfmtL t).toArray⟩ : ByteArray)) = true from by show foldB (bs nINM) (bs nINM) = true; decide)]
    rfl
theorem valid_ims (xs es : List Fd) : getF (bs nIMS) (validL xs es) = if (dpt (bs (datedS (bs nLM) es))).2 then [datedS (bs nLM) es] else [] := by
  unfold validL
  rw [getF_app, getF_app, getF_none (show bs nIMS ∈ condN.map bs from by decide)]
  have h2 : getF (bs nIMS) (tagF es) = [] := by
    unfold tagF
    cases ofE es with
    | none => rfl
    | some t => unfold getF; rw [List.filter_cons_of_neg (show ¬ isF (bs nIMS) (nINM, (⟨(etfmtL t).toArray⟩ : ByteArray)) = true from by show ¬ foldB (bs nINM) (bs nIMS) = true; decide)]; rfl
  rw [h2]
  unfold sinceF
  split
  · show [] ++ [] ++ getF (bs nIMS) [(nIMS, datedS (bs nLM) es)] = _
    unfold getF
    rw [List.filter_cons_of_pos (show isF (bs nIMS) (nIMS, datedS (bs nLM) es) = true from by show foldB (bs nIMS) (bs nIMS) = true; decide)]
    rfl
  · rfl
theorem confirm_cond (xs es : List Fd) : condB (validL xs es) = validTB es := by
  unfold condB validTB
  rw [valid_inm, valid_ims]
  cases ofE es with
  | none => cases (dpt (bs (datedS (bs nLM) es))).2 <;> rfl
  | some t => cases (dpt (bs (datedS (bs nLM) es))).2 <;> rfl
theorem confirm_nm (xs es : List Fd) : nmB gET 200 (validL xs es) es = validTB es := by
  unfold nmB
  rw [if_pos ⟨by decide, rfl⟩]
  have hi := valid_inm xs es
  cases ho : ofE es with
  | some t =>
    obtain ⟨b, l⟩ := t
    rw [ho] at hi
    have hp := ofE_perm ho
    rw [if_pos (by rw [hi]; exact Nat.zero_lt_one)]
    have ha : allL (bs nINM) (validL xs es) = [etfmtL (b, l)] := by
      unfold allL allGo
      rw [hi]
      show ((membersL (bs ⟨(etfmtL (b, l)).toArray⟩)) ++ []).take 64 = _
      rw [show bs (⟨(etfmtL (b, l)).toArray⟩ : ByteArray) = etfmtL (b, l) from rfl, members_fmt b l hp]; rfl
    have ht : tagsL [etfmtL (b, l)] = some (some [(b, l)]) := by
      unfold tagsL
      rw [if_neg (by
        intro e
        have e1 : etfmtL (b, l) = [42] := by simpa using e
        have := etag_fmt b l hp
        rw [e1, show etagL [42] = none from by decide] at this
        cases this), if_neg (by simp)]
      unfold tagsM
      rw [etag_fmt b l hp]; rfl
    unfold tagB
    rw [ha, ht]
    simp only [ho]
    unfold validTB
    rw [ho]
    simp
  | none =>
    rw [ho] at hi
    rw [if_neg (by rw [hi]; decide)]
    unfold sinceB validTB
    rw [ho]
    have hd : datedS (bs nIMS) (validL xs es) = if (dpt (bs (datedS (bs nLM) es))).2 then datedS (bs nLM) es else ⟨#[]⟩ := by
      rw [show datedS (bs nIMS) (validL xs es) = (getF (bs nIMS) (validL xs es)).headD ⟨#[]⟩ from rfl, valid_ims]
      split <;> rfl
    rw [hd]
    cases hq : (dpt (bs (datedS (bs nLM) es))).2 with
    | true => simp [hq]
    | false => simp [show (dpt (bs (⟨#[]⟩ : ByteArray))).2 = false from by decide +kernel]
end Go.Proofs.YtlcchcbeebakpaaDoor
namespace Go.Proofs.YtlcchcbeebakpaaDoor
open Go.RowKit Go.Shelf

def keepQB (m tg bd : ByteArray) (xs : List Fd) : Bool := decide (m.size ≤ 100) && decide (tg.size ≤ 2100) && fieldsB xs && decide (bd.size ≤ 2000)
theorem keepQB_true {m tg bd : ByteArray} {xs : List Fd} (h : keepQB m tg bd xs = true) : m.size ≤ 100 ∧ tg.size ≤ 2100 ∧ bd.size ≤ 2000 ∧ xs.length ≤ 70 ∧ FldZ xs 300 := by
  unfold keepQB at h
  rw [Bool.and_eq_true, Bool.and_eq_true, Bool.and_eq_true, decide_eq_true_eq, decide_eq_true_eq, decide_eq_true_eq] at h
  obtain ⟨⟨⟨h1, h2⟩, h3⟩, h4⟩ := h
  have := fieldsB_true h3
  exact ⟨h1, h2, h4, this.1, this.2⟩
set_option maxHeartbeats 1600000 in
theorem keepQ_any (m tg : ByteArray) (mn : Int) (oa : Option Addr) (xs : List Fd) (cap : Nat) (bd : ByteArray) (w : World) (hn : xs.length ≤ 9223372036854775807) (hc : FldO w oa xs) :
    Calls Tryd.prog 35 #[reqV m tg mn oa xs.length cap bd] w fun e w' => e = .returned (.bool (keepQB m tg bd xs)) ∧ Below w.heap.size w w' := by
  have HC := Lib.hid (hc.down (alloc_b w (.cells (reqC m tg mn oa xs.length cap bd).toArray 54)))
  clear hc
  by_cases h1 : m.size ≤ 100
  · have h1' : decide ((m.size : Int) ≤ 100) = true := by simp; omega
    by_cases h2 : tg.size ≤ 2100
    · have h2' : decide ((tg.size : Int) ≤ 2100) = true := by simp; omega
      cases hf : fieldsB xs with
      | true =>
        have HF := Lib.hid hf
        have HR : Hid (keepQB m tg bd xs = decide ((bd.size : Int) ≤ 2000)) := Lib.hid (by
          unfold keepQB; rw [hf, decide_eq_true h1, decide_eq_true h2]; simp; omega)
        clear hf
        go_enter Tryd.func35, Tryd.ntmps35
        go_wp2_with fail
        refine (keepF_any oa xs cap _ hn HC.out).mono ?_
        rintro e w2 ⟨rfl, hw2⟩
        rw [HF.out]
        subst hw2
        go_wp2_with fail
        go_ret
        exact ⟨by rw [HR.out]; rfl, alloc_b w _⟩
      | false =>
        have HF := Lib.hid hf
        have HR : Hid (keepQB m tg bd xs = false) := Lib.hid (by unfold keepQB; rw [hf]; simp)
        clear hf
        go_enter Tryd.func35, Tryd.ntmps35
        go_wp2_with fail
        refine (keepF_any oa xs cap _ hn HC.out).mono ?_
        rintro e w2 ⟨rfl, hw2⟩
        rw [HF.out]
        subst hw2
        go_wp2_with fail
        go_ret
        exact ⟨by rw [HR.out]; rfl, alloc_b w _⟩
    · have h2' : decide ((tg.size : Int) ≤ 2100) = false := by simp; omega
      have HR : Hid (keepQB m tg bd xs = false) := Lib.hid (by unfold keepQB; rw [decide_eq_false h2]; simp)
      go_enter Tryd.func35, Tryd.ntmps35
      go_wp2_with fail
      go_ret
      exact ⟨by rw [HR.out]; rfl, alloc_b w _⟩
  · have h1' : decide ((m.size : Int) ≤ 100) = false := by simp; omega
    have HR : Hid (keepQB m tg bd xs = false) := Lib.hid (by unfold keepQB; rw [decide_eq_false h1]; rfl)
    go_enter Tryd.func35, Tryd.ntmps35
    go_wp2_with fail
    go_ret
    exact ⟨by rw [HR.out]; rfl, alloc_b w _⟩
end Go.Proofs.YtlcchcbeebakpaaDoor
namespace Go.Proofs.YtlcchcbeebakpaaDoor
open Go.Joins Go.ChangeShapes Go.WideShapes Go.RowKit Go.Deep

section
variable {H : Type} {enc : TypeId × Value → H} {P : Program}
theorem open8 {w : World} {base : Nat} {spare : Nat → Bool} {held : Bool} {r : Reach} {b0 : Nat} {t : TypeId} {f0 f1 f2 f3 f4 f5 f6 f7 : Field} {v : Value} {d : DataW H} {pl : List MemPlace} (hs : P.underlying t = some (.struct #[f0, f1, f2, f3, f4, f5, f6, f7])) (hone : oneCellFields P #[f0, f1, f2, f3, f4, f5, f6, f7] = true) (hC : P.cellsOf t = 8)
    (hv : Value.okWide P w r b0 t v) (h : DataW.Trod enc P w base spare held t v d pl) :
    ∃ (c0 c1 c2 c3 c4 c5 c6 c7 : Value) (n : Nat) (y0 y1 y2 y3 y4 y5 y6 y7 : DataW H × List MemPlace), v = .agg #[c0, c1, c2, c3, c4, c5, c6, c7] ∧ DataW.trod enc P w base spare held n f0.type [c0] = some y0 ∧ DataW.trod enc P w base spare held n f1.type [c1] = some y1 ∧
      DataW.trod enc P w base spare held n f2.type [c2] = some y2 ∧ DataW.trod enc P w base spare held n f3.type [c3] = some y3 ∧ DataW.trod enc P w base spare held n f4.type [c4] = some y4 ∧ DataW.trod enc P w base spare held n f5.type [c5] = some y5 ∧ DataW.trod enc P w base spare held n f6.type [c6] = some y6 ∧ DataW.trod enc P w base spare held n f7.type [c7] = some y7 := by
  obtain ⟨cs, rfl, hsz⟩ := okWide_struct hs hv
  obtain ⟨l⟩ := cs
  match l, hsz.trans hC with
  | [c0, c1, c2, c3, c4, c5, c6, c7], _ =>
    obtain ⟨fuel, hf⟩ := h
    obtain ⟨xs, n, _, hx, _, hlen, hg⟩ := DataW.trod_struct hs hf
    obtain ⟨o0, k0⟩ := hone_of hone 0 f0 rfl
    obtain ⟨o1, k1⟩ := hone_of hone 1 f1 rfl
    obtain ⟨o2, k2⟩ := hone_of hone 2 f2 rfl
    obtain ⟨o3, k3⟩ := hone_of hone 3 f3 rfl
    obtain ⟨o4, k4⟩ := hone_of hone 4 f4 rfl
    obtain ⟨o5, k5⟩ := hone_of hone 5 f5 rfl
    obtain ⟨o6, k6⟩ := hone_of hone 6 f6 rfl
    obtain ⟨o7, k7⟩ := hone_of hone 7 f7 rfl
    match xs, hlen with
    | [y0, y1, y2, y3, y4, y5, y6, y7], _ =>
      exact ⟨c0, c1, c2, c3, c4, c5, c6, c7, n, y0, y1, y2, y3, y4, y5, y6, y7, rfl, by simpa [Value.cells, o0, k0] using hg 0 f0 rfl, by simpa [Value.cells, o1, k1] using hg 1 f1 rfl, by simpa [Value.cells, o2, k2] using hg 2 f2 rfl, by simpa [Value.cells, o3, k3] using hg 3 f3 rfl, by simpa [Value.cells, o4, k4] using hg 4 f4 rfl,
        by simpa [Value.cells, o5, k5] using hg 5 f5 rfl, by simpa [Value.cells, o6, k6] using hg 6 f6 rfl, by simpa [Value.cells, o7, k7] using hg 7 f7 rfl⟩
theorem open_strs_c {e0 t : TypeId} {W : World} {n : Nat} {v : Value} {y : DataW H × List MemPlace} (he : P.underlying e0 = some .string) (hce : P.cellsOf e0 = 1) (ht : P.underlying t = some (.slice e0))
    (hf : DataW.trod enc P W 0 (fun _ => true) true n t [v] = some y) :
    ∃ (oa : Option Addr) (xs : List ByteArray) (cap : Nat), v = .slice oa xs.length cap ∧ StrO W oa xs ∧ (∀ x ∈ xs, x.size ≤ bigN) ∧ xs.length ≤ bigN := by
  rcases open_strings ht he hce hf with ⟨hcs, hx⟩ | ⟨a, len', cap', ss, hcs, _, hl, hm, hz, hx, hcell, hws⟩
  · cases one_cell hcs
    exact ⟨none, [], 0, rfl, fun i x hx => by simp at hx, fun x hx => by simp at hx, by simp⟩
  · cases one_cell hcs
    simp only [if_true] at hz
    have hlen : (ss.take len').length = len' := by rw [List.length_take]; omega
    refine ⟨some a, ss.take len', cap', by rw [hlen], fun i x hx => ?_, fun x hx => ?_, ?_⟩
    · rw [List.getElem?_take] at hx
      split at hx
      · rename_i hi
        have hi' : i < ss.length := (List.getElem?_eq_some_iff.1 hx).1
        refine ⟨a, rfl, ?_⟩
        rw [hcell i hi', List.getD_eq_getElem?_getD, hx]; rfl
      · cases hx
    · have := hws x (List.mem_of_mem_take hx)
      unfold maxLen at this; exact this
    · rw [hlen]; unfold maxLen at hm; show _ ≤ 9223372036854775807; omega
end
/-- A list of lists of strings lies behind the address. -/
def MatO (w : World) (oa : Option Addr) (ks : List (List ByteArray)) : Prop := ∀ (i : Nat) (row : List ByteArray), ks[i]? = some row → ∃ (ad : Addr) (o : Option Addr) (cap : Nat), oa = some ad ∧ w.cell? (ad.add i) = some (.slice o row.length cap) ∧ StrO w o row
def MatZ (ks : List (List ByteArray)) (n m : Nat) : Prop := ∀ row ∈ ks, row.length ≤ n ∧ ∀ x ∈ row, x.size ≤ m
theorem MatO.down {w w' : World} {oa : Option Addr} {ks : List (List ByteArray)} (h : MatO w oa ks) (hb : Below w.heap.size w w') : MatO w' oa ks := fun i row hr => by
  obtain ⟨ad, o, cap, h1, h2, h3⟩ := h i row hr
  exact ⟨ad, o, cap, h1, (hb.cell (cell_lt h2)).trans h2, h3.down hb⟩
theorem open_mat {H : Type} {enc : TypeId × Value → H} {P : Program} {e0 t u : TypeId} {W : World} {n : Nat} {v : Value} {y : DataW H × List MemPlace} (he : P.underlying e0 = some .string) (hce : P.cellsOf e0 = 1) (ht : P.underlying t = some (.slice e0)) (hct : P.cellsOf t = 1) (hu : P.underlying u = some (.slice t))
    (hf : DataW.trod enc P W 0 (fun _ => true) true n u [v] = some y) :
    ∃ (oa : Option Addr) (ks : List (List ByteArray)) (cap : Nat), v = .slice oa ks.length cap ∧ MatO W oa ks ∧ MatZ ks bigN bigN ∧ ks.length ≤ bigN := by
  rcases open_slice1 hu hct hf with ⟨hcs, _⟩ | ⟨a, len, cap, m, n', V, D, Pl, hcs, _, hl, hm, hmm, _, hi⟩
  · cases one_cell hcs
    exact ⟨none, [], 0, rfl, fun i x hx => by simp at hx, fun x hx => by simp at hx, by simp⟩
  · cases one_cell hcs
    simp only [if_true] at hmm
    have each : ∀ i, i < m → ∃ row : List ByteArray, (∃ (o : Option Addr) (c : Nat), W.cell? (a.add i) = some (.slice o row.length c) ∧ StrO W o row) ∧ (∀ x ∈ row, x.size ≤ bigN) ∧ row.length ≤ bigN := by
      intro i him
      obtain ⟨c0, t0⟩ := hi i him
      obtain ⟨o, row, c, e1, h1, h2, h3⟩ := open_strs_c he hce ht t0
      exact ⟨row, ⟨o, c, by rw [c0, e1], h1⟩, h2, h3⟩
    obtain ⟨q, hq⟩ := choose_lt each
    refine ⟨some a, (List.range len).map q, cap, by simp, fun i row hx => ?_, fun row hx => ?_, ?_⟩
    · rw [List.getElem?_map] at hx
      cases hr : (List.range len)[i]? with
      | none => rw [hr] at hx; cases hx
      | some j =>
        rw [hr] at hx
        obtain ⟨hil, hj⟩ := List.getElem?_eq_some_iff.1 hr
        rw [List.length_range] at hil
        rw [List.getElem_range] at hj
        subst hj
        cases hx
        obtain ⟨⟨o, c, h1, h2⟩, _⟩ := hq i (by omega)
        exact ⟨a, o, c, rfl, h1, h2⟩
    · obtain ⟨i, hi', rfl⟩ := List.mem_map.1 hx
      have := hq i (by have := List.mem_range.1 hi'; omega)
      exact ⟨this.2.2, this.2.1⟩
    · rw [List.length_map, List.length_range]; unfold maxLen at hm; show _ ≤ 9223372036854775807; omega
theorem cells_strs : Tryd.prog.cellsOf 29 = 1 := by kernel_rfl
theorem open_ent {H : Type} {enc : TypeId × Value → H} {W : World} {v : Value}
    (h8 : ∃ (c0 c1 c2 c3 c4 c5 c6 c7 : Value) (n : Nat) (y0 y1 y2 y3 y4 y5 y6 y7 : DataW H × List MemPlace), v = .agg #[c0, c1, c2, c3, c4, c5, c6, c7] ∧ DataW.trod enc Tryd.prog W 0 (fun _ => true) true n 38 [c0] = some y0 ∧ DataW.trod enc Tryd.prog W 0 (fun _ => true) true n 29 [c1] = some y1 ∧
      DataW.trod enc Tryd.prog W 0 (fun _ => true) true n 29 [c2] = some y2 ∧ DataW.trod enc Tryd.prog W 0 (fun _ => true) true n 9 [c3] = some y3 ∧ DataW.trod enc Tryd.prog W 0 (fun _ => true) true n 22 [c4] = some y4 ∧ DataW.trod enc Tryd.prog W 0 (fun _ => true) true n 9 [c5] = some y5 ∧
      DataW.trod enc Tryd.prog W 0 (fun _ => true) true n 2 [c6] = some y6 ∧ DataW.trod enc Tryd.prog W 0 (fun _ => true) true n 2 [c7] = some y7) :
    ∃ (ok : Option Addr) (ks : List (List ByteArray)) (ck : Nat) (ov : Option Addr) (vs : List ByteArray) (cv : Nat) (os : Option Addr) (ss : List ByteArray) (cs : Nat) (rs : ByteArray) (oe : Option Addr) (es : List Fd) (ce : Nat) (be : ByteArray) (r1 r2 : Int),
      v = .agg #[.slice ok ks.length ck, .slice ov vs.length cv, .slice os ss.length cs, .string rs, .slice oe es.length ce, .string be, .int .i64 r1, .int .i64 r2] ∧ MatO W ok ks ∧ MatZ ks bigN bigN ∧ ks.length ≤ bigN ∧ StrO W ov vs ∧ (∀ x ∈ vs, x.size ≤ bigN) ∧ vs.length ≤ bigN ∧ StrO W os ss ∧ (∀ x ∈ ss, x.size ≤ bigN) ∧ ss.length ≤ bigN ∧
      rs.size ≤ bigN ∧ FldO W oe es ∧ FldZ es bigN ∧ es.length ≤ bigN ∧ be.size ≤ bigN ∧ (Lit.int .i64 r1).wf = true ∧ (Lit.int .i64 r2).wf = true := by
  obtain ⟨c0, c1, c2, c3, c4, c5, c6, c7, n, y0, y1, y2, y3, y4, y5, y6, y7, rfl, g0, g1, g2, g3, g4, g5, g6, g7⟩ := h8
  obtain ⟨ok, ks, ck, e0, k1, k2, k3⟩ := open_mat Tryd.underlying9 cells_str Tryd.underlying29 cells_strs Tryd.underlying38 g0
  obtain ⟨ov, vs, cv, e1, v1, v2, v3⟩ := open_strs_c Tryd.underlying9 cells_str Tryd.underlying29 g1
  obtain ⟨os, ss, cs, e2, s1, s2, s3⟩ := open_strs_c Tryd.underlying9 cells_str Tryd.underlying29 g2
  obtain ⟨rs, e3, _, z3⟩ := DataW.trod_string Tryd.underlying9 g3
  obtain ⟨oe, es, ce, e4, f1, f2, f3⟩ := open_fld g4
  obtain ⟨be, e5, _, z5⟩ := DataW.trod_string Tryd.underlying9 g5
  obtain ⟨r1, e6, _, w6⟩ := DataW.trod_int Tryd.underlying2 g6
  obtain ⟨r2, e7, _, w7⟩ := DataW.trod_int Tryd.underlying2 g7
  cases e0; cases e1; cases e2; cases one_cell e3; cases e4; cases one_cell e5; cases one_cell e6; cases one_cell e7
  unfold maxLen at z3 z5
  exact ⟨ok, ks, ck, ov, vs, cv, os, ss, cs, rs, oe, es, ce, be, r1, r2, rfl, k1, k2, k3, v1, v2, v3, s1, s2, s3, z3, f1, f2, f3, z5, w6, w7⟩
/-- keep.Keys answers; and true says that the keys are few and short. -/
def KeysOf (ks : List (List ByteArray)) (w : World) (e : Ending) (w' : World) : Prop := ∃ b : Bool, e = .returned (.bool b) ∧ w = w' ∧ (b = true → ks.length ≤ 10 ∧ MatZ ks 20 100)
set_option maxHeartbeats 1600000 in
theorem keepkeys_any (oa : Option Addr) (ks : List (List ByteArray)) (cap : Nat) (w : World) (hc : MatO w oa ks) (hz : MatZ ks bigN bigN) (hn : ks.length ≤ bigN) :
    Calls Tryd.prog 55 #[.slice oa ks.length cap] w (KeysOf ks w) := by
  have HC := Lib.hid hc
  have HZ := Lib.hid hz
  have hn' : ks.length ≤ 9223372036854775807 := hn
  clear hc hz hn
  go_enter Tryd.func55, Tryd.ntmps55
  go_wp2_with fail
  go_loop [3] (fun j => ∃ k : Nat, k ≤ ks.length ∧ k ≤ 11 ∧ j = .int .i64 k ∧ Hid (∀ (i : Nat) (row : List ByteArray), i < k → ks[i]? = some row → row.length ≤ 20 ∧ ∀ x ∈ row, x.size ≤ 100)) (fun j => ks.length - (intOf j).toNat)
  case atStart => exact ⟨0, by omega, by omega, rfl, Lib.hid (fun i x h => by omega)⟩
  case round =>
    obtain ⟨k, hk, hk2, rfl, H⟩ := hrel
    by_cases hlt : k < ks.length
    · by_cases h21 : k < 11
      · obtain ⟨row, hx⟩ : ∃ x, ks[k]? = some x := ⟨_, List.getElem?_eq_getElem hlt⟩
        obtain ⟨ad, o, c, rfl, hcx, hs⟩ := HC.out k row hx
        have zx := HZ.out row (List.mem_of_getElem? hx)
        have HKS := Lib.hid (keepstr_any o row c w hs zx.2 zx.1)
        have HX := Lib.hid hx
        clear hx zx hs
        go_wp2_with fail
        refine HKS.out.mono ?_
        rintro e w1 ⟨b, rfl, hw1, hbz⟩
        have HB := Lib.hid hbz
        subst hw1
        clear hbz
        cases b with
        | false =>
          go_wp2_with fail
          go_ret
          exact ⟨false, rfl, rfl, fun h => by cases h⟩
        | true =>
          go_wp2_with fail
          go_round
          case rel =>
            refine ⟨k + 1, by omega, by omega, by go_num, Lib.hid (fun i y hi hy => ?_)⟩
            by_cases he : i = k
            · subst he
              have := HX.out
              rw [this] at hy; cases hy; exact HB.out trivial
            · exact H.out i y (by omega) hy
          case measure => simp [intOf]; omega
      · have hl : ¬ (ks.length : Int) ≤ 10 := by omega
        go_wp2_with fail
        go_ret
        exact ⟨false, rfl, rfl, fun h => by cases h⟩
    · by_cases hl : (ks.length : Int) ≤ 10
      · go_wp2_with fail
        go_ret
        refine ⟨true, rfl, rfl, fun _ => ⟨by omega, fun row hx => ?_⟩⟩
        obtain ⟨i, hi⟩ := List.getElem?_of_mem hx
        exact H.out i row (by have := (List.getElem?_eq_some_iff.1 hi).1; omega) hi
      · go_wp2_with fail
        go_ret
        exact ⟨false, rfl, rfl, fun h => by cases h⟩
def EntZ (ks : List (List ByteArray)) (vs ss : List ByteArray) (rs : ByteArray) (es : List Fd) (be : ByteArray) : Prop :=
  (ks.length ≤ 10 ∧ MatZ ks 20 100) ∧ (vs.length ≤ 20 ∧ ∀ x ∈ vs, x.size ≤ 100) ∧ (ss.length ≤ 20 ∧ ∀ x ∈ ss, x.size ≤ 100) ∧ rs.size ≤ 100 ∧ be.size ≤ 2000 ∧ es.length ≤ 70 ∧ FldZ es 300
def EntOf (ks : List (List ByteArray)) (vs ss : List ByteArray) (rs : ByteArray) (es : List Fd) (be : ByteArray) (w : World) (e : Ending) (w' : World) : Prop := ∃ b : Bool, e = .returned (.bool b) ∧ Below w.heap.size w w' ∧ (b = true → EntZ ks vs ss rs es be)
abbrev entC8 (ok : Option Addr) (nk ck : Nat) (ov : Option Addr) (nv cv : Nat) (os : Option Addr) (ns cs : Nat) (rs : ByteArray) (oe : Option Addr) (ne ce : Nat) (be : ByteArray) (r1 r2 : Int) : List Value := [.slice ok nk ck, .slice ov nv cv, .slice os ns cs, .string rs, .slice oe ne ce, .string be, .int .i64 r1, .int .i64 r2]
abbrev entV8 (ok : Option Addr) (nk ck : Nat) (ov : Option Addr) (nv cv : Nat) (os : Option Addr) (ns cs : Nat) (rs : ByteArray) (oe : Option Addr) (ne ce : Nat) (be : ByteArray) (r1 r2 : Int) : Value := .agg #[.slice ok nk ck, .slice ov nv cv, .slice os ns cs, .string rs, .slice oe ne ce, .string be, .int .i64 r1, .int .i64 r2]
set_option maxHeartbeats 3200000 in
theorem keepE_any (ok : Option Addr) (ks : List (List ByteArray)) (ck : Nat) (ov : Option Addr) (vs : List ByteArray) (cv : Nat) (os : Option Addr) (ss : List ByteArray) (cs : Nat) (rs : ByteArray) (oe : Option Addr) (es : List Fd) (ce : Nat) (be : ByteArray) (r1 r2 : Int) (w : World)
    (hk1 : MatO w ok ks) (hk2 : MatZ ks bigN bigN) (hk3 : ks.length ≤ bigN) (hv1 : StrO w ov vs) (hv2 : ∀ x ∈ vs, x.size ≤ bigN) (hv3 : vs.length ≤ bigN) (hs1 : StrO w os ss) (hs2 : ∀ x ∈ ss, x.size ≤ bigN) (hs3 : ss.length ≤ bigN) (hf1 : FldO w oe es) (hf3 : es.length ≤ bigN) :
    Calls Tryd.prog 23 #[entV8 ok ks.length ck ov vs.length cv os ss.length cs rs oe es.length ce be r1 r2] w (EntOf ks vs ss rs es be w) := by
  have b0 := alloc_b w (.cells (entC8 ok ks.length ck ov vs.length cv os ss.length cs rs oe es.length ce be r1 r2).toArray 40)
  have HK := Lib.hid (keepkeys_any ok ks ck _ (hk1.down b0) hk2 hk3)
  have HV := Lib.hid (keepstr_any ov vs cv _ (hv1.down b0) hv2 hv3)
  have HS := Lib.hid (keepstr_any os ss cs _ (hs1.down b0) hs2 hs3)
  have HF := Lib.hid (keepF_any oe es ce _ hf3 (hf1.down b0))
  clear hk1 hk2 hk3 hv1 hv2 hv3 hs1 hs2 hs3 hf1 hf3
  by_cases h1 : rs.size ≤ 100
  · have h1' : decide ((rs.size : Int) ≤ 100) = true := by simp; omega
    by_cases h2 : be.size ≤ 2000
    · have h2' : decide ((be.size : Int) ≤ 2000) = true := by simp; omega
      go_enter Tryd.func23, Tryd.ntmps23
      go_wp2_with fail
      refine HK.out.mono ?_
      rintro e w1 ⟨b1, rfl, hw1, hz1⟩
      have HZ1 := Lib.hid hz1
      subst hw1
      clear hz1
      cases b1 with
      | false =>
        go_wp2_with fail
        go_ret
        exact ⟨false, rfl, b0, fun h => by cases h⟩
      | true =>
        go_wp2_with fail
        refine HV.out.mono ?_
        rintro e w1 ⟨b1, rfl, hw1, hz1⟩
        have HZ2 := Lib.hid hz1
        subst hw1
        clear hz1
        cases b1 with
        | false =>
          go_wp2_with fail
          go_ret
          exact ⟨false, rfl, b0, fun h => by cases h⟩
        | true =>
          go_wp2_with fail
          refine HS.out.mono ?_
          rintro e w1 ⟨b1, rfl, hw1, hz1⟩
          have HZ3 := Lib.hid hz1
          subst hw1
          clear hz1
          cases b1 with
          | false =>
            go_wp2_with fail
            go_ret
            exact ⟨false, rfl, b0, fun h => by cases h⟩
          | true =>
            go_wp2_with fail
            refine HF.out.mono ?_
            rintro e w1 ⟨rfl, hw1⟩
            subst hw1
            cases hf : fieldsB es with
            | false =>
              have HFB := Lib.hid hf
              clear hf
              go_wp2_with fail
              go_ret
              exact ⟨false, rfl, b0, fun h => by cases h⟩
            | true =>
              have HFB := Lib.hid hf
              clear hf
              go_wp2_with fail
              go_ret
              exact ⟨true, rfl, b0, fun _ => ⟨HZ1.out trivial, HZ2.out trivial, HZ3.out trivial, h1, h2, fieldsB_true HFB.out⟩⟩
    · have h2' : decide ((be.size : Int) ≤ 2000) = false := by simp; omega
      go_enter Tryd.func23, Tryd.ntmps23
      go_wp2_with fail
      refine HK.out.mono ?_
      rintro e w1 ⟨b1, rfl, hw1, _⟩
      subst hw1
      cases b1 with
      | false =>
        go_wp2_with fail
        go_ret
        exact ⟨false, rfl, b0, fun h => by cases h⟩
      | true =>
        go_wp2_with fail
        refine HV.out.mono ?_
        rintro e w1 ⟨b1, rfl, hw1, _⟩
        subst hw1
        cases b1 with
        | false =>
          go_wp2_with fail
          go_ret
          exact ⟨false, rfl, b0, fun h => by cases h⟩
        | true =>
          go_wp2_with fail
          refine HS.out.mono ?_
          rintro e w1 ⟨b1, rfl, hw1, _⟩
          subst hw1
          cases b1 with
          | false =>
            go_wp2_with fail
            go_ret
            exact ⟨false, rfl, b0, fun h => by cases h⟩
          | true =>
            go_wp2_with fail
            go_ret
            exact ⟨false, rfl, b0, fun h => by cases h⟩
  · have h1' : decide ((rs.size : Int) ≤ 100) = false := by simp; omega
    go_enter Tryd.func23, Tryd.ntmps23
    go_wp2_with fail
    refine HK.out.mono ?_
    rintro e w1 ⟨b1, rfl, hw1, _⟩
    subst hw1
    cases b1 with
    | false =>
      go_wp2_with fail
      go_ret
      exact ⟨false, rfl, b0, fun h => by cases h⟩
    | true =>
      go_wp2_with fail
      refine HV.out.mono ?_
      rintro e w1 ⟨b1, rfl, hw1, _⟩
      subst hw1
      cases b1 with
      | false =>
        go_wp2_with fail
        go_ret
        exact ⟨false, rfl, b0, fun h => by cases h⟩
      | true =>
        go_wp2_with fail
        refine HS.out.mono ?_
        rintro e w1 ⟨b1, rfl, hw1, _⟩
        subst hw1
        cases b1 with
        | false =>
          go_wp2_with fail
          go_ret
          exact ⟨false, rfl, b0, fun h => by cases h⟩
        | true =>
          go_wp2_with fail
          go_ret
          exact ⟨false, rfl, b0, fun h => by cases h⟩
end Go.Proofs.YtlcchcbeebakpaaDoor
namespace Go.Proofs.YtlcchcbeebakpaaDoor
open Go.RowKit Go.Shelf

theorem etag_len_of {es : List Fd} {n : Nat} {b : Bool} {l : List UInt8} (hz : FldZ es n) (h : ofE es = some (b, l)) : l.length ≤ n := by
  unfold ofE at h
  cases hg : getF (bs nETag) es with
  | nil => rw [hg] at h; cases h
  | cons x t =>
    rw [hg] at h
    have hx : x.size ≤ n := getF_mem hz (n := bs nETag) (by rw [hg]; simp)
    have h' : etagL (bs x) = some (b, l) := h
    unfold etagL at h'
    split at h'
    · cases h'
      have hw : (weakL (bs x)).1.length ≤ x.size := by
        unfold weakL
        rw [← bs_length]
        split
        · show ((bs x).drop 2).length ≤ _
          rw [List.length_drop]; omega
        · exact Nat.le_refl _
      rw [List.length_take, List.length_drop]; omega
    · cases h'
theorem valid_len (xs es : List Fd) : (validL xs es).length ≤ xs.length + 2 := by
  unfold validL
  rw [List.length_append, List.length_append]
  have h1 : (tagF es).length ≤ 1 := by unfold tagF; cases ofE es <;> simp
  have h2 : (sinceF es).length ≤ 1 := by unfold sinceF; split <;> simp
  have h3 := List.length_filter_le (noneB (condN.map bs)) xs
  omega
theorem valid_z {xs es : List Fd} (hz : FldZ xs 300) (hze : FldZ es 300) : FldZ (validL xs es) 100000 := by
  intro x hx
  unfold validL at hx
  rw [List.mem_append, List.mem_append] at hx
  rcases hx with (hx | hx) | hx
  · have := hz x (List.mem_filter.1 hx).1; omega
  · unfold tagF at hx
    cases ho : ofE es with
    | none => rw [ho] at hx; cases hx
    | some t =>
      rw [ho] at hx
      have e : x = (nINM, ⟨(etfmtL t).toArray⟩) := by simpa using hx
      subst e
      obtain ⟨b, l⟩ := t
      have hl := etag_len_of hze ho
      refine ⟨show nINM.size ≤ 100000 by decide, ?_⟩
      show (etfmtL (b, l)).length ≤ _
      unfold etfmtL
      split
      · split <;> simp <;> omega
      · simp
  · unfold sinceF at hx
    split at hx
    · have e : x = (nIMS, datedS (bs nLM) es) := by simpa using hx
      subst e
      exact ⟨show nIMS.size ≤ 100000 by decide, Nat.le_trans (datedS_size hze) (by decide)⟩
    · cases hx
theorem keep7 {w1 w2 w3 : World} {p0 p1 p2 p3 p4 p5 : Addr} {v0 v1 v2 v3 v4 v5 : Value} (h : w1.cell? p0 = some v0 ∧ w1.cell? p1 = some v1 ∧ w1.cell? p2 = some v2 ∧ w1.cell? p3 = some v3 ∧ w1.cell? p4 = some v4 ∧ w1.cell? p5 = some v5 ∧ Below w3.heap.size w3 w1) (hb : Below w1.heap.size w1 w2) : w2.cell? p0 = some v0 ∧ w2.cell? p1 = some v1 ∧ w2.cell? p2 = some v2 ∧ w2.cell? p3 = some v3 ∧ w2.cell? p4 = some v4 ∧ w2.cell? p5 = some v5 ∧ Below w3.heap.size w3 w2 := by
  obtain ⟨h0, h1, h2, h3, h4, h5, hl⟩ := h
  exact ⟨(hb.cell (cell_lt h0)).trans h0, (hb.cell (cell_lt h1)).trans h1, (hb.cell (cell_lt h2)).trans h2, (hb.cell (cell_lt h3)).trans h3, (hb.cell (cell_lt h4)).trans h4, (hb.cell (cell_lt h5)).trans h5, step_b hl hb⟩
theorem last7 {w1 w3 : World} {p0 p1 p2 p3 p4 p5 : Addr} {v0 v1 v2 v3 v4 v5 : Value} (h : w1.cell? p0 = some v0 ∧ w1.cell? p1 = some v1 ∧ w1.cell? p2 = some v2 ∧ w1.cell? p3 = some v3 ∧ w1.cell? p4 = some v4 ∧ w1.cell? p5 = some v5 ∧ Below w3.heap.size w3 w1) : Below w3.heap.size w3 w1 := h.2.2.2.2.2.2
set_option maxHeartbeats 12800000 in
set_option maxRecDepth 100000 in
theorem confirms_walk (m tg : ByteArray) (mn : Int) (oa : Option Addr) (xs : List Fd) (cap : Nat) (bd : ByteArray)
    (ok : Option Addr) (ks : List (List ByteArray)) (ck : Nat) (ov : Option Addr) (vs : List ByteArray) (cv : Nat) (os : Option Addr) (ss : List ByteArray) (cs : Nat) (rs : ByteArray) (oe : Option Addr) (es : List Fd) (ce : Nat) (be : ByteArray) (r1 r2 : Int) (w : World)
    (hn : xs.length ≤ bigN) (_ : m.size ≤ bigN) (_ : tg.size ≤ bigN) (_ : bd.size ≤ bigN) (_ : (Lit.int .i64 mn).wf = true) (hc : FldO w oa xs)
    (hk1 : MatO w ok ks) (hk2 : MatZ ks bigN bigN) (hk3 : ks.length ≤ bigN) (hv1 : StrO w ov vs) (hv2 : ∀ x ∈ vs, x.size ≤ bigN) (hv3 : vs.length ≤ bigN) (hs1 : StrO w os ss) (hs2 : ∀ x ∈ ss, x.size ≤ bigN) (hs3 : ss.length ≤ bigN) (_ : rs.size ≤ bigN) (hf1 : FldO w oe es) (hf3 : es.length ≤ bigN) (_ : be.size ≤ bigN) (_ : (Lit.int .i64 r1).wf = true) (_ : (Lit.int .i64 r2).wf = true) :
    Calls Tryd.prog 8 #[reqV m tg mn oa xs.length cap bd, entV8 ok ks.length ck ov vs.length cv os ss.length cs rs oe es.length ce be r1 r2] w fun e w' => e = .returned (.bool true) ∧ Below w.heap.size w w' := by
  obtain ⟨R0, R1, b0⟩ := rows2 w (reqC m tg mn oa xs.length cap bd) 54 (entC8 ok ks.length ck ov vs.length cv os ss.length cs rs oe es.length ce be r1 r2) 40
  have HC := Lib.hid hc
  have HE := Lib.hid hf1
  have hn9 : xs.length ≤ 9223372036854775807 := hn
  have HKE := fun (wl : World) (hb : Below w.heap.size w wl) => keepE_any ok ks ck ov vs cv os ss cs rs oe es ce be r1 r2 wl (hk1.down hb) hk2 hk3 (hv1.down hb) hv2 hv3 (hs1.down hb) hs2 hs3 (hf1.down hb) hf3
  have HKH := Lib.hid HKE
  clear hc hf1 HKE hk1 hk2 hv1 hv2 hs1 hs2
  cases hk : keepQB m tg bd xs with
  | false =>
    have HK := Lib.hid hk
    clear hk
    go_enter Tryd.func8, Tryd.ntmps8
    go_wp2_with fail
    refine (keepQ_any m tg mn oa xs cap bd _ hn9 (HC.out.down b0)).mono ?_
    rintro e w1 ⟨rfl, hb1⟩
    rw [HK.out]
    go_wp2_with fail
    go_ret
    exact ⟨rfl, step_b b0 hb1⟩
  | true =>
    obtain ⟨_, _, _, hn70, hz⟩ := keepQB_true hk
    have HZ := Lib.hid hz
    have HK := Lib.hid hk
    clear hk hz
    go_enter Tryd.func8, Tryd.ntmps8
    go_wp2_with fail
    refine (keepQ_any m tg mn oa xs cap bd _ hn9 (HC.out.down b0)).mono ?_
    rintro e w1 ⟨rfl, hb1⟩
    rw [HK.out]
    have Q1 := R0.below hb1
    have E1 := R1.below hb1
    have b1 := step_b b0 hb1
    have HKC := Lib.hid (HKH.out w1 b1)
    have d0 := E1.cell 0 rfl
    have d1 := E1.cell 1 rfl
    have d2 := E1.cell 2 rfl
    have d3 := E1.cell 3 rfl
    have d4 := E1.cell 4 rfl
    have d5 := E1.cell 5 rfl
    have d6 := E1.cell 6 rfl
    have d7 := E1.cell 7 rfl
    clear hb1 R0 R1 b0 HKH
    go_wp2_with fail
    refine HKC.out.mono ?_
    rintro e w2 ⟨b, rfl, hb2, hbz⟩
    have b2 := step_b b1 hb2
    cases b with
    | false =>
      clear hbz
      go_wp2_with fail
      go_ret
      exact ⟨rfl, b2⟩
    | true =>
      obtain ⟨_, _, _, _, _, hne70, hze⟩ := hbz rfl
      have HZE := Lib.hid hze
      have Q2 := Q1.below hb2
      have E2 := E1.below hb2
      clear hbz hze hb2 Q1 E1 HKC b1 d0 d1 d2 d3 d4 d5 d6 d7
      have q0 := Q2.cell 0 rfl
      have q0f := Q2.free 0
      have Q3 := Q2.set 0 (.string gET)
      simp only [reqC, List.set_cons_zero] at Q3
      have E3 := E2.setOther (show w.heap.size + 1 ≠ w.heap.size by omega) 0 (.string gET)
      have b3 := b2.setCell (p := ⟨w.heap.size, 0, none⟩) (Nat.le_refl _) (.string gET)
      have HC3 := Lib.hid (HC.out.down b3)
      have HE3 := Lib.hid (HE.out.down b3)
      have HVA := Lib.hid (valid_any gET tg mn oa xs cap bd (.slice ok ks.length ck) (.slice ov vs.length cv) (.slice os ss.length cs) rs oe es ce be r1 r2 (w2.setCell ⟨w.heap.size, 0, none⟩ (.string gET)) (by omega) (fun x hx => by have := HZ.out x hx; omega) HC3.out (by omega) (fun x hx => by have := HZE.out x hx; omega) HE3.out)
      clear Q2 E2 b2
      go_wp2_with (first | (refine wpList_load_rowAt rfl _ 54 (.tmp 2) rfl w.heap.size 54 (reqC gET tg mn oa xs.length cap bd) Q3 rfl _ Tryd.underlying54 req_size ?_) | (refine wpList_load_rowAt rfl _ 40 (.tmp 3) rfl (w.heap.size + 1) 40 (entC8 ok ks.length ck ov vs.length cv os ss.length cs rs oe es.length ce be r1 r2) E3 rfl _ Tryd.underlying40 ent_size ?_))
      refine HVA.out.mono ?_
      rintro e w4 ⟨ob, cb, rfl, FB4, hb4⟩
      obtain ⟨lz, hlz⟩ : ∃ lz, lz = validL xs es := ⟨_, rfl⟩
      rw [← hlz] at FB4 ⊢
      have HLZ := Lib.hid hlz
      have hll : lz.length ≤ 72 := by rw [hlz]; have := valid_len xs es; omega
      have HLL : Hid (FldZ lz 100000) := Lib.hid (by rw [hlz]; exact valid_z HZ.out HZE.out)
      have HES : Hid (FldZ es 100000) := Lib.hid fun x hx => by have := HZE.out x hx; omega
      have E5 := (E3.below hb4).alloc (.cells (reqC gET tg mn ob lz.length cb bd).toArray 54)
      have V5 := RowAt.new w4 (reqC gET tg mn ob lz.length cb bd) 54
      have b5 := step_b (step_b b3 hb4) (alloc_b w4 (.cells (reqC gET tg mn ob lz.length cb bd).toArray 54))
      have HF5 := Lib.hid (FB4.fld.down (alloc_b w4 (.cells (reqC gET tg mn ob lz.length cb bd).toArray 54)))
      have HE5 := Lib.hid (HE.out.down b5)
      clear hlz Q3 E3 b3 HC3 HE3 HVA FB4 hb4
      have v0 := V5.cell 0 rfl
      have v1 := V5.cell 1 rfl
      have v2 := V5.cell 2 rfl
      have v3 := V5.cell 3 rfl
      have v4 := V5.cell 4 rfl
      have d4 := E5.cell 4 rfl
      obtain ⟨q, hq⟩ : ∃ q, q = validTB es := ⟨_, rfl⟩
      have HNM : Hid (nmB gET 200 lz es = q) := Lib.hid (by rw [HLZ.out, hq]; exact confirm_nm xs es)
      have HCB : Hid (condB lz = q) := Lib.hid (by rw [HLZ.out, hq]; exact confirm_cond xs es)
      have HQ := Lib.hid hq
      clear hq
      go_wp2_with fail
      generalize hw5 : w4.alloc (.cells (reqC gET tg mn ob lz.length cb bd).toArray 54) = w5 at *
      clear hw5 E5 V5
      go_region_held3 (fun w' => w'.cell? ⟨w4.heap.size, 0, none⟩ = some (.string gET) ∧ w'.cell? ⟨w4.heap.size, 1, none⟩ = some (.string tg) ∧ w'.cell? ⟨w4.heap.size, 2, none⟩ = some (.int .i64 mn) ∧ w'.cell? ⟨w4.heap.size, 3, none⟩ = some (.slice ob lz.length cb) ∧ w'.cell? ⟨w4.heap.size, 4, none⟩ = some (.string bd) ∧ w'.cell? ⟨w.heap.size + 1, 4, none⟩ = some (.slice oe es.length ce) ∧ Below w5.heap.size w5 w') (first | assumption | exact ⟨v0, v1, v2, v3, v4, d4, (Below.refl _ _).drew⟩ | (exact keep7 (by first | assumption | exact ⟨v0, v1, v2, v3, v4, d4, (Below.refl _ _).drew⟩) hb)) (first | (go_at_call 37; refine (notmod_any gET tg mn ob lz cb bd 0 200 ⟨#[]⟩ oe es ce ⟨#[]⟩ _ (by omega) HLL.out (HF5.out.down (by first | exact (Below.refl _ _).drew | exact last7 (by assumption))) (by omega) HES.out (HE5.out.down (by first | exact (Below.refl _ _).drew | exact last7 (by assumption)))).mono ?_; rintro e w' ⟨he, hb⟩; rw [HNM.out] at he; subst he) | (go_at_call 38; refine (validator_any oe es ce _ (by omega) HES.out (HE5.out.down (by first | exact (Below.refl _ _).drew | exact last7 (by assumption)))).mono ?_; rintro e w' ⟨he, hb⟩; rw [← HQ.out] at he; subst he) | (go_at_call 39; refine (conditional_any gET tg mn ob lz cb bd _ (by omega) HLL.out (HF5.out.down (by first | exact (Below.refl _ _).drew | exact last7 (by assumption)))).mono ?_; rintro e w' ⟨he, hb⟩; rw [HCB.out] at he; subst he) | (go_at_call 40; refine (awake31_any _).mono ?_; rintro e w' ⟨rfl, hb⟩))
      all_goals
        have hq : Below w5.heap.size w5 _ := last7 (by assumption)
        go_wp2_with fail
        go_ret
        exact ⟨rfl, step_b b5 hq⟩
end Go.Proofs.YtlcchcbeebakpaaDoor
