/- Messages as they are written, in plain terms (layer 6), and what is read of them. No program in sight. -/
import Derived.Test.YtfnmohaddkoalaaGreatDoorQAmbP
import Derived.Test.YtfnmohaddkoalaaGreatDoorQStartR
namespace Go.Proofs.YtfnmohaddkoalaaGreatDoor
set_option linter.unusedSimpArgs false
set_option linter.unusedVariables false

/-- A request of these lines. -/
theorem parse_lines {x m t : List UInt8} {v : Int} {L : List (List UInt8)} (rest : List UInt8) (hx : ∀ c ∈ x, lineC c = true) (hr : reqL x = (m, t, v, 0)) (h6 : L.length ≤ 64) (hL : ∀ y ∈ L, FLine y) (ha : (linesB (x :: L)).length + 2 ≤ 16000) :
    parseQ (linesB (x :: L) ++ 13 :: 10 :: rest) =
      if frL (L.map lineF) ≠ 0 then (req0, 0, frL (L.map lineF)) else
      if 1 < (getF hoN (L.map lineF)).length ∨ (getF hoN (L.map lineF)).length = 0 ∧ v = 1 then (req0, 0, 6) else
      if (bdL (L.map lineF) rest).2.2 ≠ 0 then (req0, 0, (bdL (L.map lineF) rest).2.2) else
      (⟨m, t, v, unfrL (L.map lineF), (bdL (L.map lineF) rest).1⟩, (linesB (x :: L)).length + 2 + (bdL (L.map lineF) rest).2.1, 0) := by
  have hl := (reqL_inv hr).1
  have hd := hd_lines (st := fun x => (reqL x).2.2.2) (x := x) (L := L) rest hx hl (by show (reqL x).2.2.2 = 0; rw [hr]) h6 hL ha
  have hn : (nextL (linesB (x :: L) ++ 13 :: 10 :: rest)).1 = x := by
    have e : linesB (x :: L) ++ 13 :: 10 :: rest = x ++ 13 :: 10 :: (linesB L ++ 13 :: 10 :: rest) := by simp [linesB]
    rw [e, nextL_ok _ hx hl]
  have hdr : (linesB (x :: L) ++ 13 :: 10 :: rest).drop ((linesB (x :: L)).length + 2) = rest := drop_line _ _
  unfold parseQ
  rw [hd, hn, hr]
  simp only [hdr, ne_eq, not_true_eq_false, if_false]
/-- The head of a request is cut short. -/
theorem parse_cut {x m t : List UInt8} {v : Int} {L : List (List UInt8)} (rest : List UInt8) {i : Nat} (hx : ∀ c ∈ x, lineC c = true) (hr : reqL x = (m, t, v, 0)) (h6 : L.length ≤ 64) (hL : ∀ y ∈ L, FLine y) (ha : (linesB (x :: L)).length + 2 ≤ 16000) (hi : i < (linesB (x :: L)).length + 2) :
    parseQ ((linesB (x :: L) ++ 13 :: 10 :: rest).take i) = (req0, 0, 2) := by
  have hl := (reqL_inv hr).1
  have hd := hd_cut (st := fun x => (reqL x).2.2.2) (x := x) (L := L) rest hx hl (by show (reqL x).2.2.2 = 0; rw [hr]) h6 hL ha hi
  unfold parseQ
  rw [hd, if_pos (by simp)]
/-- The line of a field. -/
def fmtF (f : Fd) : List UInt8 := formL (bs f.1) (bs f.2)
def okF (f : Fd) : Bool := validF (bs f.1) (bs f.2)
/-- The line that announces a length, none for -1. -/
def clLs (n : Int) : List (List UInt8) := if n < 0 then [] else [lineS clN (Lib.itoa n)]
/-- The lines of a head. -/
def headLs (st : List UInt8) (fs : List Fd) (n : Int) : List (List UInt8) := st :: ((unfrL fs).map fmtF ++ clLs n)
/-- A message as it is written, or nothing. -/
def msgL (st : List UInt8) (fs : List Fd) (n : Int) (b : List UInt8) : List UInt8 :=
  if st = [] ∨ 63 < (unfrL fs).length ∨ (unfrL fs).all okF = false then [] else
  if 16000 < (linesB (headLs st fs n)).length + 2 then [] else linesB (headLs st fs n) ++ 13 :: 10 :: b
theorem msg_ne {st : List UInt8} {fs : List Fd} {n : Int} {b : List UInt8} (h : msgL st fs n b ≠ []) : st ≠ [] ∧ (unfrL fs).length ≤ 63 ∧ (∀ f ∈ unfrL fs, okF f = true) ∧ (linesB (headLs st fs n)).length + 2 ≤ 16000 ∧ msgL st fs n b = linesB (headLs st fs n) ++ 13 :: 10 :: b := by
  unfold msgL at h ⊢
  split at h
  · exact absurd rfl h
  · rename_i h1
    split at h
    · exact absurd rfl h
    · rename_i h2
      have h4 : (unfrL fs).all okF = true := by
        cases hq : (unfrL fs).all okF with
        | true => rfl
        | false => exact absurd (.inr (.inr hq)) h1
      rw [if_neg h1, if_neg h2]
      refine ⟨fun e => h1 (.inl e), ?_, List.all_eq_true.1 h4, by omega, rfl⟩
      rcases Nat.lt_or_ge 63 (unfrL fs).length with h3 | h3
      · exact absurd (.inr (.inl h3)) h1
      · exact h3
theorem ok_line {f : Fd} (h : okF f = true) : FLine (fmtF f) ∧ lineF (fmtF f) = f := by
  have hf := form_back h
  obtain ⟨h1, h2, h3⟩ := form_line h
  refine ⟨⟨h1, h2, h3, ?_⟩, ?_⟩
  · unfold fmtF; rw [hf]
  · unfold lineF fmtF; rw [hf]; rfl
theorem cl_line {n : Int} (h0 : ¬ n < 0) (h : n ≤ 100000) : FLine (lineS clN (Lib.itoa n)) ∧ lineF (lineS clN (Lib.itoa n)) = mkF (clN, Lib.itoa n) := by
  obtain ⟨u, rfl⟩ : ∃ u : Nat, n = (u : Int) := ⟨n.toNat, by omega⟩
  rw [Lib.itoa_nonneg]
  have l9 := dec_len 9 u (by decide) (by omega)
  exact fline_sp (valid_dec (by decide) (by decide) (by omega)) (by simp; omega)
/-- The fields that a written head is read as. -/
def readF (fs : List Fd) (n : Int) : List Fd := unfrL fs ++ (if n < 0 then [] else [mkF (clN, Lib.itoa n)])
theorem lines_read {fs : List Fd} {n : Int} (hn : n ≤ 100000) (hok : ∀ f ∈ unfrL fs, okF f = true) : (∀ y ∈ (unfrL fs).map fmtF ++ clLs n, FLine y) ∧ ((unfrL fs).map fmtF ++ clLs n).map lineF = readF fs n := by
  constructor
  · intro y hy
    rcases List.mem_append.1 hy with hy | hy
    · obtain ⟨f, hf, rfl⟩ := List.mem_map.1 hy
      exact (ok_line (hok f hf)).1
    · unfold clLs at hy
      split at hy
      · cases hy
      · rename_i h0
        rw [List.mem_singleton] at hy
        subst hy
        exact (cl_line h0 hn).1
  · rw [List.map_append]
    unfold readF
    congr 1
    · rw [List.map_map]
      have : ∀ (l : List Fd), (∀ f ∈ l, okF f = true) → l.map (lineF ∘ fmtF) = l := fun l => by
        induction l with
        | nil => intro _; rfl
        | cons f r ih =>
          intro h
          rw [List.map_cons, ih (fun g hg => h g (by simp [hg]))]
          rw [show (lineF ∘ fmtF) f = f from (ok_line (h f (by simp))).2]
      exact this _ hok
    · unfold clLs
      split
      · rfl
      · rename_i h0
        rw [List.map_singleton, (cl_line h0 hn).2]
theorem plain_not {f : Fd} (h : plainF f = true) : isF clN f = false ∧ isF teN f = false := by
  unfold plainF at h
  simpa using h
theorem unfr_twice (fs : List Fd) : unfrL (unfrL fs) = unfrL fs := by unfold unfrL; rw [List.filter_filter]; simp
theorem getF_none {n : List UInt8} {fs : List Fd} (h : ∀ f ∈ fs, isF n f = false) : getF n fs = [] := by
  unfold getF
  rw [List.filter_eq_nil_iff.2 (fun f hf => by rw [h f hf]; simp)]; rfl
theorem getF_two (n : List UInt8) (a b : List Fd) : getF n (a ++ b) = getF n a ++ getF n b := by unfold getF; rw [List.filter_append, List.map_append]
theorem unfr_cl (fs : List Fd) : getF clN (unfrL fs) = [] ∧ getF teN (unfrL fs) = [] :=
  ⟨getF_none fun f hf => (plain_not (List.mem_filter.1 hf).2).1, getF_none fun f hf => (plain_not (List.mem_filter.1 hf).2).2⟩
theorem ho_plain {f : Fd} (h : isF hoN f = true) : plainF f = true := by
  have hl : f.1.size = 4 := by
    rcases Nat.decEq f.1.size hoN.length with h2 | h2
    · rw [isF_len h2] at h; cases h
    · exact h2
  have a : isF clN f = false := isF_len (by rw [hl]; decide)
  have b : isF teN f = false := isF_len (by rw [hl]; decide)
  unfold plainF; rw [a, b]; rfl
theorem unfr_ho (fs : List Fd) : getF hoN (unfrL fs) = getF hoN fs := by
  unfold getF unfrL
  rw [List.filter_filter]
  congr 1
  refine List.filter_congr fun f _ => ?_
  cases h : isF hoN f with
  | false => rfl
  | true => rw [ho_plain h]; rfl
theorem read_parts (fs : List Fd) (n : Int) : getF clN (readF fs n) = (if n < 0 then [] else [⟨(Lib.itoa n).toArray⟩]) ∧ getF teN (readF fs n) = [] ∧ getF hoN (readF fs n) = getF hoN fs ∧ unfrL (readF fs n) = unfrL fs := by
  unfold readF
  obtain ⟨h1, h2⟩ := unfr_cl fs
  by_cases h0 : n < 0
  · rw [if_pos h0, if_pos h0, List.append_nil]
    exact ⟨h1, h2, unfr_ho fs, unfr_twice fs⟩
  · rw [if_neg h0, if_neg h0]
    have b1 : isF clN (mkF (clN, Lib.itoa n)) = true := by show foldB clN clN = true; decide
    have b2 : isF teN (mkF (clN, Lib.itoa n)) = false := by unfold isF mkF; rfl
    have b3 : isF hoN (mkF (clN, Lib.itoa n)) = false := by unfold isF mkF; rfl
    refine ⟨?_, ?_, ?_, ?_⟩
    · rw [getF_two, h1]
      unfold getF; rw [List.filter_cons_of_pos b1]; rfl
    · rw [getF_two, h2]
      unfold getF; rw [List.filter_cons_of_neg (by rw [b2]; simp)]; rfl
    · rw [getF_two, unfr_ho]
      have : getF hoN [mkF (clN, Lib.itoa n)] = [] := by unfold getF; rw [List.filter_cons_of_neg (by rw [b3]; simp)]; rfl
      rw [this, List.append_nil]
    · have e : ∀ (a b : List Fd), unfrL (a ++ b) = unfrL a ++ unfrL b := fun a b => by unfold unfrL; rw [List.filter_append]
      rw [e, unfr_twice]
      have : unfrL [mkF (clN, Lib.itoa n)] = [] := by unfold unfrL; rw [List.filter_cons_of_neg (by unfold plainF; rw [b1]; simp)]; rfl
      rw [this, List.append_nil]
theorem itoa_size {n : Int} (h0 : ¬ n < 0) (h : n ≤ 100000) : (Lib.itoa n).length ≤ 9 ∧ Lib.itoa n ≠ [] ∧ numGo (Lib.itoa n) 0 = some n := by
  obtain ⟨u, rfl⟩ : ∃ u : Nat, n = (u : Int) := ⟨n.toNat, by omega⟩
  rw [Lib.itoa_nonneg]
  refine ⟨dec_len 9 u (by decide) (by omega), fun e => ?_, ?_⟩
  · have := decDigits_ne u; rw [e] at this; cases this
  · rw [numGo_dec]; congr 1; omega
theorem read_fr {fs : List Fd} {n : Int} (h : n ≤ 100000) : frL (readF fs n) = 0 := by
  obtain ⟨h1, h2, _, _⟩ := read_parts fs n
  unfold frL
  rw [h1, h2]
  by_cases h0 : n < 0
  · rw [if_pos h0]; rfl
  · rw [if_neg h0]
    obtain ⟨a, b, c⟩ := itoa_size h0 h
    rw [frE_cl, if_pos]
    refine ⟨by show (numGo (Lib.itoa n) 0).isSome = true; rw [c]; rfl, b, by show (Lib.itoa n).toArray.size ≤ 9; simpa using a⟩
theorem bdE_cl {c : ByteArray} {r : List ByteArray} {l : List UInt8} {k : Int} (h : numGo (bs c) 0 = some k) : bdE [] (c :: r) l = if 100000 < k then ([], 0, 5) else if (l.length : Int) < k then ([], 0, 2) else (l.take k.toNat, k.toNat, 0) := by
  unfold bdE; simp only [h]
/-- The body behind a written head. -/
theorem read_bd {fs : List Fd} {n : Int} (h : n ≤ 100000) (l : List UInt8) : bdL (readF fs n) l = if n < 0 then ([], 0, 0) else if (l.length : Int) < n then ([], 0, 2) else (l.take n.toNat, n.toNat, 0) := by
  obtain ⟨h1, h2, _, _⟩ := read_parts fs n
  unfold bdL
  rw [h1, h2]
  by_cases h0 : n < 0
  · rw [if_pos h0, if_pos h0]; rfl
  · rw [if_neg h0, if_neg h0]
    obtain ⟨a, b, c⟩ := itoa_size h0 h
    rw [bdE_cl (k := n) c, if_neg (by omega)]
theorem vis_line {c : UInt8} (h : visC c = true) : lineC c = true := by
  refine lineC_yes.2 ⟨fun e => ?_, fun e => ?_⟩ <;> (subst e; revert h; decide)
theorem verB_line {v : Int} (h : v = 0 ∨ v = 1) : ∀ c ∈ verB v, lineC c = true := by
  rcases h with rfl | rfl <;> decide
/-- A request line is a line. -/
theorem req_line {l m t : List UInt8} {v : Int} (h : reqL l = (m, t, v, 0)) : ∀ c ∈ l, lineC c = true := by
  obtain ⟨_, q2, p2, q3, hp, hq, h3, hm, ht, hv, _⟩ := reqL_inv h
  subst h3
  have e1 := cut_join hp
  have e2 := cut_join hq
  obtain ⟨hv0, hvb, _⟩ := verE_zero hv
  intro c hc
  rw [e1, e2] at hc
  simp only [List.mem_append, List.mem_cons] at hc
  rcases hc with hc | rfl | hc | rfl | hc
  · unfold tokenB at hm
    rw [Bool.and_eq_true, List.all_eq_true] at hm
    exact text_line (part_text (hm.1 c hc))
  · decide
  · unfold visB at ht
    rw [Bool.and_eq_true, List.all_eq_true] at ht
    exact vis_line (ht.1 c hc)
  · decide
  · rw [hvb] at hc
    exact verB_line hv0 c hc
theorem reqF_ne {m t : List UInt8} {v : Int} (h : reqF m t v ≠ []) : reqL (reqF m t v) = (m, t, v, 0) := by
  unfold reqF at h ⊢
  split at h
  · rename_i e; rw [if_pos e]; exact e
  · exact absurd rfl h
/-- What is written is read, whatever follows. -/
theorem msg_back {m t : List UInt8} {v : Int} {fs : List Fd} {n : Int} {b : List UInt8} (more : List UInt8) (hs : msgL (reqF m t v) fs n b ≠ []) (hn : n < 0 ∧ b = [] ∨ n = (b.length : Int)) (hb : b.length ≤ 100000) (hh : (getF hoN fs).length = 1) :
    parseQ (msgL (reqF m t v) fs n b ++ more) = (⟨m, t, v, unfrL fs, b⟩, (msgL (reqF m t v) fs n b).length, 0) := by
  obtain ⟨h1, h2, h3, h4, h5⟩ := msg_ne hs
  have hr := reqF_ne h1
  have hn1 : n ≤ 100000 := by omega
  obtain ⟨hL, hF⟩ := lines_read hn1 h3
  obtain ⟨p1, p2, p3, p4⟩ := read_parts fs n
  have h6 : ((unfrL fs).map fmtF ++ clLs n).length ≤ 64 := by
    rw [List.length_append, List.length_map]
    have : (clLs n).length ≤ 1 := by unfold clLs; split <;> simp
    omega
  rw [h5]
  have := parse_lines (x := reqF m t v) (L := (unfrL fs).map fmtF ++ clLs n) (b ++ more) (req_line hr) hr h6 hL h4
  rw [hF] at this
  rw [show linesB (headLs (reqF m t v) fs n) ++ 13 :: 10 :: b ++ more = linesB (reqF m t v :: ((unfrL fs).map fmtF ++ clLs n)) ++ 13 :: 10 :: (b ++ more) by simp [headLs], this, read_fr hn1, p3, p4, read_bd hn1, hh]
  rw [if_neg (by simp), if_neg (by omega)]
  have hbd : (if n < 0 then (([], 0, 0) : List UInt8 × Nat × Int) else if ((b ++ more).length : Int) < n then ([], 0, 2) else ((b ++ more).take n.toNat, n.toNat, 0)) = (b, b.length, 0) := by
    rcases hn with ⟨h0, rfl⟩ | h0
    · rw [if_pos h0]; rfl
    · rw [if_neg (by omega), if_neg (by rw [List.length_append]; omega), h0, Int.toNat_natCast, List.take_left' rfl]
  rw [hbd, if_neg (by simp)]
  refine Prod.ext rfl (Prod.ext ?_ rfl)
  show (linesB (reqF m t v :: _)).length + 2 + b.length = (linesB (reqF m t v :: _) ++ 13 :: 10 :: b).length
  simp only [List.length_append, List.length_cons]; omega
/-- Every proper beginning of what is written is short. -/
theorem msg_short {m t : List UInt8} {v : Int} {fs : List Fd} {n : Int} {b : List UInt8} {i : Nat} (hs : msgL (reqF m t v) fs n b ≠ []) (hn : n < 0 ∧ b = [] ∨ n = (b.length : Int)) (hb : b.length ≤ 100000) (hh : (getF hoN fs).length = 1) (hi : i < (msgL (reqF m t v) fs n b).length) :
    parseQ ((msgL (reqF m t v) fs n b).take i) = (req0, 0, 2) := by
  obtain ⟨h1, h2, h3, h4, h5⟩ := msg_ne hs
  have hr := reqF_ne h1
  have hn1 : n ≤ 100000 := by omega
  obtain ⟨hL, hF⟩ := lines_read hn1 h3
  obtain ⟨p1, p2, p3, p4⟩ := read_parts fs n
  have h6 : ((unfrL fs).map fmtF ++ clLs n).length ≤ 64 := by
    rw [List.length_append, List.length_map]
    have : (clLs n).length ≤ 1 := by unfold clLs; split <;> simp
    omega
  rw [h5] at hi ⊢
  by_cases hc : i < (linesB (headLs (reqF m t v) fs n)).length + 2
  · exact parse_cut (x := reqF m t v) (L := (unfrL fs).map fmtF ++ clLs n) b (req_line hr) hr h6 hL h4 hc
  · rw [take_line _ _ hc]
    simp only [List.length_append, List.length_cons] at hi
    have := parse_lines (x := reqF m t v) (L := (unfrL fs).map fmtF ++ clLs n) (b.take (i - ((linesB (headLs (reqF m t v) fs n)).length + 2))) (req_line hr) hr h6 hL h4
    rw [hF] at this
    rw [show headLs (reqF m t v) fs n = reqF m t v :: ((unfrL fs).map fmtF ++ clLs n) from rfl] at hi hc ⊢
    rw [show headLs (reqF m t v) fs n = reqF m t v :: ((unfrL fs).map fmtF ++ clLs n) from rfl] at this
    rw [this, read_fr hn1, p3, read_bd hn1, hh, if_neg (by simp), if_neg (by omega)]
    rcases hn with ⟨h0, rfl⟩ | h0
    · simp only [List.length_nil] at hi; omega
    · have hq : ∀ x : List UInt8, (x.length : Int) < n → (if n < 0 then (([], 0, 0) : List UInt8 × Nat × Int) else if (x.length : Int) < n then ([], 0, 2) else (x.take n.toNat, n.toNat, 0)) = ([], 0, 2) := fun x hx => by rw [if_neg (by omega), if_pos hx]
      rw [hq _ (by rw [List.length_take]; omega), if_pos (by simp)]
end Go.Proofs.YtfnmohaddkoalaaGreatDoor
