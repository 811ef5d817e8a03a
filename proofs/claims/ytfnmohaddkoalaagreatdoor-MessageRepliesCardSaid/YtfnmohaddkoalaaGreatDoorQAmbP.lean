/- Requests with two framing fields or two Host fields, in plain terms (layer 6). No program in sight. -/
import Derived.Test.YtfnmohaddkoalaaGreatDoorQMsgQ
import Derived.Test.YtfnmohaddkoalaaGreatDoorQPre
namespace Go.Proofs.YtfnmohaddkoalaaGreatDoor
set_option linter.unusedSimpArgs false
set_option linter.unusedVariables false

/-- A field's line with a space behind the colon. -/
def lineS (n v : List UInt8) : List UInt8 := n ++ 58 :: 32 :: v
theorem valid_line {n v : List UInt8} (h : validF n v = true) : (∀ c ∈ n, lineC c = true) ∧ ∀ c ∈ v, lineC c = true := by
  obtain ⟨h1, h2, _, _⟩ := validF_iff.1 h
  refine ⟨fun c hc => ?_, text_all h2⟩
  unfold tokenB at h1
  rw [Bool.and_eq_true, List.all_eq_true] at h1
  exact text_line (part_text (h1.1 c hc))
theorem field_sp {n v : List UInt8} (h : validF n v = true) (hl : n.length + v.length + 2 ≤ 2000) : fieldL (lineS n v) = ((n, v), 0) := by
  obtain ⟨h1, h2, h3, h4⟩ := validF_iff.1 h
  have hc : 58 ∉ n := token_no h1 (by decide)
  have e1 : cutB 58 (lineS n v) = (n, 32 :: v, true) := cutB_hit hc _
  have e2 : trimL (32 :: v) = v := by
    have := trimL_pad (l := v) (p := [32]) (q := []) (by intro x hx; simp at hx; subst hx; decide) (by simp)
    rw [List.append_nil] at this
    exact this.trans h3
  have e3 : textB (32 :: v) = true := by unfold textB at h2 ⊢; rw [List.all_cons, h2]; decide
  have := fieldL_ok (l := lineS n v) (by unfold lineS; simp; omega) (by rw [e1]; simp [h1, e3]) (by rw [e1, e2]; exact h)
  rw [this, e1, e2]
theorem fline_sp {n v : List UInt8} (h : validF n v = true) (hl : n.length + v.length + 2 ≤ 2000) : FLine (lineS n v) ∧ lineF (lineS n v) = mkF (n, v) := by
  have hf := field_sp h hl
  obtain ⟨ha, hb⟩ := valid_line h
  refine ⟨⟨fun c hc => ?_, by unfold lineS; simp, by unfold lineS; simp; omega, by rw [hf]⟩, by unfold lineF; rw [hf]⟩
  unfold lineS at hc
  simp only [List.mem_append, List.mem_cons] at hc
  rcases hc with hc | rfl | rfl | hc
  · exact ha c hc
  · decide
  · decide
  · exact hb c hc
theorem dec_dig : ∀ (u : Nat), ∀ c ∈ Lib.decDigits u, ∃ d, d < 10 ∧ c = UInt8.ofNat (48 + d) := fun u => by
  induction u using Nat.strongRecOn with
  | ind u ih =>
    intro c hc
    by_cases h : u < 10
    · rw [Lib.decDigits_one h, List.mem_singleton] at hc
      exact ⟨u, h, hc⟩
    · rw [Lib.decDigits, dif_neg h, List.mem_append, List.mem_singleton] at hc
      rcases hc with hc | hc
      · exact ih _ (by omega) c hc
      · exact ⟨u % 10, by omega, hc⟩
theorem dec_len : ∀ (k u : Nat), 0 < k → u < 10 ^ k → (Lib.decDigits u).length ≤ k
  | 0, u, h, _ => by omega
  | k + 1, u, _, h => by
    by_cases hu : u < 10
    · rw [Lib.decDigits_one hu]; simp
    · rw [Lib.decDigits, dif_neg hu, List.length_append]
      have hk : 0 < k := by
        rcases Nat.eq_zero_or_pos k with rfl | hk
        · simp at h; omega
        · exact hk
      have := dec_len k (u / 10) hk (by rw [Nat.div_lt_iff_lt_mul (by omega)]; rw [Nat.pow_succ] at h; exact h)
      simp; omega
theorem dig_text {d : Nat} (h : d < 10) : textC (UInt8.ofNat (48 + d)) = true ∧ blankC (UInt8.ofNat (48 + d)) = false := by
  have : d = 0 ∨ d = 1 ∨ d = 2 ∨ d = 3 ∨ d = 4 ∨ d = 5 ∨ d = 6 ∨ d = 7 ∨ d = 8 ∨ d = 9 := by omega
  rcases this with rfl | rfl | rfl | rfl | rfl | rfl | rfl | rfl | rfl | rfl <;> decide
theorem drop_no {l : List UInt8} (h : ∀ c ∈ l, blankC c = false) : l.dropWhile blankC = l := by
  cases l with
  | nil => rfl
  | cons c t => exact drop_none (h c (by simp))
theorem trim_no {l : List UInt8} (h : ∀ c ∈ l, blankC c = false) : trimL l = l := by
  rw [← trimL_eq]
  unfold leftL rightL
  rw [drop_no h, drop_no (fun c hc => h c (List.mem_reverse.1 hc)), List.reverse_reverse]
theorem valid_dec {n : List UInt8} {u : Nat} (hn : tokenB n = true) (hl : n.length ≤ 100) (hu : u < 10 ^ 9) : validF n (Lib.decDigits u) = true := by
  have h9 := dec_len 9 u (by decide) hu
  refine validF_iff.2 ⟨hn, ?_, trim_no fun c hc => ?_, ?_⟩
  · unfold textB
    rw [List.all_eq_true]
    intro c hc
    obtain ⟨d, hd, rfl⟩ := dec_dig u c hc
    exact (dig_text hd).1
  · obtain ⟨d, hd, rfl⟩ := dec_dig u c hc
    exact (dig_text hd).2
  · have := formL_len n (Lib.decDigits u)
    omega
/-- "POST / HTTP/1.1", and the names in other cases. -/
abbrev postL : List UInt8 := [80, 79, 83, 84, 32, 47, 32, 72, 84, 84, 80, 47, 49, 46, 49]
abbrev clLow : List UInt8 := [99, 111, 110, 116, 101, 110, 116, 45, 108, 101, 110, 103, 116, 104]
abbrev hoUp : List UInt8 := [72, 79, 83, 84]
abbrev gzL : List UInt8 := [103, 122, 105, 112, 44, 32, 99, 104, 117, 110, 107, 101, 100]
/-- The fourth line. -/
def ambX (k : Int) (h d : List UInt8) : List UInt8 × List UInt8 := if k = 0 then (teN, chN) else if k = 1 then (clLow, d) else if k = 2 then (teN, gzL) else (hoUp, h)
def ambE (k : Int) : Int := if k = 0 then 8 else if k = 1 then 8 else if k = 2 then 7 else 6
def ambLs (k : Int) (h d : List UInt8) : List (List UInt8) := [postL, lineS hoN h, lineS clN d, lineS (ambX k h d).1 (ambX k h d).2]
theorem valid_up {h : List UInt8} (hv : validF hoN h = true) : validF hoUp h = true := by
  obtain ⟨_, h2, h3, h4⟩ := validF_iff.1 hv
  refine validF_iff.2 ⟨by decide, h2, h3, ?_⟩
  unfold formL at h4 ⊢
  split
  · decide
  · rename_i e; rw [if_neg e] at h4; simpa using h4
theorem frE_cl (c : ByteArray) : frE [] [c] = if (numGo (bs c) 0).isSome ∧ bs c ≠ [] ∧ c.size ≤ 9 then 0 else 8 := rfl
theorem amb_parse (k : Int) {h : List UInt8} {u : Nat} (hv : validF hoN h = true) (hl : h.length ≤ 100) (hu : u ≤ 100000) : ∃ q, parseQ (linesB (ambLs k h (Lib.decDigits u)) ++ [13, 10]) = (q, 0, ambE k) := by
  have vd := valid_dec (n := clN) (u := u) (by decide) (by decide) (by omega)
  have vd2 := valid_dec (n := clLow) (u := u) (by decide) (by decide) (by omega)
  have l9 := dec_len 9 u (by decide) (by omega)
  obtain ⟨f1, g1⟩ := fline_sp hv (by simp; omega)
  obtain ⟨f2, g2⟩ := fline_sp vd (by simp; omega)
  have vx : validF (ambX k h (Lib.decDigits u)).1 (ambX k h (Lib.decDigits u)).2 = true := by
    unfold ambX
    split
    · decide
    · split
      · exact vd2
      · split
        · decide
        · exact valid_up hv
  have lx : (ambX k h (Lib.decDigits u)).1.length + (ambX k h (Lib.decDigits u)).2.length + 2 ≤ 200 := by
    unfold ambX
    split
    · decide
    · split
      · simp; omega
      · split
        · decide
        · simp; omega
  obtain ⟨f3, g3⟩ := fline_sp vx (by omega)
  have hd := hd_lines (st := fun x => (reqL x).2.2.2) (x := postL) (L := [lineS hoN h, lineS clN (Lib.decDigits u), lineS (ambX k h (Lib.decDigits u)).1 (ambX k h (Lib.decDigits u)).2]) [] (by decide) (by decide) (by decide +kernel) (by simp)
    (fun y hy => by
      simp only [List.mem_cons, List.not_mem_nil, or_false] at hy
      rcases hy with rfl | rfl | rfl
      · exact f1
      · exact f2
      · exact f3)
    (by simp only [linesB, lineS, List.length_append, List.length_cons, List.length_nil]; omega)
  have hs : (numGo (Lib.decDigits u) 0).isSome = true := by rw [numGo_dec]; rfl
  have hne : Lib.decDigits u ≠ [] := fun e => by have := decDigits_ne u; rw [e] at this; cases this
  unfold parseQ
  rw [show ambLs k h (Lib.decDigits u) = postL :: [lineS hoN h, lineS clN (Lib.decDigits u), lineS (ambX k h (Lib.decDigits u)).1 (ambX k h (Lib.decDigits u)).2] from rfl, hd]
  simp only [List.map_cons, List.map_nil, g1, g2, g3]
  have a1 : isF clN (mkF (hoN, h)) = false := by unfold isF mkF; rfl
  have a2 : isF teN (mkF (hoN, h)) = false := by unfold isF mkF; rfl
  have a3 : isF hoN (mkF (hoN, h)) = true := by show foldB hoN hoN = true; decide
  have b1 : isF clN (mkF (clN, Lib.decDigits u)) = true := by show foldB clN clN = true; decide
  have b2 : isF teN (mkF (clN, Lib.decDigits u)) = false := by unfold isF mkF; rfl
  have b3 : isF hoN (mkF (clN, Lib.decDigits u)) = false := by unfold isF mkF; rfl
  have e1 : ∀ (y : Fd), getF clN [mkF (hoN, h), mkF (clN, Lib.decDigits u), y] = ⟨(Lib.decDigits u).toArray⟩ :: getF clN [y] := fun y => by
    unfold getF; rw [List.filter_cons_of_neg (by rw [a1]; simp), List.filter_cons_of_pos b1]; rfl
  have e2 : ∀ (y : Fd), getF teN [mkF (hoN, h), mkF (clN, Lib.decDigits u), y] = getF teN [y] := fun y => by
    unfold getF; rw [List.filter_cons_of_neg (by rw [a2]; simp), List.filter_cons_of_neg (by rw [b2]; simp)]
  have e3 : ∀ (y : Fd), getF hoN [mkF (hoN, h), mkF (clN, Lib.decDigits u), y] = ⟨h.toArray⟩ :: getF hoN [y] := fun y => by
    unfold getF; rw [List.filter_cons_of_pos a3, List.filter_cons_of_neg (by rw [b3]; simp)]; rfl
  have fr : ∀ (y : Fd), frL [mkF (hoN, h), mkF (clN, Lib.decDigits u), y] = frE (getF teN [y]) (⟨(Lib.decDigits u).toArray⟩ :: getF clN [y]) := fun y => by
    unfold frL; rw [e1, e2]
  by_cases k0 : k = 0
  · have hx : ambX k h (Lib.decDigits u) = (teN, chN) := by unfold ambX; rw [if_pos k0]
    have he : ambE k = 8 := by unfold ambE; rw [if_pos k0]
    rw [hx, he, fr, show getF teN [mkF (teN, chN)] = [⟨chN.toArray⟩] by decide +kernel, show getF clN [mkF (teN, chN)] = [] by decide +kernel]
    exact ⟨_, rfl⟩
  · by_cases k1 : k = 1
    · have hx : ambX k h (Lib.decDigits u) = (clLow, Lib.decDigits u) := by unfold ambX; rw [if_neg k0, if_pos k1]
      have he : ambE k = 8 := by unfold ambE; rw [if_neg k0, if_pos k1]
      have c1 : isF clN (mkF (clLow, Lib.decDigits u)) = true := by show foldB clLow clN = true; decide
      have c2 : isF teN (mkF (clLow, Lib.decDigits u)) = false := by unfold isF mkF; rfl
      rw [hx, he, fr, show getF teN [mkF (clLow, Lib.decDigits u)] = [] by unfold getF; rw [List.filter_cons_of_neg (by rw [c2]; simp)]; rfl, show getF clN [mkF (clLow, Lib.decDigits u)] = [⟨(Lib.decDigits u).toArray⟩] by unfold getF; rw [List.filter_cons_of_pos c1]; rfl]
      exact ⟨_, rfl⟩
    · by_cases k2 : k = 2
      · have hx : ambX k h (Lib.decDigits u) = (teN, gzL) := by unfold ambX; rw [if_neg k0, if_neg k1, if_pos k2]
        have he : ambE k = 7 := by unfold ambE; rw [if_neg k0, if_neg k1, if_pos k2]
        rw [hx, he, fr, show getF teN [mkF (teN, gzL)] = [⟨gzL.toArray⟩] by decide +kernel, show getF clN [mkF (teN, gzL)] = [] by decide +kernel]
        exact ⟨_, rfl⟩
      · have hx : ambX k h (Lib.decDigits u) = (hoUp, h) := by unfold ambX; rw [if_neg k0, if_neg k1, if_neg k2]
        have he : ambE k = 6 := by unfold ambE; rw [if_neg k0, if_neg k1, if_neg k2]
        have c1 : isF clN (mkF (hoUp, h)) = false := by unfold isF mkF; rfl
        have c2 : isF teN (mkF (hoUp, h)) = false := by unfold isF mkF; rfl
        have c3 : isF hoN (mkF (hoUp, h)) = true := by show foldB hoUp hoN = true; decide
        rw [hx, he, fr, e3, show getF teN [mkF (hoUp, h)] = [] by unfold getF; rw [List.filter_cons_of_neg (by rw [c2]; simp)]; rfl, show getF clN [mkF (hoUp, h)] = [] by unfold getF; rw [List.filter_cons_of_neg (by rw [c1]; simp)]; rfl, show getF hoN [mkF (hoUp, h)] = [⟨h.toArray⟩] by unfold getF; rw [List.filter_cons_of_pos c3]; rfl]
        have hfr : frE [] [⟨(Lib.decDigits u).toArray⟩] = 0 := by
          rw [frE_cl, if_pos]
          exact ⟨hs, hne, by show (Lib.decDigits u).toArray.size ≤ 9; simpa using l9⟩
        rw [hfr]
        exact ⟨_, rfl⟩
end Go.Proofs.YtfnmohaddkoalaaGreatDoor
