/- Laws of targets (layer 4): a key is parsed as its URI; the two forms of a target. No program in sight. -/
import Derived.Test.YtjogahfllmhpcaaDoorTargP
namespace Go.Proofs.YtjogahfllmhpcaaDoor

theorem norm_fix {t : List UInt8} (h : normL (47 :: t) = some (47 :: t)) : normL t = some t := by
  rw [normL_plain t (by decide) (by decide)] at h
  cases hn : normL t with
  | none => rw [hn] at h; cases h
  | some b => rw [hn] at h; simp at h; rw [h]
theorem segs_norm {t : List UInt8} (h : normL (47 :: t) = some (47 :: t)) : normL (segsL (47 :: t)) = some (segsL (47 :: t)) := by
  have ht := norm_fix h
  have hp := norm_pieces _ t (Nat.le_refl _) ht
  obtain ⟨x, r, h1, h2, _⟩ := segs_pieces t
  have ha : ∀ y ∈ x :: r, normL y = some y := by
    rw [← h1]; exact segGo_all (fun y => normL y = some y) rfl _ [] (by simp) fun y hy _ _ => hp y hy
  rw [h2, normL_plain _ (by decide) (by decide), norm_join r x ha]; rfl
theorem norm_ask : ∀ (n : Nat) (l a : List UInt8), l.length ≤ n → normL l = some a → 63 ∉ l → 63 ∉ a
  | n, l, a, hl, h, hm => by
    rcases normL_cases l with rfl | ⟨c, t, rfl, hb⟩ | ⟨c, t, rfl, hb, hc⟩ | ⟨t, rfl, ht⟩ | ⟨x, y, u, rfl⟩
    · rw [normL_nil] at h; cases h; simp
    · rw [normL_bad t hb] at h; cases h
    · cases n with
      | zero => simp at hl
      | succ n =>
        rw [normL_plain t hb hc] at h
        cases hn : normL t with
        | none => rw [hn] at h; cases h
        | some b =>
          rw [hn] at h; simp at h; subst h
          simp only [List.mem_cons, not_or] at hm ⊢
          exact ⟨hm.1, norm_ask n t b (by simp at hl; omega) hn hm.2⟩
    · rw [normL_short ht] at h; cases h
    · cases n with
      | zero => simp at hl
      | succ n =>
        rw [normL_trip] at h
        split at h
        · cases h
        · rename_i hx
          cases hn : normL u with
          | none => rw [hn] at h; cases h
          | some b =>
            rw [hn] at h; simp at h; subst h
            simp only [List.mem_cons, not_or] at hm
            have ih := norm_ask n u b (by simp at hl; omega) hn hm.2.2.2
            have hx1 := hexV_bd x
            have hy1 := hexV_bd y
            rw [List.mem_append, not_or]
            refine ⟨?_, ih⟩
            have e63 : (63 : UInt8).toNat = 63 := rfl
            cases hp : plainC (tripC (hexV x) (hexV y)) with
            | true =>
              rw [tripL_yes hp, List.mem_singleton]
              intro e
              rw [← e] at hp; revert hp; decide
            | false =>
              rw [tripL_no hp]
              have d1 := hexD_val (n := (hexV x).toNat) (by omega)
              have d2 := hexD_val (n := (hexV y).toNat) (by omega)
              simp only [List.mem_cons, not_or, List.not_mem_nil, not_false_eq_true, and_true]
              refine ⟨by decide, fun e => ?_, fun e => ?_⟩
              · rw [← e, e63] at d1; split at d1 <;> omega
              · rw [← e, e63] at d2; split at d2 <;> omega
theorem splitC_sub {c : UInt8} : ∀ {l x : List UInt8}, x ∈ splitC c l → ∀ b ∈ x, b ∈ l
  | [], x, h, b, hb => by rw [splitC, List.mem_singleton] at h; subst h; simp at hb
  | y :: t, x, h, b, hb => by
    by_cases hy : y = c
    · subst hy
      rw [splitC, if_pos rfl] at h
      rcases List.mem_cons.1 h with rfl | h
      · simp at hb
      · exact List.mem_cons_of_mem _ (splitC_sub h b hb)
    · cases hs : splitC c t with
      | nil => exact absurd hs (splitC_ne c t)
      | cons z r =>
        rw [splitC_other hy hs] at h
        rcases List.mem_cons.1 h with rfl | h
        · rcases List.mem_cons.1 hb with rfl | hb
          · simp
          · exact List.mem_cons_of_mem _ (splitC_sub (l := t) (x := z) (by rw [hs]; simp) b hb)
        · exact List.mem_cons_of_mem _ (splitC_sub (l := t) (x := x) (by rw [hs]; simp [h]) b hb)
theorem joinS_ask : ∀ (r : List (List UInt8)), (∀ y ∈ r, 63 ∉ y) → 63 ∉ joinS r
  | [], _ => by simp [joinS]
  | x :: r, h => by
    rw [joinS_cons]
    simp only [List.mem_cons, List.mem_append, not_or]
    exact ⟨by decide, h x (by simp), joinS_ask r fun y hy => h y (by simp [hy])⟩
theorem segs_ask {t : List UInt8} (h : 63 ∉ t) : 63 ∉ segsL (47 :: t) := by
  obtain ⟨x, r, h1, h2, _⟩ := segs_pieces t
  have ha : ∀ y ∈ x :: r, 63 ∉ y := by
    rw [← h1]; exact segGo_all (fun y => 63 ∉ y) (by simp) _ [] (by simp) fun y hy _ _ hm => h (splitC_sub hy 63 hm)
  rw [h2]
  simp only [List.mem_cons, List.mem_append, not_or]
  exact ⟨by decide, ha x (by simp), joinS_ask r fun y hy => ha y (by simp [hy])⟩
theorem take_stop : ∀ (a b : List UInt8), (∀ c ∈ a, stopC c = true) → (b = [] ∨ ∃ c t, b = c :: t ∧ stopC c = false) → auth1 (a ++ b) = a ∧ rest1 (a ++ b) = b
  | [], b, _, hb => by
    rcases hb with rfl | ⟨c, t, rfl, hc⟩
    · exact ⟨rfl, rfl⟩
    · unfold auth1 rest1
      rw [List.nil_append, List.takeWhile_cons_of_neg (by rw [hc]; simp), List.dropWhile_cons_of_neg (by rw [hc]; simp)]
      exact ⟨rfl, rfl⟩
  | x :: a, b, ha, hb => by
    have ih := take_stop a b (fun c hc => ha c (by simp [hc])) hb
    unfold auth1 rest1 at ih ⊢
    have hx := ha x (by simp)
    rw [List.cons_append, List.takeWhile_cons_of_pos hx, List.dropWhile_cons_of_pos hx, ih.1, ih.2]
    exact ⟨rfl, rfl⟩
theorem rest1_head : ∀ (l : List UInt8), rest1 l = [] ∨ ∃ c t, rest1 l = c :: t ∧ stopC c = false
  | [] => .inl rfl
  | x :: t => by
    unfold rest1
    cases hx : stopC x with
    | true => rw [List.dropWhile_cons_of_pos hx]; exact rest1_head t
    | false => rw [List.dropWhile_cons_of_neg (by rw [hx]; simp)]; exact .inr ⟨x, t, rfl, hx⟩
theorem stopC_iff {c : UInt8} : stopC c = false ↔ c = 47 ∨ c = 63 := by
  unfold stopC
  simp only [Bool.and_eq_false_iff, bne_eq_false_iff_eq]
theorem abs_root (t : List UInt8) : absB (47 :: t) = false := by
  unfold absB
  cases hl : decide (7 ≤ (47 :: t).length) with
  | false => rfl
  | true =>
    show foldB (47 :: t.take 6) schemeL = false
    cases hf : foldB (47 :: t.take 6) schemeL with
    | false => rfl
    | true =>
      have := foldB_iff.1 hf
      have h1 : lowL (47 :: t.take 6) = 47 :: lowL (t.take 6) := by show lowC 47 :: _ = _; rw [show lowC 47 = 47 from by decide]; rfl
      have h2 : lowL schemeL = 104 :: lowL [116, 116, 112, 58, 47, 47] := by show lowC 104 :: _ = _; rw [show lowC 104 = 104 from by decide]; rfl
      rw [h1, h2] at this
      cases this
theorem parse2_ok {h rest : List UInt8} {u : Uri} (e : parse2 h rest = (u, 0)) : ∃ p q n k, normL (cutB 63 rest).1 = some p ∧ normL (cutB 63 rest).2.1 = some q ∧ authL h = some (n, k) ∧ u = ⟨n, k, segsL (rootL p), q, (cutB 63 rest).2.2⟩ := by
  unfold parse2 at e
  cases hp : normL (cutB 63 rest).1 with
  | none => rw [hp] at e; simp at e
  | some p =>
    cases hq : normL (cutB 63 rest).2.1 with
    | none => rw [hp, hq] at e; simp at e
    | some q =>
      cases ha : authL h with
      | none => rw [hp, hq, ha] at e; simp at e
      | some x =>
        obtain ⟨n, k⟩ := x
        rw [hp, hq, ha] at e; simp at e
        exact ⟨p, q, n, k, rfl, rfl, rfl, e.symm⟩
theorem parse2_mk {h rest p q n : List UInt8} {k : Int} (hp : normL (cutB 63 rest).1 = some p) (hq : normL (cutB 63 rest).2.1 = some q) (ha : authL h = some (n, k)) : parse2 h rest = (⟨n, k, segsL (rootL p), q, (cutB 63 rest).2.2⟩, 0) := by
  unfold parse2; rw [hp, hq, ha]
theorem parse2_err {h rest : List UInt8} {u : Uri} {e : Int} (hp : parse2 h rest = (u, e)) (he : e ≠ 0) : u = uri0 := by
  unfold parse2 at hp
  split at hp
  · split at hp
    · simp at hp; exact absurd hp.2.symm he
    · simp at hp; exact hp.1.symm
  · simp at hp; exact hp.1.symm
theorem parseU_err {t h : List UInt8} {u : Uri} {e : Int} (hp : parseU t h = (u, e)) (he : e ≠ 0) : u = uri0 := by
  unfold parseU at hp
  split at hp
  · exact parse2_err hp he
  · split at hp
    · exact parse2_err hp he
    · simp at hp; exact hp.1.symm
theorem parseU_ok {t h : List UInt8} {u : Uri} (e : parseU t h = (u, 0)) : ∃ h' rest, parse2 h' rest = (u, 0) ∧ (rest = [] ∨ ∃ c r, rest = c :: r ∧ (c = 47 ∨ c = 63)) := by
  unfold parseU at e
  split at e
  · refine ⟨_, _, e, ?_⟩
    rcases rest1_head (t.drop 7) with h0 | ⟨c, r, h1, h2⟩
    · exact .inl h0
    · exact .inr ⟨c, r, h1, stopC_iff.1 h2⟩
  · split at e
    · rename_i hh
      refine ⟨_, _, e, ?_⟩
      cases t with
      | nil => exact .inl rfl
      | cons c r => simp at hh; exact .inr ⟨c, r, rfl, .inl hh⟩
    · simp at e
theorem cut_root {rest : List UInt8} (h : rest = [] ∨ ∃ c r, rest = c :: r ∧ (c = 47 ∨ c = 63)) : (cutB 63 rest).1 = [] ∨ ∃ r, (cutB 63 rest).1 = 47 :: r := by
  rcases h with rfl | ⟨c, r, rfl, rfl | rfl⟩
  · exact .inl rfl
  · right; rw [cutB_other (by decide)]; exact ⟨_, rfl⟩
  · left; rw [cutB_same]
theorem cut_ask (l : List UInt8) : 63 ∉ (cutB 63 l).1 := by
  rcases cutB_cases 63 l with ⟨a, b, h, _, h3⟩ | ⟨h, h3⟩ <;> rw [h] <;> exact h3
theorem cut_has (l : List UInt8) (h : (cutB 63 l).2.2 = false) : (cutB 63 l).2.1 = [] := by
  rcases cutB_cases 63 l with ⟨a, b, h1, _⟩ | ⟨h1, _⟩
  · rw [h1] at h; cases h
  · rw [h1]
theorem lowL_all {p : UInt8 → Bool} (hp : ∀ c, p c = true → p (lowC c) = true) {l : List UInt8} (h : l.all p = true) : (lowL l).all p = true := by
  rw [List.all_eq_true] at h ⊢
  intro c hc
  obtain ⟨d, hd, rfl⟩ := List.mem_map.1 hc
  exact hp d (h d hd)
theorem authL_some {l n : List UInt8} {k : Int} (h : authL l = some (n, k)) : n.all hostC = true ∧ n ≠ [] ∧ lowL n = n ∧ (k = 80 ∨ 1 ≤ k ∧ k ≤ 65535) := by
  unfold authL at h
  split at h
  · rename_i hh
    rw [Bool.and_eq_true] at hh
    cases hp : portN (cutB 58 l).2.1 with
    | none => rw [hp] at h; cases h
    | some m =>
      rw [hp] at h; simp at h
      obtain ⟨rfl, rfl⟩ := h
      refine ⟨lowL_all hostC_low hh.1, fun e => ?_, lowL_low _, ?_⟩
      · have : (cutB 58 l).1 = [] := by simpa [lowL] using e
        rw [this] at hh; simp at hh
      · unfold portN at hp
        split at hp
        · left; cases hp; rfl
        · split at hp
          · split at hp
            · rename_i hc; cases hp; right; exact hc.2
            · cases hp
          · cases hp
  · cases h
theorem dec_len : ∀ (k u : Nat), 0 < k → u < 10 ^ k → (Lib.decDigits u).length ≤ k
  | 0, u, h, _ => by omega
  | k + 1, u, _, h => by
    rw [Lib.decDigits.eq_def]
    split
    · simp
    · rename_i hu
      have hk : 0 < k := by
        rcases Nat.eq_zero_or_pos k with rfl | h'
        · simp at h; omega
        · exact h'
      have := dec_len k (u / 10) hk (by rw [Nat.pow_succ] at h; omega)
      simp; omega
theorem dec_ne (u : Nat) : Lib.decDigits u ≠ [] := fun e => by have := decDigits_ne u; rw [e] at this; simp at this
theorem port_back {k : Int} (h1 : 1 ≤ k) (h2 : k ≤ 65535) : portN (Lib.itoa k) = some k := by
  obtain ⟨u, rfl⟩ : ∃ u : Nat, k = u := ⟨k.toNat, by omega⟩
  have e : Lib.itoa (u : Int) = Lib.decDigits u := by unfold Lib.itoa; rw [if_neg (by omega)]; simp
  have hd := numGo_dec u
  rw [e]
  exact portN_in (dec_ne u) (hd.trans (by congr 1; omega)) ⟨dec_len 5 u (by omega) (by omega), h1, h2⟩
theorem hostC_not {l : List UInt8} (h : l.all hostC = true) {c : UInt8} (hc : hostC c = false) : c ∉ l := fun hm => by
  rw [List.all_eq_true] at h; rw [h c hm] at hc; cases hc
theorem site_back {n : List UInt8} {k : Int} (h1 : n.all hostC = true) (h2 : n ≠ []) (h3 : lowL n = n) (h4 : k = 80 ∨ 1 ≤ k ∧ k ≤ 65535) : authL (siteL n k) = some (n, k) := by
  have hc : 58 ∉ n := hostC_not h1 (by decide)
  have he : n.isEmpty = false := by cases n with | nil => exact absurd rfl h2 | cons => rfl
  unfold siteL
  split
  · rename_i h; subst h
    have := authL_ok (l := n) (n := 80) (by rw [cutB_miss hc]; simp [h1, he]) (by rw [cutB_miss hc]; rfl)
    rw [this, cutB_miss hc, h3]
  · rename_i h
    have := authL_ok (l := n ++ 58 :: Lib.itoa k) (n := k) (by rw [cutB_hit hc]; simp [h1, he]) (by rw [cutB_hit hc]; exact port_back (by omega) (by omega))
    rw [this, cutB_hit hc, h3]
theorem dec_dig : ∀ (n u : Nat), u ≤ n → ∀ c ∈ Lib.decDigits u, 48 ≤ c.toNat ∧ c.toNat ≤ 57
  | n, u, hn, c, hc => by
    rw [Lib.decDigits.eq_def] at hc
    split at hc
    · simp at hc; subst hc; simp; omega
    · cases n with
      | zero => omega
      | succ n =>
        rcases List.mem_append.1 hc with h | h
        · exact dec_dig n (u / 10) (by omega) c h
        · simp at h; subst h; simp; omega
theorem site_stop {n : List UInt8} {k : Int} (h1 : n.all hostC = true) (h4 : k = 80 ∨ 1 ≤ k ∧ k ≤ 65535) : ∀ c ∈ siteL n k, stopC c = true := by
  intro c hc
  cases hs : stopC c with
  | true => rfl
  | false =>
    exfalso
    have h63 : c = 47 ∨ c = 63 := stopC_iff.1 hs
    have hn : c ∉ n := hostC_not h1 (by rcases h63 with rfl | rfl <;> decide)
    unfold siteL at hc
    split at hc
    · exact hn hc
    · rename_i hk
      obtain ⟨u, rfl⟩ : ∃ u : Nat, k = u := ⟨k.toNat, by omega⟩
      have e : Lib.itoa (u : Int) = Lib.decDigits u := by unfold Lib.itoa; rw [if_neg (by omega)]; simp
      rw [e] at hc
      rcases List.mem_append.1 hc with h | h
      · exact hn h
      · rcases List.mem_cons.1 h with rfl | h
        · rcases h63 with h | h <;> cases h
        · have := dec_dig _ u (Nat.le_refl _) c h
          rcases h63 with rfl | rfl
          · have : (47 : UInt8).toNat = 47 := rfl; omega
          · have : (63 : UInt8).toNat = 63 := rfl; omega
theorem abs_scheme (l : List UInt8) : absB (schemeL ++ l) = true := by
  unfold absB
  rw [show (schemeL ++ l).take 7 = schemeL from rfl, foldB_refl, decide_eq_true (by simp [schemeL])]; rfl
theorem root_of {p : List UInt8} (h : p = [] ∨ ∃ r, p = 47 :: r) (hn : normL p = some p) (ha : 63 ∉ p) : ∃ r, rootL p = 47 :: r ∧ normL (47 :: r) = some (47 :: r) ∧ 63 ∉ r := by
  rcases h with rfl | ⟨r, rfl⟩
  · exact ⟨[], rfl, by decide, by simp⟩
  · exact ⟨r, rfl, hn, fun h => ha (by simp [h])⟩
/-- The key of a parsed URI is parsed as this URI. -/
theorem key_back {t h : List UInt8} {u : Uri} (e : parseU t h = (u, 0)) (other : List UInt8) : parseU (keyL u) other = (u, 0) := by
  obtain ⟨h', rest, e2, hr⟩ := parseU_ok e
  obtain ⟨p, q, n, k, hp, hq, ha, rfl⟩ := parse2_ok e2
  obtain ⟨a1, a2, a3, a4⟩ := authL_some ha
  have hroot : p = [] ∨ ∃ r, p = 47 :: r := by
    rcases cut_root hr with h0 | ⟨r, h1⟩
    · rw [h0, normL_nil] at hp; cases hp; exact .inl rfl
    · rw [h1, normL_plain r (by decide) (by decide)] at hp
      cases hn : normL r with
      | none => rw [hn] at hp; cases hp
      | some b => rw [hn] at hp; simp at hp; exact .inr ⟨b, hp.symm⟩
  obtain ⟨r, r1, r2, r3⟩ := root_of hroot (norm_idem hp) (norm_ask _ _ _ (Nat.le_refl _) hp (cut_ask rest))
  have s1 := segs_norm r2
  have s2 := segs_ask r3
  have s3 := segs_idem (47 :: r)
  rw [r1]
  obtain ⟨x, y, _, s4, _⟩ := segs_pieces r
  have hlocal : ∃ c l, localL ⟨n, k, segsL (47 :: r), q, (cutB 63 rest).2.2⟩ = c :: l ∧ stopC c = false := by
    unfold localL
    split
    · exact ⟨47, _, by show segsL (47 :: r) ++ _ = _; rw [s4]; rfl, by decide⟩
    · exact ⟨47, _, by show segsL (47 :: r) = _; rw [s4], by decide⟩
  have hst := take_stop (siteL n k) (localL ⟨n, k, segsL (47 :: r), q, (cutB 63 rest).2.2⟩) (site_stop a1 a4) (.inr hlocal)
  have hcut : cutB 63 (localL ⟨n, k, segsL (47 :: r), q, (cutB 63 rest).2.2⟩) = (segsL (47 :: r), q, (cutB 63 rest).2.2) := by
    unfold localL
    cases hh : (cutB 63 rest).2.2 with
    | true => exact cutB_hit s2 q
    | false =>
      rw [cut_has rest hh, normL_nil] at hq
      cases hq
      exact cutB_miss s2
  have hk : keyL ⟨n, k, segsL (47 :: r), q, (cutB 63 rest).2.2⟩ = schemeL ++ (siteL n k ++ localL ⟨n, k, segsL (47 :: r), q, (cutB 63 rest).2.2⟩) := by unfold keyL; rw [List.append_assoc]
  unfold parseU
  rw [hk, abs_scheme, if_pos rfl]
  have hd : (schemeL ++ (siteL n k ++ localL ⟨n, k, segsL (47 :: r), q, (cutB 63 rest).2.2⟩)).drop 7 = siteL n k ++ localL ⟨n, k, segsL (47 :: r), q, (cutB 63 rest).2.2⟩ := rfl
  rw [hd, hst.1, hst.2, parse2_mk (p := segsL (47 :: r)) (q := q) (n := n) (k := k) (by rw [hcut]; exact s1) (by rw [hcut]; exact norm_idem hq) (site_back a1 a2 a3 a4), hcut]
  have hrr : rootL (segsL (47 :: r)) = segsL (47 :: r) := by unfold rootL; rw [if_neg (by rw [s4]; simp)]
  rw [hrr, s3]
/-- The two forms of a target. -/
theorem forms_same {path host S : List UInt8} (other : List UInt8) (hs : S.length = 7) (hS : foldB S schemeL = true) (hp : ∃ r, path = 47 :: r) (hh : ∀ c ∈ host, stopC c = true) : parseU (S ++ host ++ path) other = parseU path host := by
  obtain ⟨r, rfl⟩ := hp
  have h1 : absB (S ++ host ++ 47 :: r) = true := by
    unfold absB
    rw [List.append_assoc, List.take_left' hs, hS, decide_eq_true (by simp; omega)]; rfl
  have h2 := take_stop host (47 :: r) hh (.inr ⟨47, r, rfl, by decide⟩)
  unfold parseU
  rw [h1, if_pos rfl, abs_root, if_neg (by simp), if_pos (show (47 :: r).head? = some 47 from rfl), List.append_assoc, List.drop_left' hs, h2.1, h2.2]
end Go.Proofs.YtjogahfllmhpcaaDoor
