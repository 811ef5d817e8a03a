/- Laws of chunked bodies (layer 5). No program in sight. -/
import Derived.Test.YtfnmohaddkoalaaDoorChunkP
namespace Go.Proofs.YtfnmohaddkoalaaDoor

theorem endE_ok (l : List UInt8) : endE (13 :: 10 :: l) = 0 := by unfold endE; rw [if_neg (by simp), if_pos (by simp)]
/-- A chunk ahead of the rest. -/
theorem dec_chunk {f : Nat} {x c rest b : List UInt8} {a : Nat} (hx : ∀ y ∈ x, lineC y = true) (hl : x.length ≤ 2000) (hs : sizeL x = some c.length) (hc : c ≠ []) (hb : b.length + c.length ≤ 100000) :
    decGo (f + 1) (x ++ 13 :: 10 :: (c ++ 13 :: 10 :: rest)) b a = decGo f rest (b ++ c) (a + (x.length + 2) + c.length + 2) := by
  have hn := nextL_ok (a := x) (c ++ 13 :: 10 :: rest) hx hl
  have hk : c.length ≠ 0 := fun h => hc (List.length_eq_zero_iff.1 h)
  have hd : (x ++ 13 :: 10 :: (c ++ 13 :: 10 :: rest)).drop (x.length + 2) = c ++ 13 :: 10 :: rest := by rw [← List.drop_drop, List.drop_left' rfl]; rfl
  have hd2 : (x ++ 13 :: 10 :: (c ++ 13 :: 10 :: rest)).drop (x.length + 2 + c.length) = 13 :: 10 :: rest := by rw [← List.drop_drop, hd, List.drop_left' rfl]
  have hd3 : (x ++ 13 :: 10 :: (c ++ 13 :: 10 :: rest)).drop (x.length + 2 + c.length + 2) = rest := by rw [← List.drop_drop, hd2]; rfl
  rw [decGo_step hn hs (by omega) hk (by simp; omega) (by rw [hd2]; exact endE_ok _), hd, hd3, List.take_left' rfl]
theorem trail_crlf (more : List UInt8) (a : Nat) : trailL (13 :: 10 :: more) a = (a + 2, 0) := by
  unfold trailL
  exact trGo_end (nextL_ok (a := []) more (by simp) (by simp))
theorem dec_last {f : Nat} {x rest b : List UInt8} {a : Nat} (hx : ∀ y ∈ x, lineC y = true) (hl : x.length ≤ 2000) (hs : sizeL x = some 0) (hb : b.length ≤ 100000) (ht : (trailL rest (a + (x.length + 2))).2 = 0) :
    decGo (f + 1) (x ++ 13 :: 10 :: rest) b a = (b, (trailL rest (a + (x.length + 2))).1, 0) := by
  have hn := nextL_ok (a := x) rest hx hl
  have hd : (x ++ 13 :: 10 :: rest).drop (x.length + 2) = rest := by rw [← List.drop_drop, List.drop_left' rfl]; rfl
  have := decGo_last (f := f) (l := x ++ 13 :: 10 :: rest) (b := b) (a := a) hn hs (by omega) (by rw [hd]; exact ht)
  rw [hd] at this; exact this
theorem zero_line : ∀ y ∈ ([48] : List UInt8), lineC y = true := by decide
theorem size_zero : sizeL [48] = some 0 := by decide
theorem enc_nil (f n : Nat) : encGo f n [] = [48, 13, 10, 13, 10] := by cases f <;> simp [encGo]
theorem enc_step {f n : Nat} {l : List UInt8} (h : l ≠ []) : encGo (f + 1) n l = hexN (min n l.length) ++ 13 :: 10 :: (l.take (min n l.length) ++ 13 :: 10 :: encGo f n (l.drop (min n l.length))) := by rw [encGo, if_neg h]
theorem chunk_facts {n : Nat} {l : List UInt8} (h : l ≠ []) (hn : 0 < n) (hl : l.length ≤ 100000) : (l.take (min n l.length)).length = min n l.length ∧ l.take (min n l.length) ≠ [] ∧ sizeL (hexN (min n l.length)) = some (l.take (min n l.length)).length ∧ (hexN (min n l.length)).length ≤ 2000 := by
  have hp : 0 < l.length := List.length_pos_iff.2 h
  have h1 : (l.take (min n l.length)).length = min n l.length := by rw [List.length_take]; omega
  refine ⟨h1, fun e => by rw [e] at h1; simp at h1; omega, by rw [h1]; exact size_hex (by omega), ?_⟩
  have := hexN_len 8 (min n l.length) (by omega) (by have : (16 : Nat) ^ 8 = 4294967296 := by decide
                                                     omega)
  omega
/-- What is written is read, whatever follows. -/
theorem dec_enc (n : Nat) (hn : 0 < n) (more : List UInt8) : ∀ (f g : Nat) (l b : List UInt8) (a : Nat), (encGo g n l).length < f → l.length < g → b.length + l.length ≤ 100000 →
    decGo f (encGo g n l ++ more) b a = (b ++ l, a + (encGo g n l).length, 0)
  | 0, _, l, _, _, h, _, _ => by omega
  | _ + 1, 0, l, _, _, _, h, _ => by omega
  | f + 1, g + 1, l, b, a, hf, hg, hb => by
    by_cases hl : l = []
    · subst hl
      rw [enc_nil]
      show decGo (f + 1) ([48] ++ 13 :: 10 :: 13 :: 10 :: more) b a = _
      have ht := trail_crlf more (a + 3)
      have := dec_last (f := f) (x := [48]) (rest := 13 :: 10 :: more) (b := b) (a := a) zero_line (by simp) size_zero (by omega) (by show (trailL _ (a + 3)).2 = 0; rw [ht])
      rw [this]
      show (b, (trailL _ (a + 3)).1, (0 : Int)) = _
      rw [ht]; simp
    · obtain ⟨h1, h2, h3, h4⟩ := chunk_facts (n := n) hl hn (by omega)
      have hp : 0 < l.length := List.length_pos_iff.2 hl
      rw [enc_step hl]
      have e : hexN (min n l.length) ++ 13 :: 10 :: (l.take (min n l.length) ++ 13 :: 10 :: encGo g n (l.drop (min n l.length))) ++ more =
        hexN (min n l.length) ++ 13 :: 10 :: (l.take (min n l.length) ++ 13 :: 10 :: (encGo g n (l.drop (min n l.length)) ++ more)) := by simp
      have hd : (l.drop (min n l.length)).length = l.length - min n l.length := List.length_drop
      have hpos : 0 < min n l.length := by omega
      rw [enc_step hl] at hf
      simp at hf
      rw [e, dec_chunk (hexN_line _) h4 h3 h2 (by rw [h1]; omega), dec_enc n hn more f g _ _ _ (by omega) (by omega) (by rw [List.length_append, h1, hd]; omega)]
      rw [List.append_assoc, List.take_append_drop]
      congr 2
      simp [h1]; omega
/-- Every proper beginning of what is written ends too early. -/
theorem dec_cut (n : Nat) (hn : 0 < n) : ∀ (f g : Nat) (l b : List UInt8) (a i : Nat), i < f → l.length < g → b.length + l.length ≤ 100000 → i < (encGo g n l).length →
    decGo f ((encGo g n l).take i) b a = ([], 0, 2)
  | 0, _, l, _, _, _, h, _, _, _ => by omega
  | _ + 1, 0, l, _, _, _, _, h, _, _ => by omega
  | f + 1, g + 1, l, b, a, i, hf, hg, hb, hi => by
    have short : ∀ (x r : List UInt8), (∀ y ∈ x, lineC y = true) → x.length ≤ 2000 → i < x.length + 2 → decGo (f + 1) ((x ++ 13 :: 10 :: r).take i) b a = ([], 0, 2) := by
      intro x r hx hx2 hlt
      have hs : nextL ((x ++ 13 :: 10 :: r).take i) = ([], 0, 2) := by
        by_cases h1 : i ≤ x.length
        · rw [List.take_append_of_le_length h1]
          have := nextL_short (a := x.take i) (b := []) (fun c hc => hx c (List.mem_of_mem_take hc)) (by rw [List.length_take]; omega) (.inl rfl)
          rwa [List.append_nil] at this
        · have e : i = x.length + 1 := by omega
          subst e
          have e2 : (x ++ 13 :: 10 :: r).take (x.length + 1) = x ++ [13] := by rw [List.take_append]; simp; exact List.take_of_length_le (by omega)
          rw [e2]
          exact nextL_short hx hx2 (.inr rfl)
      rw [decGo_err (by rw [hs]; simp), hs]
    by_cases hl : l = []
    · subst hl
      rw [enc_nil] at hi ⊢
      simp at hi
      have h0 : ([48, 13, 10, 13, 10] : List UInt8) = [48] ++ 13 :: 10 :: [13, 10] := rfl
      by_cases h3 : i < 3
      · rw [h0]; exact short [48] [13, 10] zero_line (by simp) (by simpa using h3)
      · have hn0 : nextL (([48, 13, 10, 13, 10] : List UInt8).take i) = ([48], 3, 0) := by
          rcases (show i = 3 ∨ i = 4 from by omega) with rfl | rfl <;> decide
        have ht : (trailL ((([48, 13, 10, 13, 10] : List UInt8).take i).drop 3) (a + 3)).2 = 2 := by
          rcases (show i = 3 ∨ i = 4 from by omega) with rfl | rfl
          · show (trGo 1 0 [] (a + 3)).2 = 2
            rw [trGo_err (by decide)]; rfl
          · show (trGo 2 0 [13] (a + 3)).2 = 2
            rw [trGo_err (by decide)]; decide
        rw [decGo_trail hn0 size_zero (by omega) (by rw [ht]; simp), ht]
    · obtain ⟨h1, h2, h3, h4⟩ := chunk_facts (n := n) hl hn (by omega)
      have hp : 0 < l.length := List.length_pos_iff.2 hl
      have hpos : 0 < min n l.length := by omega
      rw [enc_step hl] at hi ⊢
      obtain ⟨x, hx⟩ : ∃ x, x = hexN (min n l.length) := ⟨_, rfl⟩
      obtain ⟨c, hc⟩ : ∃ c, c = l.take (min n l.length) := ⟨_, rfl⟩
      obtain ⟨r, hr⟩ : ∃ r, r = encGo g n (l.drop (min n l.length)) := ⟨_, rfl⟩
      have hxl : ∀ y ∈ x, lineC y = true := by rw [hx]; exact hexN_line _
      rw [← hx, ← hc, ← hr] at hi ⊢
      rw [← hx, ← hc] at h3
      rw [← hx] at h4
      rw [← hc] at h1 h2
      by_cases g1 : i < x.length + 2
      · exact short x _ hxl h4 g1
      · -- the line stands whole
        obtain ⟨j, rfl⟩ : ∃ j, i = x.length + 2 + j := ⟨i - (x.length + 2), by omega⟩
        have e1 : (x ++ 13 :: 10 :: (c ++ 13 :: 10 :: r)).take (x.length + 2 + j) = x ++ 13 :: 10 :: (c ++ 13 :: 10 :: r).take j := by
          rw [List.take_append, show x.length + 2 + j - x.length = j + 1 + 1 from by omega, List.take_succ_cons, List.take_succ_cons, List.take_of_length_le (by omega)]
        rw [e1]
        have hnx := nextL_ok (a := x) ((c ++ 13 :: 10 :: r).take j) hxl h4
        have hd : (x ++ 13 :: 10 :: (c ++ 13 :: 10 :: r).take j).drop (x.length + 2) = (c ++ 13 :: 10 :: r).take j := by rw [← List.drop_drop, List.drop_left' rfl]; rfl
        have hk : c.length ≠ 0 := by omega
        have hbk : ¬ 100000 < b.length + c.length := by omega
        simp at hi
        by_cases g2 : j < c.length
        · exact decGo_short hnx h3 hbk hk (by simp; omega)
        · obtain ⟨m, rfl⟩ : ∃ m, j = c.length + m := ⟨j - c.length, by omega⟩
          have e2 : (c ++ 13 :: 10 :: r).take (c.length + m) = c ++ (13 :: 10 :: r).take m := by
            rw [List.take_append, show c.length + m - c.length = m from by omega, List.take_of_length_le (by omega)]
          rw [e2] at hd hnx ⊢
          have hd2 : (x ++ 13 :: 10 :: (c ++ (13 :: 10 :: r).take m)).drop (x.length + 2 + c.length) = (13 :: 10 :: r).take m := by rw [← List.drop_drop, hd, List.drop_left' rfl]
          by_cases g3 : m < 2
          · have he : endE ((13 :: 10 :: r).take m) = 2 := by
              rcases (show m = 0 ∨ m = 1 from by omega) with rfl | rfl
              · rw [List.take_zero]; decide
              · rw [show (13 :: 10 :: r).take 1 = [(13 : UInt8)] from rfl]; decide
            rw [decGo_end hnx h3 hbk hk (by simp; omega) (by rw [hd2, he]; simp), hd2, he]
          · obtain ⟨q, rfl⟩ : ∃ q, m = q + 1 + 1 := ⟨m - 2, by omega⟩
            rw [List.take_succ_cons, List.take_succ_cons]
            have hdl : (l.drop (min n l.length)).length = l.length - min n l.length := List.length_drop
            rw [dec_chunk hxl h4 h3 h2 (by omega), hr]
            exact dec_cut n hn f g _ _ _ q (by omega) (by omega) (by rw [List.length_append, h1, hdl]; omega) (by rw [← hr]; omega)
theorem enc_pos (l : List UInt8) (n : Int) : l = [] ∨ 0 < (if n < 1 then l.length else n.toNat) := by
  by_cases h : l = []
  · exact .inl h
  · right
    have := List.length_pos_iff.2 h
    split <;> omega
theorem dec_back (l more : List UInt8) (n : Int) (h : l.length ≤ 100000) : decL (encL l n ++ more) = (l, (encL l n).length, 0) := by
  unfold decL encL
  rcases enc_pos l n with rfl | hp
  · rw [enc_nil, ← enc_nil 1 1]
    have := dec_enc 1 (by omega) more ((encGo 1 1 [] ++ more).length + 1) 1 [] [] 0 (by simp; omega) (by simp) (by simp)
    rw [this]; simp
  · have := dec_enc _ hp more ((encGo (l.length + 1) (if n < 1 then l.length else n.toNat) l ++ more).length + 1) (l.length + 1) l [] 0 (by simp; omega) (by omega) (by simp; omega)
    rw [this]; simp
theorem dec_early (l : List UInt8) (n : Int) (i : Nat) (h : l.length ≤ 100000) (hi : i < (encL l n).length) : decL ((encL l n).take i) = ([], 0, 2) := by
  unfold decL encL at *
  rcases enc_pos l n with rfl | hp
  · rw [enc_nil, ← enc_nil 1 1] at hi ⊢
    exact dec_cut 1 (by omega) _ 1 [] [] 0 i (by rw [List.length_take]; omega) (by simp) (by simp) hi
  · exact dec_cut _ hp _ (l.length + 1) l [] 0 i (by rw [List.length_take]; omega) (by omega) (by simp; omega) hi
theorem enc_ne (l : List UInt8) (n : Int) : encL l n ≠ [] := by
  unfold encL
  by_cases h : l = []
  · subst h; rw [enc_nil]; simp
  · rw [enc_step h]
    exact fun e => hexN_ne _ (List.append_eq_nil_iff.1 e).1
/-- Extensions, leading zeros and fields behind the content. -/
theorem hexGo_zeros : ∀ (z : Nat) (l : List UInt8), hexGo (List.replicate z 48 ++ l) 0 = hexGo l 0
  | 0, l => rfl
  | z + 1, l => by
    rw [List.replicate_succ, List.cons_append, hexGo, if_neg (by decide)]
    exact hexGo_zeros z l
theorem text_all {l : List UInt8} (h : textB l = true) : ∀ c ∈ l, lineC c = true := fun c hc => by
  unfold textB at h
  rw [List.all_eq_true] at h
  exact text_line (h c hc)
theorem size_ext {d ext : List UInt8} {k : Nat} (hd : 59 ∉ d) (h0 : d ≠ []) (h8 : d.length ≤ 8) (he : textB ext = true) (hk : hexGo d 0 = some k) : sizeL (d ++ 59 :: ext) = some k := by
  have hc := cutB_hit hd ext
  have hn : d.isEmpty = false := by cases d with | nil => exact absurd rfl h0 | cons => rfl
  rw [sizeL_go (by rw [hc]; simp [hn, he]; exact h8), hc]; exact hk
def detL (body ext n v : List UInt8) (z : Nat) : List UInt8 :=
  (List.replicate z 48 ++ hexN body.length ++ 59 :: ext) ++ 13 :: 10 :: (body ++ 13 :: 10 :: (([48, 48] ++ 59 :: ext) ++ 13 :: 10 :: (formL n v ++ [13, 10, 13, 10])))
theorem trail_one {n v more : List UInt8} (a : Nat) (h : validF n v = true) : trailL (formL n v ++ 13 :: 10 :: 13 :: 10 :: more) a = (a + ((formL n v).length + 2) + 2, 0) := by
  obtain ⟨h1, h2, h3⟩ := form_line h
  have hn := nextL_ok (a := formL n v) (13 :: 10 :: more) h1 h3
  have hd : (formL n v ++ 13 :: 10 :: 13 :: 10 :: more).drop ((formL n v).length + 2) = 13 :: 10 :: more := by rw [← List.drop_drop, List.drop_left' rfl]; rfl
  unfold trailL
  have hfuel : (formL n v ++ 13 :: 10 :: 13 :: 10 :: more).length + 1 = ((formL n v).length + more.length + 3) + 1 + 1 := by simp; omega
  rw [hfuel, trGo_step hn h2 (by decide) (by rw [form_back h]), hd]
  exact trGo_end (nextL_ok (a := []) more (by simp) (by simp))
theorem dec_details {body ext n v : List UInt8} {z : Nat} (hb : body ≠ []) (hl : body.length ≤ 1000) (hx : ext.length ≤ 100) (ht : textB ext = true) (hf : validF n v = true) (hz : z ≤ 4) :
    decL (detL body ext n v z) = (body, (detL body ext n v z).length, 0) := by
  have hx16 := hexN_len 3 body.length (by omega) (by have : (16 : Nat) ^ 3 = 4096 := by decide
                                                     omega)
  have hte := text_all ht
  have hdig : 59 ∉ List.replicate z (48 : UInt8) ++ hexN body.length := by
    rw [List.mem_append, not_or]
    refine ⟨fun h => ?_, hexN_semi _⟩
    have := List.eq_of_mem_replicate h
    cases this
  have hs1 : sizeL (List.replicate z 48 ++ hexN body.length ++ 59 :: ext) = some body.length :=
    size_ext hdig (fun e => hexN_ne _ (List.append_eq_nil_iff.1 e).2) (by simp; omega) ht (by rw [hexGo_zeros]; exact hexGo_hexN _ _ (Nat.le_refl _))
  have hl1 : ∀ y ∈ List.replicate z 48 ++ hexN body.length ++ 59 :: ext, lineC y = true := by
    intro y hy
    rcases List.mem_append.1 hy with hy | hy
    · rcases List.mem_append.1 hy with hy | hy
      · rw [List.eq_of_mem_replicate hy]; decide
      · exact hexN_line _ y hy
    · rcases List.mem_cons.1 hy with rfl | hy
      · decide
      · exact hte y hy
  have hs2 : sizeL ([48, 48] ++ 59 :: ext) = some 0 := size_ext (by decide) (by simp) (by simp) ht (by decide)
  have hl2 : ∀ y ∈ [48, 48] ++ 59 :: ext, lineC y = true := by
    intro y hy
    rcases List.mem_append.1 hy with hy | hy
    · simp at hy; subst hy; decide
    · rcases List.mem_cons.1 hy with rfl | hy
      · decide
      · exact hte y hy
  have hp : 0 < body.length := List.length_pos_iff.2 hb
  unfold decL
  have hfuel : (detL body ext n v z).length + 1 = ((detL body ext n v z).length - 1) + 1 + 1 := by unfold detL; simp; omega
  rw [hfuel]
  unfold detL
  rw [dec_chunk hl1 (by simp; omega) hs1 hb (by simp; omega)]
  have htr := fun a => trail_one (n := n) (v := v) (more := []) a hf
  rw [dec_last hl2 (by simp; omega) hs2 (by simp; omega) (by rw [htr]), htr]
  simp
  omega
end Go.Proofs.YtfnmohaddkoalaaDoor
