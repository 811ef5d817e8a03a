/- Chunked bodies in plain terms (layer 5). No program in sight. -/
import Derived.Test.YtfnmohaddkoalaaDoorFieldP
import Derived.Test.YtfnmohaddkoalaaDoorHexP
namespace Go.Proofs.YtfnmohaddkoalaaDoor

/-- The number of hexadecimal digits, from a number on. -/
def hexGo : List UInt8 → Nat → Option Nat
  | [], n => some n
  | c :: t, n => if hexV c < 0 then none else hexGo t (16 * n + (hexV c).toNat)
theorem hexGo_at (s : ByteArray) {k : Nat} (n : Nat) (h : k < s.size) : hexGo ((bs s).drop k) n = if hexV s[k] < 0 then none else hexGo ((bs s).drop (k + 1)) (16 * n + (hexV s[k]).toNat) := by
  rw [drop_step s h, hexGo]
theorem hexGo_end (s : ByteArray) {k : Nat} (n : Nat) (h : s.size ≤ k) : hexGo ((bs s).drop k) n = some n := by rw [drop_end s h, hexGo]
theorem hexGo_none : ∀ {l : List UInt8} (n : Nat), (∃ c ∈ l, hexV c < 0) → hexGo l n = none
  | [], n, h => by obtain ⟨c, hc, _⟩ := h; cases hc
  | x :: t, n, h => by
    rw [hexGo]
    split
    · rfl
    · rename_i hx
      obtain ⟨c, hc, hn⟩ := h
      rcases List.mem_cons.1 hc with rfl | hc
      · exact absurd hn hx
      · exact hexGo_none _ ⟨c, hc, hn⟩
theorem hexGo_bd : ∀ (l : List UInt8) (n m : Nat), hexGo l n = some m → m + 1 ≤ (n + 1) * 16 ^ l.length
  | [], n, m, h => by rw [hexGo] at h; cases h; simp
  | c :: t, n, m, h => by
    rw [hexGo] at h
    split at h
    · cases h
    · have hb := hexV_bd c
      have := hexGo_bd t _ m h
      rw [List.length_cons, Nat.pow_succ]
      have h2 : 16 * n + (hexV c).toNat + 1 ≤ (n + 1) * 16 := by omega
      calc m + 1 ≤ (16 * n + (hexV c).toNat + 1) * 16 ^ t.length := this
        _ ≤ ((n + 1) * 16) * 16 ^ t.length := Nat.mul_le_mul_right _ h2
        _ = (n + 1) * (16 ^ t.length * 16) := by rw [Nat.mul_assoc, Nat.mul_comm 16]
/-- The size on the line ahead of a chunk. -/
def sizeL (l : List UInt8) : Option Nat :=
  if (cutB 59 l).1.isEmpty || (decide (8 < (cutB 59 l).1.length) || !textB (cutB 59 l).2.1) then none else hexGo (cutB 59 l).1 0
theorem sizeL_no {l : List UInt8} (h : ((cutB 59 l).1.isEmpty || (decide (8 < (cutB 59 l).1.length) || !textB (cutB 59 l).2.1)) = true) : sizeL l = none := by unfold sizeL; rw [h]; rfl
theorem sizeL_go {l : List UInt8} (h : ((cutB 59 l).1.isEmpty || (decide (8 < (cutB 59 l).1.length) || !textB (cutB 59 l).2.1)) = false) : sizeL l = hexGo (cutB 59 l).1 0 := by unfold sizeL; rw [h]; rfl
theorem sizeL_bd {l : List UInt8} {m : Nat} (h : sizeL l = some m) : m < 4294967296 := by
  unfold sizeL at h
  split at h
  · cases h
  · rename_i hc
    have h8 : (cutB 59 l).1.length ≤ 8 := by
      rcases Nat.lt_or_ge 8 (cutB 59 l).1.length with h8 | h8
      · exfalso; apply hc; simp [h8]
      · exact h8
    have := hexGo_bd _ 0 m h
    have h16 : 16 ^ (cutB 59 l).1.length ≤ 16 ^ 8 := Nat.pow_le_pow_right (by omega) h8
    have e : (16 : Nat) ^ 8 = 4294967296 := by decide
    omega
/-- What must stand behind a chunk. -/
def endE (l : List UInt8) : Int := if l = [] ∨ l = [13] then 2 else if l.take 2 = [13, 10] then 0 else 1
/-- The fields behind the content: the bytes up to their end, and the error. -/
def trGo : Nat → Nat → List UInt8 → Nat → Nat × Int
  | 0, _, _, _ => (0, 2)
  | f + 1, n, l, a =>
    if (nextL l).2.2 ≠ 0 then (0, (nextL l).2.2) else if (nextL l).1 = [] then (a + (nextL l).2.1, 0) else if n = 64 then (0, 4) else
    if (fieldL (nextL l).1).2 ≠ 0 then (0, (fieldL (nextL l).1).2) else trGo f (n + 1) (l.drop (nextL l).2.1) (a + (nextL l).2.1)
def trailL (l : List UInt8) (a : Nat) : Nat × Int := trGo (l.length + 1) 0 l a
/-- A chunked body from a place on: the body, the bytes that it takes, and the error. -/
def decGo : Nat → List UInt8 → List UInt8 → Nat → List UInt8 × Nat × Int
  | 0, _, _, _ => ([], 0, 2)
  | f + 1, l, b, a =>
    if (nextL l).2.2 ≠ 0 then ([], 0, (nextL l).2.2) else
    match sizeL (nextL l).1 with
    | none => ([], 0, 1)
    | some k =>
      if 100000 < b.length + k then ([], 0, 5) else
      if k = 0 then (if (trailL (l.drop (nextL l).2.1) (a + (nextL l).2.1)).2 = 0 then (b, (trailL (l.drop (nextL l).2.1) (a + (nextL l).2.1)).1, 0) else ([], 0, (trailL (l.drop (nextL l).2.1) (a + (nextL l).2.1)).2)) else
      if l.length < (nextL l).2.1 + k then ([], 0, 2) else
      if endE (l.drop ((nextL l).2.1 + k)) ≠ 0 then ([], 0, endE (l.drop ((nextL l).2.1 + k))) else
      decGo f (l.drop ((nextL l).2.1 + k + 2)) (b ++ (l.drop (nextL l).2.1).take k) (a + (nextL l).2.1 + k + 2)
def decL (l : List UInt8) : List UInt8 × Nat × Int := decGo (l.length + 1) l [] 0
def decV (r : List UInt8 × Nat × Int) : Value := .tuple #[.string ⟨r.1.toArray⟩, .int .i64 r.2.1, .int .i64 r.2.2]
/-- A lower-case hexadecimal digit. -/
def lowD (n : Nat) : UInt8 := if n < 10 then UInt8.ofNat (48 + n) else UInt8.ofNat (87 + n)
/-- The digits of a number. -/
def hexN (u : Nat) : List UInt8 := if _h : u < 16 then [lowD u] else hexN (u / 16) ++ [lowD (u % 16)]
def encGo : Nat → Nat → List UInt8 → List UInt8
  | 0, _, _ => [48, 13, 10, 13, 10]
  | f + 1, n, l => if l = [] then [48, 13, 10, 13, 10] else hexN (min n l.length) ++ 13 :: 10 :: (l.take (min n l.length) ++ 13 :: 10 :: encGo f n (l.drop (min n l.length)))
/-- A body in chunks. -/
def encL (l : List UInt8) (n : Int) : List UInt8 := encGo (l.length + 1) (if n < 1 then l.length else n.toNat) l

theorem lowD_val {n : Nat} (h : n < 16) : ((lowD n).toNat : Int) = if n < 10 then 48 + (n : Int) else 87 + (n : Int) := by
  unfold lowD
  split <;> (simp; omega)
theorem hexV_lowD {n : Nat} (h : n < 16) : hexV (lowD n) = n := by
  have hv := lowD_val h
  unfold hexV
  split at hv
  · rw [if_pos (by omega)]; omega
  · rw [if_neg (by omega), if_pos (by omega)]; omega
theorem hexN_one {u : Nat} (h : u < 16) : hexN u = [lowD u] := by rw [hexN, dif_pos h]
theorem hexN_more {u : Nat} (h : ¬ u < 16) : hexN u = hexN (u / 16) ++ [lowD (u % 16)] := by rw [hexN, dif_neg h]
theorem hexN_mem : ∀ (n u : Nat), u ≤ n → ∀ c ∈ hexN u, ∃ d, d < 16 ∧ c = lowD d
  | n, u, hn, c, hc => by
    by_cases h : u < 16
    · rw [hexN_one h] at hc; simp at hc; exact ⟨u, h, hc⟩
    · rw [hexN_more h] at hc
      cases n with
      | zero => omega
      | succ n =>
        rcases List.mem_append.1 hc with hc | hc
        · exact hexN_mem n (u / 16) (by omega) c hc
        · simp at hc; exact ⟨u % 16, by omega, hc⟩
theorem lowD_ne {d : Nat} (hd : d < 16) {c : UInt8} (hc : c.toNat < 48) : lowD d ≠ c := fun e => by
  have := lowD_val hd
  rw [e] at this
  split at this <;> omega
theorem lowD_no {d : Nat} (hd : d < 16) : lowD d ≠ 59 := fun e => by
  have := lowD_val hd
  have e2 : (59 : UInt8).toNat = 59 := rfl
  rw [e, e2] at this
  split at this <;> omega
theorem hexN_line (u : Nat) : ∀ c ∈ hexN u, lineC c = true := fun c hc => by
  obtain ⟨d, hd, rfl⟩ := hexN_mem _ u (Nat.le_refl _) c hc
  exact lineC_yes.2 ⟨lowD_ne hd (by decide), lowD_ne hd (by decide)⟩
theorem hexN_semi (u : Nat) : 59 ∉ hexN u := fun hc => by
  obtain ⟨d, hd, e⟩ := hexN_mem _ u (Nat.le_refl _) 59 hc
  exact lowD_no hd e.symm
theorem hexN_ne (u : Nat) : hexN u ≠ [] := by
  by_cases h : u < 16
  · rw [hexN_one h]; simp
  · rw [hexN_more h]; simp
theorem hexN_len : ∀ (k u : Nat), 0 < k → u < 16 ^ k → (hexN u).length ≤ k
  | 0, u, h, _ => by omega
  | k + 1, u, _, h => by
    by_cases hu : u < 16
    · rw [hexN_one hu]; simp
    · have hk : 0 < k := by
        rcases Nat.eq_zero_or_pos k with rfl | h'
        · simp at h; omega
        · exact h'
      have := hexN_len k (u / 16) hk (by rw [Nat.pow_succ] at h; omega)
      rw [hexN_more hu]; simp; omega
theorem hexGo_app : ∀ (a b : List UInt8) (n : Nat), hexGo (a ++ b) n = (hexGo a n).bind (hexGo b)
  | [], b, n => by rw [List.nil_append, hexGo]; rfl
  | c :: t, b, n => by
    rw [List.cons_append, hexGo, hexGo]
    split
    · rfl
    · exact hexGo_app t b _
theorem hexGo_dig {d : Nat} (h : d < 16) (n : Nat) : hexGo [lowD d] n = some (16 * n + d) := by
  rw [hexGo, hexV_lowD h, if_neg (by omega), hexGo]; simp
theorem hexGo_hexN : ∀ (n u : Nat), u ≤ n → hexGo (hexN u) 0 = some u
  | n, u, hn => by
    by_cases h : u < 16
    · rw [hexN_one h, hexGo_dig h]; simp
    · cases n with
      | zero => omega
      | succ n =>
        rw [hexN_more h, hexGo_app, hexGo_hexN n (u / 16) (by omega)]
        show hexGo [lowD (u % 16)] (u / 16) = some u
        rw [hexGo_dig (by omega)]
        congr 1; omega
theorem size_hex {u : Nat} (h : u < 4294967296) : sizeL (hexN u) = some u := by
  have hc := cutB_miss (hexN_semi u)
  have hl := hexN_len 8 u (by omega) (by have : (16 : Nat) ^ 8 = 4294967296 := by decide
                                         omega)
  have he : (hexN u).isEmpty = false := by cases hx : hexN u with | nil => exact absurd hx (hexN_ne u) | cons => rfl
  rw [sizeL_go (by rw [hc, he]; simp [textB]; exact hl), hc]
  exact hexGo_hexN _ u (Nat.le_refl _)
/-- One step of the reading. -/
theorem decGo_err {f : Nat} {l b : List UInt8} {a : Nat} (h : (nextL l).2.2 ≠ 0) : decGo (f + 1) l b a = ([], 0, (nextL l).2.2) := by rw [decGo, if_pos h]
theorem decGo_size {f : Nat} {l b x : List UInt8} {a u : Nat} (h : nextL l = (x, u, 0)) (hs : sizeL x = none) : decGo (f + 1) l b a = ([], 0, 1) := by rw [decGo, h, if_neg (by simp), hs]
theorem decGo_big {f : Nat} {l b x : List UInt8} {a u k : Nat} (h : nextL l = (x, u, 0)) (hs : sizeL x = some k) (hb : 100000 < b.length + k) : decGo (f + 1) l b a = ([], 0, 5) := by
  rw [decGo, h, if_neg (by simp), hs]; exact if_pos hb
theorem decGo_last {f : Nat} {l b x : List UInt8} {a u : Nat} (h : nextL l = (x, u, 0)) (hs : sizeL x = some 0) (hb : ¬ 100000 < b.length + 0) (ht : (trailL (l.drop u) (a + u)).2 = 0) : decGo (f + 1) l b a = (b, (trailL (l.drop u) (a + u)).1, 0) := by
  rw [decGo, h, if_neg (by simp), hs]
  show (if 100000 < b.length + 0 then _ else _) = _
  rw [if_neg hb, if_pos rfl]; exact if_pos ht
theorem decGo_trail {f : Nat} {l b x : List UInt8} {a u : Nat} (h : nextL l = (x, u, 0)) (hs : sizeL x = some 0) (hb : ¬ 100000 < b.length + 0) (ht : (trailL (l.drop u) (a + u)).2 ≠ 0) : decGo (f + 1) l b a = ([], 0, (trailL (l.drop u) (a + u)).2) := by
  rw [decGo, h, if_neg (by simp), hs]
  show (if 100000 < b.length + 0 then _ else _) = _
  rw [if_neg hb, if_pos rfl]; exact if_neg ht
theorem decGo_short {f : Nat} {l b x : List UInt8} {a u k : Nat} (h : nextL l = (x, u, 0)) (hs : sizeL x = some k) (hb : ¬ 100000 < b.length + k) (hk : k ≠ 0) (hl : l.length < u + k) : decGo (f + 1) l b a = ([], 0, 2) := by
  rw [decGo, h, if_neg (by simp), hs]
  show (if 100000 < b.length + k then _ else _) = _
  rw [if_neg hb, if_neg hk]; exact if_pos hl
theorem decGo_end {f : Nat} {l b x : List UInt8} {a u k : Nat} (h : nextL l = (x, u, 0)) (hs : sizeL x = some k) (hb : ¬ 100000 < b.length + k) (hk : k ≠ 0) (hl : ¬ l.length < u + k) (he : endE (l.drop (u + k)) ≠ 0) : decGo (f + 1) l b a = ([], 0, endE (l.drop (u + k))) := by
  rw [decGo, h, if_neg (by simp), hs]
  show (if 100000 < b.length + k then _ else _) = _
  rw [if_neg hb, if_neg hk]
  show (if l.length < u + k then _ else _) = _
  rw [if_neg hl]; exact if_pos he
theorem decGo_step {f : Nat} {l b x : List UInt8} {a u k : Nat} (h : nextL l = (x, u, 0)) (hs : sizeL x = some k) (hb : ¬ 100000 < b.length + k) (hk : k ≠ 0) (hl : ¬ l.length < u + k) (he : endE (l.drop (u + k)) = 0) :
    decGo (f + 1) l b a = decGo f (l.drop (u + k + 2)) (b ++ (l.drop u).take k) (a + u + k + 2) := by
  rw [decGo, h, if_neg (by simp), hs]
  show (if 100000 < b.length + k then _ else _) = _
  rw [if_neg hb, if_neg hk]
  show (if l.length < u + k then _ else _) = _
  rw [if_neg hl]
  show (if endE (l.drop (u + k)) ≠ 0 then _ else _) = _
  rw [if_neg (by rw [he]; simp)]
theorem trGo_err {f n : Nat} {l : List UInt8} {a : Nat} (h : (nextL l).2.2 ≠ 0) : trGo (f + 1) n l a = (0, (nextL l).2.2) := by rw [trGo, if_pos h]
theorem trGo_end {f n : Nat} {l : List UInt8} {a u : Nat} (h : nextL l = ([], u, 0)) : trGo (f + 1) n l a = (a + u, 0) := by rw [trGo, h, if_neg (by simp), if_pos rfl]
theorem trGo_many {f : Nat} {l x : List UInt8} {a u : Nat} (h : nextL l = (x, u, 0)) (hx : x ≠ []) : trGo (f + 1) 64 l a = (0, 4) := by
  rw [trGo, h, if_neg (by simp)]
  show (if x = [] then _ else _) = _
  rw [if_neg hx, if_pos rfl]
theorem trGo_bad {f n : Nat} {l x : List UInt8} {a u : Nat} (h : nextL l = (x, u, 0)) (hx : x ≠ []) (hn : n ≠ 64) (hf : (fieldL x).2 ≠ 0) : trGo (f + 1) n l a = (0, (fieldL x).2) := by
  rw [trGo, h, if_neg (by simp)]
  show (if x = [] then _ else _) = _
  rw [if_neg hx, if_neg hn]; exact if_pos hf
theorem trGo_step {f n : Nat} {l x : List UInt8} {a u : Nat} (h : nextL l = (x, u, 0)) (hx : x ≠ []) (hn : n ≠ 64) (hf : (fieldL x).2 = 0) : trGo (f + 1) n l a = trGo f (n + 1) (l.drop u) (a + u) := by
  rw [trGo, h, if_neg (by simp)]
  show (if x = [] then _ else _) = _
  rw [if_neg hx, if_neg hn]
  show (if (fieldL x).2 ≠ 0 then _ else _) = _
  rw [if_neg (by rw [hf]; simp)]
end Go.Proofs.YtfnmohaddkoalaaDoor
