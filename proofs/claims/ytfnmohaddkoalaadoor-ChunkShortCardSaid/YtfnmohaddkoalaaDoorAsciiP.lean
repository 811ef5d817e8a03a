/- Bytes and texts in plain terms: tokens, texts, lower case, quoting. No program in sight. -/
import Derived.Test.YtfnmohaddkoalaaDoorStrP
namespace Go.Proofs.YtfnmohaddkoalaaDoor

/-- A byte of a token (1.1). -/
def partB (c : UInt8) : Bool :=
  ((c.toNat : Int) == 33) || (((c.toNat : Int) == 35) || (((c.toNat : Int) == 36) || (((c.toNat : Int) == 37) || (((c.toNat : Int) == 38) || (((c.toNat : Int) == 39) || (((c.toNat : Int) == 42) || (((c.toNat : Int) == 43) || (((c.toNat : Int) == 45) || (((c.toNat : Int) == 46) || (((c.toNat : Int) == 94) || (((c.toNat : Int) == 95) || (((c.toNat : Int) == 96) || (((c.toNat : Int) == 124) || (((c.toNat : Int) == 126) || (decide (48 ≤ (c.toNat : Int)) && decide ((c.toNat : Int) ≤ 57) || (decide (65 ≤ (c.toNat : Int)) && decide ((c.toNat : Int) ≤ 90) || decide (97 ≤ (c.toNat : Int)) && decide ((c.toNat : Int) ≤ 122)))))))))))))))))
theorem partB_iff {c : UInt8} : partB c = true ↔ (c.toNat : Int) = 33 ∨ (c.toNat : Int) = 35 ∨ (c.toNat : Int) = 36 ∨ (c.toNat : Int) = 37 ∨ (c.toNat : Int) = 38 ∨ (c.toNat : Int) = 39 ∨ (c.toNat : Int) = 42 ∨ (c.toNat : Int) = 43 ∨ (c.toNat : Int) = 45 ∨ (c.toNat : Int) = 46 ∨ (c.toNat : Int) = 94 ∨ (c.toNat : Int) = 95 ∨ (c.toNat : Int) = 96 ∨ (c.toNat : Int) = 124 ∨ (c.toNat : Int) = 126 ∨ (48 ≤ (c.toNat : Int) ∧ (c.toNat : Int) ≤ 57 ∨ 65 ≤ (c.toNat : Int) ∧ (c.toNat : Int) ≤ 90 ∨ 97 ≤ (c.toNat : Int) ∧ (c.toNat : Int) ≤ 122) := by
  simp only [partB, Bool.or_eq_true, Bool.and_eq_true, beq_iff_eq, decide_eq_true_eq]
theorem partB_true {c : UInt8} (h : (c.toNat : Int) = 33 ∨ (c.toNat : Int) = 35 ∨ (c.toNat : Int) = 36 ∨ (c.toNat : Int) = 37 ∨ (c.toNat : Int) = 38 ∨ (c.toNat : Int) = 39 ∨ (c.toNat : Int) = 42 ∨ (c.toNat : Int) = 43 ∨ (c.toNat : Int) = 45 ∨ (c.toNat : Int) = 46 ∨ (c.toNat : Int) = 94 ∨ (c.toNat : Int) = 95 ∨ (c.toNat : Int) = 96 ∨ (c.toNat : Int) = 124 ∨ (c.toNat : Int) = 126 ∨ (48 ≤ (c.toNat : Int) ∧ (c.toNat : Int) ≤ 57 ∨ 65 ≤ (c.toNat : Int) ∧ (c.toNat : Int) ≤ 90 ∨ 97 ≤ (c.toNat : Int) ∧ (c.toNat : Int) ≤ 122)) : true = partB c := (partB_iff.2 h).symm
theorem partB_false {c : UInt8} (h : ¬ ((c.toNat : Int) = 33 ∨ (c.toNat : Int) = 35 ∨ (c.toNat : Int) = 36 ∨ (c.toNat : Int) = 37 ∨ (c.toNat : Int) = 38 ∨ (c.toNat : Int) = 39 ∨ (c.toNat : Int) = 42 ∨ (c.toNat : Int) = 43 ∨ (c.toNat : Int) = 45 ∨ (c.toNat : Int) = 46 ∨ (c.toNat : Int) = 94 ∨ (c.toNat : Int) = 95 ∨ (c.toNat : Int) = 96 ∨ (c.toNat : Int) = 124 ∨ (c.toNat : Int) = 126 ∨ (48 ≤ (c.toNat : Int) ∧ (c.toNat : Int) ≤ 57 ∨ 65 ≤ (c.toNat : Int) ∧ (c.toNat : Int) ≤ 90 ∨ 97 ≤ (c.toNat : Int) ∧ (c.toNat : Int) ≤ 122))) : false = partB c := by
  cases e : partB c with
  | false => rfl
  | true => exact absurd (partB_iff.1 e) h
abbrev signs : ByteArray := ⟨#[33, 35, 36, 37, 38, 39, 42, 43, 45, 46, 94, 95, 96, 124, 126]⟩
theorem sign_hit {c : UInt8} : ∀ (k : Nat) (h : k < signs.size), ((signs[k].toNat : Int) == (c.toNat : Int)) = true → true = partB c := by
  intro k h e
  have e : (signs[k].toNat : Int) = c.toNat := by simpa using e
  refine partB_true ?_
  have h15 : k < 15 := h
  match k, h15 with
  | 0, _ =>
    have e' : ((33 : Nat) : Int) = (c.toNat : Int) := e
    omega
  | 1, _ =>
    have e' : ((35 : Nat) : Int) = (c.toNat : Int) := e
    omega
  | 2, _ =>
    have e' : ((36 : Nat) : Int) = (c.toNat : Int) := e
    omega
  | 3, _ =>
    have e' : ((37 : Nat) : Int) = (c.toNat : Int) := e
    omega
  | 4, _ =>
    have e' : ((38 : Nat) : Int) = (c.toNat : Int) := e
    omega
  | 5, _ =>
    have e' : ((39 : Nat) : Int) = (c.toNat : Int) := e
    omega
  | 6, _ =>
    have e' : ((42 : Nat) : Int) = (c.toNat : Int) := e
    omega
  | 7, _ =>
    have e' : ((43 : Nat) : Int) = (c.toNat : Int) := e
    omega
  | 8, _ =>
    have e' : ((45 : Nat) : Int) = (c.toNat : Int) := e
    omega
  | 9, _ =>
    have e' : ((46 : Nat) : Int) = (c.toNat : Int) := e
    omega
  | 10, _ =>
    have e' : ((94 : Nat) : Int) = (c.toNat : Int) := e
    omega
  | 11, _ =>
    have e' : ((95 : Nat) : Int) = (c.toNat : Int) := e
    omega
  | 12, _ =>
    have e' : ((96 : Nat) : Int) = (c.toNat : Int) := e
    omega
  | 13, _ =>
    have e' : ((124 : Nat) : Int) = (c.toNat : Int) := e
    omega
  | 14, _ =>
    have e' : ((126 : Nat) : Int) = (c.toNat : Int) := e
    omega
theorem sign_miss {c : UInt8} (h : ∀ (k : Nat) (h : k < signs.size), ((signs[k].toNat : Int) == (c.toNat : Int)) = false) (h1 : ¬ (97 ≤ c.toNat ∧ c.toNat ≤ 122 ∨ 65 ≤ c.toNat ∧ c.toNat ≤ 90 ∨ 48 ≤ c.toNat ∧ c.toNat ≤ 57)) : false = partB c := by
  refine partB_false ?_
  have e0 : ((33 : Nat) : Int) ≠ (c.toNat : Int) := beq_eq_false_iff_ne.1 (h 0 (by decide))
  have e1 : ((35 : Nat) : Int) ≠ (c.toNat : Int) := beq_eq_false_iff_ne.1 (h 1 (by decide))
  have e2 : ((36 : Nat) : Int) ≠ (c.toNat : Int) := beq_eq_false_iff_ne.1 (h 2 (by decide))
  have e3 : ((37 : Nat) : Int) ≠ (c.toNat : Int) := beq_eq_false_iff_ne.1 (h 3 (by decide))
  have e4 : ((38 : Nat) : Int) ≠ (c.toNat : Int) := beq_eq_false_iff_ne.1 (h 4 (by decide))
  have e5 : ((39 : Nat) : Int) ≠ (c.toNat : Int) := beq_eq_false_iff_ne.1 (h 5 (by decide))
  have e6 : ((42 : Nat) : Int) ≠ (c.toNat : Int) := beq_eq_false_iff_ne.1 (h 6 (by decide))
  have e7 : ((43 : Nat) : Int) ≠ (c.toNat : Int) := beq_eq_false_iff_ne.1 (h 7 (by decide))
  have e8 : ((45 : Nat) : Int) ≠ (c.toNat : Int) := beq_eq_false_iff_ne.1 (h 8 (by decide))
  have e9 : ((46 : Nat) : Int) ≠ (c.toNat : Int) := beq_eq_false_iff_ne.1 (h 9 (by decide))
  have e10 : ((94 : Nat) : Int) ≠ (c.toNat : Int) := beq_eq_false_iff_ne.1 (h 10 (by decide))
  have e11 : ((95 : Nat) : Int) ≠ (c.toNat : Int) := beq_eq_false_iff_ne.1 (h 11 (by decide))
  have e12 : ((96 : Nat) : Int) ≠ (c.toNat : Int) := beq_eq_false_iff_ne.1 (h 12 (by decide))
  have e13 : ((124 : Nat) : Int) ≠ (c.toNat : Int) := beq_eq_false_iff_ne.1 (h 13 (by decide))
  have e14 : ((126 : Nat) : Int) ≠ (c.toNat : Int) := beq_eq_false_iff_ne.1 (h 14 (by decide))
  omega
def tokenB (l : List UInt8) : Bool := l.all partB && !l.isEmpty
/-- A byte of a text (1.1). -/
def textC (c : UInt8) : Bool := !(decide (c.toNat < 32) && decide (c.toNat ≠ 9) || decide (c.toNat = 127))
theorem textC_iff {c : UInt8} : textC c = true ↔ ¬ (c.toNat < 32 ∧ c.toNat ≠ 9 ∨ c.toNat = 127) := by
  unfold textC; rw [← Bool.decide_and, ← Bool.decide_or, ← decide_not, decide_eq_true_eq]
theorem textC_true {c : UInt8} (h : ¬ (c.toNat < 32 ∧ c.toNat ≠ 9 ∨ c.toNat = 127)) : textC c = true := textC_iff.2 h
theorem textC_false {c : UInt8} (h : c.toNat < 32 ∧ c.toNat ≠ 9 ∨ c.toNat = 127) : textC c = false := by
  cases e : textC c with
  | false => rfl
  | true => exact absurd h (textC_iff.1 e)
def textB (l : List UInt8) : Bool := l.all textC
def lowC (c : UInt8) : UInt8 := if 65 ≤ c.toNat ∧ c.toNat ≤ 90 then c + 32 else c
def lowL (l : List UInt8) : List UInt8 := l.map lowC
def foldB (a b : List UInt8) : Bool := decide (a.length = b.length) && (lowL a == lowL b)
theorem lowL_length (l : List UInt8) : (lowL l).length = l.length := by simp [lowL]
theorem lowC_hit {c : UInt8} (h : 65 ≤ c.toNat ∧ c.toNat ≤ 90) : ((lowC c).toNat : Int) = (c.toNat : Int) + 32 := by
  unfold lowC; rw [if_pos h]
  have : (c + 32).toNat = (c.toNat + 32) % 256 := by rw [UInt8.toNat_add]; rfl
  rw [this]; omega
theorem lowC_miss {c : UInt8} (h : ¬ (65 ≤ c.toNat ∧ c.toNat ≤ 90)) : lowC c = c := by unfold lowC; rw [if_neg h]
/-- The bytes behind k steps of a walk that lowers in place. -/
def lowUpTo (l : List UInt8) (k : Nat) : List UInt8 := (l.take k).map lowC ++ l.drop k
theorem lowUpTo_length (l : List UInt8) (k : Nat) : (lowUpTo l k).length = l.length := by simp [lowUpTo]; omega
theorem lowUpTo_get (l : List UInt8) {k : Nat} (h : k < l.length) : (lowUpTo l k)[k]'(by rw [lowUpTo_length]; exact h) = l[k] := by
  unfold lowUpTo
  rw [List.getElem_append_right (by simp; omega)]
  simp [Nat.min_eq_left (Nat.le_of_lt h)]
theorem lowUpTo_step (l : List UInt8) {k : Nat} (h : k < l.length) : (lowUpTo l k).set k (lowC l[k]) = lowUpTo l (k + 1) := by
  unfold lowUpTo
  have hlen : ((l.take k).map lowC).length = k := by simp [Nat.min_eq_left (Nat.le_of_lt h)]
  rw [List.set_append_right k _ (by omega), hlen, Nat.sub_self, List.drop_eq_getElem_cons h, List.set_cons_zero, List.take_succ_eq_append_getElem h, List.map_append, List.append_assoc]; rfl
theorem lowUpTo_keep (l : List UInt8) {k : Nat} (h : k < l.length) (hc : lowC l[k] = l[k]) : lowUpTo l k = lowUpTo l (k + 1) := by
  rw [← lowUpTo_step l h, hc]
  have := lowUpTo_get l h
  rw [← this, List.set_getElem_self]
theorem lowUpTo_end (l : List UInt8) {k : Nat} (h : l.length ≤ k) : lowUpTo l k = lowL l := by
  unfold lowUpTo lowL; rw [List.take_of_length_le h, List.drop_of_length_le h, List.append_nil]
theorem lowUpTo_zero (l : List UInt8) : lowUpTo l 0 = l := by simp [lowUpTo]
theorem all_step (p : UInt8 → Bool) (s : ByteArray) {k : Nat} (h : k < s.size) : ((bs s).drop k).all p = (p s[k] && ((bs s).drop (k + 1)).all p) := by
  rw [drop_step s h, List.all_cons]
theorem all_end (p : UInt8 → Bool) (s : ByteArray) {k : Nat} (h : s.size ≤ k) : ((bs s).drop k).all p = true := by rw [drop_end s h]; rfl
/-- A quoted string without its first quote (1.4). -/
def escL (l : List UInt8) : List UInt8 := l.flatMap fun c => if c = 34 ∨ c = 92 then [92, c] else [c]
def quoteL (l : List UInt8) : List UInt8 := 34 :: escL l ++ [34]
theorem escL_length_le (l : List UInt8) : (escL l).length ≤ 2 * l.length := by
  induction l with
  | nil => simp [escL]
  | cons c t ih =>
    rw [show escL (c :: t) = (if c = 34 ∨ c = 92 then [92, c] else [c]) ++ escL t from rfl, List.length_append, List.length_cons]
    split <;> simp <;> omega
theorem escL_step (s : ByteArray) {k : Nat} (h : k < s.size) : escL ((bs s).take (k + 1)) = escL ((bs s).take k) ++ (if s[k] = 34 ∨ s[k] = 92 then [92, s[k]] else [s[k]]) := by
  rw [take_step s h]; simp [escL]
/-- What stands between the quotes, its escapes resolved (1.4). -/
def unq : List UInt8 → Option (List UInt8)
  | [] => some []
  | [c] => if c = 34 ∨ c = 92 then none else some [c]
  | c :: d :: u => if c = 34 then none else if c = 92 then (unq u).map (d :: ·) else (unq (d :: u)).map (c :: ·)
theorem unq_quote (t : List UInt8) : unq (34 :: t) = none := by
  cases t <;> simp [unq]
theorem unq_last : unq [92] = none := by simp [unq]
theorem unq_esc (d : UInt8) (u : List UInt8) : unq (92 :: d :: u) = (unq u).map (d :: ·) := by
  rw [unq, if_neg (by decide), if_pos rfl]
theorem unq_plain (c : UInt8) (t : List UInt8) (h1 : c ≠ 34) (h2 : c ≠ 92) : unq (c :: t) = (unq t).map (c :: ·) := by
  cases t with
  | nil => simp [unq, h1, h2]
  | cons d u => rw [unq, if_neg h1, if_neg h2]
def resU (l acc : List UInt8) : Option (List UInt8) := if textB l then (unq l).map (acc ++ ·) else none
theorem resU_nil (acc : List UInt8) : resU [] acc = some acc := by simp [resU, textB, unq]
theorem resU_quote (t acc : List UInt8) : resU (34 :: t) acc = none := by simp [resU, unq_quote]
theorem resU_last (acc : List UInt8) : resU [92] acc = none := by simp [resU, unq_last]
theorem resU_one (c : UInt8) (l acc l' : List UInt8) (o : Option (List UInt8)) (ht : textB l = (textC c && textB l')) (hu : unq l = o.map (c :: ·)) (ho : o = unq l') : resU l acc = if textC c then resU l' (acc ++ [c]) else none := by
  unfold resU
  rw [ht, hu, ho]
  cases hd : textC c with
  | false => rfl
  | true =>
    cases he : textB l' with
    | false => rfl
    | true =>
      simp only [Bool.true_and, if_true]
      cases unq l' <;> simp
theorem resU_esc (d : UInt8) (u acc : List UInt8) : resU (92 :: d :: u) acc = if textC d then resU u (acc ++ [d]) else none :=
  resU_one d _ acc u _ (by simp only [textB, List.all_cons, show textC 92 = true from by decide, Bool.true_and]) (unq_esc d u) rfl
theorem resU_plain (c : UInt8) (t acc : List UInt8) (h1 : c ≠ 34) (h2 : c ≠ 92) : resU (c :: t) acc = if textC c then resU t (acc ++ [c]) else none :=
  resU_one c _ acc t _ (by simp only [textB, List.all_cons]) (unq_plain c t h1 h2) rfl
/-- A quoted string's content, if it is one. -/
def unquoteL (l : List UInt8) : Option (List UInt8) :=
  if l.length < 2 ∨ l.getD 0 0 ≠ 34 ∨ l.getD (l.length - 1) 0 ≠ 34 then none else resU ((l.drop 1).take (l.length - 2)) []
def unqV : Option (List UInt8) → Value
  | some l => .tuple #[.string ⟨l.toArray⟩, .bool true]
  | none => .tuple #[.string ⟨#[]⟩, .bool false]
theorem unquoteL_bad {s : ByteArray} (h : s.size < 2 ∨ (∃ h0 : 0 < s.size, s[0] ≠ 34) ∨ ∃ h0 : s.size - 1 < s.size, s[s.size - 1] ≠ 34) : unquoteL (bs s) = none := by
  unfold unquoteL
  rw [if_pos]
  rw [bs_length]
  rcases h with h | ⟨h0, h⟩ | ⟨h0, h⟩
  · exact .inl h
  · refine .inr (.inl ?_)
    rw [List.getD_eq_getElem?_getD, List.getElem?_eq_getElem (by rw [bs_length]; exact h0)]; exact h
  · refine .inr (.inr ?_)
    rw [List.getD_eq_getElem?_getD, List.getElem?_eq_getElem (by rw [bs_length]; exact h0)]; exact h
theorem unquoteL_ok {s : ByteArray} (h2 : ¬ s.size < 2) (h0 : s[0] = 34) (h1 : s[s.size - 1] = 34) : unquoteL (bs s) = resU (bs (s.extract 1 (s.size - 1))) [] := by
  unfold unquoteL
  rw [if_neg, bs_length]
  · have : bs (s.extract 1 (s.size - 1)) = (bs s |>.drop 1).take (s.size - 1 - 1) := Lib.extract_data s 1 (s.size - 1)
    rw [this, show s.size - 1 - 1 = s.size - 2 from by omega]
  · rw [bs_length]
    rintro (h | h | h)
    · exact h2 h
    · apply h; rw [List.getD_eq_getElem?_getD, List.getElem?_eq_getElem (by rw [bs_length]; omega)]; exact h0
    · apply h; rw [List.getD_eq_getElem?_getD, List.getElem?_eq_getElem (by rw [bs_length]; omega)]; exact h1
/-- One step over the bytes of t from k on. -/
theorem resU_at (t : ByteArray) {k : Nat} (acc : List UInt8) (h : k < t.size) :
    (t[k] = 34 → resU ((bs t).drop k) acc = none) ∧
    (t[k] = 92 → t.size ≤ k + 1 → resU ((bs t).drop k) acc = none) ∧
    (t[k] = 92 → ∀ h1 : k + 1 < t.size, resU ((bs t).drop k) acc = if textC t[k + 1] then resU ((bs t).drop (k + 2)) (acc ++ [t[k + 1]]) else none) ∧
    (t[k] ≠ 34 → t[k] ≠ 92 → resU ((bs t).drop k) acc = if textC t[k] then resU ((bs t).drop (k + 1)) (acc ++ [t[k]]) else none) := by
  rw [drop_step t h]
  refine ⟨fun e => by rw [e]; exact resU_quote _ _, fun e h1 => by rw [e, drop_end t h1]; exact resU_last _, fun e h1 => by rw [e, drop_step t h1]; exact resU_esc _ _ _, fun e1 e2 => resU_plain _ _ _ e1 e2⟩
theorem resU_end (t : ByteArray) {k : Nat} (acc : List UInt8) (h : t.size ≤ k) : resU ((bs t).drop k) acc = some acc := by rw [drop_end t h]; exact resU_nil acc
theorem textB_false_res {l acc : List UInt8} (h : textB l = false) : resU l acc = none := by simp [resU, h]
theorem textB_at {t : ByteArray} {k : Nat} (h : textB (bs t) = true) (hk : k < t.size) : textC t[k] = true := by
  have : t[k] ∈ bs t := by
    rw [List.mem_iff_getElem]; exact ⟨k, by rw [bs_length]; exact hk, rfl⟩
  exact List.all_eq_true.1 h _ this
end Go.Proofs.YtfnmohaddkoalaaDoor
