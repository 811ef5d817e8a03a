/- Language tags and ranges in plain terms (layer 11). No program in sight. -/
import Derived.Test.YtjogahfllmhpcaaDoorAsciiP
import Derived.Test.YtjogahfllmhpcaaDoorCutP
import Derived.Lib.SplitLaws
namespace Go.Proofs.YtjogahfllmhpcaaDoor

/-- A list cut at every c. -/
def splitC (c : UInt8) : List UInt8 → List (List UInt8)
  | [] => [[]]
  | b :: t => if b = c then [] :: splitC c t else match splitC c t with | [] => [[b]] | x :: r => (b :: x) :: r
theorem splitC_ne (c : UInt8) : ∀ l : List UInt8, splitC c l ≠ []
  | [] => by simp [splitC]
  | b :: t => by
    rw [splitC]
    split
    · simp
    · split <;> simp
theorem splitC_other {c b : UInt8} (h : b ≠ c) {t x : List UInt8} {r : List (List UInt8)} (e : splitC c t = x :: r) : splitC c (b :: t) = (b :: x) :: r := by
  rw [splitC, if_neg h, e]
theorem splitC_hit {c : UInt8} : ∀ {a : List UInt8}, c ∉ a → ∀ b, splitC c (a ++ c :: b) = a :: splitC c b
  | [], _, b => by rw [List.nil_append, splitC, if_pos rfl]
  | x :: t, h, b => by
    simp only [List.mem_cons, not_or] at h
    rw [List.cons_append, splitC_other (fun e => h.1 e.symm) (splitC_hit h.2 b)]
theorem splitC_miss {c : UInt8} : ∀ {l : List UInt8}, c ∉ l → splitC c l = [l]
  | [], _ => rfl
  | x :: t, h => by
    simp only [List.mem_cons, not_or] at h
    rw [splitC_other (fun e => h.1 e.symm) (splitC_miss h.2)]
theorem splitC_cut (c : UInt8) (l : List UInt8) : (∃ a b, cutB c l = (a, b, true) ∧ splitC c l = a :: splitC c b ∧ b.length < l.length) ∨ (cutB c l = (l, [], false) ∧ splitC c l = [l]) := by
  rcases cutB_cases c l with ⟨a, b, h, h2, h3⟩ | ⟨h, h3⟩
  · exact .inl ⟨a, b, h, by rw [h2]; exact splitC_hit h3 b, by rw [h2]; simp; omega⟩
  · exact .inr ⟨h, splitC_miss h3⟩
theorem splitC_mem {c : UInt8} : ∀ {l x : List UInt8}, x ∈ splitC c l → c ∉ x
  | [], x, h => by
    rw [splitC, List.mem_singleton] at h; subst h; simp
  | b :: t, x, h => by
    by_cases hb : b = c
    · subst hb
      rw [splitC, if_pos rfl] at h
      rcases List.mem_cons.1 h with rfl | h
      · simp
      · exact splitC_mem h
    · cases hs : splitC c t with
      | nil => exact absurd hs (splitC_ne c t)
      | cons y r =>
        rw [splitC_other hb hs] at h
        rcases List.mem_cons.1 h with rfl | h
        · have := splitC_mem (l := t) (x := y) (by rw [hs]; simp)
          simp only [List.mem_cons, not_or]
          exact ⟨fun e => hb e.symm, this⟩
        · exact splitC_mem (l := t) (by rw [hs]; simp [h])
theorem splitC_len (c : UInt8) : ∀ l : List UInt8, (splitC c l).length ≤ l.length + 1
  | [] => by simp [splitC]
  | b :: t => by
    have := splitC_len c t
    rw [splitC]
    split
    · simp; omega
    · split
      · simp
      · rename_i x r e
        rw [e] at this; simp at this ⊢; omega
theorem splitC_mem_len {c : UInt8} : ∀ {l x : List UInt8}, x ∈ splitC c l → x.length ≤ l.length
  | [], x, h => by rw [splitC, List.mem_singleton] at h; subst h; simp
  | b :: t, x, h => by
    by_cases hb : b = c
    · subst hb
      rw [splitC, if_pos rfl] at h
      rcases List.mem_cons.1 h with rfl | h
      · simp
      · have := splitC_mem_len h; simp; omega
    · cases hs : splitC c t with
      | nil => exact absurd hs (splitC_ne c t)
      | cons y r =>
        rw [splitC_other hb hs] at h
        rcases List.mem_cons.1 h with rfl | h
        · have := splitC_mem_len (l := t) (x := y) (by rw [hs]; simp)
          simp; omega
        · have := splitC_mem_len (l := t) (x := x) (by rw [hs]; simp [h])
          simp; omega
/-- The shelf's own split at one byte. -/
theorem splitK_one (c : UInt8) : ∀ (n : Nat) (l : List UInt8), l.length ≤ n → Lib.splitK [c] 0 (Lib.count l [c]) l = splitC c l
  | 0, l, h => by
    have : l = [] := List.length_eq_zero_iff.1 (by omega)
    subst this
    rw [Lib.count_one]; rfl
  | n + 1, l, h => by
    rcases splitC_cut c l with ⟨a, b, hc, hs, hlt⟩ | ⟨hc, hs⟩
    · have hi := index_one c l
      rw [hc, if_pos rfl] at hi
      have hj := cut_one c l
      rw [hc] at hj
      have hl := Lib.count_hit (s := l) (sub := [c]) (by simp) hi
      have e : l = a ++ c :: b := by
        rcases cutB_cases c l with ⟨a', b', h', h2, _⟩ | ⟨h', _⟩
        · rw [hc] at h'; simp at h'; obtain ⟨rfl, rfl⟩ := h'; exact h2
        · rw [hc] at h'; simp at h'
      have ed : l.drop (a.length + [c].length) = b := by rw [e]; simp
      rw [hl, ed, Nat.add_comm 1, Lib.splitK, if_neg (by rw [hi]; simp), hi, hs]
      have et : l.take (((a.length : Int)).toNat + 0) = a := by rw [Int.toNat_natCast, e]; simp
      have ed2 : l.drop (((a.length : Int)).toNat + [c].length) = b := by rw [Int.toNat_natCast]; exact ed
      rw [et, ed2, splitK_one c n b (by omega)]
    · have hi := index_one c l
      rw [hc, if_neg (by simp)] at hi
      rw [Lib.count_miss hi, hs]; rfl
theorem splitB_one (c : UInt8) (s : ByteArray) : (Lib.splitB ⟨#[c]⟩ 0 (Lib.countB s ⟨#[c]⟩) s).map (fun x => x.data.toList) = splitC c (bs s) := by
  rw [Lib.splitB_data]
  exact splitK_one c _ _ (Nat.le_refl _)
theorem countB_one (c : UInt8) (s : ByteArray) : Lib.countB s ⟨#[c]⟩ + 1 = (splitC c (bs s)).length := by
  rw [← splitB_one, List.length_map, Lib.splitB_all ⟨#[c]⟩ (Nat.le_refl 1) 0 _ s rfl]
def alC (c : UInt8) : Bool := (decide (97 ≤ c.toNat) && decide (c.toNat ≤ 122)) || (decide (65 ≤ c.toNat) && decide (c.toNat ≤ 90))
def subC (d : Bool) (c : UInt8) : Bool := alC c || (d && digB c)
/-- A subtag: 1 to 8 letters, or letters and digits. -/
def subB (d : Bool) (x : List UInt8) : Bool := x.all (subC d) && (!x.isEmpty && decide (x.length ≤ 8))
/-- Subtags from the i-th on. -/
def tagsFrom : Nat → List (List UInt8) → Bool
  | _, [] => true
  | i, x :: r => subB (decide (0 < i)) x && tagsFrom (i + 1) r
def tagB (l : List UInt8) : Bool := tagsFrom 0 (splitC 45 l)
def rangeB (l : List UInt8) : Bool := l == [42] || tagB l
theorem alC_iff {c : UInt8} : alC c = true ↔ 97 ≤ c.toNat ∧ c.toNat ≤ 122 ∨ 65 ≤ c.toNat ∧ c.toNat ≤ 90 := by simp [alC]
theorem lowC_al (c : UInt8) : alC c = true ↔ 97 ≤ (lowC c).toNat ∧ (lowC c).toNat ≤ 122 := by
  rw [alC_iff]
  by_cases h : 65 ≤ c.toNat ∧ c.toNat ≤ 90
  · have := lowC_hit h; omega
  · rw [lowC_miss h]; omega
theorem lowC_dig (c : UInt8) : digB c = true ↔ 48 ≤ (lowC c).toNat ∧ (lowC c).toNat ≤ 57 := by
  by_cases h : 65 ≤ c.toNat ∧ c.toNat ≤ 90
  · have := lowC_hit h
    constructor
    · intro hd; have := of_digB hd; omega
    · intro hd; omega
  · rw [lowC_miss h]
    exact ⟨of_digB, digB_true⟩
end Go.Proofs.YtjogahfllmhpcaaDoor
