/- Targets and URIs in plain terms (layer 4). No program in sight. -/
import Derived.Test.YtjogahfllmhpcaaDoorLangP
import Derived.Test.YtjogahfllmhpcaaDoorAsciiQ
import Derived.Test.YtjogahfllmhpcaaDoorHexP
namespace Go.Proofs.YtjogahfllmhpcaaDoor

def alnC (c : UInt8) : Bool := alC c || digB c
theorem alnC_iff {c : UInt8} : alnC c = true ↔ 48 ≤ c.toNat ∧ c.toNat ≤ 57 ∨ 65 ≤ c.toNat ∧ c.toNat ≤ 90 ∨ 97 ≤ c.toNat ∧ c.toNat ≤ 122 := by
  unfold alnC; rw [Bool.or_eq_true, alC_iff]
  constructor
  · rintro ((h | h) | h)
    · omega
    · omega
    · have := of_digB h; omega
  · rintro (h | h | h)
    · exact .inr (digB_true h)
    · exact .inl (.inr h)
    · exact .inl (.inl h)
theorem u8_of_nat {c d : UInt8} (h : c.toNat = d.toNat) : c = d := UInt8.toNat_inj.1 h
/-- A byte of a host. -/
def hostC (c : UInt8) : Bool := alnC c || (c == 45 || c == 46)
theorem hostC_iff {c : UInt8} : hostC c = true ↔ alnC c = true ∨ c.toNat = 45 ∨ c.toNat = 46 := by
  unfold hostC; rw [Bool.or_eq_true, Bool.or_eq_true, beq_iff_eq, beq_iff_eq]
  constructor
  · rintro (h | rfl | rfl)
    · exact .inl h
    · exact .inr (.inl rfl)
    · exact .inr (.inr rfl)
  · rintro (h | h | h)
    · exact .inl h
    · exact .inr (.inl (u8_of_nat h))
    · exact .inr (.inr (u8_of_nat h))
theorem hostC_low (c : UInt8) (h : hostC c = true) : hostC (lowC c) = true := by
  by_cases hc : 65 ≤ c.toNat ∧ c.toNat ≤ 90
  · have := lowC_hit hc
    rw [hostC_iff, alnC_iff]; omega
  · rw [lowC_miss hc]; exact h
/-- A port: 80 if there is none. -/
def portN (d : List UInt8) : Option Int :=
  if d = [] then some 80 else match numGo d 0 with | some n => if d.length ≤ 5 ∧ 1 ≤ n ∧ n ≤ 65535 then some n else none | none => none
theorem portN_nil : portN [] = some 80 := rfl
theorem portN_bad {d : List UInt8} (h : d ≠ []) (hn : numGo d 0 = none) : portN d = none := by unfold portN; rw [if_neg h, hn]
theorem portN_out {d : List UInt8} {n : Int} (h : d ≠ []) (hn : numGo d 0 = some n) (ho : ¬ (d.length ≤ 5 ∧ 1 ≤ n ∧ n ≤ 65535)) : portN d = none := by unfold portN; rw [if_neg h, hn]; exact if_neg ho
theorem portN_in {d : List UInt8} {n : Int} (h : d ≠ []) (hn : numGo d 0 = some n) (ho : d.length ≤ 5 ∧ 1 ≤ n ∧ n ≤ 65535) : portN d = some n := by unfold portN; rw [if_neg h, hn]; exact if_pos ho
/-- Host and port of an authority. -/
def authL (l : List UInt8) : Option (List UInt8 × Int) :=
  if (cutB 58 l).1.all hostC && !(cutB 58 l).1.isEmpty then (portN (cutB 58 l).2.1).map fun n => (lowL (cutB 58 l).1, n) else none
def authV : Option (List UInt8 × Int) → Value
  | some (h, n) => .tuple #[.string ⟨h.toArray⟩, .int .i64 n, .bool true]
  | none => .tuple #[.string ⟨([] : List UInt8).toArray⟩, .int .i64 0, .bool false]
theorem authL_host {l : List UInt8} (h : ((cutB 58 l).1.all hostC && !(cutB 58 l).1.isEmpty) = false) : authL l = none := by unfold authL; rw [h]; rfl
theorem authL_port {l : List UInt8} (h : portN (cutB 58 l).2.1 = none) : authL l = none := by unfold authL; rw [h]; split <;> rfl
theorem authL_ok {l : List UInt8} {n : Int} (h : ((cutB 58 l).1.all hostC && !(cutB 58 l).1.isEmpty) = true) (hp : portN (cutB 58 l).2.1 = some n) : authL l = some (lowL (cutB 58 l).1, n) := by
  unfold authL; rw [h, hp]; rfl
/-- What a triplet may be written as itself. -/
def plainC (x : UInt8) : Bool := alnC x || (x == 45 || (x == 46 || (x == 95 || x == 126)))
theorem plainC_iff {c : UInt8} : plainC c = true ↔ alnC c = true ∨ c.toNat = 45 ∨ c.toNat = 46 ∨ c.toNat = 95 ∨ c.toNat = 126 := by
  unfold plainC; simp only [Bool.or_eq_true, beq_iff_eq]
  constructor
  · rintro (h | rfl | rfl | rfl | rfl)
    · exact .inl h
    · exact .inr (.inl rfl)
    · exact .inr (.inr (.inl rfl))
    · exact .inr (.inr (.inr (.inl rfl)))
    · exact .inr (.inr (.inr (.inr rfl)))
  · rintro (h | h | h | h | h)
    · exact .inl h
    · exact .inr (.inl (u8_of_nat h))
    · exact .inr (.inr (.inl (u8_of_nat h)))
    · exact .inr (.inr (.inr (.inl (u8_of_nat h))))
    · exact .inr (.inr (.inr (.inr (u8_of_nat h))))
/-- An upper-case hexadecimal digit. -/
def hexD (n : Nat) : UInt8 := if n < 10 then UInt8.ofNat (48 + n) else UInt8.ofNat (55 + n)
theorem hexD_val {n : Nat} (h : n < 16) : ((hexD n).toNat : Int) = if n < 10 then 48 + (n : Int) else 55 + (n : Int) := by
  unfold hexD
  split <;> (simp; omega)
theorem hexV_hexD {n : Nat} (h : n < 16) : hexV (hexD n) = n := by
  have hv := hexD_val h
  unfold hexV
  split at hv
  · rw [if_pos (by omega)]; omega
  · rw [if_neg (by omega), if_neg (by omega), if_pos (by omega)]; omega
/-- The byte of a triplet. -/
def tripC (h l : Int) : UInt8 := UInt8.ofNat (16 * h + l).toNat
def tripL (h l : Int) : List UInt8 := if plainC (tripC h l) then [tripC h l] else [37, hexD h.toNat, hexD l.toNat]
theorem tripL_len (h l : Int) : (tripL h l).length ≤ 3 := by unfold tripL; split <;> simp
theorem tripL_yes {h l : Int} (e : plainC (tripC h l) = true) : tripL h l = [tripC h l] := by unfold tripL; rw [if_pos e]
theorem tripL_no {h l : Int} (e : plainC (tripC h l) = false) : tripL h l = [37, hexD h.toNat, hexD l.toNat] := by unfold tripL; rw [if_neg (by rw [e]; simp)]
/-- A byte that a path or query must not contain. -/
def badC (c : UInt8) : Bool := decide (c.toNat < 33) || (decide (126 < c.toNat) || decide (c.toNat = 35))
theorem badC_iff {c : UInt8} : badC c = true ↔ c.toNat < 33 ∨ 126 < c.toNat ∨ c.toNat = 35 := by unfold badC; simp
theorem badC_false {c : UInt8} : badC c = false ↔ ¬ (c.toNat < 33 ∨ 126 < c.toNat ∨ c.toNat = 35) := by
  rw [← badC_iff]; simp
/-- A normalized path or query, if there is one. -/
def normL : List UInt8 → Option (List UInt8)
  | [] => some []
  | c :: t => if badC c then none else if c ≠ 37 then (normL t).map (c :: ·) else
    match t with
    | h :: l :: u => if hexV h < 0 ∨ hexV l < 0 then none else (normL u).map (tripL (hexV h) (hexV l) ++ ·)
    | _ => none
theorem normL_nil : normL [] = some [] := rfl
theorem normL_bad {c : UInt8} (t : List UInt8) (h : badC c = true) : normL (c :: t) = none := by rw [normL.eq_def]; simp [h]
theorem normL_plain {c : UInt8} (t : List UInt8) (h : badC c = false) (hc : c ≠ 37) : normL (c :: t) = (normL t).map (c :: ·) := by rw [normL.eq_def]; simp [h, hc]
theorem bad37 : badC 37 = false := by decide
theorem normL_short0 : normL [37] = none := by rw [normL.eq_def]; simp [bad37]
theorem normL_short1 (a : UInt8) : normL [37, a] = none := by rw [normL.eq_def]; simp [bad37]
theorem normL_trip (h l : UInt8) (u : List UInt8) : normL (37 :: h :: l :: u) = if hexV h < 0 ∨ hexV l < 0 then none else (normL u).map (tripL (hexV h) (hexV l) ++ ·) := by
  rw [normL.eq_def]; simp [bad37]
theorem normL_short {t : List UInt8} (h : t.length < 2) : normL (37 :: t) = none := by
  match t, h with
  | [], _ => exact normL_short0
  | [a], _ => exact normL_short1 a
/-- The cases of a list that is normalized. -/
theorem normL_cases (l : List UInt8) : l = [] ∨ (∃ c t, l = c :: t ∧ badC c = true) ∨ (∃ c t, l = c :: t ∧ badC c = false ∧ c ≠ 37) ∨ (∃ t, l = 37 :: t ∧ t.length < 2) ∨ ∃ h m u, l = 37 :: h :: m :: u := by
  match l with
  | [] => exact .inl rfl
  | c :: t =>
    right
    cases hb : badC c with
    | true => exact .inl ⟨c, t, rfl, hb⟩
    | false =>
      right
      by_cases hc : c = 37
      · subst hc
        right
        match t with
        | [] => exact .inl ⟨[], rfl, by simp⟩
        | [a] => exact .inl ⟨[a], rfl, by simp⟩
        | h :: m :: u => exact .inr ⟨h, m, u, rfl⟩
      · exact .inl ⟨c, t, rfl, hb, hc⟩
def normV : Option (List UInt8) → Value
  | some l => .tuple #[.string ⟨l.toArray⟩, .bool true]
  | none => .tuple #[.string ⟨([] : List UInt8).toArray⟩, .bool false]
/-- Dot segments removed from pieces. -/
def segGo : List (List UInt8) → List (List UInt8) → List (List UInt8)
  | out, [] => out
  | out, x :: r =>
    if r = [] then (if x = [46, 46] then out.dropLast ++ [[]] else if x = [46] then out ++ [[]] else out ++ [x])
    else (if x = [46, 46] then segGo out.dropLast r else if x = [46] then segGo out r else segGo (out ++ [x]) r)
def joinS (l : List (List UInt8)) : List UInt8 := l.flatMap fun x => 47 :: x
def segsL : List UInt8 → List UInt8
  | [] => []
  | c :: t => if c = 47 then joinS (segGo [] (splitC 47 t)) else c :: t
structure Uri where
  host : List UInt8
  port : Int
  path : List UInt8
  query : List UInt8
  has : Bool
  deriving DecidableEq
def uriV (u : Uri) : Value := .agg #[.string ⟨u.host.toArray⟩, .int .i64 u.port, .string ⟨u.path.toArray⟩, .string ⟨u.query.toArray⟩, .bool u.has]
def uri0 : Uri := ⟨[], 0, [], [], false⟩
def schemeL : List UInt8 := [104, 116, 116, 112, 58, 47, 47]
def absB (l : List UInt8) : Bool := decide (7 ≤ l.length) && foldB (l.take 7) schemeL
/-- No byte that ends an authority. -/
def stopC (c : UInt8) : Bool := c != 47 && c != 63
def auth1 (l : List UInt8) : List UInt8 := l.takeWhile stopC
def rest1 (l : List UInt8) : List UInt8 := l.dropWhile stopC
def rootL (p : List UInt8) : List UInt8 := if p = [] then [47] else p
/-- A URI out of an authority and the rest: the URI and the error. -/
def parse2 (h rest : List UInt8) : Uri × Int :=
  match normL (cutB 63 rest).1, normL (cutB 63 rest).2.1 with
  | some p, some q => (match authL h with | some (n, k) => (⟨n, k, segsL (rootL p), q, (cutB 63 rest).2.2⟩, 0) | none => (uri0, 6))
  | _, _ => (uri0, 9)
def parseU (t h : List UInt8) : Uri × Int :=
  if absB t then parse2 (auth1 (t.drop 7)) (rest1 (t.drop 7)) else if t.head? = some 47 then parse2 h t else (uri0, 9)
def siteL (h : List UInt8) (n : Int) : List UInt8 := if n = 80 then h else h ++ 58 :: Lib.itoa n
def localL (u : Uri) : List UInt8 := if u.has then u.path ++ 63 :: u.query else u.path
def keyL (u : Uri) : List UInt8 := schemeL ++ siteL u.host u.port ++ localL u
def resolveU (u : Uri) (s : List UInt8) : Uri × Bool :=
  if absB s || (s.head? == some 47 && !(s.drop 1).head? == some 47) then ((parseU s (siteL u.host u.port)).1, (parseU s (siteL u.host u.port)).2 == 0) else (uri0, false)

theorem normL_idem : ∀ (n : Nat) (l a : List UInt8), l.length ≤ n → normL l = some a → normL a = some a
  | 0, l, a, hl, h => by
    have : l = [] := List.length_eq_zero_iff.1 (by omega)
    subst this; rw [normL_nil] at h; cases h; rfl
  | n + 1, l, a, hl, h => by
    rcases normL_cases l with rfl | ⟨c, t, rfl, hb⟩ | ⟨c, t, rfl, hb, hc⟩ | ⟨t, rfl, ht⟩ | ⟨x, y, u, rfl⟩
    · rw [normL_nil] at h; cases h; rfl
    · rw [normL_bad t hb] at h; cases h
    · rw [normL_plain t hb hc] at h
      cases hn : normL t with
      | none => rw [hn] at h; cases h
      | some b =>
        rw [hn] at h; simp at h; subst h
        rw [normL_plain b hb hc, normL_idem n t b (by simp at hl; omega) hn]; rfl
    · rw [normL_short ht] at h; cases h
    · rw [normL_trip] at h
      split at h
      · cases h
      · rename_i hx
        cases hn : normL u with
        | none => rw [hn] at h; cases h
        | some b =>
          rw [hn] at h; simp at h; subst h
          have ih := normL_idem n u b (by simp at hl; omega) hn
          have hx1 := hexV_bd x
          have hy1 := hexV_bd y
          cases hp : plainC (tripC (hexV x) (hexV y)) with
          | true =>
            rw [tripL_yes hp]
            have h1 := plainC_iff.1 hp
            rw [alnC_iff] at h1
            have h2 : badC (tripC (hexV x) (hexV y)) = false := badC_false.2 (by omega)
            have h3 : tripC (hexV x) (hexV y) ≠ 37 := fun e => by
              rw [e] at h1; have : (37 : UInt8).toNat = 37 := rfl; omega
            rw [List.singleton_append, normL_plain b h2 h3, ih]; rfl
          | false =>
            rw [tripL_no hp]
            obtain ⟨i, hi⟩ : ∃ i : Nat, hexV x = i := ⟨(hexV x).toNat, by omega⟩
            obtain ⟨j, hj⟩ : ∃ j : Nat, hexV y = j := ⟨(hexV y).toNat, by omega⟩
            rw [hi, hj] at hp ⊢
            show normL (37 :: hexD i :: hexD j :: b) = _
            rw [normL_trip, hexV_hexD (by omega), hexV_hexD (by omega), if_neg (by omega), ih, tripL_no hp]; rfl
theorem norm_idem {l a : List UInt8} (h : normL l = some a) : normL a = some a := normL_idem _ l a (Nat.le_refl _) h
/-- Normalizing piece by piece. -/
theorem normL_slash : ∀ (n : Nat) (a b : List UInt8), a.length ≤ n → normL (a ++ 47 :: b) = (normL a).bind fun x => (normL b).map fun y => x ++ 47 :: y
  | n, a, b, hl => by
    have h47 : normL (47 :: b) = (normL b).map (47 :: ·) := normL_plain b (by decide) (by decide)
    have hv : hexV 47 = -1 := by decide
    rcases normL_cases a with rfl | ⟨c, t, rfl, hb⟩ | ⟨c, t, rfl, hb, hc⟩ | ⟨t, rfl, ht⟩ | ⟨x, y, u, rfl⟩
    · rw [List.nil_append, normL_nil, h47]; simp
    · rw [List.cons_append, normL_bad _ hb, normL_bad _ hb]; rfl
    · cases n with
      | zero => simp at hl
      | succ n =>
        rw [List.cons_append, normL_plain _ hb hc, normL_plain _ hb hc, normL_slash n t b (by simp at hl; omega)]
        cases normL t with
        | none => rfl
        | some x => cases normL b <;> rfl
    · rw [normL_short ht]
      match t, ht with
      | [], _ =>
        show normL (37 :: 47 :: b) = _
        cases b with
        | nil => exact normL_short1 47
        | cons y u => rw [normL_trip, hv, if_pos (.inl (by omega))]; rfl
      | [x], _ =>
        show normL (37 :: x :: 47 :: b) = _
        rw [normL_trip, hv, if_pos (.inr (by omega))]; rfl
    · cases n with
      | zero => simp at hl
      | succ n =>
        show normL (37 :: x :: y :: (u ++ 47 :: b)) = _
        rw [normL_trip, normL_trip, normL_slash n u b (by simp at hl; omega)]
        split
        · rfl
        · cases normL u with
          | none => rfl
          | some z => cases normL b <;> simp
theorem norm_slash (a b : List UInt8) : normL (a ++ 47 :: b) = (normL a).bind fun x => (normL b).map fun y => x ++ 47 :: y := normL_slash _ a b (Nat.le_refl _)
theorem splitC_app (c : UInt8) (a b : List UInt8) : splitC c (a ++ c :: b) = splitC c a ++ splitC c b := by
  induction a with
  | nil => rw [List.nil_append, show splitC c (c :: b) = [] :: splitC c b from by rw [splitC, if_pos rfl]]; rfl
  | cons x t ih =>
    by_cases hx : x = c
    · subst hx
      rw [List.cons_append, splitC, if_pos rfl, ih, splitC, if_pos rfl]; rfl
    · cases hs : splitC c t with
      | nil => exact absurd hs (splitC_ne c t)
      | cons y r =>
        rw [hs] at ih
        rw [List.cons_append, splitC_other hx ih, splitC_other hx hs]; rfl
theorem joinS_cons (x : List UInt8) (r : List (List UInt8)) : joinS (x :: r) = 47 :: (x ++ joinS r) := rfl
theorem joinS_snoc (r : List (List UInt8)) (x : List UInt8) : joinS (r ++ [x]) = joinS r ++ 47 :: x := by simp [joinS]
/-- What is joined comes apart again. -/
theorem split_join : ∀ (r : List (List UInt8)) (x : List UInt8), 47 ∉ x → (∀ y ∈ r, 47 ∉ y) → splitC 47 (x ++ joinS r) = x :: r
  | [], x, hx, _ => by rw [show joinS [] = [] from rfl, List.append_nil]; exact splitC_miss hx
  | y :: r, x, hx, h => by
    rw [joinS_cons, splitC_hit hx, split_join r y (h y (by simp)) fun z hz => h z (by simp [hz])]
theorem segGo_one (out : List (List UInt8)) (x : List UInt8) : segGo out [x] = if x = [46, 46] then out.dropLast ++ [[]] else if x = [46] then out ++ [[]] else out ++ [x] := by rw [segGo]; simp
theorem segGo_more (out : List (List UInt8)) (x : List UInt8) {r : List (List UInt8)} (h : r ≠ []) : segGo out (x :: r) = if x = [46, 46] then segGo out.dropLast r else if x = [46] then segGo out r else segGo (out ++ [x]) r := by
  rw [segGo, if_neg h]
theorem segGo_ne : ∀ (ps out : List (List UInt8)), ps ≠ [] → segGo out ps ≠ []
  | [], _, h => absurd rfl h
  | [x], out, _ => by rw [segGo_one]; split <;> (try split) <;> simp
  | x :: y :: r, out, _ => by
    rw [segGo_more out x (by simp)]
    split
    · exact segGo_ne _ _ (by simp)
    · split
      · exact segGo_ne _ _ (by simp)
      · exact segGo_ne _ _ (by simp)
/-- Every piece that stays has a property that the pieces have. -/
theorem segGo_all (p : List UInt8 → Prop) (h0 : p []) : ∀ (ps out : List (List UInt8)), (∀ x ∈ out, p x) → (∀ x ∈ ps, x ≠ [46] → x ≠ [46, 46] → p x) → ∀ x ∈ segGo out ps, p x
  | [], out, ho, _, x, hx => ho x hx
  | [y], out, ho, hp, x, hx => by
    rw [segGo_one] at hx
    split at hx
    · rcases List.mem_append.1 hx with h | h
      · exact ho x (List.dropLast_subset _ h)
      · simp at h; subst h; exact h0
    · split at hx
      · rcases List.mem_append.1 hx with h | h
        · exact ho x h
        · simp at h; subst h; exact h0
      · rename_i h1 h2
        rcases List.mem_append.1 hx with h | h
        · exact ho x h
        · simp at h; subst h; exact hp x (by simp) h2 h1
  | y :: z :: r, out, ho, hp, x, hx => by
    rw [segGo_more out y (by simp)] at hx
    split at hx
    · exact segGo_all p h0 (z :: r) _ (fun u hu => ho u (List.dropLast_subset _ hu)) (fun u hu => hp u (by simp at hu ⊢; exact .inr hu)) x hx
    · split at hx
      · exact segGo_all p h0 (z :: r) _ ho (fun u hu => hp u (by simp at hu ⊢; exact .inr hu)) x hx
      · rename_i h1 h2
        refine segGo_all p h0 (z :: r) _ (fun u hu => ?_) (fun u hu => hp u (by simp at hu ⊢; exact .inr hu)) x hx
        rcases List.mem_append.1 hu with h | h
        · exact ho u h
        · simp at h; subst h; exact hp u (by simp) h2 h1
def dotB (x : List UInt8) : Bool := x == [46] || x == [46, 46]
theorem dotB_no {x : List UInt8} : dotB x = false ↔ x ≠ [46] ∧ x ≠ [46, 46] := by unfold dotB; simp
theorem segGo_dots (ps : List (List UInt8)) : ∀ x ∈ segGo [] ps, dotB x = false :=
  segGo_all (fun x => dotB x = false) (by decide) ps [] (by simp) fun x _ h1 h2 => dotB_no.2 ⟨h1, h2⟩
theorem segGo_clean : ∀ (ps out : List (List UInt8)), (∀ x ∈ ps, dotB x = false) → segGo out ps = out ++ ps
  | [], out, _ => by simp [segGo]
  | [x], out, h => by
    have := dotB_no.1 (h x (by simp))
    rw [segGo_one, if_neg this.2, if_neg this.1]
  | x :: y :: r, out, h => by
    have := dotB_no.1 (h x (by simp))
    rw [segGo_more out x (by simp), if_neg this.2, if_neg this.1, segGo_clean (y :: r) _ fun z hz => h z (by simp at hz ⊢; exact .inr hz)]
    simp
theorem segGo_slash (t : List UInt8) : ∀ x ∈ segGo [] (splitC 47 t), 47 ∉ x :=
  segGo_all (fun x => 47 ∉ x) (by simp) _ [] (by simp) fun x hx _ _ => splitC_mem hx
theorem segsL_slash (t : List UInt8) : segsL (47 :: t) = joinS (segGo [] (splitC 47 t)) := by rw [segsL, if_pos rfl]
theorem segsL_other {c : UInt8} (t : List UInt8) (h : c ≠ 47) : segsL (c :: t) = c :: t := by rw [segsL, if_neg h]
/-- The pieces of a path without dot segments. -/
theorem segs_pieces (t : List UInt8) : ∃ x r, segGo [] (splitC 47 t) = x :: r ∧ segsL (47 :: t) = 47 :: (x ++ joinS r) ∧ splitC 47 (x ++ joinS r) = x :: r ∧ (∀ y ∈ x :: r, dotB y = false) ∧ ∀ y ∈ x :: r, 47 ∉ y := by
  have hd := segGo_dots (splitC 47 t)
  have hs := segGo_slash t
  cases hg : segGo [] (splitC 47 t) with
  | nil => exact absurd hg (segGo_ne _ _ (splitC_ne 47 t))
  | cons x r =>
    rw [hg] at hd hs
    exact ⟨x, r, rfl, by rw [segsL_slash, hg, joinS_cons], split_join r x (hs x (by simp)) fun y hy => hs y (by simp [hy]), hd, hs⟩
theorem segs_idem (l : List UInt8) : segsL (segsL l) = segsL l := by
  cases l with
  | nil => rfl
  | cons c t =>
    by_cases h : c = 47
    · subst h
      obtain ⟨x, r, _, h2, h3, h4, _⟩ := segs_pieces t
      rw [h2, segsL_slash, h3, segGo_clean _ _ h4, List.nil_append, joinS_cons]
    · rw [segsL_other t h, segsL_other t h]
/-- A normalized path stays normalized without its dot segments. -/
theorem norm_join : ∀ (r : List (List UInt8)) (x : List UInt8), (∀ y ∈ x :: r, normL y = some y) → normL (x ++ joinS r) = some (x ++ joinS r)
  | [], x, h => by rw [show joinS [] = [] from rfl, List.append_nil]; exact h x (by simp)
  | y :: r, x, h => by
    rw [joinS_cons, norm_slash, h x (by simp), norm_join r y fun z hz => h z (by simp at hz ⊢; exact .inr hz)]; rfl
theorem norm_len : ∀ (n : Nat) (l a : List UInt8), l.length ≤ n → normL l = some a → a.length ≤ l.length
  | n, l, a, hl, h => by
    rcases normL_cases l with rfl | ⟨c, t, rfl, hb⟩ | ⟨c, t, rfl, hb, hc⟩ | ⟨t, rfl, ht⟩ | ⟨x, y, u, rfl⟩
    · rw [normL_nil] at h; cases h; simp
    · rw [normL_bad t hb] at h; cases h
    · cases n with
      | zero => simp at hl
      | succ n =>
        rw [normL_plain t hb hc] at h
        cases hn : normL t with
        | none => rw [hn] at h; cases h
        | some b =>
          rw [hn] at h; simp at h; subst h
          have := norm_len n t b (by simp at hl; omega) hn
          simp; omega
    · rw [normL_short ht] at h; cases h
    · cases n with
      | zero => simp at hl
      | succ n =>
        rw [normL_trip] at h
        split at h
        · cases h
        · cases hn : normL u with
          | none => rw [hn] at h; cases h
          | some b =>
            rw [hn] at h; simp at h; subst h
            have := norm_len n u b (by simp at hl; omega) hn
            have := tripL_len (hexV x) (hexV y)
            simp; omega
theorem norm_pieces : ∀ (n : Nat) (l : List UInt8), l.length ≤ n → normL l = some l → ∀ y ∈ splitC 47 l, normL y = some y
  | n, l, hl, h, y, hy => by
    rcases splitC_cut 47 l with ⟨a, b, hc, hs, hlt⟩ | ⟨_, hs⟩
    · have e : l = a ++ 47 :: b := by
        rcases cutB_cases 47 l with ⟨a', b', h', h2, _⟩ | ⟨h', _⟩
        · rw [hc] at h'; simp at h'; obtain ⟨rfl, rfl⟩ := h'; exact h2
        · rw [hc] at h'; simp at h'
      rw [e, norm_slash] at h
      cases ha : normL a with
      | none => rw [ha] at h; cases h
      | some a' =>
        cases hb : normL b with
        | none => rw [ha, hb] at h; cases h
        | some b' =>
          rw [ha, hb] at h
          simp at h
          have la := norm_len _ a a' (Nat.le_refl _) ha
          have lb := norm_len _ b b' (Nat.le_refl _) hb
          have lc := congrArg List.length h
          simp at lc
          have hla : a'.length = a.length := by omega
          obtain ⟨h1, h2⟩ := List.append_inj h hla
          simp at h2
          subst h1; subst h2
          rw [hs] at hy
          rcases List.mem_cons.1 hy with rfl | hy
          · exact ha
          · cases n with
            | zero => omega
            | succ n => exact norm_pieces n b' (by omega) hb y hy
    · rw [hs, List.mem_singleton] at hy; subst hy; exact h
end Go.Proofs.YtjogahfllmhpcaaDoor
