/- Request lines and status lines in plain terms (layer 2). No program in sight. -/
import Derived.Test.YthdbgiklniiglaaDoorAsciiP
import Derived.Test.YthdbgiklniiglaaDoorCutP
import Derived.Test.YthdbgiklniiglaaDoorAsciiQ
namespace Go.Proofs.YthdbgiklniiglaaDoor

def visC (c : UInt8) : Bool := decide (33 ≤ c.toNat) && decide (c.toNat ≤ 126)
theorem visC_true {c : UInt8} (h : 33 ≤ c.toNat ∧ c.toNat ≤ 126) : visC c = true := by simp [visC, h]
theorem visC_false {c : UInt8} (h : ¬ (33 ≤ c.toNat ∧ c.toNat ≤ 126)) : visC c = false := by
  unfold visC; rw [← Bool.decide_and, decide_eq_false_iff_not]; exact h
def visB (l : List UInt8) : Bool := l.all visC && !l.isEmpty
/-- "HTTP/" -/
def httpL : List UInt8 := [72, 84, 84, 80, 47]
def verForm (l : List UInt8) : Bool := l.length == 8 && (l.take 5 == httpL && (digB (l.getD 5 0) && (l.getD 6 0 == 46 && digB (l.getD 7 0))))
/-- The error of a version: 0, 1 (no version), 3 (another version). -/
def verE (l : List UInt8) : Int := if verForm l then (if l.getD 5 0 = 49 ∧ (l.getD 7 0).toNat ≤ 49 then 0 else 3) else 1
def verN (l : List UInt8) : Int := if verE l = 0 then ((l.getD 7 0).toNat : Int) - 48 else 0
/-- What a request line is read as: method, target, minor version, error. -/
def reqL (l : List UInt8) : List UInt8 × List UInt8 × Int × Int :=
  if 2000 < l.length then ([], [], 0, 4)
  else
    let p := cutB 32 l
    let q := cutB 32 p.2.1
    if (tokenB p.1 && visB q.1) = false then ([], [], 0, 1)
    else if verE q.2.1 = 0 then (p.1, q.1, verN q.2.1, 0) else ([], [], 0, verE q.2.1)
def statForm (l : List UInt8) : Bool := l.length == 3 && (decide (49 ≤ (l.getD 0 0).toNat) && (decide ((l.getD 0 0).toNat ≤ 53) && (digB (l.getD 1 0) && digB (l.getD 2 0))))
def statN (l : List UInt8) : Int := match numGo l 0 with | some n => n | none => 0
/-- What a status line is read as: minor version, status, reason, error. -/
def statL (l : List UInt8) : Int × Int × List UInt8 × Int :=
  if 2000 < l.length then (0, 0, [], 4)
  else
    let p := cutB 32 l
    let q := cutB 32 p.2.1
    if (q.2.2 && (statForm q.1 && textB q.2.1)) = false then (0, 0, [], 1)
    else if verE p.1 = 0 then (verN p.1, statN q.1, q.2.1, 0) else (0, 0, [], verE p.1)
def reqV (r : List UInt8 × List UInt8 × Int × Int) : Value := .tuple #[.string ⟨r.1.toArray⟩, .string ⟨r.2.1.toArray⟩, .int .i64 r.2.2.1, .int .i64 r.2.2.2]
def statV (r : Int × Int × List UInt8 × Int) : Value := .tuple #[.int .i64 r.1, .int .i64 r.2.1, .string ⟨r.2.2.1.toArray⟩, .int .i64 r.2.2.2]
def reqLine (m t : List UInt8) (v : Int) : List UInt8 := m ++ [32] ++ t ++ [32, 72, 84, 84, 80, 47, 49, 46] ++ Lib.itoa v
def statLine (v s : Int) (r : List UInt8) : List UInt8 := [72, 84, 84, 80, 47, 49, 46] ++ Lib.itoa v ++ [32] ++ Lib.itoa s ++ [32] ++ r
/-- The request line of these parts, or nothing. -/
def reqF (m t : List UInt8) (v : Int) : List UInt8 := if reqL (reqLine m t v) = (m, t, v, 0) then reqLine m t v else []
def statF (v s : Int) (r : List UInt8) : List UInt8 := if statL (statLine v s r) = (v, s, r, 0) then statLine v s r else []

theorem verE_cases (l : List UInt8) : verE l = 0 ∨ verE l = 1 ∨ verE l = 3 := by
  unfold verE; split
  · split <;> simp
  · simp
theorem verN_bd (l : List UInt8) : verN l = 0 ∨ verN l = 1 := by
  unfold verN
  by_cases h : verE l = 0
  · rw [if_pos h]
    unfold verE at h
    by_cases hf : verForm l = true
    · rw [if_pos hf] at h
      by_cases hc : l.getD 5 0 = 49 ∧ (l.getD 7 0).toNat ≤ 49
      · unfold verForm at hf
        simp only [Bool.and_eq_true] at hf
        have := of_digB hf.2.2.2.2
        omega
      · rw [if_neg hc] at h; cases h
    · rw [if_neg hf] at h; cases h
  · rw [if_neg h]; exact .inl rfl
theorem reqL_long {l : List UInt8} (h : 2000 < l.length) : reqL l = ([], [], 0, 4) := by unfold reqL; rw [if_pos h]
theorem reqL_bad {l p1 p2 q1 q2 : List UInt8} {p3 q3 : Bool} (h : ¬ 2000 < l.length) (hp : cutB 32 l = (p1, p2, p3)) (hq : cutB 32 p2 = (q1, q2, q3)) (hb : (tokenB p1 && visB q1) = false) : reqL l = ([], [], 0, 1) := by
  unfold reqL; rw [if_neg h, hp]; dsimp only; rw [hq]; dsimp only; rw [if_pos hb]
theorem reqL_ver {l p1 p2 q1 q2 : List UInt8} {p3 q3 : Bool} (h : ¬ 2000 < l.length) (hp : cutB 32 l = (p1, p2, p3)) (hq : cutB 32 p2 = (q1, q2, q3)) (hb : (tokenB p1 && visB q1) = true) (hv : verE q2 ≠ 0) : reqL l = ([], [], 0, verE q2) := by
  unfold reqL; rw [if_neg h, hp]; dsimp only; rw [hq]; dsimp only; rw [if_neg (by rw [hb]; decide), if_neg hv]
theorem reqL_ok {l p1 p2 q1 q2 : List UInt8} {p3 q3 : Bool} (h : ¬ 2000 < l.length) (hp : cutB 32 l = (p1, p2, p3)) (hq : cutB 32 p2 = (q1, q2, q3)) (hb : (tokenB p1 && visB q1) = true) (hv : verE q2 = 0) : reqL l = (p1, q1, verN q2, 0) := by
  unfold reqL; rw [if_neg h, hp]; dsimp only; rw [hq]; dsimp only; rw [if_neg (by rw [hb]; decide), if_pos hv]
theorem statL_long {l : List UInt8} (h : 2000 < l.length) : statL l = (0, 0, [], 4) := by unfold statL; rw [if_pos h]
theorem statL_bad {l p1 p2 q1 q2 : List UInt8} {p3 q3 : Bool} (h : ¬ 2000 < l.length) (hp : cutB 32 l = (p1, p2, p3)) (hq : cutB 32 p2 = (q1, q2, q3)) (hb : (q3 && (statForm q1 && textB q2)) = false) : statL l = (0, 0, [], 1) := by
  unfold statL; rw [if_neg h, hp]; dsimp only; rw [hq]; dsimp only; rw [if_pos hb]
theorem statL_ver {l p1 p2 q1 q2 : List UInt8} {p3 q3 : Bool} (h : ¬ 2000 < l.length) (hp : cutB 32 l = (p1, p2, p3)) (hq : cutB 32 p2 = (q1, q2, q3)) (hb : (q3 && (statForm q1 && textB q2)) = true) (hv : verE p1 ≠ 0) : statL l = (0, 0, [], verE p1) := by
  unfold statL; rw [if_neg h, hp]; dsimp only; rw [hq]; dsimp only; rw [if_neg (by rw [hb]; decide), if_neg hv]
theorem statL_ok {l p1 p2 q1 q2 : List UInt8} {p3 q3 : Bool} (h : ¬ 2000 < l.length) (hp : cutB 32 l = (p1, p2, p3)) (hq : cutB 32 p2 = (q1, q2, q3)) (hb : (q3 && (statForm q1 && textB q2)) = true) (hv : verE p1 = 0) : statL l = (verN p1, statN q1, q2, 0) := by
  unfold statL; rw [if_neg h, hp]; dsimp only; rw [hq]; dsimp only; rw [if_neg (by rw [hb]; decide), if_pos hv]
end Go.Proofs.YthdbgiklniiglaaDoor
