/- Messages in plain terms (layer 6): the head, the framing, the body. No program in sight. -/
import Derived.Test.YtfnmohaddkoalaaDoorQPre
import Derived.Test.YtfnmohaddkoalaaDoorQFline
namespace Go.Proofs.YtfnmohaddkoalaaDoor

/-- A field of two lists. -/
def mkF (p : List UInt8 × List UInt8) : Fd := (⟨p.1.toArray⟩, ⟨p.2.toArray⟩)
/-- "Content-Length", "Transfer-Encoding", "Host", "chunked". -/
abbrev clN : List UInt8 := [67, 111, 110, 116, 101, 110, 116, 45, 76, 101, 110, 103, 116, 104]
abbrev teN : List UInt8 := [84, 114, 97, 110, 115, 102, 101, 114, 45, 69, 110, 99, 111, 100, 105, 110, 103]
abbrev hoN : List UInt8 := [72, 111, 115, 116]
abbrev chN : List UInt8 := [99, 104, 117, 110, 107, 101, 100]
/-- No framing field. -/
def plainF (x : Fd) : Bool := !isF clN x && !isF teN x
def unfrL (xs : List Fd) : List Fd := xs.filter plainF
/-- The head from a line on: the error, the bytes up to its end, the fields. -/
def hdGo (st : List UInt8 → Int) : Nat → Nat → List UInt8 → Nat → List Fd → Int × Nat × List Fd
  | 0, _, _, _, _ => (2, 0, [])
  | f + 1, n, l, a, xs =>
    if (nextL l).2.2 ≠ 0 then ((nextL l).2.2, 0, []) else
    if 16000 < a + (nextL l).2.1 ∨ 64 < n ∧ (nextL l).1 ≠ [] then (4, 0, []) else
    if n = 0 then (if st (nextL l).1 ≠ 0 then (st (nextL l).1, 0, []) else hdGo st f 1 (l.drop (nextL l).2.1) (a + (nextL l).2.1) xs) else
    if (nextL l).1 = [] then (0, a + (nextL l).2.1, xs) else
    if (fieldL (nextL l).1).2 ≠ 0 then ((fieldL (nextL l).1).2, 0, []) else
    hdGo st f (n + 1) (l.drop (nextL l).2.1) (a + (nextL l).2.1) (xs ++ [mkF (fieldL (nextL l).1).1])
def hdL (st : List UInt8 → Int) (l : List UInt8) : Int × Nat × List Fd := hdGo st (l.length + 1) 0 l 0 []
/-- The error of the framing fields. -/
def frE (cs ls : List ByteArray) : Int :=
  match cs, ls with
  | [], [] => 0
  | [], [c] => if (numGo (bs c) 0).isSome ∧ bs c ≠ [] ∧ c.size ≤ 9 then 0 else 8
  | [], _ :: _ :: _ => 8
  | [t], [] => if foldB (bs t) chN then 0 else 7
  | [t], _ :: _ => if foldB (bs t) chN then 8 else 7
  | _ :: _ :: _, _ => 7
def frL (xs : List Fd) : Int := frE (getF teN xs) (getF clN xs)
/-- The body behind a head: its bytes, how many are taken, and the error. -/
def bdE (cs ls : List ByteArray) (l : List UInt8) : List UInt8 × Nat × Int :=
  match cs, ls with
  | [], [] => ([], 0, 0)
  | [], c :: _ => match numGo (bs c) 0 with
    | none => ([], 0, 0)
    | some n => if 100000 < n then ([], 0, 5) else if (l.length : Int) < n then ([], 0, 2) else (l.take n.toNat, n.toNat, 0)
  | _ :: _, _ => decL l
def bdL (xs : List Fd) (l : List UInt8) : List UInt8 × Nat × Int := bdE (getF teN xs) (getF clN xs) l
/-- A request: its parts. -/
structure ReqP where
  m : List UInt8
  t : List UInt8
  v : Int
  xs : List Fd
  b : List UInt8
def req0 : ReqP := ⟨[], [], 0, [], []⟩
/-- The request at the beginning of a list, the bytes that it takes, and the error. -/
def parseQ (l : List UInt8) : ReqP × Nat × Int :=
  let h := hdL (fun x => (reqL x).2.2.2) l
  let q := reqL (nextL l).1
  if h.1 ≠ 0 then (req0, 0, h.1) else
  if frL h.2.2 ≠ 0 then (req0, 0, frL h.2.2) else
  if 1 < (getF hoN h.2.2).length ∨ (getF hoN h.2.2).length = 0 ∧ q.2.2.1 = 1 then (req0, 0, 6) else
  let b := bdL h.2.2 (l.drop h.2.1)
  if b.2.2 ≠ 0 then (req0, 0, b.2.2) else (⟨q.1, q.2.1, q.2.2.1, unfrL h.2.2, b.1⟩, h.2.1 + b.2.1, 0)
section
variable {st : List UInt8 → Int} {f n a u : Nat} {l x : List UInt8} {xs : List Fd}
theorem hdGo_err {e : Int} (hn : nextL l = (x, u, e)) (he : e ≠ 0) : hdGo st (f + 1) n l a xs = (e, 0, []) := by
  rw [hdGo, hn]; simp [he]
theorem hdGo_long (hn : nextL l = (x, u, 0)) (h : 16000 < a + u ∨ 64 < n ∧ x ≠ []) : hdGo st (f + 1) n l a xs = (4, 0, []) := by
  rw [hdGo, hn]; simp only [ne_eq, not_true_eq_false, if_false]; rw [if_pos h]
theorem hdGo_start (hn : nextL l = (x, u, 0)) (h : ¬ 16000 < a + u) (h0 : st x = 0) : hdGo st (f + 1) 0 l a xs = hdGo st f 1 (l.drop u) (a + u) xs := by
  rw [hdGo, hn]; simp only [ne_eq, not_true_eq_false, if_false]; rw [if_neg (by omega), if_pos trivial, if_neg (by simpa using h0)]
theorem hdGo_start_err (hn : nextL l = (x, u, 0)) (h : ¬ 16000 < a + u) (h0 : st x ≠ 0) : hdGo st (f + 1) 0 l a xs = (st x, 0, []) := by
  rw [hdGo, hn]; simp only [ne_eq, not_true_eq_false, if_false]; rw [if_neg (by omega), if_pos trivial, if_pos (by simpa using h0)]
theorem hdGo_end (hn : nextL l = ([], u, 0)) (h : ¬ 16000 < a + u) (h0 : n ≠ 0) : hdGo st (f + 1) n l a xs = (0, a + u, xs) := by
  rw [hdGo, hn]; simp only [ne_eq, not_true_eq_false, if_false]; rw [if_neg (by simp; omega), if_neg h0, if_pos trivial]
theorem hdGo_field_err (hn : nextL l = (x, u, 0)) (h : ¬ 16000 < a + u) (h6 : ¬ 64 < n) (h0 : n ≠ 0) (hx : x ≠ []) (he : (fieldL x).2 ≠ 0) : hdGo st (f + 1) n l a xs = ((fieldL x).2, 0, []) := by
  rw [hdGo, hn]; simp only [ne_eq, not_true_eq_false, if_false]; rw [if_neg (by simp; omega), if_neg h0, if_neg hx, if_pos (by simpa using he)]
theorem hdGo_field (hn : nextL l = (x, u, 0)) (h : ¬ 16000 < a + u) (h6 : ¬ 64 < n) (h0 : n ≠ 0) (hx : x ≠ []) (he : (fieldL x).2 = 0) : hdGo st (f + 1) n l a xs = hdGo st f (n + 1) (l.drop u) (a + u) (xs ++ [mkF (fieldL x).1]) := by
  rw [hdGo, hn]; simp only [ne_eq, not_true_eq_false, if_false]; rw [if_neg (by simp; omega), if_neg h0, if_neg hx, if_neg (by simpa using he)]
end
end Go.Proofs.YtfnmohaddkoalaaDoor
