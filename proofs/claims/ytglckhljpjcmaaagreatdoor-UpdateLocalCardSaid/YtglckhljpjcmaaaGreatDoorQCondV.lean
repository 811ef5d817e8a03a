/- The walks of condition.without, dated, Validation, Conditional (layer 31). Printed by gen_condv.py. -/
import Derived.Test.YtglckhljpjcmaaaGreatDoorQFldA
import Derived.Test.YtglckhljpjcmaaaGreatDoorQEtagX
import Derived.Test.YtglckhljpjcmaaaGreatDoorQCondW
import Derived.Test.YtglckhljpjcmaaaGreatDoorQDateW3
namespace Go.Proofs.YtglckhljpjcmaaaGreatDoor
open Go.RowKit Go.Shelf

def noneB (ns : List (List UInt8)) (x : Fd) : Bool := !oneB (bs x.1) ns
theorem oneB_snoc (n : List UInt8) (l : List (List UInt8)) (x : List UInt8) : oneB n (l ++ [x]) = (oneB n l || foldB n x) := by
  induction l with
  | nil => simp [oneB]
  | cons y t ih => simp only [List.cons_append, oneB, ih, Bool.or_assoc]
theorem without_step {xs : List Fd} {ns : List ByteArray} {k : Nat} {n : ByteArray} (h : ns[k]? = some n) : (xs.filter (noneB ((ns.take k).map bs))).filter (fun x => !isF (bs n) x) = xs.filter (noneB ((ns.take (k + 1)).map bs)) := by
  obtain ⟨hk, he⟩ := List.getElem?_eq_some_iff.1 h
  rw [List.filter_filter]
  congr 1
  funext x
  rw [List.take_succ_eq_append_getElem hk, List.map_append, he]
  unfold noneB isF
  rw [List.map_singleton, oneB_snoc, Bool.not_or, Bool.and_comm]
theorem noneB_nil (xs : List Fd) : xs = xs.filter (noneB []) := (List.filter_eq_self.2 fun _ _ => rfl).symm
theorem FldZ.filter {xs : List Fd} {n : Nat} (h : FldZ xs n) (p : Fd → Bool) : FldZ (xs.filter p) n := fun x hx => h x (List.mem_filter.1 hx).1
def datedS (n : List UInt8) (xs : List Fd) : ByteArray := (getF n xs).headD ⟨#[]⟩
def dpt (l : List UInt8) : Int × Bool := match parseD l with | none => (0, false) | some t => (t, true)
theorem dateV_form (l : List UInt8) : dateV (parseD l) = .tuple #[.int .i64 (dpt l).1, .bool (dpt l).2] := by
  unfold dpt; cases parseD l <;> rfl
theorem firstV_form (l : List ByteArray) : firstV l = .tuple #[.string (l.headD ⟨#[]⟩), .bool (!l.isEmpty)] := by cases l <;> rfl
theorem datedS_size {n : List UInt8} {xs : List Fd} {b : Nat} (hz : FldZ xs b) : (datedS n xs).size ≤ b := by
  unfold datedS
  cases hg : getF n xs with
  | nil => exact Nat.zero_le _
  | cons x t => exact getF_mem hz (n := n) (by rw [hg]; simp)
abbrev nINM : ByteArray := ⟨#[73, 102, 45, 78, 111, 110, 101, 45, 77, 97, 116, 99, 104]⟩
abbrev nIMS : ByteArray := ⟨#[73, 102, 45, 77, 111, 100, 105, 102, 105, 101, 100, 45, 83, 105, 110, 99, 101]⟩
abbrev nLM : ByteArray := ⟨#[76, 97, 115, 116, 45, 77, 111, 100, 105, 102, 105, 101, 100]⟩
abbrev condN : List ByteArray := [⟨#[73, 102, 45, 78, 111, 110, 101, 45, 77, 97, 116, 99, 104]⟩, ⟨#[73, 102, 45, 77, 111, 100, 105, 102, 105, 101, 100, 45, 83, 105, 110, 99, 101]⟩, ⟨#[73, 102, 45, 77, 97, 116, 99, 104]⟩, ⟨#[73, 102, 45, 85, 110, 109, 111, 100, 105, 102, 105, 101, 100, 45, 83, 105, 110, 99, 101]⟩, ⟨#[73, 102, 45, 82, 97, 110, 103, 101]⟩, ⟨#[82, 97, 110, 103, 101]⟩]
def tagF (es : List Fd) : List Fd := match ofE es with | none => [] | some t => [(nINM, ⟨(etfmtL t).toArray⟩)]
def sinceF (es : List Fd) : List Fd := if (dpt (bs (datedS (bs nLM) es))).2 then [(nIMS, datedS (bs nLM) es)] else []
def validL (xs es : List Fd) : List Fd := xs.filter (noneB (condN.map bs)) ++ tagF es ++ sinceF es
abbrev reqC (m tg : ByteArray) (mn : Int) (oa : Option Addr) (n cap : Nat) (bd : ByteArray) : List Value := [.string m, .string tg, .int .i64 mn, .slice oa n cap, .string bd]
abbrev reqV (m tg : ByteArray) (mn : Int) (oa : Option Addr) (n cap : Nat) (bd : ByteArray) : Value := .agg #[.string m, .string tg, .int .i64 mn, .slice oa n cap, .string bd]
abbrev reqZ : List Value := [.string ⟨#[]⟩, .string ⟨#[]⟩, .int .i64 0, .slice none 0 0, .string ⟨#[]⟩]
abbrev entC (k1 k2 k3 : Value) (rs : ByteArray) (oa : Option Addr) (n cap : Nat) (bd : ByteArray) (r1 r2 : Int) : List Value := [k1, k2, k3, .string rs, .slice oa n cap, .string bd, .int .i64 r1, .int .i64 r2]
abbrev entV (k1 k2 k3 : Value) (rs : ByteArray) (oa : Option Addr) (n cap : Nat) (bd : ByteArray) (r1 r2 : Int) : Value := .agg #[k1, k2, k3, .string rs, .slice oa n cap, .string bd, .int .i64 r1, .int .i64 r2]
theorem ent_size : (Tryz.prog.info? 50).map (·.size) = some 8 := by kernel_rfl
theorem req_one (m tg : ByteArray) (mn : Int) (oa : Option Addr) (n cap : Nat) (bd : ByteArray) : ∀ u ∈ reqC m tg mn oa n cap bd, u.oneCell' = true := by intro u hu; simp at hu; rcases hu with rfl | rfl | rfl | rfl | rfl <;> rfl
theorem rows3 (w : World) (X : List Value) (TX : TypeId) (Y : List Value) (TY : TypeId) (Z : List Value) (TZ : TypeId) (o : Obj) :
    RowAt ((((w.alloc (.cells X.toArray TX)).alloc (.cells Y.toArray TY)).alloc (.cells Z.toArray TZ)).alloc o) w.heap.size TX X ∧ RowAt ((((w.alloc (.cells X.toArray TX)).alloc (.cells Y.toArray TY)).alloc (.cells Z.toArray TZ)).alloc o) (w.heap.size + 1) TY Y ∧
    RowAt ((((w.alloc (.cells X.toArray TX)).alloc (.cells Y.toArray TY)).alloc (.cells Z.toArray TZ)).alloc o) (w.heap.size + 1 + 1) TZ Z ∧ Below w.heap.size w ((((w.alloc (.cells X.toArray TX)).alloc (.cells Y.toArray TY)).alloc (.cells Z.toArray TZ)).alloc o) ∧
    ((((w.alloc (.cells X.toArray TX)).alloc (.cells Y.toArray TY)).alloc (.cells Z.toArray TZ)).alloc o).heap.size = w.heap.size + 1 + 1 + 1 + 1 := by
  have h1 := RowAt.new w X TX
  have h2 := RowAt.new (w.alloc (.cells X.toArray TX)) Y TY
  have h3 := RowAt.new ((w.alloc (.cells X.toArray TX)).alloc (.cells Y.toArray TY)) Z TZ
  have s1 : (w.alloc (.cells X.toArray TX)).heap.size = w.heap.size + 1 := Array.size_push _
  have s2 : ((w.alloc (.cells X.toArray TX)).alloc (.cells Y.toArray TY)).heap.size = w.heap.size + 1 + 1 := (Array.size_push _).trans (by rw [s1])
  have s3 : (((w.alloc (.cells X.toArray TX)).alloc (.cells Y.toArray TY)).alloc (.cells Z.toArray TZ)).heap.size = w.heap.size + 1 + 1 + 1 := (Array.size_push _).trans (by rw [s2])
  rw [s1] at h2
  rw [s2] at h3
  exact ⟨((h1.alloc _).alloc _).alloc _, (h2.alloc _).alloc _, h3.alloc _, (((alloc_b w _).alloc (by omega) _).alloc (by omega) _).alloc (by omega) _, (Array.size_push _).trans (by rw [s3])⟩
theorem condN_z : ∀ x ∈ condN, x.size ≤ 100000 := by decide
theorem condA_eq : (condN.map Value.string).toArray = #[.string ⟨#[73, 102, 45, 78, 111, 110, 101, 45, 77, 97, 116, 99, 104]⟩, .string ⟨#[73, 102, 45, 77, 111, 100, 105, 102, 105, 101, 100, 45, 83, 105, 110, 99, 101]⟩, .string ⟨#[73, 102, 45, 77, 97, 116, 99, 104]⟩, .string ⟨#[73, 102, 45, 85, 110, 109, 111, 100, 105, 102, 105, 101, 100, 45, 83, 105, 110, 99, 101]⟩, .string ⟨#[73, 102, 45, 82, 97, 110, 103, 101]⟩, .string ⟨#[82, 97, 110, 103, 101]⟩] := rfl
theorem etfmt_len {es : List Fd} {b : Bool} {l : List UInt8} (hz : FldZ es 100000) (h : ofE es = some (b, l)) : l.length ≤ 100000 := by
  unfold ofE at h
  cases hg : getF (bs nETag) es with
  | nil => rw [hg] at h; cases h
  | cons x t =>
    rw [hg] at h
    have hx : x.size ≤ 100000 := getF_mem hz (n := bs nETag) (by rw [hg]; simp)
    have h' : etagL (bs x) = some (b, l) := h
    unfold etagL at h'
    split at h'
    · cases h'
      have hw : (weakL (bs x)).1.length ≤ x.size := by
        unfold weakL
        rw [← bs_length]
        split
        · show ((bs x).drop 2).length ≤ _
          rw [List.length_drop]; omega
        · exact Nat.le_refl _
      rw [List.length_take, List.length_drop]; omega
    · cases h'
end Go.Proofs.YtglckhljpjcmaaaGreatDoor
