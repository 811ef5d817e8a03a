/- The walks of condition.without, dated, Validation, Conditional (layer 31). Printed by gen_condv.py. -/
import Derived.Test.YtjafkpedocdfjaaGreatDoorFldA
import Derived.Test.YtjafkpedocdfjaaGreatDoorEtagX
import Derived.Test.YtjafkpedocdfjaaGreatDoorCondW
import Derived.Test.YtjafkpedocdfjaaGreatDoorDateW3
namespace Go.Proofs.YtjafkpedocdfjaaGreatDoor
open Go.RowKit Go.Shelf

def noneB (ns : List (List UInt8)) (x : Fd) : Bool := !oneB (bs x.1) ns
theorem oneB_snoc (n : List UInt8) (l : List (List UInt8)) (x : List UInt8) : oneB n (l ++ [x]) = (oneB n l || foldB n x) := by
  induction l with
  | nil => simp [oneB]
  | cons y t ih => simp only [List.cons_append, oneB, ih, Bool.or_assoc]
theorem without_step {xs : List Fd} {ns : List ByteArray} {k : Nat} {n : ByteArray} (h : ns[k]? = some n) : (xs.filter (noneB ((ns.take k).map bs))).filter (fun x => !isF (bs n) x) = xs.filter (noneB ((ns.take (k + 1)).map bs)) := by
  obtain ⟨hk, he⟩ := List.getElem?_eq_some_iff.1 h
  rw [List.filter_filter]
  congr 1
  funext x
  rw [List.take_succ_eq_append_getElem hk, List.map_append, he]
  unfold noneB isF
  rw [List.map_singleton, oneB_snoc, Bool.not_or, Bool.and_comm]
theorem noneB_nil (xs : List Fd) : xs = xs.filter (noneB []) := (List.filter_eq_self.2 fun _ _ => rfl).symm
theorem FldZ.filter {xs : List Fd} {n : Nat} (h : FldZ xs n) (p : Fd → Bool) : FldZ (xs.filter p) n := fun x hx => h x (List.mem_filter.1 hx).1
set_option maxHeartbeats 1600000 in
theorem without_any (oa : Option Addr) (xs : List Fd) (cap : Nat) (on : Option Addr) (ns : List ByteArray) (cn : Nat) (w : World) (hn : xs.length ≤ 10000) (hz : FldZ xs 100000) (hc : FldO w oa xs)
    (hm : ns.length ≤ 10000) (hnz : ∀ x ∈ ns, x.size ≤ 100000) (hs : StrO w on ns) :
    Calls Tryz.prog 46 #[.slice oa xs.length cap, .slice on ns.length cn] w fun e w' => ∃ v, e = .returned v ∧ FBuf w' w.heap.size v (xs.filter (noneB (ns.map bs))) ∧ Below w.heap.size w w' := by
  have HC := Lib.hid hc
  have HZ := Lib.hid hz
  have HS := Lib.hid hs
  have HN := Lib.hid hnz
  clear hc hz hs hnz
  go_enter Tryz.func46, Tryz.ntmps46
  go_wp2_with (at_builtin; refine wpList_append_flds rfl (.const (.slice none 0 0)) (.tmp 8) rfl w _ w.heap.size _ [] rfl (FBuf.nil_ _ _) (Below.refl _ _) (Nat.le_refl _) oa xs cap rfl HC.out (by simp; omega) ?_)
  intro v0 w0 FB0 hb0 z0
  go_wp2_with fail
  go_loopw [5, 12] (fun v j wr => ∃ (k : Nat) (ys : List Fd), k ≤ ns.length ∧ j = .int .i64 k ∧ Hid (ys = xs.filter (noneB ((ns.take k).map bs))) ∧ ys.length ≤ xs.length ∧ FBuf wr w.heap.size v ys ∧ Below w.heap.size w wr) (fun _ j _ => ns.length - (intOf j).toNat)
  case atStart => exact ⟨0, xs, by omega, rfl, Lib.hid (noneB_nil xs), Nat.le_refl _, FB0, hb0⟩
  case round =>
    obtain ⟨k, ys, hk, rfl, HY, hyl, FB, hb⟩ := hrel
    clear FB0 hb0 z0
    by_cases hlt : k < ns.length
    · obtain ⟨n, hx⟩ : ∃ x, ns[k]? = some x := ⟨_, List.getElem?_eq_getElem hlt⟩
      obtain ⟨ad, rfl, c0⟩ := (HS.out.down hb) k n hx
      have zn := HN.out n (List.mem_of_getElem? hx)
      obtain ⟨ob, cb, rfl, FO⟩ := FB.shape
      have HY2 := Lib.hid (without_step (xs := xs) hx)
      have HR := Lib.hid (remove_any ob ys cb n wr (by omega) (by omega) (by rw [HY.out]; exact HZ.out.filter _) FO)
      have hb' := hb.size
      clear hx FO
      go_wp2_with fail
      refine HR.out.mono ?_
      rintro e w2 ⟨v2, rfl, FB2, hb2⟩
      have b2 := step_b hb hb2
      have FB3 := FB2.lower hb'
      clear FB2 hb2 hb FB HR c0
      go_wp2_with fail
      go_roundw
      case rel => exact ⟨k + 1, _, by omega, by go_num, Lib.hid (by rw [HY.out]; exact HY2.out), Nat.le_trans (List.length_filter_le _ _) hyl, FB3, b2⟩
      case measure => simp [intOf]; omega
    · have HF : Hid (xs.filter (noneB (ns.map bs)) = ys) := Lib.hid (by rw [HY.out, List.take_of_length_le (by omega)])
      go_wp2_with fail
      go_ret
      exact ⟨_, rfl, by rw [HF.out]; exact FB, hb⟩
def datedS (n : List UInt8) (xs : List Fd) : ByteArray := (getF n xs).headD ⟨#[]⟩
def dpt (l : List UInt8) : Int × Bool := match parseD l with | none => (0, false) | some t => (t, true)
theorem dateV_form (l : List UInt8) : dateV (parseD l) = .tuple #[.int .i64 (dpt l).1, .bool (dpt l).2] := by
  unfold dpt; cases parseD l <;> rfl
theorem firstV_form (l : List ByteArray) : firstV l = .tuple #[.string (l.headD ⟨#[]⟩), .bool (!l.isEmpty)] := by cases l <;> rfl
theorem datedS_size {n : List UInt8} {xs : List Fd} {b : Nat} (hz : FldZ xs b) : (datedS n xs).size ≤ b := by
  unfold datedS
  cases hg : getF n xs with
  | nil => exact Nat.zero_le _
  | cons x t => exact getF_mem hz (n := n) (by rw [hg]; simp)
set_option maxHeartbeats 800000 in
theorem dated_any (oa : Option Addr) (xs : List Fd) (cap : Nat) (s : ByteArray) (w : World) (hs : s.size ≤ 100000) (hn : xs.length ≤ 100000) (hz : FldZ xs 100000) (hc : FldO w oa xs) :
    Calls Tryz.prog 54 #[.slice oa xs.length cap, .string s] w fun e w' => e = .returned (.tuple #[.string (datedS (bs s) xs), .int .i64 (dpt (bs (datedS (bs s) xs))).1, .bool (dpt (bs (datedS (bs s) xs))).2]) ∧ Below w.heap.size w w' := by
  have HFi := Lib.hid (first_any oa xs cap s w hs hn hz hc)
  have hx : (datedS (bs s) xs).size ≤ 100000 := datedS_size hz
  obtain ⟨x, hxe⟩ : ∃ x, x = datedS (bs s) xs := ⟨_, rfl⟩
  rw [← hxe] at hx ⊢
  have HX := Lib.hid hxe
  clear hz hc hxe
  go_enter Tryz.func54, Tryz.ntmps54
  go_wp2_with fail
  refine HFi.out.mono ?_
  rintro e w1 ⟨he, hb1⟩
  rw [firstV_form, show (getF (bs s) xs).headD ⟨#[]⟩ = x from HX.out.symm] at he
  subst he
  clear HFi
  go_wp2_with fail
  refine (parse_any x _ (by omega)).mono ?_
  rintro e w2 ⟨he, hb2⟩
  rw [dateV_form] at he
  subst he
  go_wp2_with fail
  go_ret3
  exact ⟨rfl, step_b hb1 hb2⟩
abbrev nINM : ByteArray := ⟨#[73, 102, 45, 78, 111, 110, 101, 45, 77, 97, 116, 99, 104]⟩
abbrev nIMS : ByteArray := ⟨#[73, 102, 45, 77, 111, 100, 105, 102, 105, 101, 100, 45, 83, 105, 110, 99, 101]⟩
abbrev nLM : ByteArray := ⟨#[76, 97, 115, 116, 45, 77, 111, 100, 105, 102, 105, 101, 100]⟩
abbrev condN : List ByteArray := [⟨#[73, 102, 45, 78, 111, 110, 101, 45, 77, 97, 116, 99, 104]⟩, ⟨#[73, 102, 45, 77, 111, 100, 105, 102, 105, 101, 100, 45, 83, 105, 110, 99, 101]⟩, ⟨#[73, 102, 45, 77, 97, 116, 99, 104]⟩, ⟨#[73, 102, 45, 85, 110, 109, 111, 100, 105, 102, 105, 101, 100, 45, 83, 105, 110, 99, 101]⟩, ⟨#[73, 102, 45, 82, 97, 110, 103, 101]⟩, ⟨#[82, 97, 110, 103, 101]⟩]
def tagF (es : List Fd) : List Fd := match ofE es with | none => [] | some t => [(nINM, ⟨(etfmtL t).toArray⟩)]
def sinceF (es : List Fd) : List Fd := if (dpt (bs (datedS (bs nLM) es))).2 then [(nIMS, datedS (bs nLM) es)] else []
def validL (xs es : List Fd) : List Fd := xs.filter (noneB (condN.map bs)) ++ tagF es ++ sinceF es
abbrev reqC (m tg : ByteArray) (mn : Int) (oa : Option Addr) (n cap : Nat) (bd : ByteArray) : List Value := [.string m, .string tg, .int .i64 mn, .slice oa n cap, .string bd]
abbrev reqV (m tg : ByteArray) (mn : Int) (oa : Option Addr) (n cap : Nat) (bd : ByteArray) : Value := .agg #[.string m, .string tg, .int .i64 mn, .slice oa n cap, .string bd]
abbrev reqZ : List Value := [.string ⟨#[]⟩, .string ⟨#[]⟩, .int .i64 0, .slice none 0 0, .string ⟨#[]⟩]
abbrev entC (k1 k2 k3 : Value) (rs : ByteArray) (oa : Option Addr) (n cap : Nat) (bd : ByteArray) (r1 r2 : Int) : List Value := [k1, k2, k3, .string rs, .slice oa n cap, .string bd, .int .i64 r1, .int .i64 r2]
abbrev entV (k1 k2 k3 : Value) (rs : ByteArray) (oa : Option Addr) (n cap : Nat) (bd : ByteArray) (r1 r2 : Int) : Value := .agg #[k1, k2, k3, .string rs, .slice oa n cap, .string bd, .int .i64 r1, .int .i64 r2]
theorem req_size : (Tryz.prog.info? 40).map (·.size) = some 5 := by kernel_rfl
theorem ent_size : (Tryz.prog.info? 43).map (·.size) = some 8 := by kernel_rfl
theorem req_one (m tg : ByteArray) (mn : Int) (oa : Option Addr) (n cap : Nat) (bd : ByteArray) : ∀ u ∈ reqC m tg mn oa n cap bd, u.oneCell' = true := by intro u hu; simp at hu; rcases hu with rfl | rfl | rfl | rfl | rfl <;> rfl
theorem rows3 (w : World) (X : List Value) (TX : TypeId) (Y : List Value) (TY : TypeId) (Z : List Value) (TZ : TypeId) (o : Obj) :
    RowAt ((((w.alloc (.cells X.toArray TX)).alloc (.cells Y.toArray TY)).alloc (.cells Z.toArray TZ)).alloc o) w.heap.size TX X ∧ RowAt ((((w.alloc (.cells X.toArray TX)).alloc (.cells Y.toArray TY)).alloc (.cells Z.toArray TZ)).alloc o) (w.heap.size + 1) TY Y ∧
    RowAt ((((w.alloc (.cells X.toArray TX)).alloc (.cells Y.toArray TY)).alloc (.cells Z.toArray TZ)).alloc o) (w.heap.size + 1 + 1) TZ Z ∧ Below w.heap.size w ((((w.alloc (.cells X.toArray TX)).alloc (.cells Y.toArray TY)).alloc (.cells Z.toArray TZ)).alloc o) ∧
    ((((w.alloc (.cells X.toArray TX)).alloc (.cells Y.toArray TY)).alloc (.cells Z.toArray TZ)).alloc o).heap.size = w.heap.size + 1 + 1 + 1 + 1 := by
  have h1 := RowAt.new w X TX
  have h2 := RowAt.new (w.alloc (.cells X.toArray TX)) Y TY
  have h3 := RowAt.new ((w.alloc (.cells X.toArray TX)).alloc (.cells Y.toArray TY)) Z TZ
  have s1 : (w.alloc (.cells X.toArray TX)).heap.size = w.heap.size + 1 := Array.size_push _
  have s2 : ((w.alloc (.cells X.toArray TX)).alloc (.cells Y.toArray TY)).heap.size = w.heap.size + 1 + 1 := (Array.size_push _).trans (by rw [s1])
  have s3 : (((w.alloc (.cells X.toArray TX)).alloc (.cells Y.toArray TY)).alloc (.cells Z.toArray TZ)).heap.size = w.heap.size + 1 + 1 + 1 := (Array.size_push _).trans (by rw [s2])
  rw [s1] at h2
  rw [s2] at h3
  exact ⟨((h1.alloc _).alloc _).alloc _, (h2.alloc _).alloc _, h3.alloc _, (((alloc_b w _).alloc (by omega) _).alloc (by omega) _).alloc (by omega) _, (Array.size_push _).trans (by rw [s3])⟩
theorem condN_z : ∀ x ∈ condN, x.size ≤ 100000 := by decide
theorem condA_eq : (condN.map Value.string).toArray = #[.string ⟨#[73, 102, 45, 78, 111, 110, 101, 45, 77, 97, 116, 99, 104]⟩, .string ⟨#[73, 102, 45, 77, 111, 100, 105, 102, 105, 101, 100, 45, 83, 105, 110, 99, 101]⟩, .string ⟨#[73, 102, 45, 77, 97, 116, 99, 104]⟩, .string ⟨#[73, 102, 45, 85, 110, 109, 111, 100, 105, 102, 105, 101, 100, 45, 83, 105, 110, 99, 101]⟩, .string ⟨#[73, 102, 45, 82, 97, 110, 103, 101]⟩, .string ⟨#[82, 97, 110, 103, 101]⟩] := rfl
theorem without6 (oa : Option Addr) (xs : List Fd) (cap : Nat) (w : World) (A B C : Obj) (hn : xs.length ≤ 10000) (hz : FldZ xs 100000) (hc : FldO w oa xs) :
    Calls Tryz.prog 46 #[.slice oa xs.length cap, .slice (some ⟨w.heap.size + 1 + 1 + 1, 0, none⟩) 6 6] ((((w.alloc A).alloc B).alloc C).alloc (.cells #[.string ⟨#[73, 102, 45, 78, 111, 110, 101, 45, 77, 97, 116, 99, 104]⟩, .string ⟨#[73, 102, 45, 77, 111, 100, 105, 102, 105, 101, 100, 45, 83, 105, 110, 99, 101]⟩, .string ⟨#[73, 102, 45, 77, 97, 116, 99, 104]⟩, .string ⟨#[73, 102, 45, 85, 110, 109, 111, 100, 105, 102, 105, 101, 100, 45, 83, 105, 110, 99, 101]⟩, .string ⟨#[73, 102, 45, 82, 97, 110, 103, 101]⟩, .string ⟨#[82, 97, 110, 103, 101]⟩] 9)) fun e w' => ∃ v, e = .returned v ∧ FBuf w' (w.heap.size + 1 + 1 + 1 + 1) v (xs.filter (noneB (condN.map bs))) ∧ Below (w.heap.size + 1 + 1 + 1 + 1) ((((w.alloc A).alloc B).alloc C).alloc (.cells #[.string ⟨#[73, 102, 45, 78, 111, 110, 101, 45, 77, 97, 116, 99, 104]⟩, .string ⟨#[73, 102, 45, 77, 111, 100, 105, 102, 105, 101, 100, 45, 83, 105, 110, 99, 101]⟩, .string ⟨#[73, 102, 45, 77, 97, 116, 99, 104]⟩, .string ⟨#[73, 102, 45, 85, 110, 109, 111, 100, 105, 102, 105, 101, 100, 45, 83, 105, 110, 99, 101]⟩, .string ⟨#[73, 102, 45, 82, 97, 110, 103, 101]⟩, .string ⟨#[82, 97, 110, 103, 101]⟩] 9)) w' := by
  have s1 : (w.alloc A).heap.size = w.heap.size + 1 := Array.size_push _
  have s2 : ((w.alloc A).alloc B).heap.size = w.heap.size + 1 + 1 := (Array.size_push _).trans (by rw [s1])
  have s3 : (((w.alloc A).alloc B).alloc C).heap.size = w.heap.size + 1 + 1 + 1 := (Array.size_push _).trans (by rw [s2])
  have h := without_any oa xs cap (some ⟨(((w.alloc A).alloc B).alloc C).heap.size, 0, none⟩) condN 6 ((((w.alloc A).alloc B).alloc C).alloc (.cells (condN.map Value.string).toArray 9)) hn hz ((((hc.down (alloc_b w A)).down (alloc_b _ B)).down (alloc_b _ C)).down (alloc_b _ _)) (by decide) condN_z (StrO.new _ condN)
  have s4 : ((((w.alloc A).alloc B).alloc C).alloc (.cells (condN.map Value.string).toArray 9)).heap.size = w.heap.size + 1 + 1 + 1 + 1 := (Array.size_push _).trans (by rw [s3])
  rw [s4, s3, condA_eq, show condN.length = 6 from rfl] at h
  exact h
theorem etfmt_len {es : List Fd} {b : Bool} {l : List UInt8} (hz : FldZ es 100000) (h : ofE es = some (b, l)) : l.length ≤ 100000 := by
  unfold ofE at h
  cases hg : getF (bs nETag) es with
  | nil => rw [hg] at h; cases h
  | cons x t =>
    rw [hg] at h
    have hx : x.size ≤ 100000 := getF_mem hz (n := bs nETag) (by rw [hg]; simp)
    have h' : etagL (bs x) = some (b, l) := h
    unfold etagL at h'
    split at h'
    · cases h'
      have hw : (weakL (bs x)).1.length ≤ x.size := by
        unfold weakL
        rw [← bs_length]
        split
        · show ((bs x).drop 2).length ≤ _
          rw [List.length_drop]; omega
        · exact Nat.le_refl _
      rw [List.length_take, List.length_drop]; omega
    · cases h'
set_option maxHeartbeats 6400000 in
set_option maxRecDepth 100000 in
theorem valid_any (m tg : ByteArray) (mn : Int) (oa : Option Addr) (xs : List Fd) (cap : Nat) (bd : ByteArray) (k1 k2 k3 : Value) (rs : ByteArray) (oe : Option Addr) (es : List Fd) (cape : Nat) (be : ByteArray) (r1 r2 : Int) (w : World)
    (hn : xs.length ≤ 10000) (hz : FldZ xs 100000) (hc : FldO w oa xs) (hne : es.length ≤ 10000) (hze : FldZ es 100000) (hce : FldO w oe es) :
    Calls Tryz.prog 20 #[reqV m tg mn oa xs.length cap bd, entV k1 k2 k3 rs oe es.length cape be r1 r2] w fun e w' => ∃ (ob : Option Addr) (cb : Nat), e = .returned (reqV m tg mn ob (validL xs es).length cb bd) ∧ FBuf w' w.heap.size (.slice ob (validL xs es).length cb) (validL xs es) ∧ Below w.heap.size w w' := by
  have RR := Lib.hid (rows3 w (reqC m tg mn oa xs.length cap bd) 40 (entC k1 k2 k3 rs oe es.length cape be r1 r2) 43 reqZ 40 (.cells #[.string ⟨#[73, 102, 45, 78, 111, 110, 101, 45, 77, 97, 116, 99, 104]⟩, .string ⟨#[73, 102, 45, 77, 111, 100, 105, 102, 105, 101, 100, 45, 83, 105, 110, 99, 101]⟩, .string ⟨#[73, 102, 45, 77, 97, 116, 99, 104]⟩, .string ⟨#[73, 102, 45, 85, 110, 109, 111, 100, 105, 102, 105, 101, 100, 45, 83, 105, 110, 99, 101]⟩, .string ⟨#[73, 102, 45, 82, 97, 110, 103, 101]⟩, .string ⟨#[82, 97, 110, 103, 101]⟩] 9))
  have HW6 := Lib.hid (without6 oa xs cap w (.cells (reqC m tg mn oa xs.length cap bd).toArray 40) (.cells (entC k1 k2 k3 rs oe es.length cape be r1 r2).toArray 43) (.cells reqZ.toArray 40) hn hz hc)
  have HZE := Lib.hid hze
  have HE := Lib.hid hce
  obtain ⟨ys, hys⟩ : ∃ ys, ys = xs.filter (noneB (condN.map bs)) := ⟨_, rfl⟩
  have hyl : ys.length ≤ 10000 := by rw [hys]; exact Nat.le_trans (List.length_filter_le _ _) hn
  have hl10 : ys.length + 1 ≤ 1000000 := by omega
  rw [← hys] at HW6
  have HYS : Hid (xs.filter (noneB (condN.map bs)) = ys) := Lib.hid hys.symm
  obtain ⟨sv, hsv⟩ : ∃ sv, sv = datedS (bs nLM) es := ⟨_, rfl⟩
  have HSV := Lib.hid hsv
  clear hys hsv hc hce
  rcases ht : ofE es with _ | ⟨tb, tl⟩
  · have HT := Lib.hid ht
    clear ht
    cases hd : (dpt (bs sv)).2 with
    | true =>
      have HSF : Hid (sinceF es = [(nIMS, sv)]) := Lib.hid (by unfold sinceF; rw [← HSV.out, hd]; rfl)
      have HDP : Hid ((dpt (bs sv)).2 = true) := Lib.hid hd
      clear hd hze hz
      go_enter Tryz.func20, Tryz.ntmps20
      go_wp2_with fail
      refine HW6.out.mono ?_
      rintro e w1 ⟨v1, rfl, FB1, hb1⟩
      have Q1 := RR.out.1.belowB hb1 (by omega)
      have E1 := RR.out.2.1.belowB hb1 (by omega)
      have O1 := RR.out.2.2.1.belowB hb1 (by omega)
      have b1 := RR.out.2.2.2.1.trans (hb1.mono (by omega))
      have z1 : w.heap.size + 1 + 1 + 1 ≤ w1.heap.size := by have h1 := hb1.size; have h2 := RR.out.2.2.2.2; omega
      have FB1' := FB1.lower (show w.heap.size + 1 + 1 + 1 ≤ w.heap.size + 1 + 1 + 1 + 1 by omega)
      clear hb1 FB1
      have e4 := E1.cell 4 rfl
      have HO := Lib.hid (of_any oe es cape w1 (by omega) HZE.out (HE.out.down b1))
      go_wp2_with fail
      refine HO.out.mono ?_
      rintro e w2 ⟨he, hb2⟩
      rw [HT.out] at he
      rw [show etagV none = .tuple #[.agg #[.bool false, .string ⟨#[]⟩], .bool false] from rfl] at he
      subst he
      have Q3 := (Q1.below hb2).alloc (.cells #[.bool false, .string ⟨#[]⟩] 73)
      have E3 := (E1.below hb2).alloc (.cells #[.bool false, .string ⟨#[]⟩] 73)
      have O3 := (O1.below hb2).alloc (.cells #[.bool false, .string ⟨#[]⟩] 73)
      have FB3 := (FB1'.below hb2 (Nat.le_refl _)).alloc (.cells #[.bool false, .string ⟨#[]⟩] 73)
      have b3 := step_b (step_b b1 hb2) (alloc_b w2 (.cells #[.bool false, .string ⟨#[]⟩] 73))
      have z3 := le_alloc (Nat.le_trans z1 hb2.size) (.cells #[.bool false, .string ⟨#[]⟩] 73)
      clear hb2 FB1' z1 b1 O1 E1 Q1 HO e4
      have e4 := E3.cell 4 rfl
      have HTV : Hid (tagF es = []) := Lib.hid (by unfold tagF; rw [HT.out])
      have HD := Lib.hid (dated_any oe es cape nLM (w2.alloc (.cells #[.bool false, .string ⟨#[]⟩] 73)) (by decide) (by omega) HZE.out (HE.out.down b3))
      rw [← HSV.out, HDP.out] at HD
      go_wp2_with fail
      refine HD.out.mono ?_
      rintro e w6 ⟨rfl, hb6⟩
      have Q6 := Q3.below hb6
      have O6 := O3.below hb6
      have FB6 := FB3.below hb6 (Nat.le_refl _)
      have b6 := step_b b3 hb6
      have z6 := Nat.le_trans z3 hb6.size
      clear Q3 E3 O3 FB3 b3 z3 hb6 HD e4
      go_wp2_with (at_builtin; refine wpList_append_fld rfl (.tmp 36) (.tmp 39) rfl w6 _ (w.heap.size + 1 + 1 + 1) _ ys rfl (FB6.alloc _) ((Below.refl _ _).alloc z6 _) (le_alloc z6 _) ⟨w6.heap.size, 0, none⟩ (nIMS, sv) rfl (new_f0 w6 (nIMS, sv) _) (new_f1 w6 (nIMS, sv) _) (by simp; omega) ?_)
      intro v7 w7 FB7 hb7 z7
      have Q7 := Q6.belowB hb7 (by omega)
      have O7 := O6.belowB hb7 (by omega)
      have b7 := b6.trans (hb7.mono (by omega))
      clear Q6 O6 FB6 b6 z6 hb7
      obtain ⟨lz, hlz⟩ : ∃ lz, lz = (ys ++ [(nIMS, sv)]) := ⟨_, rfl⟩
      rw [← hlz] at FB7
      have HL : Hid (validL xs es = lz) := Lib.hid (by unfold validL; rw [HTV.out, HSF.out, hlz, HYS.out]; simp)
      clear hlz
      obtain ⟨ob, cb, rfl, _⟩ := FB7.shape
      have e3 := Q7.cell 3 rfl
      have f3 := Q7.free 3
      have Q8 := Q7.set 3 (.slice ob lz.length cb)
      have O8 := O7.setOther (show w.heap.size + 1 + 1 ≠ w.heap.size by omega) 3 (.slice ob lz.length cb)
      have FB8 := FB7.set (g := w.heap.size) (j := 3) (by omega) (.slice ob lz.length cb)
      have b8 := b7.setCell (p := ⟨w.heap.size, 3, none⟩) (Nat.le_refl _) (.slice ob lz.length cb)
      clear Q7 O7 b7
      go_wp2_with (first | (refine wpList_load_rowAt rfl _ 40 (.tmp 2) rfl w.heap.size 40 (reqC m tg mn ob lz.length cb bd) Q8 rfl _ Tryz.underlying40 req_size ?_) | (refine wpList_store_row rfl _ 40 (.tmp 4) (.tmp 43) rfl (w.heap.size + 1 + 1) 40 reqZ (reqC m tg mn ob lz.length cb bd) O8 rfl rfl rfl req_size (req_one _ _ _ _ _ _ _) ?_; intro w9 R9 g1 g2 g3))
      refine bodyPost_ret (results_row1 rfl _ _ (w.heap.size + 1 + 1) 40 (reqC m tg mn ob lz.length cb bd) R9 rfl _ Tryz.underlying40 req_size) rfl ?_
      rw [HL.out]
      exact ⟨ob, cb, rfl, (FB8.others (by omega) g2).lower (by omega), b8.trans (g1 _ (by omega))⟩
    | false =>
      have HSF : Hid (sinceF es = []) := Lib.hid (by unfold sinceF; rw [← HSV.out, hd]; rfl)
      have HDP : Hid ((dpt (bs sv)).2 = false) := Lib.hid hd
      clear hd hze hz
      go_enter Tryz.func20, Tryz.ntmps20
      go_wp2_with fail
      refine HW6.out.mono ?_
      rintro e w1 ⟨v1, rfl, FB1, hb1⟩
      have Q1 := RR.out.1.belowB hb1 (by omega)
      have E1 := RR.out.2.1.belowB hb1 (by omega)
      have O1 := RR.out.2.2.1.belowB hb1 (by omega)
      have b1 := RR.out.2.2.2.1.trans (hb1.mono (by omega))
      have z1 : w.heap.size + 1 + 1 + 1 ≤ w1.heap.size := by have h1 := hb1.size; have h2 := RR.out.2.2.2.2; omega
      have FB1' := FB1.lower (show w.heap.size + 1 + 1 + 1 ≤ w.heap.size + 1 + 1 + 1 + 1 by omega)
      clear hb1 FB1
      have e4 := E1.cell 4 rfl
      have HO := Lib.hid (of_any oe es cape w1 (by omega) HZE.out (HE.out.down b1))
      go_wp2_with fail
      refine HO.out.mono ?_
      rintro e w2 ⟨he, hb2⟩
      rw [HT.out] at he
      rw [show etagV none = .tuple #[.agg #[.bool false, .string ⟨#[]⟩], .bool false] from rfl] at he
      subst he
      have Q3 := (Q1.below hb2).alloc (.cells #[.bool false, .string ⟨#[]⟩] 73)
      have E3 := (E1.below hb2).alloc (.cells #[.bool false, .string ⟨#[]⟩] 73)
      have O3 := (O1.below hb2).alloc (.cells #[.bool false, .string ⟨#[]⟩] 73)
      have FB3 := (FB1'.below hb2 (Nat.le_refl _)).alloc (.cells #[.bool false, .string ⟨#[]⟩] 73)
      have b3 := step_b (step_b b1 hb2) (alloc_b w2 (.cells #[.bool false, .string ⟨#[]⟩] 73))
      have z3 := le_alloc (Nat.le_trans z1 hb2.size) (.cells #[.bool false, .string ⟨#[]⟩] 73)
      clear hb2 FB1' z1 b1 O1 E1 Q1 HO e4
      have e4 := E3.cell 4 rfl
      have HTV : Hid (tagF es = []) := Lib.hid (by unfold tagF; rw [HT.out])
      have HD := Lib.hid (dated_any oe es cape nLM (w2.alloc (.cells #[.bool false, .string ⟨#[]⟩] 73)) (by decide) (by omega) HZE.out (HE.out.down b3))
      rw [← HSV.out, HDP.out] at HD
      go_wp2_with fail
      refine HD.out.mono ?_
      rintro e w6 ⟨rfl, hb6⟩
      have Q6 := Q3.below hb6
      have O6 := O3.below hb6
      have FB6 := FB3.below hb6 (Nat.le_refl _)
      have b6 := step_b b3 hb6
      have z6 := Nat.le_trans z3 hb6.size
      clear Q3 E3 O3 FB3 b3 z3 hb6 HD e4
      obtain ⟨lz, hlz⟩ : ∃ lz, lz = ys := ⟨_, rfl⟩
      rw [← hlz] at FB6
      have HL : Hid (validL xs es = lz) := Lib.hid (by unfold validL; rw [HTV.out, HSF.out, hlz, HYS.out]; simp)
      clear hlz
      obtain ⟨ob, cb, rfl, _⟩ := FB6.shape
      have e3 := Q6.cell 3 rfl
      have f3 := Q6.free 3
      have Q8 := Q6.set 3 (.slice ob lz.length cb)
      have O8 := O6.setOther (show w.heap.size + 1 + 1 ≠ w.heap.size by omega) 3 (.slice ob lz.length cb)
      have FB8 := FB6.set (g := w.heap.size) (j := 3) (by omega) (.slice ob lz.length cb)
      have b8 := b6.setCell (p := ⟨w.heap.size, 3, none⟩) (Nat.le_refl _) (.slice ob lz.length cb)
      clear Q6 O6 b6
      go_wp2_with (first | (refine wpList_load_rowAt rfl _ 40 (.tmp 2) rfl w.heap.size 40 (reqC m tg mn ob lz.length cb bd) Q8 rfl _ Tryz.underlying40 req_size ?_) | (refine wpList_store_row rfl _ 40 (.tmp 4) (.tmp 43) rfl (w.heap.size + 1 + 1) 40 reqZ (reqC m tg mn ob lz.length cb bd) O8 rfl rfl rfl req_size (req_one _ _ _ _ _ _ _) ?_; intro w9 R9 g1 g2 g3))
      refine bodyPost_ret (results_row1 rfl _ _ (w.heap.size + 1 + 1) 40 (reqC m tg mn ob lz.length cb bd) R9 rfl _ Tryz.underlying40 req_size) rfl ?_
      rw [HL.out]
      exact ⟨ob, cb, rfl, (FB8.others (by omega) g2).lower (by omega), b8.trans (g1 _ (by omega))⟩
  · have HT := Lib.hid ht
    have hlt := etfmt_len HZE.out ht
    clear ht
    cases hd : (dpt (bs sv)).2 with
    | true =>
      have HSF : Hid (sinceF es = [(nIMS, sv)]) := Lib.hid (by unfold sinceF; rw [← HSV.out, hd]; rfl)
      have HDP : Hid ((dpt (bs sv)).2 = true) := Lib.hid hd
      clear hd hze hz
      go_enter Tryz.func20, Tryz.ntmps20
      go_wp2_with fail
      refine HW6.out.mono ?_
      rintro e w1 ⟨v1, rfl, FB1, hb1⟩
      have Q1 := RR.out.1.belowB hb1 (by omega)
      have E1 := RR.out.2.1.belowB hb1 (by omega)
      have O1 := RR.out.2.2.1.belowB hb1 (by omega)
      have b1 := RR.out.2.2.2.1.trans (hb1.mono (by omega))
      have z1 : w.heap.size + 1 + 1 + 1 ≤ w1.heap.size := by have h1 := hb1.size; have h2 := RR.out.2.2.2.2; omega
      have FB1' := FB1.lower (show w.heap.size + 1 + 1 + 1 ≤ w.heap.size + 1 + 1 + 1 + 1 by omega)
      clear hb1 FB1
      have e4 := E1.cell 4 rfl
      have HO := Lib.hid (of_any oe es cape w1 (by omega) HZE.out (HE.out.down b1))
      go_wp2_with fail
      refine HO.out.mono ?_
      rintro e w2 ⟨he, hb2⟩
      rw [HT.out] at he
      rw [show etagV (some (tb, tl)) = .tuple #[.agg #[.bool tb, .string ⟨tl.toArray⟩], .bool true] from rfl] at he
      subst he
      have Q3 := (Q1.below hb2).alloc (.cells #[.bool tb, .string ⟨tl.toArray⟩] 73)
      have E3 := (E1.below hb2).alloc (.cells #[.bool tb, .string ⟨tl.toArray⟩] 73)
      have O3 := (O1.below hb2).alloc (.cells #[.bool tb, .string ⟨tl.toArray⟩] 73)
      have FB3 := (FB1'.below hb2 (Nat.le_refl _)).alloc (.cells #[.bool tb, .string ⟨tl.toArray⟩] 73)
      have b3 := step_b (step_b b1 hb2) (alloc_b w2 (.cells #[.bool tb, .string ⟨tl.toArray⟩] 73))
      have z3 := le_alloc (Nat.le_trans z1 hb2.size) (.cells #[.bool tb, .string ⟨tl.toArray⟩] 73)
      clear hb2 FB1' z1 b1 O1 E1 Q1 HO e4
      have e4 := E3.cell 4 rfl
      have HFm := Lib.hid (efmt_any tb ⟨tl.toArray⟩ (w2.alloc (.cells #[.bool tb, .string ⟨tl.toArray⟩] 73)) (by show tl.length ≤ _; omega))
      go_wp2_with fail
      refine HFm.out.mono ?_
      rintro e w3 ⟨rfl, hb3⟩
      have Q4 := Q3.below hb3
      have E4 := E3.below hb3
      have O4 := O3.below hb3
      have FB4 := FB3.below hb3 (Nat.le_refl _)
      have b4 := step_b b3 hb3
      have z4 := Nat.le_trans z3 hb3.size
      obtain ⟨tv, htv⟩ : ∃ tv : ByteArray, (⟨(etfmtL (tb, bs ⟨tl.toArray⟩)).toArray⟩ : ByteArray) = tv := ⟨_, rfl⟩
      rw [htv]
      have HTV : Hid (tagF es = [(nINM, tv)]) := Lib.hid (by unfold tagF; rw [HT.out, ← htv])
      clear Q3 E3 O3 FB3 b3 z3 hb3 HFm e4 htv
      go_wp2_with (at_builtin; refine wpList_append_fld rfl (.tmp 22) (.tmp 26) rfl w3 _ (w.heap.size + 1 + 1 + 1) _ ys rfl (FB4.alloc _) ((Below.refl _ _).alloc z4 _) (le_alloc z4 _) ⟨w3.heap.size, 0, none⟩ (nINM, tv) rfl (new_f0 w3 (nINM, tv) _) (new_f1 w3 (nINM, tv) _) hl10 ?_)
      intro v5 w5 FB5 hb5 z5
      have Q5 := Q4.belowB hb5 (by omega)
      have E5 := E4.belowB hb5 (by omega)
      have O5 := O4.belowB hb5 (by omega)
      have b5 := b4.trans (hb5.mono (by omega))
      have e4 := E5.cell 4 rfl
      clear Q4 E4 O4 FB4 b4 z4 hb5
      have HD := Lib.hid (dated_any oe es cape nLM w5 (by decide) (by omega) HZE.out (HE.out.down b5))
      rw [← HSV.out, HDP.out] at HD
      go_wp2_with fail
      refine HD.out.mono ?_
      rintro e w6 ⟨rfl, hb6⟩
      have Q6 := Q5.below hb6
      have O6 := O5.below hb6
      have FB6 := FB5.below hb6 (Nat.le_refl _)
      have b6 := step_b b5 hb6
      have z6 := Nat.le_trans z5 hb6.size
      clear Q5 E5 O5 FB5 b5 z5 hb6 HD e4
      go_wp2_with (at_builtin; refine wpList_append_fld rfl (.tmp 36) (.tmp 39) rfl w6 _ (w.heap.size + 1 + 1 + 1) _ (ys ++ [(nINM, tv)]) rfl (FB6.alloc _) ((Below.refl _ _).alloc z6 _) (le_alloc z6 _) ⟨w6.heap.size, 0, none⟩ (nIMS, sv) rfl (new_f0 w6 (nIMS, sv) _) (new_f1 w6 (nIMS, sv) _) (by simp; omega) ?_)
      intro v7 w7 FB7 hb7 z7
      have Q7 := Q6.belowB hb7 (by omega)
      have O7 := O6.belowB hb7 (by omega)
      have b7 := b6.trans (hb7.mono (by omega))
      clear Q6 O6 FB6 b6 z6 hb7
      obtain ⟨lz, hlz⟩ : ∃ lz, lz = (ys ++ [(nINM, tv), (nIMS, sv)]) := ⟨_, rfl⟩
      rw [← hlz] at FB7
      have HL : Hid (validL xs es = lz) := Lib.hid (by unfold validL; rw [HTV.out, HSF.out, hlz, HYS.out]; simp)
      clear hlz
      obtain ⟨ob, cb, rfl, _⟩ := FB7.shape
      have e3 := Q7.cell 3 rfl
      have f3 := Q7.free 3
      have Q8 := Q7.set 3 (.slice ob lz.length cb)
      have O8 := O7.setOther (show w.heap.size + 1 + 1 ≠ w.heap.size by omega) 3 (.slice ob lz.length cb)
      have FB8 := FB7.set (g := w.heap.size) (j := 3) (by omega) (.slice ob lz.length cb)
      have b8 := b7.setCell (p := ⟨w.heap.size, 3, none⟩) (Nat.le_refl _) (.slice ob lz.length cb)
      clear Q7 O7 b7
      go_wp2_with (first | (refine wpList_load_rowAt rfl _ 40 (.tmp 2) rfl w.heap.size 40 (reqC m tg mn ob lz.length cb bd) Q8 rfl _ Tryz.underlying40 req_size ?_) | (refine wpList_store_row rfl _ 40 (.tmp 4) (.tmp 43) rfl (w.heap.size + 1 + 1) 40 reqZ (reqC m tg mn ob lz.length cb bd) O8 rfl rfl rfl req_size (req_one _ _ _ _ _ _ _) ?_; intro w9 R9 g1 g2 g3))
      refine bodyPost_ret (results_row1 rfl _ _ (w.heap.size + 1 + 1) 40 (reqC m tg mn ob lz.length cb bd) R9 rfl _ Tryz.underlying40 req_size) rfl ?_
      rw [HL.out]
      exact ⟨ob, cb, rfl, (FB8.others (by omega) g2).lower (by omega), b8.trans (g1 _ (by omega))⟩
    | false =>
      have HSF : Hid (sinceF es = []) := Lib.hid (by unfold sinceF; rw [← HSV.out, hd]; rfl)
      have HDP : Hid ((dpt (bs sv)).2 = false) := Lib.hid hd
      clear hd hze hz
      go_enter Tryz.func20, Tryz.ntmps20
      go_wp2_with fail
      refine HW6.out.mono ?_
      rintro e w1 ⟨v1, rfl, FB1, hb1⟩
      have Q1 := RR.out.1.belowB hb1 (by omega)
      have E1 := RR.out.2.1.belowB hb1 (by omega)
      have O1 := RR.out.2.2.1.belowB hb1 (by omega)
      have b1 := RR.out.2.2.2.1.trans (hb1.mono (by omega))
      have z1 : w.heap.size + 1 + 1 + 1 ≤ w1.heap.size := by have h1 := hb1.size; have h2 := RR.out.2.2.2.2; omega
      have FB1' := FB1.lower (show w.heap.size + 1 + 1 + 1 ≤ w.heap.size + 1 + 1 + 1 + 1 by omega)
      clear hb1 FB1
      have e4 := E1.cell 4 rfl
      have HO := Lib.hid (of_any oe es cape w1 (by omega) HZE.out (HE.out.down b1))
      go_wp2_with fail
      refine HO.out.mono ?_
      rintro e w2 ⟨he, hb2⟩
      rw [HT.out] at he
      rw [show etagV (some (tb, tl)) = .tuple #[.agg #[.bool tb, .string ⟨tl.toArray⟩], .bool true] from rfl] at he
      subst he
      have Q3 := (Q1.below hb2).alloc (.cells #[.bool tb, .string ⟨tl.toArray⟩] 73)
      have E3 := (E1.below hb2).alloc (.cells #[.bool tb, .string ⟨tl.toArray⟩] 73)
      have O3 := (O1.below hb2).alloc (.cells #[.bool tb, .string ⟨tl.toArray⟩] 73)
      have FB3 := (FB1'.below hb2 (Nat.le_refl _)).alloc (.cells #[.bool tb, .string ⟨tl.toArray⟩] 73)
      have b3 := step_b (step_b b1 hb2) (alloc_b w2 (.cells #[.bool tb, .string ⟨tl.toArray⟩] 73))
      have z3 := le_alloc (Nat.le_trans z1 hb2.size) (.cells #[.bool tb, .string ⟨tl.toArray⟩] 73)
      clear hb2 FB1' z1 b1 O1 E1 Q1 HO e4
      have e4 := E3.cell 4 rfl
      have HFm := Lib.hid (efmt_any tb ⟨tl.toArray⟩ (w2.alloc (.cells #[.bool tb, .string ⟨tl.toArray⟩] 73)) (by show tl.length ≤ _; omega))
      go_wp2_with fail
      refine HFm.out.mono ?_
      rintro e w3 ⟨rfl, hb3⟩
      have Q4 := Q3.below hb3
      have E4 := E3.below hb3
      have O4 := O3.below hb3
      have FB4 := FB3.below hb3 (Nat.le_refl _)
      have b4 := step_b b3 hb3
      have z4 := Nat.le_trans z3 hb3.size
      obtain ⟨tv, htv⟩ : ∃ tv : ByteArray, (⟨(etfmtL (tb, bs ⟨tl.toArray⟩)).toArray⟩ : ByteArray) = tv := ⟨_, rfl⟩
      rw [htv]
      have HTV : Hid (tagF es = [(nINM, tv)]) := Lib.hid (by unfold tagF; rw [HT.out, ← htv])
      clear Q3 E3 O3 FB3 b3 z3 hb3 HFm e4 htv
      go_wp2_with (at_builtin; refine wpList_append_fld rfl (.tmp 22) (.tmp 26) rfl w3 _ (w.heap.size + 1 + 1 + 1) _ ys rfl (FB4.alloc _) ((Below.refl _ _).alloc z4 _) (le_alloc z4 _) ⟨w3.heap.size, 0, none⟩ (nINM, tv) rfl (new_f0 w3 (nINM, tv) _) (new_f1 w3 (nINM, tv) _) hl10 ?_)
      intro v5 w5 FB5 hb5 z5
      have Q5 := Q4.belowB hb5 (by omega)
      have E5 := E4.belowB hb5 (by omega)
      have O5 := O4.belowB hb5 (by omega)
      have b5 := b4.trans (hb5.mono (by omega))
      have e4 := E5.cell 4 rfl
      clear Q4 E4 O4 FB4 b4 z4 hb5
      have HD := Lib.hid (dated_any oe es cape nLM w5 (by decide) (by omega) HZE.out (HE.out.down b5))
      rw [← HSV.out, HDP.out] at HD
      go_wp2_with fail
      refine HD.out.mono ?_
      rintro e w6 ⟨rfl, hb6⟩
      have Q6 := Q5.below hb6
      have O6 := O5.below hb6
      have FB6 := FB5.below hb6 (Nat.le_refl _)
      have b6 := step_b b5 hb6
      have z6 := Nat.le_trans z5 hb6.size
      clear Q5 E5 O5 FB5 b5 z5 hb6 HD e4
      obtain ⟨lz, hlz⟩ : ∃ lz, lz = (ys ++ [(nINM, tv)]) := ⟨_, rfl⟩
      rw [← hlz] at FB6
      have HL : Hid (validL xs es = lz) := Lib.hid (by unfold validL; rw [HTV.out, HSF.out, hlz, HYS.out]; simp)
      clear hlz
      obtain ⟨ob, cb, rfl, _⟩ := FB6.shape
      have e3 := Q6.cell 3 rfl
      have f3 := Q6.free 3
      have Q8 := Q6.set 3 (.slice ob lz.length cb)
      have O8 := O6.setOther (show w.heap.size + 1 + 1 ≠ w.heap.size by omega) 3 (.slice ob lz.length cb)
      have FB8 := FB6.set (g := w.heap.size) (j := 3) (by omega) (.slice ob lz.length cb)
      have b8 := b6.setCell (p := ⟨w.heap.size, 3, none⟩) (Nat.le_refl _) (.slice ob lz.length cb)
      clear Q6 O6 b6
      go_wp2_with (first | (refine wpList_load_rowAt rfl _ 40 (.tmp 2) rfl w.heap.size 40 (reqC m tg mn ob lz.length cb bd) Q8 rfl _ Tryz.underlying40 req_size ?_) | (refine wpList_store_row rfl _ 40 (.tmp 4) (.tmp 43) rfl (w.heap.size + 1 + 1) 40 reqZ (reqC m tg mn ob lz.length cb bd) O8 rfl rfl rfl req_size (req_one _ _ _ _ _ _ _) ?_; intro w9 R9 g1 g2 g3))
      refine bodyPost_ret (results_row1 rfl _ _ (w.heap.size + 1 + 1) 40 (reqC m tg mn ob lz.length cb bd) R9 rfl _ Tryz.underlying40 req_size) rfl ?_
      rw [HL.out]
      exact ⟨ob, cb, rfl, (FB8.others (by omega) g2).lower (by omega), b8.trans (g1 _ (by omega))⟩
end Go.Proofs.YtjafkpedocdfjaaGreatDoor
