/- The walks of layer 11 in the reference: subtags, tags, ranges. -/
import Derived.Test.YtfkgjjoejcbdnaaDoorLangW1
import Derived.Test.YtfkgjjoejcbdnaaDoorIdxW
import Derived.Deep.RegionHeld3
import Derived.Deep.RegionLaw
import Derived.IntWalk
namespace Go.Proofs.YtfkgjjoejcbdnaaDoor
open Go.RowKit

theorem infoStr : (Tryd.prog.info? 9).map (fun i => (i.zero, i.size, i.bytes)) = some (some (.string ByteArray.empty), 1, 16) := by kernel_rfl
/-- The slice v is a row of the call's own that holds just these strings. -/
def SBuf (w : World) (B : Nat) (v : Value) (xs : List ByteArray) : Prop := w.ownsRow B 9 1 v xs.length (xs.map Value.string)
theorem SBuf.nil_ (w : World) (B : Nat) : SBuf w B (.slice none 0 0) [] := World.ownsRow_nil w B _ 1
theorem SBuf.alloc {w : World} {B : Nat} {v : Value} {xs : List ByteArray} (h : SBuf w B v xs) (o : Obj) : SBuf (w.alloc o) B v xs := World.ownsRow.alloc h o
theorem SBuf.drew {w : World} {B : Nat} {v : Value} {xs : List ByteArray} (h : SBuf w B v xs) : SBuf w.drew B v xs := h
theorem SBuf.form {w : World} {B : Nat} {v : Value} {xs : List ByteArray} (h : SBuf w B v xs) (hn : 0 < xs.length) : ∃ g cap, v = .slice (some ⟨g, 0, none⟩) xs.length cap ∧ B ≤ g ∧ g < w.heap.size ∧ StrCells w g 0 xs := by
  rcases h.2 with ⟨_, h0⟩ | ⟨g, cap, cur, rfl, h2, h3, h4⟩
  · omega
  · refine ⟨g, cap, rfl, h2, ?_, fun i x hx => ?_⟩
    · rcases Nat.lt_or_ge g w.heap.size with hlt | hge
      · exact hlt
      · rw [Array.getElem?_eq_none hge] at h3; cases h3
    · have hc := World.ownsRow.cells h (g := g) rfl i (.string x) (by simp [hx])
      have ea : (⟨g, 0, none⟩ : Addr).add i = ⟨g, 0 + i, none⟩ := by unfold Addr.add; by_cases h0 : i = 0 <;> simp [h0]
      rw [ea] at hc; exact hc
theorem wpList_append_str {ops : Array Oper} {rest : List Oper} {o : Oper} {a : Act} {Q : Exit → Act → World → Prop} (hgd : o.guard = none) (s x : Operand)
    (ho : o.op = .call { callee := .builtin .append, args := #[s, x], argTypes := #[28, 28] })
    (w0 w : World) (B : Nat) (v : Value) (xs : List ByteArray) (hs : a.eval s = v) (hown : SBuf w B v xs) (hb : Below B w0 w) (hB : B ≤ w.heap.size)
    (ad : Addr) (c : ByteArray) (hx : a.eval x = .slice (some ad) 1 1) (hc : w.cell? ad = some (.string c)) (hl : xs.length + 1 ≤ 1000000)
    (h : ∀ v' w', SBuf w' B v' (xs ++ [c]) → Below B w0 w' → B ≤ w'.heap.size → wpList Tryd.prog ops Q rest (a.put o.dst v') w') : wpList Tryd.prog ops Q (o :: rest) a w := by
  obtain ⟨i, hi, hz0, hz1, hz2⟩ := info_parts infoStr
  refine wpList_append_own w hgd s x 28 ho B 9 i (.string ByteArray.empty) 1 16 Tryd.underlying28 hi hz0 hz1 hz2 rfl (by decide) v xs.length _ hs hown ad 1 1 [.string c] hx rfl ?_ ?_ (by unfold maxLen; omega) (by omega) hB ?_
  · intro j u hj
    rcases j with _ | j
    · simp at hj; subst hj
      have : ad.add 0 = ad := by unfold Addr.add; simp
      rw [this]; exact hc
    · simp at hj
  · intro u hu
    simp at hu; subst hu; rfl
  · intro v' w' hown' hg _
    refine h v' w' ?_ (hb.grown hg hB (fun j hj => (World.ownsRow.lt hown j hj).1)) (Nat.le_trans hB hg.size)
    unfold SBuf
    simpa using hown'
theorem step_append_str {ops : Array Oper} {o : Oper} {a : Act} {K : Act → World → Prop} {Q : Exit → Act → World → Prop} {E : Prop} (hgd : o.guard = none) (s x : Operand)
    (ho : o.op = .call { callee := .builtin .append, args := #[s, x], argTypes := #[28, 28] })
    (w0 w : World) (B : Nat) (v : Value) (xs : List ByteArray) (hs : a.eval s = v) (hown : SBuf w B v xs) (hb : Below B w0 w) (hB : B ≤ w.heap.size)
    (ad : Addr) (c : ByteArray) (hx : a.eval x = .slice (some ad) 1 1) (hc : w.cell? ad = some (.string c)) (hl : xs.length + 1 ≤ 1000000)
    (h : ∀ v' w', SBuf w' B v' (xs ++ [c]) → Below B w0 w' → B ≤ w'.heap.size → K (a.put o.dst v') w') :
    if Region.wanted o (yielded ops a.tmps) = true then Oper.wp Tryd.prog o a w K Q else E := by
  have hw : Region.wanted o (yielded ops a.tmps) = true := by simp [Region.wanted, hgd]
  rw [if_pos hw]
  obtain ⟨i, hi, hz0, hz1, hz2⟩ := info_parts infoStr
  refine wp_append_own w s x 28 ho B 9 i (.string ByteArray.empty) 1 16 Tryd.underlying28 hi hz0 hz1 hz2 rfl (by decide) v xs.length _ hs hown ad 1 1 [.string c] hx rfl ?_ ?_ (by unfold maxLen; omega) (by omega) hB ?_
  · intro j u hj
    rcases j with _ | j
    · simp at hj; subst hj
      have : ad.add 0 = ad := by unfold Addr.add; simp
      rw [this]; exact hc
    · simp at hj
  · intro u hu
    simp at hu; subst hu; rfl
  · intro v' w' hown' hg _
    refine h v' w' ?_ (hb.grown hg hB (fun j hj => (World.ownsRow.lt hown j hj).1)) (Nat.le_trans hB hg.size)
    unfold SBuf
    simpa using hown'
theorem cell_new_drew (w : World) (v : Value) (t : TypeId) : (w.alloc (.cells #[v] t)).drew.cell? ⟨w.heap.size, 0, none⟩ = some v := cell_new w v t
/-- The pieces that stand, and what is left to cut. -/
def SubsAt (s : ByteArray) (t : ByteArray) (xs : List ByteArray) : Prop := splitC 45 (bs s) = xs.map bs ++ splitC 45 (bs t) ∧ xs.length + t.size ≤ s.size
/-- The subtags of a text as a slice of strings. -/
def SubsOf (s : ByteArray) (w : World) (e : Ending) (w' : World) : Prop := ∃ v xs, e = .returned v ∧ SBuf w' w.heap.size v xs ∧ xs.map bs = splitC 45 (bs s) ∧ Below w.heap.size w w'
set_option maxHeartbeats 3200000 in
theorem subtags_any (s : ByteArray) (w : World) (hs : s.size ≤ 100000) :
    Calls Tryd.prog 26 #[.string s] w (SubsOf s w) := by
  go_enter Tryd.func26, Tryd.ntmps26
  go_wp2_with fail
  go_loopw [0, 3] (fun v o wr => ∃ (t : ByteArray) (xs : List ByteArray), v = .string t ∧ Hid (SubsAt s t xs) ∧ t.size ≤ s.size ∧ xs.length ≤ s.size ∧ SBuf wr w.heap.size o xs ∧ Below w.heap.size w wr ∧ w.heap.size ≤ wr.heap.size) (fun v _ _ => match v with | .string t => t.size | _ => 0)
  case atStart => exact ⟨s, [], rfl, Lib.hid ⟨rfl, by simp⟩, Nat.le_refl _, by simp, SBuf.nil_ _ _, Below.refl _ _, Nat.le_refl _⟩
  case round =>
    obtain ⟨t, xs, rfl, H, ht, hx, hB, hb, hz⟩ := hrel
    have hlen : xs.length + 1 ≤ 1000000 := by omega
    rcases idxFrom_bd 45 (bs t) 0 with ⟨hi, hc⟩ | ⟨i, hi, _, hi2, hc⟩
    · have HI := Lib.hid hi
      have HF : Hid ((xs ++ [t]).map bs = splitC 45 (bs s)) := Lib.hid (by
        rw [H.out.1]
        rcases splitC_cut 45 (bs t) with ⟨a, b, h1, _⟩ | ⟨_, h2⟩
        · rw [List.drop_zero] at hc; rw [hc] at h1; simp at h1
        · rw [h2]; simp)
      clear hi hc
      go_wp2_with fail
      refine (index_any t 45 0 _ _ _ rfl rfl (by omega) (by omega)).mono ?_
      rintro e w' ⟨rfl, rfl⟩
      rw [HI.out]
      go_wp2_with (at_builtin; refine wpList_append_str rfl (.tmp 9) (.tmp 11) rfl w _ w.heap.size _ xs rfl (hB.alloc _) (hb.alloc hz _) (le_alloc hz _) ⟨wr.heap.size, 0, none⟩ t rfl (cell_new wr _ _) hlen ?_)
      intro v1 w1 hB1 hb1 hz1
      clear hB hb hz
      go_wp2
      go_ret
      exact ⟨v1, _, rfl, hB1, HF.out, hb1⟩
    · rw [bs_length] at hi2
      rw [List.drop_zero] at hc
      simp only [Nat.sub_zero] at hc
      have HI := Lib.hid hi
      obtain ⟨x1, HX1⟩ : ∃ x, Hid (x = t.extract 0 i) := ⟨_, Lib.hid rfl⟩
      obtain ⟨x2, HX2⟩ : ∃ x, Hid (x = t.extract (i + 1) t.size) := ⟨_, Lib.hid rfl⟩
      have z2 : x2.size = t.size - (i + 1) := by rw [HX2.out, ByteArray.size_extract]; omega
      have hx1 : bs x1 = (bs t).take i := by rw [HX1.out, bs_take]
      have hx2 : bs x2 = (bs t).drop (i + 1) := by rw [HX2.out, bs_from]
      have HS : Hid (SubsAt s x2 (xs ++ [x1])) := Lib.hid (by
        refine ⟨?_, by have := H.out.2; rw [z2]; simp; omega⟩
        rw [H.out.1]
        rcases splitC_cut 45 (bs t) with ⟨a, b, h1, h2, _⟩ | ⟨h1, _⟩
        · rw [hc] at h1; simp at h1
          obtain ⟨rfl, rfl⟩ := h1
          rw [h2, hx2]; simp [hx1]
        · rw [hc] at h1; simp at h1)
      have zz : xs.length + 1 ≤ s.size := by have := H.out.2; omega
      have z3 : x2.size < t.size := by omega
      have s1 : ∀ wx, (Instr.slice 9 (.string t) none (some (.int .i64 (i : Int))) none).run Tryd.prog wx = .ok (.string x1) wx := fun wx => by
        rw [HX1.out]; exact run_slice_string_h wx 9 t Tryd.underlying9 .i64 i (by omega) (by omega)
      have s2 : ∀ wx, (Instr.slice 9 (.string t) (some (.int .i64 ((i : Int) + 1))) none none).run Tryd.prog wx = .ok (.string x2) wx := fun wx => by
        rw [HX2.out, run_slice_string_l wx 9 t Tryd.underlying9 .i64 ((i : Int) + 1) (by omega) (by omega)]
        rw [show ((i : Int) + 1).toNat = i + 1 from by omega]
      have wi : IntKind.i64.wrap ((i : Int) + 1) = (i : Int) + 1 := IntWalk.i64_in _ (by omega)
      clear hi hc hx1 hx2 z2 H
      go_wp2_with fail
      refine (index_any t 45 0 _ _ _ rfl rfl (by omega) (by omega)).mono ?_
      rintro e w' ⟨rfl, rfl⟩
      rw [HI.out]
      go_wp2_with fail
      go_region_held3 (fun _ => True) (trivial) (first | (refine step_append_str rfl (.tmp 13) (.tmp 17) rfl w _ w.heap.size _ xs rfl (hB.alloc _).drew (hb.alloc hz _).drew (le_alloc hz _) ⟨wr.heap.size, 0, none⟩ x1 rfl (cell_new_drew wr _ _) hlen ?_; intro v1 w1 hB1 hb1 hz1))
      clear hB hb hz
      go_wp2_with fail
      go_roundw
      case rel => exact ⟨x2, xs ++ [x1], rfl, HS, by omega, by simp; omega, hB1, hb1, hz1⟩
      case measure => exact z3
/-- A byte of a subtag, in the reference's tests. -/
theorem rsub_ways (d : Bool) (c : UInt8) :
    (subC d c = true ∧ 97 ≤ (c.toNat : Int) ∧ (c.toNat : Int) ≤ 122) ∨
    (subC d c = true ∧ ¬ 97 ≤ (c.toNat : Int) ∧ 65 ≤ (c.toNat : Int) ∧ (c.toNat : Int) ≤ 90) ∨
    (subC d c = true ∧ d = true ∧ digB c = true ∧ ¬ 97 ≤ (c.toNat : Int) ∧ ¬ 65 ≤ (c.toNat : Int)) ∨
    (subC d c = false ∧ d = false ∧ ¬ 97 ≤ (c.toNat : Int) ∧ ¬ 65 ≤ (c.toNat : Int)) ∨
    (subC d c = false ∧ d = false ∧ ¬ 97 ≤ (c.toNat : Int) ∧ 65 ≤ (c.toNat : Int) ∧ ¬ (c.toNat : Int) ≤ 90) ∨
    (subC d c = false ∧ d = false ∧ 97 ≤ (c.toNat : Int) ∧ ¬ (c.toNat : Int) ≤ 122 ∧ 65 ≤ (c.toNat : Int) ∧ ¬ (c.toNat : Int) ≤ 90) ∨
    (subC d c = false ∧ d = true ∧ digB c = false ∧ ¬ 97 ≤ (c.toNat : Int) ∧ ¬ 65 ≤ (c.toNat : Int)) ∨
    (subC d c = false ∧ d = true ∧ digB c = false ∧ ¬ 97 ≤ (c.toNat : Int) ∧ 65 ≤ (c.toNat : Int) ∧ ¬ (c.toNat : Int) ≤ 90) ∨
    (subC d c = false ∧ d = true ∧ digB c = false ∧ 97 ≤ (c.toNat : Int) ∧ ¬ (c.toNat : Int) ≤ 122 ∧ 65 ≤ (c.toNat : Int) ∧ ¬ (c.toNat : Int) ≤ 90) := by
  have ha := alC_iff (c := c)
  have hd : digB c = true → 48 ≤ c.toNat ∧ c.toNat ≤ 57 := of_digB
  unfold subC
  cases h1 : alC c with
  | true =>
    have := ha.1 h1
    by_cases h2 : 97 ≤ (c.toNat : Int)
    · left; exact ⟨rfl, h2, by omega⟩
    · right; left; exact ⟨rfl, h2, by omega, by omega⟩
  | false =>
    have h1' : ¬ (97 ≤ c.toNat ∧ c.toNat ≤ 122 ∨ 65 ≤ c.toNat ∧ c.toNat ≤ 90) := fun h => by rw [ha.2 h] at h1; cases h1
    right; right
    cases d with
    | false =>
      right
      by_cases h2 : 97 ≤ (c.toNat : Int)
      · right; right; left; exact ⟨by simp, rfl, h2, by omega, by omega, by omega⟩
      · by_cases h3 : 65 ≤ (c.toNat : Int)
        · right; left; exact ⟨by simp, rfl, h2, h3, by omega⟩
        · left; exact ⟨by simp, rfl, h2, h3⟩
    | true =>
      cases h3 : digB c with
      | true => have := hd h3; left; exact ⟨by simp, rfl, rfl, by omega, by omega⟩
      | false =>
        right; right; right; right
        by_cases h2 : 97 ≤ (c.toNat : Int)
        · right; right; exact ⟨by simp, rfl, rfl, h2, by omega, by omega, by omega⟩
        · by_cases h4 : 65 ≤ (c.toNat : Int)
          · right; left; exact ⟨by simp, rfl, rfl, h2, h4, by omega⟩
          · left; exact ⟨by simp, rfl, rfl, h2, h4⟩
theorem rdigit_any (c : UInt8) (w : World) :
    Calls Tryd.prog 27 #[.int .u8 c.toNat] w fun e w' => e = .returned (.bool (digB c)) ∧ w = w' := by
  go_enter Tryd.func27, Tryd.ntmps27
  go_wp2
  all_goals (go_ret; exact ⟨ret_bool (by rw [Bool.eq_iff_iff]; simp [digB]; omega), rfl⟩)
/-- The inner loop of the reference's Tag is one subtag; the size first. -/
theorem sub_size {d : Bool} {x : List UInt8} (h : x.length < 1 ∨ 8 < x.length) : subB d x = false := by
  unfold subB
  rcases h with h | h
  · have : x = [] := List.length_eq_zero_iff.1 (by omega)
    subst this; simp
  · rw [decide_eq_false (by omega)]; simp
theorem sub_bytes {d : Bool} {x : List UInt8} (h : 1 ≤ x.length) (h' : x.length ≤ 8) : subB d x = x.all (subC d) := by
  unfold subB
  have : x.isEmpty = false := by cases x with | nil => simp at h | cons => rfl
  rw [this, decide_eq_true h']; simp
set_option maxHeartbeats 6400000 in
theorem rtag_any (s : ByteArray) (w : World) (hs : s.size ≤ 100000) :
    Calls Tryd.prog 10 #[.string s] w fun e w' => e = .returned (.bool (tagB (bs s))) ∧ Below w.heap.size w w' := by
  go_enter Tryd.func10, Tryd.ntmps10
  go_wp2_with fail
  refine (subtags_any s _ hs).mono ?_
  rintro e w1 ⟨v, xs, rfl, hB, hxs, hb1⟩
  have hlen : xs.length ≤ s.size + 1 := by
    have h1 := splitC_len 45 (bs s)
    rw [← hxs, List.length_map, bs_length] at h1; exact h1
  have hpos : 0 < xs.length := by
    rcases Nat.eq_zero_or_pos xs.length with h | h
    · exfalso
      have : xs = [] := List.length_eq_zero_iff.1 h
      subst this
      exact splitC_ne 45 (bs s) hxs.symm
    · exact h
  obtain ⟨g, cap, rfl, hg1, hg2, hc⟩ := hB.form hpos
  have HXS := Lib.hid hxs
  have HC := Lib.hid hc
  clear hxs hB hc
  go_wp2_with fail
  go_loop [4] (fun j => ∃ k : Nat, k ≤ xs.length ∧ j = .int .i64 k ∧ Hid (tagB (bs s) = tagsFrom k ((xs.map bs).drop k))) (fun j => xs.length - (intOf j).toNat)
  case atStart => exact ⟨0, by omega, rfl, Lib.hid (by unfold tagB; rw [← HXS.out]; rfl)⟩
  case round =>
    obtain ⟨k, hk, rfl, H⟩ := hrel
    by_cases hlt : k < xs.length
    · obtain ⟨x, hx⟩ : ∃ x, xs[k]? = some x := ⟨_, List.getElem?_eq_getElem hlt⟩
      have hcx : w1.cell? ⟨g, k, none⟩ = some (.string x) := by
        have := HC.out k x hx
        rwa [Nat.zero_add] at this
      have Hs := Lib.hid (tagsFrom_at hx)
      have zx := piece_size HXS.out hx
      clear hx
      obtain ⟨d, HDD⟩ : ∃ d, Hid (d = decide (0 < k)) := ⟨_, Lib.hid rfl⟩
      by_cases hz1 : x.size < 1
      · have HV := Lib.hid (sub_size (d := d) (x := bs x) (by rw [bs_length]; omega))
        have hz' : (x.size : Int) < 1 := by omega
        clear hz1
        go_wp2_with fail
        go_ret
        exact ⟨ret_bool (by rw [H.out, Hs.out, ← HDD.out, HV.out]; rfl), hb1⟩
      by_cases hz2 : 8 < x.size
      · have HV := Lib.hid (sub_size (d := d) (x := bs x) (by rw [bs_length]; omega))
        have hz' : ¬ (x.size : Int) < 1 := by omega
        have hz'' : 8 < (x.size : Int) := by omega
        clear hz1 hz2
        go_wp2_with fail
        go_ret
        exact ⟨ret_bool (by rw [H.out, Hs.out, ← HDD.out, HV.out]; rfl), hb1⟩
      have HV := Lib.hid (sub_bytes (d := d) (x := bs x) (by rw [bs_length]; omega) (by rw [bs_length]; omega))
      have hz' : ¬ (x.size : Int) < 1 := by omega
      have hz'' : ¬ 8 < (x.size : Int) := by omega
      clear hz1 hz2
      go_wp2_with fail
      go_loop [5] (fun j => ∃ n : Nat, n ≤ x.size ∧ j = .int .i64 n ∧ Hid ((bs x).all (subC d) = ((bs x).drop n).all (subC d))) (fun j => x.size - (intOf j).toNat)
      case atStart => exact ⟨0, by omega, rfl, Lib.hid rfl⟩
      case round =>
        obtain ⟨n, hn, rfl, N⟩ := hrel
        by_cases hlt' : n < x.size
        · have Ns := Lib.hid (all_step' (subC d) x hlt')
          have hk0 : (d = true ∧ 0 < (k : Int)) ∨ (d = false ∧ ¬ 0 < (k : Int)) := by
            rw [HDD.out]
            by_cases h : 0 < k
            · exact .inl ⟨decide_eq_true h, by omega⟩
            · exact .inr ⟨decide_eq_false h, by omega⟩
          rcases rsub_ways d x[n] with ⟨hd, q1, q2⟩ | ⟨hd, q1, q2, q3⟩ | ⟨hd, q0, hg, q1, q2⟩ | ⟨hd, q0, q1, q2⟩ | ⟨hd, q0, q1, q2, q3⟩ | ⟨hd, q0, q1, q2, q3, q4⟩ | ⟨hd, q0, hg, q1, q2⟩ | ⟨hd, q0, hg, q1, q2, q3⟩ | ⟨hd, q0, hg, q1, q2, q3, q4⟩
          · have HD := Lib.hid hd
            clear hd hk0
            go_wp2_with fail
            go_round
            case rel => exact ⟨n + 1, by omega, by go_num, Lib.hid (by rw [N.out, Ns.out, HD.out]; rfl)⟩
            case measure => simp [intOf]; omega
          · have HD := Lib.hid hd
            clear hd hk0
            go_wp2_with fail
            go_round
            case rel => exact ⟨n + 1, by omega, by go_num, Lib.hid (by rw [N.out, Ns.out, HD.out]; rfl)⟩
            case measure => simp [intOf]; omega
          · have HD := Lib.hid hd
            have k1 : 0 < (k : Int) := by rcases hk0 with ⟨_, h⟩ | ⟨h, _⟩
                                          · exact h
                                          · rw [h] at q0; cases q0
            have HG := Lib.hid hg
            clear hg
            clear hd hk0 q0
            go_wp2_with fail
            refine (rdigit_any _ _).mono ?_
            rintro _ _ ⟨rfl, rfl⟩
            rw [HG.out]
            go_wp2_with fail
            go_round
            case rel => exact ⟨n + 1, by omega, by go_num, Lib.hid (by rw [N.out, Ns.out, HD.out]; rfl)⟩
            case measure => simp [intOf]; omega
          · have HD := Lib.hid hd
            have k1 : ¬ 0 < (k : Int) := by rcases hk0 with ⟨h, _⟩ | ⟨_, h⟩
                                            · rw [h] at q0; cases q0
                                            · exact h
            clear hd hk0 q0
            go_wp2_with fail
            go_ret
            exact ⟨ret_bool (by rw [H.out, Hs.out, ← HDD.out, HV.out, N.out, Ns.out, HD.out]; rfl), hb1⟩
          · have HD := Lib.hid hd
            have k1 : ¬ 0 < (k : Int) := by rcases hk0 with ⟨h, _⟩ | ⟨_, h⟩
                                            · rw [h] at q0; cases q0
                                            · exact h
            clear hd hk0 q0
            go_wp2_with fail
            go_ret
            exact ⟨ret_bool (by rw [H.out, Hs.out, ← HDD.out, HV.out, N.out, Ns.out, HD.out]; rfl), hb1⟩
          · have HD := Lib.hid hd
            have k1 : ¬ 0 < (k : Int) := by rcases hk0 with ⟨h, _⟩ | ⟨_, h⟩
                                            · rw [h] at q0; cases q0
                                            · exact h
            clear hd hk0 q0
            go_wp2_with fail
            go_ret
            exact ⟨ret_bool (by rw [H.out, Hs.out, ← HDD.out, HV.out, N.out, Ns.out, HD.out]; rfl), hb1⟩
          · have HD := Lib.hid hd
            have k1 : 0 < (k : Int) := by rcases hk0 with ⟨_, h⟩ | ⟨h, _⟩
                                          · exact h
                                          · rw [h] at q0; cases q0
            have HG := Lib.hid hg
            clear hg
            clear hd hk0 q0
            go_wp2_with fail
            refine (rdigit_any _ _).mono ?_
            rintro _ _ ⟨rfl, rfl⟩
            rw [HG.out]
            go_wp2_with fail
            go_ret
            exact ⟨ret_bool (by rw [H.out, Hs.out, ← HDD.out, HV.out, N.out, Ns.out, HD.out]; rfl), hb1⟩
          · have HD := Lib.hid hd
            have k1 : 0 < (k : Int) := by rcases hk0 with ⟨_, h⟩ | ⟨h, _⟩
                                          · exact h
                                          · rw [h] at q0; cases q0
            have HG := Lib.hid hg
            clear hg
            clear hd hk0 q0
            go_wp2_with fail
            refine (rdigit_any _ _).mono ?_
            rintro _ _ ⟨rfl, rfl⟩
            rw [HG.out]
            go_wp2_with fail
            go_ret
            exact ⟨ret_bool (by rw [H.out, Hs.out, ← HDD.out, HV.out, N.out, Ns.out, HD.out]; rfl), hb1⟩
          · have HD := Lib.hid hd
            have k1 : 0 < (k : Int) := by rcases hk0 with ⟨_, h⟩ | ⟨h, _⟩
                                          · exact h
                                          · rw [h] at q0; cases q0
            have HG := Lib.hid hg
            clear hg
            clear hd hk0 q0
            go_wp2_with fail
            refine (rdigit_any _ _).mono ?_
            rintro _ _ ⟨rfl, rfl⟩
            rw [HG.out]
            go_wp2_with fail
            go_ret
            exact ⟨ret_bool (by rw [H.out, Hs.out, ← HDD.out, HV.out, N.out, Ns.out, HD.out]; rfl), hb1⟩
        · have Ne := Lib.hid (all_end' (subC d) x (k := n) (by omega))
          go_wp2_with fail
          go_round
          case rel => exact ⟨k + 1, by omega, by go_num, Lib.hid (by rw [H.out, Hs.out, ← HDD.out, HV.out, N.out, Ne.out]; rfl)⟩
          case measure => simp [intOf]; omega
    · have He := Lib.hid (tagsFrom_end k (xs := xs) (by omega))
      go_wp2_with fail
      go_ret
      exact ⟨ret_bool (by rw [H.out, He.out]), hb1⟩
theorem rrange_any (s : ByteArray) (w : World) (hs : s.size ≤ 100000) :
    Calls Tryd.prog 12 #[.string s] w fun e w' => e = .returned (.bool (rangeB (bs s))) ∧ Below w.heap.size w w' := by
  by_cases h : bs s = [42]
  · have h' : s.toList = [42] := by rw [Lib.toList_data]; exact h
    have HF : Hid (rangeB (bs s) = true) := Lib.hid (by rw [h]; rfl)
    clear h
    go_enter Tryd.func12, Tryd.ntmps12
    go_wp2_with fail
    go_ret
    exact ⟨by rw [HF.out]; rfl, Below.refl _ _⟩
  have h' : (s.toList == [42]) = false := by rw [Lib.toList_data]; exact beq_eq_false_iff_ne.2 h
  have HF : Hid (rangeB (bs s) = tagB (bs s)) := Lib.hid (by unfold rangeB; rw [beq_eq_false_iff_ne.2 h]; rfl)
  clear h
  go_enter Tryd.func12, Tryd.ntmps12
  go_wp2_with fail
  refine (rtag_any s _ hs).mono ?_
  rintro e w1 ⟨rfl, hb1⟩
  go_wp2_with fail
  go_ret
  exact ⟨by rw [HF.out]; rfl, hb1⟩
end Go.Proofs.YtfkgjjoejcbdnaaDoor
