/- What the listed variables give the walks of law 25: the table of powers of ten. The plain law of HopNamed: a field that Connection names. The walks of the reference's token (1.1): lines of AsciiW1. The walk of HopNamed. Printed by gen_hopn.py. -/
import Derived.Test.YtlcchcbeebakpaaDoorDecW
import Derived.Test.YtlcchcbeebakpaaDoorPost
import Derived.Test.YtlcchcbeebakpaaDoorHopL
import Derived.Test.YtlcchcbeebakpaaDoorAsciiP
import Derived.Test.YtlcchcbeebakpaaDoorLowW
import Derived.Test.YtlcchcbeebakpaaDoorNumW
namespace Go.Proofs.YtlcchcbeebakpaaDoor
open Go.RowKit
theorem pow_of_laidH {W : World} (h : laidMetH Tryd.prog Rows.hopOnceRow.laid W) : PowTab W := by
  rw [MakeChecks.laidMetH_plain _ _ _ (by kernel_rfl)] at h
  obtain ⟨ps, hv, _⟩ := h
  obtain ⟨q1, hv1⟩ := laid_rest hv
  obtain ⟨q2, hv2⟩ := laid_rest hv1
  exact laid_tab (g := 3) (t := 149) (e := 138) (n := 20) (by kernel_rfl) (by kernel_rfl) Tryd.underlying149 Tryd.underlying138 (by kernel_rfl) (by kernel_rfl) hv2
end Go.Proofs.YtlcchcbeebakpaaDoor
namespace Go.Proofs.YtlcchcbeebakpaaDoor
open Go.RowKit

theorem part_plain {c : UInt8} (h : partB c = true) : c.toNat ≠ 44 ∧ c.toNat ≠ 34 ∧ blankC c = false := by
  have h1 := partB_iff.1 h
  refine ⟨by omega, by omega, ?_⟩
  have h32 : c ≠ 32 := fun e => by subst e; revert h; decide
  have h9 : c ≠ 9 := fun e => by subst e; revert h; decide
  unfold blankC
  simp [h32, h9]
theorem token_cut (t : List UInt8) (h : t.all partB = true) : ∀ acc, qcut 44 0 acc t = [acc ++ t] := by
  induction t with
  | nil => intro acc; simp [qcut]
  | cons c t ih =>
    intro acc
    rw [List.all_cons, Bool.and_eq_true] at h
    obtain ⟨h44, h34, _⟩ := part_plain h.1
    have h44' : c.toNat ≠ (44 : UInt8).toNat := h44
    rw [qcut_go (fun e => h44' e.2), show qstep 0 c = 0 from by unfold qstep; rw [if_neg (by decide), if_neg (by simp), if_neg h34], ih h.2]
    simp
theorem drop_free {t : List UInt8} (h : ∀ x ∈ t, blankC x = false) : t.dropWhile blankC = t := by
  cases t with
  | nil => rfl
  | cons c t => rw [List.dropWhile_cons, h c (by simp)]; rfl
theorem token_trim {t : List UInt8} (h : t.all partB = true) : trimL t = t := by
  have hb : ∀ x ∈ t, blankC x = false := fun x hx => (part_plain (List.all_eq_true.1 h x hx)).2.2
  rw [← trimL_eq]
  unfold leftL rightL
  rw [drop_free hb, drop_free (fun x hx => hb x (List.mem_reverse.1 hx)), List.reverse_reverse]
theorem token_members {t : List UInt8} (h : tokenB t = true) : membersL t = [t] := by
  unfold tokenB at h
  rw [Bool.and_eq_true] at h
  unfold membersL
  rw [token_cut t h.1 [], List.nil_append, memP_cons_ne (by rw [token_trim h.1]; intro e; subst e; simp at h), token_trim h.1]
  rfl
theorem all_app (n : List UInt8) (a b : List Fd) : allGo (getF n (a ++ b)) = allGo (getF n a) ++ allGo (getF n b) := by
  unfold getF allGo; rw [List.filter_append, List.map_append, List.flatMap_append]
theorem all_few {n : List UInt8} {xs : List Fd} (h : (allL n xs).length ≤ 50) : (allGo (getF n xs)).length ≤ 50 := by
  unfold allL at h; rw [List.length_take] at h; omega
/-- The fields with one more, which Connection names. -/
def namedL (a v : ByteArray) (xs : List Fd) : List Fd := xs ++ [(a, v), (nConn, a)]
theorem named_all {a v : ByteArray} {xs : List Fd} (ht : tokenB (bs a) = true) (hc : foldB (bs a) (bs nConn) = false) (hl : (allL (bs nConn) xs).length ≤ 50) :
    allL (bs nConn) (namedL a v xs) = allL (bs nConn) xs ++ [bs a] := by
  have h1 := all_few hl
  have e : getF (bs nConn) [(a, v), (nConn, a)] = [a] := by
    unfold getF isF
    rw [List.filter_cons_of_neg (by simpa using hc), List.filter_cons_of_pos (by show foldB (bs nConn) (bs nConn) = true; decide)]; rfl
  unfold namedL
  unfold allL
  rw [all_app, e]
  have e2 : allGo [a] = [bs a] := by unfold allGo; rw [List.flatMap_cons, List.flatMap_nil, List.append_nil, token_members ht]
  rw [e2, List.take_of_length_le (by rw [List.length_append]; simp; omega), List.take_of_length_le (by omega)]
theorem fold_low {a b : List UInt8} : foldB a b = (lowL a == lowL b) := by
  unfold foldB
  by_cases h : lowL a = lowL b
  · have : a.length = b.length := by have := congrArg List.length h; simpa [lowL_length] using this
    simp [h, this]
  · simp [h]
theorem one_low {a b : List UInt8} (h : lowL a = lowL b) (l : List (List UInt8)) : oneB a l = oneB b l := by rw [oneB_any, oneB_any, h]
theorem one_app (n : List UInt8) (l : List (List UInt8)) (y : List UInt8) : oneB n (l ++ [y]) = (oneB n l || foldB n y) := by
  rw [oneB_any, oneB_any, List.map_append, List.any_append, fold_low]; simp
theorem kept_free : ∀ y ∈ (keptN.map bs).map lowL, ((fixedN.map bs).map lowL).any (fun z => y == z) = false := by decide
theorem kept_not_fixed {a : List UInt8} (h : oneB a (keptN.map bs) = true) : oneB a (fixedN.map bs) = false := by
  rw [oneB_any, List.any_eq_true] at h
  obtain ⟨y, hy, e⟩ := h
  have e : lowL a = y := by simpa using e
  rw [oneB_any, e]
  exact kept_free y hy
theorem named_same {a : List UInt8} (conn : List (List UInt8)) {x : Fd} (h : foldB (bs x.1) a = true) : stripB (conn ++ [a]) x = oneB a (keptN.map bs) := by
  have hl : lowL (bs x.1) = lowL a := by rw [fold_low] at h; simpa using h
  unfold stripB
  rw [one_app, h, one_low hl (fixedN.map bs), one_low hl (keptN.map bs)]
  cases hk : oneB a (keptN.map bs) with
  | true => rw [kept_not_fixed hk]; simp
  | false => simp
theorem named_other {a : List UInt8} (conn : List (List UInt8)) {x : Fd} (h : foldB (bs x.1) a = false) : stripB (conn ++ [a]) x = stripB conn x := by
  unfold stripB
  rw [one_app, h, Bool.or_false]
theorem fold_self (a : List UInt8) : foldB a a = true := by rw [fold_low]; simp
theorem named_has {a v : ByteArray} {xs : List Fd} (ht : tokenB (bs a) = true) (hc : foldB (bs a) (bs nConn) = false) (hl : (allL (bs nConn) xs).length ≤ 50) :
    decide (0 < (getF (bs a) (stripL (namedL a v xs))).length) = oneB (bs a) (keptN.map bs) := by
  unfold stripL
  rw [named_all ht hc hl]
  unfold getF
  rw [List.length_map, List.filter_filter]
  cases hk : oneB (bs a) (keptN.map bs) with
  | true =>
    have hm : (a, v) ∈ (namedL a v xs).filter (fun x => isF (bs a) x && stripB (allL (bs nConn) xs ++ [bs a]) x) := by
      rw [List.mem_filter]
      refine ⟨by unfold namedL; simp, ?_⟩
      rw [named_same _ (x := (a, v)) (fold_self _), hk, Bool.and_true]
      exact fold_self _
    have := List.length_pos_of_mem hm
    simp [this]
  | false =>
    have he : (namedL a v xs).filter (fun x => isF (bs a) x && stripB (allL (bs nConn) xs ++ [bs a]) x) = [] := by
      rw [List.filter_eq_nil_iff]
      intro x _
      cases hf : foldB (bs x.1) (bs a) with
      | true => rw [named_same _ hf, hk]; simp
      | false => unfold isF; rw [hf]; simp
    rw [he]; rfl
theorem named_rest {a v : ByteArray} {xs : List Fd} (ht : tokenB (bs a) = true) (hc : foldB (bs a) (bs nConn) = false) (hl : (allL (bs nConn) xs).length ≤ 50) :
    (stripL (namedL a v xs)).filter (fun x => !isF (bs a) x) = (stripL xs).filter (fun x => !isF (bs a) x) := by
  unfold stripL
  rw [named_all ht hc hl, List.filter_filter, List.filter_filter]
  have hp : ∀ x : Fd, (!isF (bs a) x && stripB (allL (bs nConn) xs ++ [bs a]) x) = (!isF (bs a) x && stripB (allL (bs nConn) xs) x) := by
    intro x
    cases hf : foldB (bs x.1) (bs a) with
    | true => unfold isF; rw [hf]; rfl
    | false => rw [named_other _ hf]
  rw [List.filter_congr (fun x _ => hp x)]
  unfold namedL
  rw [List.filter_append]
  have h1 : (!isF (bs a) (a, v) && stripB (allL (bs nConn) xs) (a, v)) = false := by unfold isF; rw [fold_self]; rfl
  have h2 : (!isF (bs a) (nConn, a) && stripB (allL (bs nConn) xs) (nConn, a)) = false := by
    have : stripB (allL (bs nConn) xs) (nConn, a) = false := by
      unfold stripB; rw [show oneB (bs (nConn, a).1) (fixedN.map bs) = true from by show oneB (bs nConn) (fixedN.map bs) = true; decide]; rfl
    rw [this, Bool.and_false]
  rw [List.filter_cons_of_neg (by rw [h1]; simp), List.filter_cons_of_neg (by rw [h2]; simp), List.filter_nil, List.append_nil]
end Go.Proofs.YtlcchcbeebakpaaDoor
namespace Go.Proofs.YtlcchcbeebakpaaDoor
open Go.RowKit

set_option maxHeartbeats 1600000 in
theorem rpart_any (c : UInt8) (w : World) :
    Calls Tryd.prog 52 #[.int .u8 c.toNat] w fun e w' => e = .returned (.bool (partB c)) ∧ w = w' := by
  by_cases h1 : 97 ≤ c.toNat ∧ c.toNat ≤ 122 ∨ 65 ≤ c.toNat ∧ c.toNat ≤ 90 ∨ 48 ≤ c.toNat ∧ c.toNat ≤ 57
  · go_enter Tryd.func52, Tryd.ntmps52
    go_wp2
    all_goals (go_ret; exact ⟨ret_bool (partB_true (by omega)), rfl⟩)
  · skip
    by_cases hq : (c.toNat : Int) < 48
    · have f0 : ¬ 48 ≤ (c.toNat : Int) := by omega
      have f1 : ¬ 65 ≤ (c.toNat : Int) := by omega
      have f2 : ¬ 97 ≤ (c.toNat : Int) := by omega
      have H := Lib.hid h1
      clear h1
      go_enter Tryd.func52, Tryd.ntmps52
      go_wp2
      go_loop [3] (fun j => ∃ k : Nat, k ≤ 15 ∧ j = .int .i64 k ∧ Hid (∀ (i : Nat) (h : i < signs.size), i < k → ((signs[i].toNat : Int) == (c.toNat : Int)) = false)) (fun j => 15 - (intOf j).toNat)
      case atStart => exact ⟨0, by omega, rfl, Lib.hid fun i _ h => absurd h (by omega)⟩
      case round =>
        obtain ⟨k, hk, rfl, HN⟩ := hrel
        by_cases hlt : k < 15
        · have hks : k < signs.size := hlt
          cases hd : ((signs[k].toNat : Int) == (c.toNat : Int)) with
          | true =>
            have Hd := Lib.hid hd
            go_wp2
            go_ret
            exact ⟨ret_bool (sign_hit k hks Hd.out), rfl⟩
          | false =>
            have Hd := Lib.hid hd
            go_wp2
            go_round
            case rel => exact ⟨k + 1, by omega, by go_num, Lib.hid fun i hi hik => if e : i = k then by subst e; exact Hd.out else HN.out i hi (by omega)⟩
            case measure => simp [intOf]; omega
        · obtain rfl : k = 15 := by omega
          go_wp2
          go_ret
          exact ⟨ret_bool (sign_miss (fun i hi => HN.out i hi hi) H.out), rfl⟩
    by_cases hq : (c.toNat : Int) < 65
    · have f0 : 48 ≤ (c.toNat : Int) := by omega
      have f1 : ¬ (c.toNat : Int) ≤ 57 := by omega
      have f2 : ¬ 65 ≤ (c.toNat : Int) := by omega
      have f3 : ¬ 97 ≤ (c.toNat : Int) := by omega
      have H := Lib.hid h1
      clear h1
      go_enter Tryd.func52, Tryd.ntmps52
      go_wp2
      go_loop [3] (fun j => ∃ k : Nat, k ≤ 15 ∧ j = .int .i64 k ∧ Hid (∀ (i : Nat) (h : i < signs.size), i < k → ((signs[i].toNat : Int) == (c.toNat : Int)) = false)) (fun j => 15 - (intOf j).toNat)
      case atStart => exact ⟨0, by omega, rfl, Lib.hid fun i _ h => absurd h (by omega)⟩
      case round =>
        obtain ⟨k, hk, rfl, HN⟩ := hrel
        by_cases hlt : k < 15
        · have hks : k < signs.size := hlt
          cases hd : ((signs[k].toNat : Int) == (c.toNat : Int)) with
          | true =>
            have Hd := Lib.hid hd
            go_wp2
            go_ret
            exact ⟨ret_bool (sign_hit k hks Hd.out), rfl⟩
          | false =>
            have Hd := Lib.hid hd
            go_wp2
            go_round
            case rel => exact ⟨k + 1, by omega, by go_num, Lib.hid fun i hi hik => if e : i = k then by subst e; exact Hd.out else HN.out i hi (by omega)⟩
            case measure => simp [intOf]; omega
        · obtain rfl : k = 15 := by omega
          go_wp2
          go_ret
          exact ⟨ret_bool (sign_miss (fun i hi => HN.out i hi hi) H.out), rfl⟩
    by_cases hq : (c.toNat : Int) < 97
    · have f0 : 48 ≤ (c.toNat : Int) := by omega
      have f1 : ¬ (c.toNat : Int) ≤ 57 := by omega
      have f2 : 65 ≤ (c.toNat : Int) := by omega
      have f3 : ¬ (c.toNat : Int) ≤ 90 := by omega
      have f4 : ¬ 97 ≤ (c.toNat : Int) := by omega
      have H := Lib.hid h1
      clear h1
      go_enter Tryd.func52, Tryd.ntmps52
      go_wp2
      go_loop [3] (fun j => ∃ k : Nat, k ≤ 15 ∧ j = .int .i64 k ∧ Hid (∀ (i : Nat) (h : i < signs.size), i < k → ((signs[i].toNat : Int) == (c.toNat : Int)) = false)) (fun j => 15 - (intOf j).toNat)
      case atStart => exact ⟨0, by omega, rfl, Lib.hid fun i _ h => absurd h (by omega)⟩
      case round =>
        obtain ⟨k, hk, rfl, HN⟩ := hrel
        by_cases hlt : k < 15
        · have hks : k < signs.size := hlt
          cases hd : ((signs[k].toNat : Int) == (c.toNat : Int)) with
          | true =>
            have Hd := Lib.hid hd
            go_wp2
            go_ret
            exact ⟨ret_bool (sign_hit k hks Hd.out), rfl⟩
          | false =>
            have Hd := Lib.hid hd
            go_wp2
            go_round
            case rel => exact ⟨k + 1, by omega, by go_num, Lib.hid fun i hi hik => if e : i = k then by subst e; exact Hd.out else HN.out i hi (by omega)⟩
            case measure => simp [intOf]; omega
        · obtain rfl : k = 15 := by omega
          go_wp2
          go_ret
          exact ⟨ret_bool (sign_miss (fun i hi => HN.out i hi hi) H.out), rfl⟩
    have f0 : 48 ≤ (c.toNat : Int) := by omega
    have f1 : ¬ (c.toNat : Int) ≤ 57 := by omega
    have f2 : 65 ≤ (c.toNat : Int) := by omega
    have f3 : ¬ (c.toNat : Int) ≤ 90 := by omega
    have f4 : 97 ≤ (c.toNat : Int) := by omega
    have f5 : ¬ (c.toNat : Int) ≤ 122 := by omega
    have H := Lib.hid h1
    clear h1
    go_enter Tryd.func52, Tryd.ntmps52
    go_wp2
    go_loop [3] (fun j => ∃ k : Nat, k ≤ 15 ∧ j = .int .i64 k ∧ Hid (∀ (i : Nat) (h : i < signs.size), i < k → ((signs[i].toNat : Int) == (c.toNat : Int)) = false)) (fun j => 15 - (intOf j).toNat)
    case atStart => exact ⟨0, by omega, rfl, Lib.hid fun i _ h => absurd h (by omega)⟩
    case round =>
      obtain ⟨k, hk, rfl, HN⟩ := hrel
      by_cases hlt : k < 15
      · have hks : k < signs.size := hlt
        cases hd : ((signs[k].toNat : Int) == (c.toNat : Int)) with
        | true =>
          have Hd := Lib.hid hd
          go_wp2
          go_ret
          exact ⟨ret_bool (sign_hit k hks Hd.out), rfl⟩
        | false =>
          have Hd := Lib.hid hd
          go_wp2
          go_round
          case rel => exact ⟨k + 1, by omega, by go_num, Lib.hid fun i hi hik => if e : i = k then by subst e; exact Hd.out else HN.out i hi (by omega)⟩
          case measure => simp [intOf]; omega
      · obtain rfl : k = 15 := by omega
        go_wp2
        go_ret
        exact ⟨ret_bool (sign_miss (fun i hi => HN.out i hi hi) H.out), rfl⟩
set_option maxHeartbeats 400000 in
theorem rtoken_any (s : ByteArray) (w : World) (hs : s.size ≤ 9223372036854775807) :
    Calls Tryd.prog 19 #[.string s] w fun e w' => e = .returned (.bool (tokenB (bs s))) ∧ w = w' := by
  go_enter Tryd.func19, Tryd.ntmps19
  go_wp2
  go_loop [3] (fun j => ∃ k : Nat, k ≤ s.size ∧ j = .int .i64 k ∧ Hid ((bs s).all partB = ((bs s).drop k).all partB)) (fun j => s.size - (intOf j).toNat)
  case atStart => exact ⟨0, by omega, rfl, Lib.hid rfl⟩
  case round =>
    obtain ⟨k, hk, rfl, H⟩ := hrel
    by_cases hlt : k < s.size
    · have Hs := Lib.hid (all_step partB s hlt)
      cases hd : partB s[k] with
      | false =>
        go_wp2_with (go_at_call 52; refine (rpart_any _ _).mono ?_; rintro e w' ⟨rfl, rfl⟩)
        go_ret
        exact ⟨ret_bool (by unfold tokenB; rw [H.out, Hs.out, hd]; rfl), rfl⟩
      | true =>
        go_wp2_with (go_at_call 52; refine (rpart_any _ _).mono ?_; rintro e w' ⟨rfl, rfl⟩)
        go_round
        case rel => exact ⟨k + 1, by omega, by go_num, Lib.hid (by rw [H.out, Hs.out, hd]; rfl)⟩
        case measure => simp [intOf]; omega
    · have He := Lib.hid (all_end partB s (k := k) (by omega))
      go_wp2
      go_ret
      exact ⟨ret_bool (by unfold tokenB; rw [H.out, He.out]; simp [Lib.toList_data]), rfl⟩
end Go.Proofs.YtlcchcbeebakpaaDoor
namespace Go.Proofs.YtlcchcbeebakpaaDoor
open Go.RowKit Go.Shelf
attribute [local go_sem] Oper.semAt_some

theorem FldO.new2 (w : World) (x y : Fd) (t : TypeId) : FldO (w.alloc (.cells #[.string x.1, .string x.2, .string y.1, .string y.2] t)) (some ⟨w.heap.size, 0, none⟩) [x, y] := fun i u hu => by
  have h := RowAt.new w [.string x.1, .string x.2, .string y.1, .string y.2] t
  match i, hu with
  | 0, hu => cases hu; exact ⟨_, rfl, h.cell 0 rfl, h.cell 1 rfl⟩
  | 1, hu => cases hu; exact ⟨_, rfl, h.cell 2 rfl, h.cell 3 rfl⟩
theorem named_z {a v : ByteArray} {xs : List Fd} (h : FldZ xs 100000) (ha : a.size ≤ 100000) (hv : v.size ≤ 100000) : FldZ (namedL a v xs) 100000 := by
  intro x hx
  unfold namedL at hx
  rcases List.mem_append.1 hx with hx | hx
  · exact h x hx
  · simp only [List.mem_cons, List.not_mem_nil, or_false] at hx
    rcases hx with rfl | rfl
    · exact ⟨ha, hv⟩
    · exact ⟨show nConn.size ≤ 100000 by decide, ha⟩
theorem fold_comm (a b : List UInt8) : foldB a b = foldB b a := by rw [fold_low, fold_low]; exact Bool.beq_comm
theorem one_step {n : List UInt8} {ns : List ByteArray} {k : Nat} {x : ByteArray} (h : ns[k]? = some x) : oneB n ((ns.take (k + 1)).map bs) = (oneB n ((ns.take k).map bs) || foldB n (bs x)) := by
  obtain ⟨hlt, he⟩ := List.getElem?_eq_some_iff.1 h
  rw [List.take_succ_eq_append_getElem hlt, he, List.map_append, List.map_singleton, one_app]
set_option maxHeartbeats 25600000 in
set_option maxRecDepth 100000 in
theorem named_walk (oa : Option Addr) (xs : List Fd) (cap : Nat) (a v : ByteArray) (w : World) (hn : xs.length ≤ 9223372036854775807) (hc : FldO w oa xs) (hza : a.size ≤ 9223372036854775807) (hzv : v.size ≤ 9223372036854775807) (htab : PowTab w) :
    Calls Tryd.prog 5 #[.slice oa xs.length cap, .string a, .string v] w fun e w' => e = .returned (.bool true) ∧ Below w.heap.size w w' := by
  have HC := Lib.hid hc
  have HT := Lib.hid htab
  clear hc htab
  cases hk : fieldsB xs with
  | false =>
    have HK := Lib.hid hk
    clear hk
    go_enter Tryd.func5, Tryd.ntmps5
    go_wp2_with fail
    refine (keepF_any oa xs cap w hn HC.out).mono ?_
    rintro e w1 ⟨rfl, hw1⟩
    cases hw1
    rw [HK.out]
    go_wp2_with fail
    go_ret
    exact ⟨rfl, Below.refl _ _⟩
  | true =>
    obtain ⟨hn70, hz⟩ := fieldsB_true hk
    have HK := Lib.hid hk
    have HZ := Lib.hid (hz.up (m := 100000) (by omega))
    clear hk hz
    by_cases ha : a.size ≤ 100
    · by_cases hv : v.size ≤ 100
      · cases htk : tokenB (bs a) with
        | false =>
          have HTk := Lib.hid htk
          clear htk
          go_enter Tryd.func5, Tryd.ntmps5
          go_wp2_with fail
          refine (keepF_any oa xs cap w hn HC.out).mono ?_
          rintro e w1 ⟨rfl, hw1⟩
          cases hw1
          rw [HK.out]
          go_wp2_with fail
          refine (rtoken_any a _ (by omega)).mono ?_
          rintro e w1 ⟨rfl, hw1⟩
          cases hw1
          rw [HTk.out]
          go_wp2_with fail
          go_ret
          exact ⟨rfl, Below.refl _ _⟩
        | true =>
          have HTk := Lib.hid htk
          clear htk
          cases hfo : foldB (bs a) (bs nConn) with
          | true =>
            have HFo := Lib.hid hfo
            clear hfo
            go_enter Tryd.func5, Tryd.ntmps5
            go_wp2_with fail
            refine (keepF_any oa xs cap w hn HC.out).mono ?_
            rintro e w1 ⟨rfl, hw1⟩
            cases hw1
            rw [HK.out]
            go_wp2_with fail
            refine (rtoken_any a _ (by omega)).mono ?_
            rintro e w1 ⟨rfl, hw1⟩
            cases hw1
            rw [HTk.out]
            go_wp2_with fail
            refine (rfold_any a nConn _ (by omega) (by decide)).mono ?_
            rintro e w1 ⟨rfl, hb1⟩
            rw [HFo.out]
            go_wp2_with fail
            go_ret
            exact ⟨rfl, hb1⟩
          | false =>
            have HFo := Lib.hid hfo
            clear hfo
            go_enter Tryd.func5, Tryd.ntmps5
            go_wp2_with fail
            refine (keepF_any oa xs cap w hn HC.out).mono ?_
            rintro e w1 ⟨rfl, hw1⟩
            cases hw1
            rw [HK.out]
            go_wp2_with fail
            refine (rtoken_any a _ (by omega)).mono ?_
            rintro e w1 ⟨rfl, hw1⟩
            cases hw1
            rw [HTk.out]
            go_wp2_with fail
            refine (rfold_any a nConn _ (by omega) (by decide)).mono ?_
            rintro e w1 ⟨rfl, hb1⟩
            rw [HFo.out]
            go_wp2_with fail
            refine (rall_any oa xs cap nConn _ (by decide) (by omega) HZ.out (HC.out.down hb1)).mono ?_
            rintro e w2 ⟨om, cm, ms, rfl, hms, SO, hb2⟩
            have hml : ms.length = (allL (bs nConn) xs).length := by rw [hms, List.length_map]
            have b2 := step_b hb1 hb2
            clear hms SO hb1 hb2
            by_cases h50 : ms.length ≤ 50
            · have HAL : Hid ((allL (bs nConn) xs).length ≤ 50) := Lib.hid (by omega)
              clear hml
              have HC2 := Lib.hid (HC.out.down b2)
              go_wp2_with (at_builtin; refine wpList_append_flds rfl (.const (.slice none 0 0)) (.tmp 40) rfl w2 _ w2.heap.size _ [] rfl (FBuf.nil_ _ _) (Below.refl _ _) (Nat.le_refl _) oa xs cap rfl HC2.out (by simp; omega) ?_)
              intro v3 w3 FB3 hb3 z3
              have FN2 := FldO.new2 w3 (a, v) (nConn, a) 35
              go_wp2_with (at_builtin; refine wpList_append_flds rfl (.tmp 41) (.tmp 47) rfl w2 _ w2.heap.size _ xs rfl (FB3.alloc _) (hb3.alloc z3 _) (le_alloc z3 _) (some ⟨w3.heap.size, 0, none⟩) [(a, v), (nConn, a)] 2 rfl FN2 (by simp; omega) ?_)
              intro v4 w4 FB4 hb4 z4
              have b4 := b2.trans (hb4.mono b2.size)
              obtain ⟨us, hus⟩ : ∃ us, us = namedL a v xs := ⟨_, rfl⟩
              have hul : us.length ≤ 80 := by rw [hus]; unfold namedL; simp; omega
              have HUZ : Hid (FldZ us 100000) := Lib.hid (by rw [hus]; exact named_z HZ.out (by omega) (by omega))
              have HUH : Hid (decide (0 < (getF (bs a) (stripL us)).length) = oneB (bs a) (keptN.map bs)) := Lib.hid (by rw [hus]; exact named_has HTk.out HFo.out HAL.out)
              have HUR : Hid ((stripL us).filter (fun x => !isF (bs a) x) = (stripL xs).filter (fun x => !isF (bs a) x)) := Lib.hid (by rw [hus]; exact named_rest HTk.out HFo.out HAL.out)
              have FB4 : FBuf w4 w2.heap.size v4 us := by rw [hus]; exact FB4
              clear hus FB3 hb3 z3 FN2 hb4 z4 b2
              obtain ⟨o4, c4, rfl, FO4⟩ := FB4.shape
              have F4 := Lib.hid FO4
              clear FB4 FO4
              go_wp2_with fail
              refine (strip_any o4 us c4 w4 (by omega) HUZ.out F4.out).mono ?_
              rintro e w5 ⟨v5, rfl, FB5, hb5⟩
              rw [hop_stripL] at FB5
              obtain ⟨zs, hzs⟩ : ∃ zs, zs = stripL us := ⟨_, rfl⟩
              have hzl : zs.length ≤ 80 := by rw [hzs]; exact Nat.le_trans (strip_len us) hul
              have HZZ : Hid (FldZ zs 100000) := Lib.hid (by rw [hzs]; exact strip_z HUZ.out)
              rw [← hzs] at FB5 HUH HUR
              clear hzs
              obtain ⟨o5, c5, rfl, FO5⟩ := FB5.shape
              have fy := FO5.down (alloc_b w5 (.cells (keptN.map Value.string).toArray 9))
              have hn6 := StrO.new w5 keptN
              have b6 := step_b (step_b b4 hb5) (alloc_b w5 (.cells (keptN.map Value.string).toArray 9))
              rw [keptA_eq] at fy hn6 b6
              clear FB5 FO5 hb5 b4 F4
              go_wp2_with fail
              generalize w5.alloc (.cells #[.string ⟨#[72, 111, 115, 116]⟩, .string ⟨#[67, 97, 99, 104, 101, 45, 67, 111, 110, 116, 114, 111, 108]⟩, .string ⟨#[86, 97, 114, 121]⟩, .string ⟨#[86, 97, 114, 105, 97, 110, 116, 115]⟩, .string ⟨#[86, 97, 114, 105, 97, 110, 116, 45, 75, 101, 121]⟩, .string ⟨#[86, 105, 97]⟩] 9) = w6 at fy hn6 b6 ⊢
              generalize (⟨w5.heap.size, 0, none⟩ : Addr) = a6 at hn6 ⊢
              have FY := Lib.hid fy
              have HN := Lib.hid hn6
              clear fy hn6
              obtain ⟨ns, hns⟩ : ∃ ns, ns = keptN := ⟨_, rfl⟩
              have hnl : ns.length = 6 := by rw [hns]; rfl
              have HNZ : Hid (∀ n ∈ ns, n.size ≤ 100000) := Lib.hid (by rw [hns]; exact keptN_z)
              rw [← hns] at HUH HN
              clear hns
              go_loopw [10, 11] (fun b j wr => ∃ k : Nat, k ≤ 6 ∧ j = .int .i64 k ∧ b = .bool (oneB (bs a) ((ns.take k).map bs)) ∧ Below w6.heap.size w6 wr) (fun _ j _ => 6 - (intOf j).toNat)
              case atStart => exact ⟨0, by omega, rfl, rfl, Below.refl _ _⟩
              case round =>
                obtain ⟨k, hk, rfl, rfl, hb⟩ := hrel
                by_cases hlt : k < 6
                · obtain ⟨x, hx⟩ : ∃ x, ns[k]? = some x := ⟨_, List.getElem?_eq_getElem (by omega)⟩
                  obtain ⟨ad, had, c0⟩ := (HN.out.down hb) k x hx
                  cases had
                  have zx := HNZ.out x (List.mem_of_getElem? hx)
                  have Hs := Lib.hid (one_step (n := bs a) hx)
                  clear hx
                  cases hd : oneB (bs a) ((ns.take k).map bs) with
                  | true =>
                    rw [hd] at Hs
                    clear hd
                    go_wp2_with fail
                    go_roundw
                    case rel => exact ⟨k + 1, by omega, by go_num, by rw [Hs.out]; rfl, hb⟩
                    case measure => simp [intOf]; omega
                  | false =>
                    rw [hd] at Hs
                    clear hd
                    go_wp2_with fail
                    refine (rfold_any x a _ (by omega) (by omega)).mono ?_
                    rintro e w7 ⟨rfl, hb7⟩
                    have b7 := step_b hb hb7
                    clear hb hb7 c0
                    go_wp2_with fail
                    go_roundw
                    case rel => exact ⟨k + 1, by omega, by go_num, by rw [Hs.out, fold_comm]; rfl, b7⟩
                    case measure => simp [intOf]; omega
                · have hk6 : k = 6 := by omega
                  subst hk6
                  rw [List.take_of_length_le (by omega)]
                  obtain ⟨kb, hkb⟩ : ∃ kb, kb = oneB (bs a) (ns.map bs) := ⟨_, rfl⟩
                  rw [← hkb] at HUH ⊢
                  clear hkb
                  go_wp2_with fail
                  refine (rhas_any o5 zs c5 a _ (by omega) (by omega) HZZ.out (FY.out.down hb)).mono ?_
                  rintro e w7 ⟨rfl, hb7⟩
                  rw [HUH.out]
                  have b7 := step_b hb hb7
                  clear hb hb7
                  go_wp2_with fail
                  refine (rremove_any o5 zs c5 a _ (by omega) (by omega) HZZ.out (FY.out.down b7)).mono ?_
                  rintro e w8 ⟨v8, rfl, FB8, hb8⟩
                  rw [HUR.out] at FB8
                  obtain ⟨rs, hrs⟩ : ∃ rs, rs = (stripL xs).filter (fun x => !isF (bs a) x) := ⟨_, rfl⟩
                  have hrl : rs.length ≤ 1000000 := by rw [hrs]; exact Nat.le_trans (List.length_filter_le _ _) (Nat.le_trans (strip_len xs) (by omega))
                  rw [← hrs] at FB8
                  have HRS0 := Lib.hid hrs
                  clear hrs
                  obtain ⟨o8, c8, rfl, FO8⟩ := FB8.shape
                  have F8 := Lib.hid FO8
                  have b8 := step_b b6 (step_b b7 hb8)
                  clear FB8 FO8 hb8 b7 b6
                  go_wp2_with fail
                  refine (strip_any oa xs cap w8 (by omega) HZ.out (HC.out.down b8)).mono ?_
                  rintro e w9 ⟨v9, rfl, FB9, hb9⟩
                  rw [hop_stripL] at FB9
                  obtain ⟨ts, hts⟩ : ∃ ts, ts = stripL xs := ⟨_, rfl⟩
                  have htl : ts.length ≤ 70 := by rw [hts]; exact Nat.le_trans (strip_len xs) hn70
                  have HTZ : Hid (FldZ ts 100000) := Lib.hid (by rw [hts]; exact strip_z HZ.out)
                  have hrs := HRS0.out; rw [← hts] at FB9 hrs
                  have HRS := Lib.hid hrs
                  obtain ⟨o9, c9, rfl, FO9⟩ := FB9.shape
                  have F9 := Lib.hid FO9
                  have F89 := Lib.hid (F8.out.down hb9)
                  have b9 := step_b b8 hb9
                  clear FB9 FO9 hb9 b8 F8 hts hrs HRS0
                  go_wp2_with fail
                  refine (rremove_any o9 ts c9 a _ (by omega) (by omega) HTZ.out F9.out).mono ?_
                  rintro e w10 ⟨v10, rfl, FB10, hb10⟩
                  rw [← HRS.out] at FB10
                  obtain ⟨o10, c10, rfl, FO10⟩ := FB10.shape
                  have F10 := Lib.hid FO10
                  have F810 := Lib.hid (F89.out.down hb10)
                  have b10 := step_b b9 hb10
                  clear FB10 FO10 hb10 b9 F89 F9
                  go_wp2_with fail
                  refine (sameFields_any o8 o10 rs c8 c10 w10 hrl F810.out F10.out).mono ?_
                  rintro e w11 ⟨rfl, hb11⟩
                  have b11 := step_b b10 hb11
                  clear b10 hb11 F810 F10
                  go_wp2_with fail
                  refine (awake25_any w11 (HT.out.below b11)).mono ?_
                  rintro e w12 ⟨rfl, hb12⟩
                  go_wp2_with fail
                  go_ret
                  exact ⟨rfl, step_b b11 hb12⟩
            · go_wp2_with fail
              go_ret
              exact ⟨rfl, b2⟩
      · go_enter Tryd.func5, Tryd.ntmps5
        go_wp2_with fail
        refine (keepF_any oa xs cap w hn HC.out).mono ?_
        rintro e w1 ⟨rfl, hw1⟩
        cases hw1
        rw [HK.out]
        go_wp2_with fail
        go_ret
        exact ⟨rfl, Below.refl _ _⟩
    · go_enter Tryd.func5, Tryd.ntmps5
      go_wp2_with fail
      refine (keepF_any oa xs cap w hn HC.out).mono ?_
      rintro e w1 ⟨rfl, hw1⟩
      cases hw1
      rw [HK.out]
      go_wp2_with fail
      go_ret
      exact ⟨rfl, Below.refl _ _⟩
end Go.Proofs.YtlcchcbeebakpaaDoor
