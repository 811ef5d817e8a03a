/- The walks of the two readers of lines (5.2). -/
import Derived.Test.YtfnmohaddkoalaaGreatDoorQPre
import Derived.Test.YtfnmohaddkoalaaGreatDoorQAnyW
import Derived.BigQuiet
import Derived.Deep.QuietTactic
namespace Go.Proofs.YtfnmohaddkoalaaGreatDoor
open Go.RowKit
set_option linter.unusedSimpArgs false

/-- The first byte that ends a line. -/
theorem any_line : ∀ (l : List UInt8), (Lib.indexAny l [13, 10] = -1 ∧ l.takeWhile lineC = l ∧ l.dropWhile lineC = []) ∨ ∃ i : Nat, Lib.indexAny l [13, 10] = i ∧ i < l.length ∧ l.takeWhile lineC = l.take i ∧ l.dropWhile lineC = l.drop i ∧ ∃ c, l[i]? = some c ∧ lineC c = false
  | [] => .inl ⟨rfl, rfl, rfl⟩
  | c :: t => by
    have hcon : ([13, 10] : List UInt8).contains c = !lineC c := by
      unfold lineC
      rw [Bool.eq_iff_iff]; simp
    cases hs : lineC c with
    | false =>
      right
      have e1 : (c :: t).takeWhile lineC = [] := List.takeWhile_cons_of_neg (by rw [hs]; simp)
      have e2 : (c :: t).dropWhile lineC = c :: t := List.dropWhile_cons_of_neg (by rw [hs]; simp)
      refine ⟨0, ?_, by simp, by rw [e1]; rfl, by rw [e2]; rfl, c, rfl, hs⟩
      rw [Lib.indexAny, if_pos (by rw [hcon, hs]; rfl)]; rfl
    | true =>
      have e1 : (c :: t).takeWhile lineC = c :: t.takeWhile lineC := List.takeWhile_cons_of_pos hs
      have e2 : (c :: t).dropWhile lineC = t.dropWhile lineC := List.dropWhile_cons_of_pos hs
      rcases any_line t with ⟨h1, h2, h3⟩ | ⟨i, h1, h2, h3, h4, d, h5, h6⟩
      · left
        rw [Lib.indexAny, if_neg (by rw [hcon, hs]; simp), h1, e1, e2, h2, h3]
        exact ⟨rfl, rfl, rfl⟩
      · right
        refine ⟨i + 1, ?_, by simp; omega, by rw [e1, h3]; rfl, by rw [e2, h4]; rfl, d, by simpa using h5, h6⟩
        rw [Lib.indexAny, if_neg (by rw [hcon, hs]; simp), h1, if_neg (by simp)]
        simp
def nextV (r : List UInt8 × Nat × Int) : Value := .tuple #[.string ⟨r.1.toArray⟩, .int .i64 r.2.1, .int .i64 r.2.2]
/-- The ways of a line. -/
inductive LineAt (s : ByteArray) : Prop
  | none_ (h : Lib.indexAny (bs s) [13, 10] = -1) (hl : 2000 < s.size) (e : nextL (bs s) = ([], 0, 4))
  | open_ (h : Lib.indexAny (bs s) [13, 10] = -1) (hl : ¬ 2000 < s.size) (e : nextL (bs s) = ([], 0, 2))
  | long (i : Nat) (h : Lib.indexAny (bs s) [13, 10] = i) (hi : i < s.size) (hl : 2000 < i) (e : nextL (bs s) = ([], 0, 4))
  | lf (i : Nat) (h : Lib.indexAny (bs s) [13, 10] = i) (hi : i < s.size) (hl : ¬ 2000 < i) (hc : s[i] = 10) (e : nextL (bs s) = ([], 0, 1))
  | last (i : Nat) (h : Lib.indexAny (bs s) [13, 10] = i) (hi : i < s.size) (hl : ¬ 2000 < i) (hc : s[i] = 13) (hz : s.size = i + 1) (e : nextL (bs s) = ([], 0, 2))
  | bad (i : Nat) (h : Lib.indexAny (bs s) [13, 10] = i) (hi : i + 1 < s.size) (hl : ¬ 2000 < i) (hc : s[i] = 13) (hd : s[i + 1] ≠ 10) (e : nextL (bs s) = ([], 0, 1))
  | good (i : Nat) (h : Lib.indexAny (bs s) [13, 10] = i) (hi : i + 1 < s.size) (hl : ¬ 2000 < i) (hc : s[i] = 13) (hd : s[i + 1] = 10) (e : nextL (bs s) = (bs (s.extract 0 i), i + 2, 0))
theorem ext_take (s : ByteArray) (i : Nat) : bs (s.extract 0 i) = (bs s).take i := by
  show (s.extract 0 i).data.toList = _
  rw [ByteArray.data_extract, Array.toList_extract]
  simp
theorem lineAt (s : ByteArray) : LineAt s := by
  have hlen : (bs s).length = s.size := bs_length s
  rcases any_line (bs s) with ⟨h, h2, h3⟩ | ⟨i, h, hi, h2, h3, c, hc, hn⟩
  · by_cases hl : 2000 < s.size
    · exact .none_ h hl (by unfold nextL; rw [h2, if_pos (by omega)])
    · exact .open_ h hl (by unfold nextL; rw [h2, h3, if_neg (by omega)]; rfl)
  · have hi' : i < s.size := by omega
    have htl : ((bs s).takeWhile lineC).length = i := by rw [h2, List.length_take]; omega
    by_cases hl : 2000 < i
    · exact .long i h hi' hl (by unfold nextL; rw [if_pos (by omega)])
    · have hci : s[i] = c := by
        have : (bs s)[i]? = some s[i] := List.getElem?_eq_getElem hi
        rw [this] at hc; exact Option.some.inj hc
      have hd0 : (bs s).dropWhile lineC = s[i] :: (bs s).drop (i + 1) := by rw [h3, drop_step s hi']
      rw [← hci] at hn
      rcases lineC_no.1 hn with h13 | h10
      · by_cases hz : s.size = i + 1
        · refine .last i h hi' hl h13 hz ?_
          have : (bs s).drop (i + 1) = [] := drop_end s (by omega)
          unfold nextL
          rw [hd0, this, h13, if_neg (by omega)]; rfl
        · have hi1 : i + 1 < s.size := by omega
          have hd1 := drop_step s hi1
          by_cases hd : s[i + 1] = 10
          · refine .good i h hi1 hl h13 hd ?_
            unfold nextL
            rw [hd0, hd1, h13, hd, if_neg (by omega), tailE_crlf, if_pos rfl, h2, ext_take, List.length_take]
            congr 2
            omega
          · refine .bad i h hi1 hl h13 hd ?_
            unfold nextL
            rw [hd0, hd1, h13, if_neg (by omega), tailE_other _ hd]; rfl
      · refine .lf i h hi' hl h10 ?_
        unfold nextL
        rw [hd0, h10, if_neg (by omega), tailE_lf]; rfl
theorem ix_at (s : ByteArray) (k : Nat) (i c : Int) (h : k < s.size) (hi : i = k) (hc : ((s[k]).toNat : Int) = c) (w : World) : (Instr.index 9 (.string s) (.int .i64 i)).run Tryz.prog w = .ok (.int .u8 c) w := by
  subst hi; subst hc
  rw [run_index_string (h := Tryz.underlying9), dif_pos ⟨by omega, by omega⟩]
  simp
set_option maxHeartbeats 3200000 in
theorem next_any (s : ByteArray) (w : World) (hs : s.size < 4294967281) :
    Calls Tryz.prog 46 #[.string s] w fun e w' => e = .returned (nextV (nextL (bs s))) ∧ Below w.heap.size w w' := by
  have HA := Lib.hid (indexAny_any 13 10 s w (by decide) (by decide) hs)
  obtain ⟨x, hx⟩ : ∃ x, x = Lib.indexAny (bs s) [13, 10] := ⟨_, rfl⟩
  rw [← hx] at HA
  obtain ⟨r, hr⟩ : ∃ r, r = nextL (bs s) := ⟨_, rfl⟩
  have W := lineAt s
  rcases W with ⟨h, hl, e⟩ | ⟨h, hl, e⟩ | ⟨i, h, hi, hl, e⟩ | ⟨i, h, hi, hl, hc, e⟩ | ⟨i, h, hi, hl, hc, hz, e⟩ | ⟨i, h, hi, hl, hc, hd, e⟩ | ⟨i, h, hi, hl, hc, hd, e⟩
  all_goals (
    rw [h] at hx
    subst hx
    rw [← hr] at e ⊢
    have HE := Lib.hid e
    clear e hr h)
  · have k1 : 2000 < (s.size : Int) := by omega
    go_enter Tryz.func46, Tryz.ntmps46
    go_wp2_with fail
    refine HA.out.mono ?_
    rintro e w1 ⟨rfl, hb⟩
    go_wp2_with fail
    go_ret3
    exact ⟨by rw [HE.out]; rfl, hb⟩
  · have k1 : ¬ 2000 < (s.size : Int) := by omega
    go_enter Tryz.func46, Tryz.ntmps46
    go_wp2_with fail
    refine HA.out.mono ?_
    rintro e w1 ⟨rfl, hb⟩
    go_wp2_with fail
    go_ret3
    exact ⟨by rw [HE.out]; rfl, hb⟩
  · have k1 : 2000 < (i : Int) := by omega
    go_enter Tryz.func46, Tryz.ntmps46
    go_wp2_with fail
    refine HA.out.mono ?_
    rintro e w1 ⟨rfl, hb⟩
    go_wp2_with fail
    go_ret3
    exact ⟨by rw [HE.out]; rfl, hb⟩
  · have k1 : ¬ 2000 < (i : Int) := by omega
    have p0 : ∀ wx, (Instr.index 9 (.string s) (.int .i64 (i : Int))).run Tryz.prog wx = .ok (.int .u8 10) wx := fun wx => ix_at s i _ 10 hi rfl (by rw [hc]; rfl) wx
    clear hc
    go_enter Tryz.func46, Tryz.ntmps46
    go_wp2_with fail
    refine HA.out.mono ?_
    rintro e w1 ⟨rfl, hb⟩
    go_wp2_with fail
    go_ret3
    exact ⟨by rw [HE.out]; rfl, hb⟩
  · have k1 : ¬ 2000 < (i : Int) := by omega
    have p0 : ∀ wx, (Instr.index 9 (.string s) (.int .i64 (i : Int))).run Tryz.prog wx = .ok (.int .u8 13) wx := fun wx => ix_at s i _ 13 hi rfl (by rw [hc]; rfl) wx
    have k2 : ((i : Int) == (s.size : Int) - 1) = true := by rw [beq_iff_eq]; omega
    clear hc hz
    go_enter Tryz.func46, Tryz.ntmps46
    go_wp2_with fail
    refine HA.out.mono ?_
    rintro e w1 ⟨rfl, hb⟩
    go_wp2_with fail
    go_ret3
    exact ⟨by rw [HE.out]; rfl, hb⟩
  · have k1 : ¬ 2000 < (i : Int) := by omega
    have hi0 : i < s.size := by omega
    have p0 : ∀ wx, (Instr.index 9 (.string s) (.int .i64 (i : Int))).run Tryz.prog wx = .ok (.int .u8 13) wx := fun wx => ix_at s i _ 13 hi0 rfl (by rw [hc]; rfl) wx
    obtain ⟨c, hcc⟩ : ∃ c : Int, ((s[i + 1]).toNat : Int) = c := ⟨_, rfl⟩
    have p1 : ∀ wx, (Instr.index 9 (.string s) (.int .i64 ((i : Int) + 1))).run Tryz.prog wx = .ok (.int .u8 c) wx := fun wx => ix_at s (i + 1) _ c hi (by omega) hcc wx
    have k2 : ((i : Int) == (s.size : Int) - 1) = false := by rw [beq_eq_false_iff_ne]; omega
    have hne : c ≠ 10 := fun e => hd (by have : (s[i + 1]).toNat = 10 := by omega
                                         exact UInt8.toNat_inj.1 this)
    have k3 : (c == 10) = false := by rw [beq_eq_false_iff_ne]; exact hne
    have k4 : (c != 10) = true := by unfold bne; rw [k3]; rfl
    clear hc hcc hd hne
    go_enter Tryz.func46, Tryz.ntmps46
    go_wp2_with fail
    refine HA.out.mono ?_
    rintro e w1 ⟨rfl, hb⟩
    go_wp2_with fail
    go_ret3
    exact ⟨by rw [HE.out]; rfl, hb⟩
  · have k1 : ¬ 2000 < (i : Int) := by omega
    have hi0 : i < s.size := by omega
    have p0 : ∀ wx, (Instr.index 9 (.string s) (.int .i64 (i : Int))).run Tryz.prog wx = .ok (.int .u8 13) wx := fun wx => ix_at s i _ 13 hi0 rfl (by rw [hc]; rfl) wx
    have p1 : ∀ wx, (Instr.index 9 (.string s) (.int .i64 ((i : Int) + 1))).run Tryz.prog wx = .ok (.int .u8 10) wx := fun wx => ix_at s (i + 1) _ 10 hi (by omega) (by rw [hd]; rfl) wx
    have k2 : ((i : Int) == (s.size : Int) - 1) = false := by rw [beq_eq_false_iff_ne]; omega
    clear hc hd
    go_enter Tryz.func46, Tryz.ntmps46
    go_wp2_with fail
    refine HA.out.mono ?_
    rintro e w1 ⟨rfl, hb⟩
    go_wp2_with fail
    go_ret3
    exact ⟨by rw [HE.out]; rfl, hb⟩
/-- The reference's reader: from a place on. -/
def rnextV (a : Nat) (r : List UInt8 × Nat × Int) : Value := .tuple #[.string ⟨r.1.toArray⟩, .int .i64 (if r.2.2 = 0 then ((a + r.2.1 : Nat) : Int) else 0), .int .i64 r.2.2]
def AtK (s : ByteArray) (a k : Nat) : Prop := ((bs s).drop a).takeWhile lineC = ((bs s).drop a).take (k - a) ++ ((bs s).drop k).takeWhile lineC ∧ ((bs s).drop a).dropWhile lineC = ((bs s).drop k).dropWhile lineC
theorem AtK.start (s : ByteArray) (a : Nat) : AtK s a a := ⟨by simp, rfl⟩
theorem AtK.step {s : ByteArray} {a k : Nat} (h : AtK s a k) (ha : a ≤ k) (hk : k < s.size) (hc : lineC s[k] = true) : AtK s a (k + 1) := by
  have hd := drop_step s hk
  refine ⟨?_, ?_⟩
  · rw [h.1, hd, List.takeWhile_cons_of_pos hc, show k + 1 - a = (k - a) + 1 by omega, List.take_add_one]
    have : ((bs s).drop a)[k - a]? = some s[k] := by
      rw [List.getElem?_drop, show a + (k - a) = k by omega]
      exact List.getElem?_eq_getElem (by rw [bs_length]; exact hk)
    rw [this]; simp
  · rw [h.2, hd, List.dropWhile_cons_of_pos hc]
theorem ext_drop (s : ByteArray) (a k : Nat) : bs (s.extract a k) = ((bs s).drop a).take (k - a) := by
  show (s.extract a k).data.toList = _
  rw [ByteArray.data_extract, Array.toList_extract]
theorem AtK.done {s : ByteArray} {a k : Nat} (h : AtK s a k) (ha : a ≤ k) (hk : k ≤ s.size) (hn : k = s.size ∨ ∃ hk : k < s.size, lineC s[k] = false) :
    nextL ((bs s).drop a) = if 2000 < k - a then ([], 0, 4) else if tailE ((bs s).drop k) = 0 then (bs (s.extract a k), k - a + 2, 0) else ([], 0, tailE ((bs s).drop k)) := by
  have hz : ((bs s).drop k).takeWhile lineC = [] ∧ ((bs s).drop k).dropWhile lineC = (bs s).drop k := by
    rcases hn with rfl | ⟨hk, hc⟩
    · rw [drop_end s (Nat.le_refl _)]; exact ⟨rfl, rfl⟩
    · rw [drop_step s hk, List.takeWhile_cons_of_neg (by rw [hc]; simp), List.dropWhile_cons_of_neg (by rw [hc]; simp)]; exact ⟨rfl, rfl⟩
  have ht : ((bs s).drop a).takeWhile lineC = ((bs s).drop a).take (k - a) := by rw [h.1, hz.1, List.append_nil]
  have hl : (((bs s).drop a).take (k - a)).length = k - a := by rw [List.length_take, List.length_drop, bs_length]; omega
  unfold nextL
  rw [ht, h.2, hz.2, hl, ext_drop]
set_option maxHeartbeats 3200000 in
theorem rnext_any (s : ByteArray) (a : Nat) (w : World) (ha : a ≤ s.size) (hs : s.size ≤ 1000000) :
    Calls Tryz.prog 13 #[.string s, .int .i64 a] w fun e w' => e = .returned (rnextV a (nextL ((bs s).drop a))) ∧ w = w' := by
  obtain ⟨r, hr⟩ : ∃ r, r = nextL ((bs s).drop a) := ⟨_, rfl⟩
  have HR := Lib.hid hr
  rw [← hr]
  clear hr
  go_enter Tryz.func13, Tryz.ntmps13
  go_wp2_with fail
  go_loop [7] (fun j => ∃ k : Nat, a ≤ k ∧ k ≤ s.size ∧ j = .int .i64 k ∧ Hid (AtK s a k)) (fun j => s.size - (intOf j).toNat)
  case atStart => exact ⟨a, Nat.le_refl _, ha, rfl, Lib.hid (AtK.start s a)⟩
  case round =>
    obtain ⟨k, hak, hk, rfl, HA⟩ := hrel
    by_cases hlt : k < s.size
    · have hlt' : (k : Int) < (s.size : Int) := by omega
      obtain ⟨c, hcc⟩ : ∃ c : Int, ((s[k]).toNat : Int) = c := ⟨_, rfl⟩
      have p0 : ∀ wx, (Instr.index 9 (.string s) (.int .i64 (k : Int))).run Tryz.prog wx = .ok (.int .u8 c) wx := fun wx => ix_at s k _ c hlt rfl hcc wx
      cases hc : lineC s[k] with
      | true =>
        have HB := Lib.hid (HA.out.step hak hlt hc)
        obtain ⟨n1, n2⟩ := lineC_yes.1 hc
        have k1 : (c != 13) = true := by
          rw [bne_iff_ne]; exact fun e => n1 (UInt8.toNat_inj.1 (show (s[k]).toNat = 13 by omega))
        have k2 : (c != 10) = true := by
          rw [bne_iff_ne]; exact fun e => n2 (UInt8.toNat_inj.1 (show (s[k]).toNat = 10 by omega))
        clear hc n1 n2 hcc
        go_wp2_with fail
        go_round
        case rel => exact ⟨k + 1, by omega, by omega, by go_num, HB⟩
        case measure => simp [intOf]; omega
      | false =>
        have HE := Lib.hid (HA.out.done hak hk (.inr ⟨hlt, hc⟩))
        have hd0 := drop_step s hlt
        have ne0 : ((k : Int) == (s.size : Int)) = false := by rw [beq_eq_false_iff_ne]; omega
        rcases lineC_no.1 hc with h13 | h10
        · have e13 : c = 13 := by rw [← hcc, h13]; rfl
          subst e13
          by_cases hl : 2000 < k - a
          · have HF : Hid (r = ([], 0, 4)) := Lib.hid (by rw [HR.out, HE.out, if_pos hl])
            have l1 : 2000 < (k : Int) - (a : Int) := by omega
            clear hc hcc hd0 h13
            go_wp2_with fail
            go_ret3
            exact ⟨by rw [HF.out]; rfl, rfl⟩
          · have l1 : ¬ 2000 < (k : Int) - (a : Int) := by omega
            by_cases hz : s.size = k + 1
            · have HF : Hid (r = ([], 0, 2)) := Lib.hid (by rw [HR.out, HE.out, if_neg hl, hd0, drop_end s (show s.size ≤ k + 1 by omega), h13]; rfl)
              have z1 : ((k : Int) + 1 == (s.size : Int)) = true := by rw [beq_iff_eq]; omega
              clear hc hcc hd0 h13
              go_wp2_with fail
              go_ret3
              exact ⟨by rw [HF.out]; rfl, rfl⟩
            · have z1 : ((k : Int) + 1 == (s.size : Int)) = false := by rw [beq_eq_false_iff_ne]; omega
              have hi1 : k + 1 < s.size := by omega
              have hd1 := drop_step s hi1
              obtain ⟨d, hdd⟩ : ∃ d : Int, ((s[k + 1]).toNat : Int) = d := ⟨_, rfl⟩
              have p1 : ∀ wx, (Instr.index 9 (.string s) (.int .i64 ((k : Int) + 1))).run Tryz.prog wx = .ok (.int .u8 d) wx := fun wx => ix_at s (k + 1) _ d hi1 (by omega) hdd wx
              by_cases hd : s[k + 1] = 10
              · have e10 : d = 10 := by rw [← hdd, hd]; rfl
                subst e10
                have HF : Hid (r = (bs (s.extract a k), k - a + 2, 0)) := Lib.hid (by rw [HR.out, HE.out, if_neg hl, hd0, hd1, h13, hd, tailE_crlf, if_pos rfl])
                have v2 : ((a + (k - a + 2) : Nat) : Int) = (k : Int) + 2 := by omega
                have V2 := Lib.hid v2
                have a1 : (a : Int) ≤ (k : Int) := by omega
                have a2 : (k : Int) ≤ (s.size : Int) := by omega
                clear hc hcc hd0 h13 hd1 hd hdd v2
                go_wp2_with fail
                go_ret3
                exact ⟨by rw [HF.out]; unfold rnextV; rw [if_pos rfl, V2.out]; rfl, rfl⟩
              · have q1 : (d != 10) = true := by
                  rw [bne_iff_ne]; exact fun e => hd (UInt8.toNat_inj.1 (show (s[k + 1]).toNat = 10 by omega))
                have HF : Hid (r = ([], 0, 1)) := Lib.hid (by rw [HR.out, HE.out, if_neg hl, hd0, hd1, h13, tailE_other _ hd]; rfl)
                clear hc hcc hd0 h13 hd1 hd hdd
                go_wp2_with fail
                go_ret3
                exact ⟨by rw [HF.out]; rfl, rfl⟩
        · have e10 : c = 10 := by rw [← hcc, h10]; rfl
          subst e10
          by_cases hl : 2000 < k - a
          · have HF : Hid (r = ([], 0, 4)) := Lib.hid (by rw [HR.out, HE.out, if_pos hl])
            have l1 : 2000 < (k : Int) - (a : Int) := by omega
            clear hc hcc hd0 h10
            go_wp2_with fail
            go_ret3
            exact ⟨by rw [HF.out]; rfl, rfl⟩
          · have l1 : ¬ 2000 < (k : Int) - (a : Int) := by omega
            have HF : Hid (r = ([], 0, 1)) := Lib.hid (by rw [HR.out, HE.out, if_neg hl, hd0, h10, tailE_lf]; rfl)
            clear hc hcc hd0 h10
            go_wp2_with fail
            go_ret3
            exact ⟨by rw [HF.out]; rfl, rfl⟩
    · have hks : k = s.size := by omega
      have HE := Lib.hid (HA.out.done hak hk (.inl hks))
      have hlt' : ¬ (k : Int) < (s.size : Int) := by omega
      have ne0 : ((k : Int) == (s.size : Int)) = true := by rw [beq_iff_eq]; omega
      have hde := drop_end s (show s.size ≤ k by omega)
      by_cases hl : 2000 < k - a
      · have HF : Hid (r = ([], 0, 4)) := Lib.hid (by rw [HR.out, HE.out, if_pos hl])
        have l1 : 2000 < (k : Int) - (a : Int) := by omega
        clear hde hks
        go_wp2_with fail
        go_ret3
        exact ⟨by rw [HF.out]; rfl, rfl⟩
      · have HF : Hid (r = ([], 0, 2)) := Lib.hid (by rw [HR.out, HE.out, if_neg hl, hde]; rfl)
        have l1 : ¬ 2000 < (k : Int) - (a : Int) := by omega
        clear hde hks
        go_wp2_with fail
        go_ret3
        exact ⟨by rw [HF.out]; rfl, rfl⟩
end Go.Proofs.YtfnmohaddkoalaaGreatDoor
