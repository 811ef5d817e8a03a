/- The walk of Segments (4.3) of the program. -/
import Derived.Test.YtglckhljpjcmaaaGreatDoorQPre
import Derived.Test.YtglckhljpjcmaaaGreatDoorQEnvW
namespace Go.Proofs.YtglckhljpjcmaaaGreatDoor
open Go.RowKit

theorem joinS_len : ∀ (xs : List ByteArray), (joinS (xs.map bs)).length = xs.length + (xs.map (·.size)).sum
  | [] => rfl
  | x :: r => by
    rw [List.map_cons, joinS_cons, List.length_cons, List.length_append, joinS_len r, bs_length]; simp; omega
theorem joinS_drop (l : List (List UInt8)) : (joinS l.dropLast).length ≤ (joinS l).length := by
  rcases List.eq_nil_or_concat l with rfl | ⟨ys, y, h0⟩
  · simp
  · have e : l = ys ++ [y] := by rw [h0]; simp
    subst e
    rw [List.dropLast_concat, joinS_snoc]; simp
theorem joinS_one (l : List (List UInt8)) (x : List UInt8) : (joinS (l ++ [x])).length = (joinS l).length + x.length + 1 := by rw [joinS_snoc]; simp; omega
/-- The pieces that stay so far, and what is left to cut. -/
def SegAt (p : List UInt8) (more : Bool) (t : ByteArray) (xs : List ByteArray) : Prop :=
  segGo [] (splitC 47 p) = (if more then segGo (xs.map bs) (splitC 47 (bs t)) else xs.map bs) ∧ (joinS (xs.map bs)).length + t.size ≤ p.length + (if more then 0 else 1)
theorem SegAt.len {p : List UInt8} {more : Bool} {t : ByteArray} {xs : List ByteArray} (h : SegAt p more t xs) : xs.length ≤ p.length + 1 ∧ (joinS (xs.map bs)).length ≤ p.length + 1 := by
  have h2 := h.2
  have h3 := joinS_len xs
  split at h2 <;> omega
theorem SegAt.cut {p : List UInt8} {t : ByteArray} {xs : List ByteArray} (h : SegAt p true t xs) :
    (∃ a b : ByteArray, cutB 47 (bs t) = (bs a, bs b, true) ∧ a.size ≤ t.size ∧ b.size < t.size ∧
      (bs a = [46, 46] → SegAt p true b xs.dropLast) ∧ (bs a = [46] → SegAt p true b xs) ∧ (bs a ≠ [46, 46] → bs a ≠ [46] → SegAt p true b (xs ++ [a]))) ∨
    (cutB 47 (bs t) = (bs t, [], false) ∧ (bs t = [46, 46] → SegAt p false ⟨#[]⟩ (xs.dropLast ++ [⟨#[]⟩])) ∧ (bs t = [46] → SegAt p false ⟨#[]⟩ (xs ++ [⟨#[]⟩])) ∧ (bs t ≠ [46, 46] → bs t ≠ [46] → SegAt p false ⟨#[]⟩ (xs ++ [t]))) := by
  obtain ⟨h1, h2⟩ := h
  rw [if_pos rfl] at h1 h2
  have e0 : bs (⟨#[]⟩ : ByteArray) = [] := rfl
  have z0 : (⟨#[]⟩ : ByteArray).size = 0 := rfl
  have hd := joinS_drop (xs.map bs)
  rcases splitC_cut 47 (bs t) with ⟨a, b, hc, hs, hlt⟩ | ⟨hc, hs⟩
  · left
    rw [bs_length] at hlt
    have hl := cutB_len 47 (bs t)
    rw [hc, bs_length] at hl
    have hl2 : a.length + b.length + 1 = t.size := by
      rcases cutB_cases 47 (bs t) with ⟨a', b', h', h2', _⟩ | ⟨h', _⟩
      · rw [hc] at h'; simp at h'; obtain ⟨rfl, rfl⟩ := h'
        rw [← bs_length, h2']; simp; omega
      · rw [hc] at h'; simp at h'
    have hz : (⟨b.toArray⟩ : ByteArray).size = b.length := rfl
    refine ⟨⟨a.toArray⟩, ⟨b.toArray⟩, hc, by show a.length ≤ _; omega, by show b.length < _; exact hlt, ?_⟩
    rw [hs, segGo_more _ a (splitC_ne 47 b)] at h1
    refine ⟨fun e => ⟨?_, by rw [hz, List.map_dropLast, if_pos rfl]; omega⟩, fun e => ⟨?_, by rw [hz, if_pos rfl]; omega⟩, fun e e' => ⟨?_, by rw [hz, if_pos rfl, List.map_append, List.map_singleton, joinS_one]; show _ + a.length + 1 + _ ≤ _; omega⟩⟩
    · have e1 : a = [46, 46] := e
      rw [h1, if_pos e1, if_pos rfl, List.map_dropLast]
    · have e1 : a = [46] := e
      rw [h1, if_neg (by rw [e1]; decide), if_pos e1, if_pos rfl]
    · rw [h1, if_neg (show ¬ a = [46, 46] from e), if_neg (show ¬ a = [46] from e'), if_pos rfl, List.map_append]; rfl
  · right
    rw [hs, segGo_one] at h1
    refine ⟨hc, fun e => ⟨?_, ?_⟩, fun e => ⟨?_, ?_⟩, fun e e' => ⟨?_, ?_⟩⟩
    · rw [h1, if_pos e, if_neg (by simp), List.map_append, List.map_dropLast]; rfl
    · rw [z0, if_neg (by simp), List.map_append, List.map_singleton, joinS_one, List.map_dropLast, e0]; simp; omega
    · rw [h1, if_neg (by rw [e]; decide), if_pos e, if_neg (by simp), List.map_append]; rfl
    · rw [z0, if_neg (by simp), List.map_append, List.map_singleton, joinS_one, e0]; simp; omega
    · rw [h1, if_neg e, if_neg e', if_neg (by simp), List.map_append]; rfl
    · rw [z0, if_neg (by simp), List.map_append, List.map_singleton, joinS_one, bs_length]; omega
theorem join_slash : ∀ (xs : List (List UInt8)), xs ≠ [] → 47 :: Lib.join xs [47] = joinS xs
  | [], h => absurd rfl h
  | [x], _ => by simp [Lib.join, joinS]
  | x :: y :: r, _ => by
    have ih := join_slash (y :: r) (by simp)
    rw [joinS_cons, ← ih]
    simp [Lib.join]
theorem pre_slash (l : List UInt8) : Lib.hasPrefix l [47] = (l.head? == some 47) := by
  cases l with
  | nil => rfl
  | cons c t =>
    simp [Lib.hasPrefix, List.isPrefixOf]
    exact BEq.comm
theorem below_to {w w1 w2 : World} (h : Below w.heap.size w w1) (h' : Below w1.heap.size w1 w2) (hz : w.heap.size ≤ w1.heap.size) : Below w.heap.size w w2 := h.trans (h'.mono hz)
set_option maxHeartbeats 6400000 in
theorem segments_any (s : ByteArray) (w : World) (hs : s.size ≤ 100000) (hM : MaxOf w) :
    Calls Tryz.prog 59 #[.string s] w fun e w' => e = .returned (.string ⟨(segsL (bs s)).toArray⟩) ∧ Below w.heap.size w w' := by
  have HM := Lib.hid hM
  clear hM
  have hpre := pre_slash (bs s)
  cases hx : Lib.hasPrefix s.data.toList [47] with
  | false =>
    have HX := Lib.hid hx
    have HF : Hid (segsL (bs s) = bs s) := Lib.hid (by
      rw [show Lib.hasPrefix (bs s) [47] = false from hx] at hpre
      cases hl : bs s with
      | nil => rfl
      | cons c t =>
        rw [hl] at hpre
        refine segsL_other t fun e => ?_
        subst e; simp at hpre)
    clear hx hpre
    go_enter Tryz.func59, Tryz.ntmps59
    go_wp2_with fail
    go_step3
    go_wp2_with (go_at_call 35; refine (Tryz.strings_HasPrefix s ⟨#[47]⟩ _).mono ?_; rintro e w2 ⟨rfl, hw2⟩; rw [show Lib.hasPrefix s.data.toList (⟨#[47]⟩ : ByteArray).data.toList = false from HX.out, hw2]; clear hw2)
    rw [Exit.noGoto_ret]
    go_ret
    exact ⟨by rw [HF.out]; rfl, Below.refl _ _⟩
  | true =>
    have HX := Lib.hid hx
    obtain ⟨p, hp⟩ : ∃ p : ByteArray, p = s.extract 1 s.size := ⟨_, rfl⟩
    have hsz : 1 ≤ s.size ∧ segsL (bs s) = joinS (segGo [] (splitC 47 (bs p))) ∧ p.size + 1 = s.size := by
      rw [show Lib.hasPrefix (bs s) [47] = true from hx] at hpre
      have hb : bs p = (bs s).drop 1 := by
        rw [hp]; unfold bs; rw [Lib.extract_data]
        exact List.take_of_length_le (by rw [List.length_drop, ← Lib.size_eq]; exact Nat.le_refl _)
      cases hl : bs s with
      | nil => rw [hl] at hpre; simp at hpre
      | cons c t =>
        rw [hl] at hpre hb
        have hc : c = 47 := by simpa using hpre.symm
        subst hc
        have z := bs_length s
        have z2 := bs_length p
        rw [hl] at z
        rw [hb] at z2
        simp at z z2
        refine ⟨by omega, ?_, by omega⟩
        rw [segsL_slash, hb]; rfl
    obtain ⟨z1, hseg, z2⟩ := hsz
    have HS := Lib.hid hseg
    have hsl : ∀ wx, (Instr.slice 9 (.string s) (some (.int .i64 1)) none none).run Tryz.prog wx = .ok (.string p) wx := fun wx => by
      rw [hp, run_slice_string_l wx 9 s Tryz.underlying9 .i64 1 (by omega) (by omega)]; rfl
    clear hx hpre hp hseg
    go_enter Tryz.func59, Tryz.ntmps59
    go_wp2_with fail
    go_step3
    go_wp2_with (go_at_call 35; refine (Tryz.strings_HasPrefix s ⟨#[47]⟩ _).mono ?_; rintro e w2 ⟨rfl, hw2⟩; rw [show Lib.hasPrefix s.data.toList (⟨#[47]⟩ : ByteArray).data.toList = true from HX.out, hw2]; clear hw2)
    go_step3
    go_wp2_with fail
    go_loopw [3, 4, 5] (fun v r m wr => ∃ (t : ByteArray) (xs : List ByteArray) (more : Bool), r = .string t ∧ m = .bool more ∧ Hid (SegAt (bs p) more t xs) ∧ t.size ≤ 100000 ∧ SBuf wr w.heap.size v xs ∧ Below w.heap.size w wr ∧ w.heap.size ≤ wr.heap.size) (fun _ r m _ => match r, m with | .string t, .bool true => t.size + 1 | _, _ => 0)
    case atStart => exact ⟨p, [], true, rfl, rfl, Lib.hid ⟨by simp, by simp [joinS]⟩, by omega, SBuf.nil_ _ _, Below.refl _ _, Nat.le_refl _⟩
    case round =>
      obtain ⟨t, xs, more, rfl, rfl, H, ht, hB, hb, hz⟩ := hrel
      have HMr := Lib.hid (HM.out.below hb)
      have hjl := SegAt.len H.out
      rw [bs_length] at hjl
      obtain ⟨hjl1, hjl2⟩ := hjl
      have hlen : xs.length + 1 ≤ 1000000 := by omega
      cases more with
      | false =>
        have hne : xs ≠ [] := fun e => by
          have := H.out.1
          rw [e] at this
          exact segGo_ne _ [] (splitC_ne 47 (bs p)) this
        obtain ⟨g, cap, rfl, hg1, hg2, hcs, hcap⟩ := hB.form (List.length_pos_iff.2 hne)
        have hjs := join_slash (xs.map bs) (by simpa using hne)
        have hjz := congrArg List.length hjs
        rw [List.length_cons] at hjz
        have HJ := Lib.hid (Tryz.strings_Join g 0 cap xs ⟨#[47]⟩ _ (fun j x hj => by rw [Nat.zero_add]; exact hcs j x hj) hg2 (by omega) hcap (by show (Lib.join (xs.map bs) [47]).length ≤ _; omega))
        obtain ⟨y, hy⟩ : ∃ y : ByteArray, y = ⟨(Lib.join (xs.map (·.data.toList)) (⟨#[47]⟩ : ByteArray).data.toList).toArray⟩ := ⟨_, rfl⟩
        rw [← hy] at HJ
        have hyb : bs y = Lib.join (xs.map bs) [47] := by rw [hy]
        have hyz : y.size ≤ 200000 := by rw [← bs_length, hyb]; omega
        have HF : Hid ((⟨#[47]⟩ : ByteArray) ++ y = ⟨(segsL (bs s)).toArray⟩) := Lib.hid (by
          have e1 : y = ⟨(bs y).toArray⟩ := rfl
          rw [HS.out, H.out.1, e1, hyb]
          show (⟨([47] : List UInt8).toArray⟩ : ByteArray) ++ _ = _
          rw [cat_mk, List.singleton_append, hjs, if_neg (by simp)])
        have c1 : ((⟨#[47]⟩ : ByteArray).size : Int) = 1 := rfl
        clear hjs hjz hcs hne hy hyb hB
        go_wp2_with fail
        refine HJ.out.mono ?_
        rintro e w2 ⟨rfl, hb2⟩
        go_wp2_with fail
        rw [Exit.noGoto_ret]
        go_ret
        exact ⟨by rw [← HF.out]; rfl, below_to hb hb2 hz⟩
      | true =>
        have HC0 := Lib.hid (cut_any t 47 _ (by omega) HMr.out)
        rcases H.out.cut with ⟨a, b, hc, za, zb, f1, f2, f3⟩ | ⟨hc, f1, f2, f3⟩
        · rw [hc] at HC0
          have HCC : Hid (Calls Tryz.prog 56 #[.string t, .string ⟨#[47]⟩] wr fun e w' => e = .returned (.tuple #[.string a, .string b, .bool true]) ∧ Below wr.heap.size wr w') := Lib.hid HC0.out
          have F1 := Lib.hid f1
          have F2 := Lib.hid f2
          have F3 := Lib.hid f3
          clear hc f1 f2 f3 HC0
          by_cases ha : bs a = [46]
          · have HG := Lib.hid (F2.out ha)
            have k1 : a.toList = [46] := by rw [Lib.toList_data]; exact ha
            clear ha F1 F2 F3
            go_wp2_with fail
            refine HCC.out.mono ?_
            rintro e w2 ⟨rfl, hb2⟩
            have b2 := below_to hb hb2 hz
            have z2 := Nat.le_trans hz hb2.size
            have B2 := hB.below hb2 (Nat.le_refl _)
            clear HCC hb hz hB hb2
            go_wp2_with fail
            go_roundw
            case rel => exact ⟨b, xs, true, rfl, rfl, HG, by omega, B2, b2, z2⟩
            case measure => show b.size + 1 < t.size + 1; omega
          · by_cases ha2 : bs a = [46, 46]
            · have HG := Lib.hid (F1.out ha2)
              have k1 : a.toList = [46, 46] := by rw [Lib.toList_data]; exact ha2
              obtain ⟨oa, cap, rfl, hcap⟩ := hB.shape
              obtain ⟨m, hm⟩ : ∃ m : Nat, m = xs.length - 1 := ⟨_, rfl⟩
              obtain ⟨v', hsl', hpop⟩ := hB.pop m hm
              have hmx : max ((xs.length : Int) - 1) 0 = (m : Int) := by omega
              clear ha ha2 F1 F2 F3 hm
              go_wp2_with fail
              refine HCC.out.mono ?_
              rintro e w2 ⟨rfl, hb2⟩
              have b2 := below_to hb hb2 hz
              have z2 := Nat.le_trans hz hb2.size
              have B2 := hpop.below hb2 (Nat.le_refl _)
              clear HCC hb hz hB hb2 hpop
              go_wp2_with fail
              go_roundw
              case rel => exact ⟨b, xs.dropLast, true, rfl, rfl, HG, by omega, B2, b2, z2⟩
              case measure => show b.size + 1 < t.size + 1; omega
            · have HG := Lib.hid (F3.out ha2 ha)
              have k1 : (a.toList == [46]) = false := by rw [Lib.toList_data, beq_eq_false_iff_ne]; exact ha
              have k2 : (a.toList == [46, 46]) = false := by rw [Lib.toList_data, beq_eq_false_iff_ne]; exact ha2
              clear ha ha2 F1 F2 F3
              go_wp2_with fail
              refine HCC.out.mono ?_
              rintro e w2 ⟨rfl, hb2⟩
              have b2 := below_to hb hb2 hz
              have z2 := Nat.le_trans hz hb2.size
              have B2 := hB.below hb2 (Nat.le_refl _)
              clear HCC hb hz hB hb2
              go_wp2_with (at_builtin; refine wpList_append_str rfl (.tmp 39) (.tmp 41) rfl w _ w.heap.size _ xs rfl (B2.alloc _) (b2.alloc z2 _) (le_alloc z2 _) ⟨w2.heap.size, 0, none⟩ a rfl (cell_new w2 _ _) hlen ?_)
              intro v3 w3 hB3 hb3 hz3
              clear B2 b2 z2
              go_wp2_with fail
              go_roundw
              case rel => exact ⟨b, xs ++ [a], true, rfl, rfl, HG, by omega, hB3, hb3, hz3⟩
              case measure => show b.size + 1 < t.size + 1; omega
        · rw [hc] at HC0
          have HCC : Hid (Calls Tryz.prog 56 #[.string t, .string ⟨#[47]⟩] wr fun e w' => e = .returned (.tuple #[.string t, .string ⟨#[]⟩, .bool false]) ∧ Below wr.heap.size wr w') := Lib.hid HC0.out
          have F1 := Lib.hid f1
          have F2 := Lib.hid f2
          have F3 := Lib.hid f3
          clear hc f1 f2 f3 HC0
          by_cases ha : bs t = [46]
          · have HG := Lib.hid (F2.out ha)
            have k1 : t.toList = [46] := by rw [Lib.toList_data]; exact ha
            clear ha F1 F2 F3
            go_wp2_with fail
            refine HCC.out.mono ?_
            rintro e w2 ⟨rfl, hb2⟩
            have b2 := below_to hb hb2 hz
            have z2 := Nat.le_trans hz hb2.size
            have B2 := hB.below hb2 (Nat.le_refl _)
            clear HCC hb hz hB hb2
            go_wp2_with (at_builtin; refine wpList_append_str rfl (.tmp 39) (.tmp 41) rfl w _ w.heap.size _ xs rfl (B2.alloc _) (b2.alloc z2 _) (le_alloc z2 _) ⟨w2.heap.size, 0, none⟩ ⟨#[]⟩ rfl (cell_new w2 _ _) hlen ?_)
            intro v3 w3 hB3 hb3 hz3
            clear B2 b2 z2
            go_wp2_with fail
            go_roundw
            case rel => exact ⟨⟨#[]⟩, xs ++ [⟨#[]⟩], false, rfl, rfl, HG, (show (0 : Nat) ≤ 100000 by omega), hB3, hb3, hz3⟩
            case measure => show 0 < t.size + 1; omega
          · by_cases ha2 : bs t = [46, 46]
            · have HG := Lib.hid (F1.out ha2)
              have k1 : t.toList = [46, 46] := by rw [Lib.toList_data]; exact ha2
              obtain ⟨oa, cap, rfl, hcap⟩ := hB.shape
              obtain ⟨m, hm⟩ : ∃ m : Nat, m = xs.length - 1 := ⟨_, rfl⟩
              obtain ⟨v', hsl', hpop⟩ := hB.pop m hm
              have hmx : max ((xs.length : Int) - 1) 0 = (m : Int) := by omega
              have hlen' : xs.dropLast.length + 1 ≤ 1000000 := by simp; omega
              clear ha ha2 F1 F2 F3 hm
              go_wp2_with fail
              refine HCC.out.mono ?_
              rintro e w2 ⟨rfl, hb2⟩
              have b2 := below_to hb hb2 hz
              have z2 := Nat.le_trans hz hb2.size
              have B2 := hpop.below hb2 (Nat.le_refl _)
              clear HCC hb hz hB hb2 hpop
              go_wp2_with (at_builtin; refine wpList_append_str rfl (.tmp 39) (.tmp 41) rfl w _ w.heap.size _ xs.dropLast rfl (B2.alloc _) (b2.alloc z2 _) (le_alloc z2 _) ⟨w2.heap.size, 0, none⟩ ⟨#[]⟩ rfl (cell_new w2 _ _) hlen' ?_)
              intro v3 w3 hB3 hb3 hz3
              clear B2 b2 z2
              go_wp2_with fail
              go_roundw
              case rel => exact ⟨⟨#[]⟩, xs.dropLast ++ [⟨#[]⟩], false, rfl, rfl, HG, (show (0 : Nat) ≤ 100000 by omega), hB3, hb3, hz3⟩
              case measure => show 0 < t.size + 1; omega
            · have HG := Lib.hid (F3.out ha2 ha)
              have k1 : (t.toList == [46]) = false := by rw [Lib.toList_data, beq_eq_false_iff_ne]; exact ha
              have k2 : (t.toList == [46, 46]) = false := by rw [Lib.toList_data, beq_eq_false_iff_ne]; exact ha2
              clear ha ha2 F1 F2 F3
              go_wp2_with fail
              refine HCC.out.mono ?_
              rintro e w2 ⟨rfl, hb2⟩
              have b2 := below_to hb hb2 hz
              have z2 := Nat.le_trans hz hb2.size
              have B2 := hB.below hb2 (Nat.le_refl _)
              clear HCC hb hz hB hb2
              go_wp2_with (at_builtin; refine wpList_append_str rfl (.tmp 39) (.tmp 41) rfl w _ w.heap.size _ xs rfl (B2.alloc _) (b2.alloc z2 _) (le_alloc z2 _) ⟨w2.heap.size, 0, none⟩ t rfl (cell_new w2 _ _) hlen ?_)
              intro v3 w3 hB3 hb3 hz3
              clear B2 b2 z2
              go_wp2_with fail
              go_roundw
              case rel => exact ⟨⟨#[]⟩, xs ++ [t], false, rfl, rfl, HG, (show (0 : Nat) ≤ 100000 by omega), hB3, hb3, hz3⟩
              case measure => show 0 < t.size + 1; omega
end Go.Proofs.YtglckhljpjcmaaaGreatDoor
