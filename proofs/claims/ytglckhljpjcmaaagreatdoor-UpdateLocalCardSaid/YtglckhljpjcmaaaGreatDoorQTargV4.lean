/- The walk of Segments (4.3) in the reference. -/
import Derived.Test.YtglckhljpjcmaaaGreatDoorQTargV3
import Derived.Test.YtglckhljpjcmaaaGreatDoorQTargW5
import Derived.Deep.QuietTactic
import Derived.BigQuiet
namespace Go.Proofs.YtglckhljpjcmaaaGreatDoor
open Go.RowKit

theorem bs_inj {a b : ByteArray} (h : bs a = bs b) : a = b := ByteArray.ext (Array.toList_inj.1 h)
theorem SegAt.done {p : List UInt8} {t : ByteArray} {xs : List ByteArray} (h : SegAt p false t xs) : joinS (xs.map bs) = joinS (segGo [] (splitC 47 p)) ∧ xs ≠ [] := by
  have h1 := h.1
  rw [if_neg (by simp)] at h1
  refine ⟨by rw [h1], fun e => ?_⟩
  rw [e] at h1
  exact segGo_ne _ [] (splitC_ne 47 p) h1
theorem join_take (xs : List ByteArray) {k : Nat} {x : ByteArray} (h : xs[k]? = some x) : joinS ((xs.take (k + 1)).map bs) = joinS ((xs.take k).map bs) ++ 47 :: bs x := by
  obtain ⟨hk, hx⟩ := List.getElem?_eq_some_iff.1 h
  rw [List.take_succ_eq_append_getElem hk, List.map_append, List.map_singleton, joinS_snoc, hx]
theorem join_le (xs : List ByteArray) (k : Nat) : (joinS ((xs.take k).map bs)).length ≤ (joinS (xs.map bs)).length := by
  have : xs.map bs = (xs.take k).map bs ++ (xs.drop k).map bs := by rw [← List.map_append, List.take_append_drop]
  rw [this, joinS_app]; simp
set_option maxHeartbeats 6400000 in
set_option maxRecDepth 100000 in
theorem rsegments_any (s : ByteArray) (w : World) (hs : s.size ≤ 100000) :
    Calls Tryz.prog 28 #[.string s] w fun e w' => e = .returned (.string ⟨(segsL (bs s)).toArray⟩) ∧ Below w.heap.size w w' := by
  by_cases hz : s.size = 0
  · obtain ⟨e1, e2⟩ := empty_yes hz
    have HF : Hid ((⟨(segsL (bs s)).toArray⟩ : ByteArray) = s) := Lib.hid (by rw [e2, ← e2]; cases hx : bs s with | nil => exact bs_inj (by rw [hx]; rfl) | cons c t => rw [e2] at hx; cases hx)
    clear hz e2
    go_enter Tryz.func28, Tryz.ntmps28
    go_wp2_with fail
    go_ret
    exact ⟨by rw [HF.out]; rfl, Below.refl _ _⟩
  have e1 := empty_no hz
  have hp0 : 0 < s.size := by omega
  have hl : bs s = s[0] :: (bs s).drop 1 := by
    have := drop_step s hp0
    rwa [List.drop_zero] at this
  by_cases h0 : s[0] = 47
  rotate_left
  · have HF : Hid ((⟨(segsL (bs s)).toArray⟩ : ByteArray) = s) := Lib.hid (by
      have : segsL (bs s) = bs s := by rw [hl]; exact segsL_other _ h0
      rw [this])
    have q0 : ((s[0].toNat : Int) != 47) = true := u8_bt (n := 47) (by decide) h0
    clear hz h0 hl
    go_enter Tryz.func28, Tryz.ntmps28
    go_wp2_with fail
    go_ret
    exact ⟨by rw [HF.out]; rfl, Below.refl _ _⟩
  have q0 : ((s[0].toNat : Int) != 47) = false := u8_bf (n := 47) (by decide) h0
  obtain ⟨p, hp⟩ : ∃ p : ByteArray, p = s.extract 1 s.size := ⟨_, rfl⟩
  have hpb : bs p = (bs s).drop 1 := by rw [hp]; exact extract_from s 1
  have HS : Hid (segsL (bs s) = joinS (segGo [] (splitC 47 (bs p)))) := Lib.hid (by rw [hl, h0, segsL_slash, hpb])
  have zp : p.size ≤ 100000 := by rw [hp, ByteArray.size_extract]; omega
  have hsl := fun wx => run_from s 1 1 rfl (by omega) wx
  rw [← hp] at hsl
  clear hz h0 hl hp hpb
  go_enter Tryz.func28, Tryz.ntmps28
  go_wp2_with fail
  go_loopw [3, 4, 5] (fun v r m wr => ∃ (tr t : ByteArray) (xs : List ByteArray) (more : Bool), r = .string tr ∧ (more = true → tr = t) ∧ m = .bool more ∧ Hid (SegAt (bs p) more t xs) ∧ t.size ≤ 100000 ∧ SBuf wr w.heap.size v xs ∧ Below w.heap.size w wr ∧ w.heap.size ≤ wr.heap.size) (fun _ r m _ => match r, m with | .string t, .bool true => t.size + 1 | _, _ => 0)
  case atStart => exact ⟨p, p, [], true, rfl, fun _ => rfl, rfl, Lib.hid ⟨by simp, by simp [joinS]⟩, zp, SBuf.nil_ _ _, Below.refl _ _, Nat.le_refl _⟩
  case round =>
    obtain ⟨tr, t, xs, more, rfl, htr, rfl, H, ht, hB, hb, hz⟩ := hrel
    have hjl := SegAt.len H.out
    rw [bs_length] at hjl
    obtain ⟨hjl1, hjl2⟩ := hjl
    have hlen : xs.length + 1 ≤ 1000000 := by omega
    cases more with
    | false =>
      obtain ⟨hd1, hne⟩ := H.out.done
      have HD := Lib.hid hd1
      obtain ⟨g, cap, rfl, hg1, hg2, hcs, hcap⟩ := hB.form (List.length_pos_iff.2 hne)
      have HCS := Lib.hid hcs
      clear hd1 hne hcs hB htr
      go_wp2_with fail
      go_loop [8, 9] (fun y j => ∃ (k : Nat) (z : ByteArray), k ≤ xs.length ∧ j = .int .i64 k ∧ y = .string z ∧ Hid (bs z = joinS ((xs.take k).map bs))) (fun _ j => xs.length - (intOf j).toNat)
      case atStart => exact ⟨0, ⟨#[]⟩, by omega, rfl, rfl, Lib.hid rfl⟩
      case round =>
        obtain ⟨k, z, hk, rfl, rfl, HZ⟩ := hrel
        by_cases hlt : k < xs.length
        · obtain ⟨x, hx⟩ : ∃ x, xs[k]? = some x := ⟨_, List.getElem?_eq_getElem hlt⟩
          have hcx := HCS.out k x hx
          have hjt := join_take xs hx
          have hjz := congrArg List.length hjt
          have hjk := join_le xs (k + 1)
          rw [List.length_append, List.length_cons, bs_length, ← HZ.out, bs_length] at hjz
          obtain ⟨y1, hy1⟩ : ∃ y1 : ByteArray, y1 = (⟨#[47]⟩ : ByteArray) ++ x := ⟨_, rfl⟩
          obtain ⟨y2, hy2⟩ : ∃ y2 : ByteArray, y2 = z ++ y1 := ⟨_, rfl⟩
          have zy1 : y1.size = 1 + x.size := by rw [hy1, ByteArray.size_append]; rfl
          have s1 : ∀ wx, (Op.stringOp .add ⟨#[47]⟩ x).run Tryz.prog wx = .ok (.string y1) wx := fun wx => by
            rw [hy1]; exact run_string_add_sum wx _ _ (by show 1 + x.size ≤ _; omega)
          have s2 : ∀ wx, (Op.stringOp .add z y1).run Tryz.prog wx = .ok (.string y2) wx := fun wx => by
            rw [hy2]; exact run_string_add_sum wx _ _ (by omega)
          have HY : Hid (bs y2 = joinS ((xs.take (k + 1)).map bs)) := Lib.hid (by
            rw [hjt, ← HZ.out, hy2, hy1]
            show bs (⟨(bs z).toArray⟩ ++ (⟨([47] : List UInt8).toArray⟩ ++ ⟨(bs x).toArray⟩)) = _
            rw [cat_mk, cat_mk]; rfl)
          clear hx hjt hjz hjk hy1 hy2 zy1
          go_wp2_with fail
          go_round
          case rel => exact ⟨k + 1, y2, by omega, by go_num, rfl, HY⟩
          case measure => simp [intOf]; omega
        · have HF : Hid (z = ⟨(segsL (bs s)).toArray⟩) := Lib.hid (by
            have e := HZ.out
            rw [List.take_of_length_le (by omega)] at e
            exact bs_inj (by rw [e, HS.out, HD.out]))
          go_wp2_with fail
          go_ret
          exact ⟨by rw [← HF.out]; rfl, hb⟩
    | true =>
      obtain rfl : tr = t := htr rfl
      clear htr
      obtain ⟨t, ht0⟩ : ∃ t, t = tr := ⟨_, rfl⟩
      subst ht0
      rcases idx_cut (c := 47) ht with ⟨hi, hic⟩ | ⟨i, hi, hil, hic⟩
      · have HI := Lib.hid hi
        rcases H.out.cut with ⟨a, b, hc, _, _, _, _, _⟩ | ⟨hc, f1, f2, f3⟩
        · rw [hic] at hc; simp at hc
        have F1 := Lib.hid f1
        have F2 := Lib.hid f2
        have F3 := Lib.hid f3
        clear hi hic hc f1 f2 f3
        by_cases ha : bs t = [46]
        · have HG := Lib.hid (F2.out ha)
          have k1 : t.toList = [46] := by rw [Lib.toList_data]; exact ha
          clear ha F1 F2 F3
          go_wp2_with fail
          refine (index_any t 47 0 _ _ _ rfl rfl (by omega) (by omega)).mono ?_
          rintro e w2 ⟨rfl, rfl⟩
          rw [HI.out]
          have b4 := hb
          have z4 := hz
          have B4 := hB
          obtain ⟨w4, hw4⟩ : ∃ w4, w4 = wr := ⟨_, rfl⟩
          rw [← hw4] at b4 z4 B4 ⊢
          clear hB hb hz hw4
          go_wp2_with (at_builtin; refine wpList_append_str rfl (.tmp 58) (.tmp 59) rfl w _ w.heap.size _ (xs) rfl (B4.alloc _) (b4.alloc z4 _) (le_alloc z4 _) ⟨w4.heap.size, 0, none⟩ ⟨#[]⟩ rfl (cell_new w4 _ _) hlen ?_)
          intro v3 w5 hB3 hb3 hz3
          clear B4 b4 z4
          go_wp2_with fail
          go_roundw
          case rel => exact ⟨t, (⟨#[]⟩ : ByteArray), xs ++ [(⟨#[]⟩ : ByteArray)], false, rfl, fun h => absurd h (by decide), rfl, HG, (show (0 : Nat) ≤ 100000 by omega), hB3, hb3, hz3⟩
          case measure => first | (show b.size + 1 < t.size + 1; omega) | (show 0 < t.size + 1; omega)
        · by_cases ha2 : bs t = [46, 46]
          · have HG := Lib.hid (F1.out ha2)
            have k1 : t.toList = [46, 46] := by rw [Lib.toList_data]; exact ha2
            by_cases hx0 : 0 < xs.length
            · obtain ⟨oa, cap, rfl, hcap⟩ := hB.shape
              obtain ⟨m, hm⟩ : ∃ m : Nat, m = xs.length - 1 := ⟨_, rfl⟩
              obtain ⟨v', hsl', hpop⟩ := hB.pop m hm
              have hmi : (m : Int) = (xs.length : Int) - 1 := by omega
              rw [hmi] at hsl'
              have hx0' : (0 : Int) < (xs.length : Int) := by omega
              have hlen' : xs.dropLast.length + 1 ≤ 1000000 := by simp; omega
              clear ha ha2 F1 F2 F3 hm hmi
              go_wp2_with fail
              refine (index_any t 47 0 _ _ _ rfl rfl (by omega) (by omega)).mono ?_
              rintro e w2 ⟨rfl, rfl⟩
              rw [HI.out]
              have b4 := hb
              have z4 := hz
              have B4 := hpop
              obtain ⟨w4, hw4⟩ : ∃ w4, w4 = wr := ⟨_, rfl⟩
              rw [← hw4] at b4 z4 B4 ⊢
              clear hB hb hz hpop hw4
              go_wp2_with (at_builtin; refine wpList_append_str rfl (.tmp 58) (.tmp 59) rfl w _ w.heap.size _ (xs.dropLast) rfl (B4.alloc _) (b4.alloc z4 _) (le_alloc z4 _) ⟨w4.heap.size, 0, none⟩ ⟨#[]⟩ rfl (cell_new w4 _ _) hlen' ?_)
              intro v3 w5 hB3 hb3 hz3
              clear B4 b4 z4
              go_wp2_with fail
              go_roundw
              case rel => exact ⟨t, (⟨#[]⟩ : ByteArray), xs.dropLast ++ [(⟨#[]⟩ : ByteArray)], false, rfl, fun h => absurd h (by decide), rfl, HG, (show (0 : Nat) ≤ 100000 by omega), hB3, hb3, hz3⟩
              case measure => first | (show b.size + 1 < t.size + 1; omega) | (show 0 < t.size + 1; omega)
            · have hxe : xs = [] := List.length_eq_zero_iff.1 (by omega)
              obtain ⟨oa, cap, rfl, hcap⟩ := hB.shape
              have hx0' : ¬ (0 : Int) < (xs.length : Int) := by omega
              have HXE := Lib.hid hxe
              clear ha ha2 F1 F2 F3 hxe
              go_wp2_with fail
              refine (index_any t 47 0 _ _ _ rfl rfl (by omega) (by omega)).mono ?_
              rintro e w2 ⟨rfl, rfl⟩
              rw [HI.out]
              have b4 := hb
              have z4 := hz
              have B4 := hB
              obtain ⟨w4, hw4⟩ : ∃ w4, w4 = wr := ⟨_, rfl⟩
              rw [← hw4] at b4 z4 B4 ⊢
              clear hB hb hz hw4
              have B5 : SBuf w4 w.heap.size (Value.slice oa xs.length cap) xs.dropLast := by rw [show xs.dropLast = xs from by rw [HXE.out]; rfl]; exact B4
              have hlen' : xs.dropLast.length + 1 ≤ 1000000 := by simp; omega
              go_wp2_with (at_builtin; refine wpList_append_str rfl (.tmp 58) (.tmp 59) rfl w _ w.heap.size _ (xs.dropLast) rfl (B5.alloc _) (b4.alloc z4 _) (le_alloc z4 _) ⟨w4.heap.size, 0, none⟩ ⟨#[]⟩ rfl (cell_new w4 _ _) hlen' ?_)
              intro v3 w5 hB3 hb3 hz3
              clear B4 b4 z4
              go_wp2_with fail
              go_roundw
              case rel => exact ⟨t, (⟨#[]⟩ : ByteArray), xs.dropLast ++ [(⟨#[]⟩ : ByteArray)], false, rfl, fun h => absurd h (by decide), rfl, HG, (show (0 : Nat) ≤ 100000 by omega), hB3, hb3, hz3⟩
              case measure => first | (show b.size + 1 < t.size + 1; omega) | (show 0 < t.size + 1; omega)
          · have HG := Lib.hid (F3.out ha2 ha)
            have k1 : (t.toList == [46]) = false := by rw [Lib.toList_data, beq_eq_false_iff_ne]; exact ha
            have k2 : (t.toList == [46, 46]) = false := by rw [Lib.toList_data, beq_eq_false_iff_ne]; exact ha2
            clear ha ha2 F1 F2 F3
            go_wp2_with fail
            refine (index_any t 47 0 _ _ _ rfl rfl (by omega) (by omega)).mono ?_
            rintro e w2 ⟨rfl, rfl⟩
            rw [HI.out]
            have b4 := hb
            have z4 := hz
            have B4 := hB
            obtain ⟨w4, hw4⟩ : ∃ w4, w4 = wr := ⟨_, rfl⟩
            rw [← hw4] at b4 z4 B4 ⊢
            clear hB hb hz hw4
            go_wp2_with (at_builtin; refine wpList_append_str rfl (.tmp 52) (.tmp 54) rfl w _ w.heap.size _ (xs) rfl (B4.alloc _) (b4.alloc z4 _) (le_alloc z4 _) ⟨w4.heap.size, 0, none⟩ t rfl (cell_new w4 _ _) hlen ?_)
            intro v3 w5 hB3 hb3 hz3
            clear B4 b4 z4
            go_wp2_with fail
            go_roundw
            case rel => exact ⟨t, (⟨#[]⟩ : ByteArray), xs ++ [t], false, rfl, fun h => absurd h (by decide), rfl, HG, (show (0 : Nat) ≤ 100000 by omega), hB3, hb3, hz3⟩
            case measure => first | (show b.size + 1 < t.size + 1; omega) | (show 0 < t.size + 1; omega)
      · have HI := Lib.hid hi
        rcases H.out.cut with ⟨a, b, hc, za, zb, f1, f2, f3⟩ | ⟨hc, _, _, _⟩
        rotate_left
        · rw [hic] at hc; simp at hc
        rw [hic] at hc
        simp only [Prod.mk.injEq, and_true] at hc
        obtain ⟨ea, eb⟩ := hc
        have ea' := bs_inj ea
        have eb' := bs_inj eb
        have s1 := fun wx => run_to t i i rfl (by omega) wx
        have s2 := fun wx => run_from t (i + 1) ((i : Int) + 1) (by omega) (by omega) wx
        rw [ea'] at s1
        rw [eb'] at s2
        have v1 : IntKind.i64.wrap ((i : Int) + 1) = (i : Int) + 1 := IntWalk.i64_in _ (by omega)
        have F1 := Lib.hid f1
        have F2 := Lib.hid f2
        have F3 := Lib.hid f3
        clear hi hic ea eb ea' eb' f1 f2 f3
        by_cases ha : bs a = [46]
        · have HG := Lib.hid (F2.out ha)
          have k1 : a.toList = [46] := by rw [Lib.toList_data]; exact ha
          clear ha F1 F2 F3
          go_wp2_with fail
          refine (index_any t 47 0 _ _ _ rfl rfl (by omega) (by omega)).mono ?_
          rintro e w2 ⟨rfl, rfl⟩
          rw [HI.out]
          go_wp2_with fail
          go_quiet (fail)
          have b4 := below_drewN hb nq
          have z4 : w.heap.size ≤ (wr.drewN nq).heap.size := hz
          have B4 : SBuf (wr.drewN nq) w.heap.size _ xs := hB.below (below_draws _ nq) (Nat.le_refl _)
          generalize wr.drewN nq = w4 at b4 z4 B4 ⊢
          clear hB hb hz
          go_wp2_with fail
          go_roundw
          case rel => exact ⟨b, b, xs, true, rfl, fun _ => rfl, rfl, HG, by omega, B4, b4, z4⟩
          case measure => show b.size + 1 < t.size + 1; omega
        · by_cases ha2 : bs a = [46, 46]
          · have HG := Lib.hid (F1.out ha2)
            have k1 : a.toList = [46, 46] := by rw [Lib.toList_data]; exact ha2
            by_cases hx0 : 0 < xs.length
            · obtain ⟨oa, cap, rfl, hcap⟩ := hB.shape
              obtain ⟨m, hm⟩ : ∃ m : Nat, m = xs.length - 1 := ⟨_, rfl⟩
              obtain ⟨v', hsl', hpop⟩ := hB.pop m hm
              have hmi : (m : Int) = (xs.length : Int) - 1 := by omega
              rw [hmi] at hsl'
              have hx0' : (0 : Int) < (xs.length : Int) := by omega
              have hlen' : xs.dropLast.length + 1 ≤ 1000000 := by simp; omega
              clear ha ha2 F1 F2 F3 hm hmi
              go_wp2_with fail
              refine (index_any t 47 0 _ _ _ rfl rfl (by omega) (by omega)).mono ?_
              rintro e w2 ⟨rfl, rfl⟩
              rw [HI.out]
              go_wp2_with fail
              go_quiet (fail)
              have b4 := below_drewN hb nq
              have z4 : w.heap.size ≤ (wr.drewN nq).heap.size := hz
              have B4 : SBuf (wr.drewN nq) w.heap.size v' xs.dropLast := hpop.below (below_draws _ nq) (Nat.le_refl _)
              generalize wr.drewN nq = w4 at b4 z4 B4 ⊢
              clear hB hb hz hpop
              go_wp2_with fail
              go_roundw
              case rel => exact ⟨b, b, xs.dropLast, true, rfl, fun _ => rfl, rfl, HG, by omega, B4, b4, z4⟩
              case measure => show b.size + 1 < t.size + 1; omega
            · have hxe : xs = [] := List.length_eq_zero_iff.1 (by omega)
              obtain ⟨oa, cap, rfl, hcap⟩ := hB.shape
              have hx0' : ¬ (0 : Int) < (xs.length : Int) := by omega
              have HXE := Lib.hid hxe
              clear ha ha2 F1 F2 F3 hxe
              go_wp2_with fail
              refine (index_any t 47 0 _ _ _ rfl rfl (by omega) (by omega)).mono ?_
              rintro e w2 ⟨rfl, rfl⟩
              rw [HI.out]
              go_wp2_with fail
              go_quiet (fail)
              have b4 := below_drewN hb nq
              have z4 : w.heap.size ≤ (wr.drewN nq).heap.size := hz
              have B4 : SBuf (wr.drewN nq) w.heap.size _ xs := hB.below (below_draws _ nq) (Nat.le_refl _)
              generalize wr.drewN nq = w4 at b4 z4 B4 ⊢
              clear hB hb hz
              have B5 : SBuf w4 w.heap.size (Value.slice oa xs.length cap) xs.dropLast := by rw [show xs.dropLast = xs from by rw [HXE.out]; rfl]; exact B4
              go_wp2_with fail
              go_roundw
              case rel => exact ⟨b, b, xs.dropLast, true, rfl, fun _ => rfl, rfl, HG, by omega, B5, b4, z4⟩
              case measure => show b.size + 1 < t.size + 1; omega
          · have HG := Lib.hid (F3.out ha2 ha)
            have k1 : (a.toList == [46]) = false := by rw [Lib.toList_data, beq_eq_false_iff_ne]; exact ha
            have k2 : (a.toList == [46, 46]) = false := by rw [Lib.toList_data, beq_eq_false_iff_ne]; exact ha2
            clear ha ha2 F1 F2 F3
            go_wp2_with fail
            refine (index_any t 47 0 _ _ _ rfl rfl (by omega) (by omega)).mono ?_
            rintro e w2 ⟨rfl, rfl⟩
            rw [HI.out]
            go_wp2_with fail
            go_quiet (fail)
            have b4 := below_drewN hb nq
            have z4 : w.heap.size ≤ (wr.drewN nq).heap.size := hz
            have B4 : SBuf (wr.drewN nq) w.heap.size _ xs := hB.below (below_draws _ nq) (Nat.le_refl _)
            generalize wr.drewN nq = w4 at b4 z4 B4 ⊢
            clear hB hb hz
            go_wp2_with (at_builtin; refine wpList_append_str rfl (.tmp 52) (.tmp 54) rfl w _ w.heap.size _ (xs) rfl (B4.alloc _) (b4.alloc z4 _) (le_alloc z4 _) ⟨w4.heap.size, 0, none⟩ a rfl (cell_new w4 _ _) hlen ?_)
            intro v3 w5 hB3 hb3 hz3
            clear B4 b4 z4
            go_wp2_with fail
            go_roundw
            case rel => exact ⟨b, b, xs ++ [a], true, rfl, fun _ => rfl, rfl, HG, by omega, hB3, hb3, hz3⟩
            case measure => first | (show b.size + 1 < t.size + 1; omega) | (show 0 < t.size + 1; omega)
end Go.Proofs.YtglckhljpjcmaaaGreatDoor
