/- The walks of etag.List, etag.Weak and of the reference's ETagList, Weak (layer 21). Printed by gen_tagl.py. -/
import Derived.Test.YtlcchcbeebakpaaDoorTagB
import Derived.Test.YtlcchcbeebakpaaDoorREtagX
import Derived.Test.YtlcchcbeebakpaaDoorListX
import Derived.Test.YtlcchcbeebakpaaDoorRListX
namespace Go.Proofs.YtlcchcbeebakpaaDoor
open Go.RowKit Go.Shelf

abbrev tgL (t : Tg) : Bool × List UInt8 := (t.1, bs t.2)
def tagsM : List (List UInt8) → Option (List (Bool × List UInt8))
  | [] => some []
  | m :: t => match etagL m with
    | none => none
    | some e => (tagsM t).map (e :: ·)
/-- none: malformed; some none: the star; else the tags. -/
def tagsL (ms : List (List UInt8)) : Option (Option (List (Bool × List UInt8))) := if ms = [[42]] then some none else if ms.length = 0 ∨ 64 ≤ ms.length then none else (tagsM ms).map some
def TagR (o : Option (Option (List (Bool × List UInt8)))) (ts : List Tg) (any ok : Bool) : Prop := match o with
  | none => any = false ∧ ok = false ∧ ts = []
  | some none => any = true ∧ ok = true ∧ ts = []
  | some (some l) => any = false ∧ ok = true ∧ ts.map tgL = l
def TagsOf (o : Option (Option (List (Bool × List UInt8)))) (w : World) (e : Ending) (w' : World) : Prop := ∃ oa ts cap any ok, e = .returned (.tuple #[.slice oa (List.length ts) cap, .bool any, .bool ok]) ∧ TagR o ts any ok ∧ List.length ts ≤ 64 ∧ TagO w' oa ts ∧ Below w.heap.size w w'
def TGo (ms : List ByteArray) (k : Nat) (zs : List Tg) : Prop := tagsM (ms.map bs) = (tagsM ((ms.map bs).drop k)).map (zs.map tgL ++ ·)
theorem TGo.start (ms : List ByteArray) : TGo ms 0 [] := by unfold TGo; simp
theorem TGo.bad {ms : List ByteArray} {k : Nat} {zs : List Tg} {x : ByteArray} (h : TGo ms k zs) (hx : ms[k]? = some x) (he : etagL (bs x) = none) : tagsM (ms.map bs) = none := by
  obtain ⟨hk, e⟩ := List.getElem?_eq_some_iff.1 hx
  unfold TGo at h
  rw [h, List.drop_eq_getElem_cons (by rw [List.length_map]; exact hk), List.getElem_map, e, tagsM, he]; rfl
theorem TGo.step {ms : List ByteArray} {k : Nat} {zs : List Tg} {x : ByteArray} {b : Bool} {l : List UInt8} (h : TGo ms k zs) (hx : ms[k]? = some x) (he : etagL (bs x) = some (b, l)) : TGo ms (k + 1) (zs ++ [(b, ⟨l.toArray⟩)]) := by
  obtain ⟨hk, e⟩ := List.getElem?_eq_some_iff.1 hx
  unfold TGo at h ⊢
  rw [h, List.drop_eq_getElem_cons (by rw [List.length_map]; exact hk), List.getElem_map, e, tagsM, he]
  simp [Function.comp_def]
theorem TGo.fin {ms : List ByteArray} {k : Nat} {zs : List Tg} (h : TGo ms k zs) (hk : ms.length ≤ k) : tagsM (ms.map bs) = some (zs.map tgL) := by
  unfold TGo at h
  rw [h, List.drop_of_length_le (by rw [List.length_map]; exact hk)]; simp [tagsM]
theorem new_t02 (w : World) (o : Obj) (x : Tg) (t : TypeId) : ((w.alloc o).alloc (.cells #[.bool x.1, .string x.2] t)).cell? ((⟨w.heap.size + 1, 0, none⟩ : Addr).add 0) = some (.bool x.1) := by
  have h := new_t0 (w.alloc o) x t
  rw [show (w.alloc o).heap.size = w.heap.size + 1 from Array.size_push _] at h
  exact h
theorem new_t12 (w : World) (o : Obj) (x : Tg) (t : TypeId) : ((w.alloc o).alloc (.cells #[.bool x.1, .string x.2] t)).cell? ((⟨w.heap.size + 1, 0, none⟩ : Addr).add 1) = some (.string x.2) := by
  have h := new_t1 (w.alloc o) x t
  rw [show (w.alloc o).heap.size = w.heap.size + 1 from Array.size_push _] at h
  exact h
theorem map_mkB (l : List (List UInt8)) : (l.map mkB).map bs = l := by rw [List.map_map]; exact (List.map_congr_left fun x _ => rfl).trans (List.map_id _)
set_option maxHeartbeats 3200000 in
theorem taglist_any (oa : Option Addr) (xs : List Fd) (cap : Nat) (s : ByteArray) (w : World) (hs : s.size ≤ 100000) (hn : xs.length ≤ 10000) (hz : FldZ xs 100000) (hc : FldO w oa xs) :
    Calls Tryd.prog 70 #[.slice oa xs.length cap, .string s] w (TagsOf (tagsL (allL (bs s) xs)) w) := by
  have HA := Lib.hid (all_any oa xs cap s w hs hn hz hc)
  have HXZ := Lib.hid hz
  clear hz hc
  go_enter Tryd.func70, Tryd.ntmps70
  go_wp2_with fail
  refine HA.out.mono ?_
  rintro e w1 ⟨om, cm, ms, rfl, hms, SO, hb1⟩
  have hml : ms.length ≤ 64 := by rw [hms, List.length_map]; exact allL_len _ _
  have HMZ : Hid (∀ x ∈ ms, x.size ≤ 100000) := Lib.hid fun x hx => by
    rw [hms] at hx
    obtain ⟨y, hy, rfl⟩ := List.mem_map.1 hx
    exact allL_mem HXZ.out hy
  have hmb : ms.map bs = allL (bs s) xs := by rw [hms, map_mkB]
  have hlb : (ms.map bs).length = ms.length := List.length_map _
  have HSO := Lib.hid SO
  clear hms HA SO
  by_cases h1 : ms.length = 1
  · have q1 : ((ms.length : Int) == 1) = true := by rw [h1]; rfl
    have q0 : ((ms.length : Int) == 0) = false := by rw [beq_eq_false_iff_ne]; omega
    have q64 : decide ((64 : Int) ≤ (ms.length : Int)) = false := by rw [decide_eq_false_iff_not]; omega
    have q65 : (0 : Int) < (ms.length : Int) := by omega
    obtain ⟨x, hx⟩ : ∃ x, ms = [x] := List.length_eq_one_iff.1 h1
    obtain ⟨ad, rfl, c0⟩ := HSO.out 0 x (by rw [hx]; rfl)
    rw [show ad.add 0 = ad from by unfold Addr.add; simp] at c0
    by_cases h42 : bs x = [42]
    · have k42 : (x.toList == [42]) = true := by rw [Lib.toList_data, show x.data.toList = [42] from h42]; rfl
      have HTL : Hid (tagsL (allL (bs s) xs) = some none) := Lib.hid (by rw [← hmb]; unfold tagsL; rw [if_pos (by rw [hx]; simp [h42])])
      clear h42 hx h1 hlb hmb
      go_wp2_with fail
      go_ret3
      refine ⟨none, [], 0, true, true, rfl, ?_, by simp, TagO.nil_ _ _, hb1⟩
      rw [HTL.out]
      exact ⟨rfl, rfl, rfl⟩
    · have k42 : (x.toList == [42]) = false := by rw [Lib.toList_data]; simpa using h42
      have HTL : Hid (tagsL (allL (bs s) xs) = (tagsM (ms.map bs)).map some) := Lib.hid (by rw [← hmb]; unfold tagsL; rw [if_neg (by rw [hx]; simpa using h42), if_neg (by rw [hlb]; omega)])
      clear h42 hx h1 hlb hmb
      go_wp2_with fail
      go_loopw [8, 35] (fun v c wr => ∃ (k : Nat) (zs : List Tg), k ≤ ms.length ∧ c = .int .i64 k ∧ Hid (TGo ms k zs) ∧ zs.length ≤ k ∧ TBuf wr w1.heap.size v zs ∧ Below w1.heap.size w1 wr) (fun _ c _ => ms.length - (intOf c).toNat)
      case atStart => exact ⟨0, [], by omega, rfl, Lib.hid (TGo.start ms), by simp, TBuf.nil_ _ _, Below.refl _ _⟩
      case round =>
        obtain ⟨k, zs, hk, rfl, H, hzl, TB, hb⟩ := hrel
        by_cases hlt : k < ms.length
        · obtain ⟨x, hx⟩ : ∃ x, ms[k]? = some x := ⟨_, List.getElem?_eq_getElem hlt⟩
          obtain ⟨ad2, had, c0⟩ := (HSO.out.down hb) k x hx
          cases had
          have zx := HMZ.out x (List.mem_of_getElem? hx)
          have hl10 : zs.length + 1 ≤ 1000000 := by omega
          cases he : etagL (bs x) with
          | none =>
            have HB := Lib.hid (H.out.bad hx he)
            have HE := Lib.hid he
            clear hx he
            go_wp2_with fail
            refine (etag_any x wr (by omega)).mono ?_
            rintro e w4 ⟨he, hb4⟩
            rw [HE.out, show etagV none = .tuple #[.agg #[.bool false, .string ⟨#[]⟩], .bool false] from rfl] at he
            subst he
            have b5 := step_b (step_b hb hb4) (alloc_b w4 (.cells #[.bool false, .string ⟨#[]⟩] 77))
            clear hb hb4 c0 TB
            go_wp2_with fail
            go_ret3
            refine ⟨none, [], 0, false, false, rfl, ?_, by simp, TagO.nil_ _ _, step_b hb1 b5⟩
            rw [HTL.out, HB.out]
            exact ⟨rfl, rfl, rfl⟩
          | some p =>
            obtain ⟨b, l⟩ := p
            have HS := Lib.hid (H.out.step hx he)
            have HE := Lib.hid he
            obtain ⟨lb, hlb⟩ : ∃ lb : ByteArray, lb = ⟨l.toArray⟩ := ⟨_, rfl⟩
            rw [← hlb] at HS
            have HLB := Lib.hid hlb
            clear hx he hlb
            go_wp2_with fail
            refine (etag_any x wr (by omega)).mono ?_
            rintro e w4 ⟨he, hb4⟩
            rw [HE.out, show etagV (some (b, l)) = .tuple #[.agg #[.bool b, .string ⟨l.toArray⟩], .bool true] from rfl, ← HLB.out] at he
            subst he
            have b5 := step_b (step_b hb hb4) (alloc_b w4 (.cells #[.bool b, .string lb] 77))
            have TB5 := (TB.below hb4 (Nat.le_refl _)).alloc (.cells #[.bool b, .string lb] 77)
            have z5 := b5.size
            clear hb hb4 c0 TB
            go_wp2_with (at_builtin; refine wpList_append_tag rfl (.tmp 46) (.tmp 48) rfl w1 _ w1.heap.size _ zs rfl (TB5.alloc _) (b5.alloc z5 _) (le_alloc z5 _) ⟨w4.heap.size + 1, 0, none⟩ (b, lb) rfl (new_t02 w4 _ (b, lb) _) (new_t12 w4 _ (b, lb) _) hl10 ?_)
            intro v6 w6 TB6 hb6 z6
            clear TB5 b5 z5
            go_wp2_with fail
            go_roundw
            case rel => exact ⟨k + 1, zs ++ [(b, lb)], by omega, by go_num, HS, by simp; omega, TB6, hb6⟩
            case measure => simp [intOf]; omega
        · have HF := Lib.hid (H.out.fin (by omega))
          obtain ⟨oz, cz, rfl, TO⟩ := TB.shape
          go_wp2_with fail
          go_ret3
          refine ⟨oz, zs, cz, false, true, rfl, ?_, by omega, TO, step_b hb1 hb⟩
          rw [HTL.out, HF.out]
          exact ⟨rfl, rfl, rfl⟩
  · have q1 : ((ms.length : Int) == 1) = false := by rw [beq_eq_false_iff_ne]; omega
    have hne : ms.map bs ≠ [[42]] := fun e => h1 (by rw [← hlb, e]; rfl)
    by_cases h0 : ms.length = 0
    · have q0 : ((ms.length : Int) == 0) = true := by rw [h0]; rfl
      have HTL : Hid (tagsL (allL (bs s) xs) = none) := Lib.hid (by rw [← hmb]; unfold tagsL; rw [if_neg hne, if_pos (.inl (by rw [hlb]; exact h0))])
      clear h0 h1 hne hlb hmb
      go_wp2_with fail
      go_ret3
      refine ⟨none, [], 0, false, false, rfl, ?_, by simp, TagO.nil_ _ _, hb1⟩
      rw [HTL.out]
      exact ⟨rfl, rfl, rfl⟩
    · have q0 : ((ms.length : Int) == 0) = false := by rw [beq_eq_false_iff_ne]; omega
      by_cases h64 : 64 ≤ ms.length
      · have q64 : decide ((64 : Int) ≤ (ms.length : Int)) = true := by rw [decide_eq_true_iff]; omega
        have HTL : Hid (tagsL (allL (bs s) xs) = none) := Lib.hid (by rw [← hmb]; unfold tagsL; rw [if_neg hne, if_pos (.inr (by rw [hlb]; exact h64))])
        clear h0 h1 h64 hne hlb hmb
        go_wp2_with fail
        go_ret3
        refine ⟨none, [], 0, false, false, rfl, ?_, by simp, TagO.nil_ _ _, hb1⟩
        rw [HTL.out]
        exact ⟨rfl, rfl, rfl⟩
      · have q64 : decide ((64 : Int) ≤ (ms.length : Int)) = false := by rw [decide_eq_false_iff_not]; omega
        have HTL : Hid (tagsL (allL (bs s) xs) = (tagsM (ms.map bs)).map some) := Lib.hid (by rw [← hmb]; unfold tagsL; rw [if_neg hne, if_neg (by rw [hlb]; omega)])
        clear h0 h1 h64 hne hlb hmb
        go_wp2_with fail
        go_loopw [8, 35] (fun v c wr => ∃ (k : Nat) (zs : List Tg), k ≤ ms.length ∧ c = .int .i64 k ∧ Hid (TGo ms k zs) ∧ zs.length ≤ k ∧ TBuf wr w1.heap.size v zs ∧ Below w1.heap.size w1 wr) (fun _ c _ => ms.length - (intOf c).toNat)
        case atStart => exact ⟨0, [], by omega, rfl, Lib.hid (TGo.start ms), by simp, TBuf.nil_ _ _, Below.refl _ _⟩
        case round =>
          obtain ⟨k, zs, hk, rfl, H, hzl, TB, hb⟩ := hrel
          by_cases hlt : k < ms.length
          · obtain ⟨x, hx⟩ : ∃ x, ms[k]? = some x := ⟨_, List.getElem?_eq_getElem hlt⟩
            obtain ⟨ad2, had, c0⟩ := (HSO.out.down hb) k x hx
            cases had
            have zx := HMZ.out x (List.mem_of_getElem? hx)
            have hl10 : zs.length + 1 ≤ 1000000 := by omega
            cases he : etagL (bs x) with
            | none =>
              have HB := Lib.hid (H.out.bad hx he)
              have HE := Lib.hid he
              clear hx he
              go_wp2_with fail
              refine (etag_any x wr (by omega)).mono ?_
              rintro e w4 ⟨he, hb4⟩
              rw [HE.out, show etagV none = .tuple #[.agg #[.bool false, .string ⟨#[]⟩], .bool false] from rfl] at he
              subst he
              have b5 := step_b (step_b hb hb4) (alloc_b w4 (.cells #[.bool false, .string ⟨#[]⟩] 77))
              clear hb hb4 c0 TB
              go_wp2_with fail
              go_ret3
              refine ⟨none, [], 0, false, false, rfl, ?_, by simp, TagO.nil_ _ _, step_b hb1 b5⟩
              rw [HTL.out, HB.out]
              exact ⟨rfl, rfl, rfl⟩
            | some p =>
              obtain ⟨b, l⟩ := p
              have HS := Lib.hid (H.out.step hx he)
              have HE := Lib.hid he
              obtain ⟨lb, hlb⟩ : ∃ lb : ByteArray, lb = ⟨l.toArray⟩ := ⟨_, rfl⟩
              rw [← hlb] at HS
              have HLB := Lib.hid hlb
              clear hx he hlb
              go_wp2_with fail
              refine (etag_any x wr (by omega)).mono ?_
              rintro e w4 ⟨he, hb4⟩
              rw [HE.out, show etagV (some (b, l)) = .tuple #[.agg #[.bool b, .string ⟨l.toArray⟩], .bool true] from rfl, ← HLB.out] at he
              subst he
              have b5 := step_b (step_b hb hb4) (alloc_b w4 (.cells #[.bool b, .string lb] 77))
              have TB5 := (TB.below hb4 (Nat.le_refl _)).alloc (.cells #[.bool b, .string lb] 77)
              have z5 := b5.size
              clear hb hb4 c0 TB
              go_wp2_with (at_builtin; refine wpList_append_tag rfl (.tmp 46) (.tmp 48) rfl w1 _ w1.heap.size _ zs rfl (TB5.alloc _) (b5.alloc z5 _) (le_alloc z5 _) ⟨w4.heap.size + 1, 0, none⟩ (b, lb) rfl (new_t02 w4 _ (b, lb) _) (new_t12 w4 _ (b, lb) _) hl10 ?_)
              intro v6 w6 TB6 hb6 z6
              clear TB5 b5 z5
              go_wp2_with fail
              go_roundw
              case rel => exact ⟨k + 1, zs ++ [(b, lb)], by omega, by go_num, HS, by simp; omega, TB6, hb6⟩
              case measure => simp [intOf]; omega
          · have HF := Lib.hid (H.out.fin (by omega))
            obtain ⟨oz, cz, rfl, TO⟩ := TB.shape
            go_wp2_with fail
            go_ret3
            refine ⟨oz, zs, cz, false, true, rfl, ?_, by omega, TO, step_b hb1 hb⟩
            rw [HTL.out, HF.out]
            exact ⟨rfl, rfl, rfl⟩
set_option maxHeartbeats 3200000 in
theorem rtaglist_any (oa : Option Addr) (xs : List Fd) (cap : Nat) (s : ByteArray) (w : World) (hs : s.size ≤ 100000) (hn : xs.length ≤ 10000) (hz : FldZ xs 100000) (hc : FldO w oa xs) :
    Calls Tryd.prog 72 #[.slice oa xs.length cap, .string s] w (TagsOf (tagsL (allL (bs s) xs)) w) := by
  have HA := Lib.hid (rall_any oa xs cap s w hs hn hz hc)
  have HXZ := Lib.hid hz
  clear hz hc
  go_enter Tryd.func72, Tryd.ntmps72
  go_wp2_with fail
  refine HA.out.mono ?_
  rintro e w1 ⟨om, cm, ms, rfl, hms, SO, hb1⟩
  have hml : ms.length ≤ 64 := by rw [hms, List.length_map]; exact allL_len _ _
  have HMZ : Hid (∀ x ∈ ms, x.size ≤ 100000) := Lib.hid fun x hx => by
    rw [hms] at hx
    obtain ⟨y, hy, rfl⟩ := List.mem_map.1 hx
    exact allL_mem HXZ.out hy
  have hmb : ms.map bs = allL (bs s) xs := by rw [hms, map_mkB]
  have hlb : (ms.map bs).length = ms.length := List.length_map _
  have HSO := Lib.hid SO
  clear hms HA SO
  by_cases h1 : ms.length = 1
  · have q1 : ((ms.length : Int) == 1) = true := by rw [h1]; rfl
    have q0 : ((ms.length : Int) == 0) = false := by rw [beq_eq_false_iff_ne]; omega
    have q64 : decide ((64 : Int) ≤ (ms.length : Int)) = false := by rw [decide_eq_false_iff_not]; omega
    have q65 : (0 : Int) < (ms.length : Int) := by omega
    obtain ⟨x, hx⟩ : ∃ x, ms = [x] := List.length_eq_one_iff.1 h1
    obtain ⟨ad, rfl, c0⟩ := HSO.out 0 x (by rw [hx]; rfl)
    rw [show ad.add 0 = ad from by unfold Addr.add; simp] at c0
    by_cases h42 : bs x = [42]
    · have k42 : (x.toList == [42]) = true := by rw [Lib.toList_data, show x.data.toList = [42] from h42]; rfl
      have HTL : Hid (tagsL (allL (bs s) xs) = some none) := Lib.hid (by rw [← hmb]; unfold tagsL; rw [if_pos (by rw [hx]; simp [h42])])
      clear h42 hx h1 hlb hmb
      go_wp2_with fail
      go_ret3
      refine ⟨none, [], 0, true, true, rfl, ?_, by simp, TagO.nil_ _ _, hb1⟩
      rw [HTL.out]
      exact ⟨rfl, rfl, rfl⟩
    · have k42 : (x.toList == [42]) = false := by rw [Lib.toList_data]; simpa using h42
      have HTL : Hid (tagsL (allL (bs s) xs) = (tagsM (ms.map bs)).map some) := Lib.hid (by rw [← hmb]; unfold tagsL; rw [if_neg (by rw [hx]; simpa using h42), if_neg (by rw [hlb]; omega)])
      clear h42 hx h1 hlb hmb
      go_wp2_with fail
      go_loopw [8, 9] (fun v c wr => ∃ (k : Nat) (zs : List Tg), k ≤ ms.length ∧ c = .int .i64 k ∧ Hid (TGo ms k zs) ∧ zs.length ≤ k ∧ TBuf wr w1.heap.size v zs ∧ Below w1.heap.size w1 wr) (fun _ c _ => ms.length - (intOf c).toNat)
      case atStart => exact ⟨0, [], by omega, rfl, Lib.hid (TGo.start ms), by simp, TBuf.nil_ _ _, Below.refl _ _⟩
      case round =>
        obtain ⟨k, zs, hk, rfl, H, hzl, TB, hb⟩ := hrel
        by_cases hlt : k < ms.length
        · obtain ⟨x, hx⟩ : ∃ x, ms[k]? = some x := ⟨_, List.getElem?_eq_getElem hlt⟩
          obtain ⟨ad2, had, c0⟩ := (HSO.out.down hb) k x hx
          cases had
          have zx := HMZ.out x (List.mem_of_getElem? hx)
          have hl10 : zs.length + 1 ≤ 1000000 := by omega
          cases he : etagL (bs x) with
          | none =>
            have HB := Lib.hid (H.out.bad hx he)
            have HE := Lib.hid he
            clear hx he
            go_wp2_with fail
            refine (retag_any x wr (by omega)).mono ?_
            rintro e w4 ⟨he, hb4⟩
            rw [HE.out, show etagV none = .tuple #[.agg #[.bool false, .string ⟨#[]⟩], .bool false] from rfl] at he
            subst he
            have b5 := step_b (step_b hb hb4) (alloc_b w4 (.cells #[.bool false, .string ⟨#[]⟩] 77))
            clear hb hb4 c0 TB
            go_wp2_with fail
            go_ret3
            refine ⟨none, [], 0, false, false, rfl, ?_, by simp, TagO.nil_ _ _, step_b hb1 b5⟩
            rw [HTL.out, HB.out]
            exact ⟨rfl, rfl, rfl⟩
          | some p =>
            obtain ⟨b, l⟩ := p
            have HS := Lib.hid (H.out.step hx he)
            have HE := Lib.hid he
            obtain ⟨lb, hlb⟩ : ∃ lb : ByteArray, lb = ⟨l.toArray⟩ := ⟨_, rfl⟩
            rw [← hlb] at HS
            have HLB := Lib.hid hlb
            clear hx he hlb
            go_wp2_with fail
            refine (retag_any x wr (by omega)).mono ?_
            rintro e w4 ⟨he, hb4⟩
            rw [HE.out, show etagV (some (b, l)) = .tuple #[.agg #[.bool b, .string ⟨l.toArray⟩], .bool true] from rfl, ← HLB.out] at he
            subst he
            have b5 := step_b (step_b hb hb4) (alloc_b w4 (.cells #[.bool b, .string lb] 77))
            have TB5 := (TB.below hb4 (Nat.le_refl _)).alloc (.cells #[.bool b, .string lb] 77)
            have z5 := b5.size
            clear hb hb4 c0 TB
            go_wp2_with (at_builtin; refine wpList_append_tag rfl (.tmp 48) (.tmp 50) rfl w1 _ w1.heap.size _ zs rfl (TB5.alloc _) (b5.alloc z5 _) (le_alloc z5 _) ⟨w4.heap.size + 1, 0, none⟩ (b, lb) rfl (new_t02 w4 _ (b, lb) _) (new_t12 w4 _ (b, lb) _) hl10 ?_)
            intro v6 w6 TB6 hb6 z6
            clear TB5 b5 z5
            go_wp2_with fail
            go_roundw
            case rel => exact ⟨k + 1, zs ++ [(b, lb)], by omega, by go_num, HS, by simp; omega, TB6, hb6⟩
            case measure => simp [intOf]; omega
        · have HF := Lib.hid (H.out.fin (by omega))
          obtain ⟨oz, cz, rfl, TO⟩ := TB.shape
          go_wp2_with fail
          go_ret3
          refine ⟨oz, zs, cz, false, true, rfl, ?_, by omega, TO, step_b hb1 hb⟩
          rw [HTL.out, HF.out]
          exact ⟨rfl, rfl, rfl⟩
  · have q1 : ((ms.length : Int) == 1) = false := by rw [beq_eq_false_iff_ne]; omega
    have hne : ms.map bs ≠ [[42]] := fun e => h1 (by rw [← hlb, e]; rfl)
    by_cases h0 : ms.length = 0
    · have q0 : ((ms.length : Int) == 0) = true := by rw [h0]; rfl
      have HTL : Hid (tagsL (allL (bs s) xs) = none) := Lib.hid (by rw [← hmb]; unfold tagsL; rw [if_neg hne, if_pos (.inl (by rw [hlb]; exact h0))])
      clear h0 h1 hne hlb hmb
      go_wp2_with fail
      go_ret3
      refine ⟨none, [], 0, false, false, rfl, ?_, by simp, TagO.nil_ _ _, hb1⟩
      rw [HTL.out]
      exact ⟨rfl, rfl, rfl⟩
    · have q0 : ((ms.length : Int) == 0) = false := by rw [beq_eq_false_iff_ne]; omega
      by_cases h64 : 64 ≤ ms.length
      · have q64 : decide ((64 : Int) ≤ (ms.length : Int)) = true := by rw [decide_eq_true_iff]; omega
        have HTL : Hid (tagsL (allL (bs s) xs) = none) := Lib.hid (by rw [← hmb]; unfold tagsL; rw [if_neg hne, if_pos (.inr (by rw [hlb]; exact h64))])
        clear h0 h1 h64 hne hlb hmb
        go_wp2_with fail
        go_ret3
        refine ⟨none, [], 0, false, false, rfl, ?_, by simp, TagO.nil_ _ _, hb1⟩
        rw [HTL.out]
        exact ⟨rfl, rfl, rfl⟩
      · have q64 : decide ((64 : Int) ≤ (ms.length : Int)) = false := by rw [decide_eq_false_iff_not]; omega
        have HTL : Hid (tagsL (allL (bs s) xs) = (tagsM (ms.map bs)).map some) := Lib.hid (by rw [← hmb]; unfold tagsL; rw [if_neg hne, if_neg (by rw [hlb]; omega)])
        clear h0 h1 h64 hne hlb hmb
        go_wp2_with fail
        go_loopw [8, 9] (fun v c wr => ∃ (k : Nat) (zs : List Tg), k ≤ ms.length ∧ c = .int .i64 k ∧ Hid (TGo ms k zs) ∧ zs.length ≤ k ∧ TBuf wr w1.heap.size v zs ∧ Below w1.heap.size w1 wr) (fun _ c _ => ms.length - (intOf c).toNat)
        case atStart => exact ⟨0, [], by omega, rfl, Lib.hid (TGo.start ms), by simp, TBuf.nil_ _ _, Below.refl _ _⟩
        case round =>
          obtain ⟨k, zs, hk, rfl, H, hzl, TB, hb⟩ := hrel
          by_cases hlt : k < ms.length
          · obtain ⟨x, hx⟩ : ∃ x, ms[k]? = some x := ⟨_, List.getElem?_eq_getElem hlt⟩
            obtain ⟨ad2, had, c0⟩ := (HSO.out.down hb) k x hx
            cases had
            have zx := HMZ.out x (List.mem_of_getElem? hx)
            have hl10 : zs.length + 1 ≤ 1000000 := by omega
            cases he : etagL (bs x) with
            | none =>
              have HB := Lib.hid (H.out.bad hx he)
              have HE := Lib.hid he
              clear hx he
              go_wp2_with fail
              refine (retag_any x wr (by omega)).mono ?_
              rintro e w4 ⟨he, hb4⟩
              rw [HE.out, show etagV none = .tuple #[.agg #[.bool false, .string ⟨#[]⟩], .bool false] from rfl] at he
              subst he
              have b5 := step_b (step_b hb hb4) (alloc_b w4 (.cells #[.bool false, .string ⟨#[]⟩] 77))
              clear hb hb4 c0 TB
              go_wp2_with fail
              go_ret3
              refine ⟨none, [], 0, false, false, rfl, ?_, by simp, TagO.nil_ _ _, step_b hb1 b5⟩
              rw [HTL.out, HB.out]
              exact ⟨rfl, rfl, rfl⟩
            | some p =>
              obtain ⟨b, l⟩ := p
              have HS := Lib.hid (H.out.step hx he)
              have HE := Lib.hid he
              obtain ⟨lb, hlb⟩ : ∃ lb : ByteArray, lb = ⟨l.toArray⟩ := ⟨_, rfl⟩
              rw [← hlb] at HS
              have HLB := Lib.hid hlb
              clear hx he hlb
              go_wp2_with fail
              refine (retag_any x wr (by omega)).mono ?_
              rintro e w4 ⟨he, hb4⟩
              rw [HE.out, show etagV (some (b, l)) = .tuple #[.agg #[.bool b, .string ⟨l.toArray⟩], .bool true] from rfl, ← HLB.out] at he
              subst he
              have b5 := step_b (step_b hb hb4) (alloc_b w4 (.cells #[.bool b, .string lb] 77))
              have TB5 := (TB.below hb4 (Nat.le_refl _)).alloc (.cells #[.bool b, .string lb] 77)
              have z5 := b5.size
              clear hb hb4 c0 TB
              go_wp2_with (at_builtin; refine wpList_append_tag rfl (.tmp 48) (.tmp 50) rfl w1 _ w1.heap.size _ zs rfl (TB5.alloc _) (b5.alloc z5 _) (le_alloc z5 _) ⟨w4.heap.size + 1, 0, none⟩ (b, lb) rfl (new_t02 w4 _ (b, lb) _) (new_t12 w4 _ (b, lb) _) hl10 ?_)
              intro v6 w6 TB6 hb6 z6
              clear TB5 b5 z5
              go_wp2_with fail
              go_roundw
              case rel => exact ⟨k + 1, zs ++ [(b, lb)], by omega, by go_num, HS, by simp; omega, TB6, hb6⟩
              case measure => simp [intOf]; omega
          · have HF := Lib.hid (H.out.fin (by omega))
            obtain ⟨oz, cz, rfl, TO⟩ := TB.shape
            go_wp2_with fail
            go_ret3
            refine ⟨oz, zs, cz, false, true, rfl, ?_, by omega, TO, step_b hb1 hb⟩
            rw [HTL.out, HF.out]
            exact ⟨rfl, rfl, rfl⟩
theorem bs_beq (a b : ByteArray) : (a.toList == b.toList) = (bs a == bs b) := by rw [Lib.toList_data, Lib.toList_data]
set_option maxHeartbeats 800000 in
theorem rweak_any (a b : Tg) (w : World) :
    Calls Tryd.prog 66 #[.agg #[.bool a.1, .string a.2], .agg #[.bool b.1, .string b.2]] w fun e w' => e = .returned (.bool (bs a.2 == bs b.2)) ∧ Below w.heap.size w w' := by
  have b2 := step_b (alloc_b w (.cells #[.bool a.1, .string a.2] 77)) (alloc_b _ (.cells #[.bool b.1, .string b.2] 77))
  go_enter Tryd.func66, Tryd.ntmps66
  go_wp2_with fail
  go_ret
  exact ⟨ret_bool (bs_beq _ _), b2⟩
theorem weak1_any (a : Tg) (w : World) :
    Calls Tryd.prog 92 #[.agg #[.bool a.1, .string a.2]] w fun e w' => e = .returned (.bool true) ∧ Below w.heap.size w w' := by
  have b2 := alloc_b w (.cells #[.bool a.1, .string a.2] 77)
  go_enter Tryd.func92, Tryd.ntmps92
  go_wp2_with fail
  go_ret
  exact ⟨rfl, by first | exact b2 | exact Below.refl _ _⟩
end Go.Proofs.YtlcchcbeebakpaaDoor
