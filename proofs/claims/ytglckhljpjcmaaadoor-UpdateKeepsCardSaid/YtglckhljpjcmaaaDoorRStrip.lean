/- The walks of the reference's among and Strip (25.1). Printed by gen_rstrip.py. -/
import Derived.Test.YtglckhljpjcmaaaDoorRListX
import Derived.Test.YtglckhljpjcmaaaDoorCondV
namespace Go.Proofs.YtglckhljpjcmaaaDoor
open Go.RowKit Go.Shelf

theorem map_mkB' (l : List (List UInt8)) : (l.map mkB).map bs = l := by rw [List.map_map]; exact (List.map_congr_left fun x _ => rfl).trans (List.map_id _)
set_option maxHeartbeats 1600000 in
theorem among_any (s : ByteArray) (oa : Option Addr) (xs : List ByteArray) (cap : Nat) (w : World) (hs : s.size ≤ 100000) (hz : ∀ x ∈ xs, x.size ≤ 100000) (hn : xs.length ≤ 1000000) (hc : StrO w oa xs) :
    Calls Tryd.prog 48 #[.string s, .slice oa xs.length cap] w fun e w' => e = .returned (.bool (oneB (bs s) (xs.map bs))) ∧ Below w.heap.size w w' := by
  have HC := Lib.hid hc
  have HZ := Lib.hid hz
  clear hc hz
  go_enter Tryd.func48, Tryd.ntmps48
  go_wp2_with fail
  go_loopw [5] (fun j wr => ∃ k : Nat, k ≤ xs.length ∧ j = .int .i64 k ∧ Hid (oneB (bs s) (xs.map bs) = oneB (bs s) ((xs.map bs).drop k)) ∧ Below w.heap.size w wr) (fun j _ => xs.length - (intOf j).toNat)
  case atStart => exact ⟨0, by omega, rfl, Lib.hid rfl, Below.refl _ _⟩
  case round =>
    obtain ⟨k, hk, rfl, H, hb⟩ := hrel
    by_cases hlt : k < xs.length
    · obtain ⟨x, hx⟩ : ∃ x, xs[k]? = some x := ⟨_, List.getElem?_eq_getElem hlt⟩
      obtain ⟨ad, rfl, hcx⟩ := (HC.out.down hb) k x hx
      have Hs := Lib.hid (oneB_at (n := bs s) hx)
      have zx := HZ.out x (List.mem_of_getElem? hx)
      clear hx
      go_wp2_with fail
      refine (rfold_any s x _ (by omega) (by omega)).mono ?_
      rintro e w2 ⟨rfl, hb2⟩
      have b2 := hb.trans (hb2.mono hb.size)
      clear hb2 hb
      cases hv : foldB (bs s) (bs x) with
      | true =>
        have HV := Lib.hid hv
        clear hv
        go_wp2_with fail
        go_ret
        exact ⟨ret_bool (by rw [H.out, Hs.out, HV.out]; rfl), b2⟩
      | false =>
        have HV := Lib.hid hv
        clear hv
        go_wp2_with fail
        go_roundw
        case rel => exact ⟨k + 1, by omega, by go_num, Lib.hid (by rw [H.out, Hs.out, HV.out]; rfl), b2⟩
        case measure => simp [intOf]; omega
    · have He := Lib.hid (oneB_end (n := bs s) k (xs := xs) (by omega))
      go_wp2_with fail
      go_ret
      exact ⟨ret_bool (by rw [H.out, He.out]), hb⟩
abbrev fixedN : List ByteArray := [⟨#[67, 111, 110, 110, 101, 99, 116, 105, 111, 110]⟩, ⟨#[75, 101, 101, 112, 45, 65, 108, 105, 118, 101]⟩, ⟨#[80, 114, 111, 120, 121, 45, 67, 111, 110, 110, 101, 99, 116, 105, 111, 110]⟩, ⟨#[80, 114, 111, 120, 121, 45, 65, 117, 116, 104, 101, 110, 116, 105, 99, 97, 116, 101]⟩, ⟨#[80, 114, 111, 120, 121, 45, 65, 117, 116, 104, 111, 114, 105, 122, 97, 116, 105, 111, 110]⟩, ⟨#[84, 69]⟩, ⟨#[84, 114, 97, 105, 108, 101, 114]⟩, ⟨#[84, 114, 97, 110, 115, 102, 101, 114, 45, 69, 110, 99, 111, 100, 105, 110, 103]⟩, ⟨#[67, 111, 110, 116, 101, 110, 116, 45, 76, 101, 110, 103, 116, 104]⟩, ⟨#[85, 112, 103, 114, 97, 100, 101]⟩]
abbrev keptN : List ByteArray := [⟨#[72, 111, 115, 116]⟩, ⟨#[67, 97, 99, 104, 101, 45, 67, 111, 110, 116, 114, 111, 108]⟩, ⟨#[86, 97, 114, 121]⟩, ⟨#[86, 97, 114, 105, 97, 110, 116, 115]⟩, ⟨#[86, 97, 114, 105, 97, 110, 116, 45, 75, 101, 121]⟩, ⟨#[86, 105, 97]⟩]
abbrev nConn : ByteArray := ⟨#[67, 111, 110, 110, 101, 99, 116, 105, 111, 110]⟩
theorem fixedN_z : ∀ x ∈ fixedN, x.size ≤ 100000 := by decide
theorem keptN_z : ∀ x ∈ keptN, x.size ≤ 100000 := by decide
theorem fixedA_eq : (fixedN.map Value.string).toArray = #[.string ⟨#[67, 111, 110, 110, 101, 99, 116, 105, 111, 110]⟩, .string ⟨#[75, 101, 101, 112, 45, 65, 108, 105, 118, 101]⟩, .string ⟨#[80, 114, 111, 120, 121, 45, 67, 111, 110, 110, 101, 99, 116, 105, 111, 110]⟩, .string ⟨#[80, 114, 111, 120, 121, 45, 65, 117, 116, 104, 101, 110, 116, 105, 99, 97, 116, 101]⟩, .string ⟨#[80, 114, 111, 120, 121, 45, 65, 117, 116, 104, 111, 114, 105, 122, 97, 116, 105, 111, 110]⟩, .string ⟨#[84, 69]⟩, .string ⟨#[84, 114, 97, 105, 108, 101, 114]⟩, .string ⟨#[84, 114, 97, 110, 115, 102, 101, 114, 45, 69, 110, 99, 111, 100, 105, 110, 103]⟩, .string ⟨#[67, 111, 110, 116, 101, 110, 116, 45, 76, 101, 110, 103, 116, 104]⟩, .string ⟨#[85, 112, 103, 114, 97, 100, 101]⟩] := rfl
theorem keptA_eq : (keptN.map Value.string).toArray = #[.string ⟨#[72, 111, 115, 116]⟩, .string ⟨#[67, 97, 99, 104, 101, 45, 67, 111, 110, 116, 114, 111, 108]⟩, .string ⟨#[86, 97, 114, 121]⟩, .string ⟨#[86, 97, 114, 105, 97, 110, 116, 115]⟩, .string ⟨#[86, 97, 114, 105, 97, 110, 116, 45, 75, 101, 121]⟩, .string ⟨#[86, 105, 97]⟩] := rfl
/-- A field is passed on, if Connection names these. -/
def stripB (conn : List (List UInt8)) (x : Fd) : Bool := !(oneB (bs x.1) (fixedN.map bs) || (oneB (bs x.1) conn && !oneB (bs x.1) (keptN.map bs)))
def stripL (xs : List Fd) : List Fd := xs.filter (stripB (allL (bs nConn) xs))
theorem strip_names (w : World) : StrO ((w.alloc (.cells #[.string ⟨#[67, 111, 110, 110, 101, 99, 116, 105, 111, 110]⟩, .string ⟨#[75, 101, 101, 112, 45, 65, 108, 105, 118, 101]⟩, .string ⟨#[80, 114, 111, 120, 121, 45, 67, 111, 110, 110, 101, 99, 116, 105, 111, 110]⟩, .string ⟨#[80, 114, 111, 120, 121, 45, 65, 117, 116, 104, 101, 110, 116, 105, 99, 97, 116, 101]⟩, .string ⟨#[80, 114, 111, 120, 121, 45, 65, 117, 116, 104, 111, 114, 105, 122, 97, 116, 105, 111, 110]⟩, .string ⟨#[84, 69]⟩, .string ⟨#[84, 114, 97, 105, 108, 101, 114]⟩, .string ⟨#[84, 114, 97, 110, 115, 102, 101, 114, 45, 69, 110, 99, 111, 100, 105, 110, 103]⟩, .string ⟨#[67, 111, 110, 116, 101, 110, 116, 45, 76, 101, 110, 103, 116, 104]⟩, .string ⟨#[85, 112, 103, 114, 97, 100, 101]⟩] 9)).alloc (.cells #[.string ⟨#[72, 111, 115, 116]⟩, .string ⟨#[67, 97, 99, 104, 101, 45, 67, 111, 110, 116, 114, 111, 108]⟩, .string ⟨#[86, 97, 114, 121]⟩, .string ⟨#[86, 97, 114, 105, 97, 110, 116, 115]⟩, .string ⟨#[86, 97, 114, 105, 97, 110, 116, 45, 75, 101, 121]⟩, .string ⟨#[86, 105, 97]⟩] 9)) (some ⟨w.heap.size, 0, none⟩) fixedN ∧
    StrO ((w.alloc (.cells #[.string ⟨#[67, 111, 110, 110, 101, 99, 116, 105, 111, 110]⟩, .string ⟨#[75, 101, 101, 112, 45, 65, 108, 105, 118, 101]⟩, .string ⟨#[80, 114, 111, 120, 121, 45, 67, 111, 110, 110, 101, 99, 116, 105, 111, 110]⟩, .string ⟨#[80, 114, 111, 120, 121, 45, 65, 117, 116, 104, 101, 110, 116, 105, 99, 97, 116, 101]⟩, .string ⟨#[80, 114, 111, 120, 121, 45, 65, 117, 116, 104, 111, 114, 105, 122, 97, 116, 105, 111, 110]⟩, .string ⟨#[84, 69]⟩, .string ⟨#[84, 114, 97, 105, 108, 101, 114]⟩, .string ⟨#[84, 114, 97, 110, 115, 102, 101, 114, 45, 69, 110, 99, 111, 100, 105, 110, 103]⟩, .string ⟨#[67, 111, 110, 116, 101, 110, 116, 45, 76, 101, 110, 103, 116, 104]⟩, .string ⟨#[85, 112, 103, 114, 97, 100, 101]⟩] 9)).alloc (.cells #[.string ⟨#[72, 111, 115, 116]⟩, .string ⟨#[67, 97, 99, 104, 101, 45, 67, 111, 110, 116, 114, 111, 108]⟩, .string ⟨#[86, 97, 114, 121]⟩, .string ⟨#[86, 97, 114, 105, 97, 110, 116, 115]⟩, .string ⟨#[86, 97, 114, 105, 97, 110, 116, 45, 75, 101, 121]⟩, .string ⟨#[86, 105, 97]⟩] 9)) (some ⟨w.heap.size + 1, 0, none⟩) keptN ∧
    Below w.heap.size w ((w.alloc (.cells #[.string ⟨#[67, 111, 110, 110, 101, 99, 116, 105, 111, 110]⟩, .string ⟨#[75, 101, 101, 112, 45, 65, 108, 105, 118, 101]⟩, .string ⟨#[80, 114, 111, 120, 121, 45, 67, 111, 110, 110, 101, 99, 116, 105, 111, 110]⟩, .string ⟨#[80, 114, 111, 120, 121, 45, 65, 117, 116, 104, 101, 110, 116, 105, 99, 97, 116, 101]⟩, .string ⟨#[80, 114, 111, 120, 121, 45, 65, 117, 116, 104, 111, 114, 105, 122, 97, 116, 105, 111, 110]⟩, .string ⟨#[84, 69]⟩, .string ⟨#[84, 114, 97, 105, 108, 101, 114]⟩, .string ⟨#[84, 114, 97, 110, 115, 102, 101, 114, 45, 69, 110, 99, 111, 100, 105, 110, 103]⟩, .string ⟨#[67, 111, 110, 116, 101, 110, 116, 45, 76, 101, 110, 103, 116, 104]⟩, .string ⟨#[85, 112, 103, 114, 97, 100, 101]⟩] 9)).alloc (.cells #[.string ⟨#[72, 111, 115, 116]⟩, .string ⟨#[67, 97, 99, 104, 101, 45, 67, 111, 110, 116, 114, 111, 108]⟩, .string ⟨#[86, 97, 114, 121]⟩, .string ⟨#[86, 97, 114, 105, 97, 110, 116, 115]⟩, .string ⟨#[86, 97, 114, 105, 97, 110, 116, 45, 75, 101, 121]⟩, .string ⟨#[86, 105, 97]⟩] 9)) := by
  have h1 := StrO.new w fixedN
  have h2 := StrO.new (w.alloc (.cells (fixedN.map Value.string).toArray 9)) keptN
  rw [show (w.alloc (.cells (fixedN.map Value.string).toArray 9)).heap.size = w.heap.size + 1 from Array.size_push _] at h2
  have h3 := h1.down (alloc_b _ (.cells (keptN.map Value.string).toArray 9))
  have h4 := step_b (alloc_b w (.cells (fixedN.map Value.string).toArray 9)) (alloc_b _ (.cells (keptN.map Value.string).toArray 9))
  rw [fixedA_eq, keptA_eq] at h2 h3 h4
  exact ⟨h3, h2, h4⟩
set_option maxHeartbeats 6400000 in
set_option maxRecDepth 100000 in
theorem rstrip_any (oa : Option Addr) (xs : List Fd) (cap : Nat) (w : World) (hn : xs.length ≤ 10000) (hz : FldZ xs 100000) (hc : FldO w oa xs) :
    Calls Tryd.prog 31 #[.slice oa xs.length cap] w fun e w' => ∃ v, e = .returned v ∧ FBuf w' w.heap.size v (stripL xs) ∧ Below w.heap.size w w' := by
  obtain ⟨sf, sk, b0⟩ := strip_names w
  have HC := Lib.hid hc
  have HZ := Lib.hid hz
  have HA := Lib.hid (rall_any oa xs cap nConn _ (by decide) hn hz (hc.down b0))
  have HF := Lib.hid sf
  have HK := Lib.hid sk
  clear hc hz sf sk
  go_enter Tryd.func31, Tryd.ntmps31
  go_wp2_with fail
  refine HA.out.mono ?_
  rintro e w1 ⟨om, cm, ms, rfl, hms, SO, hb1⟩
  have hml : ms.length ≤ 64 := by rw [hms, List.length_map]; exact allL_len _ _
  have HMZ : Hid (∀ x ∈ ms, x.size ≤ 100000) := Lib.hid fun x hx => by
    rw [hms] at hx
    obtain ⟨y, hy, rfl⟩ := List.mem_map.1 hx
    exact allL_mem HZ.out hy
  have HMB : Hid (ms.map bs = allL (bs nConn) xs) := Lib.hid (by rw [hms]; exact map_mkB' _)
  have HS := Lib.hid SO
  have HF1 := Lib.hid (HF.out.down hb1)
  have HK1 := Lib.hid (HK.out.down hb1)
  have b1 := step_b b0 hb1
  obtain ⟨p, hp⟩ : ∃ p : Fd → Bool, p = stripB (ms.map bs) := ⟨_, rfl⟩
  have HP := Lib.hid hp
  clear hms SO HA HF HK b0 hb1 hp
  go_wp2_with fail
  go_loopw [6, 7] (fun v c wr => ∃ (k : Nat) (ys : List Fd), k ≤ xs.length ∧ c = .int .i64 k ∧ Hid (ys = (xs.take k).filter p) ∧ ys.length ≤ k ∧ FBuf wr w1.heap.size v ys ∧ Below w1.heap.size w1 wr) (fun _ c _ => xs.length - (intOf c).toNat)
  case atStart => exact ⟨0, [], by omega, rfl, Lib.hid rfl, by simp, FBuf.nil_ _ _, Below.refl _ _⟩
  case round =>
    obtain ⟨k, ys, hk, rfl, HY, hyl, FB, hb⟩ := hrel
    by_cases hlt : k < xs.length
    · obtain ⟨x, hx⟩ : ∃ x, xs[k]? = some x := ⟨_, List.getElem?_eq_getElem hlt⟩
      have bw := b1.trans (hb.mono b1.size)
      obtain ⟨ad, rfl, c0, c1⟩ := (HC.out.down bw).at hx
      have zx := (HZ.out x (List.mem_of_getElem? hx)).1
      have hl10 : ys.length + 1 ≤ 1000000 := by omega
      cases hq1 : oneB (bs x.1) (fixedN.map bs) with
      | true =>
        have HSt := Lib.hid (ftake_skip (p := p) hx (by rw [HP.out]; unfold stripB; rw [hq1]; rfl))
        have HQ1 := Lib.hid hq1
        clear hx hq1
        go_wp2_with fail
        refine (among_any x.1 (some ⟨w.heap.size, 0, none⟩) fixedN 10 wr (by omega) fixedN_z (by decide) (HF1.out.down hb)).mono ?_
        rintro e w4 ⟨rfl, hbb⟩
        rw [HQ1.out]
        have d0 := (hbb.cell (cell_lt c0)).trans c0
        have d1 := (hbb.cell (cell_lt c1)).trans c1
        have FB4 := FB.below hbb (Nat.le_refl _)
        have b4 := step_b hb hbb
        clear hbb c0 c1 hb bw FB
        go_wp2_with fail
        go_roundw
        case rel => exact ⟨k + 1, ys, by omega, by go_num, Lib.hid (by rw [HSt.out]; exact HY.out), by omega, FB4, b4⟩
        case measure => simp [intOf]; omega
      | false =>
        cases hq2 : oneB (bs x.1) (ms.map bs) with
        | false =>
          have HSt := Lib.hid (ftake_keep (p := p) hx (by rw [HP.out]; unfold stripB; rw [hq1, hq2]; rfl))
          have HQ1 := Lib.hid hq1
          have HQ2 := Lib.hid hq2
          clear hx hq1 hq2
          go_wp2_with fail
          refine (among_any x.1 (some ⟨w.heap.size, 0, none⟩) fixedN 10 wr (by omega) fixedN_z (by decide) (HF1.out.down hb)).mono ?_
          rintro e w4 ⟨rfl, hbb⟩
          rw [HQ1.out]
          have d0 := (hbb.cell (cell_lt c0)).trans c0
          have d1 := (hbb.cell (cell_lt c1)).trans c1
          have FB4 := FB.below hbb (Nat.le_refl _)
          have b4 := step_b hb hbb
          clear hbb c0 c1 hb bw FB
          go_wp2_with fail
          refine (among_any x.1 om ms cm w4 (by omega) HMZ.out (by omega) (HS.out.down b4)).mono ?_
          rintro e w5 ⟨rfl, hbb⟩
          rw [HQ2.out]
          have d0 := (hbb.cell (cell_lt d0)).trans d0
          have d1 := (hbb.cell (cell_lt d1)).trans d1
          have FB5 := FB4.below hbb (Nat.le_refl _)
          have b5 := step_b b4 hbb
          clear hbb b4 FB4
          have z9 := b5.size
          go_wp2_with (at_builtin; refine wpList_append_fld rfl (.tmp 44) (.tmp 49) rfl w1 _ w1.heap.size _ ys rfl (FB5.alloc _) (b5.alloc z9 _) (le_alloc z9 _) ⟨w5.heap.size, 0, none⟩ x rfl (new_f0 w5 x _) (new_f1 w5 x _) hl10 ?_)
          intro v9 w9 FB9 hb9 z10
          clear FB5 b5 z9 d0 d1
          go_wp2_with fail
          go_roundw
          case rel => exact ⟨k + 1, ys ++ [x], by omega, by go_num, Lib.hid (by rw [HSt.out, HY.out]), by simp; omega, FB9, hb9⟩
          case measure => simp [intOf]; omega
        | true =>
          cases hq3 : oneB (bs x.1) (keptN.map bs) with
          | true =>
            have HSt := Lib.hid (ftake_keep (p := p) hx (by rw [HP.out]; unfold stripB; rw [hq1, hq2, hq3]; rfl))
            have HQ1 := Lib.hid hq1
            have HQ2 := Lib.hid hq2
            have HQ3 := Lib.hid hq3
            clear hx hq1 hq2 hq3
            go_wp2_with fail
            refine (among_any x.1 (some ⟨w.heap.size, 0, none⟩) fixedN 10 wr (by omega) fixedN_z (by decide) (HF1.out.down hb)).mono ?_
            rintro e w4 ⟨rfl, hbb⟩
            rw [HQ1.out]
            have d0 := (hbb.cell (cell_lt c0)).trans c0
            have d1 := (hbb.cell (cell_lt c1)).trans c1
            have FB4 := FB.below hbb (Nat.le_refl _)
            have b4 := step_b hb hbb
            clear hbb c0 c1 hb bw FB
            go_wp2_with fail
            refine (among_any x.1 om ms cm w4 (by omega) HMZ.out (by omega) (HS.out.down b4)).mono ?_
            rintro e w5 ⟨rfl, hbb⟩
            rw [HQ2.out]
            have d0 := (hbb.cell (cell_lt d0)).trans d0
            have d1 := (hbb.cell (cell_lt d1)).trans d1
            have FB5 := FB4.below hbb (Nat.le_refl _)
            have b5 := step_b b4 hbb
            clear hbb b4 FB4
            go_wp2_with fail
            refine (among_any x.1 (some ⟨w.heap.size + 1, 0, none⟩) keptN 6 w5 (by omega) keptN_z (by decide) (HK1.out.down b5)).mono ?_
            rintro e w6 ⟨rfl, hbb⟩
            rw [HQ3.out]
            have d0 := (hbb.cell (cell_lt d0)).trans d0
            have d1 := (hbb.cell (cell_lt d1)).trans d1
            have FB6 := FB5.below hbb (Nat.le_refl _)
            have b6 := step_b b5 hbb
            clear hbb b5 FB5
            have z9 := b6.size
            go_wp2_with (at_builtin; refine wpList_append_fld rfl (.tmp 44) (.tmp 49) rfl w1 _ w1.heap.size _ ys rfl (FB6.alloc _) (b6.alloc z9 _) (le_alloc z9 _) ⟨w6.heap.size, 0, none⟩ x rfl (new_f0 w6 x _) (new_f1 w6 x _) hl10 ?_)
            intro v9 w9 FB9 hb9 z10
            clear FB6 b6 z9 d0 d1
            go_wp2_with fail
            go_roundw
            case rel => exact ⟨k + 1, ys ++ [x], by omega, by go_num, Lib.hid (by rw [HSt.out, HY.out]), by simp; omega, FB9, hb9⟩
            case measure => simp [intOf]; omega
          | false =>
            have HSt := Lib.hid (ftake_skip (p := p) hx (by rw [HP.out]; unfold stripB; rw [hq1, hq2, hq3]; rfl))
            have HQ1 := Lib.hid hq1
            have HQ2 := Lib.hid hq2
            have HQ3 := Lib.hid hq3
            clear hx hq1 hq2 hq3
            go_wp2_with fail
            refine (among_any x.1 (some ⟨w.heap.size, 0, none⟩) fixedN 10 wr (by omega) fixedN_z (by decide) (HF1.out.down hb)).mono ?_
            rintro e w4 ⟨rfl, hbb⟩
            rw [HQ1.out]
            have d0 := (hbb.cell (cell_lt c0)).trans c0
            have d1 := (hbb.cell (cell_lt c1)).trans c1
            have FB4 := FB.below hbb (Nat.le_refl _)
            have b4 := step_b hb hbb
            clear hbb c0 c1 hb bw FB
            go_wp2_with fail
            refine (among_any x.1 om ms cm w4 (by omega) HMZ.out (by omega) (HS.out.down b4)).mono ?_
            rintro e w5 ⟨rfl, hbb⟩
            rw [HQ2.out]
            have d0 := (hbb.cell (cell_lt d0)).trans d0
            have d1 := (hbb.cell (cell_lt d1)).trans d1
            have FB5 := FB4.below hbb (Nat.le_refl _)
            have b5 := step_b b4 hbb
            clear hbb b4 FB4
            go_wp2_with fail
            refine (among_any x.1 (some ⟨w.heap.size + 1, 0, none⟩) keptN 6 w5 (by omega) keptN_z (by decide) (HK1.out.down b5)).mono ?_
            rintro e w6 ⟨rfl, hbb⟩
            rw [HQ3.out]
            have d0 := (hbb.cell (cell_lt d0)).trans d0
            have d1 := (hbb.cell (cell_lt d1)).trans d1
            have FB6 := FB5.below hbb (Nat.le_refl _)
            have b6 := step_b b5 hbb
            clear hbb b5 FB5
            go_wp2_with fail
            go_roundw
            case rel => exact ⟨k + 1, ys, by omega, by go_num, Lib.hid (by rw [HSt.out]; exact HY.out), by omega, FB6, b6⟩
            case measure => simp [intOf]; omega
    · have HF : Hid (stripL xs = ys) := Lib.hid (by rw [HY.out, List.take_of_length_le (by omega), HP.out, HMB.out]; rfl)
      go_wp2_with fail
      go_ret
      exact ⟨_, rfl, by rw [HF.out]; exact FB.lower b1.size, b1.trans (hb.mono b1.size)⟩
end Go.Proofs.YtglckhljpjcmaaaDoor
