/- The walk of the reference's Lookup. -/
import Derived.Test.YtfkgjjoejcbdnaaDoorLookR
namespace Go.Proofs.YtfkgjjoejcbdnaaDoor
open Go.RowKit

set_option maxHeartbeats 3200000 in
theorem rlookup_any (r : ByteArray) (oa : Option Addr) (xs : List ByteArray) (ca : Nat) (w : World) (hr : r.size ≤ 100000) (hz : ∀ x ∈ xs, x.size ≤ 100000) (hn : xs.length ≤ 1000000) (hc : StrO w oa xs) :
    Calls Tryd.prog 23 #[.string r, .slice oa xs.length ca] w fun e w' => e = .returned (.int .i64 (lookI (bs r) (xs.map bs))) ∧ Below w.heap.size w w' := by
  have HC := Lib.hid hc
  have HZ := Lib.hid hz
  clear hc hz
  go_enter Tryd.func23, Tryd.ntmps23
  go_wp2_with fail
  refine (rtag_any r _ (by omega)).mono ?_
  rintro e w1 ⟨rfl, hb1⟩
  cases h1 : tagB (bs r) with
  | false =>
    have HF : Hid (lookI (bs r) (xs.map bs) = -1) := Lib.hid (by unfold lookI; rw [h1]; rfl)
    clear h1
    go_wp2_with fail
    go_ret
    exact ⟨by rw [HF.out]; rfl, hb1⟩
  | true =>
    have H1 := Lib.hid h1
    clear h1
    go_wp2_with fail
    refine (subtags_any r _ hr).mono ?_
    rintro e w2 ⟨v, ps, rfl, hSB, hps, hb2⟩
    obtain ⟨g, cap, rfl, hg1, hg2, hcp, hlen⟩ := subs_form hSB hps
    have hcap := hSB.cap
    have b2 := below_step hb1 hb2
    have HPS := Lib.hid hps
    have HCP := Lib.hid hcp
    have HL := Lib.hid (look_start (T := xs.map bs) hps H1.out)
    clear hb1 hb2 hSB hps hcp hg1
    go_wp2_with fail
    go_loopw [5] (fun v wr => ∃ n fuel : Nat, n ≤ ps.length ∧ v = .slice (some ⟨g, 0, none⟩) n cap ∧ Hid (LookAt (bs r) (xs.map bs) ps n fuel) ∧ Below w2.heap.size w2 wr) (fun v _ => match v with | .slice _ n _ => n | _ => 0)
    case atStart => exact ⟨ps.length, _, Nat.le_refl _, rfl, HL, Below.refl _ _⟩
    case round =>
      obtain ⟨n, fuel, hn', rfl, H, hb⟩ := hrel
      have hret := below_step b2 hb
      rcases n with _ | n
      · have HE : Hid (lookI (bs r) (xs.map bs) = -1) := Lib.hid (by rw [H.out.eq, List.take_zero]; exact lookF_nil _ _)
        go_wp2_with fail
        go_ret
        exact ⟨by rw [HE.out]; rfl, hret⟩
      · obtain ⟨x0, hx0⟩ : ∃ x, ps[0]? = some x := ⟨_, List.getElem?_eq_getElem (by omega)⟩
        have hc0 : wr.cell? ⟨g, 0, none⟩ = some (.string x0) := (HCP.out.below hb hg2) 0 x0 hx0
        have z0 := piece_size HPS.out hx0
        have HJ := Lib.hid (join_first hx0)
        clear hx0
        go_wp2_with fail
        clear hc0
        go_loopw [6, 7] (fun s j w3 => ∃ (i : Nat) (t : ByteArray), 1 ≤ i ∧ i ≤ n + 1 ∧ s = .string t ∧ j = .int .i64 i ∧ Hid (bs t = joinD ((ps.take i).map bs)) ∧ t.size ≤ i * 100002 ∧ wr = w3) (fun _ j _ => n + 1 - (intOf j).toNat)
        case atStart => exact ⟨1, x0, Nat.le_refl _, by omega, rfl, rfl, Lib.hid HJ.out.symm, by omega, rfl⟩
        case round =>
          obtain ⟨i, t, hi1, hi, rfl, rfl, HTx, zt, rfl⟩ := hrel
          by_cases hin : i < n + 1
          · obtain ⟨x, hx⟩ : ∃ x, ps[i]? = some x := ⟨_, List.getElem?_eq_getElem (by omega)⟩
            have hcx : wr.cell? ⟨g, i, none⟩ = some (.string x) := by
              have := (HCP.out.below hb hg2) i x hx
              rwa [Nat.zero_add] at this
            have zx := piece_size HPS.out hx
            have HJn := Lib.hid (join_next hx hi1)
            clear hx
            have HT2 : Hid (bs (t ++ ((⟨#[45]⟩ : ByteArray) ++ x)) = joinD ((ps.take (i + 1)).map bs)) := Lib.hid (by rw [HJn.out, ← HTx.out]; simp [bs])
            have zz : (t ++ ((⟨#[45]⟩ : ByteArray) ++ x)).size = t.size + (1 + x.size) := by rw [ByteArray.size_append, ByteArray.size_append]; rfl
            have z1 : ((⟨#[45]⟩ : ByteArray) ++ x).size = 1 + x.size := by rw [ByteArray.size_append]; rfl
            go_wp2_with fail
            go_roundw
            case rel => exact ⟨i + 1, _, by omega, by omega, rfl, by go_num, HT2, by rw [zz]; omega, trivial⟩
            case measure => simp [intOf]; omega
          · have hii : i = n + 1 := by omega
            have HTn : Hid (bs t = joinD ((ps.take (n + 1)).map bs)) := Lib.hid (by rw [← hii]; exact HTx.out)
            have hin' : ¬ (i : Int) < (n : Int) + 1 := by omega
            have zt2 : t.size ≤ 9223372036854775807 := by omega
            clear hii HTx
            go_wp2_with fail
            go_loopw [8] (fun j w4 => ∃ k : Nat, k ≤ xs.length ∧ j = .int .i64 k ∧ Hid (findF (bs t) 0 (xs.map bs) = findF (bs t) k ((xs.map bs).drop k)) ∧ Below wr.heap.size wr w4) (fun j _ => xs.length - (intOf j).toNat)
            case atStart => exact ⟨0, by omega, rfl, Lib.hid rfl, Below.refl _ _⟩
            case round =>
              obtain ⟨k, hk, rfl, HF, hb4⟩ := hrel
              have hret4 := below_step hret hb4
              by_cases hlt : k < xs.length
              · obtain ⟨x, hx⟩ : ∃ x, xs[k]? = some x := ⟨_, List.getElem?_eq_getElem hlt⟩
                obtain ⟨ad, rfl, hcx⟩ := (HC.out.down hret4) k x hx
                have Hs := Lib.hid (findF_at (r := bs t) hx)
                have zx := HZ.out x (List.mem_of_getElem? hx)
                clear hx
                go_wp2_with fail
                refine (rfold_any t x _ zt2 (by omega)).mono ?_
                rintro e w5 ⟨rfl, hb5⟩
                have b5 := hb4.trans (hb5.mono hb4.size)
                clear hb5 hb4 hret4
                cases hv : foldB (bs t) (bs x) with
                | true =>
                  have HV : Hid (lookI (bs r) (xs.map bs) = (k : Int)) := Lib.hid (by
                    have hf : findF (bs t) 0 (xs.map bs) = (k : Int) := by rw [HF.out, Hs.out, hv]; rfl
                    have hpn : joinD ((ps.take (n + 1)).map bs) ≠ [] := joinD_ne H.out.pieces (by intro e; have := congrArg List.length e; rw [List.length_map, List.length_take] at this; simp only [List.length_nil] at this; omega)
                    obtain ⟨_, _, _, hst⟩ := lookF_step (tags := xs.map bs) hpn H.out.fuel
                    rw [H.out.eq, hst, ← HTn.out, hf, if_pos (by omega)])
                  clear hv
                  go_wp2_with fail
                  go_ret
                  exact ⟨by rw [HV.out]; rfl, below_step hret b5⟩
                | false =>
                  have HV := Lib.hid hv
                  clear hv
                  go_wp2_with fail
                  go_roundw
                  case rel => exact ⟨k + 1, by omega, by go_num, Lib.hid (by rw [HF.out, Hs.out, HV.out]; rfl), b5⟩
                  case measure => simp [intOf]; omega
              · have hfm : ¬ 0 ≤ findF (joinD ((ps.take (n + 1)).map bs)) 0 (xs.map bs) := by
                  rw [← HTn.out, HF.out, findF_end (r := bs t) k (by omega)]; decide
                obtain ⟨n', fuel', hL, hn2⟩ := look_miss H.out hn' hfm
                have HL2 := Lib.hid hL
                clear hfm hL
                rcases n with _ | q
                · have e0 : n' = 0 := by rw [hn2]; simp
                  subst e0
                  clear hn2
                  go_wp2_with fail
                  go_roundw
                  case rel => exact ⟨0, fuel', by omega, rfl, HL2, hb.trans (hb4.mono hb.size)⟩
                  case measure => simp
                · obtain ⟨y, hy⟩ : ∃ y, ps[q]? = some y := ⟨_, List.getElem?_eq_getElem (by omega)⟩
                  have hcy : wr.cell? ⟨g, q, none⟩ = some (.string y) := by
                    have := (HCP.out.below (hb.trans (hb4.mono hb.size)) hg2) q y hy
                    rwa [Nat.zero_add] at this
                  by_cases h1 : y.size = 1
                  · have e0 : n' = q := by rw [hn2, Nat.add_sub_cancel, hy]; simp [h1]
                    have hb1 : ((y.size : Int) == 1) = true := beq_iff_eq.2 (by omega)
                    subst e0
                    clear hn2 hy
                    go_wp2_with fail
                    go_roundw
                    case rel => exact ⟨n', fuel', by omega, rfl, HL2, hb.trans (hb4.mono hb.size)⟩
                    case measure => simp; omega
                  · have e0 : n' = q + 1 := by rw [hn2, Nat.add_sub_cancel, hy]; simp [h1]
                    have hb1 : ((y.size : Int) == 1) = false := beq_eq_false_iff_ne.2 (by omega)
                    subst e0
                    clear hn2 hy
                    go_wp2_with fail
                    go_roundw
                    case rel => exact ⟨q + 1, fuel', by omega, rfl, HL2, hb.trans (hb4.mono hb.size)⟩
                    case measure => simp
end Go.Proofs.YtfkgjjoejcbdnaaDoor
