/- The walks of etag.Weak and of NotModified, of the program and of the reference (31.3). Printed by gen_nm.py. -/
import Derived.Test.YtlcchcbeebakpaaDoorTagL
import Derived.Test.YtlcchcbeebakpaaDoorCondX
namespace Go.Proofs.YtlcchcbeebakpaaDoor
open Go.RowKit Go.Shelf

set_option maxHeartbeats 800000 in
theorem both_any (a b : Tg) (w : World) :
    Calls Tryd.prog 91 #[.agg #[.bool a.1, .string a.2], .agg #[.bool b.1, .string b.2], .func (.func 92) #[] #[]] w fun e w' => e = .returned (.bool (bs a.2 == bs b.2)) ∧ Below w.heap.size w w' := by
  obtain ⟨R0, R1, b2⟩ := rows2 w (etC a.1 a.2) 77 (etC b.1 b.2) 77
  go_enter Tryd.func91, Tryd.ntmps91
  go_wp2_with fail
  refine (weak1_any a _).mono ?_
  rintro e w1 ⟨rfl, hb1⟩
  have R0 := R0.below hb1
  have R1 := R1.below hb1
  have b2 := step_b b2 hb1
  have c0 := R1.cell 0 rfl
  have c1 := R1.cell 1 rfl
  have d1 := R0.cell 1 rfl
  clear hb1
  go_wp2_with fail
  refine (weak1_any b _).mono ?_
  rintro e w2 ⟨rfl, hb2⟩
  have c1 := (R1.below hb2).cell 1 rfl
  have d1 := (R0.below hb2).cell 1 rfl
  clear R0 R1 c0
  go_wp2_with fail
  go_ret
  exact ⟨ret_bool (bs_beq _ _), step_b b2 hb2⟩
set_option maxHeartbeats 800000 in
theorem weak_any (a b : Tg) (w : World) :
    Calls Tryd.prog 64 #[.agg #[.bool a.1, .string a.2], .agg #[.bool b.1, .string b.2]] w fun e w' => e = .returned (.bool (bs a.2 == bs b.2)) ∧ Below w.heap.size w w' := by
  obtain ⟨R0, R1, b2⟩ := rows2 w (etC a.1 a.2) 77 (etC b.1 b.2) 77
  clear R0 R1
  obtain ⟨q, hq⟩ : ∃ q, q = (bs a.2 == bs b.2) := ⟨_, rfl⟩
  have HQ := Lib.hid hq
  clear hq
  go_enter Tryd.func64, Tryd.ntmps64
  go_wp2_with fail
  refine (both_any a b _).mono ?_
  rintro e w1 ⟨he, hb1⟩
  rw [← HQ.out] at he
  subst he
  go_wp2_with fail
  go_ret
  exact ⟨ret_bool HQ.out, step_b b2 hb1⟩
abbrev hEAD : ByteArray := ⟨#[72, 69, 65, 68]⟩
def methB (m : ByteArray) : Bool := (bs m == bs gET) || (bs m == bs hEAD)
def sinceB (xs es : List Fd) : Bool := (dpt (bs (datedS (bs nIMS) xs))).2 && (dpt (bs (datedS (bs nLM) es))).2 && decide ((dpt (bs (datedS (bs nLM) es))).1 ≤ (dpt (bs (datedS (bs nIMS) xs))).1)
def tagB (xs es : List Fd) : Bool := match tagsL (allL (bs nINM) xs) with
  | none => false
  | some none => true
  | some (some l) => match ofE es with
    | none => false
    | some o => l.any fun t => t.2 == o.2
def nmB (m : ByteArray) (st : Int) (xs es : List Fd) : Bool :=
  if methB m = true ∧ st = 200 then (if 0 < (getF (bs nINM) xs).length then tagB xs es else sinceB xs es) else false
theorem any_hit {ts : List Tg} {k : Nat} {t : Tg} {o : List UInt8} (hx : ts[k]? = some t) (h : (bs t.2 == o) = true) : ((ts.map tgL).any fun t => t.2 == o) = true := by
  rw [List.any_eq_true]
  exact ⟨tgL t, List.mem_map.2 ⟨t, List.mem_of_getElem? hx, rfl⟩, h⟩
theorem any_miss {ts : List Tg} {o : List UInt8} (h : ∀ (j : Nat) (t : Tg), j < ts.length → ts[j]? = some t → (bs t.2 == o) = false) : ((ts.map tgL).any fun t => t.2 == o) = false := by
  rw [List.any_eq_false]
  intro x hx
  obtain ⟨t, ht, rfl⟩ := List.mem_map.1 hx
  obtain ⟨j, hj, e⟩ := List.mem_iff_getElem.1 ht
  have := h j t hj (by rw [List.getElem?_eq_getElem hj, e])
  show ¬ (bs t.2 == o) = true
  rw [this]; simp
set_option maxHeartbeats 6400000 in
set_option maxRecDepth 100000 in
theorem notmod_any (m tg : ByteArray) (mn : Int) (oa : Option Addr) (xs : List Fd) (cap : Nat) (bd : ByteArray) (rm st : Int) (rs : ByteArray) (oe : Option Addr) (es : List Fd) (cape : Nat) (be : ByteArray) (w : World)
    (hn : xs.length ≤ 10000) (hz : FldZ xs 100000) (hc : FldO w oa xs) (hne : es.length ≤ 10000) (hze : FldZ es 100000) (hce : FldO w oe es) :
    Calls Tryd.prog 37 #[reqV m tg mn oa xs.length cap bd, respV rm st rs oe es.length cape be] w fun e w' => e = .returned (.bool (nmB m st xs es)) ∧ Below w.heap.size w w' := by
  obtain ⟨R0, R1, b0⟩ := rows2 w (reqC m tg mn oa xs.length cap bd) 54 (respC rm st rs oe es.length cape be) 42
  have HZ := Lib.hid hz
  have HZE := Lib.hid hze
  have HC := Lib.hid (hc.down b0)
  have HE := Lib.hid (hce.down b0)
  clear hz hze hc hce
  cases hm : methB m with
  | false =>
    have HF : Hid (nmB m st xs es = false) := Lib.hid (by unfold nmB; rw [if_neg (by rw [hm]; simp)])
    have k1 : ¬ m.toList = [71, 69, 84] := by rw [Lib.toList_data]; intro h; unfold methB at hm; rw [show bs m = bs gET from h] at hm; simp at hm
    have k2 : ¬ m.toList = [72, 69, 65, 68] := by rw [Lib.toList_data]; intro h; unfold methB at hm; rw [show bs m = bs hEAD from h] at hm; simp at hm
    clear hm R0 R1
    go_enter Tryd.func37, Tryd.ntmps37
    go_wp2_with fail
    go_ret
    exact ⟨ret_bool HF.out.symm, b0⟩
  | true =>
    have hor : m.toList = [71, 69, 84] ∨ (¬ m.toList = [71, 69, 84] ∧ m.toList = [72, 69, 65, 68]) := by
      rw [Lib.toList_data]
      by_cases h : bs m = bs gET
      · exact .inl h
      · right
        refine ⟨h, ?_⟩
        unfold methB at hm
        rw [show (bs m == bs gET) = false from by simpa using h, Bool.false_or] at hm
        exact eq_of_beq hm
    by_cases hst : st = 200
    · have HN : Hid (nmB m st xs es = if 0 < (getF (bs nINM) xs).length then tagB xs es else sinceB xs es) := Lib.hid (by unfold nmB; rw [if_pos ⟨hm, hst⟩])
      have ks : (st != 200) = false := by rw [hst]; rfl
      clear hm hst
      have HH := Lib.hid (has_any oa xs cap nINM _ (by decide) (by omega) HZ.out HC.out)
      cases hh : decide (0 < (getF (bs nINM) xs).length) with
      | true =>
        have HHD := Lib.hid hh
        have HT : Hid (nmB m st xs es = tagB xs es) := Lib.hid (by rw [HN.out, if_pos (of_decide_eq_true hh)])
        clear hh
        have HL := fun (wl : World) (hb : Below w.heap.size w wl) (hc : FldO wl oa xs) => taglist_any oa xs cap nINM wl (by decide) hn HZ.out hc
        have HLH := Lib.hid HL
        clear HL
        rcases htl : tagsL (allL (bs nINM) xs) with _ | ol
        · have HTL := Lib.hid htl
          clear htl
          have HV : Hid (nmB m st xs es = false) := Lib.hid (by rw [HT.out]; unfold tagB; rw [HTL.out])
          rcases hor with k1 | ⟨k1, k2⟩
          all_goals
            go_enter Tryd.func37, Tryd.ntmps37
            go_wp2_with fail
            refine HH.out.mono ?_
            rintro e w1 ⟨rfl, hb1⟩
            rw [HHD.out]
            have Q1 := R0.below hb1
            have E1 := R1.below hb1
            have b1 := step_b b0 hb1
            have c3 := Q1.cell 3 rfl
            have HLC := Lib.hid (HLH.out w1 b1 (HC.out.down hb1))
            go_wp2_with fail
            refine HLC.out.mono ?_
            rintro e w2 ⟨ot, ts, ct, any, ok, rfl, hR, h64, TO, hb2⟩
            rw [HTL.out] at hR
            have b2 := step_b b1 hb2
            obtain ⟨rfl, rfl, rfl⟩ := hR
            clear hb1 hb2 Q1 E1 TO b1 c3 HLC
            go_wp2_with fail
            go_ret
            exact ⟨ret_bool HV.out.symm, b2⟩
        · rcases ol with _ | l
          · have HTL := Lib.hid htl
            clear htl
            have HV : Hid (nmB m st xs es = true) := Lib.hid (by rw [HT.out]; unfold tagB; rw [HTL.out])
            rcases hor with k1 | ⟨k1, k2⟩
            all_goals
              go_enter Tryd.func37, Tryd.ntmps37
              go_wp2_with fail
              refine HH.out.mono ?_
              rintro e w1 ⟨rfl, hb1⟩
              rw [HHD.out]
              have Q1 := R0.below hb1
              have E1 := R1.below hb1
              have b1 := step_b b0 hb1
              have c3 := Q1.cell 3 rfl
              have HLC := Lib.hid (HLH.out w1 b1 (HC.out.down hb1))
              go_wp2_with fail
              refine HLC.out.mono ?_
              rintro e w2 ⟨ot, ts, ct, any, ok, rfl, hR, h64, TO, hb2⟩
              rw [HTL.out] at hR
              have b2 := step_b b1 hb2
              obtain ⟨rfl, rfl, rfl⟩ := hR
              clear hb1 hb2 Q1 E1 TO b1 c3 HLC
              go_wp2_with fail
              go_ret
              exact ⟨ret_bool HV.out.symm, b2⟩
          · have HTL := Lib.hid htl
            clear htl
            rcases hor with k1 | ⟨k1, k2⟩
            all_goals
              go_enter Tryd.func37, Tryd.ntmps37
              go_wp2_with fail
              refine HH.out.mono ?_
              rintro e w1 ⟨rfl, hb1⟩
              rw [HHD.out]
              have Q1 := R0.below hb1
              have E1 := R1.below hb1
              have b1 := step_b b0 hb1
              have c3 := Q1.cell 3 rfl
              have HLC := Lib.hid (HLH.out w1 b1 (HC.out.down hb1))
              go_wp2_with fail
              refine HLC.out.mono ?_
              rintro e w2 ⟨ot, ts, ct, any, ok, rfl, hR, h64, TO, hb2⟩
              rw [HTL.out] at hR
              have b2 := step_b b1 hb2
              obtain ⟨rfl, rfl, hts⟩ := hR
              have HTS := Lib.hid hts
              have HTO := Lib.hid TO
              have E2 := E1.below hb2
              have d3 := E2.cell 3 rfl
              have HO := Lib.hid (of_any oe es cape w2 (by omega) HZE.out ((HE.out.down hb1).down hb2))
              clear hts hb1 hb2 Q1 E1 TO b1 c3 HLC E2
              go_wp2_with fail
              refine HO.out.mono ?_
              rintro e w3 ⟨he, hb3⟩
              rcases hof : ofE es with _ | ⟨ob, ol⟩
              · have HV : Hid (nmB m st xs es = false) := Lib.hid (by rw [HT.out]; unfold tagB; rw [HTL.out]; simp only [hof])
                rw [hof, show etagV none = .tuple #[.agg #[.bool false, .string ⟨#[]⟩], .bool false] from rfl] at he
                subst he
                have b3 := step_b (step_b b2 hb3) (alloc_b w3 (.cells #[.bool false, .string ⟨#[]⟩] 77))
                have HT3 := Lib.hid ((HTO.out.down hb3).down (alloc_b w3 (.cells #[.bool false, .string ⟨#[]⟩] 77)))
                have G3 := RowAt.new w3 (etC false ⟨#[]⟩) 77
                clear hof hb3 b2 d3 HO HTO
                go_wp2_with fail
                obtain ⟨wq, hwq⟩ : ∃ wq, wq = w3.alloc (.cells #[.bool false, .string ⟨#[]⟩] 77) := ⟨_, rfl⟩
                go_loopw [54] (fun c wr => ∃ k : Nat, k ≤ ts.length ∧ c = .int .i64 k ∧ Below w.heap.size w wr ∧ Hid (TagO wr ot ts)) (fun c _ => ts.length - (intOf c).toNat)
                case atStart => exact ⟨0, by omega, rfl, b3, HT3⟩
                case round =>
                  obtain ⟨k, hk, rfl, hb, HTr⟩ := hrel
                  by_cases hlt : k < ts.length
                  · obtain ⟨t, ht⟩ : ∃ t, ts[k]? = some t := ⟨_, List.getElem?_eq_getElem hlt⟩
                    obtain ⟨ad2, had, c0, c1⟩ := HTr.out.at ht
                    cases had
                    have bk := hb.alloc hb.size (.cells #[.bool t.1, .string t.2] 77)
                    have HTk := Lib.hid (HTr.out.down (alloc_b wr (.cells #[.bool t.1, .string t.2] 77)))
                    clear ht hwq
                    go_wp2_with fail
                    go_roundw
                    case rel => exact ⟨k + 1, by omega, by go_num, bk, HTk⟩
                    case measure => simp [intOf]; omega
                  · go_wp2_with fail
                    go_ret
                    exact ⟨ret_bool HV.out.symm, hb⟩
              · have HV : Hid (nmB m st xs es = ((ts.map tgL).any fun t => t.2 == ol)) := Lib.hid (by rw [HT.out]; unfold tagB; rw [HTL.out]; simp only [hof]; rw [HTS.out])
                obtain ⟨lb, hlb⟩ : ∃ lb : ByteArray, lb = ⟨ol.toArray⟩ := ⟨_, rfl⟩
                have HLB : Hid (bs lb = ol) := Lib.hid (by rw [hlb])
                rw [hof, show etagV (some (ob, ol)) = .tuple #[.agg #[.bool ob, .string ⟨ol.toArray⟩], .bool true] from rfl, ← hlb] at he
                subst he
                have b3 := step_b (step_b b2 hb3) (alloc_b w3 (.cells #[.bool ob, .string lb] 77))
                have HT3 := Lib.hid ((HTO.out.down hb3).down (alloc_b w3 (.cells #[.bool ob, .string lb] 77)))
                have G3 := RowAt.new w3 (etC ob lb) 77
                clear hof hb3 b2 d3 HO HTO hlb
                go_wp2_with fail
                go_loopw [54] (fun c wr => ∃ k : Nat, k ≤ ts.length ∧ c = .int .i64 k ∧ Below w.heap.size w wr ∧ Hid (TagO wr ot ts) ∧ RowAt wr w3.heap.size 77 (etC ob lb) ∧ Hid (∀ (j : Nat) (t : Tg), j < k → ts[j]? = some t → (bs t.2 == ol) = false)) (fun c _ => ts.length - (intOf c).toNat)
                case atStart => exact ⟨0, by omega, rfl, b3, HT3, G3, Lib.hid fun j t hj => by omega⟩
                case round =>
                  obtain ⟨k, hk, rfl, hb, HTr, G, HM⟩ := hrel
                  by_cases hlt : k < ts.length
                  · obtain ⟨t, ht⟩ : ∃ t, ts[k]? = some t := ⟨_, List.getElem?_eq_getElem hlt⟩
                    obtain ⟨ad2, had, c0, c1⟩ := HTr.out.at ht
                    cases had
                    have bk := hb.alloc hb.size (.cells #[.bool t.1, .string t.2] 77)
                    have HTk := Lib.hid (HTr.out.down (alloc_b wr (.cells #[.bool t.1, .string t.2] 77)))
                    have Gk := G.alloc (.cells #[.bool t.1, .string t.2] 77)
                    have g0 := Gk.cell 0 rfl
                    have g1 := Gk.cell 1 rfl
                    cases hq : (bs t.2 == ol) with
                    | true =>
                      have HHIT : Hid (nmB m st xs es = true) := Lib.hid (by rw [HV.out]; exact any_hit ht hq)
                      have HQ : Hid ((bs t.2 == bs lb) = true) := Lib.hid (by rw [HLB.out]; exact hq)
                      clear ht hq hb G HTr
                      go_wp2_with fail
                      refine (weak_any t (ob, lb) _).mono ?_
                      rintro e w5 ⟨rfl, hb5⟩
                      rw [HQ.out]
                      go_wp2_with fail
                      go_ret
                      exact ⟨ret_bool HHIT.out.symm, step_b bk hb5⟩
                    | false =>
                      have HM2 : Hid (∀ (j : Nat) (t : Tg), j < k + 1 → ts[j]? = some t → (bs t.2 == ol) = false) := Lib.hid fun j t' hj ht' => by
                        by_cases e : j = k
                        · subst e; rw [ht] at ht'; cases ht'; exact hq
                        · exact HM.out j t' (by omega) ht'
                      have HQ : Hid ((bs t.2 == bs lb) = false) := Lib.hid (by rw [HLB.out]; exact hq)
                      clear ht hq hb G HTr
                      go_wp2_with fail
                      refine (weak_any t (ob, lb) _).mono ?_
                      rintro e w5 ⟨rfl, hb5⟩
                      rw [HQ.out]
                      have HT5 := Lib.hid (HTk.out.down hb5)
                      have G5 := Gk.below hb5
                      have b5 := step_b bk hb5
                      clear g0 g1 c0 c1 Gk bk HTk hb5
                      go_wp2_with fail
                      go_roundw
                      case rel => exact ⟨k + 1, by omega, by go_num, b5, HT5, G5, HM2⟩
                      case measure => simp [intOf]; omega
                  · have HF : Hid (nmB m st xs es = false) := Lib.hid (by rw [HV.out]; exact any_miss fun j t hj => HM.out j t (by omega))
                    go_wp2_with fail
                    go_ret
                    exact ⟨ret_bool HF.out.symm, hb⟩
      | false =>
        have HHD := Lib.hid hh
        have HT : Hid (nmB m st xs es = sinceB xs es) := Lib.hid (by rw [HN.out, if_neg (of_decide_eq_false hh)])
        clear hh
        obtain ⟨s1, hs1⟩ : ∃ s1, s1 = datedS (bs nIMS) xs := ⟨_, rfl⟩
        obtain ⟨s2, hs2⟩ : ∃ s2, s2 = datedS (bs nLM) es := ⟨_, rfl⟩
        have hz1 : s1.size ≤ 100000 := by rw [hs1]; exact datedS_size HZ.out
        have hz2 : s2.size ≤ 100000 := by rw [hs2]; exact datedS_size HZE.out
        have HSB : Hid (nmB m st xs es = ((dpt (bs s1)).2 && (dpt (bs s2)).2 && decide ((dpt (bs s2)).1 ≤ (dpt (bs s1)).1))) := Lib.hid (by rw [HT.out, hs1, hs2]; rfl)
        have HS1 := Lib.hid hs1
        have HS2 := Lib.hid hs2
        rcases hd1 : dpt (bs s1) with ⟨p1, o1⟩
        rcases hd2 : dpt (bs s2) with ⟨p2, o2⟩
        rw [hd1, hd2] at HSB
        have HD1 := Lib.hid hd1
        have HD2 := Lib.hid hd2
        clear hs1 hs2 hd1 hd2
        have hfin : (o1 = false) ∨ (o1 = true ∧ o2 = false) ∨ (o1 = true ∧ o2 = true ∧ p2 ≤ p1) ∨ (o1 = true ∧ o2 = true ∧ ¬ p2 ≤ p1) := by
          cases o1 <;> cases o2 <;> simp <;> omega
        rcases hor with k1 | ⟨k1, k2⟩
        all_goals
          rcases hfin with rfl | ⟨rfl, rfl⟩ | ⟨rfl, rfl, hle⟩ | ⟨rfl, rfl, hle⟩
          all_goals
            go_enter Tryd.func37, Tryd.ntmps37
            go_wp2_with fail
            refine HH.out.mono ?_
            rintro e w1 ⟨rfl, hb1⟩
            rw [HHD.out]
            have Q1 := R0.below hb1
            have E1 := R1.below hb1
            have b1 := step_b b0 hb1
            have c3 := Q1.cell 3 rfl
            have HDC := Lib.hid (dated_any oa xs cap nIMS w1 (by decide) (by omega) HZ.out (HC.out.down hb1))
            rw [← HS1.out, HD1.out] at HDC
            go_wp2_with fail
            refine HDC.out.mono ?_
            rintro e w2 ⟨rfl, hb2⟩
            have b2 := step_b b1 hb2
            have E2 := E1.below hb2
            have d3 := E2.cell 3 rfl
            have HDE := Lib.hid (dated_any oe es cape nLM w2 (by decide) (by omega) HZE.out ((HE.out.down hb1).down hb2))
            rw [← HS2.out, HD2.out] at HDE
            clear hb1 hb2 b1 Q1 E1 c3 HDC E2
            go_wp2_with fail
            refine HDE.out.mono ?_
            rintro e w3 ⟨rfl, hb3⟩
            have b3 := step_b b2 hb3
            clear b2 hb3 d3 HDE
            go_wp2_with fail
            go_ret
            exact ⟨ret_bool (by rw [HSB.out]; simp [*]), b3⟩
    · have HF : Hid (nmB m st xs es = false) := Lib.hid (by unfold nmB; rw [if_neg (fun h => hst h.2)])
      have ks : (st != 200) = true := by simpa using hst
      clear hm hst R0 R1
      rcases hor with k1 | ⟨k1, k2⟩
      all_goals
        go_enter Tryd.func37, Tryd.ntmps37
        go_wp2_with fail
        go_ret
        exact ⟨ret_bool HF.out.symm, b0⟩
end Go.Proofs.YtlcchcbeebakpaaDoor
