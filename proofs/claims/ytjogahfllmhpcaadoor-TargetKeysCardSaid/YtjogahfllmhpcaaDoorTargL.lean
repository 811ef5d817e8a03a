/- The walks of the statements on layer 4 (target) about the program alone: each returns true. -/
import Derived.Test.YtjogahfllmhpcaaDoorTargR
import Derived.Test.YtjogahfllmhpcaaDoorTargW5
import Derived.Test.YtjogahfllmhpcaaDoorPost
import Derived.OpenShut
import Derived.Laws.StructEq
namespace Go.Proofs.YtjogahfllmhpcaaDoor
open Go.RowKit

theorem pow_of_laid {W : World} (h : laidMetH Tryd.prog Rows.targetParsesRow.laid W) : PowTab W := by
  rw [MakeChecks.laidMetH_plain _ _ _ (by kernel_rfl)] at h
  obtain ⟨ps, hv, _⟩ := h
  obtain ⟨q1, hv1⟩ := laid_rest hv
  obtain ⟨q2, hv2⟩ := laid_rest hv1
  exact laid_tab (rest := []) (g := 1) (t := 88) (e := 82) (n := 20) (by kernel_rfl) (by kernel_rfl) Tryd.underlying88 Tryd.underlying82 (by kernel_rfl) (by kernel_rfl) hv2
theorem uri_form (r : Uri × Int) : ∃ (N : ByteArray) (k : Int) (P Q : ByteArray) (b : Bool) (e : Int), r = (mkU N k P Q b, e) := ⟨⟨r.1.host.toArray⟩, r.1.port, ⟨r.1.path.toArray⟩, ⟨r.1.query.toArray⟩, r.1.has, r.2, rfl⟩
abbrev awT : ByteArray := ⟨#[47, 97, 47, 46, 46, 47, 98, 37, 55, 101, 63, 120]⟩
abbrev awH : ByteArray := ⟨#[69, 88, 65, 77, 80, 76, 69, 46, 111, 114, 103, 58, 56, 48]⟩
abbrev awK : ByteArray := ⟨#[104, 116, 116, 112, 58, 47, 47, 101, 120, 97, 109, 112, 108, 101, 46, 111, 114, 103, 47, 98, 126, 63, 120]⟩
abbrev awN : ByteArray := ⟨#[101, 120, 97, 109, 112, 108, 101, 46, 111, 114, 103]⟩
abbrev awP : ByteArray := ⟨#[47, 98, 126]⟩
abbrev awQ : ByteArray := ⟨#[120]⟩
theorem awake_parse : parseU (bs awT) (bs awH) = (mkU awN 80 awP awQ true, 0) := by decide +kernel
theorem awake_key : keyL (mkU awN 80 awP awQ true) = bs awK := by decide +kernel
set_option maxHeartbeats 800000 in
theorem awake4_any (w : World) (hT : PowTab w) (hM : MaxOf w) :
    Calls Tryd.prog 12 #[] w fun e w' => e = .returned (.bool true) ∧ Below w.heap.size w w' := by
  have HM := Lib.hid hM
  have HT := Lib.hid hT
  have HV : Hid (parseV (parseU (bs awT) (bs awH)) = .tuple #[.agg #[.string awN, .int .i64 80, .string awP, .string awQ, .bool true], .int .i64 0]) := Lib.hid (by rw [awake_parse]; rfl)
  have HK : Hid ((⟨(keyL (mkU awN 80 awP awQ true)).toArray⟩ : ByteArray) = awK) := Lib.hid (by rw [awake_key])
  clear hM hT
  go_enter Tryd.func12, Tryd.ntmps12
  go_wp2_with fail
  refine (parse_any awT awH _ (show (12 : Nat) ≤ 100000 by omega) (show (14 : Nat) ≤ 100000 by omega) HM.out).mono ?_
  rintro e w1 ⟨rfl, b1⟩
  rw [HV.out]
  have HT2 := Lib.hid ((HT.out.below b1).below (below_alloc w1 (.cells #[.string awN, .int .i64 80, .string awP, .string awQ, .bool true] 23)))
  have b2 := below_step b1 (below_alloc w1 (.cells #[.string awN, .int .i64 80, .string awP, .string awQ, .bool true] 23))
  go_wp2_with fail
  refine (key_any awN 80 awP awQ true _ (show (11 : Nat) ≤ 100000 by omega) (show (3 : Nat) ≤ 100000 by omega) (show (1 : Nat) ≤ 100000 by omega) (by omega) (by omega) HT2.out).mono ?_
  rintro e w3 ⟨rfl, b3⟩
  rw [HK.out]
  go_wp2_with fail
  go_ret
  exact ⟨rfl, below_step b2 b3⟩
set_option maxHeartbeats 1600000 in
theorem targetNormal_walk (s : ByteArray) (w : World) (_ : s.size ≤ 9223372036854775807) (hT : PowTab w) (hM : MaxOf w) :
    Calls Tryd.prog 6 #[.string s] w fun e w' => e = .returned (.bool true) ∧ Below w.heap.size w w' := by
  have HM := Lib.hid hM
  have HT := Lib.hid hT
  clear hM hT
  by_cases hl : 1500 < (s.size : Int)
  · go_enter Tryd.func6, Tryd.ntmps6
    go_wp2_with fail
    go_ret
    exact ⟨rfl, Below.refl _ _⟩
  obtain ⟨a, ok, b, is, hv, hv2, hz, hsame⟩ : ∃ (a : ByteArray) (ok : Bool) (b : ByteArray) (is : Bool), normV (normL (bs s)) = .tuple #[.string a, .bool ok] ∧ normV (normL (bs a)) = .tuple #[.string b, .bool is] ∧ a.size ≤ 1500 ∧ (ok = false ∨ ok = true ∧ is = true ∧ a = b) := by
    cases hn : normL (bs s) with
    | none => exact ⟨⟨#[]⟩, false, ⟨#[]⟩, true, rfl, rfl, (show (0 : Nat) ≤ 1500 by omega), .inl rfl⟩
    | some x =>
      have h2 := norm_idem hn
      have h3 := norm_len _ _ _ (Nat.le_refl _) hn
      rw [bs_length] at h3
      exact ⟨⟨x.toArray⟩, true, ⟨x.toArray⟩, true, rfl, by rw [show bs (⟨x.toArray⟩ : ByteArray) = x from rfl, h2]; rfl, by show x.length ≤ _; omega, .inr ⟨rfl, rfl, rfl⟩⟩
  obtain ⟨p, hp⟩ : ∃ p : ByteArray, p = ⟨(segsL (bs s)).toArray⟩ := ⟨_, rfl⟩
  have hpz : p.size ≤ 1500 := by
    have := segs_len (bs s)
    rw [bs_length] at this
    have e : p.size = (segsL (bs s)).length := by rw [hp]; rfl
    omega
  have HP : Hid ((⟨(segsL (bs p)).toArray⟩ : ByteArray) = p) := Lib.hid (by
    have e : bs p = segsL (bs s) := by rw [hp]
    rw [e, segs_idem, hp])
  have HV := Lib.hid hv
  have HV2 := Lib.hid hv2
  have HS := Lib.hid hp
  clear hv hv2 hp
  go_enter Tryd.func6, Tryd.ntmps6
  go_wp2_with fail
  refine (normalize_any s _ (by omega)).mono ?_
  rintro e w1 ⟨rfl, b1⟩
  rw [HV.out]
  go_wp2_with fail
  refine (normalize_any a _ (by omega)).mono ?_
  rintro e w2 ⟨rfl, hb2⟩
  rw [HV2.out]
  have b2 := below_step b1 hb2
  have HM2 := Lib.hid (HM.out.below b2)
  go_wp2_with fail
  refine (segments_any s _ (by omega) HM2.out).mono ?_
  rintro e w3 ⟨rfl, hb3⟩
  rw [← HS.out]
  have b3 := below_step b2 hb3
  have HM3 := Lib.hid (HM.out.below b3)
  clear b1 hb2 hb3 b2
  rcases hsame with rfl | ⟨rfl, rfl, rfl⟩
  all_goals
    go_wp2_with fail
    refine (segments_any p _ (by omega) HM3.out).mono ?_
    rintro e w4 ⟨rfl, hb4⟩
    rw [HP.out]
    have b4 := below_step b3 hb4
    have HM4 := Lib.hid (HM.out.below b4)
    have HT4 := Lib.hid (HT.out.below b4)
    go_wp2_with fail
    refine (awake4_any _ HT4.out HM4.out).mono ?_
    rintro e w5 ⟨rfl, hb5⟩
    go_wp2_with fail
    go_ret
    exact ⟨rfl, below_step b4 hb5⟩
/-- The piece that is looked at begins behind a slash, and no slash stands in it so far. -/
def DotAt (P : List UInt8) (f k : Nat) : Prop := (f = P.length + 1 ∨ f ≤ P.length ∧ P[f - 1]? = some 47) ∧ ∀ j, f ≤ j → j < k → P[j]? ≠ some 47
theorem DotAt.next {P : List UInt8} {f k : Nat} (h : DotAt P f k) (hk : P[k]? ≠ some 47) : DotAt P f (k + 1) := ⟨h.1, fun j h1 h2 => by
  by_cases e : j = k
  · subst e; exact hk
  · exact h.2 j h1 (by omega)⟩
theorem DotAt.cut {P : List UInt8} {k : Nat} (hk : P[k]? = some 47 ∨ k = P.length) : DotAt P (k + 1) (k + 1) := by
  refine ⟨?_, fun j h1 h2 => by omega⟩
  rcases hk with h | h
  · have : k < P.length := (List.getElem?_eq_some_iff.1 h).1
    exact .inr ⟨by omega, by simpa using h⟩
  · exact .inl (by omega)
theorem DotAt.ok {t P : List UInt8} {f k : Nat} (hP : P = segsL (47 :: t)) (h : DotAt P f k) (h1 : 1 ≤ f) (hf : f ≤ k) (hk : P[k]? = some 47 ∨ k = P.length) : (P.drop f).take (k - f) ≠ [46] ∧ (P.drop f).take (k - f) ≠ [46, 46] := by
  have hkl : k ≤ P.length := by
    rcases hk with h | h
    · have := (List.getElem?_eq_some_iff.1 h).1; omega
    · omega
  rcases h.1 with h0 | ⟨h2, h3⟩
  · omega
  · have hlt : f - 1 < P.length := by omega
    have e1 : P = P.take (f - 1) ++ 47 :: P.drop f := by
      have := List.take_append_drop (f - 1) P
      have hd := List.drop_eq_getElem_cons hlt
      have hg : P[f - 1] = 47 := by
        rw [List.getElem?_eq_getElem hlt] at h3; exact Option.some.inj h3
      rw [hg, show f - 1 + 1 = f from by omega] at hd
      rw [hd] at this
      exact this.symm
    have e2 : P.drop f = (P.drop f).take (k - f) ++ P.drop k := by
      have := List.take_append_drop (k - f) (P.drop f)
      rw [List.drop_drop, show f + (k - f) = k from by omega] at this
      exact this.symm
    refine segs_nodot (t := t) (a := P.take (f - 1)) (b := P.drop k) (by rw [← hP, ← e2]; exact e1) ?_ ?_
    · intro hm
      obtain ⟨j, hj, hx⟩ := List.mem_iff_getElem.1 hm
      rw [List.length_take, List.length_drop] at hj
      rw [List.getElem_take, List.getElem_drop] at hx
      exact h.2 (f + j) (by omega) (by omega) (by rw [List.getElem?_eq_getElem (by omega)]; exact congrArg some hx)
    · rcases hk with h | h
      · right
        have hkl' := (List.getElem?_eq_some_iff.1 h).1
        refine ⟨P.drop (k + 1), ?_⟩
        rw [List.drop_eq_getElem_cons hkl', (List.getElem?_eq_some_iff.1 h).2]
      · left; exact List.drop_of_length_le (by omega)
theorem bs_at (s : ByteArray) {k : Nat} (h : k < s.size) : (bs s)[k]? = some s[k] := by
  rw [List.getElem?_eq_getElem (by rw [bs_length]; exact h)]; rfl
set_option maxHeartbeats 3200000 in
theorem targetDots_walk (s : ByteArray) (w : World) (_ : s.size ≤ 9223372036854775807) (hT : PowTab w) (hM : MaxOf w) :
    Calls Tryd.prog 7 #[.string s] w fun e w' => e = .returned (.bool true) ∧ Below w.heap.size w w' := by
  have HM := Lib.hid hM
  have HT := Lib.hid hT
  clear hM hT
  by_cases hl : 1500 < (s.size : Int)
  · go_enter Tryd.func7, Tryd.ntmps7
    go_wp2_with fail
    go_ret
    exact ⟨rfl, Below.refl _ _⟩
  by_cases hz : s.size = 0
  · obtain ⟨e1, _⟩ := empty_yes hz
    clear hz
    go_enter Tryd.func7, Tryd.ntmps7
    go_wp2_with fail
    go_ret
    exact ⟨rfl, Below.refl _ _⟩
  have e1 := empty_no hz
  have hp0 : 0 < s.size := by omega
  by_cases h0 : s[0] = 47
  · obtain ⟨t, ht⟩ : ∃ t, bs s = 47 :: t := by
      have := drop_step s hp0
      rw [List.drop_zero, h0] at this
      exact ⟨_, this⟩
    have q0 : ((s[0].toNat : Int) != 47) = false := u8_bf (n := 47) (by decide) h0
    obtain ⟨p, hp⟩ : ∃ p : ByteArray, p = ⟨(segsL (bs s)).toArray⟩ := ⟨_, rfl⟩
    have hpb : bs p = segsL (47 :: t) := by rw [hp, ht]
    obtain ⟨r, hr⟩ := segs_head t
    have hpl : p.size = r.length + 1 := by rw [← bs_length, hpb, hr]; rfl
    have hpz : p.size ≤ 1500 := by
      have := segs_len (bs s)
      rw [bs_length] at this
      have e : p.size = (segsL (bs s)).length := by rw [hp]; rfl
      omega
    have hp1 : 0 < p.size := by omega
    have p0 : p[0] = 47 := by
      have h1 := bs_at p hp1
      rw [hpb, hr] at h1
      simpa using h1.symm
    have q1 : ((p[0].toNat : Int) != 47) = false := u8_bf (n := 47) (by decide) p0
    have q2 := empty_no (s := p) (by omega)
    have HS := Lib.hid hp
    have HPB := Lib.hid hpb
    have HD0 : Hid (DotAt (bs p) 1 1) := Lib.hid (DotAt.cut (k := 0) (.inl (by rw [hpb, hr]; rfl)))
    clear h0 hp hpb hr hpl p0 hz
    go_enter Tryd.func7, Tryd.ntmps7
    go_wp2_with fail
    refine (segments_any s _ (by omega) HM.out).mono ?_
    rintro e w1 ⟨rfl, b1⟩
    rw [← HS.out]
    go_wp2_with fail
    go_loop [4, 5] (fun a i => ∃ f k : Nat, 1 ≤ f ∧ f ≤ k ∧ k ≤ p.size + 1 ∧ a = .int .i64 f ∧ i = .int .i64 k ∧ Hid (DotAt (bs p) f k)) (fun _ i => p.size + 1 - (intOf i).toNat)
    case atStart => exact ⟨1, 1, by omega, by omega, by omega, rfl, rfl, HD0⟩
    case round =>
      obtain ⟨f, k, hf1, hf, hk, rfl, rfl, H⟩ := hrel
      by_cases hlt : k < p.size
      · by_cases hc : p[k] = 47
        · have qc : ((p[k].toNat : Int) != 47) = false := u8_bf (n := 47) (by decide) hc
          have hkk : (bs p)[k]? = some 47 := by rw [bs_at p hlt, hc]
          obtain ⟨x, hx⟩ : ∃ x : ByteArray, x = p.extract f k := ⟨_, rfl⟩
          have hok := DotAt.ok HPB.out H.out hf1 hf (.inl hkk)
          have hxb : bs x = ((bs p).drop f).take (k - f) := by rw [hx]; exact Lib.extract_data p f k
          rw [← hxb] at hok
          have n1 : (x.toList == [46]) = false := by rw [Lib.toList_data, beq_eq_false_iff_ne]; exact hok.1
          have n2 : (x.toList == [46, 46]) = false := by rw [Lib.toList_data, beq_eq_false_iff_ne]; exact hok.2
          have HN := Lib.hid (DotAt.cut (P := bs p) (k := k) (.inl hkk))
          have hs1 : ∀ wx, (Instr.slice 9 (.string p) (some (.int .i64 (f : Int))) (some (.int .i64 (k : Int))) none).run Tryd.prog wx = .ok (.string x) wx := fun wx => by
            rw [hx, run_slice_string_if (h := Tryd.underlying9), if_pos ⟨by omega, by omega⟩, if_pos ⟨by omega, by omega⟩]
            simp
          clear hc hkk hok hxb hx
          go_wp2_with fail
          go_round
          case rel => exact ⟨k + 1, k + 1, by omega, by omega, by omega, by go_num, by go_num, HN⟩
          case measure => simp [intOf]; omega
        · have qc : ((p[k].toNat : Int) != 47) = true := u8_bt (n := 47) (by decide) hc
          have HN := Lib.hid (DotAt.next H.out (k := k) (by rw [bs_at p hlt]; exact fun e => hc (Option.some.inj e)))
          clear hc
          go_wp2_with fail
          go_round
          case rel => exact ⟨f, k + 1, by omega, by omega, by omega, rfl, by go_num, HN⟩
          case measure => simp [intOf]; omega
      · by_cases hle : k ≤ p.size
        · obtain rfl : k = p.size := by omega
          obtain ⟨x, hx⟩ : ∃ x : ByteArray, x = p.extract f p.size := ⟨_, rfl⟩
          have hok := DotAt.ok HPB.out H.out hf1 hf (.inr (bs_length p).symm)
          have hxb : bs x = ((bs p).drop f).take (p.size - f) := by rw [hx]; exact Lib.extract_data p f p.size
          rw [← hxb] at hok
          have n1 : (x.toList == [46]) = false := by rw [Lib.toList_data, beq_eq_false_iff_ne]; exact hok.1
          have n2 : (x.toList == [46, 46]) = false := by rw [Lib.toList_data, beq_eq_false_iff_ne]; exact hok.2
          have HN := Lib.hid (DotAt.cut (P := bs p) (k := p.size) (.inr (bs_length p).symm))
          have hs1 : ∀ wx, (Instr.slice 9 (.string p) (some (.int .i64 (f : Int))) (some (.int .i64 (p.size : Int))) none).run Tryd.prog wx = .ok (.string x) wx := fun wx => by
            rw [hx, run_slice_string_if (h := Tryd.underlying9), if_pos ⟨by omega, by omega⟩, if_pos ⟨by omega, by omega⟩]
            simp
          clear hok hxb hx
          go_wp2_with fail
          go_round
          case rel => exact ⟨p.size + 1, p.size + 1, by omega, by omega, by omega, by go_num, by go_num, HN⟩
          case measure => simp [intOf]
        · have HM1 := Lib.hid (HM.out.below b1)
          have HT1 := Lib.hid (HT.out.below b1)
          go_wp2_with fail
          refine (awake4_any _ HT1.out HM1.out).mono ?_
          rintro e w5 ⟨rfl, hb5⟩
          go_wp2_with fail
          go_ret
          exact ⟨rfl, below_step b1 hb5⟩
  · have q0 : ((s[0].toNat : Int) != 47) = true := u8_bt (n := 47) (by decide) h0
    clear h0 hz
    go_enter Tryd.func7, Tryd.ntmps7
    go_wp2_with fail
    go_ret
    exact ⟨rfl, Below.refl _ _⟩
end Go.Proofs.YtjogahfllmhpcaaDoor
