/- The walks of Parse and Resolve (4.4, 4.5) of the program. -/
import Derived.Test.YtglckhljpjcmaaaGreatDoorQTargW2
import Derived.Test.YtglckhljpjcmaaaGreatDoorQTargW3
import Derived.Test.YtglckhljpjcmaaaGreatDoorQTargW4
import Derived.Test.YtglckhljpjcmaaaGreatDoorQPre
import Derived.Test.YtglckhljpjcmaaaGreatDoorQAnyW
import Derived.Deep.DeepCutAuto
import Derived.Deep.CutBlock
namespace Go.Proofs.YtglckhljpjcmaaaGreatDoor
open Go.RowKit

/-- The first byte that ends an authority. -/
theorem any_split : ∀ (l : List UInt8), (Lib.indexAny l [47, 63] = -1 ∧ auth1 l = l ∧ rest1 l = []) ∨ ∃ i : Nat, Lib.indexAny l [47, 63] = i ∧ i < l.length ∧ auth1 l = l.take i ∧ rest1 l = l.drop i
  | [] => .inl ⟨rfl, rfl, rfl⟩
  | c :: t => by
    have hcon : ([47, 63] : List UInt8).contains c = !stopC c := by
      unfold stopC
      rw [Bool.eq_iff_iff]; simp
    cases hs : stopC c with
    | false =>
      right
      have e1 : auth1 (c :: t) = [] := List.takeWhile_cons_of_neg (by rw [hs]; simp)
      have e2 : rest1 (c :: t) = c :: t := List.dropWhile_cons_of_neg (by rw [hs]; simp)
      refine ⟨0, ?_, by simp, by rw [e1]; rfl, by rw [e2]; rfl⟩
      rw [Lib.indexAny, if_pos (by rw [hcon, hs]; rfl)]; rfl
    | true =>
      have e1 : auth1 (c :: t) = c :: auth1 t := List.takeWhile_cons_of_pos hs
      have e2 : rest1 (c :: t) = rest1 t := List.dropWhile_cons_of_pos hs
      rcases any_split t with ⟨h1, h2, h3⟩ | ⟨i, h1, h2, h3, h4⟩
      · left
        rw [Lib.indexAny, if_neg (by rw [hcon, hs]; simp), h1, e1, e2, h2, h3]
        exact ⟨rfl, rfl, rfl⟩
      · right
        refine ⟨i + 1, ?_, by simp; omega, by rw [e1, h3]; rfl, by rw [e2, h4]; rfl⟩
        rw [Lib.indexAny, if_neg (by rw [hcon, hs]; simp), h1, if_neg (by simp)]
        simp
def parseV (r : Uri × Int) : Value := .tuple #[uriV r.1, .int .i64 r.2]
abbrev uri0C : List Value := uriC ⟨#[]⟩ 0 ⟨#[]⟩ ⟨#[]⟩ false
theorem one_uri (h : ByteArray) (n : Int) (p q : ByteArray) (b : Bool) : ∀ v ∈ uriC h n p q b, v.oneCell' = true := by
  intro v hv
  simp only [uriC, List.mem_cons, List.not_mem_nil, or_false] at hv
  rcases hv with rfl | rfl | rfl | rfl | rfl <;> rfl
theorem abs_len {t : ByteArray} (h : absB (bs t) = true) : 7 ≤ t.size := by
  unfold absB at h
  rw [Bool.and_eq_true, decide_eq_true_eq, bs_length] at h
  exact h.1
theorem run_from (s : ByteArray) (k : Nat) (i : Int) (hi : i = k) (h : k ≤ s.size) (wx : World) : (Instr.slice 9 (.string s) (some (.int .i64 i)) none none).run Tryz.prog wx = .ok (.string (s.extract k s.size)) wx := by
  subst hi
  rw [run_slice_string_l wx 9 s Tryz.underlying9 .i64 (k : Int) (by omega) (by omega)]; simp
theorem run_to (s : ByteArray) (k : Nat) (i : Int) (hi : i = k) (h : k ≤ s.size) (wx : World) : (Instr.slice 9 (.string s) none (some (.int .i64 i)) none).run Tryz.prog wx = .ok (.string (s.extract 0 k)) wx := by
  subst hi
  exact run_slice_string_h wx 9 s Tryz.underlying9 .i64 k (by omega) (by omega)
set_option maxHeartbeats 6400000 in
theorem uparse_any (t h : ByteArray) (w : World) (ht : t.size ≤ 100000) (hh : h.size ≤ 100000) (hM : MaxOf w) :
    Calls Tryz.prog 36 #[.string t, .string h] w fun e w' => e = .returned (parseV (parseU (bs t) (bs h))) ∧ Below w.heap.size w w' := by
  have HM := Lib.hid hM
  have R0 := Lib.hid (RowAt.new w uri0C 23)
  have B0 := Lib.hid (below_alloc w (.cells uri0C.toArray 23))
  clear hM
  go_enter Tryz.func36, Tryz.ntmps36
  go_upto_block 0 with fail
  go_cut [1, 6] (fun a r wx => RowAt wx w.heap.size 23 uri0C ∧ Below w.heap.size w wx ∧ ∃ ha rb : ByteArray, a = .string ha ∧ r = .string rb ∧ ha.size ≤ 100000 ∧ rb.size ≤ 100000 ∧ Hid (parseU (bs t) (bs h) = parse2 (bs ha) (bs rb)))
  case first =>
    go_wp2_with fail
    refine (absolute_any t _ ht).mono ?_
    rintro e w1 ⟨rfl, hb1⟩
    have R1 := R0.out.below hb1
    have b1 := B0.out.trans (hb1.mono (B0.out.size))
    clear hb1
    cases hab : absB (bs t) with
    | true =>
      have hl := abs_len hab
      obtain ⟨r, hr⟩ : ∃ r : ByteArray, r = t.extract 7 t.size := ⟨_, rfl⟩
      have hrb : bs r = (bs t).drop 7 := by rw [hr]; exact extract_from t 7
      have hrz : r.size ≤ t.size := by rw [← bs_length, hrb, List.length_drop, bs_length]; omega
      have s1 := fun wx => run_from t 7 7 rfl hl wx
      rw [← hr] at s1
      have HP : Hid (∀ a b : ByteArray, bs a = auth1 (bs r) → bs b = rest1 (bs r) → parseU (bs t) (bs h) = parse2 (bs a) (bs b)) := Lib.hid (by
        intro a b ha hb
        unfold parseU
        rw [hab, if_pos rfl, ← hrb, ha, hb])
      rcases any_split (bs r) with ⟨h1, h2, h3⟩ | ⟨i, h1, h2, h3, h4⟩
      · have H1 := Lib.hid h1
        obtain ⟨b, hb⟩ : ∃ b : ByteArray, b = r.extract r.size r.size := ⟨_, rfl⟩
        obtain ⟨a, ha⟩ : ∃ a : ByteArray, a = r.extract 0 r.size := ⟨_, rfl⟩
        have s2 := fun wx => run_to r r.size r.size rfl (Nat.le_refl _) wx
        have s3 := fun wx => run_from r r.size r.size rfl (Nat.le_refl _) wx
        rw [← ha] at s2
        rw [← hb] at s3
        have HF := Lib.hid (HP.out a b (by rw [ha, extract_take, h2, List.take_of_length_le (by rw [bs_length]; exact Nat.le_refl _)]) (by rw [hb, extract_from, h3, List.drop_of_length_le (by rw [bs_length]; exact Nat.le_refl _)]))
        have za : a.size ≤ 100000 := by rw [ha, ByteArray.size_extract]; omega
        have zb : b.size ≤ 100000 := by rw [hb, ByteArray.size_extract]; omega
        clear h1 h2 h3 ha hb hr hrb hab HP
        go_wp2_with fail
        refine (indexAny_any 47 63 r _ (by decide) (by decide) (by omega)).mono ?_
        rintro e w2 ⟨rfl, hb2⟩
        rw [H1.out]
        have R2 := R1.below hb2
        have b2 := b1.trans (hb2.mono b1.size)
        clear hb2 R1 b1
        go_wp2_with fail
        go_quiet (fail)
        have R3 := R2.below (below_draws _ nq)
        have b3 := below_drewN b2 nq
        generalize w2.drewN nq = w3 at R3 b3 ⊢
        go_wp2_with fail
        go_meet
        exact ⟨R3, b3, a, b, rfl, rfl, za, zb, HF⟩
      · rw [bs_length] at h2
        have H1 := Lib.hid h1
        obtain ⟨b, hb⟩ : ∃ b : ByteArray, b = r.extract i r.size := ⟨_, rfl⟩
        obtain ⟨a, ha⟩ : ∃ a : ByteArray, a = r.extract 0 i := ⟨_, rfl⟩
        have s2 := fun wx => run_to r i i rfl (by omega) wx
        have s3 := fun wx => run_from r i i rfl (by omega) wx
        rw [← ha] at s2
        rw [← hb] at s3
        have HF := Lib.hid (HP.out a b (by rw [ha, extract_take, h3]) (by rw [hb, extract_from, h4]))
        have za : a.size ≤ 100000 := by rw [ha, ByteArray.size_extract]; omega
        have zb : b.size ≤ 100000 := by rw [hb, ByteArray.size_extract]; omega
        have gi : ¬ (i : Int) < 0 := by omega
        clear h1 h2 h3 h4 ha hb hr hrb hab HP
        go_wp2_with fail
        refine (indexAny_any 47 63 r _ (by decide) (by decide) (by omega)).mono ?_
        rintro e w2 ⟨rfl, hb2⟩
        rw [H1.out]
        have R2 := R1.below hb2
        have b2 := b1.trans (hb2.mono b1.size)
        clear hb2 R1 b1
        go_wp2_with fail
        go_quiet (fail)
        have R3 := R2.below (below_draws _ nq)
        have b3 := below_drewN b2 nq
        generalize w2.drewN nq = w3 at R3 b3 ⊢
        go_wp2_with fail
        go_meet
        exact ⟨R3, b3, a, b, rfl, rfl, za, zb, HF⟩
    | false =>
      have hpre := pre_slash (bs t)
      cases hx : Lib.hasPrefix t.data.toList [47] with
      | true =>
        have HX := Lib.hid hx
        have HF : Hid (parseU (bs t) (bs h) = parse2 (bs h) (bs t)) := Lib.hid (by
          rw [show Lib.hasPrefix (bs t) [47] = true from hx] at hpre
          unfold parseU
          rw [hab, if_neg (by simp), if_pos (by simpa using hpre.symm)])
        clear hx hpre hab
        go_wp2_with (go_at_call 35; refine (Tryz.strings_HasPrefix t ⟨#[47]⟩ _).mono ?_; rintro e w2 ⟨rfl, hw2⟩; rw [show Lib.hasPrefix t.data.toList (⟨#[47]⟩ : ByteArray).data.toList = true from HX.out, hw2]; clear hw2)
        go_meet
        exact ⟨R1, b1, h, t, rfl, rfl, hh, ht, HF⟩
      | false =>
        have HX := Lib.hid hx
        have HF : Hid (parseU (bs t) (bs h) = (uri0, 9)) := Lib.hid (by
          rw [show Lib.hasPrefix (bs t) [47] = false from hx] at hpre
          unfold parseU
          rw [hab, if_neg (by simp), if_neg (by simpa using hpre.symm)])
        clear hx hpre hab
        go_wp2_with (first | (go_at_call 35; refine (Tryz.strings_HasPrefix t ⟨#[47]⟩ _).mono ?_; rintro e w2 ⟨rfl, hw2⟩; rw [show Lib.hasPrefix t.data.toList (⟨#[47]⟩ : ByteArray).data.toList = false from HX.out, hw2]; clear hw2) | (refine wpList_store_row rfl _ 23 (.tmp 4) (.tmp 37) rfl w.heap.size 23 uri0C uri0C R1 rfl rfl rfl uri_size (one_uri _ _ _ _ _) ?_; intro w3 R3 f1 f2 f3))
        refine bodyPost_ret (results_row2 rfl _ _ w.heap.size 23 uri0C R3 rfl _ Tryz.underlying23 uri_size) rfl ?_
        exact ⟨by rw [HF.out]; rfl, b1.trans (f1 _ (Nat.le_refl _))⟩
  case rest =>
    obtain ⟨R1, b1, ha, rb, rfl, rfl, za, zb, HF⟩ := hcut
    have HM1 := Lib.hid (HM.out.below b1)
    have zl := cutB_len 63 (bs rb)
    obtain ⟨p1, hp1⟩ : ∃ p1 : ByteArray, p1 = ⟨(cutB 63 (bs rb)).1.toArray⟩ := ⟨_, rfl⟩
    obtain ⟨q1, hq1⟩ : ∃ q1 : ByteArray, q1 = ⟨(cutB 63 (bs rb)).2.1.toArray⟩ := ⟨_, rfl⟩
    obtain ⟨hs, hhs⟩ : ∃ b, b = (cutB 63 (bs rb)).2.2 := ⟨_, rfl⟩
    have eP : cutB 63 (bs rb) = (bs p1, bs q1, hs) := by rw [hp1, hq1, hhs]
    have HC := Lib.hid (cut_any rb 63 _ (by omega) HM1.out)
    rw [eP] at HC zl
    simp only [bs_length] at zl
    have HC2 : Hid (Calls Tryz.prog 56 #[.string rb, .string ⟨#[63]⟩] _ fun e w' => e = .returned (.tuple #[.string p1, .string q1, .bool hs]) ∧ Below _ _ w') := Lib.hid HC.out
    have EP := Lib.hid eP
    clear hp1 hq1 hhs HC eP
    have zp : p1.size ≤ 100000 := by omega
    have zq : q1.size ≤ 100000 := by omega
    go_wp2_with fail
    refine HC2.out.mono ?_
    rintro e w2 ⟨rfl, hb2⟩
    have R2 := R1.below hb2
    have b2 := b1.trans (hb2.mono b1.size)
    clear HC2 hb2 R1 b1 HM1
    go_wp2_with fail
    refine (normalize_any p1 _ zp).mono ?_
    rintro e w3 ⟨rfl, hb3⟩
    have R3 := R2.below hb3
    have b3 := b2.trans (hb3.mono b2.size)
    clear hb3 R2 b2
    cases hnp : normL (bs p1) with
    | none =>
      have HF2 : Hid (parseU (bs t) (bs h) = (uri0, 9)) := Lib.hid (by rw [HF.out]; unfold parse2; rw [EP.out, hnp])
      have HV : Hid (normV none = .tuple #[.string ⟨#[]⟩, .bool false]) := Lib.hid rfl
      clear hnp HF EP
      rw [HV.out]
      go_wp2_with fail
      refine (normalize_any q1 _ zq).mono ?_
      rintro e w4 ⟨rfl, hb4⟩
      have R4 := R3.below hb4
      have b4 := b3.trans (hb4.mono b3.size)
      clear hb4 R3 b3
      obtain ⟨y, c, hy⟩ : ∃ y c, normV (normL (bs q1)) = .tuple #[.string y, .bool c] := by
        cases normL (bs q1) with
        | none => exact ⟨_, _, rfl⟩
        | some l => exact ⟨_, _, rfl⟩
      rw [hy]
      clear hy
      go_wp2_with (refine wpList_store_row rfl _ 23 (.tmp 4) (.tmp 60) rfl w.heap.size 23 uri0C uri0C R4 rfl rfl rfl uri_size (one_uri _ _ _ _ _) ?_; intro w5 R5 f1 f2 f3)
      refine bodyPost_ret (results_row2 rfl _ _ w.heap.size 23 uri0C R5 rfl _ Tryz.underlying23 uri_size) rfl ?_
      exact ⟨by rw [HF2.out]; rfl, b4.trans (f1 _ (Nat.le_refl _))⟩
    | some pl =>
      have zpl := norm_len _ _ _ (Nat.le_refl _) hnp
      rw [bs_length] at zpl
      have HNP := Lib.hid hnp
      obtain ⟨P, hP⟩ : ∃ P : ByteArray, P = ⟨pl.toArray⟩ := ⟨_, rfl⟩
      have hPb : pl = bs P := by rw [hP]
      have HV : Hid (normV (some pl) = .tuple #[.string P, .bool true]) := Lib.hid (by rw [hP]; rfl)
      clear hnp
      rw [HV.out]
      clear HV hP
      go_wp2_with fail
      refine (normalize_any q1 _ zq).mono ?_
      rintro e w4 ⟨rfl, hb4⟩
      have R4 := R3.below hb4
      have b4 := b3.trans (hb4.mono b3.size)
      clear hb4 R3 b3
      cases hnq : normL (bs q1) with
      | none =>
        have HF2 : Hid (parseU (bs t) (bs h) = (uri0, 9)) := Lib.hid (by rw [HF.out]; unfold parse2; rw [EP.out, HNP.out, hnq])
        have HV : Hid (normV none = .tuple #[.string ⟨#[]⟩, .bool false]) := Lib.hid rfl
        clear hnq HF EP HNP hPb
        rw [HV.out]
        go_wp2_with (refine wpList_store_row rfl _ 23 (.tmp 4) (.tmp 60) rfl w.heap.size 23 uri0C uri0C R4 rfl rfl rfl uri_size (one_uri _ _ _ _ _) ?_; intro w5 R5 f1 f2 f3)
        refine bodyPost_ret (results_row2 rfl _ _ w.heap.size 23 uri0C R5 rfl _ Tryz.underlying23 uri_size) rfl ?_
        exact ⟨by rw [HF2.out]; rfl, b4.trans (f1 _ (Nat.le_refl _))⟩
      | some ql =>
        have HNQ := Lib.hid hnq
        obtain ⟨Q, hQ⟩ : ∃ Q : ByteArray, Q = ⟨ql.toArray⟩ := ⟨_, rfl⟩
        have hQb : Hid (ql = bs Q) := Lib.hid (by rw [hQ])
        have HV : Hid (normV (some ql) = .tuple #[.string Q, .bool true]) := Lib.hid (by rw [hQ]; rfl)
        have HM4 := Lib.hid (HM.out.below b4)
        clear hnq
        rw [HV.out]
        clear HV hQ
        obtain ⟨X, hX, way⟩ : ∃ X : ByteArray, Hid (bs X = rootL pl) ∧ ((P.toList.isEmpty = true ∧ X = ⟨#[47]⟩) ∨ (P.toList.isEmpty = false ∧ X = P)) := by
          by_cases hz : P.size = 0
          · obtain ⟨e1, e2⟩ := empty_yes hz
            exact ⟨⟨#[47]⟩, Lib.hid (by rw [hPb, e2]; rfl), .inl ⟨e1, rfl⟩⟩
          · refine ⟨P, Lib.hid (by rw [hPb]; unfold rootL; rw [if_neg (empty_ne hz)]), .inr ⟨empty_no hz, rfl⟩⟩
        have zX : X.size ≤ 100000 := by
          rw [← bs_length, hX.out]
          unfold rootL
          split
          · simp
          · omega
        have HPB := Lib.hid hPb
        clear hPb zpl
        cases hna : authL (bs ha) with
        | none =>
          have HF2 : Hid (parseU (bs t) (bs h) = (uri0, 6)) := Lib.hid (by rw [HF.out]; unfold parse2; rw [EP.out, HNP.out, HNQ.out, hna])
          have HV : Hid (authV none = .tuple #[.string ⟨#[]⟩, .int .i64 0, .bool false]) := Lib.hid rfl
          have HA := Lib.hid hna
          clear hna HF EP HNP HNQ hX zX HPB
          rcases way with ⟨e1, rfl⟩ | ⟨e1, rfl⟩
          all_goals
            go_wp2_with (first | (go_at_call 58; refine (authority_any ha _ za HM4.out).mono ?_; rintro e w5 ⟨rfl, hb5⟩; rw [HA.out, HV.out]; have R5 := R4.below hb5; have b5 := b4.trans (hb5.mono b4.size)) | (refine wpList_store_row rfl _ 23 (.tmp 4) (.tmp 71) rfl w.heap.size 23 uri0C uri0C R5 rfl rfl rfl uri_size (one_uri _ _ _ _ _) ?_; intro w6 R6 f1 f2 f3))
            refine bodyPost_ret (results_row2 rfl _ _ w.heap.size 23 uri0C R6 rfl _ Tryz.underlying23 uri_size) rfl ?_
            exact ⟨by rw [HF2.out]; rfl, b5.trans (f1 _ (Nat.le_refl _))⟩
        | some nk =>
          obtain ⟨nl, k⟩ := nk
          obtain ⟨N, hN⟩ : ∃ N : ByteArray, N = ⟨nl.toArray⟩ := ⟨_, rfl⟩
          have HA := Lib.hid hna
          have HV : Hid (authV (some (nl, k)) = .tuple #[.string N, .int .i64 k, .bool true]) := Lib.hid (by rw [hN]; rfl)
          have HF2 : Hid (parseU (bs t) (bs h) = (⟨nl, k, segsL (bs X), ql, hs⟩, 0)) := Lib.hid (by rw [HF.out, hX.out]; exact (parse2_mk (by rw [EP.out]; exact HNP.out) (by rw [EP.out]; exact HNQ.out) hna).trans (by rw [EP.out]))
          have HN : Hid (nl = bs N) := Lib.hid (by rw [hN])
          obtain ⟨Y, hY⟩ : ∃ Y : ByteArray, Y = ⟨(segsL (bs X)).toArray⟩ := ⟨_, rfl⟩
          have HY : Hid (segsL (bs X) = bs Y) := Lib.hid (by rw [hY])
          have HSG : Hid (∀ wx, MaxOf wx → Calls Tryz.prog 59 #[.string X] wx fun e w' => e = .returned (.string Y) ∧ Below wx.heap.size wx w') := Lib.hid (by
            intro wx hm
            rw [hY]; exact segments_any X wx zX hm)
          clear hna HF EP HNP HNQ hX zX HPB hN hY
          rcases way with ⟨e1, rfl⟩ | ⟨e1, rfl⟩
          all_goals
            go_wp2_with (first | (go_at_call 58; refine (authority_any ha _ za HM4.out).mono ?_; rintro e w5 ⟨rfl, hb5⟩; rw [HA.out, HV.out]; have R5 := R4.below hb5; have b5 := b4.trans (hb5.mono b4.size); have HM5 := Lib.hid (HM.out.below b5)) | (go_at_call 59; refine (HSG.out _ HM5.out).mono ?_; rintro e w6 ⟨rfl, hb6⟩; have R6 := R5.below hb6; have b6 := b5.trans (hb6.mono b5.size)) | (refine wpList_store_row rfl _ 23 (.tmp 4) (.tmp 78) rfl w.heap.size 23 uri0C (uriC N k Y Q hs) R6 rfl rfl rfl uri_size (one_uri _ _ _ _ _) ?_; intro w7 R7 f1 f2 f3))
            refine bodyPost_ret (results_row2 rfl _ _ w.heap.size 23 (uriC N k Y Q hs) R7 rfl _ Tryz.underlying23 uri_size) rfl ?_
            exact ⟨by rw [HF2.out, HN.out, HY.out, hQb.out]; rfl, b6.trans (f1 _ (Nat.le_refl _))⟩
end Go.Proofs.YtglckhljpjcmaaaGreatDoor
