/- The walks of Resolve (4.5), the program's and the reference's. -/
import Derived.Test.YtglckhljpjcmaaaGreatDoorQTargV5
namespace Go.Proofs.YtglckhljpjcmaaaGreatDoor
open Go.RowKit

def resolveV (r : Uri × Bool) : Value := .tuple #[uriV r.1, .bool r.2]
theorem pre_slash2 (l : List UInt8) : Lib.hasPrefix l [47, 47] = (l.head? == some 47 && (l.drop 1).head? == some 47) := by
  rcases l with _ | ⟨a, _ | ⟨c, t⟩⟩
  · rfl
  · show (47 == a && ([47] : List UInt8).isPrefixOf []) = _
    simp [List.isPrefixOf]
  · show (47 == a && (47 == c && ([] : List UInt8).isPrefixOf t)) = (a == 47 && c == 47)
    rw [show (([] : List UInt8).isPrefixOf t) = true from rfl, Bool.and_true, show (47 == a) = (a == 47) from Bool.beq_comm, show (47 == c) = (c == 47) from Bool.beq_comm]
theorem res_yes {u : Uri} {s : List UInt8} (h : absB s = true ∨ absB s = false ∧ Lib.hasPrefix s [47] = true ∧ Lib.hasPrefix s [47, 47] = false) : resolveU u s = ((parseU s (siteL u.host u.port)).1, (parseU s (siteL u.host u.port)).2 == 0) := by
  unfold resolveU
  rw [if_pos]
  rcases h with h | ⟨h, h1, h2⟩
  · rw [h]; rfl
  · rw [h]
    rw [pre_slash] at h1
    rw [pre_slash2, h1] at h2
    rw [h1]
    simpa using h2
theorem res_no {u : Uri} {s : List UInt8} (h : absB s = false ∧ (Lib.hasPrefix s [47] = false ∨ Lib.hasPrefix s [47] = true ∧ Lib.hasPrefix s [47, 47] = true)) : resolveU u s = (uri0, false) := by
  unfold resolveU
  rw [if_neg]
  rcases h with ⟨h, h1 | ⟨h1, h2⟩⟩
  · rw [pre_slash] at h1
    rw [h, h1]; simp
  · rw [pre_slash] at h1
    rw [pre_slash2, h1] at h2
    rw [h, h1]
    simpa using h2
theorem res_all (s : List UInt8) : (absB s = true ∨ absB s = false ∧ Lib.hasPrefix s [47] = true ∧ Lib.hasPrefix s [47, 47] = false) ∨ (absB s = false ∧ (Lib.hasPrefix s [47] = false ∨ Lib.hasPrefix s [47] = true ∧ Lib.hasPrefix s [47, 47] = true)) := by
  cases absB s <;> cases Lib.hasPrefix s [47] <;> cases Lib.hasPrefix s [47, 47] <;> simp
theorem uri_two (w : World) (X Y : List Value) (T : TypeId) : RowAt ((w.alloc (.cells X.toArray T)).alloc (.cells Y.toArray T)) w.heap.size T X ∧ RowAt ((w.alloc (.cells X.toArray T)).alloc (.cells Y.toArray T)) (w.heap.size + 1) T Y ∧ Below w.heap.size w ((w.alloc (.cells X.toArray T)).alloc (.cells Y.toArray T)) := by
  have h2 := RowAt.new (w.alloc (.cells X.toArray T)) Y T
  have hs : (w.alloc (.cells X.toArray T)).heap.size = w.heap.size + 1 := Array.size_push _
  rw [hs] at h2
  exact ⟨(RowAt.new w X T).alloc _, h2, (below_alloc w _).alloc (by omega) _⟩
theorem uri_of (r : Uri × Int) : ∃ (N : ByteArray) (k : Int) (P Q : ByteArray) (b : Bool) (e : Int), r = (mkU N k P Q b, e) := ⟨⟨r.1.host.toArray⟩, r.1.port, ⟨r.1.path.toArray⟩, ⟨r.1.query.toArray⟩, r.1.has, r.2, rfl⟩
set_option maxHeartbeats 6400000 in
theorem resolve_any (h : ByteArray) (n : Int) (p q : ByteArray) (b : Bool) (s : ByteArray) (w : World) (hh : h.size ≤ 50000) (hs : s.size ≤ 100000) (h0 : -9223372036854775808 ≤ n) (h1 : n ≤ 9223372036854775807) (hT : PowTab w) (hM : MaxOf w) :
    Calls Tryz.prog 18 #[.agg #[.string h, .int .i64 n, .string p, .string q, .bool b], .string s] w fun e w' => e = .returned (resolveV (resolveU (mkU h n p q b) (bs s))) ∧ Below w.heap.size w w' := by
  have RR := uri_two w (uriC h n p q b) uri0C 23
  have RH := Lib.hid RR
  have hbig : h.size ≤ 100000 := by omega
  clear RR
  have HM := Lib.hid hM
  have HT := Lib.hid hT
  clear hM hT
  rcases res_all (bs s) with hy | hn
  · have HF := Lib.hid (res_yes (u := mkU h n p q b) hy)
    have sl := site_len (h := bs h) h0 h1
    rw [bs_length] at sl
    obtain ⟨d, hd⟩ : ∃ d : ByteArray, d = ⟨(siteL (bs h) n).toArray⟩ := ⟨_, rfl⟩
    have hdb : bs d = siteL (bs h) n := by rw [hd]
    have hdz : d.size ≤ 100000 := by rw [← bs_length, hdb]; omega
    have HD := Lib.hid hd
    obtain ⟨N, k, P, Q, b', e, hv⟩ := uri_of (parseU (bs s) (bs d))
    have HV : Hid (parseV (parseU (bs s) (bs d)) = .tuple #[.agg #[.string N, .int .i64 k, .string P, .string Q, .bool b'], .int .i64 e]) := Lib.hid (by rw [hv]; rfl)
    have HF2 : Hid (resolveV (resolveU (mkU h n p q b) (bs s)) = .tuple #[.agg #[.string N, .int .i64 k, .string P, .string Q, .bool b'], .bool (e == 0)]) := Lib.hid (by
      rw [HF.out]
      show resolveV ((parseU (bs s) (siteL (bs h) n)).1, (parseU (bs s) (siteL (bs h) n)).2 == 0) = _
      rw [← hdb, hv]; rfl)
    clear hd hdb hv sl HF
    rcases hy with hy | ⟨hy, hy1, hy2⟩
    · have HA := Lib.hid hy
      clear hy
      go_enter Tryz.func18, Tryz.ntmps18
      go_wp2_with (first | (go_at_call 34; refine (absolute_any s _ hs).mono ?_; rintro e1 w2 ⟨rfl, hb2⟩; rw [HA.out]; have U2 := RH.out.1.below hb2; have R2 := RH.out.2.1.below hb2; have b2 := below_step RH.out.2.2 hb2) | (go_at_call 35; refine (Tryz.strings_HasPrefix s _ _).mono ?_; rintro e5 w5 ⟨rfl, hw5⟩; (first | rw [HX1.out, hw5] | rw [HX2.out, hw5]); clear hw5) | (refine wpList_load_rowAt rfl _ 23 (.tmp 2) rfl w.heap.size 23 (uriC h n p q b) U2 rfl _ Tryz.underlying23 uri_size ?_))
      refine (site_any h n p q b _ hbig h0 h1 (HT.out.below b2)).mono ?_
      rintro e3 w3 ⟨rfl, hb3⟩
      rw [← HD.out]
      have R3 := R2.below hb3
      have b3 := below_step b2 hb3
      clear hb3 R2 b2 U2
      have HM3 := Lib.hid (HM.out.below b3)
      go_wp2_with fail
      refine (uparse_any s d _ hs hdz HM3.out).mono ?_
      rintro e4 w4 ⟨rfl, hb4⟩
      rw [HV.out]
      have R4 := (R3.below hb4).alloc (.cells (uriC N k P Q b').toArray 23)
      have b4 := below_step (below_step b3 hb4) (below_alloc w4 (.cells (uriC N k P Q b').toArray 23))
      clear hb4 R3 b3
      go_wp2_with (refine wpList_store_row rfl _ 23 (.tmp 4) (.tmp 28) rfl (w.heap.size + 1) 23 uri0C (uriC N k P Q b') R4 rfl rfl rfl uri_size (one_uri _ _ _ _ _) ?_; intro w5 R5 f1 f2 f3)
      refine bodyPost_ret (results_row2 rfl _ _ (w.heap.size + 1) 23 (uriC N k P Q b') R5 rfl _ Tryz.underlying23 uri_size) rfl ?_
      exact ⟨by rw [HF2.out]; rfl, b4.trans (f1 _ (Nat.le_succ _))⟩
    · have HA := Lib.hid hy
      have HX1 : Hid (Lib.hasPrefix s.data.toList (⟨#[47]⟩ : ByteArray).data.toList = true) := Lib.hid hy1
      have HX2 : Hid (Lib.hasPrefix s.data.toList (⟨#[47, 47]⟩ : ByteArray).data.toList = false) := Lib.hid hy2
      clear hy hy1 hy2
      go_enter Tryz.func18, Tryz.ntmps18
      go_wp2_with (first | (go_at_call 34; refine (absolute_any s _ hs).mono ?_; rintro e1 w2 ⟨rfl, hb2⟩; rw [HA.out]; have U2 := RH.out.1.below hb2; have R2 := RH.out.2.1.below hb2; have b2 := below_step RH.out.2.2 hb2) | (go_at_call 35; refine (Tryz.strings_HasPrefix s _ _).mono ?_; rintro e5 w5 ⟨rfl, hw5⟩; (first | rw [HX1.out, hw5] | rw [HX2.out, hw5]); clear hw5) | (refine wpList_load_rowAt rfl _ 23 (.tmp 2) rfl w.heap.size 23 (uriC h n p q b) U2 rfl _ Tryz.underlying23 uri_size ?_))
      refine (site_any h n p q b _ hbig h0 h1 (HT.out.below b2)).mono ?_
      rintro e3 w3 ⟨rfl, hb3⟩
      rw [← HD.out]
      have R3 := R2.below hb3
      have b3 := below_step b2 hb3
      clear hb3 R2 b2 U2
      have HM3 := Lib.hid (HM.out.below b3)
      go_wp2_with fail
      refine (uparse_any s d _ hs hdz HM3.out).mono ?_
      rintro e4 w4 ⟨rfl, hb4⟩
      rw [HV.out]
      have R4 := (R3.below hb4).alloc (.cells (uriC N k P Q b').toArray 23)
      have b4 := below_step (below_step b3 hb4) (below_alloc w4 (.cells (uriC N k P Q b').toArray 23))
      clear hb4 R3 b3
      go_wp2_with (refine wpList_store_row rfl _ 23 (.tmp 4) (.tmp 28) rfl (w.heap.size + 1) 23 uri0C (uriC N k P Q b') R4 rfl rfl rfl uri_size (one_uri _ _ _ _ _) ?_; intro w5 R5 f1 f2 f3)
      refine bodyPost_ret (results_row2 rfl _ _ (w.heap.size + 1) 23 (uriC N k P Q b') R5 rfl _ Tryz.underlying23 uri_size) rfl ?_
      exact ⟨by rw [HF2.out]; rfl, b4.trans (f1 _ (Nat.le_succ _))⟩
  · have HF2 : Hid (resolveV (resolveU (mkU h n p q b) (bs s)) = .tuple #[.agg #[.string ⟨#[]⟩, .int .i64 0, .string ⟨#[]⟩, .string ⟨#[]⟩, .bool false], .bool false]) := Lib.hid (by rw [res_no hn]; rfl)
    rcases hn with ⟨hn, hn1 | ⟨hn1, hn2⟩⟩
    · have HA := Lib.hid hn
      have HX1 : Hid (Lib.hasPrefix s.data.toList (⟨#[47]⟩ : ByteArray).data.toList = false) := Lib.hid hn1
      clear hn hn1
      go_enter Tryz.func18, Tryz.ntmps18
      go_wp2_with (first | (go_at_call 34; refine (absolute_any s _ hs).mono ?_; rintro e1 w2 ⟨rfl, hb2⟩; rw [HA.out]; have U2 := RH.out.1.below hb2; have R2 := RH.out.2.1.below hb2; have b2 := below_step RH.out.2.2 hb2) | (go_at_call 35; refine (Tryz.strings_HasPrefix s _ _).mono ?_; rintro e5 w5 ⟨rfl, hw5⟩; (first | rw [HX1.out, hw5] | rw [HX2.out, hw5]); clear hw5) | (refine wpList_store_row rfl _ 23 (.tmp 4) (.tmp 20) rfl (w.heap.size + 1) 23 uri0C uri0C R2 rfl rfl rfl uri_size (one_uri _ _ _ _ _) ?_; intro w5 R5 f1 f2 f3))
      refine bodyPost_ret (results_row2 rfl _ _ (w.heap.size + 1) 23 uri0C R5 rfl _ Tryz.underlying23 uri_size) rfl ?_
      exact ⟨by rw [HF2.out]; rfl, b2.trans (f1 _ (Nat.le_succ _))⟩
    · have HA := Lib.hid hn
      have HX1 : Hid (Lib.hasPrefix s.data.toList (⟨#[47]⟩ : ByteArray).data.toList = true) := Lib.hid hn1
      have HX2 : Hid (Lib.hasPrefix s.data.toList (⟨#[47, 47]⟩ : ByteArray).data.toList = true) := Lib.hid hn2
      clear hn hn1 hn2
      go_enter Tryz.func18, Tryz.ntmps18
      go_wp2_with (first | (go_at_call 34; refine (absolute_any s _ hs).mono ?_; rintro e1 w2 ⟨rfl, hb2⟩; rw [HA.out]; have U2 := RH.out.1.below hb2; have R2 := RH.out.2.1.below hb2; have b2 := below_step RH.out.2.2 hb2) | (go_at_call 35; refine (Tryz.strings_HasPrefix s _ _).mono ?_; rintro e5 w5 ⟨rfl, hw5⟩; (first | rw [HX1.out, hw5] | rw [HX2.out, hw5]); clear hw5) | (refine wpList_store_row rfl _ 23 (.tmp 4) (.tmp 20) rfl (w.heap.size + 1) 23 uri0C uri0C R2 rfl rfl rfl uri_size (one_uri _ _ _ _ _) ?_; intro w5 R5 f1 f2 f3))
      refine bodyPost_ret (results_row2 rfl _ _ (w.heap.size + 1) 23 uri0C R5 rfl _ Tryz.underlying23 uri_size) rfl ?_
      exact ⟨by rw [HF2.out]; rfl, b2.trans (f1 _ (Nat.le_succ _))⟩
theorem head_at (s : ByteArray) (hz : 0 < s.size) : (bs s).head? = some s[0] := by
  rw [List.head?_eq_getElem?, List.getElem?_eq_getElem (by rw [bs_length]; exact hz)]; rfl
theorem two_at (s : ByteArray) (hz : 1 < s.size) : ((bs s).drop 1).head? = some s[1] := by
  rw [List.head?_eq_getElem?, List.getElem?_drop, List.getElem?_eq_getElem (by rw [bs_length]; exact hz)]; rfl
theorem pre_ways (s : ByteArray) : (s.size = 0 ∧ Lib.hasPrefix (bs s) [47] = false) ∨ (∃ hz : 0 < s.size, s[0] ≠ 47 ∧ Lib.hasPrefix (bs s) [47] = false) ∨ (∃ hz : 0 < s.size, s[0] = 47 ∧ ¬ 1 < s.size ∧ Lib.hasPrefix (bs s) [47] = true ∧ Lib.hasPrefix (bs s) [47, 47] = false) ∨
    (∃ (hz : 0 < s.size) (h1 : 1 < s.size), s[0] = 47 ∧ s[1] ≠ 47 ∧ Lib.hasPrefix (bs s) [47] = true ∧ Lib.hasPrefix (bs s) [47, 47] = false) ∨ (∃ (hz : 0 < s.size) (h1 : 1 < s.size), s[0] = 47 ∧ s[1] = 47 ∧ Lib.hasPrefix (bs s) [47] = true ∧ Lib.hasPrefix (bs s) [47, 47] = true) := by
  rw [pre_slash, pre_slash2]
  by_cases hz : 0 < s.size
  · right
    rw [head_at s hz]
    by_cases h0 : s[0] = 47
    · right
      by_cases h1 : 1 < s.size
      · right
        rw [two_at s h1]
        by_cases h2 : s[1] = 47
        · right; exact ⟨hz, h1, h0, h2, by rw [h0]; rfl, by rw [h0, h2]; rfl⟩
        · left; exact ⟨hz, h1, h0, h2, by rw [h0]; rfl, by simp [h2]⟩
      · left
        have : ((bs s).drop 1).head? = none := by rw [List.drop_of_length_le (by rw [bs_length]; omega)]; rfl
        rw [this]
        exact ⟨hz, h0, h1, by rw [h0]; rfl, by simp⟩
    · left; exact ⟨hz, h0, by simp [h0]⟩
  · left
    obtain ⟨_, e2⟩ := empty_yes (s := s) (by omega)
    rw [e2]
    exact ⟨by omega, rfl⟩
set_option maxHeartbeats 6400000 in
theorem rresolve_any (h : ByteArray) (n : Int) (p q : ByteArray) (b : Bool) (s : ByteArray) (w : World) (hh : h.size ≤ 50000) (hs : s.size ≤ 100000) (h0 : -9223372036854775808 ≤ n) (h1 : n ≤ 9223372036854775807) :
    Calls Tryz.prog 21 #[.agg #[.string h, .int .i64 n, .string p, .string q, .bool b], .string s] w fun e w' => e = .returned (resolveV (resolveU (mkU h n p q b) (bs s))) ∧ Below w.heap.size w w' := by
  have RR := uri_two w (uriC h n p q b) uri0C 23
  have RH := Lib.hid RR
  have hbig : h.size ≤ 100000 := by omega
  clear RR

  have no (hn : absB (bs s) = false ∧ (Lib.hasPrefix (bs s) [47] = false ∨ Lib.hasPrefix (bs s) [47] = true ∧ Lib.hasPrefix (bs s) [47, 47] = true)) : resolveV (resolveU (mkU h n p q b) (bs s)) = .tuple #[.agg #[.string ⟨#[]⟩, .int .i64 0, .string ⟨#[]⟩, .string ⟨#[]⟩, .bool false], .bool false] := by rw [res_no hn]; rfl
  have HNO := Lib.hid no
  clear no
  by_cases hab : absB (bs s) = true
  · have hy : absB (bs s) = true ∨ absB (bs s) = false ∧ Lib.hasPrefix (bs s) [47] = true ∧ Lib.hasPrefix (bs s) [47, 47] = false := .inl hab
    have HF := Lib.hid (res_yes (u := mkU h n p q b) hy)
    have sl := site_len (h := bs h) h0 h1
    rw [bs_length] at sl
    obtain ⟨d, hd⟩ : ∃ d : ByteArray, d = ⟨(siteL (bs h) n).toArray⟩ := ⟨_, rfl⟩
    have hdb : bs d = siteL (bs h) n := by rw [hd]
    have hdz : d.size ≤ 100000 := by rw [← bs_length, hdb]; omega
    have HD := Lib.hid hd
    obtain ⟨N, k, P, Q, b', e, hv⟩ := uri_of (parseU (bs s) (bs d))
    have HV : Hid (parseV (parseU (bs s) (bs d)) = .tuple #[.agg #[.string N, .int .i64 k, .string P, .string Q, .bool b'], .int .i64 e]) := Lib.hid (by rw [hv]; rfl)
    have HF2 : Hid (resolveV (resolveU (mkU h n p q b) (bs s)) = .tuple #[.agg #[.string N, .int .i64 k, .string P, .string Q, .bool b'], .bool (e == 0)]) := Lib.hid (by
      rw [HF.out]
      show resolveV ((parseU (bs s) (siteL (bs h) n)).1, (parseU (bs s) (siteL (bs h) n)).2 == 0) = _
      rw [← hdb, hv]; rfl)
    clear hd hdb hv sl HF
    · have HA := Lib.hid hab
      clear hab hy HNO
      go_enter Tryz.func21, Tryz.ntmps21
      go_wp2_with (first | (go_at_call 25; refine (rscheme_any s _ hs).mono ?_; rintro e1 w2 ⟨rfl, hb2⟩; rw [HA.out]; have U2 := RH.out.1.below hb2; have R2 := RH.out.2.1.below hb2; have b2 := below_step RH.out.2.2 hb2) | (refine wpList_load_rowAt rfl _ 23 (.tmp 2) rfl w.heap.size 23 (uriC h n p q b) U2 rfl _ Tryz.underlying23 uri_size ?_))
      refine (rsite_any h n p q b _ hbig h0 h1).mono ?_
      rintro e3 w3 ⟨rfl, hb3⟩
      rw [← HD.out]
      have R3 := R2.below hb3
      have b3 := below_step b2 hb3
      clear hb3 R2 b2 U2
      skip
      go_wp2_with fail
      refine (ruparse_any s d _ hs hdz).mono ?_
      rintro e4 w4 ⟨rfl, hb4⟩
      rw [HV.out]
      have R4 := (R3.below hb4).alloc (.cells (uriC N k P Q b').toArray 23)
      have b4 := below_step (below_step b3 hb4) (below_alloc w4 (.cells (uriC N k P Q b').toArray 23))
      clear hb4 R3 b3
      go_wp2_with (refine wpList_store_row rfl _ 23 (.tmp 4) (.tmp 38) rfl (w.heap.size + 1) 23 uri0C (uriC N k P Q b') R4 rfl rfl rfl uri_size (one_uri _ _ _ _ _) ?_; intro w5 R5 f1 f2 f3)
      refine bodyPost_ret (results_row2 rfl _ _ (w.heap.size + 1) 23 (uriC N k P Q b') R5 rfl _ Tryz.underlying23 uri_size) rfl ?_
      exact ⟨by rw [HF2.out]; rfl, b4.trans (f1 _ (Nat.le_succ _))⟩
  have hab' : absB (bs s) = false := by simpa using hab
  rcases pre_ways s with ⟨hz, x1⟩ | ⟨hz, z0, x1⟩ | ⟨hz, z0, hl, x1, x2⟩ | ⟨hz, hl, z0, z1, x1, x2⟩ | ⟨hz, hl, z0, z1, x1, x2⟩
  · have HF2 := Lib.hid (HNO.out ⟨hab', .inl x1⟩)
    · have HA := Lib.hid hab'
      have e1 := (empty_yes hz).1
      clear hab hab' x1 HNO hz
      go_enter Tryz.func21, Tryz.ntmps21
      go_wp2_with (first | (go_at_call 25; refine (rscheme_any s _ hs).mono ?_; rintro e1 w2 ⟨rfl, hb2⟩; rw [HA.out]; have U2 := RH.out.1.below hb2; have R2 := RH.out.2.1.below hb2; have b2 := below_step RH.out.2.2 hb2) | (refine wpList_store_row rfl _ 23 (.tmp 4) (.tmp 30) rfl (w.heap.size + 1) 23 uri0C uri0C R2 rfl rfl rfl uri_size (one_uri _ _ _ _ _) ?_; intro w5 R5 f1 f2 f3))
      refine bodyPost_ret (results_row2 rfl _ _ (w.heap.size + 1) 23 uri0C R5 rfl _ Tryz.underlying23 uri_size) rfl ?_
      exact ⟨by rw [HF2.out]; rfl, b2.trans (f1 _ (Nat.le_succ _))⟩
  · have HF2 := Lib.hid (HNO.out ⟨hab', .inl x1⟩)
    · have HA := Lib.hid hab'
      have e1 := empty_no (s := s) (by omega)
      have q0 : ((s[0].toNat : Int) != 47) = true := u8_bt (n := 47) (by decide) z0
      clear hab hab' x1 HNO z0
      go_enter Tryz.func21, Tryz.ntmps21
      go_wp2_with (first | (go_at_call 25; refine (rscheme_any s _ hs).mono ?_; rintro e1 w2 ⟨rfl, hb2⟩; rw [HA.out]; have U2 := RH.out.1.below hb2; have R2 := RH.out.2.1.below hb2; have b2 := below_step RH.out.2.2 hb2) | (refine wpList_store_row rfl _ 23 (.tmp 4) (.tmp 30) rfl (w.heap.size + 1) 23 uri0C uri0C R2 rfl rfl rfl uri_size (one_uri _ _ _ _ _) ?_; intro w5 R5 f1 f2 f3))
      refine bodyPost_ret (results_row2 rfl _ _ (w.heap.size + 1) 23 uri0C R5 rfl _ Tryz.underlying23 uri_size) rfl ?_
      exact ⟨by rw [HF2.out]; rfl, b2.trans (f1 _ (Nat.le_succ _))⟩
  · have hy : absB (bs s) = true ∨ absB (bs s) = false ∧ Lib.hasPrefix (bs s) [47] = true ∧ Lib.hasPrefix (bs s) [47, 47] = false := .inr ⟨hab', x1, x2⟩
    have HF := Lib.hid (res_yes (u := mkU h n p q b) hy)
    have sl := site_len (h := bs h) h0 h1
    rw [bs_length] at sl
    obtain ⟨d, hd⟩ : ∃ d : ByteArray, d = ⟨(siteL (bs h) n).toArray⟩ := ⟨_, rfl⟩
    have hdb : bs d = siteL (bs h) n := by rw [hd]
    have hdz : d.size ≤ 100000 := by rw [← bs_length, hdb]; omega
    have HD := Lib.hid hd
    obtain ⟨N, k, P, Q, b', e, hv⟩ := uri_of (parseU (bs s) (bs d))
    have HV : Hid (parseV (parseU (bs s) (bs d)) = .tuple #[.agg #[.string N, .int .i64 k, .string P, .string Q, .bool b'], .int .i64 e]) := Lib.hid (by rw [hv]; rfl)
    have HF2 : Hid (resolveV (resolveU (mkU h n p q b) (bs s)) = .tuple #[.agg #[.string N, .int .i64 k, .string P, .string Q, .bool b'], .bool (e == 0)]) := Lib.hid (by
      rw [HF.out]
      show resolveV ((parseU (bs s) (siteL (bs h) n)).1, (parseU (bs s) (siteL (bs h) n)).2 == 0) = _
      rw [← hdb, hv]; rfl)
    clear hd hdb hv sl HF
    · have HA := Lib.hid hab'
      have e1 := empty_no (s := s) (by omega)
      have q0 : ((s[0].toNat : Int) != 47) = false := u8_bf (n := 47) (by decide) z0
      clear hab hab' x1 x2 HNO z0 hy
      go_enter Tryz.func21, Tryz.ntmps21
      go_wp2_with (first | (go_at_call 25; refine (rscheme_any s _ hs).mono ?_; rintro e1 w2 ⟨rfl, hb2⟩; rw [HA.out]; have U2 := RH.out.1.below hb2; have R2 := RH.out.2.1.below hb2; have b2 := below_step RH.out.2.2 hb2) | (refine wpList_load_rowAt rfl _ 23 (.tmp 2) rfl w.heap.size 23 (uriC h n p q b) U2 rfl _ Tryz.underlying23 uri_size ?_))
      refine (rsite_any h n p q b _ hbig h0 h1).mono ?_
      rintro e3 w3 ⟨rfl, hb3⟩
      rw [← HD.out]
      have R3 := R2.below hb3
      have b3 := below_step b2 hb3
      clear hb3 R2 b2 U2
      skip
      go_wp2_with fail
      refine (ruparse_any s d _ hs hdz).mono ?_
      rintro e4 w4 ⟨rfl, hb4⟩
      rw [HV.out]
      have R4 := (R3.below hb4).alloc (.cells (uriC N k P Q b').toArray 23)
      have b4 := below_step (below_step b3 hb4) (below_alloc w4 (.cells (uriC N k P Q b').toArray 23))
      clear hb4 R3 b3
      go_wp2_with (refine wpList_store_row rfl _ 23 (.tmp 4) (.tmp 38) rfl (w.heap.size + 1) 23 uri0C (uriC N k P Q b') R4 rfl rfl rfl uri_size (one_uri _ _ _ _ _) ?_; intro w5 R5 f1 f2 f3)
      refine bodyPost_ret (results_row2 rfl _ _ (w.heap.size + 1) 23 (uriC N k P Q b') R5 rfl _ Tryz.underlying23 uri_size) rfl ?_
      exact ⟨by rw [HF2.out]; rfl, b4.trans (f1 _ (Nat.le_succ _))⟩
  · have hy : absB (bs s) = true ∨ absB (bs s) = false ∧ Lib.hasPrefix (bs s) [47] = true ∧ Lib.hasPrefix (bs s) [47, 47] = false := .inr ⟨hab', x1, x2⟩
    have HF := Lib.hid (res_yes (u := mkU h n p q b) hy)
    have sl := site_len (h := bs h) h0 h1
    rw [bs_length] at sl
    obtain ⟨d, hd⟩ : ∃ d : ByteArray, d = ⟨(siteL (bs h) n).toArray⟩ := ⟨_, rfl⟩
    have hdb : bs d = siteL (bs h) n := by rw [hd]
    have hdz : d.size ≤ 100000 := by rw [← bs_length, hdb]; omega
    have HD := Lib.hid hd
    obtain ⟨N, k, P, Q, b', e, hv⟩ := uri_of (parseU (bs s) (bs d))
    have HV : Hid (parseV (parseU (bs s) (bs d)) = .tuple #[.agg #[.string N, .int .i64 k, .string P, .string Q, .bool b'], .int .i64 e]) := Lib.hid (by rw [hv]; rfl)
    have HF2 : Hid (resolveV (resolveU (mkU h n p q b) (bs s)) = .tuple #[.agg #[.string N, .int .i64 k, .string P, .string Q, .bool b'], .bool (e == 0)]) := Lib.hid (by
      rw [HF.out]
      show resolveV ((parseU (bs s) (siteL (bs h) n)).1, (parseU (bs s) (siteL (bs h) n)).2 == 0) = _
      rw [← hdb, hv]; rfl)
    clear hd hdb hv sl HF
    · have HA := Lib.hid hab'
      have e1 := empty_no (s := s) (by omega)
      have q0 : ((s[0].toNat : Int) != 47) = false := u8_bf (n := 47) (by decide) z0
      have q1 : ((s[1].toNat : Int) == 47) = false := u8_ne (n := 47) (by decide) z1
      clear hab hab' x1 x2 HNO z0 z1 hy
      go_enter Tryz.func21, Tryz.ntmps21
      go_wp2_with (first | (go_at_call 25; refine (rscheme_any s _ hs).mono ?_; rintro e1 w2 ⟨rfl, hb2⟩; rw [HA.out]; have U2 := RH.out.1.below hb2; have R2 := RH.out.2.1.below hb2; have b2 := below_step RH.out.2.2 hb2) | (refine wpList_load_rowAt rfl _ 23 (.tmp 2) rfl w.heap.size 23 (uriC h n p q b) U2 rfl _ Tryz.underlying23 uri_size ?_))
      refine (rsite_any h n p q b _ hbig h0 h1).mono ?_
      rintro e3 w3 ⟨rfl, hb3⟩
      rw [← HD.out]
      have R3 := R2.below hb3
      have b3 := below_step b2 hb3
      clear hb3 R2 b2 U2
      skip
      go_wp2_with fail
      refine (ruparse_any s d _ hs hdz).mono ?_
      rintro e4 w4 ⟨rfl, hb4⟩
      rw [HV.out]
      have R4 := (R3.below hb4).alloc (.cells (uriC N k P Q b').toArray 23)
      have b4 := below_step (below_step b3 hb4) (below_alloc w4 (.cells (uriC N k P Q b').toArray 23))
      clear hb4 R3 b3
      go_wp2_with (refine wpList_store_row rfl _ 23 (.tmp 4) (.tmp 38) rfl (w.heap.size + 1) 23 uri0C (uriC N k P Q b') R4 rfl rfl rfl uri_size (one_uri _ _ _ _ _) ?_; intro w5 R5 f1 f2 f3)
      refine bodyPost_ret (results_row2 rfl _ _ (w.heap.size + 1) 23 (uriC N k P Q b') R5 rfl _ Tryz.underlying23 uri_size) rfl ?_
      exact ⟨by rw [HF2.out]; rfl, b4.trans (f1 _ (Nat.le_succ _))⟩
  · have HF2 := Lib.hid (HNO.out ⟨hab', .inr ⟨x1, x2⟩⟩)
    · have HA := Lib.hid hab'
      have e1 := empty_no (s := s) (by omega)
      have q0 : ((s[0].toNat : Int) != 47) = false := u8_bf (n := 47) (by decide) z0
      have q1 : ((s[1].toNat : Int) == 47) = true := u8_eq (n := 47) (by decide) z1
      clear hab hab' x1 x2 HNO z0 z1
      go_enter Tryz.func21, Tryz.ntmps21
      go_wp2_with (first | (go_at_call 25; refine (rscheme_any s _ hs).mono ?_; rintro e1 w2 ⟨rfl, hb2⟩; rw [HA.out]; have U2 := RH.out.1.below hb2; have R2 := RH.out.2.1.below hb2; have b2 := below_step RH.out.2.2 hb2) | (refine wpList_store_row rfl _ 23 (.tmp 4) (.tmp 30) rfl (w.heap.size + 1) 23 uri0C uri0C R2 rfl rfl rfl uri_size (one_uri _ _ _ _ _) ?_; intro w5 R5 f1 f2 f3))
      refine bodyPost_ret (results_row2 rfl _ _ (w.heap.size + 1) 23 uri0C R5 rfl _ Tryz.underlying23 uri_size) rfl ?_
      exact ⟨by rw [HF2.out]; rfl, b2.trans (f1 _ (Nat.le_succ _))⟩
end Go.Proofs.YtglckhljpjcmaaaGreatDoor
