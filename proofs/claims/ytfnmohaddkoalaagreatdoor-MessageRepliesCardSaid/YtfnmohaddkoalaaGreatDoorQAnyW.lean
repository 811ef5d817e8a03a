/- The walk of strings.IndexAny at two ASCII bytes, in any string, valid UTF-8 or not. -/
import Derived.Test.YtfnmohaddkoalaaGreatDoorQAnyP
import Derived.Test.YtfnmohaddkoalaaGreatDoorQEnvW
import Derived.Lib.OthersKept
import Derived.Deep.LoopGhost
import Derived.Deep.QuietTactic
import Derived.BigQuiet
namespace Go.Proofs.YtfnmohaddkoalaaGreatDoor
open Go.RowKit

theorem two_ascii {chars : ByteArray} (h : chars.size = 2) (ha : ∀ b ∈ chars.data.toList, b.toNat < 128) : ∃ a b : UInt8, chars = ⟨#[a, b]⟩ ∧ a.toNat < 128 ∧ b.toNat < 128 := by
  have hl : chars.data.toList.length = 2 := by rw [← Lib.size_eq]; exact h
  match hx : chars.data.toList, hl with
  | [a, b], _ =>
    rw [hx] at ha
    exact ⟨a, b, by cases chars with | mk d => exact congrArg ByteArray.mk (Array.toList_inj.1 hx), ha a (by simp), ha b (by simp)⟩
set_option maxHeartbeats 4000000 in
set_option maxRecDepth 100000 in
theorem rune_error (a b : UInt8) (w : World) (ha : a.toNat < 128) (hb : b.toNat < 128) :
    Calls Tryz.prog 93 #[.string ⟨#[a, b]⟩, .int .i32 65533] w fun e w' => e = .returned (.int .i64 (-1)) ∧ Below w.heap.size w w' := by
  obtain ⟨chars, hc⟩ : ∃ c : ByteArray, c = ⟨#[a, b]⟩ := ⟨_, rfl⟩
  have hall : Hid (∀ (i : Nat) (h : i < chars.size), chars[i].toNat < 128) := Lib.hid (by
    subst hc
    intro i h
    match i, h with
    | 0, _ => exact ha
    | 1, _ => exact hb)
  rw [← hc]
  clear hc ha hb
  go_enter Tryz.func93, Tryz.ntmps93
  go_wp2_with fail
  go_loopg [5, 6] chars.size (fun g _ _ wx => ∃ i : Nat, i + g = chars.size ∧ wx.heap[w.heap.size]? = some (.stringIter chars i) ∧ Below w.heap.size w wx)
  case atStart => exact ⟨0, by omega, World.iter_heap w chars 0, below_alloc w _⟩
  case round =>
    obtain ⟨i, hig, hh, hbw⟩ := hrel
    cases gk with
    | zero =>
      have hnx := fun ty => Lib.run_next_end_at (P := Tryz.prog) _ w.heap.size chars i ty hh (by omega)
      clear hh
      go_wp2_with fail
      go_ret
      exact ⟨rfl, hbw⟩
    | succ g =>
      have hi : i < chars.size := by omega
      obtain ⟨x, hx⟩ : ∃ x : UInt8, chars[i]'hi = x := ⟨_, rfl⟩
      have hx128 : x.toNat < 128 := by rw [← hx]; exact hall.out i hi
      have hnx := fun ty => Lib.run_next_ascii_at (P := Tryz.prog) _ w.heap.size chars i ty hh hi (by rw [hx]; exact hx128)
      rw [hx] at hnx
      have H1 := Lib.hid (Lib.iterAt_heap _ w.heap.size chars i (i + 1) hh)
      have H2 := Lib.hid (Lib.below_iterAt hbw (k := w.heap.size) (Nat.le_refl _) chars (i + 1))
      have hxi : (x.toNat : Int) < 128 := by omega
      clear hx hh hx128
      go_wp2_with fail
      go_roundg g
      case measure => omega
      case rel => exact ⟨i + 1, by omega, H1.out, H2.out⟩
set_option maxHeartbeats 4000000 in
set_option maxRecDepth 100000 in
theorem rune_high (a b : UInt8) (r : Int) (w : World) (hb : b.toNat < 128) (h128 : 128 ≤ r) (hv : Utf8.valid r = true) (hne : r ≠ 65533) :
    Calls Tryz.prog 93 #[.string ⟨#[a, b]⟩, .int .i32 r] w fun e w' => e = .returned (.int .i64 (-1)) ∧ Below w.heap.size w w' := by
  obtain ⟨z1, z2, z3⟩ := encode_facts r hv h128
  have hcv : ∀ wx, (convert 21 9 (.int .i32 r)).run Tryz.prog wx = .ok (.string (Utf8.encode r)) wx := fun wx => run_convert_int_string wx _ _ _ _ (by kernel_rfl) Tryz.underlying9
  obtain ⟨rs, hrs⟩ : ∃ rs, rs = Utf8.encode r := ⟨_, rfl⟩
  rw [← hrs] at hcv z1 z2
  have hva : Hid (Lib.validRune r = true) := Lib.hid (by
    rw [validRune_eq] at hv
    unfold validRune at hv
    unfold Lib.validRune
    exact hv)
  have hk : ¬ r < 128 := by omega
  have hk2 : (r == 65533) = false := beq_eq_false_iff_ne.2 hne
  by_cases h2 : rs.size = 2
  · have hl : 1 < rs.size := by omega
    obtain ⟨d, hd⟩ : ∃ d, d = rs[1]'hl := ⟨_, rfl⟩
    have hd128 : 128 ≤ d.toNat := by
      rw [hd]
      have := z3 (by rw [← hrs]; omega)
      have e : (Utf8.encode r).size - 1 = 1 := by rw [← hrs]; omega
      simp only [← hrs, h2] at this
      exact this
    have p1 : ∀ wx, (Instr.index 9 (.string ⟨#[a, b]⟩) (.int .i64 1)).run Tryz.prog wx = .ok (.int .u8 (b.toNat : Int)) wx := fun wx => by kernel_rfl
    have p2 : ∀ wx, (Instr.index 9 (.string rs) (.int .i64 1)).run Tryz.prog wx = .ok (.int .u8 (d.toNat : Int)) wx := fun wx => by
      rw [run_index_string (h := Tryz.underlying9), dif_pos ⟨by omega, by omega⟩, hd]; rfl
    have p3 : ∀ wx, (Instr.slice 9 (.string ⟨#[a, b]⟩) (some (.int .i64 2)) none none).run Tryz.prog wx = .ok (.string ⟨#[]⟩) wx := fun wx => by kernel_rfl
    have q1 : ((b.toNat : Int) != (d.toNat : Int)) = true := by rw [bne_iff_ne]; omega
    have hrz : (rs.size : Int) = 2 := by omega
    clear hd z1 z2 z3 hrs hl h2 hne hv
    go_enter Tryz.func93, Tryz.ntmps93
    go_wp2_with (go_at_call 106; refine (Tryz.utf8_ValidRune r _).mono ?_; rintro e w2 ⟨rfl, hw2⟩; rw [hva.out, hw2]; clear hw2)
    go_step3
    go_wp2_with fail
    refine wp_loop_rounds 1 ?_
    rw [rounds_succ]
    go_wp2_with fail
    go_step3
    go_wp2_with fail
    go_quiet (fail)
    have b1 : Below w.heap.size w (w.drewN nq) := below_draws _ _
    generalize w.drewN nq = w1 at b1 ⊢
    go_wp2_with fail
    go_quiet ((go_at_call 102; exact Calls.quiet_of_same (Tryz.strings_IndexByte ⟨#[]⟩ (d.toNat : Int) _)))
    have b2 := below_drewN b1 nq
    generalize w1.drewN nq = w2 at b2 ⊢
    rw [show Lib.indexByte (⟨#[]⟩ : ByteArray).data.toList ((d.toNat : Int)).toNat.toUInt8 = -1 from rfl]
    go_wp2_with fail
    rw [Exit.noGoto_ret]
    go_wp2_with fail
    rw [Exit.noGoto_ret]
    go_ret
    exact ⟨rfl, b2⟩
  · have p0 : ¬ (rs.size : Int) - 1 < 2 := by omega
    have hs9 : (rs.size : Int) ≤ 4 := by omega
    clear z3 hrs hne hv
    go_enter Tryz.func93, Tryz.ntmps93
    go_wp2_with (go_at_call 106; refine (Tryz.utf8_ValidRune r _).mono ?_; rintro e w2 ⟨rfl, hw2⟩; rw [hva.out, hw2]; clear hw2)
    go_step3
    go_wp2_with fail
    refine wp_loop_rounds 1 ?_
    rw [rounds_succ]
    go_wp2_with fail
    rw [Exit.noGoto_ret]
    go_ret
    exact ⟨rfl, Below.refl _ _⟩
/-- IndexRune at a rune beyond ASCII. -/
theorem rune_none (a b : UInt8) (r : Int) (w : World) (ha : a.toNat < 128) (hb : b.toNat < 128) (h128 : 128 ≤ r) (hv : Utf8.valid r = true) :
    Calls Tryz.prog 93 #[.string ⟨#[a, b]⟩, .int .i32 r] w fun e w' => e = .returned (.int .i64 (-1)) ∧ Below w.heap.size w w' := by
  by_cases h : r = 65533
  · subst h; exact rune_error a b w ha hb
  · exact rune_high a b r w hb h128 hv h
set_option maxHeartbeats 4000000 in
set_option maxRecDepth 100000 in
/-- IndexAny at two ASCII bytes. -/
theorem indexAny_any (a b : UInt8) (s : ByteArray) (w : World) (ha : a.toNat < 128) (hb : b.toNat < 128) (hs : s.size < 4294967281) :
    Calls Tryz.prog 69 #[.string s, .string ⟨#[a, b]⟩] w fun e w' => e = .returned (.int .i64 (Lib.indexAny (bs s) [a, b])) ∧ Below w.heap.size w w' := by
  have hasc : ∀ (j : Nat) x, (⟨#[a, b]⟩ : ByteArray).data.toList[j]? = some x → x.toNat < 128 := fun j x hx => by
    rcases j with _ | _ | j
    · simp at hx; subst hx; exact ha
    · simp at hx; subst hx; exact hb
    · simp at hx
  have e2 : (⟨#[a, b]⟩ : ByteArray).size = 2 := rfl
  by_cases h8 : 8 < s.size
  · refine (Tryz.strings_IndexAny_long Tryz.zeroValue115 s ⟨#[a, b]⟩ w (by rw [e2]; omega) h8 hs (by rw [e2]; omega) hasc).mono fun e w' ⟨he, hw⟩ => ⟨he, ?_⟩
    rw [hw]
    exact (below_alloc w _).alloc (by simp) _
  have h8z : decide ((8 : Int) < (s.size : Int)) = false := decide_eq_false (by omega)
  have HA := Lib.hid (show ∀ c ∈ [a, b], c.toNat < 128 from fun c hc => by
    simp only [List.mem_cons, List.not_mem_nil, or_false] at hc
    rcases hc with rfl | rfl
    · exact ha
    · exact hb)
  have Ha := Lib.hid ha
  have Hb := Lib.hid hb
  have hcz : ((⟨#[a, b]⟩ : ByteArray).size : Int) = 2 := rfl
  have hce : (⟨#[a, b]⟩ : ByteArray).toList.isEmpty = false := by rw [Lib.toList_data]; rfl
  clear hasc ha hb h8 e2
  go_enter Tryz.func69, Tryz.ntmps69
  go_wp2_with (go_at_call 94; refine (Tryz.strings_shouldUseASCIISet _ _).mono ?_; rintro e w2 ⟨rfl, hw2⟩; rw [hw2, h8z]; clear hw2)
  go_loopg [9, 10] s.size (fun g _ _ wx => ∃ i : Nat, i + g = s.size ∧ wx.heap[w.heap.size]? = some (.stringIter s i) ∧ Below w.heap.size w wx ∧ Hid (Lib.NoAny s.data.toList [a, b] i))
  case atStart => exact ⟨0, by omega, World.iter_heap w s 0, below_alloc w _, Lib.hid (Lib.NoAny.zero _ _)⟩
  case round =>
    obtain ⟨i, hig, hh, hbw, HN⟩ := hrel
    by_cases hi : i < s.size
    · cases hx : decide (s[i].toNat < 128) with
      | true =>
        obtain ⟨x, hxe⟩ : ∃ x : UInt8, s[i]'hi = x := ⟨_, rfl⟩
        have hx128 : x.toNat < 128 := by rw [← hxe]; exact of_decide_eq_true hx
        have hnx := fun ty => Lib.run_next_ascii_at (P := Tryz.prog) _ w.heap.size s i ty hh hi (by rw [hxe]; exact hx128)
        have Hx : Hid (s.data.toList[i]? = some x) := Lib.hid (by rw [← hxe]; exact Lib.data_getElem? s i hi)
        rw [hxe] at hnx
        have H1 := Lib.hid (Lib.iterAt_heap _ w.heap.size s i (i + 1) hh)
        have H2 := Lib.hid (Lib.below_iterAt hbw (k := w.heap.size) (Nat.le_refl _) s (i + 1))
        have hcon := Lib.contains_iff_indexByte [a, b] x
        obtain ⟨q, hq⟩ : ∃ q, q = Lib.indexByte [a, b] x := ⟨_, rfl⟩
        rw [← hq] at hcon
        have HQ := Lib.hid hq
        obtain ⟨g, rfl⟩ : ∃ g, gk = g + 1 := ⟨gk - 1, by omega⟩
        clear hxe hx hh hq
        have hxi : 0 ≤ (x.toNat : Int) := by omega
        have hxj : (x.toNat : Int) < 128 := by omega
        by_cases hq0 : 0 ≤ q
        · have HF := Lib.hid (Lib.indexAny_hit HN.out Hx.out (by rw [hcon]; exact decide_eq_true hq0))
          clear hcon
          go_wp2_with (go_at_call 93; refine (Tryz.strings_IndexRune_ascii ⟨#[a, b]⟩ (x.toNat : Int) _ hxi hxj).mono ?_; rintro e w2 ⟨rfl, hw2⟩; rw [show ((x.toNat : Int)).toNat.toUInt8 = x from by simp, ← HQ.out, hw2]; clear hw2)
          go_ret
          exact ⟨ret_int HF.out.symm, H2.out⟩
        · have HS := Lib.hid (HN.out.succ Hx.out (by rw [hcon]; exact decide_eq_false hq0))
          clear hcon
          go_wp2_with (go_at_call 93; refine (Tryz.strings_IndexRune_ascii ⟨#[a, b]⟩ (x.toNat : Int) _ hxi hxj).mono ?_; rintro e w2 ⟨rfl, hw2⟩; rw [show ((x.toNat : Int)).toNat.toUInt8 = x from by simp, ← HQ.out, hw2]; clear hw2)
          go_roundg g
          case measure => omega
          case rel => exact ⟨i + 1, by omega, H1.out, H2.out, HS⟩
      | false =>
        have hx128 : 128 ≤ (s[i]'hi).toNat := by have := of_decide_eq_false hx; omega
        obtain ⟨z1, z2⟩ := dec_skip s i hi hx128
        have z3 := dec_high s i hi hx128
        have z4 := dec_valid s i
        have z5 : 1 ≤ (Utf8.decode s i).2 := (decode_high s i hi hx128).2
        have hnx := fun ty => Lib.run_next_any_at (P := Tryz.prog) _ w.heap.size s i ty hh hi
        have H1 := Lib.hid (Lib.iterAt_heap _ w.heap.size s i (i + (Utf8.decode s i).2) hh)
        have H2 := Lib.hid (Lib.below_iterAt hbw (k := w.heap.size) (Nat.le_refl _) s (i + (Utf8.decode s i).2))
        have HS := Lib.hid (noAny_skip HN.out HA.out (k := i + (Utf8.decode s i).2) z2)
        obtain ⟨r, hr⟩ : ∃ r, r = (Utf8.decode s i).1 := ⟨_, rfl⟩
        obtain ⟨m, hm⟩ : ∃ m, m = (Utf8.decode s i).2 := ⟨_, rfl⟩
        rw [← hm] at z1 z5 H1 H2 HS
        rw [← hr] at z3 z4
        simp only [← hm, ← hr] at hnx
        obtain ⟨g, rfl⟩ : ∃ g, gk = g + m := ⟨gk - m, by omega⟩
        have zr : 128 ≤ (r : Int) := by omega
        have HV := Lib.hid z4
        clear hx hh z2 z4 hr hm hx128
        go_wp2_with (go_at_call 93; refine (rune_none a b (r : Int) _ Ha.out Hb.out zr HV.out).mono ?_; rintro e w2 ⟨rfl, hb2⟩)
        have hlt : w.heap.size < (wr.iterAt w.heap.size s (i + m)).heap.size := (Array.getElem?_eq_some_iff.1 H1.out).1
        go_roundg g
        case measure => omega
        case rel => exact ⟨i + m, by omega, (hb2.block _ hlt).trans H1.out, H2.out.trans (hb2.mono H2.out.size), HS⟩
    · have hnx := fun ty => Lib.run_next_end_at (P := Tryz.prog) _ w.heap.size s i ty hh hi
      have HF := Lib.hid (Lib.indexAny_none (s := s.data.toList) (chars := [a, b]) (by
        have : i = s.data.toList.length := by rw [← Lib.size_eq]; omega
        rw [← this]; exact HN.out))
      clear hh
      go_wp2_with fail
      go_ret
      exact ⟨ret_int HF.out.symm, hbw⟩
end Go.Proofs.YtfnmohaddkoalaaGreatDoor
