/- The walk of Normalize (4.2) of the program. -/
import Derived.Test.YtglckhljpjcmaaaGreatDoorQTargW1
import Derived.Deep.RegionLaw
namespace Go.Proofs.YtglckhljpjcmaaaGreatDoor
open Go.RowKit

theorem trip_nat {i j : Nat} (hi : i < 16) (hj : j < 16) : ((tripC i j).toNat : Int) = 16 * (i : Int) + j := by
  unfold tripC
  simp
  omega
theorem run_hexU (n : Nat) (h : n < 16) (w : World) : (Instr.index 9 (.string ⟨#[48, 49, 50, 51, 52, 53, 54, 55, 56, 57, 65, 66, 67, 68, 69, 70]⟩) (.int .i64 (n : Int))).run Tryz.prog w = .ok (.int .u8 ((hexD n).toNat : Int)) w := by
  rcases (show n = 0 ∨ n = 1 ∨ n = 2 ∨ n = 3 ∨ n = 4 ∨ n = 5 ∨ n = 6 ∨ n = 7 ∨ n = 8 ∨ n = 9 ∨ n = 10 ∨ n = 11 ∨ n = 12 ∨ n = 13 ∨ n = 14 ∨ n = 15 from by omega) with rfl | rfl | rfl | rfl | rfl | rfl | rfl | rfl | rfl | rfl | rfl | rfl | rfl | rfl | rfl | rfl <;> kernel_rfl
theorem run_trip (i j : Nat) (hi : i < 16) (hj : j < 16) (w : World) : (convert 3 5 (.int .i64 (16 * (i : Int) + (j : Int)))).run Tryz.prog w = .ok (.int .u8 ((tripC i j).toNat : Int)) w := by
  rw [trip_nat hi hj]
  have e : (convert 3 5 (.int .i64 (16 * (i : Int) + (j : Int)))).run Tryz.prog w = .ok (.int .u8 (IntKind.u8.wrap (16 * (i : Int) + (j : Int)))) w := by
    simp [convert, run_underlying Tryz.underlying3, run_underlying Tryz.underlying5, Conv.intToInt]
  rw [e]
  have : IntKind.u8.wrap (16 * (i : Int) + (j : Int)) = 16 * (i : Int) + (j : Int) := by
    unfold IntKind.wrap
    simp [IntKind.bits, IntKind.signed]
    omega
  rw [this]
theorem len_big {n : Nat} (h : n + 3 ≤ 1000000) : n + 1 ≤ 140737488355328 := by omega
theorem run_at (s : ByteArray) (k : Nat) (i : Int) (h : k < s.size) (hi : i = k) (w : World) : (Instr.index 9 (.string s) (.int .i64 i)).run Tryz.prog w = .ok (.int .u8 (s[k].toNat : Int)) w := by
  subst hi
  rw [run_index_string (h := Tryz.underlying9), dif_pos ⟨by omega, by omega⟩]
  simp
/-- Several bytes appended at a step of a region that draws. -/
theorem step_append_bytes {ops : Array Oper} {o : Oper} {a : Act} {K : Act → World → Prop} {Q : Exit → Act → World → Prop} {E : Prop} (hgd : o.guard = none) (s x : Operand)
    (ho : o.op = .call { callee := .builtin .append, args := #[s, x], argTypes := #[65, 65] })
    (w0 w : World) (B : Nat) (v : Value) (l news : List UInt8) (hs : a.eval s = v) (hown : Buf w B 5 v l) (hb : Below B w0 w) (hB : B ≤ w.heap.size)
    (ad : Addr) (n : Nat) (hx : a.eval x = .slice (some ad) n n) (hn : news.length = n) (hc : ∀ (j : Nat) (c : UInt8), news[j]? = some c → w.cell? (ad.add j) = some (.int .u8 (c.toNat : Int))) (hl : l.length + n ≤ 1000000)
    (h : ∀ v' w', Buf w' B 5 v' (l ++ news) → Below B w0 w' → B ≤ w'.heap.size → K (a.put o.dst v') w') :
    if Region.wanted o (yielded ops a.tmps) = true then Oper.wp Tryz.prog o a w K Q else E := by
  have hw : Region.wanted o (yielded ops a.tmps) = true := by simp [Region.wanted, hgd]
  rw [if_pos hw]
  obtain ⟨i, hi, hz0, hz1, hz2⟩ := info_parts infoU8
  refine wp_append_own w s x 65 ho B 5 i (.int .u8 0) 1 1 Tryz.underlying65 hi hz0 hz1 hz2 rfl (by decide) v l.length _ hs hown ad n n (news.map fun c => Value.int .u8 (c.toNat : Int)) hx (by simp [hn]) ?_ ?_ (by unfold maxLen; omega) (by omega) hB ?_
  · intro j u hj
    rw [List.getElem?_map] at hj
    cases hq : news[j]? with
    | none => rw [hq] at hj; simp at hj
    | some c => rw [hq] at hj; simp at hj; subst hj; exact hc j c hq
  · intro u hu
    obtain ⟨c, _, rfl⟩ := List.mem_map.1 hu
    rfl
  · intro v' w' hown' hg _
    refine h v' w' ?_ (hb.grown hg hB (fun j hj => (World.ownsRow.lt hown j hj).1)) (Nat.le_trans hB hg.size)
    unfold Buf
    simpa [hn] using hown'
theorem cells_three (w : World) (a b c : UInt8) (t : TypeId) (j : Nat) (x : UInt8) (h : [a, b, c][j]? = some x) : (w.alloc (.cells #[.int .u8 (a.toNat : Int), .int .u8 (b.toNat : Int), .int .u8 (c.toNat : Int)] t)).drew.cell? ((⟨w.heap.size, 0, none⟩ : Addr).add j) = some (.int .u8 (x.toNat : Int)) := by
  have e : (⟨w.heap.size, 0, none⟩ : Addr).add j = ⟨w.heap.size, j, none⟩ := by unfold Addr.add; by_cases h0 : j = 0 <;> simp [h0]
  rw [e]
  refine (World.cell?_alloc_mark w _ t _ j).trans ?_
  rcases j with _ | _ | _ | j
  · simp at h; subst h; rfl
  · simp at h; subst h; rfl
  · simp at h; subst h; rfl
  · simp at h
/-- What stands, and what is left to normalize. -/
def NormAt (s : ByteArray) (k : Nat) (out : List UInt8) : Prop := normL (bs s) = (normL ((bs s).drop k)).map (out ++ ·) ∧ out.length ≤ k
theorem NormAt.start (s : ByteArray) : NormAt s 0 [] := ⟨by rw [List.drop_zero]; simp, by simp⟩
theorem NormAt.none_ {s : ByteArray} {k : Nat} {out : List UInt8} (h : NormAt s k out) (hn : normL ((bs s).drop k) = none) : normL (bs s) = none := by rw [h.1, hn]; rfl
theorem NormAt.bad {s : ByteArray} {k : Nat} {out : List UInt8} (h : NormAt s k out) (hk : k < s.size) (hb : badC s[k] = true) : normL (bs s) = none := h.none_ (by rw [drop_step s hk]; exact normL_bad _ hb)
theorem NormAt.step {s : ByteArray} {k : Nat} {out : List UInt8} (h : NormAt s k out) (hk : k < s.size) (hb : badC s[k] = false) (hc : s[k] ≠ 37) : NormAt s (k + 1) (out ++ [s[k]]) := by
  refine ⟨?_, by have := h.2; simp; omega⟩
  rw [h.1, drop_step s hk, normL_plain _ hb hc]
  cases normL ((bs s).drop (k + 1)) <;> simp
theorem NormAt.short {s : ByteArray} {k : Nat} {out : List UInt8} (h : NormAt s k out) (hk : k < s.size) (hc : s[k] = 37) (h2 : s.size ≤ k + 2) : normL (bs s) = none := h.none_ (by
  rw [drop_step s hk, hc]
  exact normL_short (by rw [List.length_drop, bs_length]; omega))
theorem NormAt.drop3 {s : ByteArray} {k : Nat} (hk : k < s.size) (h1 : k + 1 < s.size) (h2 : k + 2 < s.size) (hc : s[k] = 37) : (bs s).drop k = 37 :: s[k + 1] :: s[k + 2] :: (bs s).drop (k + 3) := by
  rw [drop_step s hk, hc, drop_step s h1, drop_step s h2]
theorem NormAt.hex {s : ByteArray} {k : Nat} {out : List UInt8} (h : NormAt s k out) (hk : k < s.size) (h1 : k + 1 < s.size) (h2 : k + 2 < s.size) (hc : s[k] = 37) (hx : hexV s[k + 1] < 0 ∨ hexV s[k + 2] < 0) : normL (bs s) = none := h.none_ (by
  rw [NormAt.drop3 hk h1 h2 hc, normL_trip, if_pos hx])
theorem NormAt.trip {s : ByteArray} {k : Nat} {out : List UInt8} (h : NormAt s k out) (hk : k < s.size) (h1 : k + 1 < s.size) (h2 : k + 2 < s.size) (hc : s[k] = 37) {i j : Nat} (hi : hexV s[k + 1] = i) (hj : hexV s[k + 2] = j) : NormAt s (k + 2 + 1) (out ++ tripL i j) := by
  refine ⟨?_, by have := h.2; have := tripL_len i j; simp; omega⟩
  rw [h.1, NormAt.drop3 hk h1 h2 hc, normL_trip, hi, hj, if_neg (by omega)]
  cases normL ((bs s).drop (k + 3)) <;> simp
theorem NormAt.done {s : ByteArray} {k : Nat} {out : List UInt8} (h : NormAt s k out) (hk : s.size ≤ k) : normL (bs s) = some out := by
  rw [h.1, drop_end s hk, normL_nil]; simp
set_option maxHeartbeats 6400000 in
set_option maxRecDepth 100000 in
theorem normalize_any (s : ByteArray) (w : World) (hs : s.size ≤ 100000) :
    Calls Tryz.prog 57 #[.string s] w fun e w' => e = .returned (normV (normL (bs s))) ∧ Below w.heap.size w w' := by
  obtain ⟨iu, hi, hz0, hz1, hz2⟩ := info_parts infoU8
  go_enter Tryz.func57, Tryz.ntmps57
  go_wp2_with (refine wpList_make_own _ rfl _ _ 65 rfl w.heap.size 5 iu (.int .u8 0) 1 Tryz.underlying65 hi hz0 hz1 .i64 .i64 _ s.size rfl rfl rfl (by rw [hz2]; omega) (by unfold maxLen; omega) (Nat.le_refl _) ?_; intro w1 hown hgrow)
  have hB : Buf w1 w.heap.size 5 (.slice (some ⟨w.heap.size, 0, none⟩) 0 s.size) [] := hown
  have hb : Below w.heap.size w w1 := (Below.refl _ _).grown hgrow (Nat.le_refl _) (fun j hj => by cases hj)
  clear hown hgrow hi hz0 hz1 hz2
  go_loopw [4, 5] (fun v j wr => ∃ (k : Nat) (out : List UInt8), k ≤ s.size ∧ j = .int .i64 k ∧ Hid (NormAt s k out) ∧ out.length ≤ k ∧ Buf wr w.heap.size 5 v out ∧ Below w.heap.size w wr ∧ w.heap.size ≤ wr.heap.size) (fun _ j _ => s.size - (intOf j).toNat)
  case atStart => exact ⟨0, [], by omega, rfl, Lib.hid (NormAt.start s), by simp, hB, hb, hb.size⟩
  case round =>
    obtain ⟨k, out, hk, rfl, H, hol, hB, hb, hz⟩ := hrel
    have hlen : out.length + 3 ≤ 1000000 := by omega
    by_cases hlt : k < s.size
    · cases hbad : badC s[k] with
      | true =>
        have HF := Lib.hid (H.out.bad hlt hbad)
        have hw := badC_iff.1 hbad
        have hw' : (s[k].toNat : Int) < 33 ∨ (¬ (s[k].toNat : Int) < 33 ∧ 126 < (s[k].toNat : Int)) ∨ (¬ (s[k].toNat : Int) < 33 ∧ ¬ 126 < (s[k].toNat : Int) ∧ (s[k].toNat : Int) = 35) := by omega
        clear hbad hw
        rcases hw' with q | ⟨q1, q2⟩ | ⟨q1, q2, q3⟩
        all_goals
          go_wp2_with fail
          go_ret2
          exact ⟨by rw [HF.out]; rfl, hb⟩
      | false =>
        have hw := badC_false.1 hbad
        have q1 : ¬ (s[k].toNat : Int) < 33 := by omega
        have q2 : ¬ 126 < (s[k].toNat : Int) := by omega
        have q3 : ¬ (s[k].toNat : Int) = 35 := by omega
        by_cases hc : s[k] = 37
        · have q4 : ((s[k].toNat : Int) != 37) = false := u8_bf (n := 37) (by decide) hc
          by_cases h2 : k + 2 < s.size
          · have h1 : k + 1 < s.size := by omega
            have HX := Lib.hid (fun hx => H.out.hex hlt h1 h2 hc hx)
            have HT := Lib.hid (fun (i j : Nat) hi hj => H.out.trip hlt h1 h2 hc (i := i) (j := j) hi hj)
            have hx1 := hexV_bd s[k + 1]
            have hx2 := hexV_bd s[k + 2]
            obtain ⟨c1, hc1⟩ : ∃ c, c = s[k + 1] := ⟨_, rfl⟩
            obtain ⟨c2, hc2⟩ : ∃ c, c = s[k + 2] := ⟨_, rfl⟩
            have g0 : ¬ (s.size : Int) ≤ (k : Int) + 2 := by omega
            have p1 : ∀ wx, (Instr.index 9 (.string s) (.int .i64 ((k : Int) + 1))).run Tryz.prog wx = .ok (.int .u8 (c1.toNat : Int)) wx := fun wx => by
              rw [hc1]; exact run_at s (k + 1) _ h1 (by omega) wx
            have p2 : ∀ wx, (Instr.index 9 (.string s) (.int .i64 ((k : Int) + 2))).run Tryz.prog wx = .ok (.int .u8 (c2.toNat : Int)) wx := fun wx => by
              rw [hc2]; exact run_at s (k + 2) _ h2 (by omega) wx
            have v1 : IntKind.i64.wrap ((k : Int) + 1) = (k : Int) + 1 := IntWalk.i64_in _ (by omega)
            have v2 : IntKind.i64.wrap ((k : Int) + 2) = (k : Int) + 2 := IntWalk.i64_in _ (by omega)
            rw [← hc1, ← hc2] at HX HT
            rw [← hc1] at hx1
            rw [← hc2] at hx2
            clear hc1 hc2 hbad hw hc
            rcases hx1 with m1 | ⟨m1, m1'⟩
            · have HF := Lib.hid (HX.out (.inl (by omega)))
              have HV := Lib.hid m1
              clear m1 HX HT hx2
              go_wp2_with fail
              refine (hex_any c1 _).mono ?_
              rintro e w2 ⟨rfl, hb2⟩
              rw [HV.out]
              have b2 := hb.trans (hb2.mono hz)
              go_wp2_with fail
              go_ret2
              exact ⟨by rw [HF.out]; rfl, b2⟩
            obtain ⟨i, ei⟩ : ∃ i : Nat, hexV c1 = i := ⟨(hexV c1).toNat, by omega⟩
            have ib : i < 16 := by omega
            have HI := Lib.hid ei
            clear m1 m1' ei
            rcases hx2 with m2 | ⟨m2, m2'⟩
            · have HF := Lib.hid (HX.out (.inr (by omega)))
              have HV := Lib.hid m2
              clear m2 HX HT
              go_wp2_with fail
              refine (hex_any c1 _).mono ?_
              rintro e w2 ⟨rfl, hb2⟩
              rw [HI.out]
              have b2 := hb.trans (hb2.mono hz)
              have z2 := Nat.le_trans hz hb2.size
              clear hb2
              go_wp2_with fail
              refine (hex_any c2 _).mono ?_
              rintro e w3 ⟨rfl, hb3⟩
              rw [HV.out]
              have b3 := b2.trans (hb3.mono z2)
              go_wp2_with fail
              go_ret2
              exact ⟨by rw [HF.out]; rfl, b3⟩
            obtain ⟨j, ej⟩ : ∃ j : Nat, hexV c2 = j := ⟨(hexV c2).toNat, by omega⟩
            have jb : j < 16 := by omega
            have HJ := Lib.hid ej
            have HS := Lib.hid (HT.out i j HI.out HJ.out)
            clear m2 m2' ej HX HT
            go_wp2_with fail
            refine (hex_any c1 _).mono ?_
            rintro e w2 ⟨rfl, hb2⟩
            rw [HI.out]
            have b2 := hb.trans (hb2.mono hz)
            have z2 := Nat.le_trans hz hb2.size
            have B2 := hB.below hb2 (Nat.le_refl _)
            clear hb2 hB hb hz
            go_wp2_with fail
            refine (hex_any c2 _).mono ?_
            rintro e w3 ⟨rfl, hb3⟩
            rw [HJ.out]
            have b3 := b2.trans (hb3.mono z2)
            have z3 := Nat.le_trans z2 hb3.size
            have B3 := B2.below hb3 (Nat.le_refl _)
            clear hb3 b2 z2 B2
            go_wp2_with fail
            go_region_held3 (fun w' => Below w3.heap.size w3 w') (first | assumption | exact (Below.refl _ _).drew | (exact below_step (by assumption) hb)) (first | (go_at_call 74; refine (hex_any _ _).mono ?_; rintro e w' ⟨rfl, hb⟩))
            all_goals
              have hb4 : Below w3.heap.size w3 w' := by assumption
              rw [HI.out, HJ.out]
              have b4 := b3.trans (hb4.mono z3)
              have z4 := Nat.le_trans z3 hb4.size
              have B4 := B3.below hb4 (Nat.le_refl _)
              clear hb4 b3 z3 B3
              generalize w' = w4 at b4 z4 B4 ⊢
              have HC := Lib.hid (run_trip i j ib jb)
              have htr := run_trip i j ib jb
              obtain ⟨x, hx⟩ : ∃ x, x = tripC i j := ⟨_, rfl⟩
              have Y1 := Lib.hid (fun e => tripL_yes (h := (i : Int)) (l := (j : Int)) e)
              have Y2 := Lib.hid (fun e => tripL_no (h := (i : Int)) (l := (j : Int)) e)
              rw [← hx] at htr Y1 Y2
              have hpl := plain_list x
              obtain ⟨q, hq⟩ : ∃ q, q = Lib.indexByte [45, 46, 95, 126] x := ⟨_, rfl⟩
              rw [← hq] at hpl
              have HQ := Lib.hid hq
              clear hq hx HC
              have k3 : ((k + 2 : Nat) : Int) = (k : Int) + 2 := by omega
              have K3 := Lib.hid k3
              clear k3
              cases hal : alnC x with
              | true =>
                have HA := Lib.hid hal
                have HP := Lib.hid (Y1.out (show (alnC x || _) = true by rw [hal]; rfl))
                rw [HP.out] at HS
                clear hal hpl Y1 Y2
                go_wp2_with (first | (go_at_call 75; refine (alnum_any x _).mono ?_; rintro e w5 ⟨rfl, rfl⟩; rw [HA.out]) | (at_builtin; refine wpList_append_byte rfl (.tmp 87) (.tmp 89) 65 rfl w _ w.heap.size 5 Tryz.underlying65 infoU8 _ out rfl (B4.alloc _) (b4.alloc z4 _) (le_alloc z4 _) ⟨w4.heap.size, 0, none⟩ x rfl (cell_new w4 _ _) (len_big hlen) ?_))
                intro v3 w5 hB1 hb1 hz1
                clear B4 b4 z4
                go_wp2_with fail
                go_roundw
                case rel => exact ⟨k + 2 + 1, out ++ [x], by omega, by go_num, HS, by simp; omega, hB1, hb1, hz1⟩
                case measure => simp [intOf]; omega
              | false =>
                have HA := Lib.hid hal
                by_cases hq0 : 0 ≤ q
                · have HP := Lib.hid (Y1.out (show (alnC x || _) = true by rw [hal, ← hpl]; simp [hq0]))
                  rw [HP.out] at HS
                  clear hal hpl Y1 Y2
                  go_wp2_with (first | (go_at_call 75; refine (alnum_any x _).mono ?_; rintro e w5 ⟨rfl, rfl⟩; rw [HA.out]) | (go_at_call 76; refine (Tryz.strings_IndexByte ⟨#[45, 46, 95, 126]⟩ (x.toNat : Int) _).mono ?_; rintro e w5 ⟨rfl, hw5⟩; rw [show ((x.toNat : Int)).toNat.toUInt8 = x from by simp, ← HQ.out, hw5]; clear hw5) | (at_builtin; refine wpList_append_byte rfl (.tmp 87) (.tmp 89) 65 rfl w _ w.heap.size 5 Tryz.underlying65 infoU8 _ out rfl (B4.alloc _) (b4.alloc z4 _) (le_alloc z4 _) ⟨w4.heap.size, 0, none⟩ x rfl (cell_new w4 _ _) (len_big hlen) ?_))
                  intro v3 w5 hB1 hb1 hz1
                  clear B4 b4 z4
                  go_wp2_with fail
                  go_roundw
                  case rel => exact ⟨k + 2 + 1, out ++ [x], by omega, by go_num, HS, by simp; omega, hB1, hb1, hz1⟩
                  case measure => simp [intOf]; omega
                · have HP := Lib.hid (Y2.out (show (alnC x || _) = false by rw [hal, ← hpl]; simp [hq0]))
                  rw [HP.out] at HS
                  have u1 := run_hexU i ib
                  have u2 := run_hexU j jb
                  obtain ⟨d1, hd1⟩ : ∃ d, d = hexD i := ⟨_, rfl⟩
                  obtain ⟨d2, hd2⟩ : ∃ d, d = hexD j := ⟨_, rfl⟩
                  rw [Int.toNat_natCast, Int.toNat_natCast, ← hd1, ← hd2] at HS
                  rw [← hd1] at u1
                  rw [← hd2] at u2
                  clear hal hpl Y1 Y2 hd1 hd2
                  go_wp2_with (first | (go_at_call 75; refine (alnum_any x _).mono ?_; rintro e w5 ⟨rfl, rfl⟩; rw [HA.out]) | (go_at_call 76; refine (Tryz.strings_IndexByte ⟨#[45, 46, 95, 126]⟩ (x.toNat : Int) _).mono ?_; rintro e w5 ⟨rfl, hw5⟩; rw [show ((x.toNat : Int)).toNat.toUInt8 = x from by simp, ← HQ.out, hw5]; clear hw5))
                  go_region_held3 (fun _ => True) (trivial) (first | (refine step_append_bytes rfl (.tmp 91) (.tmp 96) rfl w _ w.heap.size _ out [37, d1, d2] rfl (B4.alloc _) (b4.alloc z4 _).drew (le_alloc z4 _) ⟨w4.heap.size, 0, none⟩ 3 rfl rfl (cells_three w4 37 d1 d2 _) hlen ?_; intro v3 w5 hB1 hb1 hz1))
                  all_goals
                    clear B4 b4 z4
                    go_wp2_with fail
                    go_roundw
                    case rel => exact ⟨k + 2 + 1, out ++ [37, d1, d2], by omega, by go_num, HS, by simp; omega, hB1, hb1, hz1⟩
                    case measure => simp [intOf]; omega
          · have HF := Lib.hid (H.out.short hlt hc (by omega))
            have g0 : (s.size : Int) ≤ (k : Int) + 2 := by omega
            clear hbad hw hc h2
            go_wp2_with fail
            go_ret2
            exact ⟨by rw [HF.out]; rfl, hb⟩
        · have q4 : ((s[k].toNat : Int) != 37) = true := u8_bt (n := 37) (by decide) hc
          have HS := Lib.hid (H.out.step hlt hbad hc)
          clear hbad hw hc
          go_wp2_with (at_builtin; refine wpList_append_byte rfl (.tmp 38) (.tmp 42) 65 rfl w _ w.heap.size 5 Tryz.underlying65 infoU8 _ out rfl (hB.alloc _) (hb.alloc hz _) (le_alloc hz _) ⟨wr.heap.size, 0, none⟩ s[k] rfl (cell_new wr _ _) (len_big hlen) ?_)
          intro v1 w2 hB1 hb1 hz1
          clear hB hb hz
          go_wp2_with fail
          go_roundw
          case rel => exact ⟨k + 1, out ++ [s[k]], by omega, by go_num, HS, by simp; omega, hB1, hb1, hz1⟩
          case measure => simp [intOf]; omega
    · have HF := Lib.hid (H.out.done (by omega))
      have hcv := conv_from_buf (P := Tryz.prog) 65 9 5 w.heap.size _ out wr Tryz.underlying65 Tryz.underlying5 Tryz.underlying9 hB
      clear hB
      go_wp2_with fail
      go_ret2
      exact ⟨by rw [HF.out]; rfl, hb⟩
end Go.Proofs.YtglckhljpjcmaaaGreatDoor
