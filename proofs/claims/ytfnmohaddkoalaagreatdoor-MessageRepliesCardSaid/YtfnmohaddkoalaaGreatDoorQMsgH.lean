/- The reader of messages (layer 6): the head. -/
import Derived.Test.YtfnmohaddkoalaaGreatDoorQMsgW9
namespace Go.Proofs.YtfnmohaddkoalaaGreatDoor
open Go.RowKit Go.Shelf
set_option linter.unusedSimpArgs false
set_option linter.unusedVariables false

theorem unfr_snoc (xs : List Fd) (x : Fd) : unfrL (xs ++ [x]) = unfrL xs ++ [x].filter plainF := by unfold unfrL; rw [List.filter_append]
theorem getF_snoc (n : List UInt8) (xs : List Fd) (x : Fd) : getF n (xs ++ [x]) = getF n xs ++ getF n [x] := by unfold getF; rw [List.filter_append, List.map_append]
/-- What is asked of the function that reads the start line. -/
def SPred (fn : Nat) (T : TypeId) (w : World) (B g : Nat) (s : ByteArray) (st : List UInt8 → Int) (r0 : List Value) (r1 : List UInt8 → List Value) : Prop :=
  ∀ (W : World) (a : Nat) (vf vl vc : Value) (line : ByteArray), Below g w W → RdAt T W B g s a [] [] [] vf vl vc r0 → line.size ≤ 2000 →
    Calls Tryz.prog fn #[.pointer (some ⟨g, 0, none⟩), .string line] W fun e w' => e = .returned (.int .i64 (st (bs line))) ∧ Below g W w' ∧ RdAt T w' B g s a [] [] [] vf vl vc (r1 (bs line))
/-- What the loop knows. -/
structure HdAt (T : TypeId) (w : World) (B g : Nat) (s : ByteArray) (st : List UInt8 → Int) (r0 r1 : List Value) (hd : Int × Nat × List Fd) (wr : World) (n : Nat) (a f : Nat) (xs : List Fd) : Prop where
  n65 : n ≤ 65
  len : xs.length ≤ n
  sz : ∀ x ∈ xs, x.1.size ≤ 2000 ∧ x.2.size ≤ 2000
  ha : a ≤ s.size
  run : hd = hdGo st f n ((bs s).drop a) a xs
  fuel : ((bs s).drop a).length < f
  rd : ∃ vf vl vc, RdAt T wr B g s a (unfrL xs) (getF clN xs) (getF teN xs) vf vl vc (if n = 0 then r0 else r1)
  z0 : n = 0 → xs = []
  bel : Below g w wr
/-- The head of a message. -/
theorem fieldL_len (l : List UInt8) : (fieldL l).1.1.length ≤ l.length ∧ (fieldL l).1.2.length ≤ l.length := by
  have hc := cutB_len 58 l
  have ht := trimL_len (cutB 58 l).2.1
  unfold fieldL
  split
  · simp
  · split
    · split
      · exact ⟨by show (cutB 58 l).1.length ≤ _; omega, by show (trimL (cutB 58 l).2.1).length ≤ _; omega⟩
      · simp
    · simp
theorem getF_len2 (n : List UInt8) (xs : List Fd) : (getF n xs).length ≤ xs.length := by unfold getF; rw [List.length_map]; exact List.length_filter_le _ _
/-- What the reader is behind a head. -/
def HdOut (T : TypeId) (w : World) (B g : Nat) (s : ByteArray) (hd : Int × Nat × List Fd) (q1 : List Value) : Prop :=
  (∃ vf vl vc, RdAt T w B g s hd.2.1 (unfrL hd.2.2) (getF clN hd.2.2) (getF teN hd.2.2) vf vl vc q1) ∧ hd.2.1 ≤ s.size ∧ hd.2.2.length ≤ 65 ∧ FldZ hd.2.2 2000
theorem hd_out {hd : Int × Nat × List Fd} {e : Int} (h : hd = (e, 0, [])) : hd.1 = e := by rw [h]
set_option maxHeartbeats 6400000 in
theorem head_any (T : TypeId) (w : World) (B g : Nat) (s : ByteArray) (st : List UInt8 → Int) (fn : Nat) (r0 : List Value) (r1 : List UInt8 → List Value) (vf vl vc : Value)
    (R : RdAt T w B g s 0 [] [] [] vf vl vc r0) (hs : s.size ≤ 1000000) (hM : ∀ W, Below g w W → MaxOf W)
    (eg : ∀ args w, (callFunc fn args).run Tryz.prog w = .ok (.enter fn args) w) (hS : SPred fn T w B g s st r0 r1) :
    Calls Tryz.prog 29 #[.pointer (some ⟨g, 0, none⟩), .func (.func fn) #[.pointer (some ⟨g, 0, none⟩)] #[]] w fun e w' => e = .returned (.int .i64 (hdL st (bs s)).1) ∧ Below g w w' ∧ ((hdL st (bs s)).1 = 0 → HdOut T w' B g s (hdL st (bs s)) (r1 (nextL (bs s)).1)) := by
  obtain ⟨hd, hhd⟩ : ∃ hd, hd = hdL st (bs s) := ⟨_, rfl⟩
  rw [← hhd]
  obtain ⟨q1, hq1⟩ : ∃ r, r = r1 (nextL (bs s)).1 := ⟨_, rfl⟩
  rw [← hq1]
  have H0 : Hid (HdAt T w B g s st r0 q1 hd w 0 0 ((bs s).length + 1) []) := Lib.hid { n65 := by omega, len := by simp, sz := by simp, ha := by omega, run := by rw [hhd, List.drop_zero]; rfl, fuel := by simp, rd := ⟨vf, vl, vc, by simpa [unfrL, getF] using R⟩, z0 := fun _ => rfl, bel := Below.refl _ _ }
  have HMX := Lib.hid hM
  have HSP := Lib.hid hS
  have HQ := Lib.hid hq1
  clear hhd hq1 R hM hS
  go_enter Tryz.func29, Tryz.ntmps29
  go_wp2_with fail
  go_loopw [5] (fun j wr => ∃ (n a f : Nat) (xs : List Fd), j = .int .i64 n ∧ n ≤ 65 ∧ a ≤ s.size ∧ (n = 0 → a = 0) ∧ Hid (HdAt T w B g s st r0 q1 hd wr n a f xs)) (fun j _ => 66 - (intOf j).toNat)
  case atStart => exact ⟨0, 0, _, [], rfl, by omega, by omega, fun _ => rfl, H0⟩
  case round =>
    obtain ⟨n, a, f, xs, rfl, hn, ha, ha0, HDA⟩ := hrel
    obtain ⟨vf1, vl1, vc1, R⟩ := HDA.out.rd
    have hb := HDA.out.bel
    obtain ⟨f', hf⟩ : ∃ f', f = f' + 1 := ⟨f - 1, by have := HDA.out.fuel; omega⟩
    subst hf
    obtain ⟨y, hy⟩ : ∃ y : ByteArray, y = s.extract a s.size := ⟨_, rfl⟩
    have p1 : ∀ wx, (Instr.slice 9 (.string s) (some (.int .i64 (a : Int))) none none).run Tryz.prog wx = .ok (.string y) wx := fun wx => by rw [hy]; exact run_from2 s a _ rfl ha wx
    have zy : y.size ≤ 1000000 := by rw [hy, ByteArray.size_extract]; omega
    have hyb : bs y = (bs s).drop a := by rw [hy]; exact ext_from s a
    have hu := next_used ((bs s).drop a)
    rw [List.length_drop, bs_length] at hu
    have hl2 := next_len ((bs s).drop a)
    obtain ⟨x, u, er, hnx⟩ : ∃ x u er, nextL ((bs s).drop a) = (x, u, er) := ⟨_, _, _, rfl⟩
    rw [hnx] at hu hl2
    obtain ⟨X, hX⟩ : ∃ X : ByteArray, X = ⟨x.toArray⟩ := ⟨_, rfl⟩
    have hXb : bs X = x := by rw [hX]
    have zX : X.size ≤ 2000 := by rw [← bs_length, hXb]; exact hl2
    have HN : Hid (∀ wx, Calls Tryz.prog 46 #[.string y] wx fun e w' => e = .returned (.tuple #[.string X, .int .i64 (u : Int), .int .i64 er]) ∧ Below wx.heap.size wx w') := Lib.hid fun wx => by
      have := next_any y wx (by omega)
      rw [hyb, hnx] at this
      rw [hX]
      exact this
    have hua : a + u ≤ s.size := by have h : u ≤ s.size - a := hu; omega
    have hau : (u : Int) ≤ 1000000 := by omega
    have haa : (a : Int) ≤ 1000000 := by omega
    have HXB := Lib.hid hXb
    have HNX := Lib.hid hnx
    have HRUN := Lib.hid HDA.out.run
    have c0 := R.row.cell 0 rfl
    have c1 := R.row.cell 1 rfl
    have hgw : g ≤ wr.heap.size := by have := R.gB; have := R.sz; omega
    clear hy hyb hX hXb hnx hu hl2
    go_wp2_with fail
    go_region_held3 (fun w' => w'.cell? ⟨g, 0, none⟩ = some (.string s) ∧ w'.cell? ⟨g, 1, none⟩ = some (.int .i64 (a : Int)) ∧ Below wr.heap.size wr w') (first | assumption | exact ⟨c0, c1, (Below.refl _ _).drew⟩ | (exact fkeep2 (by first | assumption | exact ⟨c0, c1, (Below.refl _ _).drew⟩) hbx)) ((go_at_call 46; (with_reducible refine (HN.out _).mono ?_); rintro e w' ⟨rfl, hbx⟩))
    have hq := flast2 (w3 := wr) (by assumption)
    clear c0 c1 HN
    have R1 := R.below hq
    have b1 := hb.trans (hq.mono hgw)
    clear R hb hq
    by_cases her : er = 0
    · subst her
      have hsum : ((a + u : Nat) : Int) = (a : Int) + (u : Int) := by omega
      have e1 := R1.row.cell 1 rfl
      have f1 := R1.row.free 1
      have R2 := R1.set 1 (.int .i64 ((a : Int) + (u : Int))) (a + u) _ (by rw [hsum]; rfl)
      have b2 := b1.setCell (p := ⟨g, 1, none⟩) (Nat.le_refl _) (.int .i64 ((a : Int) + (u : Int)))
      have g1 := R2.row.cell 1 rfl
      rw [hsum] at g1
      clear R1 b1 hsum
      by_cases h16 : 16000 < (a : Int) + (u : Int)
      · have HF : Hid (hd = (4, 0, [])) := Lib.hid (by rw [HRUN.out]; exact hdGo_long HNX.out (.inl (by omega)))
        go_wp2_with fail
        go_ret
        exact ⟨by rw [HF.out]; rfl, b2, fun h => absurd h (by rw [HF.out]; decide)⟩
      by_cases h0 : n = 0
      · subst h0
        have ha00 : a = 0 := ha0 rfl
        have hxs : xs = [] := HDA.out.z0 rfl
        subst hxs
        have HA0 := Lib.hid ha00
        clear ha00 ha0
        rw [if_pos rfl] at R2
        have HCL := Lib.hid (HSP.out _ (a + u) vf1 vl1 vc1 X b2 (by simpa [unfrL, getF] using R2) zX)
        obtain ⟨es, hes⟩ : ∃ es, es = st (bs X) := ⟨_, rfl⟩
        rw [← hes] at HCL
        have HES := Lib.hid hes
        clear R2 hes
        go_wp2_with fail
        refine HCL.out.mono ?_
        rintro e w3 ⟨rfl, b3', R3⟩
        have b3 := b2.trans b3'
        clear HCL e1 f1 g1 b2 b3'
        by_cases hs0 : es = 0
        · subst hs0
          have HST : Hid (hd = hdGo st f' 1 (((bs s).drop a).drop u) (a + u) []) := Lib.hid (by rw [HRUN.out]; exact hdGo_start HNX.out (by omega) (by rw [← HXB.out]; exact HES.out.symm))
          go_wp2_with fail
          go_roundw
          case rel => exact ⟨1, a + u, f', [], by go_num, by omega, hua, by omega, Lib.hid { n65 := by omega, len := by simp, sz := by simp, ha := hua, run := by rw [HST.out, List.drop_drop], fuel := by have := HDA.out.fuel; have h2 := (nextL_inv HNX.out).1; rw [List.length_drop] at this ⊢; rw [bs_length] at this ⊢; omega, rd := ⟨vf1, vl1, vc1, by rw [HQ.out, if_neg (by omega), show (nextL (bs s)).1 = bs X by rw [HXB.out]; have := HNX.out; rw [HA0.out, List.drop_zero] at this; rw [this]]; exact R3⟩, z0 := fun _ => rfl, bel := b3 }⟩
          case measure => simp [intOf]
        · have hs0' : (es != 0) = true := by simp [hs0]
          have HF : Hid (hd = (es, 0, [])) := Lib.hid (by rw [HRUN.out, HES.out, HXB.out]; exact hdGo_start_err HNX.out (by omega) (by rw [← HXB.out, ← HES.out]; exact hs0))
          go_wp2_with fail
          go_ret
          exact ⟨by rw [HF.out]; rfl, b3, fun h => absurd h (by rw [HF.out]; exact hs0)⟩
      have h0' : ((n : Int) == 0) = false := by rw [beq_eq_false_iff_ne]; omega
      rw [if_neg h0] at R2
      by_cases hz0 : X.size = 0
      · obtain ⟨e4, e2⟩ := femp_yes hz0
        have hx0 : x = [] := by rw [← HXB.out]; exact e2
        have HF : Hid (hd = (0, a + u, xs)) := Lib.hid (by rw [HRUN.out]; exact hdGo_end (by rw [HNX.out, hx0]) (by omega) h0)
        clear hz0 e2 hx0
        have hR : HdOut T _ B g s hd q1 := ⟨⟨vf1, vl1, vc1, by rw [HF.out]; exact R2⟩, by rw [HF.out]; exact hua, by rw [HF.out]; have := HDA.out.len; show xs.length ≤ 65; omega, by rw [HF.out]; exact HDA.out.sz⟩
        clear R2
        go_wp2_with fail
        all_goals (go_ret; exact ⟨by rw [HF.out]; rfl, b2, fun _ => hR⟩)
      obtain ⟨e4, e2⟩ := femp_no hz0
      have hxn : x ≠ [] := by rw [← HXB.out]; exact e2
      by_cases h64 : 64 < (n : Int)
      · have HF : Hid (hd = (4, 0, [])) := Lib.hid (by rw [HRUN.out]; exact hdGo_long HNX.out (.inr ⟨by omega, hxn⟩))
        clear hz0 e2 hxn
        go_wp2_with fail
        go_ret
        exact ⟨by rw [HF.out]; rfl, b2, fun h => absurd h (by rw [HF.out]; decide)⟩
      have hlx := fieldL_len (bs X)
      have hll := HDA.out.len
      have HFA := Lib.hid (field_any T _ B g s (a + u) (unfrL xs) (getF clN xs) (getF teN xs) vf1 vl1 vc1 q1 X R2 (by omega) (fun e he => by rw [← he]; have := hlx.1; rw [bs_length] at this; omega) ⟨by have := List.length_filter_le plainF xs; unfold unfrL; omega, by have := getF_len2 clN xs; omega, by have := getF_len2 teN xs; omega⟩ (HMX.out _ b2))
      obtain ⟨ef, hef⟩ : ∃ ef, ef = (fieldL (bs X)).2 := ⟨_, rfl⟩
      rw [← hef] at HFA
      have HEF := Lib.hid hef
      have HXN := Lib.hid hxn
      have HLX := Lib.hid hlx
      clear hz0 e2 hxn hef R2 hlx
      go_wp2_with fail
      refine HFA.out.mono ?_
      rintro e w3 ⟨rfl, hb3, hF3⟩
      have b3 := b2.trans hb3
      clear HFA hb3 b2 e1 f1 g1
      by_cases hf0 : ef = 0
      · subst hf0
        obtain ⟨vf3, vl3, vc3, R3⟩ := hF3 rfl
        have HST : Hid (hd = hdGo st f' (n + 1) (((bs s).drop a).drop u) (a + u) (xs ++ [mkF (fieldL x).1])) := Lib.hid (by rw [HRUN.out]; exact hdGo_field HNX.out (by omega) (by omega) h0 HXN.out (by rw [← HXB.out]; exact HEF.out.symm))
        have hsz : ∀ y ∈ xs ++ [mkF (fieldL x).1], y.1.size ≤ 2000 ∧ y.2.size ≤ 2000 := fun y hy => by
          rcases List.mem_append.1 hy with hy | hy
          · exact HDA.out.sz y hy
          · rw [List.mem_singleton] at hy; subst hy
            have := HLX.out
            rw [HXB.out] at this
            have hx2 : x.length ≤ 2000 := by rw [← HXB.out, bs_length]; exact zX
            exact ⟨by show (fieldL x).1.1.length ≤ 2000; omega, by show (fieldL x).1.2.length ≤ 2000; omega⟩
        have HN : Hid (HdAt T w B g s st r0 q1 hd w3 (n + 1) (a + u) f' (xs ++ [mkF (fieldL x).1])) := Lib.hid { n65 := by omega, len := by rw [List.length_append]; simp; omega, sz := hsz, ha := hua, run := by rw [HST.out, List.drop_drop], fuel := by have := HDA.out.fuel; have h2 := (nextL_inv HNX.out).1; rw [List.length_drop] at this ⊢; rw [bs_length] at this ⊢; omega, rd := ⟨vf3, vl3, vc3, by rw [if_neg (by omega), unfr_snoc, getF_snoc, getF_snoc, ← HXB.out]; exact R3⟩, z0 := fun h => absurd h (by omega), bel := b3 }
        clear R3 hF3
        go_wp2_with fail
        go_roundw
        case rel => exact ⟨n + 1, a + u, f', xs ++ [mkF (fieldL x).1], by go_num, by omega, hua, fun h => absurd h (by omega), HN⟩
        case measure => simp [intOf]; omega
      · have hf0' : (ef != 0) = true := by simp [hf0]
        have HF : Hid (hd = (ef, 0, [])) := Lib.hid (by rw [HRUN.out, HEF.out, HXB.out]; exact hdGo_field_err HNX.out (by omega) (by omega) h0 HXN.out (by rw [← HXB.out, ← HEF.out]; exact hf0))
        clear hF3
        go_wp2_with fail
        go_ret
        exact ⟨by rw [HF.out]; rfl, b3, fun h => absurd h (by rw [HF.out]; exact hf0)⟩
    · have her' : (er != 0) = true := by simp [her]
      have HF : Hid (hd = (er, 0, [])) := Lib.hid (by rw [HRUN.out]; exact hdGo_err (by rw [HNX.out]) her)
      clear R1
      go_wp2_with fail
      go_ret
      exact ⟨by rw [HF.out]; rfl, b1, fun h => absurd h (by rw [HF.out]; exact her)⟩
end Go.Proofs.YtfnmohaddkoalaaGreatDoor
