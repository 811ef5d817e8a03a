/- The reader of messages (layer 6): the head. The reader of messages (layer 6): the body in all cases. The walks of the program's fields by name (layer 3), second part: the closures, Has, Get, First, Remove. Heads in plain terms (layer 6): what lines of fields are read as, whole and cut short. No program in sight. Requests with two framing fields or two Host fields, in plain terms (layer 6). No program in sight. A status line by its places, and what the statements on layer 2 say in plain terms. What is written as a line is read back, and what is read is written as the same line (layer 2). No program in sight. Messages as they are written, in plain terms (layer 6), and what is read of them. No program in sight. message.ParseRequest (layer 6): it answers parseQ. Printed by gen_msgr.py. What the listed variables give the walks of law 6 (message): the errors of a start line. The walk of the reference's Decimal (1.3). The walks of decimal numbers (1.3), of the program and of the reference. The walk of MessageAmbiguous (law 6): it returns true. Printed by gen_ambl.py. -/
import Derived.Test.YtfnmohaddkoalaaDoorQMsgW9
import Derived.Test.YtfnmohaddkoalaaDoorQFline
import Derived.Laws.EntriesVeiled
import Derived.Test.YtfnmohaddkoalaaDoorQMsgP
import Derived.Test.YtfnmohaddkoalaaDoorQPre
import Derived.Test.YtfnmohaddkoalaaDoorQPost
import Derived.OpenShut
import Derived.Test.YtfnmohaddkoalaaDoorQBufW
import Derived.Lib.ItoaLen
import Derived.Lib.ItoaMem
import Derived.Test.YtfnmohaddkoalaaDoorShelf
import Derived.Deep.RegionHeld3
namespace Go.Proofs.YtfnmohaddkoalaaDoor
open Go.RowKit Go.Shelf
set_option linter.unusedSimpArgs false
set_option linter.unusedVariables false

theorem unfr_snoc (xs : List Fd) (x : Fd) : unfrL (xs ++ [x]) = unfrL xs ++ [x].filter plainF := by unfold unfrL; rw [List.filter_append]
theorem getF_snoc (n : List UInt8) (xs : List Fd) (x : Fd) : getF n (xs ++ [x]) = getF n xs ++ getF n [x] := by unfold getF; rw [List.filter_append, List.map_append]
/-- What is asked of the function that reads the start line. -/
def SPred (fn : Nat) (T : TypeId) (w : World) (B g : Nat) (s : ByteArray) (st : List UInt8 → Int) (r0 : List Value) (r1 : List UInt8 → List Value) : Prop :=
  ∀ (W : World) (a : Nat) (vf vl vc : Value) (line : ByteArray), Below g w W → RdAt T W B g s a [] [] [] vf vl vc r0 → line.size ≤ 2000 →
    Calls Tryd.prog fn #[.pointer (some ⟨g, 0, none⟩), .string line] W fun e w' => e = .returned (.int .i64 (st (bs line))) ∧ Below g W w' ∧ RdAt T w' B g s a [] [] [] vf vl vc (r1 (bs line))
/-- What the loop knows. -/
structure HdAt (T : TypeId) (w : World) (B g : Nat) (s : ByteArray) (st : List UInt8 → Int) (r0 r1 : List Value) (hd : Int × Nat × List Fd) (wr : World) (n : Nat) (a f : Nat) (xs : List Fd) : Prop where
  n65 : n ≤ 65
  len : xs.length ≤ n
  sz : ∀ x ∈ xs, x.1.size ≤ 2000 ∧ x.2.size ≤ 2000
  ha : a ≤ s.size
  run : hd = hdGo st f n ((bs s).drop a) a xs
  fuel : ((bs s).drop a).length < f
  rd : ∃ vf vl vc, RdAt T wr B g s a (unfrL xs) (getF clN xs) (getF teN xs) vf vl vc (if n = 0 then r0 else r1)
  z0 : n = 0 → xs = []
  bel : Below g w wr
/-- The head of a message. -/
theorem fieldL_len (l : List UInt8) : (fieldL l).1.1.length ≤ l.length ∧ (fieldL l).1.2.length ≤ l.length := by
  have hc := cutB_len 58 l
  have ht := trimL_len (cutB 58 l).2.1
  unfold fieldL
  split
  · simp
  · split
    · split
      · exact ⟨by show (cutB 58 l).1.length ≤ _; omega, by show (trimL (cutB 58 l).2.1).length ≤ _; omega⟩
      · simp
    · simp
theorem getF_len2 (n : List UInt8) (xs : List Fd) : (getF n xs).length ≤ xs.length := by unfold getF; rw [List.length_map]; exact List.length_filter_le _ _
/-- What the reader is behind a head. -/
def HdOut (T : TypeId) (w : World) (B g : Nat) (s : ByteArray) (hd : Int × Nat × List Fd) (q1 : List Value) : Prop :=
  (∃ vf vl vc, RdAt T w B g s hd.2.1 (unfrL hd.2.2) (getF clN hd.2.2) (getF teN hd.2.2) vf vl vc q1) ∧ hd.2.1 ≤ s.size ∧ hd.2.2.length ≤ 65 ∧ FldZ hd.2.2 2000
theorem hd_out {hd : Int × Nat × List Fd} {e : Int} (h : hd = (e, 0, [])) : hd.1 = e := by rw [h]
set_option maxHeartbeats 6400000 in
theorem head_any (T : TypeId) (w : World) (B g : Nat) (s : ByteArray) (st : List UInt8 → Int) (fn : Nat) (r0 : List Value) (r1 : List UInt8 → List Value) (vf vl vc : Value)
    (R : RdAt T w B g s 0 [] [] [] vf vl vc r0) (hs : s.size ≤ 1000000) (hM : ∀ W, Below g w W → MaxOf W)
    (eg : ∀ args w, (callFunc fn args).run Tryd.prog w = .ok (.enter fn args) w) (hS : SPred fn T w B g s st r0 r1) :
    Calls Tryd.prog 38 #[.pointer (some ⟨g, 0, none⟩), .func (.func fn) #[.pointer (some ⟨g, 0, none⟩)] #[]] w fun e w' => e = .returned (.int .i64 (hdL st (bs s)).1) ∧ Below g w w' ∧ ((hdL st (bs s)).1 = 0 → HdOut T w' B g s (hdL st (bs s)) (r1 (nextL (bs s)).1)) := by
  obtain ⟨hd, hhd⟩ : ∃ hd, hd = hdL st (bs s) := ⟨_, rfl⟩
  rw [← hhd]
  obtain ⟨q1, hq1⟩ : ∃ r, r = r1 (nextL (bs s)).1 := ⟨_, rfl⟩
  rw [← hq1]
  have H0 : Hid (HdAt T w B g s st r0 q1 hd w 0 0 ((bs s).length + 1) []) := Lib.hid { n65 := by omega, len := by simp, sz := by simp, ha := by omega, run := by rw [hhd, List.drop_zero]; rfl, fuel := by simp, rd := ⟨vf, vl, vc, by simpa [unfrL, getF] using R⟩, z0 := fun _ => rfl, bel := Below.refl _ _ }
  have HMX := Lib.hid hM
  have HSP := Lib.hid hS
  have HQ := Lib.hid hq1
  clear hhd hq1 R hM hS
  go_enter Tryd.func38, Tryd.ntmps38
  go_wp2_with fail
  go_loopw [5] (fun j wr => ∃ (n a f : Nat) (xs : List Fd), j = .int .i64 n ∧ n ≤ 65 ∧ a ≤ s.size ∧ (n = 0 → a = 0) ∧ Hid (HdAt T w B g s st r0 q1 hd wr n a f xs)) (fun j _ => 66 - (intOf j).toNat)
  case atStart => exact ⟨0, 0, _, [], rfl, by omega, by omega, fun _ => rfl, H0⟩
  case round =>
    obtain ⟨n, a, f, xs, rfl, hn, ha, ha0, HDA⟩ := hrel
    obtain ⟨vf1, vl1, vc1, R⟩ := HDA.out.rd
    have hb := HDA.out.bel
    obtain ⟨f', hf⟩ : ∃ f', f = f' + 1 := ⟨f - 1, by have := HDA.out.fuel; omega⟩
    subst hf
    obtain ⟨y, hy⟩ : ∃ y : ByteArray, y = s.extract a s.size := ⟨_, rfl⟩
    have p1 : ∀ wx, (Instr.slice 9 (.string s) (some (.int .i64 (a : Int))) none none).run Tryd.prog wx = .ok (.string y) wx := fun wx => by rw [hy]; exact run_from2 s a _ rfl ha wx
    have zy : y.size ≤ 1000000 := by rw [hy, ByteArray.size_extract]; omega
    have hyb : bs y = (bs s).drop a := by rw [hy]; exact ext_from s a
    have hu := next_used ((bs s).drop a)
    rw [List.length_drop, bs_length] at hu
    have hl2 := next_len ((bs s).drop a)
    obtain ⟨x, u, er, hnx⟩ : ∃ x u er, nextL ((bs s).drop a) = (x, u, er) := ⟨_, _, _, rfl⟩
    rw [hnx] at hu hl2
    obtain ⟨X, hX⟩ : ∃ X : ByteArray, X = ⟨x.toArray⟩ := ⟨_, rfl⟩
    have hXb : bs X = x := by rw [hX]
    have zX : X.size ≤ 2000 := by rw [← bs_length, hXb]; exact hl2
    have HN : Hid (∀ wx, Calls Tryd.prog 22 #[.string y] wx fun e w' => e = .returned (.tuple #[.string X, .int .i64 (u : Int), .int .i64 er]) ∧ Below wx.heap.size wx w') := Lib.hid fun wx => by
      have := next_any y wx (by omega)
      rw [hyb, hnx] at this
      rw [hX]
      exact this
    have hua : a + u ≤ s.size := by have h : u ≤ s.size - a := hu; omega
    have hau : (u : Int) ≤ 1000000 := by omega
    have haa : (a : Int) ≤ 1000000 := by omega
    have HXB := Lib.hid hXb
    have HNX := Lib.hid hnx
    have HRUN := Lib.hid HDA.out.run
    have c0 := R.row.cell 0 rfl
    have c1 := R.row.cell 1 rfl
    have hgw : g ≤ wr.heap.size := by have := R.gB; have := R.sz; omega
    clear hy hyb hX hXb hnx hu hl2
    go_wp2_with fail
    go_region_held3 (fun w' => w'.cell? ⟨g, 0, none⟩ = some (.string s) ∧ w'.cell? ⟨g, 1, none⟩ = some (.int .i64 (a : Int)) ∧ Below wr.heap.size wr w') (first | assumption | exact ⟨c0, c1, (Below.refl _ _).drew⟩ | (exact fkeep2 (by first | assumption | exact ⟨c0, c1, (Below.refl _ _).drew⟩) hbx)) ((go_at_call 22; (with_reducible refine (HN.out _).mono ?_); rintro e w' ⟨rfl, hbx⟩))
    have hq := flast2 (w3 := wr) (by assumption)
    clear c0 c1 HN
    have R1 := R.below hq
    have b1 := hb.trans (hq.mono hgw)
    clear R hb hq
    by_cases her : er = 0
    · subst her
      have hsum : ((a + u : Nat) : Int) = (a : Int) + (u : Int) := by omega
      have e1 := R1.row.cell 1 rfl
      have f1 := R1.row.free 1
      have R2 := R1.set 1 (.int .i64 ((a : Int) + (u : Int))) (a + u) _ (by rw [hsum]; rfl)
      have b2 := b1.setCell (p := ⟨g, 1, none⟩) (Nat.le_refl _) (.int .i64 ((a : Int) + (u : Int)))
      have g1 := R2.row.cell 1 rfl
      rw [hsum] at g1
      clear R1 b1 hsum
      by_cases h16 : 16000 < (a : Int) + (u : Int)
      · have HF : Hid (hd = (4, 0, [])) := Lib.hid (by rw [HRUN.out]; exact hdGo_long HNX.out (.inl (by omega)))
        go_wp2_with fail
        go_ret
        exact ⟨by rw [HF.out]; rfl, b2, fun h => absurd h (by rw [HF.out]; decide)⟩
      by_cases h0 : n = 0
      · subst h0
        have ha00 : a = 0 := ha0 rfl
        have hxs : xs = [] := HDA.out.z0 rfl
        subst hxs
        have HA0 := Lib.hid ha00
        clear ha00 ha0
        rw [if_pos rfl] at R2
        have HCL := Lib.hid (HSP.out _ (a + u) vf1 vl1 vc1 X b2 (by simpa [unfrL, getF] using R2) zX)
        obtain ⟨es, hes⟩ : ∃ es, es = st (bs X) := ⟨_, rfl⟩
        rw [← hes] at HCL
        have HES := Lib.hid hes
        clear R2 hes
        go_wp2_with fail
        refine HCL.out.mono ?_
        rintro e w3 ⟨rfl, b3', R3⟩
        have b3 := b2.trans b3'
        clear HCL e1 f1 g1 b2 b3'
        by_cases hs0 : es = 0
        · subst hs0
          have HST : Hid (hd = hdGo st f' 1 (((bs s).drop a).drop u) (a + u) []) := Lib.hid (by rw [HRUN.out]; exact hdGo_start HNX.out (by omega) (by rw [← HXB.out]; exact HES.out.symm))
          go_wp2_with fail
          go_roundw
          case rel => exact ⟨1, a + u, f', [], by go_num, by omega, hua, by omega, Lib.hid { n65 := by omega, len := by simp, sz := by simp, ha := hua, run := by rw [HST.out, List.drop_drop], fuel := by have := HDA.out.fuel; have h2 := (nextL_inv HNX.out).1; rw [List.length_drop] at this ⊢; rw [bs_length] at this ⊢; omega, rd := ⟨vf1, vl1, vc1, by rw [HQ.out, if_neg (by omega), show (nextL (bs s)).1 = bs X by rw [HXB.out]; have := HNX.out; rw [HA0.out, List.drop_zero] at this; rw [this]]; exact R3⟩, z0 := fun _ => rfl, bel := b3 }⟩
          case measure => simp [intOf]
        · have hs0' : (es != 0) = true := by simp [hs0]
          have HF : Hid (hd = (es, 0, [])) := Lib.hid (by rw [HRUN.out, HES.out, HXB.out]; exact hdGo_start_err HNX.out (by omega) (by rw [← HXB.out, ← HES.out]; exact hs0))
          go_wp2_with fail
          go_ret
          exact ⟨by rw [HF.out]; rfl, b3, fun h => absurd h (by rw [HF.out]; exact hs0)⟩
      have h0' : ((n : Int) == 0) = false := by rw [beq_eq_false_iff_ne]; omega
      rw [if_neg h0] at R2
      by_cases hz0 : X.size = 0
      · obtain ⟨e4, e2⟩ := femp_yes hz0
        have hx0 : x = [] := by rw [← HXB.out]; exact e2
        have HF : Hid (hd = (0, a + u, xs)) := Lib.hid (by rw [HRUN.out]; exact hdGo_end (by rw [HNX.out, hx0]) (by omega) h0)
        clear hz0 e2 hx0
        have hR : HdOut T _ B g s hd q1 := ⟨⟨vf1, vl1, vc1, by rw [HF.out]; exact R2⟩, by rw [HF.out]; exact hua, by rw [HF.out]; have := HDA.out.len; show xs.length ≤ 65; omega, by rw [HF.out]; exact HDA.out.sz⟩
        clear R2
        go_wp2_with fail
        all_goals (go_ret; exact ⟨by rw [HF.out]; rfl, b2, fun _ => hR⟩)
      obtain ⟨e4, e2⟩ := femp_no hz0
      have hxn : x ≠ [] := by rw [← HXB.out]; exact e2
      by_cases h64 : 64 < (n : Int)
      · have HF : Hid (hd = (4, 0, [])) := Lib.hid (by rw [HRUN.out]; exact hdGo_long HNX.out (.inr ⟨by omega, hxn⟩))
        clear hz0 e2 hxn
        go_wp2_with fail
        go_ret
        exact ⟨by rw [HF.out]; rfl, b2, fun h => absurd h (by rw [HF.out]; decide)⟩
      have hlx := fieldL_len (bs X)
      have hll := HDA.out.len
      have HFA := Lib.hid (field_any T _ B g s (a + u) (unfrL xs) (getF clN xs) (getF teN xs) vf1 vl1 vc1 q1 X R2 (by omega) (fun e he => by rw [← he]; have := hlx.1; rw [bs_length] at this; omega) ⟨by have := List.length_filter_le plainF xs; unfold unfrL; omega, by have := getF_len2 clN xs; omega, by have := getF_len2 teN xs; omega⟩ (HMX.out _ b2))
      obtain ⟨ef, hef⟩ : ∃ ef, ef = (fieldL (bs X)).2 := ⟨_, rfl⟩
      rw [← hef] at HFA
      have HEF := Lib.hid hef
      have HXN := Lib.hid hxn
      have HLX := Lib.hid hlx
      clear hz0 e2 hxn hef R2 hlx
      go_wp2_with fail
      refine HFA.out.mono ?_
      rintro e w3 ⟨rfl, hb3, hF3⟩
      have b3 := b2.trans hb3
      clear HFA hb3 b2 e1 f1 g1
      by_cases hf0 : ef = 0
      · subst hf0
        obtain ⟨vf3, vl3, vc3, R3⟩ := hF3 rfl
        have HST : Hid (hd = hdGo st f' (n + 1) (((bs s).drop a).drop u) (a + u) (xs ++ [mkF (fieldL x).1])) := Lib.hid (by rw [HRUN.out]; exact hdGo_field HNX.out (by omega) (by omega) h0 HXN.out (by rw [← HXB.out]; exact HEF.out.symm))
        have hsz : ∀ y ∈ xs ++ [mkF (fieldL x).1], y.1.size ≤ 2000 ∧ y.2.size ≤ 2000 := fun y hy => by
          rcases List.mem_append.1 hy with hy | hy
          · exact HDA.out.sz y hy
          · rw [List.mem_singleton] at hy; subst hy
            have := HLX.out
            rw [HXB.out] at this
            have hx2 : x.length ≤ 2000 := by rw [← HXB.out, bs_length]; exact zX
            exact ⟨by show (fieldL x).1.1.length ≤ 2000; omega, by show (fieldL x).1.2.length ≤ 2000; omega⟩
        have HN : Hid (HdAt T w B g s st r0 q1 hd w3 (n + 1) (a + u) f' (xs ++ [mkF (fieldL x).1])) := Lib.hid { n65 := by omega, len := by rw [List.length_append]; simp; omega, sz := hsz, ha := hua, run := by rw [HST.out, List.drop_drop], fuel := by have := HDA.out.fuel; have h2 := (nextL_inv HNX.out).1; rw [List.length_drop] at this ⊢; rw [bs_length] at this ⊢; omega, rd := ⟨vf3, vl3, vc3, by rw [if_neg (by omega), unfr_snoc, getF_snoc, getF_snoc, ← HXB.out]; exact R3⟩, z0 := fun h => absurd h (by omega), bel := b3 }
        clear R3 hF3
        go_wp2_with fail
        go_roundw
        case rel => exact ⟨n + 1, a + u, f', xs ++ [mkF (fieldL x).1], by go_num, by omega, hua, fun h => absurd h (by omega), HN⟩
        case measure => simp [intOf]; omega
      · have hf0' : (ef != 0) = true := by simp [hf0]
        have HF : Hid (hd = (ef, 0, [])) := Lib.hid (by rw [HRUN.out, HEF.out, HXB.out]; exact hdGo_field_err HNX.out (by omega) (by omega) h0 HXN.out (by rw [← HXB.out, ← HEF.out]; exact hf0))
        clear hF3
        go_wp2_with fail
        go_ret
        exact ⟨by rw [HF.out]; rfl, b3, fun h => absurd h (by rw [HF.out]; exact hf0)⟩
    · have her' : (er != 0) = true := by simp [her]
      have HF : Hid (hd = (er, 0, [])) := Lib.hid (by rw [HRUN.out]; exact hdGo_err (by rw [HNX.out]) her)
      clear R1
      go_wp2_with fail
      go_ret
      exact ⟨by rw [HF.out]; rfl, b1, fun h => absurd h (by rw [HF.out]; exact her)⟩
end Go.Proofs.YtfnmohaddkoalaaDoor
namespace Go.Proofs.YtfnmohaddkoalaaDoor
open Go.RowKit Go.Shelf
set_option linter.unusedSimpArgs false
set_option linter.unusedVariables false

theorem trGo_used : ∀ (f n : Nat) (l : List UInt8) (a : Nat), (trGo f n l a).2 = 0 → (trGo f n l a).1 ≤ a + l.length
  | 0, _, _, _, h => by simp [trGo] at h
  | f + 1, n, l, a, h => by
    have hu := next_used l
    rw [trGo] at h ⊢
    by_cases h1 : (nextL l).2.2 ≠ 0
    · rw [if_pos h1] at h; exact absurd h h1
    rw [if_neg h1] at h ⊢
    by_cases h2 : (nextL l).1 = []
    · rw [if_pos h2]; show a + (nextL l).2.1 ≤ _; omega
    rw [if_neg h2] at h ⊢
    by_cases h3 : n = 64
    · rw [if_pos h3] at h; simp at h
    rw [if_neg h3] at h ⊢
    by_cases h4 : (fieldL (nextL l).1).2 ≠ 0
    · rw [if_pos h4] at h; exact absurd h h4
    rw [if_neg h4] at h ⊢
    have := trGo_used f (n + 1) _ _ h
    rw [List.length_drop] at this
    omega
theorem decGo_used : ∀ (f : Nat) (l b : List UInt8) (a : Nat), (decGo f l b a).2.1 ≤ a + l.length
  | 0, _, _, _ => by simp [decGo]
  | f + 1, l, b, a => by
    have hu := next_used l
    rw [decGo]
    by_cases h1 : (nextL l).2.2 ≠ 0
    · rw [if_pos h1]; simp
    rw [if_neg h1]
    cases hs : sizeL (nextL l).1 with
    | none => simp
    | some k =>
      dsimp only
      by_cases h2 : 100000 < b.length + k
      · rw [if_pos h2]; simp
      rw [if_neg h2]
      by_cases h3 : k = 0
      · rw [if_pos h3]
        by_cases h4 : (trailL (l.drop (nextL l).2.1) (a + (nextL l).2.1)).2 = 0
        · rw [if_pos h4]
          have : (trailL (l.drop (nextL l).2.1) (a + (nextL l).2.1)).1 ≤ _ := trGo_used _ _ _ _ h4
          rw [List.length_drop] at this
          show (trailL (l.drop (nextL l).2.1) (a + (nextL l).2.1)).1 ≤ _
          omega
        · rw [if_neg h4]; simp
      rw [if_neg h3]
      by_cases h5 : l.length < (nextL l).2.1 + k
      · rw [if_pos h5]; simp
      rw [if_neg h5]
      by_cases h6 : endE (l.drop ((nextL l).2.1 + k)) ≠ 0
      · rw [if_pos h6]; simp
      rw [if_neg h6]
      have := decGo_used f (l.drop ((nextL l).2.1 + k + 2)) (b ++ (l.drop (nextL l).2.1).take k) (a + (nextL l).2.1 + k + 2)
      rw [List.length_drop] at this
      have h7 : 2 ≤ (l.drop ((nextL l).2.1 + k)).length := by
        rcases Nat.lt_or_ge (l.drop ((nextL l).2.1 + k)).length 2 with hq | hq
        · exfalso
          apply h6
          unfold endE
          intro he
          split at he
          · omega
          · split at he
            · rename_i e2
              have := congrArg List.length e2
              rw [List.length_take] at this
              simp only [List.length_cons, List.length_nil] at this
              omega
            · omega
        · exact hq
      rw [List.length_drop] at h7
      omega
theorem decL_used {l X : List UInt8} {n : Nat} {e : Int} (h : decL l = (X, n, e)) : n ≤ l.length := by
  have := decGo_used (l.length + 1) l [] 0
  rw [show decGo (l.length + 1) l [] 0 = (X, n, e) from h] at this
  simpa using this
theorem frB_cl (c : ByteArray) : frE [] [c] = if (numGo (bs c) 0).isSome ∧ bs c ≠ [] ∧ c.size ≤ 9 then 0 else 8 := rfl
theorem frB_te (t c : ByteArray) (ls : List ByteArray) : frE [t] (c :: ls) = if foldB (bs t) chN then 8 else 7 := rfl
/-- What the reader is behind its body. -/
theorem body_any (T : TypeId) (w : World) (B g : Nat) (s : ByteArray) (a : Nat) (fs : List Fd) (ls cs : List ByteArray) (vf vl vc : Value) (rest : List Value)
    (R : RdAt T w B g s a fs ls cs vf vl vc rest) (ha : a ≤ s.size) (hs : s.size ≤ 1000000) (hM : MaxOf w) (hf : frE cs ls = 0) (X : ByteArray) (n : Nat) (er : Int) (hb : bdE cs ls ((bs s).drop a) = (bs X, n, er)) :
    Calls Tryd.prog 42 #[.pointer (some ⟨g, 0, none⟩)] w fun e w' => e = .returned (.tuple #[.string X, .int .i64 er]) ∧ Below g w w' ∧ RdAt T w' B g s (a + n) fs ls cs vf vl vc rest ∧ a + n ≤ s.size := by
  have hX0 : ∀ {y : ByteArray}, ([] : List UInt8) = bs y → (⟨#[]⟩ : ByteArray) = y := fun h => ByteArray.ext (Array.toList_inj.1 h)
  rcases cs with _ | ⟨t, cs⟩
  · rcases ls with _ | ⟨c, ls⟩
    · rw [bdE] at hb
      obtain ⟨h1, h2⟩ := Prod.mk.inj hb
      obtain ⟨h2, h3⟩ := Prod.mk.inj h2
      subst h2 h3
      rw [← hX0 h1]
      exact (body_none T w B g s a fs vf vl vc rest R ha hs).mono fun e w' ⟨e1, e2, e3⟩ => ⟨e1, e2, e3, ha⟩
    · rcases ls with _ | ⟨c2, ls⟩
      · have hfr : (numGo (bs c) 0).isSome = true ∧ bs c ≠ [] ∧ c.size ≤ 9 := by
          rw [frB_cl] at hf
          by_cases hq : (numGo (bs c) 0).isSome = true ∧ bs c ≠ [] ∧ c.size ≤ 9
          · exact hq
          · rw [if_neg hq] at hf; omega
        obtain ⟨hq1, hq2, hq3⟩ := hfr
        obtain ⟨k, hk⟩ := Option.isSome_iff_exists.1 hq1
        obtain ⟨hk0, _⟩ := numGo_bd _ _ _ (by omega) (by omega) hk
        have hv := numV_some hk
        have hlen : ((bs s).drop a).length = s.size - a := by rw [List.length_drop, bs_length]
        rw [bdE, hk] at hb
        dsimp only at hb
        by_cases hbig : 100000 < k
        · rw [if_pos hbig] at hb
          obtain ⟨h1, h2⟩ := Prod.mk.inj hb
          obtain ⟨h2, h3⟩ := Prod.mk.inj h2
          subst h2 h3
          rw [← hX0 h1]
          exact (body_big T w B g s a fs c vf vl vc rest R ha hs (by omega) k _ hv hbig).mono fun e w' ⟨e1, e2, e3⟩ => ⟨e1, e2, e3, ha⟩
        · rw [if_neg hbig, hlen] at hb
          by_cases hsh : ((s.size - a : Nat) : Int) < k
          · rw [if_pos hsh] at hb
            obtain ⟨h1, h2⟩ := Prod.mk.inj hb
            obtain ⟨h2, h3⟩ := Prod.mk.inj h2
            subst h2 h3
            rw [← hX0 h1]
            exact (body_short T w B g s a fs c vf vl vc rest R ha hs (by omega) k _ hv hbig (by omega)).mono fun e w' ⟨e1, e2, e3⟩ => ⟨e1, e2, e3, ha⟩
          · rw [if_neg hsh] at hb
            obtain ⟨h1, h2⟩ := Prod.mk.inj hb
            obtain ⟨h2, h3⟩ := Prod.mk.inj h2
            obtain ⟨m, hm⟩ : ∃ m : Nat, k = (m : Int) := ⟨k.toNat, by omega⟩
            subst hm
            rw [Int.toNat_natCast] at h1 h2
            subst h2 h3
            have hX : s.extract a (a + m) = X := by
              apply ByteArray.ext
              apply Array.ext'
              show bs _ = bs _
              rw [← h1, ext_mid, show a + m - a = m by omega]
            rw [← hX]
            exact (body_len T w B g s a fs c vf vl vc rest R ha hs (by omega) m _ hv (by omega) (by omega)).mono fun e w' ⟨e1, e2, e3⟩ => ⟨e1, e2, e3, by omega⟩
      · have h8 : frE [] (c :: c2 :: ls) = 8 := rfl
        omega
  · rcases cs with _ | ⟨t2, cs⟩
    · have hls : ls = [] := by
        rcases ls with _ | ⟨c, ls⟩
        · rfl
        · exfalso; rw [frB_te] at hf; split at hf <;> omega
      subst hls
      rw [bdE] at hb
      have hn := decL_used hb
      rw [List.length_drop, bs_length] at hn
      exact (body_chunks T w B g s a fs t [] [] vf vl vc rest R ha hs hM X n er hb (by omega)).mono fun e w' ⟨e1, e2, e3⟩ => ⟨e1, e2, e3, by omega⟩
    · have h7 : frE (t :: t2 :: cs) ls = 7 := rfl
      omega
end Go.Proofs.YtfnmohaddkoalaaDoor
namespace Go.Proofs.YtfnmohaddkoalaaDoor
open Go.RowKit Go.Shelf

theorem keep2c {w1 w2 : World} {p q : Addr} {u v : Value} (h : w1.cell? p = some u ∧ w1.cell? q = some v) (hb : Below w1.heap.size w1 w2) : w2.cell? p = some u ∧ w2.cell? q = some v :=
  ⟨(hb.cell (cell_lt h.1)).trans h.1, (hb.cell (cell_lt h.2)).trans h.2⟩
set_option maxHeartbeats 1600000 in
theorem named1_pred (n : List UInt8) (B : Nat) (w : World) (hB : B < w.heap.size) (_ : n.length ≤ 1000000) (hc : w.cell? ⟨B, 0, none⟩ = some (.string ⟨(lowL n).toArray⟩)) : FPred 80 #[.pointer (some ⟨B, 0, none⟩)] (isF n) w := by
  intro W x hb hz
  have cB0 : W.cell? ⟨B, 0, none⟩ = some (.string ⟨(lowL n).toArray⟩) := (hb.cell (p := ⟨B, 0, none⟩) hB).trans hc
  have cB : (W.alloc (.cells #[.string x.1, .string x.2] 29)).cell? ⟨B, 0, none⟩ = some (.string ⟨(lowL n).toArray⟩) := ((alloc_b W _).cell (p := ⟨B, 0, none⟩) (cell_lt cB0)).trans cB0
  have R := RowAt.new W [.string x.1, .string x.2] 29
  have c0 := R.cell 0 rfl
  have hbW := alloc_b W (.cells #[.string x.1, .string x.2] 29)
  have hzl : ((⟨(lowL n).toArray⟩ : ByteArray).size : Int) = (n.length : Int) := by
    have : (⟨(lowL n).toArray⟩ : ByteArray).size = (lowL n).length := rfl
    rw [this, lowL_length]
  clear hb hc cB0 R
  obtain ⟨l, hlq⟩ : ∃ l : ByteArray, l = ⟨(lowL n).toArray⟩ := ⟨_, rfl⟩
  rw [← hlq] at cB hzl
  have HQ := Lib.hid hlq
  clear hlq
  by_cases hl : x.1.size = n.length
  · have hl' : ((x.1.size : Int) == (n.length : Int)) = true := by simp [hl]
    have H := Lib.hid (isF_low hl)
    clear hl
    go_enter Tryd.func80, Tryd.ntmps80
    go_wp2_with fail
    generalize hw1 : W.alloc (.cells #[.string x.1, .string x.2] 29) = w1 at *
    have HW := Lib.hid hw1
    clear hw1
    go_region_held3 (fun w' => (w'.cell? ⟨W.heap.size, 0, none⟩ = some (.string x.1) ∧ w'.cell? ⟨B, 0, none⟩ = some (.string l)) ∧ Below w1.heap.size w1 w') (first | assumption | exact ⟨⟨c0, cB⟩, (Below.refl _ _).drew⟩ | (exact ⟨keep2c (by first | assumption | exact ⟨c0, cB⟩) hb, step_b (by first | assumption | exact (Below.refl _ _).drew) hb⟩)) (first | (go_at_call 46; refine (lower_any _ _ (by omega)).mono ?_; rintro e w' ⟨rfl, hb⟩))
    have hq : (w'.cell? ⟨W.heap.size, 0, none⟩ = some (.string x.1) ∧ w'.cell? ⟨B, 0, none⟩ = some (.string l)) ∧ Below w1.heap.size w1 w' := by assumption
    go_wp2_with fail
    go_ret
    exact ⟨ret_bool (by rw [H.out, HQ.out, Lib.toList_data]), step_b hbW hq.2⟩
  · have hl' : ((x.1.size : Int) == (n.length : Int)) = false := by simp; omega
    have H := Lib.hid (isF_len hl)
    clear hl
    go_enter Tryd.func80, Tryd.ntmps80
    go_wp2_with fail
    go_quiet (fail)
    go_wp2_with fail
    go_ret
    exact ⟨ret_bool H.out.symm, below_drewN hbW _⟩
theorem eg_named1 (args : Array Value) (w : World) : (callFunc 80 args).run Tryd.prog w = .ok (.enter 80 args) w := enters_of Tryd.func80 (by kernel_rfl) rfl args w
theorem getF_size (n : List UInt8) (xs : List Fd) : ((getF n xs).length > 0) ↔ (xs.filter (isF n)).length > 0 := by simp [getF]
theorem FBuf.len_le {w : World} {B : Nat} {v : Value} {xs : List Fd} {p : Fd → Bool} (_ : FBuf w B v (xs.filter p)) : (xs.filter p).length ≤ xs.length := List.length_filter_le _ _
theorem getF_take {ys : List Fd} {k : Nat} {x : Fd} (hx : ys[k]? = some x) : ((ys.take (k + 1)).map (·.2)) = (ys.take k).map (·.2) ++ [x.2] := by
  obtain ⟨hk, he⟩ := List.getElem?_eq_some_iff.1 hx
  rw [List.take_succ_eq_append_getElem hk, List.map_append, he]; rfl
theorem StrO.ofS {w : World} {B : Nat} {v : Value} {xs : List ByteArray} (h : SBuf w B v xs) : ∃ oa cap, v = .slice oa xs.length cap ∧ StrO w oa xs := by
  obtain ⟨oa, cap, rfl, _⟩ := h.shape
  refine ⟨oa, cap, rfl, fun i x hx => ?_⟩
  have hl : 0 < xs.length := by have := (List.getElem?_eq_some_iff.1 hx).1; omega
  obtain ⟨g, cap', e, _, _, hA, _⟩ := h.form hl
  cases e
  refine ⟨_, rfl, ?_⟩
  have ea : (⟨g, 0, none⟩ : Addr).add i = ⟨g, i, none⟩ := by unfold Addr.add; by_cases h0 : i = 0 <;> simp [h0]
  rw [ea]; exact hA i x hx
theorem SBuf.lower {w : World} {B B' : Nat} {v : Value} {xs : List ByteArray} (h : SBuf w B v xs) (hB : B' ≤ B) : SBuf w B' v xs := by
  refine ⟨h.1, ?_⟩
  rcases h.2 with h0 | ⟨g, cap, cur, h1, h2, h3, h4⟩
  · exact .inl h0
  · exact .inr ⟨g, cap, cur, h1, by omega, h3, h4⟩
theorem new_2nd (w : World) (o : Obj) (c : ByteArray) (t : TypeId) : ((w.alloc o).alloc (.cells #[.string c] t)).cell? ⟨w.heap.size + 1, 0, none⟩ = some (.string c) := by
  have h := cell_new (w.alloc o) (.string c) t
  rw [show (w.alloc o).heap.size = w.heap.size + 1 from Array.size_push _] at h
  exact h
theorem StrO.new1 (w : World) (c : ByteArray) (t : TypeId) : (w.alloc (.cells #[.string c] t)).cell? ⟨w.heap.size, 0, none⟩ = some (.string c) := cell_new w _ _
set_option maxHeartbeats 1600000 in
theorem get_any (oa : Option Addr) (xs : List Fd) (cap : Nat) (s : ByteArray) (w : World) (hs : s.size ≤ 100000) (hn : xs.length ≤ 100000) (hz : FldZ xs 100000) (hc : FldO w oa xs) :
    Calls Tryd.prog 41 #[.slice oa xs.length cap, .string s] w fun e w' => ∃ v, e = .returned v ∧ SBuf w' w.heap.size v (getF (bs s) xs) ∧ Below w.heap.size w w' := by
  have HC := Lib.hid hc
  have HZ := Lib.hid hz
  clear hc hz
  go_enter Tryd.func41, Tryd.ntmps41
  go_wp2_with fail
  refine (named_any s _ (by omega)).mono ?_
  rintro e w1 ⟨rfl, cB, zB, hb1⟩
  have HF := Lib.hid (filter_any oa xs cap _ _ _ w1 eg_named1 (named1_pred (bs s) w.heap.size w1 zB (by rw [bs_length]; omega) cB) hn HZ.out (HC.out.down hb1))
  clear cB
  go_wp2_with fail
  refine HF.out.mono ?_
  rintro e w2 ⟨v, rfl, FB, hb2⟩
  obtain ⟨ys, hys⟩ : ∃ ys, ys = xs.filter (isF (bs s)) := ⟨_, rfl⟩
  rw [← hys] at FB
  have hyl : ys.length ≤ xs.length := by rw [hys]; exact List.length_filter_le _ _
  obtain ⟨ob, cb, rfl, FO⟩ := FB.shape
  have HO := Lib.hid FO
  have HY := Lib.hid hys
  have b2 := step_b hb1 hb2
  clear FO hys FB hb1 hb2 HF zB
  go_wp2_with fail
  go_loopw [5, 13] (fun v j wr => ∃ k : Nat, k ≤ ys.length ∧ j = .int .i64 k ∧ SBuf wr w2.heap.size v ((ys.take k).map (·.2)) ∧ Below w2.heap.size w2 wr) (fun _ j _ => ys.length - (intOf j).toNat)
  case atStart => exact ⟨0, by omega, rfl, SBuf.nil_ _ _, Below.refl _ _⟩
  case round =>
    obtain ⟨k, hk, rfl, SB, hbr⟩ := hrel
    by_cases hlt : k < ys.length
    · obtain ⟨x, hx⟩ : ∃ x, ys[k]? = some x := ⟨_, List.getElem?_eq_getElem hlt⟩
      obtain ⟨ad, rfl, c0, c1⟩ := (HO.out.down hbr).at hx
      have HS := Lib.hid (getF_take hx)
      have hl10 : ((ys.take k).map (·.2)).length + 1 ≤ 1000000 := by rw [List.length_map, List.length_take]; omega
      have F4 := RowAt.new wr [.string x.1, .string x.2] 29
      have e1 := F4.cell 1 rfl
      have SB1 := SB.alloc (.cells #[.string x.1, .string x.2] 29)
      have br4 := hbr.alloc hbr.size (.cells #[.string x.1, .string x.2] 29)
      have zr4 := br4.size
      clear hx F4 SB hbr
      go_wp2_with (at_builtin; refine wpList_append_str rfl (.tmp 17) (.tmp 20) rfl w2 _ w2.heap.size _ ((ys.take k).map (·.2)) rfl (SB1.alloc _) (br4.alloc zr4 _) (le_alloc zr4 _) ⟨wr.heap.size + 1, 0, none⟩ x.2 rfl (new_2nd wr _ _ _) hl10 ?_)
      intro v5 w5 SB5 hb5 z5
      clear SB1 br4 zr4 e1 c0 c1
      go_wp2_with fail
      go_roundw
      case rel => exact ⟨k + 1, by omega, by go_num, by rw [HS.out, List.map_take]; exact SB5, hb5⟩
      case measure => simp [intOf]; omega
    · go_wp2_with fail
      go_ret
      exact ⟨_, rfl, by rw [getF, ← HY.out]; rw [List.take_of_length_le (by omega)] at SB; exact SB.lower b2.size, step_b b2 hbr⟩
def firstV : List ByteArray → Value
  | [] => .tuple #[.string ⟨#[]⟩, .bool false]
  | x :: _ => .tuple #[.string x, .bool true]
end Go.Proofs.YtfnmohaddkoalaaDoor
namespace Go.Proofs.YtfnmohaddkoalaaDoor
set_option linter.unusedSimpArgs false

/-- Lines with their ends. -/
def linesB : List (List UInt8) → List UInt8
  | [] => []
  | x :: r => x ++ 13 :: 10 :: linesB r
/-- A line that is a line, not empty. -/
def FLine (x : List UInt8) : Prop := (∀ c ∈ x, lineC c = true) ∧ x ≠ [] ∧ x.length ≤ 2000 ∧ (fieldL x).2 = 0
/-- The field of a line. -/
def lineF (x : List UInt8) : Fd := mkF (fieldL x).1
theorem linesB_app (a b : List (List UInt8)) : linesB (a ++ b) = linesB a ++ linesB b := by
  induction a with
  | nil => rfl
  | cons x r ih => simp [linesB, ih]
theorem lines_len (L : List (List UInt8)) : 2 * L.length ≤ (linesB L).length := by
  induction L with
  | nil => simp [linesB]
  | cons x r ih => simp [linesB]; omega
theorem drop_line (x r : List UInt8) : (x ++ 13 :: 10 :: r).drop (x.length + 2) = r := by
  rw [← List.drop_drop, List.drop_left' rfl]; rfl
section
variable {st : List UInt8 → Int}
theorem hdGo_lines (more : List UInt8) : ∀ (L : List (List UInt8)) (f n a : Nat) (xs : List Fd), L.length < f → n ≠ 0 → n + L.length ≤ 65 → (∀ x ∈ L, FLine x) → a + (linesB L).length + 2 ≤ 16000 →
    hdGo st f n (linesB L ++ 13 :: 10 :: more) a xs = (0, a + (linesB L).length + 2, xs ++ L.map lineF)
  | [], f, n, a, xs, hf, hn, h6, hL, ha => by
    obtain ⟨g, rfl⟩ : ∃ g, f = g + 1 := ⟨f - 1, by omega⟩
    have h := nextL_ok (a := []) more (by simp) (by simp)
    simp only [linesB, List.nil_append, List.length_nil, Nat.add_zero, Nat.zero_add, List.map_nil, List.append_nil] at h ha ⊢
    rw [hdGo_end h (by omega) hn]
  | x :: r, f, n, a, xs, hf, hn, h6, hL, ha => by
    obtain ⟨g, rfl⟩ : ∃ g, f = g + 1 := ⟨f - 1, by omega⟩
    obtain ⟨h1, h2, h3, h4⟩ := hL x (by simp)
    simp only [List.length_cons] at hf h6
    simp only [linesB, List.length_append, List.length_cons] at ha
    have e : linesB (x :: r) ++ 13 :: 10 :: more = x ++ 13 :: 10 :: (linesB r ++ 13 :: 10 :: more) := by simp [linesB]
    rw [e, hdGo_field (nextL_ok _ h1 h3) (by omega) (by omega) hn h2 h4, drop_line, hdGo_lines more r g (n + 1) _ _ (by omega) (by omega) (by omega) (fun y hy => hL y (by simp [hy])) (by omega)]
    refine Prod.ext rfl (Prod.ext ?_ ?_)
    · simp only [linesB, List.length_append, List.length_cons]; omega
    · simp [lineF]
theorem hd_lines {x : List UInt8} {L : List (List UInt8)} (more : List UInt8) (hx : ∀ c ∈ x, lineC c = true) (hl : x.length ≤ 2000) (h0 : st x = 0) (h6 : L.length ≤ 64) (hL : ∀ y ∈ L, FLine y) (ha : (linesB (x :: L)).length + 2 ≤ 16000) :
    hdL st (linesB (x :: L) ++ 13 :: 10 :: more) = (0, (linesB (x :: L)).length + 2, L.map lineF) := by
  have e : linesB (x :: L) ++ 13 :: 10 :: more = x ++ 13 :: 10 :: (linesB L ++ 13 :: 10 :: more) := by simp [linesB]
  have hlen := lines_len L
  simp only [linesB, List.length_append, List.length_cons] at ha
  unfold hdL
  rw [e, hdGo_start (nextL_ok _ hx hl) (by omega) h0, drop_line, hdGo_lines more L _ 1 _ _ (by simp; omega) (by omega) (by omega) hL (by omega)]
  refine Prod.ext rfl (Prod.ext ?_ rfl)
  simp only [linesB, List.length_append, List.length_cons]; omega
/-- A line that is cut short. -/
theorem cut_line {x : List UInt8} (r : List UInt8) {i : Nat} (hx : ∀ c ∈ x, lineC c = true) (hl : x.length ≤ 2000) (hi : i < x.length + 2) : nextL ((x ++ 13 :: 10 :: r).take i) = ([], 0, 2) := by
  by_cases h : i ≤ x.length
  · have e : (x ++ 13 :: 10 :: r).take i = x.take i ++ [] := by rw [List.take_append_of_le_length h, List.append_nil]
    rw [e]
    exact nextL_short (fun c hc => hx c (List.mem_of_mem_take hc)) (by rw [List.length_take]; omega) (.inl rfl)
  · have e : (x ++ 13 :: 10 :: r).take i = x ++ [13] := by
      have : i = x.length + 1 := by omega
      subst this
      rw [List.take_append, List.take_of_length_le (by omega)]; simp
    rw [e]
    exact nextL_short hx hl (.inr rfl)
theorem take_line (x r : List UInt8) {i : Nat} (hi : ¬ i < x.length + 2) : (x ++ 13 :: 10 :: r).take i = x ++ 13 :: 10 :: r.take (i - (x.length + 2)) := by
  rw [List.take_append, List.take_of_length_le (by omega)]
  obtain ⟨k, hk⟩ : ∃ k, i = x.length + 2 + k := ⟨i - (x.length + 2), by omega⟩
  subst hk
  have e1 : x.length + 2 + k - x.length = k + 2 := by omega
  have e2 : x.length + 2 + k - (x.length + 2) = k := by omega
  rw [e1, e2]; rfl
theorem hdGo_cut (more : List UInt8) : ∀ (L : List (List UInt8)) (f n a i : Nat) (xs : List Fd), i < f → n ≠ 0 → n + L.length ≤ 65 → (∀ x ∈ L, FLine x) → a + (linesB L).length + 2 ≤ 16000 → i < (linesB L).length + 2 →
    hdGo st f n ((linesB L ++ 13 :: 10 :: more).take i) a xs = (2, 0, [])
  | [], f, n, a, i, xs, hf, hn, h6, hL, ha, hi => by
    obtain ⟨g, rfl⟩ : ∃ g, f = g + 1 := ⟨f - 1, by omega⟩
    have h := cut_line (x := []) more (i := i) (by simp) (by simp) (by simpa [linesB] using hi)
    exact hdGo_err h (by omega)
  | x :: r, f, n, a, i, xs, hf, hn, h6, hL, ha, hi => by
    obtain ⟨g, rfl⟩ : ∃ g, f = g + 1 := ⟨f - 1, by omega⟩
    obtain ⟨h1, h2, h3, h4⟩ := hL x (by simp)
    simp only [List.length_cons] at hf h6
    simp only [linesB, List.length_append, List.length_cons] at ha hi
    have e : linesB (x :: r) ++ 13 :: 10 :: more = x ++ 13 :: 10 :: (linesB r ++ 13 :: 10 :: more) := by simp [linesB]
    rw [e]
    by_cases hc : i < x.length + 2
    · exact hdGo_err (cut_line _ h1 h3 hc) (by omega)
    · rw [take_line _ _ hc, hdGo_field (nextL_ok _ h1 h3) (by omega) (by omega) hn h2 h4, drop_line]
      exact hdGo_cut more r g (n + 1) _ _ _ (by omega) (by omega) (by omega) (fun y hy => hL y (by simp [hy])) (by omega) (by omega)
theorem hd_cut {x : List UInt8} {L : List (List UInt8)} (more : List UInt8) {i : Nat} (hx : ∀ c ∈ x, lineC c = true) (hl : x.length ≤ 2000) (h0 : st x = 0) (h6 : L.length ≤ 64) (hL : ∀ y ∈ L, FLine y) (ha : (linesB (x :: L)).length + 2 ≤ 16000) (hi : i < (linesB (x :: L)).length + 2) :
    hdL st ((linesB (x :: L) ++ 13 :: 10 :: more).take i) = (2, 0, []) := by
  have e : linesB (x :: L) ++ 13 :: 10 :: more = x ++ 13 :: 10 :: (linesB L ++ 13 :: 10 :: more) := by simp [linesB]
  have hlen := lines_len L
  simp only [linesB, List.length_append, List.length_cons] at ha hi
  unfold hdL
  rw [e]
  by_cases hc : i < x.length + 2
  · exact hdGo_err (cut_line _ hx hl hc) (by omega)
  · rw [take_line _ _ hc, hdGo_start (nextL_ok _ hx hl) (by omega) h0, drop_line]
    have hi2 : i - (x.length + 2) < (linesB L).length + 2 := by omega
    exact hdGo_cut more L _ 1 _ _ _ (by simp only [List.length_append, List.length_cons, List.length_take]; omega) (by omega) (by omega) hL (by omega) hi2
end
end Go.Proofs.YtfnmohaddkoalaaDoor
namespace Go.Proofs.YtfnmohaddkoalaaDoor
set_option linter.unusedSimpArgs false
set_option linter.unusedVariables false

/-- A field's line with a space behind the colon. -/
def lineS (n v : List UInt8) : List UInt8 := n ++ 58 :: 32 :: v
theorem valid_line {n v : List UInt8} (h : validF n v = true) : (∀ c ∈ n, lineC c = true) ∧ ∀ c ∈ v, lineC c = true := by
  obtain ⟨h1, h2, _, _⟩ := validF_iff.1 h
  refine ⟨fun c hc => ?_, text_all h2⟩
  unfold tokenB at h1
  rw [Bool.and_eq_true, List.all_eq_true] at h1
  exact text_line (part_text (h1.1 c hc))
theorem field_sp {n v : List UInt8} (h : validF n v = true) (hl : n.length + v.length + 2 ≤ 2000) : fieldL (lineS n v) = ((n, v), 0) := by
  obtain ⟨h1, h2, h3, h4⟩ := validF_iff.1 h
  have hc : 58 ∉ n := token_no h1 (by decide)
  have e1 : cutB 58 (lineS n v) = (n, 32 :: v, true) := cutB_hit hc _
  have e2 : trimL (32 :: v) = v := by
    have := trimL_pad (l := v) (p := [32]) (q := []) (by intro x hx; simp at hx; subst hx; decide) (by simp)
    rw [List.append_nil] at this
    exact this.trans h3
  have e3 : textB (32 :: v) = true := by unfold textB at h2 ⊢; rw [List.all_cons, h2]; decide
  have := fieldL_ok (l := lineS n v) (by unfold lineS; simp; omega) (by rw [e1]; simp [h1, e3]) (by rw [e1, e2]; exact h)
  rw [this, e1, e2]
theorem fline_sp {n v : List UInt8} (h : validF n v = true) (hl : n.length + v.length + 2 ≤ 2000) : FLine (lineS n v) ∧ lineF (lineS n v) = mkF (n, v) := by
  have hf := field_sp h hl
  obtain ⟨ha, hb⟩ := valid_line h
  refine ⟨⟨fun c hc => ?_, by unfold lineS; simp, by unfold lineS; simp; omega, by rw [hf]⟩, by unfold lineF; rw [hf]⟩
  unfold lineS at hc
  simp only [List.mem_append, List.mem_cons] at hc
  rcases hc with hc | rfl | rfl | hc
  · exact ha c hc
  · decide
  · decide
  · exact hb c hc
theorem dec_dig : ∀ (u : Nat), ∀ c ∈ Lib.decDigits u, ∃ d, d < 10 ∧ c = UInt8.ofNat (48 + d) := fun u => by
  induction u using Nat.strongRecOn with
  | ind u ih =>
    intro c hc
    by_cases h : u < 10
    · rw [Lib.decDigits_one h, List.mem_singleton] at hc
      exact ⟨u, h, hc⟩
    · rw [Lib.decDigits, dif_neg h, List.mem_append, List.mem_singleton] at hc
      rcases hc with hc | hc
      · exact ih _ (by omega) c hc
      · exact ⟨u % 10, by omega, hc⟩
theorem dec_len : ∀ (k u : Nat), 0 < k → u < 10 ^ k → (Lib.decDigits u).length ≤ k
  | 0, u, h, _ => by omega
  | k + 1, u, _, h => by
    by_cases hu : u < 10
    · rw [Lib.decDigits_one hu]; simp
    · rw [Lib.decDigits, dif_neg hu, List.length_append]
      have hk : 0 < k := by
        rcases Nat.eq_zero_or_pos k with rfl | hk
        · simp at h; omega
        · exact hk
      have := dec_len k (u / 10) hk (by rw [Nat.div_lt_iff_lt_mul (by omega)]; rw [Nat.pow_succ] at h; exact h)
      simp; omega
theorem dig_text {d : Nat} (h : d < 10) : textC (UInt8.ofNat (48 + d)) = true ∧ blankC (UInt8.ofNat (48 + d)) = false := by
  have : d = 0 ∨ d = 1 ∨ d = 2 ∨ d = 3 ∨ d = 4 ∨ d = 5 ∨ d = 6 ∨ d = 7 ∨ d = 8 ∨ d = 9 := by omega
  rcases this with rfl | rfl | rfl | rfl | rfl | rfl | rfl | rfl | rfl | rfl <;> decide
theorem drop_no {l : List UInt8} (h : ∀ c ∈ l, blankC c = false) : l.dropWhile blankC = l := by
  cases l with
  | nil => rfl
  | cons c t => exact drop_none (h c (by simp))
theorem trim_no {l : List UInt8} (h : ∀ c ∈ l, blankC c = false) : trimL l = l := by
  rw [← trimL_eq]
  unfold leftL rightL
  rw [drop_no h, drop_no (fun c hc => h c (List.mem_reverse.1 hc)), List.reverse_reverse]
theorem valid_dec {n : List UInt8} {u : Nat} (hn : tokenB n = true) (hl : n.length ≤ 100) (hu : u < 10 ^ 9) : validF n (Lib.decDigits u) = true := by
  have h9 := dec_len 9 u (by decide) hu
  refine validF_iff.2 ⟨hn, ?_, trim_no fun c hc => ?_, ?_⟩
  · unfold textB
    rw [List.all_eq_true]
    intro c hc
    obtain ⟨d, hd, rfl⟩ := dec_dig u c hc
    exact (dig_text hd).1
  · obtain ⟨d, hd, rfl⟩ := dec_dig u c hc
    exact (dig_text hd).2
  · have := formL_len n (Lib.decDigits u)
    omega
/-- "POST / HTTP/1.1", and the names in other cases. -/
abbrev postL : List UInt8 := [80, 79, 83, 84, 32, 47, 32, 72, 84, 84, 80, 47, 49, 46, 49]
abbrev clLow : List UInt8 := [99, 111, 110, 116, 101, 110, 116, 45, 108, 101, 110, 103, 116, 104]
abbrev hoUp : List UInt8 := [72, 79, 83, 84]
abbrev gzL : List UInt8 := [103, 122, 105, 112, 44, 32, 99, 104, 117, 110, 107, 101, 100]
/-- The fourth line. -/
def ambX (k : Int) (h d : List UInt8) : List UInt8 × List UInt8 := if k = 0 then (teN, chN) else if k = 1 then (clLow, d) else if k = 2 then (teN, gzL) else (hoUp, h)
def ambE (k : Int) : Int := if k = 0 then 8 else if k = 1 then 8 else if k = 2 then 7 else 6
def ambLs (k : Int) (h d : List UInt8) : List (List UInt8) := [postL, lineS hoN h, lineS clN d, lineS (ambX k h d).1 (ambX k h d).2]
theorem valid_up {h : List UInt8} (hv : validF hoN h = true) : validF hoUp h = true := by
  obtain ⟨_, h2, h3, h4⟩ := validF_iff.1 hv
  refine validF_iff.2 ⟨by decide, h2, h3, ?_⟩
  unfold formL at h4 ⊢
  split
  · decide
  · rename_i e; rw [if_neg e] at h4; simpa using h4
theorem frE_cl (c : ByteArray) : frE [] [c] = if (numGo (bs c) 0).isSome ∧ bs c ≠ [] ∧ c.size ≤ 9 then 0 else 8 := rfl
theorem amb_parse (k : Int) {h : List UInt8} {u : Nat} (hv : validF hoN h = true) (hl : h.length ≤ 100) (hu : u ≤ 100000) : ∃ q, parseQ (linesB (ambLs k h (Lib.decDigits u)) ++ [13, 10]) = (q, 0, ambE k) := by
  have vd := valid_dec (n := clN) (u := u) (by decide) (by decide) (by omega)
  have vd2 := valid_dec (n := clLow) (u := u) (by decide) (by decide) (by omega)
  have l9 := dec_len 9 u (by decide) (by omega)
  obtain ⟨f1, g1⟩ := fline_sp hv (by simp; omega)
  obtain ⟨f2, g2⟩ := fline_sp vd (by simp; omega)
  have vx : validF (ambX k h (Lib.decDigits u)).1 (ambX k h (Lib.decDigits u)).2 = true := by
    unfold ambX
    split
    · decide
    · split
      · exact vd2
      · split
        · decide
        · exact valid_up hv
  have lx : (ambX k h (Lib.decDigits u)).1.length + (ambX k h (Lib.decDigits u)).2.length + 2 ≤ 200 := by
    unfold ambX
    split
    · decide
    · split
      · simp; omega
      · split
        · decide
        · simp; omega
  obtain ⟨f3, g3⟩ := fline_sp vx (by omega)
  have hd := hd_lines (st := fun x => (reqL x).2.2.2) (x := postL) (L := [lineS hoN h, lineS clN (Lib.decDigits u), lineS (ambX k h (Lib.decDigits u)).1 (ambX k h (Lib.decDigits u)).2]) [] (by decide) (by decide) (by decide +kernel) (by simp)
    (fun y hy => by
      simp only [List.mem_cons, List.not_mem_nil, or_false] at hy
      rcases hy with rfl | rfl | rfl
      · exact f1
      · exact f2
      · exact f3)
    (by simp only [linesB, lineS, List.length_append, List.length_cons, List.length_nil]; omega)
  have hs : (numGo (Lib.decDigits u) 0).isSome = true := by rw [numGo_dec]; rfl
  have hne : Lib.decDigits u ≠ [] := fun e => by have := decDigits_ne u; rw [e] at this; cases this
  unfold parseQ
  rw [show ambLs k h (Lib.decDigits u) = postL :: [lineS hoN h, lineS clN (Lib.decDigits u), lineS (ambX k h (Lib.decDigits u)).1 (ambX k h (Lib.decDigits u)).2] from rfl, hd]
  simp only [List.map_cons, List.map_nil, g1, g2, g3]
  have a1 : isF clN (mkF (hoN, h)) = false := by unfold isF mkF; rfl
  have a2 : isF teN (mkF (hoN, h)) = false := by unfold isF mkF; rfl
  have a3 : isF hoN (mkF (hoN, h)) = true := by show foldB hoN hoN = true; decide
  have b1 : isF clN (mkF (clN, Lib.decDigits u)) = true := by show foldB clN clN = true; decide
  have b2 : isF teN (mkF (clN, Lib.decDigits u)) = false := by unfold isF mkF; rfl
  have b3 : isF hoN (mkF (clN, Lib.decDigits u)) = false := by unfold isF mkF; rfl
  have e1 : ∀ (y : Fd), getF clN [mkF (hoN, h), mkF (clN, Lib.decDigits u), y] = ⟨(Lib.decDigits u).toArray⟩ :: getF clN [y] := fun y => by
    unfold getF; rw [List.filter_cons_of_neg (by rw [a1]; simp), List.filter_cons_of_pos b1]; rfl
  have e2 : ∀ (y : Fd), getF teN [mkF (hoN, h), mkF (clN, Lib.decDigits u), y] = getF teN [y] := fun y => by
    unfold getF; rw [List.filter_cons_of_neg (by rw [a2]; simp), List.filter_cons_of_neg (by rw [b2]; simp)]
  have e3 : ∀ (y : Fd), getF hoN [mkF (hoN, h), mkF (clN, Lib.decDigits u), y] = ⟨h.toArray⟩ :: getF hoN [y] := fun y => by
    unfold getF; rw [List.filter_cons_of_pos a3, List.filter_cons_of_neg (by rw [b3]; simp)]; rfl
  have fr : ∀ (y : Fd), frL [mkF (hoN, h), mkF (clN, Lib.decDigits u), y] = frE (getF teN [y]) (⟨(Lib.decDigits u).toArray⟩ :: getF clN [y]) := fun y => by
    unfold frL; rw [e1, e2]
  by_cases k0 : k = 0
  · have hx : ambX k h (Lib.decDigits u) = (teN, chN) := by unfold ambX; rw [if_pos k0]
    have he : ambE k = 8 := by unfold ambE; rw [if_pos k0]
    rw [hx, he, fr, show getF teN [mkF (teN, chN)] = [⟨chN.toArray⟩] by decide +kernel, show getF clN [mkF (teN, chN)] = [] by decide +kernel]
    exact ⟨_, rfl⟩
  · by_cases k1 : k = 1
    · have hx : ambX k h (Lib.decDigits u) = (clLow, Lib.decDigits u) := by unfold ambX; rw [if_neg k0, if_pos k1]
      have he : ambE k = 8 := by unfold ambE; rw [if_neg k0, if_pos k1]
      have c1 : isF clN (mkF (clLow, Lib.decDigits u)) = true := by show foldB clLow clN = true; decide
      have c2 : isF teN (mkF (clLow, Lib.decDigits u)) = false := by unfold isF mkF; rfl
      rw [hx, he, fr, show getF teN [mkF (clLow, Lib.decDigits u)] = [] by unfold getF; rw [List.filter_cons_of_neg (by rw [c2]; simp)]; rfl, show getF clN [mkF (clLow, Lib.decDigits u)] = [⟨(Lib.decDigits u).toArray⟩] by unfold getF; rw [List.filter_cons_of_pos c1]; rfl]
      exact ⟨_, rfl⟩
    · by_cases k2 : k = 2
      · have hx : ambX k h (Lib.decDigits u) = (teN, gzL) := by unfold ambX; rw [if_neg k0, if_neg k1, if_pos k2]
        have he : ambE k = 7 := by unfold ambE; rw [if_neg k0, if_neg k1, if_pos k2]
        rw [hx, he, fr, show getF teN [mkF (teN, gzL)] = [⟨gzL.toArray⟩] by decide +kernel, show getF clN [mkF (teN, gzL)] = [] by decide +kernel]
        exact ⟨_, rfl⟩
      · have hx : ambX k h (Lib.decDigits u) = (hoUp, h) := by unfold ambX; rw [if_neg k0, if_neg k1, if_neg k2]
        have he : ambE k = 6 := by unfold ambE; rw [if_neg k0, if_neg k1, if_neg k2]
        have c1 : isF clN (mkF (hoUp, h)) = false := by unfold isF mkF; rfl
        have c2 : isF teN (mkF (hoUp, h)) = false := by unfold isF mkF; rfl
        have c3 : isF hoN (mkF (hoUp, h)) = true := by show foldB hoUp hoN = true; decide
        rw [hx, he, fr, e3, show getF teN [mkF (hoUp, h)] = [] by unfold getF; rw [List.filter_cons_of_neg (by rw [c2]; simp)]; rfl, show getF clN [mkF (hoUp, h)] = [] by unfold getF; rw [List.filter_cons_of_neg (by rw [c1]; simp)]; rfl, show getF hoN [mkF (hoUp, h)] = [⟨h.toArray⟩] by unfold getF; rw [List.filter_cons_of_pos c3]; rfl]
        have hfr : frE [] [⟨(Lib.decDigits u).toArray⟩] = 0 := by
          rw [frE_cl, if_pos]
          exact ⟨hs, hne, by show (Lib.decDigits u).toArray.size ≤ 9; simpa using l9⟩
        rw [hfr]
        exact ⟨_, rfl⟩
end Go.Proofs.YtfnmohaddkoalaaDoor
namespace Go.Proofs.YtfnmohaddkoalaaDoor

/-- The form of a status line by its places. -/
def statAt (l : List UInt8) : Bool :=
  decide (13 ≤ l.length) && (l.getD 8 0 == 32 && (decide (49 ≤ (l.getD 9 0).toNat) && (decide ((l.getD 9 0).toNat ≤ 53) && (digB (l.getD 10 0) && (digB (l.getD 11 0) && (l.getD 12 0 == 32 && textB (l.drop 13)))))))
theorem list13 {l : List UInt8} (h : 13 ≤ l.length) : ∃ a0 a1 a2 a3 a4 a5 a6 a7 a8 a9 a10 a11 a12 r, l = a0 :: a1 :: a2 :: a3 :: a4 :: a5 :: a6 :: a7 :: a8 :: a9 :: a10 :: a11 :: a12 :: r := by
  match l, h with
  | a0 :: a1 :: a2 :: a3 :: a4 :: a5 :: a6 :: a7 :: a8 :: a9 :: a10 :: a11 :: a12 :: r, _ => exact ⟨a0, a1, a2, a3, a4, a5, a6, a7, a8, a9, a10, a11, a12, r, rfl⟩
theorem list8 {l : List UInt8} (h : l.length = 8) : ∃ a0 a1 a2 a3 a4 a5 a6 a7, l = [a0, a1, a2, a3, a4, a5, a6, a7] := by
  match l, h with
  | [a0, a1, a2, a3, a4, a5, a6, a7], _ => exact ⟨a0, a1, a2, a3, a4, a5, a6, a7, rfl⟩
theorem list3 {l : List UInt8} (h : l.length = 3) : ∃ a0 a1 a2, l = [a0, a1, a2] := by
  match l, h with
  | [a0, a1, a2], _ => exact ⟨a0, a1, a2, rfl⟩
theorem dig_ne {c : UInt8} (h : digB c = true) : c ≠ 32 := by
  rintro rfl; revert h; decide
theorem verForm_list {l : List UInt8} (h : verForm l = true) : ∃ a5 a7, l = [72, 84, 84, 80, 47, a5, 46, a7] ∧ digB a5 = true ∧ digB a7 = true := by
  have h' := h
  unfold verForm at h
  simp only [Bool.and_eq_true, beq_iff_eq] at h
  obtain ⟨h8, ht, h5, h6, h7⟩ := h
  obtain ⟨a0, a1, a2, a3, a4, a5, a6, a7, rfl⟩ := list8 h8
  simp [httpL] at ht h5 h6 h7
  obtain ⟨rfl, rfl, rfl, rfl, rfl⟩ := ht
  subst h6
  exact ⟨a5, a7, rfl, h5, h7⟩
theorem statForm_list {l : List UInt8} (h : statForm l = true) : ∃ a0 a1 a2, l = [a0, a1, a2] ∧ 49 ≤ a0.toNat ∧ a0.toNat ≤ 53 ∧ digB a1 = true ∧ digB a2 = true := by
  unfold statForm at h
  simp only [Bool.and_eq_true, beq_iff_eq, decide_eq_true_eq] at h
  obtain ⟨h3, k0, k1, k2, k3⟩ := h
  obtain ⟨a0, a1, a2, rfl⟩ := list3 h3
  exact ⟨a0, a1, a2, rfl, k0, k1, k2, k3⟩
theorem statForm_mk {a0 a1 a2 : UInt8} (h0 : 49 ≤ a0.toNat) (h0' : a0.toNat ≤ 53) (h1 : digB a1 = true) (h2 : digB a2 = true) : statForm [a0, a1, a2] = true := by
  simp [statForm, h0, h0', h1, h2]
theorem first_ne {c : UInt8} (h : 49 ≤ c.toNat) : c ≠ 32 := by
  rintro rfl; revert h; decide
/-- A status line whose version has the form: cut at its places. -/
theorem stat_cut {l : List UInt8} (h : statAt l = true) (hv : verForm (l.take 8) = true) :
    cutB 32 l = (l.take 8, l.drop 9, true) ∧ cutB 32 (l.drop 9) = ((l.drop 9).take 3, l.drop 13, true) ∧ statForm ((l.drop 9).take 3) = true ∧ textB (l.drop 13) = true := by
  unfold statAt at h
  simp only [Bool.and_eq_true, decide_eq_true_eq, beq_iff_eq] at h
  obtain ⟨h13, h8, k0, k1, k2, k3, h12, ht⟩ := h
  obtain ⟨a0, a1, a2, a3, a4, a5, a6, a7, a8, a9, a10, a11, a12, r, rfl⟩ := list13 h13
  obtain ⟨b5, b7, hl, d5, d7⟩ := verForm_list hv
  simp at hl h8 k0 k1 k2 k3 h12 ht
  obtain ⟨rfl, rfl, rfl, rfl, rfl, rfl, rfl, rfl⟩ := hl
  subst h8 h12
  have n5 := dig_ne d5
  have n7 := dig_ne d7
  have n9 := first_ne k0
  have n10 := dig_ne k2
  have n11 := dig_ne k3
  refine ⟨?_, ?_, statForm_mk k0 k1 k2 k3, ht⟩
  · exact cutB_hit (a := [72, 84, 84, 80, 47, a5, 46, a7]) (by simp only [List.mem_cons, List.not_mem_nil, or_false, not_or]; exact ⟨by decide, by decide, by decide, by decide, by decide, n5.symm, by decide, n7.symm⟩) _
  · exact cutB_hit (a := [a9, a10, a11]) (by simp only [List.mem_cons, List.not_mem_nil, or_false, not_or]; exact ⟨n9.symm, n10.symm, n11.symm⟩) _
/-- A line that is read has the form by its places. -/
theorem stat_at {l p1 p2 q1 q2 : List UInt8} {p3 q3 : Bool} (hp : cutB 32 l = (p1, p2, p3)) (hq : cutB 32 p2 = (q1, q2, q3)) (hb : (q3 && (statForm q1 && textB q2)) = true) (hv : verForm p1 = true) :
    statAt l = true ∧ l.take 8 = p1 := by
  simp only [Bool.and_eq_true] at hb
  obtain ⟨rfl, hs, ht⟩ := hb
  obtain ⟨a5, a7, rfl, d5, d7⟩ := verForm_list hv
  obtain ⟨b0, b1, b2, rfl, k0, k1, k2, k3⟩ := statForm_list hs
  rcases cutB_cases 32 p2 with ⟨x, y, hx, hx2, _⟩ | ⟨hx, _⟩
  · rw [hq] at hx
    simp only [Prod.mk.injEq, and_true] at hx
    obtain ⟨rfl, rfl⟩ := hx
    rcases cutB_cases 32 l with ⟨x', y', hy, hy2, _⟩ | ⟨hy, _⟩
    · rw [hp] at hy
      simp only [Prod.mk.injEq] at hy
      obtain ⟨rfl, rfl, _⟩ := hy
      rw [hy2, hx2]
      refine ⟨?_, rfl⟩
      simp [statAt, k0, k1, k2, k3, ht]
    · rw [hp] at hy
      simp only [Prod.mk.injEq] at hy
      obtain ⟨_, h2, _⟩ := hy
      subst h2
      rw [cutB_nil] at hq
      simp at hq
  · rw [hq] at hx
    simp at hx
theorem stat_err {l : List UInt8} (h : ¬ 2000 < l.length) (hn : ¬ (statAt l = true ∧ verForm (l.take 8) = true)) : statL l = (0, 0, [], 1) := by
  obtain ⟨p1, p2, p3, hp⟩ : ∃ a b c, cutB 32 l = (a, b, c) := ⟨_, _, _, rfl⟩
  obtain ⟨q1, q2, q3, hq⟩ : ∃ a b c, cutB 32 p2 = (a, b, c) := ⟨_, _, _, rfl⟩
  cases hb : q3 && (statForm q1 && textB q2) with
  | false => exact statL_bad h hp hq hb
  | true =>
    cases hv : verForm p1 with
    | true =>
      obtain ⟨h1, h2⟩ := stat_at hp hq hb hv
      exact absurd ⟨h1, by rw [h2]; exact hv⟩ hn
    | false =>
      have e : verE p1 = 1 := by unfold verE; rw [hv]; rfl
      rw [statL_ver h hp hq hb (by rw [e]; decide), e]
theorem stat_ver {l : List UInt8} (h : ¬ 2000 < l.length) (ha : statAt l = true) (hv : verForm (l.take 8) = true) (hn : verE (l.take 8) ≠ 0) : statL l = (0, 0, [], verE (l.take 8)) := by
  obtain ⟨h1, h2, h3, h4⟩ := stat_cut ha hv
  exact statL_ver h h1 h2 (by rw [h3, h4]; rfl) hn
theorem stat_ok {l : List UInt8} (h : ¬ 2000 < l.length) (ha : statAt l = true) (hv : verForm (l.take 8) = true) (hn : verE (l.take 8) = 0) : statL l = (verN (l.take 8), statN ((l.drop 9).take 3), l.drop 13, 0) := by
  obtain ⟨h1, h2, h3, h4⟩ := stat_cut ha hv
  exact statL_ok h h1 h2 (by rw [h3, h4]; rfl) hn
end Go.Proofs.YtfnmohaddkoalaaDoor
namespace Go.Proofs.YtfnmohaddkoalaaDoor

theorem itoa_bit {v : Int} (h : v = 0 ∨ v = 1) : Lib.itoa v = [UInt8.ofNat (48 + v.toNat)] := by
  rcases h with rfl | rfl
  · rw [show (0 : Int) = ((0 : Nat) : Int) from rfl, Lib.itoa_nonneg, Lib.decDigits_one (by omega)]; rfl
  · rw [show (1 : Int) = ((1 : Nat) : Int) from rfl, Lib.itoa_nonneg, Lib.decDigits_one (by omega)]; rfl
theorem itoa_three (u : Nat) (h1 : 100 ≤ u) (h2 : u ≤ 599) : Lib.itoa (u : Int) = [UInt8.ofNat (48 + u / 100), UInt8.ofNat (48 + u / 10 % 10), UInt8.ofNat (48 + u % 10)] := by
  rw [Lib.itoa_nonneg, Lib.decDigits, dif_neg (by omega), Lib.decDigits_two (by omega) (by omega)]
  rw [show u / 10 / 10 = u / 100 from by omega]; rfl
/-- The version of a minor number. -/
def verB (v : Int) : List UInt8 := [72, 84, 84, 80, 47, 49, 46, UInt8.ofNat (48 + v.toNat)]
theorem verB_ok {v : Int} (h : v = 0 ∨ v = 1) : verE (verB v) = 0 ∧ verN (verB v) = v ∧ verForm (verB v) = true := by
  rcases h with rfl | rfl <;> decide
theorem verE_zero {l : List UInt8} (h : verE l = 0) : (verN l = 0 ∨ verN l = 1) ∧ l = verB (verN l) ∧ verForm l = true := by
  have hf : verForm l = true := by
    cases hh : verForm l with
    | true => rfl
    | false => unfold verE at h; rw [hh] at h; cases h
  refine ⟨verN_bd l, ?_, hf⟩
  obtain ⟨a5, a7, rfl, d5, d7⟩ := verForm_list hf
  have h' : a5 = 49 ∧ a7.toNat ≤ 49 := by
    unfold verE at h
    rw [if_pos hf] at h
    by_cases hc : a5 = 49 ∧ a7.toNat ≤ 49
    · exact hc
    · rw [if_neg (by simpa using hc)] at h; cases h
  obtain ⟨rfl, h7⟩ := h'
  have b7 := of_digB d7
  have e : verN [72, 84, 84, 80, 47, 49, 46, a7] = (a7.toNat : Int) - 48 := by unfold verN; rw [if_pos h]; rfl
  rw [e]
  unfold verB
  have : UInt8.ofNat (48 + ((a7.toNat : Int) - 48).toNat) = a7 := by
    rw [show 48 + ((a7.toNat : Int) - 48).toNat = a7.toNat from by omega]; simp
  rw [this]
theorem reqL_inv {l m t : List UInt8} {v : Int} (h : reqL l = (m, t, v, 0)) :
    l.length ≤ 2000 ∧ ∃ q2 p2 q3, cutB 32 l = (m, p2, true) ∧ cutB 32 p2 = (t, q2, q3) ∧ q3 = true ∧ tokenB m = true ∧ visB t = true ∧ verE q2 = 0 ∧ verN q2 = v := by
  obtain ⟨p1, p2, p3, hp⟩ : ∃ a b c, cutB 32 l = (a, b, c) := ⟨_, _, _, rfl⟩
  obtain ⟨q1, q2, q3, hq⟩ : ∃ a b c, cutB 32 p2 = (a, b, c) := ⟨_, _, _, rfl⟩
  by_cases hl : 2000 < l.length
  · rw [reqL_long hl] at h; simp at h
  refine ⟨by omega, ?_⟩
  cases hb : tokenB p1 && visB q1 with
  | false => rw [reqL_bad hl hp hq hb] at h; simp at h
  | true =>
    by_cases hv : verE q2 = 0
    · rw [reqL_ok hl hp hq hb hv] at h
      simp only [Prod.mk.injEq, and_true] at h
      obtain ⟨rfl, rfl, rfl⟩ := h
      simp only [Bool.and_eq_true] at hb
      have hq3 : q3 = true := by
        rcases cutB_cases 32 p2 with ⟨x, y, hx, _, _⟩ | ⟨hx, _⟩
        · rw [hq] at hx; simp at hx; exact hx.2.2
        · rw [hq] at hx; simp at hx
          obtain ⟨_, rfl, _⟩ := hx
          exact absurd hv (by decide)
      have hp3 : p3 = true := by
        rcases cutB_cases 32 l with ⟨x, y, hx, _, _⟩ | ⟨hx, _⟩
        · rw [hp] at hx; simp at hx; exact hx.2.2
        · rw [hp] at hx; simp at hx
          obtain ⟨_, rfl, _⟩ := hx
          rw [cutB_nil] at hq
          simp at hq
          rw [hq.2.2] at hq3
          cases hq3
      subst hp3
      exact ⟨q2, p2, q3, hp, hq, hq3, hb.1, hb.2, hv, rfl⟩
    · rw [reqL_ver hl hp hq hb hv] at h
      simp at h
      exact absurd h.2.2.2 hv
theorem cut_join {c : UInt8} {l a b : List UInt8} (h : cutB c l = (a, b, true)) : l = a ++ c :: b := by
  rcases cutB_cases c l with ⟨x, y, hx, h2, _⟩ | ⟨hx, _⟩
  · rw [h] at hx; simp at hx
    obtain ⟨rfl, rfl⟩ := hx
    exact h2
  · rw [h] at hx; simp at hx
theorem req_back {l m t : List UInt8} {v : Int} (h : reqL l = (m, t, v, 0)) : reqLine m t v = l ∧ reqF m t v = l := by
  obtain ⟨hl, q2, p2, q3, hp, hq, rfl, _, _, hv, hn⟩ := reqL_inv h
  obtain ⟨hv1, hv2, _⟩ := verE_zero hv
  have e : reqLine m t v = l := by
    rw [cut_join hp, cut_join hq, hv2, hn]
    unfold reqLine
    rw [itoa_bit (by rw [← hn]; exact hv1)]
    simp [verB]
  exact ⟨e, by unfold reqF; rw [e, if_pos h]⟩
theorem reqF_no {m t : List UInt8} {v : Int} (h : v < 0 ∨ 1 < v ∨ 2000 < m.length ∨ 2000 < t.length) : reqF m t v = [] := by
  unfold reqF
  rw [if_neg]
  intro h'
  obtain ⟨hl, q2, p2, q3, hp, hq, rfl, _, _, hv, hn⟩ := reqL_inv h'
  have hb := verN_bd q2
  have hl2 : (reqLine m t v).length ≥ m.length + t.length := by unfold reqLine; simp; omega
  omega
theorem statL_inv {l r : List UInt8} {v s : Int} (h : statL l = (v, s, r, 0)) :
    l.length ≤ 2000 ∧ ∃ p1 p2 q1, cutB 32 l = (p1, p2, true) ∧ cutB 32 p2 = (q1, r, true) ∧ statForm q1 = true ∧ textB r = true ∧ verE p1 = 0 ∧ verN p1 = v ∧ statN q1 = s := by
  obtain ⟨p1, p2, p3, hp⟩ : ∃ a b c, cutB 32 l = (a, b, c) := ⟨_, _, _, rfl⟩
  obtain ⟨q1, q2, q3, hq⟩ : ∃ a b c, cutB 32 p2 = (a, b, c) := ⟨_, _, _, rfl⟩
  by_cases hl : 2000 < l.length
  · rw [statL_long hl] at h; simp at h
  refine ⟨by omega, ?_⟩
  cases hb : q3 && (statForm q1 && textB q2) with
  | false => rw [statL_bad hl hp hq hb] at h; simp at h
  | true =>
    by_cases hv : verE p1 = 0
    · rw [statL_ok hl hp hq hb hv] at h
      simp only [Prod.mk.injEq, and_true] at h
      obtain ⟨rfl, rfl, rfl⟩ := h
      simp only [Bool.and_eq_true] at hb
      obtain ⟨rfl, hs, ht⟩ := hb
      have hp3 : p3 = true := by
        rcases cutB_cases 32 l with ⟨x, y, hx, _, _⟩ | ⟨hx, _⟩
        · rw [hp] at hx; simp at hx; exact hx.2.2
        · rw [hp] at hx; simp at hx
          obtain ⟨_, rfl, _⟩ := hx
          rw [cutB_nil] at hq
          simp at hq
      subst hp3
      exact ⟨p1, p2, q1, hp, hq, hs, ht, hv, rfl, rfl⟩
    · rw [statL_ver hl hp hq hb hv] at h
      simp at h
      exact absurd h.2.2.2 hv
theorem numGo_three {a0 a1 a2 : UInt8} (h0 : 49 ≤ a0.toNat) (h0' : a0.toNat ≤ 53) (h1 : digB a1 = true) (h2 : digB a2 = true) :
    statN [a0, a1, a2] = ((100 * (a0.toNat - 48) + 10 * (a1.toNat - 48) + (a2.toNat - 48) : Nat) : Int) := by
  have b1 := of_digB h1
  have b2 := of_digB h2
  have d0 : digB a0 = true := digB_true (by omega)
  unfold statN
  simp only [numGo, d0, h1, h2, if_true]
  omega
theorem statN_itoa {q : List UInt8} (h : statForm q = true) : 100 ≤ statN q ∧ statN q ≤ 599 ∧ Lib.itoa (statN q) = q := by
  obtain ⟨a0, a1, a2, rfl, k0, k1, k2, k3⟩ := statForm_list h
  have b1 := of_digB k2
  have b2 := of_digB k3
  rw [numGo_three k0 k1 k2 k3]
  refine ⟨by omega, by omega, ?_⟩
  rw [itoa_three _ (by omega) (by omega)]
  have e0 : UInt8.ofNat (48 + (100 * (a0.toNat - 48) + 10 * (a1.toNat - 48) + (a2.toNat - 48)) / 100) = a0 := by
    rw [show 48 + (100 * (a0.toNat - 48) + 10 * (a1.toNat - 48) + (a2.toNat - 48)) / 100 = a0.toNat from by omega]; simp
  have e1 : UInt8.ofNat (48 + (100 * (a0.toNat - 48) + 10 * (a1.toNat - 48) + (a2.toNat - 48)) / 10 % 10) = a1 := by
    rw [show 48 + (100 * (a0.toNat - 48) + 10 * (a1.toNat - 48) + (a2.toNat - 48)) / 10 % 10 = a1.toNat from by omega]; simp
  have e2 : UInt8.ofNat (48 + (100 * (a0.toNat - 48) + 10 * (a1.toNat - 48) + (a2.toNat - 48)) % 10) = a2 := by
    rw [show 48 + (100 * (a0.toNat - 48) + 10 * (a1.toNat - 48) + (a2.toNat - 48)) % 10 = a2.toNat from by omega]; simp
  rw [e0, e1, e2]
theorem stat_back {l r : List UInt8} {v s : Int} (h : statL l = (v, s, r, 0)) : statLine v s r = l ∧ statF v s r = l := by
  obtain ⟨hl, p1, p2, q1, hp, hq, hs, ht, hv, hn, hm⟩ := statL_inv h
  obtain ⟨hv1, hv2, _⟩ := verE_zero hv
  obtain ⟨_, _, hi⟩ := statN_itoa hs
  have e : statLine v s r = l := by
    rw [cut_join hp, cut_join hq, hv2, hn]
    unfold statLine
    rw [itoa_bit (by rw [← hn]; exact hv1), ← hm, hi]
    simp [verB]
  exact ⟨e, by unfold statF; rw [e, if_pos h]⟩
theorem statF_no {r : List UInt8} {v s : Int} (h : v < 0 ∨ 1 < v ∨ s < 100 ∨ 599 < s ∨ 2000 < r.length) : statF v s r = [] := by
  unfold statF
  rw [if_neg]
  intro h'
  obtain ⟨hl, p1, p2, q1, hp, hq, hs, ht, hv, hn, hm⟩ := statL_inv h'
  have hb := verN_bd p1
  have hs2 := statN_itoa hs
  have hl2 : (statLine v s r).length ≥ r.length := by unfold statLine; simp; omega
  omega
/-- A status line that is written: its parts, or an error. -/
theorem stat_line {r : List UInt8} {v s : Int} (hv : v = 0 ∨ v = 1) (h1 : 100 ≤ s) (h2 : s ≤ 599) (he : (statL (statLine v s r)).2.2.2 = 0) : statL (statLine v s r) = (v, s, r, 0) := by
  obtain ⟨u, rfl⟩ := Int.eq_ofNat_of_zero_le (show 0 ≤ s by omega)
  have e : statLine v u r = verB v ++ 32 :: (Lib.itoa (u : Int) ++ 32 :: r) := by
    unfold statLine; rw [itoa_bit hv]; simp [verB]
  have d0 : (UInt8.ofNat (48 + u / 100)).toNat = 48 + u / 100 := by simp; omega
  have d1 : (UInt8.ofNat (48 + u / 10 % 10)).toNat = 48 + u / 10 % 10 := by simp; omega
  have d2 : (UInt8.ofNat (48 + u % 10)).toNat = 48 + u % 10 := by simp; omega
  have g1 : digB (UInt8.ofNat (48 + u / 10 % 10)) = true := digB_true (by omega)
  have g2 : digB (UInt8.ofNat (48 + u % 10)) = true := digB_true (by omega)
  have hi := itoa_three u (by omega) (by omega)
  have hsf : statForm (Lib.itoa (u : Int)) = true := by rw [hi]; exact statForm_mk (by omega) (by omega) g1 g2
  have hsn : statN (Lib.itoa (u : Int)) = u := by
    rw [hi, numGo_three (by omega) (by omega) g1 g2]; omega
  have c1 : cutB 32 (statLine v u r) = (verB v, Lib.itoa (u : Int) ++ 32 :: r, true) := by
    rw [e]; exact cutB_hit (by rcases hv with rfl | rfl <;> decide) _
  have c2 : cutB 32 (Lib.itoa (u : Int) ++ 32 :: r) = (Lib.itoa (u : Int), r, true) := by
    refine cutB_hit ?_ _
    rw [hi]
    simp only [List.mem_cons, List.not_mem_nil, or_false, not_or]
    exact ⟨(first_ne (by omega)).symm, (dig_ne g1).symm, (dig_ne g2).symm⟩
  obtain ⟨v1, v2, _⟩ := verB_ok hv
  by_cases hl : 2000 < (statLine v u r).length
  · rw [statL_long hl] at he; cases he
  cases ht : textB r with
  | false => rw [statL_bad hl c1 c2 (by rw [ht]; simp)] at he; cases he
  | true => rw [statL_ok hl c1 c2 (by rw [ht, hsf]; rfl) v1, v2, hsn]
theorem statF_in {r : List UInt8} {v s : Int} (hv : v = 0 ∨ v = 1) (h1 : 100 ≤ s) (h2 : s ≤ 599) : statF v s r = if (statL (statLine v s r)).2.2.2 = 0 then statLine v s r else [] := by
  unfold statF
  by_cases he : (statL (statLine v s r)).2.2.2 = 0
  · rw [if_pos (stat_line hv h1 h2 he), if_pos he]
  · rw [if_neg (fun h => he (by rw [h])), if_neg he]
theorem not_both {l m t r : List UInt8} {v n s : Int} (h : reqL l = (m, t, v, 0)) (h' : statL l = (n, s, r, 0)) : False := by
  obtain ⟨_, q2, p2, q3, hp, _, _, htok, _⟩ := reqL_inv h
  obtain ⟨_, p1, p2', q1, hp', _, _, _, hv, _⟩ := statL_inv h'
  rw [hp] at hp'
  simp only [Prod.mk.injEq] at hp'
  obtain ⟨rfl, _⟩ := hp'
  obtain ⟨_, e, _⟩ := verE_zero hv
  rw [e] at htok
  unfold tokenB verB at htok
  simp only [List.all_cons, Bool.and_eq_true] at htok
  have : partB 47 = false := by decide
  rw [this] at htok
  simp at htok
end Go.Proofs.YtfnmohaddkoalaaDoor
namespace Go.Proofs.YtfnmohaddkoalaaDoor
set_option linter.unusedSimpArgs false
set_option linter.unusedVariables false

/-- A request of these lines. -/
theorem parse_lines {x m t : List UInt8} {v : Int} {L : List (List UInt8)} (rest : List UInt8) (hx : ∀ c ∈ x, lineC c = true) (hr : reqL x = (m, t, v, 0)) (h6 : L.length ≤ 64) (hL : ∀ y ∈ L, FLine y) (ha : (linesB (x :: L)).length + 2 ≤ 16000) :
    parseQ (linesB (x :: L) ++ 13 :: 10 :: rest) =
      if frL (L.map lineF) ≠ 0 then (req0, 0, frL (L.map lineF)) else
      if 1 < (getF hoN (L.map lineF)).length ∨ (getF hoN (L.map lineF)).length = 0 ∧ v = 1 then (req0, 0, 6) else
      if (bdL (L.map lineF) rest).2.2 ≠ 0 then (req0, 0, (bdL (L.map lineF) rest).2.2) else
      (⟨m, t, v, unfrL (L.map lineF), (bdL (L.map lineF) rest).1⟩, (linesB (x :: L)).length + 2 + (bdL (L.map lineF) rest).2.1, 0) := by
  have hl := (reqL_inv hr).1
  have hd := hd_lines (st := fun x => (reqL x).2.2.2) (x := x) (L := L) rest hx hl (by show (reqL x).2.2.2 = 0; rw [hr]) h6 hL ha
  have hn : (nextL (linesB (x :: L) ++ 13 :: 10 :: rest)).1 = x := by
    have e : linesB (x :: L) ++ 13 :: 10 :: rest = x ++ 13 :: 10 :: (linesB L ++ 13 :: 10 :: rest) := by simp [linesB]
    rw [e, nextL_ok _ hx hl]
  have hdr : (linesB (x :: L) ++ 13 :: 10 :: rest).drop ((linesB (x :: L)).length + 2) = rest := drop_line _ _
  unfold parseQ
  rw [hd, hn, hr]
  simp only [hdr, ne_eq, not_true_eq_false, if_false]
/-- The head of a request is cut short. -/
theorem parse_cut {x m t : List UInt8} {v : Int} {L : List (List UInt8)} (rest : List UInt8) {i : Nat} (hx : ∀ c ∈ x, lineC c = true) (hr : reqL x = (m, t, v, 0)) (h6 : L.length ≤ 64) (hL : ∀ y ∈ L, FLine y) (ha : (linesB (x :: L)).length + 2 ≤ 16000) (hi : i < (linesB (x :: L)).length + 2) :
    parseQ ((linesB (x :: L) ++ 13 :: 10 :: rest).take i) = (req0, 0, 2) := by
  have hl := (reqL_inv hr).1
  have hd := hd_cut (st := fun x => (reqL x).2.2.2) (x := x) (L := L) rest hx hl (by show (reqL x).2.2.2 = 0; rw [hr]) h6 hL ha hi
  unfold parseQ
  rw [hd, if_pos (by simp)]
/-- The line of a field. -/
def fmtF (f : Fd) : List UInt8 := formL (bs f.1) (bs f.2)
def okF (f : Fd) : Bool := validF (bs f.1) (bs f.2)
/-- The line that announces a length, none for -1. -/
def clLs (n : Int) : List (List UInt8) := if n < 0 then [] else [lineS clN (Lib.itoa n)]
/-- The lines of a head. -/
def headLs (st : List UInt8) (fs : List Fd) (n : Int) : List (List UInt8) := st :: ((unfrL fs).map fmtF ++ clLs n)
/-- A message as it is written, or nothing. -/
def msgL (st : List UInt8) (fs : List Fd) (n : Int) (b : List UInt8) : List UInt8 :=
  if st = [] ∨ 63 < (unfrL fs).length ∨ (unfrL fs).all okF = false then [] else
  if 16000 < (linesB (headLs st fs n)).length + 2 then [] else linesB (headLs st fs n) ++ 13 :: 10 :: b
theorem msg_ne {st : List UInt8} {fs : List Fd} {n : Int} {b : List UInt8} (h : msgL st fs n b ≠ []) : st ≠ [] ∧ (unfrL fs).length ≤ 63 ∧ (∀ f ∈ unfrL fs, okF f = true) ∧ (linesB (headLs st fs n)).length + 2 ≤ 16000 ∧ msgL st fs n b = linesB (headLs st fs n) ++ 13 :: 10 :: b := by
  unfold msgL at h ⊢
  split at h
  · exact absurd rfl h
  · rename_i h1
    split at h
    · exact absurd rfl h
    · rename_i h2
      have h4 : (unfrL fs).all okF = true := by
        cases hq : (unfrL fs).all okF with
        | true => rfl
        | false => exact absurd (.inr (.inr hq)) h1
      rw [if_neg h1, if_neg h2]
      refine ⟨fun e => h1 (.inl e), ?_, List.all_eq_true.1 h4, by omega, rfl⟩
      rcases Nat.lt_or_ge 63 (unfrL fs).length with h3 | h3
      · exact absurd (.inr (.inl h3)) h1
      · exact h3
theorem ok_line {f : Fd} (h : okF f = true) : FLine (fmtF f) ∧ lineF (fmtF f) = f := by
  have hf := form_back h
  obtain ⟨h1, h2, h3⟩ := form_line h
  refine ⟨⟨h1, h2, h3, ?_⟩, ?_⟩
  · unfold fmtF; rw [hf]
  · unfold lineF fmtF; rw [hf]; rfl
theorem cl_line {n : Int} (h0 : ¬ n < 0) (h : n ≤ 100000) : FLine (lineS clN (Lib.itoa n)) ∧ lineF (lineS clN (Lib.itoa n)) = mkF (clN, Lib.itoa n) := by
  obtain ⟨u, rfl⟩ : ∃ u : Nat, n = (u : Int) := ⟨n.toNat, by omega⟩
  rw [Lib.itoa_nonneg]
  have l9 := dec_len 9 u (by decide) (by omega)
  exact fline_sp (valid_dec (by decide) (by decide) (by omega)) (by simp; omega)
/-- The fields that a written head is read as. -/
def readF (fs : List Fd) (n : Int) : List Fd := unfrL fs ++ (if n < 0 then [] else [mkF (clN, Lib.itoa n)])
theorem lines_read {fs : List Fd} {n : Int} (hn : n ≤ 100000) (hok : ∀ f ∈ unfrL fs, okF f = true) : (∀ y ∈ (unfrL fs).map fmtF ++ clLs n, FLine y) ∧ ((unfrL fs).map fmtF ++ clLs n).map lineF = readF fs n := by
  constructor
  · intro y hy
    rcases List.mem_append.1 hy with hy | hy
    · obtain ⟨f, hf, rfl⟩ := List.mem_map.1 hy
      exact (ok_line (hok f hf)).1
    · unfold clLs at hy
      split at hy
      · cases hy
      · rename_i h0
        rw [List.mem_singleton] at hy
        subst hy
        exact (cl_line h0 hn).1
  · rw [List.map_append]
    unfold readF
    congr 1
    · rw [List.map_map]
      have : ∀ (l : List Fd), (∀ f ∈ l, okF f = true) → l.map (lineF ∘ fmtF) = l := fun l => by
        induction l with
        | nil => intro _; rfl
        | cons f r ih =>
          intro h
          rw [List.map_cons, ih (fun g hg => h g (by simp [hg]))]
          rw [show (lineF ∘ fmtF) f = f from (ok_line (h f (by simp))).2]
      exact this _ hok
    · unfold clLs
      split
      · rfl
      · rename_i h0
        rw [List.map_singleton, (cl_line h0 hn).2]
theorem plain_not {f : Fd} (h : plainF f = true) : isF clN f = false ∧ isF teN f = false := by
  unfold plainF at h
  simpa using h
theorem unfr_twice (fs : List Fd) : unfrL (unfrL fs) = unfrL fs := by unfold unfrL; rw [List.filter_filter]; simp
theorem getF_none {n : List UInt8} {fs : List Fd} (h : ∀ f ∈ fs, isF n f = false) : getF n fs = [] := by
  unfold getF
  rw [List.filter_eq_nil_iff.2 (fun f hf => by rw [h f hf]; simp)]; rfl
theorem getF_two (n : List UInt8) (a b : List Fd) : getF n (a ++ b) = getF n a ++ getF n b := by unfold getF; rw [List.filter_append, List.map_append]
theorem unfr_cl (fs : List Fd) : getF clN (unfrL fs) = [] ∧ getF teN (unfrL fs) = [] :=
  ⟨getF_none fun f hf => (plain_not (List.mem_filter.1 hf).2).1, getF_none fun f hf => (plain_not (List.mem_filter.1 hf).2).2⟩
theorem ho_plain {f : Fd} (h : isF hoN f = true) : plainF f = true := by
  have hl : f.1.size = 4 := by
    rcases Nat.decEq f.1.size hoN.length with h2 | h2
    · rw [isF_len h2] at h; cases h
    · exact h2
  have a : isF clN f = false := isF_len (by rw [hl]; decide)
  have b : isF teN f = false := isF_len (by rw [hl]; decide)
  unfold plainF; rw [a, b]; rfl
theorem unfr_ho (fs : List Fd) : getF hoN (unfrL fs) = getF hoN fs := by
  unfold getF unfrL
  rw [List.filter_filter]
  congr 1
  refine List.filter_congr fun f _ => ?_
  cases h : isF hoN f with
  | false => rfl
  | true => rw [ho_plain h]; rfl
theorem read_parts (fs : List Fd) (n : Int) : getF clN (readF fs n) = (if n < 0 then [] else [⟨(Lib.itoa n).toArray⟩]) ∧ getF teN (readF fs n) = [] ∧ getF hoN (readF fs n) = getF hoN fs ∧ unfrL (readF fs n) = unfrL fs := by
  unfold readF
  obtain ⟨h1, h2⟩ := unfr_cl fs
  by_cases h0 : n < 0
  · rw [if_pos h0, if_pos h0, List.append_nil]
    exact ⟨h1, h2, unfr_ho fs, unfr_twice fs⟩
  · rw [if_neg h0, if_neg h0]
    have b1 : isF clN (mkF (clN, Lib.itoa n)) = true := by show foldB clN clN = true; decide
    have b2 : isF teN (mkF (clN, Lib.itoa n)) = false := by unfold isF mkF; rfl
    have b3 : isF hoN (mkF (clN, Lib.itoa n)) = false := by unfold isF mkF; rfl
    refine ⟨?_, ?_, ?_, ?_⟩
    · rw [getF_two, h1]
      unfold getF; rw [List.filter_cons_of_pos b1]; rfl
    · rw [getF_two, h2]
      unfold getF; rw [List.filter_cons_of_neg (by rw [b2]; simp)]; rfl
    · rw [getF_two, unfr_ho]
      have : getF hoN [mkF (clN, Lib.itoa n)] = [] := by unfold getF; rw [List.filter_cons_of_neg (by rw [b3]; simp)]; rfl
      rw [this, List.append_nil]
    · have e : ∀ (a b : List Fd), unfrL (a ++ b) = unfrL a ++ unfrL b := fun a b => by unfold unfrL; rw [List.filter_append]
      rw [e, unfr_twice]
      have : unfrL [mkF (clN, Lib.itoa n)] = [] := by unfold unfrL; rw [List.filter_cons_of_neg (by unfold plainF; rw [b1]; simp)]; rfl
      rw [this, List.append_nil]
theorem itoa_size {n : Int} (h0 : ¬ n < 0) (h : n ≤ 100000) : (Lib.itoa n).length ≤ 9 ∧ Lib.itoa n ≠ [] ∧ numGo (Lib.itoa n) 0 = some n := by
  obtain ⟨u, rfl⟩ : ∃ u : Nat, n = (u : Int) := ⟨n.toNat, by omega⟩
  rw [Lib.itoa_nonneg]
  refine ⟨dec_len 9 u (by decide) (by omega), fun e => ?_, ?_⟩
  · have := decDigits_ne u; rw [e] at this; cases this
  · rw [numGo_dec]; congr 1; omega
theorem read_fr {fs : List Fd} {n : Int} (h : n ≤ 100000) : frL (readF fs n) = 0 := by
  obtain ⟨h1, h2, _, _⟩ := read_parts fs n
  unfold frL
  rw [h1, h2]
  by_cases h0 : n < 0
  · rw [if_pos h0]; rfl
  · rw [if_neg h0]
    obtain ⟨a, b, c⟩ := itoa_size h0 h
    rw [frE_cl, if_pos]
    refine ⟨by show (numGo (Lib.itoa n) 0).isSome = true; rw [c]; rfl, b, by show (Lib.itoa n).toArray.size ≤ 9; simpa using a⟩
theorem bdE_cl {c : ByteArray} {r : List ByteArray} {l : List UInt8} {k : Int} (h : numGo (bs c) 0 = some k) : bdE [] (c :: r) l = if 100000 < k then ([], 0, 5) else if (l.length : Int) < k then ([], 0, 2) else (l.take k.toNat, k.toNat, 0) := by
  unfold bdE; simp only [h]
/-- The body behind a written head. -/
theorem read_bd {fs : List Fd} {n : Int} (h : n ≤ 100000) (l : List UInt8) : bdL (readF fs n) l = if n < 0 then ([], 0, 0) else if (l.length : Int) < n then ([], 0, 2) else (l.take n.toNat, n.toNat, 0) := by
  obtain ⟨h1, h2, _, _⟩ := read_parts fs n
  unfold bdL
  rw [h1, h2]
  by_cases h0 : n < 0
  · rw [if_pos h0, if_pos h0]; rfl
  · rw [if_neg h0, if_neg h0]
    obtain ⟨a, b, c⟩ := itoa_size h0 h
    rw [bdE_cl (k := n) c, if_neg (by omega)]
theorem vis_line {c : UInt8} (h : visC c = true) : lineC c = true := by
  refine lineC_yes.2 ⟨fun e => ?_, fun e => ?_⟩ <;> (subst e; revert h; decide)
theorem verB_line {v : Int} (h : v = 0 ∨ v = 1) : ∀ c ∈ verB v, lineC c = true := by
  rcases h with rfl | rfl <;> decide
/-- A request line is a line. -/
theorem req_line {l m t : List UInt8} {v : Int} (h : reqL l = (m, t, v, 0)) : ∀ c ∈ l, lineC c = true := by
  obtain ⟨_, q2, p2, q3, hp, hq, h3, hm, ht, hv, _⟩ := reqL_inv h
  subst h3
  have e1 := cut_join hp
  have e2 := cut_join hq
  obtain ⟨hv0, hvb, _⟩ := verE_zero hv
  intro c hc
  rw [e1, e2] at hc
  simp only [List.mem_append, List.mem_cons] at hc
  rcases hc with hc | rfl | hc | rfl | hc
  · unfold tokenB at hm
    rw [Bool.and_eq_true, List.all_eq_true] at hm
    exact text_line (part_text (hm.1 c hc))
  · decide
  · unfold visB at ht
    rw [Bool.and_eq_true, List.all_eq_true] at ht
    exact vis_line (ht.1 c hc)
  · decide
  · rw [hvb] at hc
    exact verB_line hv0 c hc
theorem reqF_ne {m t : List UInt8} {v : Int} (h : reqF m t v ≠ []) : reqL (reqF m t v) = (m, t, v, 0) := by
  unfold reqF at h ⊢
  split at h
  · rename_i e; rw [if_pos e]; exact e
  · exact absurd rfl h
/-- What is written is read, whatever follows. -/
theorem msg_back {m t : List UInt8} {v : Int} {fs : List Fd} {n : Int} {b : List UInt8} (more : List UInt8) (hs : msgL (reqF m t v) fs n b ≠ []) (hn : n < 0 ∧ b = [] ∨ n = (b.length : Int)) (hb : b.length ≤ 100000) (hh : (getF hoN fs).length = 1) :
    parseQ (msgL (reqF m t v) fs n b ++ more) = (⟨m, t, v, unfrL fs, b⟩, (msgL (reqF m t v) fs n b).length, 0) := by
  obtain ⟨h1, h2, h3, h4, h5⟩ := msg_ne hs
  have hr := reqF_ne h1
  have hn1 : n ≤ 100000 := by omega
  obtain ⟨hL, hF⟩ := lines_read hn1 h3
  obtain ⟨p1, p2, p3, p4⟩ := read_parts fs n
  have h6 : ((unfrL fs).map fmtF ++ clLs n).length ≤ 64 := by
    rw [List.length_append, List.length_map]
    have : (clLs n).length ≤ 1 := by unfold clLs; split <;> simp
    omega
  rw [h5]
  have := parse_lines (x := reqF m t v) (L := (unfrL fs).map fmtF ++ clLs n) (b ++ more) (req_line hr) hr h6 hL h4
  rw [hF] at this
  rw [show linesB (headLs (reqF m t v) fs n) ++ 13 :: 10 :: b ++ more = linesB (reqF m t v :: ((unfrL fs).map fmtF ++ clLs n)) ++ 13 :: 10 :: (b ++ more) by simp [headLs], this, read_fr hn1, p3, p4, read_bd hn1, hh]
  rw [if_neg (by simp), if_neg (by omega)]
  have hbd : (if n < 0 then (([], 0, 0) : List UInt8 × Nat × Int) else if ((b ++ more).length : Int) < n then ([], 0, 2) else ((b ++ more).take n.toNat, n.toNat, 0)) = (b, b.length, 0) := by
    rcases hn with ⟨h0, rfl⟩ | h0
    · rw [if_pos h0]; rfl
    · rw [if_neg (by omega), if_neg (by rw [List.length_append]; omega), h0, Int.toNat_natCast, List.take_left' rfl]
  rw [hbd, if_neg (by simp)]
  refine Prod.ext rfl (Prod.ext ?_ rfl)
  show (linesB (reqF m t v :: _)).length + 2 + b.length = (linesB (reqF m t v :: _) ++ 13 :: 10 :: b).length
  simp only [List.length_append, List.length_cons]; omega
/-- Every proper beginning of what is written is short. -/
theorem msg_short {m t : List UInt8} {v : Int} {fs : List Fd} {n : Int} {b : List UInt8} {i : Nat} (hs : msgL (reqF m t v) fs n b ≠ []) (hn : n < 0 ∧ b = [] ∨ n = (b.length : Int)) (hb : b.length ≤ 100000) (hh : (getF hoN fs).length = 1) (hi : i < (msgL (reqF m t v) fs n b).length) :
    parseQ ((msgL (reqF m t v) fs n b).take i) = (req0, 0, 2) := by
  obtain ⟨h1, h2, h3, h4, h5⟩ := msg_ne hs
  have hr := reqF_ne h1
  have hn1 : n ≤ 100000 := by omega
  obtain ⟨hL, hF⟩ := lines_read hn1 h3
  obtain ⟨p1, p2, p3, p4⟩ := read_parts fs n
  have h6 : ((unfrL fs).map fmtF ++ clLs n).length ≤ 64 := by
    rw [List.length_append, List.length_map]
    have : (clLs n).length ≤ 1 := by unfold clLs; split <;> simp
    omega
  rw [h5] at hi ⊢
  by_cases hc : i < (linesB (headLs (reqF m t v) fs n)).length + 2
  · exact parse_cut (x := reqF m t v) (L := (unfrL fs).map fmtF ++ clLs n) b (req_line hr) hr h6 hL h4 hc
  · rw [take_line _ _ hc]
    simp only [List.length_append, List.length_cons] at hi
    have := parse_lines (x := reqF m t v) (L := (unfrL fs).map fmtF ++ clLs n) (b.take (i - ((linesB (headLs (reqF m t v) fs n)).length + 2))) (req_line hr) hr h6 hL h4
    rw [hF] at this
    rw [show headLs (reqF m t v) fs n = reqF m t v :: ((unfrL fs).map fmtF ++ clLs n) from rfl] at hi hc ⊢
    rw [show headLs (reqF m t v) fs n = reqF m t v :: ((unfrL fs).map fmtF ++ clLs n) from rfl] at this
    rw [this, read_fr hn1, p3, read_bd hn1, hh, if_neg (by simp), if_neg (by omega)]
    rcases hn with ⟨h0, rfl⟩ | h0
    · simp only [List.length_nil] at hi; omega
    · have hq : ∀ x : List UInt8, (x.length : Int) < n → (if n < 0 then (([], 0, 0) : List UInt8 × Nat × Int) else if (x.length : Int) < n then ([], 0, 2) else (x.take n.toNat, n.toNat, 0)) = ([], 0, 2) := fun x hx => by rw [if_neg (by omega), if_pos hx]
      rw [hq _ (by rw [List.length_take]; omega), if_pos (by simp)]
end Go.Proofs.YtfnmohaddkoalaaDoor
namespace Go.Proofs.YtfnmohaddkoalaaDoor
open Go.RowKit Go.Shelf
set_option linter.unusedSimpArgs false
set_option linter.unusedVariables false

theorem results_cell_tmp2 {P : Program} {fn : Func} {p u v : Tmp} {ty : TypeId} (h : fn.results = #[.cell p ty, .tmp u, .tmp v]) (tmps : Array Value) (w : World) :
    (results fn tmps).run P w =
      ((asAddr (tmps.getD p undef)).run P w).andThen fun a w₁ => ((loadVar ty a).run P w₁).andThen fun x w₂ => .ok (.tuple #[x, tmps.getD u undef, tmps.getD v undef]) w₂ := by
  simp only [results, h]
  simp [Sem.run_bind, Result.andThen]
theorem results_row3 {P : Program} {fn : Func} {p u v : Tmp} {ty : TypeId} (h : fn.results = #[.cell p ty, .tmp u, .tmp v]) (tmps : Array Value) (w : World) (b : Nat) (t : TypeId) (cs : List Value) (hg : RowAt w b t cs)
    (hp : tmps.getD p undef = .pointer (some ⟨b, 0, none⟩)) (fs : Array Field) (hu : P.underlying ty = some (.struct fs)) (hi : (P.info? ty).map (·.size) = some cs.length) :
    (results fn tmps).run P w = .ok (.tuple #[.agg cs.toArray, tmps.getD u undef, tmps.getD v undef]) w := by
  have hr := run_loadVar_row (P := P) w b t ty cs.toArray (0, 0) (.struct fs) hg hu rfl (by rw [hi]; simp)
  rw [results_cell_tmp2 h, hp]
  have e1 : (asAddr (.pointer (some ⟨b, 0, none⟩))).run P w = .ok ⟨b, 0, none⟩ w := by simp [asAddr]
  rw [e1, Result.andThen_ok, hr, Result.andThen_ok]
theorem mreq_size : (Tryd.prog.info? 40).map (·.size) = some 5 := by kernel_rfl
/-- A request's cells. -/
abbrev reqC (m t : ByteArray) (v : Int) (vf : Value) (b : ByteArray) : List Value := [.string m, .string t, .int .i64 v, vf, .string b]
abbrev zReq : List Value := reqC ⟨#[]⟩ ⟨#[]⟩ 0 (.slice none 0 0) ⟨#[]⟩
theorem reqC_one (m t : ByteArray) (v : Int) (oa : Option Addr) (n c : Nat) (b : ByteArray) : ∀ u ∈ reqC m t v (.slice oa n c) b, u.oneCell' = true := by
  intro u hu
  simp only [List.mem_cons, List.not_mem_nil, or_false] at hu
  rcases hu with rfl | rfl | rfl | rfl | rfl <;> rfl
theorem getF_sz {n : List UInt8} {xs : List Fd} {k : Nat} (h : ∀ x ∈ xs, x.1.size ≤ k ∧ x.2.size ≤ k) : ∀ c ∈ getF n xs, c.size ≤ k := fun c hc => by
  unfold getF at hc
  obtain ⟨x, hx, rfl⟩ := List.mem_map.1 hc
  exact (h x (List.mem_filter.1 hx).1).2
theorem FBuf.nil3 (w : World) (B : Nat) : FBuf w B (.slice none 0 0) [] := FBuf.nil_ _ _
theorem FBuf.other {w w' : World} {B b : Nat} {v : Value} {xs : List Fd} (h : FBuf w B v xs) (hb : b < B) (hk : ∀ k, k ≠ b → w'.heap[k]? = w.heap[k]?) : FBuf w' B v xs := by
  refine ⟨h.1, ?_⟩
  rcases h.2 with h0 | ⟨g, cap, cur, h1, h2, h3, h4⟩
  · exact .inl h0
  · exact .inr ⟨g, cap, cur, h1, h2, (hk g (by omega)).trans h3, h4⟩
theorem wp_store_rowS {P : Program} {ops : Array Oper} {E : Prop} {op : Oper} {a : Act} {K : Act → World → Prop} {Q : Exit → Act → World → Prop} {w : World} (hgd : op.guard = none) (ty : TypeId) (x y : Operand) (ho : op.op = .store ty x y)
    (b : Nat) (t : TypeId) (cs vs : List Value) (hg : RowAt w b t cs) (hx : a.eval x = .pointer (some ⟨b, 0, none⟩)) (hy : a.eval y = .agg vs.toArray) (hl : vs.length = cs.length)
    (hi : (P.info? ty).map (·.size) = some cs.length) (h1 : ∀ v ∈ vs, v.oneCell' = true)
    (h : ∀ w', RowAt w' b t vs → (∀ B, B ≤ b → Below B w w') → (∀ k, k ≠ b → w'.heap[k]? = w.heap[k]?) → w'.heap.size = w.heap.size → K (a.put op.dst undef) w') : if Region.wanted op (yielded ops a.tmps) = true then op.wp P a w K Q else E := by
  have hw : Region.wanted op (yielded ops a.tmps) = true := by simp [Region.wanted, hgd]
  rw [if_pos hw]
  refine wp_store_mid ty x y ho b 0 vs.toArray hx hy (fun j hj => ?_) (by rw [hi]; simp [hl]) (all_oneCell_toArray h1) ?_
  · have hj' : j < cs.length := by simp at hj; omega
    rw [Nat.zero_add]
    exact ⟨by rw [hg.cell j (List.getElem?_eq_getElem hj')]; rfl, hg.free j⟩
  · have hr := setCells_row vs cs 0 w hg (by omega)
    rw [Nat.zero_add, hl, List.drop_length, List.take_zero, List.nil_append, List.append_nil] at hr
    exact h _ hr (fun B hB => setCells_below hB _ _ _ (Below.refl _ _)) (fun k hk => setCells_other _ _ _ _ hk) (setCells_size _ _ _)
theorem wpK_pureD {P : Program} {ops : Array Oper} {Q : Exit → Act → World → Prop} {md : Region.Mode} {k : Nat} {c : World → Prop} {i : Nat} {oi : Oper} {v : Value} {d : Option Tmp} {fuel : Nat} {listed : Array Bool} {a : Act} {w : World} (hi : ops[i]? = some oi) (hd : oi.dst = d)
    (hB : (Region.noSelect ops && Region.free md ops listed i && (Region.ready md ops listed).contains i && closedB md ops listed && decide (i ≠ k)) = true)
    (hQ : ∀ c a w, Q (.panic c) (a.put oi.dst v) w → Q (.panic c) a w) (hw : Region.wanted oi (yielded ops a.tmps) = true) (hy : ∀ w, (execOp a.eval oi).run P w = .ok (.value v) w) (hS : listed.getD k false = false → c w)
    (h : wpAnyK P md ops Q k c fuel (listed.setIfInBounds i true) (a.put d v) w) : wpAnyK P md ops Q k c (fuel + 1) listed a w := by
  subst hd
  exact wpK_pure hi hB hQ hw hy hS h
/-- What ParseRequest answers. -/
def ReqOut (r : ReqP × Nat × Int) (w : World) (e : Ending) (w' : World) : Prop :=
  ∃ vf, e = .returned (.tuple #[.agg (reqC ⟨r.1.m.toArray⟩ ⟨r.1.t.toArray⟩ r.1.v vf ⟨r.1.b.toArray⟩).toArray, .int .i64 r.2.1, .int .i64 r.2.2]) ∧ FBuf w' w.heap.size vf r.1.xs ∧ Below w.heap.size w w'
theorem reqOut_err (er : Int) {w w' : World} (hb : Below w.heap.size w w') : ReqOut (req0, 0, er) w (.returned (.tuple #[.agg zReq.toArray, .int .i64 0, .int .i64 er])) w' := ⟨_, rfl, FBuf.nil_ _ _, hb⟩
theorem eg_start (args : Array Value) (w : World) : (callFunc 39 args).run Tryd.prog w = .ok (.enter 39 args) w := enters_of Tryd.func39 (by kernel_rfl) rfl args w
abbrev stR : List UInt8 → Int := fun x => (reqL x).2.2.2
abbrev r2R : List Value := [.slice none 0 0, .string ⟨#[]⟩]
abbrev r1R (x : List UInt8) : List Value := .string ⟨(reqL x).1.toArray⟩ :: .string ⟨(reqL x).2.1.toArray⟩ :: .int .i64 (reqL x).2.2.1 :: r2R
theorem start_pred (w0 w : World) (B g : Nat) (s : ByteArray) (ea eb : Addr) (mx : Int) (hE : StartEnv w0 ea eb mx) (hb : Below w0.heap.size w0 w) (hg : w0.heap.size ≤ g) :
    SPred 39 73 w B g s stR (.string ⟨#[]⟩ :: .string ⟨#[]⟩ :: .int .i64 0 :: r2R) r1R := by
  intro W a vf vl vc line hW R hl
  exact start_any W B g s a [] [] [] vf vl vc ⟨#[]⟩ ⟨#[]⟩ 0 r2R line ⟨(reqL (bs line)).1.toArray⟩ ⟨(reqL (bs line)).2.1.toArray⟩ (reqL (bs line)).2.2.1 (reqL (bs line)).2.2.2 ea eb mx R rfl (hE.below (hb.trans (hW.mono hg))) (by omega)
section
variable {l : List UInt8}
theorem parseQ_e1 (h : (hdL stR l).1 ≠ 0) : parseQ l = (req0, 0, (hdL stR l).1) := by unfold parseQ; rw [if_pos h]
theorem parseQ_e2 (h : (hdL stR l).1 = 0) (h2 : frL (hdL stR l).2.2 ≠ 0) : parseQ l = (req0, 0, frL (hdL stR l).2.2) := by unfold parseQ; rw [if_neg (by simpa using h), if_pos h2]
theorem parseQ_e3 (h : (hdL stR l).1 = 0) (h2 : frL (hdL stR l).2.2 = 0) (h3 : 1 < (getF hoN (hdL stR l).2.2).length ∨ (getF hoN (hdL stR l).2.2).length = 0 ∧ (reqL (nextL l).1).2.2.1 = 1) : parseQ l = (req0, 0, 6) := by
  unfold parseQ; rw [if_neg (by simpa using h), if_neg (by simpa using h2), if_pos h3]
theorem parseQ_e4 (h : (hdL stR l).1 = 0) (h2 : frL (hdL stR l).2.2 = 0) (h3 : ¬ (1 < (getF hoN (hdL stR l).2.2).length ∨ (getF hoN (hdL stR l).2.2).length = 0 ∧ (reqL (nextL l).1).2.2.1 = 1)) {b : List UInt8} {n : Nat} {e : Int} (h4 : bdL (hdL stR l).2.2 (l.drop (hdL stR l).2.1) = (b, n, e)) (h5 : e ≠ 0) : parseQ l = (req0, 0, e) := by
  unfold parseQ; rw [if_neg (by simpa using h), if_neg (by simpa using h2), if_neg h3]; simp only [h4]; rw [if_pos h5]
theorem parseQ_ok (h : (hdL stR l).1 = 0) (h2 : frL (hdL stR l).2.2 = 0) (h3 : ¬ (1 < (getF hoN (hdL stR l).2.2).length ∨ (getF hoN (hdL stR l).2.2).length = 0 ∧ (reqL (nextL l).1).2.2.1 = 1)) {b : List UInt8} {n : Nat} (h4 : bdL (hdL stR l).2.2 (l.drop (hdL stR l).2.1) = (b, n, 0)) :
    parseQ l = (⟨(reqL (nextL l).1).1, (reqL (nextL l).1).2.1, (reqL (nextL l).1).2.2.1, unfrL (hdL stR l).2.2, b⟩, (hdL stR l).2.1 + n, 0) := by
  unfold parseQ; rw [if_neg (by simpa using h), if_neg (by simpa using h2), if_neg h3]; simp only [h4]; rw [if_neg (by simp)]
end
set_option maxHeartbeats 6400000 in
set_option maxRecDepth 100000 in
theorem parse_any (s : ByteArray) (w : World) (hs : s.size ≤ 1000000) (hM : MaxOf w) (ea eb : Addr) (mx : Int) (hE : StartEnv w ea eb mx) :
    Calls Tryd.prog 19 #[.string s] w (ReqOut (parseQ (bs s)) w) := by
  have b2 : Below w.heap.size w ((w.alloc (.cells #[.string ⟨#[]⟩, .string ⟨#[]⟩, .int .i64 0, .slice none 0 0, .string ⟨#[]⟩] 40)).alloc (.cells #[.string s, .int .i64 0, .slice none 0 0, .slice none 0 0, .slice none 0 0, .string ⟨#[]⟩, .string ⟨#[]⟩, .int .i64 0, .slice none 0 0, .string ⟨#[]⟩] 73)) := ((Below.refl _ _).alloc (Nat.le_refl _) _).alloc (by rw [World.size_alloc]; omega) _
  have Z2 : RowAt ((w.alloc (.cells #[.string ⟨#[]⟩, .string ⟨#[]⟩, .int .i64 0, .slice none 0 0, .string ⟨#[]⟩] 40)).alloc (.cells #[.string s, .int .i64 0, .slice none 0 0, .slice none 0 0, .slice none 0 0, .string ⟨#[]⟩, .string ⟨#[]⟩, .int .i64 0, .slice none 0 0, .string ⟨#[]⟩] 73)) w.heap.size 40 zReq := (RowAt.new w zReq 40).alloc _
  have G0 : RowAt ((w.alloc (.cells #[.string ⟨#[]⟩, .string ⟨#[]⟩, .int .i64 0, .slice none 0 0, .string ⟨#[]⟩] 40)).alloc (.cells #[.string s, .int .i64 0, .slice none 0 0, .slice none 0 0, .slice none 0 0, .string ⟨#[]⟩, .string ⟨#[]⟩, .int .i64 0, .slice none 0 0, .string ⟨#[]⟩] 73)) (w.heap.size + 1) 73 ([.string s, .int .i64 0, .slice none 0 0, .slice none 0 0, .slice none 0 0] ++ zReq) := by
    have := RowAt.new (w.alloc (.cells zReq.toArray 40)) ([.string s, .int .i64 0, .slice none 0 0, .slice none 0 0, .slice none 0 0] ++ zReq) 73
    rw [World.size_alloc] at this
    exact this
  have z2 : ((w.alloc (.cells #[.string ⟨#[]⟩, .string ⟨#[]⟩, .int .i64 0, .slice none 0 0, .string ⟨#[]⟩] 40)).alloc (.cells #[.string s, .int .i64 0, .slice none 0 0, .slice none 0 0, .slice none 0 0, .string ⟨#[]⟩, .string ⟨#[]⟩, .int .i64 0, .slice none 0 0, .string ⟨#[]⟩] 73)).heap.size = w.heap.size + 2 := by rw [World.size_alloc, World.size_alloc]
  go_enter Tryd.func19, Tryd.ntmps19
  go_wp2_with fail
  generalize ((w.alloc (.cells #[.string ⟨#[]⟩, .string ⟨#[]⟩, .int .i64 0, .slice none 0 0, .string ⟨#[]⟩] 40)).alloc (.cells #[.string s, .int .i64 0, .slice none 0 0, .slice none 0 0, .slice none 0 0, .string ⟨#[]⟩, .string ⟨#[]⟩, .int .i64 0, .slice none 0 0, .string ⟨#[]⟩] 73)) = w2 at b2 Z2 G0 z2 ⊢
  have RD : RdAt 73 w2 (w.heap.size + 2) (w.heap.size + 1) s 0 [] [] [] (.slice none 0 0) (.slice none 0 0) (.slice none 0 0) zReq := ⟨G0, FBuf.nil_ _ _, SBuf.nil_ _ _, SBuf.nil_ _ _, (fun b h => by cases h), by omega, by omega⟩
  have HC := head_any 73 w2 (w.heap.size + 2) (w.heap.size + 1) s stR 39 zReq r1R _ _ _ RD hs (fun W hW => hM.below (b2.trans (hW.mono (by omega)))) eg_start (start_pred w w2 _ _ s ea eb mx hE b2 (by omega))
  clear RD G0
  obtain ⟨er, a, xs, hhd⟩ : ∃ er a xs, (er, a, xs) = hdL stR (bs s) := ⟨_, _, _, rfl⟩
  rw [← hhd] at HC
  refine HC.mono ?_
  rintro e w3 ⟨rfl, hb3, hRD⟩
  dsimp only at hRD ⊢
  clear HC
  have Z3 := Z2.belowB hb3 (by omega)
  have b3 := b2.trans (hb3.mono (by omega))
  have z3 := hb3.size
  by_cases h1 : er = 0
  · subst h1
    obtain ⟨⟨vf, vl, vc, R3⟩, hat, hxl, hxz⟩ := hRD rfl
    obtain ⟨M, T, v, ev, hreq, _⟩ := req_words (reqL (nextL (bs s)).1)
    have R3 : RdAt 73 w3 (w.heap.size + 2) (w.heap.size + 1) s a (unfrL xs) (getF clN xs) (getF teN xs) vf vl vc (.string M :: .string T :: .int .i64 v :: r2R) := by
      unfold r1R at R3
      rw [hreq] at R3
      exact R3
    go_wp2_with fail
    have hfl : (unfrL xs).length ≤ 65 := by have := List.length_filter_le plainF xs; unfold unfrL; omega
    have HFR := framing_any 73 w3 (w.heap.size + 2) (w.heap.size + 1) s a _ _ _ _ _ _ _ R3 (fun c hc => by have := getF_sz hxz c hc; omega) (fun c hc => by have := getF_sz hxz c hc; omega) (by have := getF_len2 clN xs; omega)
    obtain ⟨ef, hef⟩ : ∃ ef, ef = frE (getF teN xs) (getF clN xs) := ⟨_, rfl⟩
    rw [← hef] at HFR
    have HEF := Lib.hid hef
    clear hef
    refine HFR.mono ?_
    rintro e w4 ⟨rfl, hb4⟩
    have R4 := R3.below hb4
    have Z4 := Z3.below hb4
    have b4 := b3.trans (hb4.mono b3.size)
    have z4 := hb4.size
    clear R3 Z3 hb4 hRD HFR
    by_cases h2 : ef = 0
    · subst h2
      have hfr : frL xs = 0 := HEF.out.symm
      obtain ⟨oa, cap, rfl, HFO⟩ := R4.f.shape
      have c2 := R4.row.cell 2 rfl
      have c8 := R4.row.cell 8 rfl
      have f8 := R4.row.free 8
      have R5 := R4.set 8 (.slice oa (unfrL xs).length cap) a (.string M :: .string T :: .int .i64 v :: .slice oa (unfrL xs).length cap :: [.string ⟨#[]⟩]) rfl
      have Z5 := Z4.setOther (show w.heap.size ≠ w.heap.size + 1 by omega) 8 (.slice oa (unfrL xs).length cap)
      have b5 := b4.setCell (p := ⟨w.heap.size + 1, 8, none⟩) (by show w.heap.size ≤ w.heap.size + 1; omega) (.slice oa (unfrL xs).length cap)
      have g2 := R5.row.cell 2 rfl
      have z5 := size_setM w4 ⟨w.heap.size + 1, 8, none⟩ (.slice oa (unfrL xs).length cap)
      have HFO5 := R5.f.fld
      clear R4 Z4 b4 HFO
      go_wp2_with fail
      generalize (w4.setCell ⟨w.heap.size + 1, 8, none⟩ (.slice oa (unfrL xs).length cap)) = w5 at *
      refine (get_any oa (unfrL xs) cap ⟨#[72, 111, 115, 116]⟩ w5 (by decide) (by omega) (fun x hx => by have := hxz x (List.mem_filter.1 hx).1; omega) HFO5).mono ?_
      rintro e w6 ⟨vh, rfl, SH, hb6⟩
      have R6 := R5.below hb6
      have Z6 := Z5.below hb6
      have b6 := b5.trans (hb6.mono b5.size)
      have z6 := hb6.size
      have d7 := R6.row.cell 7 rfl
      obtain ⟨hs6, hhs⟩ : ∃ l, l = getF hoN xs := ⟨_, rfl⟩
      rw [show getF (bs ⟨#[72, 111, 115, 116]⟩) (unfrL xs) = hs6 by rw [hhs]; exact unfr_ho xs] at SH
      obtain ⟨oh, ch, rfl, _⟩ := SH.shape
      obtain ⟨nh, hlen⟩ : ∃ nh, nh = hs6.length := ⟨_, rfl⟩
      rw [← hlen]
      rw [hhs] at hlen
      have HLEN := Lib.hid hlen
      clear R5 Z5 b5 hb6 SH g2 c2 c8 f8 HFO5 z5 hhs hlen
      by_cases hh1 : 1 < (nh : Int)
      · have HQ : Hid (parseQ (bs s) = (req0, 0, 6)) := Lib.hid (parseQ_e3 (by rw [← hhd]) (by rw [← hhd]; exact hfr) (by rw [← hhd]; left; show 1 < (getF hoN xs).length; have := HLEN.out; omega))
        go_wp2_with (refine wpList_store_row rfl _ 40 (.tmp 2) (.tmp 63) rfl w.heap.size 40 zReq zReq Z6 rfl rfl rfl mreq_size (reqC_one _ _ _ _ _ _ _) ?_; intro w9 R9 f1 f2 f3)
        refine bodyPost_ret (results_row3 rfl _ _ w.heap.size 40 zReq R9 rfl _ Tryd.underlying40 mreq_size) rfl ?_
        rw [HQ.out]
        exact reqOut_err _ (b6.trans (f1 _ (Nat.le_refl _)))
      obtain ⟨bX, n, eb2, hbd0⟩ : ∃ b n e, bdE (getF teN xs) (getF clN xs) ((bs s).drop a) = (b, n, e) := ⟨_, _, _, rfl⟩
      obtain ⟨X, rfl⟩ : ∃ X : ByteArray, bX = bs X := ⟨⟨bX.toArray⟩, rfl⟩
      have hbd := hbd0
      by_cases hh0 : nh = 0
      · have hh0' : ((nh : Int) == 0) = true := by rw [beq_iff_eq]; omega
        by_cases hv1 : v = 1
        · have HQ : Hid (parseQ (bs s) = (req0, 0, 6)) := Lib.hid (parseQ_e3 (by rw [← hhd]) (by rw [← hhd]; exact hfr) (by rw [← hhd, hreq]; right; exact ⟨by show (getF hoN xs).length = 0; have := HLEN.out; omega, hv1⟩))
          subst hv1
          go_wp2_with (refine wpList_store_row rfl _ 40 (.tmp 2) (.tmp 63) rfl w.heap.size 40 zReq zReq Z6 rfl rfl rfl mreq_size (reqC_one _ _ _ _ _ _ _) ?_; intro w9 R9 f1 f2 f3)
          refine bodyPost_ret (results_row3 rfl _ _ w.heap.size 40 zReq R9 rfl _ Tryd.underlying40 mreq_size) rfl ?_
          rw [HQ.out]
          exact reqOut_err _ (b6.trans (f1 _ (Nat.le_refl _)))
        have hv1' : (v == 1) = false := by rw [beq_eq_false_iff_ne]; exact hv1
        have hho : ¬ (1 < nh ∨ nh = 0 ∧ v = 1) := by omega
        go_wp2_with fail
        refine (body_any 73 w6 (w.heap.size + 2) (w.heap.size + 1) s a _ _ _ _ _ _ _ R6 hat hs (hM.below b6) hfr X n eb2 hbd).mono ?_
        rintro e w7 ⟨rfl, hb7, R7, hat7⟩
        have Z7 := Z6.belowB hb7 (by omega)
        have b7 := b6.trans (hb7.mono (by omega))
        have z7 := hb7.size
        by_cases h4 : eb2 = 0
        · subst h4
          have HQ : Hid (parseQ (bs s) = (⟨bs M, bs T, v, unfrL xs, bs X⟩, a + n, 0)) := Lib.hid (by
            have := parseQ_ok (l := bs s) (b := bs X) (n := n) (by rw [← hhd]) (by rw [← hhd]; exact hfr) (by rw [← hhd, hreq]; rw [HLEN.out] at hho; exact hho) (by rw [← hhd]; exact hbd)
            rw [this, ← hhd, hreq])
          have R8 := R7.set 9 (.string X) (a + n) (.string M :: .string T :: .int .i64 v :: .slice oa (unfrL xs).length cap :: [.string X]) rfl
          have f7 := R7.row.free 9
          have c7 := R7.row.cell 9 rfl
          have Z8 := Z7.setOther (show w.heap.size ≠ w.heap.size + 1 by omega) 9 (.string X)
          have b8 := b7.setCell (p := ⟨w.heap.size + 1, 9, none⟩) (by show w.heap.size ≤ w.heap.size + 1; omega) (.string X)
          clear R7 Z7 b7 hb7
          go_wp2_with fail
          generalize (w7.setCell ⟨w.heap.size + 1, 9, none⟩ (.string X)) = w8 at *
          refine wp_region_K 9 (fun w' => Below w8.heap.size w8 w') (by kernel_rfl) (Below.refl _ _).drew (fun hH => ?_)
          generalize w8.drew = y1 at *
          refine wpK_pure (i := 0) (v := .pointer (some ⟨w.heap.size + 1, 0, none⟩)) rfl (by kernel_rfl) (fun _ _ _ h => h) (by rfl) (fun w9 => by go_simp) (fun _ => hH) ?_
          try simp only [Act.put, List.setIfInBounds_toArray, List.set_cons_zero, List.set_cons_succ]
          refine wpK_pure (i := 1) (v := .pointer (some ⟨w.heap.size + 1, 0, none⟩)) rfl (by kernel_rfl) (fun _ _ _ h => h) (by rfl) (fun w9 => by go_simp) (fun _ => hH) ?_
          try simp only [Act.put, List.setIfInBounds_toArray, List.set_cons_zero, List.set_cons_succ]
          refine wpK_pure (i := 2) (v := .pointer (some ⟨w.heap.size + 1, 5, none⟩)) rfl (by kernel_rfl) (fun _ _ _ h => h) (by rfl) (fun w9 => by go_simp) (fun _ => hH) ?_
          try simp only [Act.put, List.setIfInBounds_toArray, List.set_cons_zero, List.set_cons_succ]
          refine wpK_load (i := 3) (v := .agg (reqC M T v (.slice oa (unfrL xs).length cap) X).toArray) [9] rfl (by kernel_rfl) (fun _ _ _ h => h) (by rfl) (fun w9 h9 => by have Q := (R8.row.below h9); have d5 := Q.cell 5 rfl; have d6 := Q.cell 6 rfl; have d7 := Q.cell 7 rfl; have d8 := Q.cell 8 rfl; have d9 := Q.cell 9 rfl; clear Q; go_simp) (fun _ => hH) ?_
          try simp only [Act.put, List.setIfInBounds_toArray, List.set_cons_zero, List.set_cons_succ]
          refine wpK_pure (i := 4) (v := .pointer (some ⟨w.heap.size + 1, 0, none⟩)) rfl (by kernel_rfl) (fun _ _ _ h => h) (by rfl) (fun w9 => by go_simp) (fun _ => hH) ?_
          try simp only [Act.put, List.setIfInBounds_toArray, List.set_cons_zero, List.set_cons_succ]
          refine wpK_pure (i := 5) (v := .pointer (some ⟨w.heap.size + 1, 0, none⟩)) rfl (by kernel_rfl) (fun _ _ _ h => h) (by rfl) (fun w9 => by go_simp) (fun _ => hH) ?_
          try simp only [Act.put, List.setIfInBounds_toArray, List.set_cons_zero, List.set_cons_succ]
          refine wpK_pure (i := 6) (v := .pointer (some ⟨w.heap.size + 1, 0, none⟩)) rfl (by kernel_rfl) (fun _ _ _ h => h) (by rfl) (fun w9 => by go_simp) (fun _ => hH) ?_
          try simp only [Act.put, List.setIfInBounds_toArray, List.set_cons_zero, List.set_cons_succ]
          refine wpK_pure (i := 7) (v := .pointer (some ⟨w.heap.size + 1, 1, none⟩)) rfl (by kernel_rfl) (fun _ _ _ h => h) (by rfl) (fun w9 => by go_simp) (fun _ => hH) ?_
          try simp only [Act.put, List.setIfInBounds_toArray, List.set_cons_zero, List.set_cons_succ]
          have ZQ := Z8.below hH
          refine wpK_ready [8, 9] (by kernel_rfl) (by simp) ?_
          refine AllK.cons (i := 8) (rs := [9]) rfl ?_ (AllK.cons (i := 9) (rs := []) rfl ?_ AllK.nil)
          · intro K hK
            have c9 := (R8.row.below hH).cell 1 rfl
            go_simp
            refine hK.out _ _ (fun _ => hH) ?_
            intro _
            clear hK K
            try simp only [Act.put, List.setIfInBounds_toArray, List.set_cons_zero, List.set_cons_succ]
            refine wpK_ready [9] (by kernel_rfl) (by simp) ?_
            refine AllK.cons (i := 9) (rs := []) rfl ?_ AllK.nil
            intro K hK
            have z0 := ZQ.cell 0 rfl
            have f0 := ZQ.free 0
            have z1 := ZQ.cell 1 rfl
            have f1 := ZQ.free 1
            have z2 := ZQ.cell 2 rfl
            have f2 := ZQ.free 2
            have z3 := ZQ.cell 3 rfl
            have f3 := ZQ.free 3
            have z4 := ZQ.cell 4 rfl
            have f4 := ZQ.free 4
            have RQ : RowAt (((((y1.setCell ⟨w.heap.size, 0, none⟩ (.string M)).setCell ⟨w.heap.size, 1, none⟩ (.string T)).setCell ⟨w.heap.size, 2, none⟩ (.int .i64 v)).setCell ⟨w.heap.size, 3, none⟩ (.slice oa (unfrL xs).length cap)).setCell ⟨w.heap.size, 4, none⟩ (.string X)) w.heap.size 40 (reqC M T v (.slice oa (unfrL xs).length cap) X) := (((((ZQ.set 0 (.string M)).set 1 (.string T)).set 2 (.int .i64 v)).set 3 (.slice oa (unfrL xs).length cap)).set 4 (.string X))
            have k1 : Below w.heap.size y1 (((((y1.setCell ⟨w.heap.size, 0, none⟩ (.string M)).setCell ⟨w.heap.size, 1, none⟩ (.string T)).setCell ⟨w.heap.size, 2, none⟩ (.int .i64 v)).setCell ⟨w.heap.size, 3, none⟩ (.slice oa (unfrL xs).length cap)).setCell ⟨w.heap.size, 4, none⟩ (.string X)) := ((((((Below.refl _ _).setCell (p := ⟨w.heap.size, 0, none⟩) (Nat.le_refl _) (.string M)).setCell (p := ⟨w.heap.size, 1, none⟩) (Nat.le_refl _) (.string T)).setCell (p := ⟨w.heap.size, 2, none⟩) (Nat.le_refl _) (.int .i64 v)).setCell (p := ⟨w.heap.size, 3, none⟩) (Nat.le_refl _) (.slice oa (unfrL xs).length cap)).setCell (p := ⟨w.heap.size, 4, none⟩) (Nat.le_refl _) (.string X))
            have k2 : ∀ k, k ≠ w.heap.size → (((((y1.setCell ⟨w.heap.size, 0, none⟩ (.string M)).setCell ⟨w.heap.size, 1, none⟩ (.string T)).setCell ⟨w.heap.size, 2, none⟩ (.int .i64 v)).setCell ⟨w.heap.size, 3, none⟩ (.slice oa (unfrL xs).length cap)).setCell ⟨w.heap.size, 4, none⟩ (.string X)).heap[k]? = y1.heap[k]? := fun k hk => ((heap_setCell_other _ _ _ _ hk).trans ((heap_setCell_other _ _ _ _ hk).trans ((heap_setCell_other _ _ _ _ hk).trans ((heap_setCell_other _ _ _ _ hk).trans ((heap_setCell_other _ _ _ _ hk).trans rfl)))))
            go_simp
            generalize (((((y1.setCell ⟨w.heap.size, 0, none⟩ (.string M)).setCell ⟨w.heap.size, 1, none⟩ (.string T)).setCell ⟨w.heap.size, 2, none⟩ (.int .i64 v)).setCell ⟨w.heap.size, 3, none⟩ (.slice oa (unfrL xs).length cap)).setCell ⟨w.heap.size, 4, none⟩ (.string X)) = y2 at RQ k1 k2 ⊢
            refine hK.out _ _ (fun h => absurd h (by decide)) ?_
            intro _
            clear hK K z0 z1 z2 z3 z4 f0 f1 f2 f3 f4
            try simp only [Act.put, List.setIfInBounds_toArray, List.set_cons_zero, List.set_cons_succ]
            refine wpK_pureD (i := 10) (d := some 3) (v := .int .i64 ((a + n : Nat) : Int)) rfl rfl (by kernel_rfl) (fun _ _ _ h => h) (by rfl) (fun w9 => by go_simp) (fun h => absurd h (by decide)) ?_
            try simp only [Act.put, List.setIfInBounds_toArray, List.set_cons_zero, List.set_cons_succ]
            refine wpK_pureD (i := 11) (d := some 4) (v := .int .i64 0) rfl rfl (by kernel_rfl) (fun _ _ _ h => h) (by rfl) (fun w9 => by go_simp) (fun h => absurd h (by decide)) ?_
            try simp only [Act.put, List.setIfInBounds_toArray, List.set_cons_zero, List.set_cons_succ]
            refine wpK_done (by kernel_rfl) ?_ _
            go_wp2_with fail
            refine bodyPost_ret (results_row3 rfl _ _ w.heap.size 40 (reqC M T v (.slice oa (unfrL xs).length cap) X) RQ rfl _ Tryd.underlying40 mreq_size) rfl ?_
            rw [HQ.out]
            exact ⟨_, rfl, ((R8.below hH).f.other (show w.heap.size < w.heap.size + 2 by omega) k2).lower (by omega), (b8.trans (hH.mono b8.size)).trans k1⟩
          · intro K hK
            have z0 := ZQ.cell 0 rfl
            have f0 := ZQ.free 0
            have z1 := ZQ.cell 1 rfl
            have f1 := ZQ.free 1
            have z2 := ZQ.cell 2 rfl
            have f2 := ZQ.free 2
            have z3 := ZQ.cell 3 rfl
            have f3 := ZQ.free 3
            have z4 := ZQ.cell 4 rfl
            have f4 := ZQ.free 4
            have RQ : RowAt (((((y1.setCell ⟨w.heap.size, 0, none⟩ (.string M)).setCell ⟨w.heap.size, 1, none⟩ (.string T)).setCell ⟨w.heap.size, 2, none⟩ (.int .i64 v)).setCell ⟨w.heap.size, 3, none⟩ (.slice oa (unfrL xs).length cap)).setCell ⟨w.heap.size, 4, none⟩ (.string X)) w.heap.size 40 (reqC M T v (.slice oa (unfrL xs).length cap) X) := (((((ZQ.set 0 (.string M)).set 1 (.string T)).set 2 (.int .i64 v)).set 3 (.slice oa (unfrL xs).length cap)).set 4 (.string X))
            have k1 : Below w.heap.size y1 (((((y1.setCell ⟨w.heap.size, 0, none⟩ (.string M)).setCell ⟨w.heap.size, 1, none⟩ (.string T)).setCell ⟨w.heap.size, 2, none⟩ (.int .i64 v)).setCell ⟨w.heap.size, 3, none⟩ (.slice oa (unfrL xs).length cap)).setCell ⟨w.heap.size, 4, none⟩ (.string X)) := ((((((Below.refl _ _).setCell (p := ⟨w.heap.size, 0, none⟩) (Nat.le_refl _) (.string M)).setCell (p := ⟨w.heap.size, 1, none⟩) (Nat.le_refl _) (.string T)).setCell (p := ⟨w.heap.size, 2, none⟩) (Nat.le_refl _) (.int .i64 v)).setCell (p := ⟨w.heap.size, 3, none⟩) (Nat.le_refl _) (.slice oa (unfrL xs).length cap)).setCell (p := ⟨w.heap.size, 4, none⟩) (Nat.le_refl _) (.string X))
            have k2 : ∀ k, k ≠ w.heap.size → (((((y1.setCell ⟨w.heap.size, 0, none⟩ (.string M)).setCell ⟨w.heap.size, 1, none⟩ (.string T)).setCell ⟨w.heap.size, 2, none⟩ (.int .i64 v)).setCell ⟨w.heap.size, 3, none⟩ (.slice oa (unfrL xs).length cap)).setCell ⟨w.heap.size, 4, none⟩ (.string X)).heap[k]? = y1.heap[k]? := fun k hk => ((heap_setCell_other _ _ _ _ hk).trans ((heap_setCell_other _ _ _ _ hk).trans ((heap_setCell_other _ _ _ _ hk).trans ((heap_setCell_other _ _ _ _ hk).trans ((heap_setCell_other _ _ _ _ hk).trans rfl)))))
            go_simp
            generalize (((((y1.setCell ⟨w.heap.size, 0, none⟩ (.string M)).setCell ⟨w.heap.size, 1, none⟩ (.string T)).setCell ⟨w.heap.size, 2, none⟩ (.int .i64 v)).setCell ⟨w.heap.size, 3, none⟩ (.slice oa (unfrL xs).length cap)).setCell ⟨w.heap.size, 4, none⟩ (.string X)) = y2 at RQ k1 k2 ⊢
            refine hK.out _ _ (fun h => absurd h (by decide)) ?_
            intro _
            clear hK K z0 z1 z2 z3 z4 f0 f1 f2 f3 f4
            try simp only [Act.put, List.setIfInBounds_toArray, List.set_cons_zero, List.set_cons_succ]
            have c9 : y2.cell? ⟨w.heap.size + 1, 1, none⟩ = some (.int .i64 ((a + n : Nat) : Int)) := by
              have h9 : RowAt y2 (w.heap.size + 1) _ _ := (k2 (w.heap.size + 1) (by omega)).trans (R8.row.below hH)
              exact h9.cell 1 rfl
            refine wpK_ready [8] (by kernel_rfl) (by simp) ?_
            refine AllK.cons (i := 8) (rs := []) rfl ?_ AllK.nil
            intro K hK
            go_simp
            refine hK.out _ _ (fun h => absurd h (by decide)) ?_
            intro _
            clear hK K
            try simp only [Act.put, List.setIfInBounds_toArray, List.set_cons_zero, List.set_cons_succ]
            refine wpK_pureD (i := 10) (d := some 3) (v := .int .i64 ((a + n : Nat) : Int)) rfl rfl (by kernel_rfl) (fun _ _ _ h => h) (by rfl) (fun w9 => by go_simp) (fun h => absurd h (by decide)) ?_
            try simp only [Act.put, List.setIfInBounds_toArray, List.set_cons_zero, List.set_cons_succ]
            refine wpK_pureD (i := 11) (d := some 4) (v := .int .i64 0) rfl rfl (by kernel_rfl) (fun _ _ _ h => h) (by rfl) (fun w9 => by go_simp) (fun h => absurd h (by decide)) ?_
            try simp only [Act.put, List.setIfInBounds_toArray, List.set_cons_zero, List.set_cons_succ]
            refine wpK_done (by kernel_rfl) ?_ _
            go_wp2_with fail
            refine bodyPost_ret (results_row3 rfl _ _ w.heap.size 40 (reqC M T v (.slice oa (unfrL xs).length cap) X) RQ rfl _ Tryd.underlying40 mreq_size) rfl ?_
            rw [HQ.out]
            exact ⟨_, rfl, ((R8.below hH).f.other (show w.heap.size < w.heap.size + 2 by omega) k2).lower (by omega), (b8.trans (hH.mono b8.size)).trans k1⟩
        · have h4' : (eb2 != 0) = true := by simp [h4]
          have HQ : Hid (parseQ (bs s) = (req0, 0, eb2)) := Lib.hid (parseQ_e4 (l := bs s) (b := bs X) (n := n) (by rw [← hhd]) (by rw [← hhd]; exact hfr) (by rw [← hhd, hreq]; rw [HLEN.out] at hho; exact hho) (by rw [← hhd]; exact hbd) h4)
          go_wp2_with (refine wpList_store_row rfl _ 40 (.tmp 2) (.tmp 73) rfl w.heap.size 40 zReq zReq Z7 rfl rfl rfl mreq_size (reqC_one _ _ _ _ _ _ _) ?_; intro w9 R9 f1 f2 f3)
          refine bodyPost_ret (results_row3 rfl _ _ w.heap.size 40 zReq R9 rfl _ Tryd.underlying40 mreq_size) rfl ?_
          rw [HQ.out]
          exact reqOut_err _ (b7.trans (f1 _ (Nat.le_refl _)))
      · have hh0' : ((nh : Int) == 0) = false := by rw [beq_eq_false_iff_ne]; omega
        have hho : ¬ (1 < nh ∨ nh = 0 ∧ v = 1) := by omega
        go_wp2_with fail
        refine (body_any 73 w6 (w.heap.size + 2) (w.heap.size + 1) s a _ _ _ _ _ _ _ R6 hat hs (hM.below b6) hfr X n eb2 hbd).mono ?_
        rintro e w7 ⟨rfl, hb7, R7, hat7⟩
        have Z7 := Z6.belowB hb7 (by omega)
        have b7 := b6.trans (hb7.mono (by omega))
        have z7 := hb7.size
        by_cases h4 : eb2 = 0
        · subst h4
          have HQ : Hid (parseQ (bs s) = (⟨bs M, bs T, v, unfrL xs, bs X⟩, a + n, 0)) := Lib.hid (by
            have := parseQ_ok (l := bs s) (b := bs X) (n := n) (by rw [← hhd]) (by rw [← hhd]; exact hfr) (by rw [← hhd, hreq]; rw [HLEN.out] at hho; exact hho) (by rw [← hhd]; exact hbd)
            rw [this, ← hhd, hreq])
          have R8 := R7.set 9 (.string X) (a + n) (.string M :: .string T :: .int .i64 v :: .slice oa (unfrL xs).length cap :: [.string X]) rfl
          have f7 := R7.row.free 9
          have c7 := R7.row.cell 9 rfl
          have Z8 := Z7.setOther (show w.heap.size ≠ w.heap.size + 1 by omega) 9 (.string X)
          have b8 := b7.setCell (p := ⟨w.heap.size + 1, 9, none⟩) (by show w.heap.size ≤ w.heap.size + 1; omega) (.string X)
          clear R7 Z7 b7 hb7
          go_wp2_with fail
          generalize (w7.setCell ⟨w.heap.size + 1, 9, none⟩ (.string X)) = w8 at *
          refine wp_region_K 9 (fun w' => Below w8.heap.size w8 w') (by kernel_rfl) (Below.refl _ _).drew (fun hH => ?_)
          generalize w8.drew = y1 at *
          refine wpK_pure (i := 0) (v := .pointer (some ⟨w.heap.size + 1, 0, none⟩)) rfl (by kernel_rfl) (fun _ _ _ h => h) (by rfl) (fun w9 => by go_simp) (fun _ => hH) ?_
          try simp only [Act.put, List.setIfInBounds_toArray, List.set_cons_zero, List.set_cons_succ]
          refine wpK_pure (i := 1) (v := .pointer (some ⟨w.heap.size + 1, 0, none⟩)) rfl (by kernel_rfl) (fun _ _ _ h => h) (by rfl) (fun w9 => by go_simp) (fun _ => hH) ?_
          try simp only [Act.put, List.setIfInBounds_toArray, List.set_cons_zero, List.set_cons_succ]
          refine wpK_pure (i := 2) (v := .pointer (some ⟨w.heap.size + 1, 5, none⟩)) rfl (by kernel_rfl) (fun _ _ _ h => h) (by rfl) (fun w9 => by go_simp) (fun _ => hH) ?_
          try simp only [Act.put, List.setIfInBounds_toArray, List.set_cons_zero, List.set_cons_succ]
          refine wpK_load (i := 3) (v := .agg (reqC M T v (.slice oa (unfrL xs).length cap) X).toArray) [9] rfl (by kernel_rfl) (fun _ _ _ h => h) (by rfl) (fun w9 h9 => by have Q := (R8.row.below h9); have d5 := Q.cell 5 rfl; have d6 := Q.cell 6 rfl; have d7 := Q.cell 7 rfl; have d8 := Q.cell 8 rfl; have d9 := Q.cell 9 rfl; clear Q; go_simp) (fun _ => hH) ?_
          try simp only [Act.put, List.setIfInBounds_toArray, List.set_cons_zero, List.set_cons_succ]
          refine wpK_pure (i := 4) (v := .pointer (some ⟨w.heap.size + 1, 0, none⟩)) rfl (by kernel_rfl) (fun _ _ _ h => h) (by rfl) (fun w9 => by go_simp) (fun _ => hH) ?_
          try simp only [Act.put, List.setIfInBounds_toArray, List.set_cons_zero, List.set_cons_succ]
          refine wpK_pure (i := 5) (v := .pointer (some ⟨w.heap.size + 1, 0, none⟩)) rfl (by kernel_rfl) (fun _ _ _ h => h) (by rfl) (fun w9 => by go_simp) (fun _ => hH) ?_
          try simp only [Act.put, List.setIfInBounds_toArray, List.set_cons_zero, List.set_cons_succ]
          refine wpK_pure (i := 6) (v := .pointer (some ⟨w.heap.size + 1, 0, none⟩)) rfl (by kernel_rfl) (fun _ _ _ h => h) (by rfl) (fun w9 => by go_simp) (fun _ => hH) ?_
          try simp only [Act.put, List.setIfInBounds_toArray, List.set_cons_zero, List.set_cons_succ]
          refine wpK_pure (i := 7) (v := .pointer (some ⟨w.heap.size + 1, 1, none⟩)) rfl (by kernel_rfl) (fun _ _ _ h => h) (by rfl) (fun w9 => by go_simp) (fun _ => hH) ?_
          try simp only [Act.put, List.setIfInBounds_toArray, List.set_cons_zero, List.set_cons_succ]
          have ZQ := Z8.below hH
          refine wpK_ready [8, 9] (by kernel_rfl) (by simp) ?_
          refine AllK.cons (i := 8) (rs := [9]) rfl ?_ (AllK.cons (i := 9) (rs := []) rfl ?_ AllK.nil)
          · intro K hK
            have c9 := (R8.row.below hH).cell 1 rfl
            go_simp
            refine hK.out _ _ (fun _ => hH) ?_
            intro _
            clear hK K
            try simp only [Act.put, List.setIfInBounds_toArray, List.set_cons_zero, List.set_cons_succ]
            refine wpK_ready [9] (by kernel_rfl) (by simp) ?_
            refine AllK.cons (i := 9) (rs := []) rfl ?_ AllK.nil
            intro K hK
            have z0 := ZQ.cell 0 rfl
            have f0 := ZQ.free 0
            have z1 := ZQ.cell 1 rfl
            have f1 := ZQ.free 1
            have z2 := ZQ.cell 2 rfl
            have f2 := ZQ.free 2
            have z3 := ZQ.cell 3 rfl
            have f3 := ZQ.free 3
            have z4 := ZQ.cell 4 rfl
            have f4 := ZQ.free 4
            have RQ : RowAt (((((y1.setCell ⟨w.heap.size, 0, none⟩ (.string M)).setCell ⟨w.heap.size, 1, none⟩ (.string T)).setCell ⟨w.heap.size, 2, none⟩ (.int .i64 v)).setCell ⟨w.heap.size, 3, none⟩ (.slice oa (unfrL xs).length cap)).setCell ⟨w.heap.size, 4, none⟩ (.string X)) w.heap.size 40 (reqC M T v (.slice oa (unfrL xs).length cap) X) := (((((ZQ.set 0 (.string M)).set 1 (.string T)).set 2 (.int .i64 v)).set 3 (.slice oa (unfrL xs).length cap)).set 4 (.string X))
            have k1 : Below w.heap.size y1 (((((y1.setCell ⟨w.heap.size, 0, none⟩ (.string M)).setCell ⟨w.heap.size, 1, none⟩ (.string T)).setCell ⟨w.heap.size, 2, none⟩ (.int .i64 v)).setCell ⟨w.heap.size, 3, none⟩ (.slice oa (unfrL xs).length cap)).setCell ⟨w.heap.size, 4, none⟩ (.string X)) := ((((((Below.refl _ _).setCell (p := ⟨w.heap.size, 0, none⟩) (Nat.le_refl _) (.string M)).setCell (p := ⟨w.heap.size, 1, none⟩) (Nat.le_refl _) (.string T)).setCell (p := ⟨w.heap.size, 2, none⟩) (Nat.le_refl _) (.int .i64 v)).setCell (p := ⟨w.heap.size, 3, none⟩) (Nat.le_refl _) (.slice oa (unfrL xs).length cap)).setCell (p := ⟨w.heap.size, 4, none⟩) (Nat.le_refl _) (.string X))
            have k2 : ∀ k, k ≠ w.heap.size → (((((y1.setCell ⟨w.heap.size, 0, none⟩ (.string M)).setCell ⟨w.heap.size, 1, none⟩ (.string T)).setCell ⟨w.heap.size, 2, none⟩ (.int .i64 v)).setCell ⟨w.heap.size, 3, none⟩ (.slice oa (unfrL xs).length cap)).setCell ⟨w.heap.size, 4, none⟩ (.string X)).heap[k]? = y1.heap[k]? := fun k hk => ((heap_setCell_other _ _ _ _ hk).trans ((heap_setCell_other _ _ _ _ hk).trans ((heap_setCell_other _ _ _ _ hk).trans ((heap_setCell_other _ _ _ _ hk).trans ((heap_setCell_other _ _ _ _ hk).trans rfl)))))
            go_simp
            generalize (((((y1.setCell ⟨w.heap.size, 0, none⟩ (.string M)).setCell ⟨w.heap.size, 1, none⟩ (.string T)).setCell ⟨w.heap.size, 2, none⟩ (.int .i64 v)).setCell ⟨w.heap.size, 3, none⟩ (.slice oa (unfrL xs).length cap)).setCell ⟨w.heap.size, 4, none⟩ (.string X)) = y2 at RQ k1 k2 ⊢
            refine hK.out _ _ (fun h => absurd h (by decide)) ?_
            intro _
            clear hK K z0 z1 z2 z3 z4 f0 f1 f2 f3 f4
            try simp only [Act.put, List.setIfInBounds_toArray, List.set_cons_zero, List.set_cons_succ]
            refine wpK_pureD (i := 10) (d := some 3) (v := .int .i64 ((a + n : Nat) : Int)) rfl rfl (by kernel_rfl) (fun _ _ _ h => h) (by rfl) (fun w9 => by go_simp) (fun h => absurd h (by decide)) ?_
            try simp only [Act.put, List.setIfInBounds_toArray, List.set_cons_zero, List.set_cons_succ]
            refine wpK_pureD (i := 11) (d := some 4) (v := .int .i64 0) rfl rfl (by kernel_rfl) (fun _ _ _ h => h) (by rfl) (fun w9 => by go_simp) (fun h => absurd h (by decide)) ?_
            try simp only [Act.put, List.setIfInBounds_toArray, List.set_cons_zero, List.set_cons_succ]
            refine wpK_done (by kernel_rfl) ?_ _
            go_wp2_with fail
            refine bodyPost_ret (results_row3 rfl _ _ w.heap.size 40 (reqC M T v (.slice oa (unfrL xs).length cap) X) RQ rfl _ Tryd.underlying40 mreq_size) rfl ?_
            rw [HQ.out]
            exact ⟨_, rfl, ((R8.below hH).f.other (show w.heap.size < w.heap.size + 2 by omega) k2).lower (by omega), (b8.trans (hH.mono b8.size)).trans k1⟩
          · intro K hK
            have z0 := ZQ.cell 0 rfl
            have f0 := ZQ.free 0
            have z1 := ZQ.cell 1 rfl
            have f1 := ZQ.free 1
            have z2 := ZQ.cell 2 rfl
            have f2 := ZQ.free 2
            have z3 := ZQ.cell 3 rfl
            have f3 := ZQ.free 3
            have z4 := ZQ.cell 4 rfl
            have f4 := ZQ.free 4
            have RQ : RowAt (((((y1.setCell ⟨w.heap.size, 0, none⟩ (.string M)).setCell ⟨w.heap.size, 1, none⟩ (.string T)).setCell ⟨w.heap.size, 2, none⟩ (.int .i64 v)).setCell ⟨w.heap.size, 3, none⟩ (.slice oa (unfrL xs).length cap)).setCell ⟨w.heap.size, 4, none⟩ (.string X)) w.heap.size 40 (reqC M T v (.slice oa (unfrL xs).length cap) X) := (((((ZQ.set 0 (.string M)).set 1 (.string T)).set 2 (.int .i64 v)).set 3 (.slice oa (unfrL xs).length cap)).set 4 (.string X))
            have k1 : Below w.heap.size y1 (((((y1.setCell ⟨w.heap.size, 0, none⟩ (.string M)).setCell ⟨w.heap.size, 1, none⟩ (.string T)).setCell ⟨w.heap.size, 2, none⟩ (.int .i64 v)).setCell ⟨w.heap.size, 3, none⟩ (.slice oa (unfrL xs).length cap)).setCell ⟨w.heap.size, 4, none⟩ (.string X)) := ((((((Below.refl _ _).setCell (p := ⟨w.heap.size, 0, none⟩) (Nat.le_refl _) (.string M)).setCell (p := ⟨w.heap.size, 1, none⟩) (Nat.le_refl _) (.string T)).setCell (p := ⟨w.heap.size, 2, none⟩) (Nat.le_refl _) (.int .i64 v)).setCell (p := ⟨w.heap.size, 3, none⟩) (Nat.le_refl _) (.slice oa (unfrL xs).length cap)).setCell (p := ⟨w.heap.size, 4, none⟩) (Nat.le_refl _) (.string X))
            have k2 : ∀ k, k ≠ w.heap.size → (((((y1.setCell ⟨w.heap.size, 0, none⟩ (.string M)).setCell ⟨w.heap.size, 1, none⟩ (.string T)).setCell ⟨w.heap.size, 2, none⟩ (.int .i64 v)).setCell ⟨w.heap.size, 3, none⟩ (.slice oa (unfrL xs).length cap)).setCell ⟨w.heap.size, 4, none⟩ (.string X)).heap[k]? = y1.heap[k]? := fun k hk => ((heap_setCell_other _ _ _ _ hk).trans ((heap_setCell_other _ _ _ _ hk).trans ((heap_setCell_other _ _ _ _ hk).trans ((heap_setCell_other _ _ _ _ hk).trans ((heap_setCell_other _ _ _ _ hk).trans rfl)))))
            go_simp
            generalize (((((y1.setCell ⟨w.heap.size, 0, none⟩ (.string M)).setCell ⟨w.heap.size, 1, none⟩ (.string T)).setCell ⟨w.heap.size, 2, none⟩ (.int .i64 v)).setCell ⟨w.heap.size, 3, none⟩ (.slice oa (unfrL xs).length cap)).setCell ⟨w.heap.size, 4, none⟩ (.string X)) = y2 at RQ k1 k2 ⊢
            refine hK.out _ _ (fun h => absurd h (by decide)) ?_
            intro _
            clear hK K z0 z1 z2 z3 z4 f0 f1 f2 f3 f4
            try simp only [Act.put, List.setIfInBounds_toArray, List.set_cons_zero, List.set_cons_succ]
            have c9 : y2.cell? ⟨w.heap.size + 1, 1, none⟩ = some (.int .i64 ((a + n : Nat) : Int)) := by
              have h9 : RowAt y2 (w.heap.size + 1) _ _ := (k2 (w.heap.size + 1) (by omega)).trans (R8.row.below hH)
              exact h9.cell 1 rfl
            refine wpK_ready [8] (by kernel_rfl) (by simp) ?_
            refine AllK.cons (i := 8) (rs := []) rfl ?_ AllK.nil
            intro K hK
            go_simp
            refine hK.out _ _ (fun h => absurd h (by decide)) ?_
            intro _
            clear hK K
            try simp only [Act.put, List.setIfInBounds_toArray, List.set_cons_zero, List.set_cons_succ]
            refine wpK_pureD (i := 10) (d := some 3) (v := .int .i64 ((a + n : Nat) : Int)) rfl rfl (by kernel_rfl) (fun _ _ _ h => h) (by rfl) (fun w9 => by go_simp) (fun h => absurd h (by decide)) ?_
            try simp only [Act.put, List.setIfInBounds_toArray, List.set_cons_zero, List.set_cons_succ]
            refine wpK_pureD (i := 11) (d := some 4) (v := .int .i64 0) rfl rfl (by kernel_rfl) (fun _ _ _ h => h) (by rfl) (fun w9 => by go_simp) (fun h => absurd h (by decide)) ?_
            try simp only [Act.put, List.setIfInBounds_toArray, List.set_cons_zero, List.set_cons_succ]
            refine wpK_done (by kernel_rfl) ?_ _
            go_wp2_with fail
            refine bodyPost_ret (results_row3 rfl _ _ w.heap.size 40 (reqC M T v (.slice oa (unfrL xs).length cap) X) RQ rfl _ Tryd.underlying40 mreq_size) rfl ?_
            rw [HQ.out]
            exact ⟨_, rfl, ((R8.below hH).f.other (show w.heap.size < w.heap.size + 2 by omega) k2).lower (by omega), (b8.trans (hH.mono b8.size)).trans k1⟩
        · have h4' : (eb2 != 0) = true := by simp [h4]
          have HQ : Hid (parseQ (bs s) = (req0, 0, eb2)) := Lib.hid (parseQ_e4 (l := bs s) (b := bs X) (n := n) (by rw [← hhd]) (by rw [← hhd]; exact hfr) (by rw [← hhd, hreq]; rw [HLEN.out] at hho; exact hho) (by rw [← hhd]; exact hbd) h4)
          go_wp2_with (refine wpList_store_row rfl _ 40 (.tmp 2) (.tmp 73) rfl w.heap.size 40 zReq zReq Z7 rfl rfl rfl mreq_size (reqC_one _ _ _ _ _ _ _) ?_; intro w9 R9 f1 f2 f3)
          refine bodyPost_ret (results_row3 rfl _ _ w.heap.size 40 zReq R9 rfl _ Tryd.underlying40 mreq_size) rfl ?_
          rw [HQ.out]
          exact reqOut_err _ (b7.trans (f1 _ (Nat.le_refl _)))
    · have h2' : (ef != 0) = true := by simp [h2]
      have HQ : Hid (parseQ (bs s) = (req0, 0, ef)) := Lib.hid ((parseQ_e2 (l := bs s) (by rw [← hhd]) (by rw [← hhd]; have h9 := h2; rw [HEF.out] at h9; exact h9)).trans (by rw [← hhd, HEF.out]; rfl))
      go_wp2_with (refine wpList_store_row rfl _ 40 (.tmp 2) (.tmp 31) rfl w.heap.size 40 zReq zReq Z4 rfl rfl rfl mreq_size (reqC_one _ _ _ _ _ _ _) ?_; intro w9 R9 f1 f2 f3)
      refine bodyPost_ret (results_row3 rfl _ _ w.heap.size 40 zReq R9 rfl _ Tryd.underlying40 mreq_size) rfl ?_
      rw [HQ.out]
      exact reqOut_err _ (b4.trans (f1 _ (Nat.le_refl _)))
  · have h1' : (er != 0) = true := by simp [h1]
    have HQ : Hid (parseQ (bs s) = (req0, 0, er)) := Lib.hid ((parseQ_e1 (by rw [← hhd]; exact h1)).trans (by rw [← hhd]))
    go_wp2_with (refine wpList_store_row rfl _ 40 (.tmp 2) (.tmp 23) rfl w.heap.size 40 zReq zReq Z3 rfl rfl rfl mreq_size (reqC_one _ _ _ _ _ _ _) ?_; intro w9 R9 f1 f2 f3)
    refine bodyPost_ret (results_row3 rfl _ _ w.heap.size 40 zReq R9 rfl _ Tryd.underlying40 mreq_size) rfl ?_
    rw [HQ.out]
    exact reqOut_err _ (b3.trans (f1 _ (Nat.le_refl _)))
end Go.Proofs.YtfnmohaddkoalaaDoor
namespace Go.Proofs.YtfnmohaddkoalaaDoor
open Go.RowKit
set_option linter.unusedVariables false

def SentOf (w : World) : Prop := ∃ a b : Addr, w.cell? ⟨1, 0, none⟩ = some (errV a) ∧ w.cell? ⟨2, 0, none⟩ = some (errV b) ∧ a ≠ b ∧
  (∃ ca ta, w.heap[a.block]? = some (.cells ca ta (0, 0))) ∧ ∃ cb tb, w.heap[b.block]? = some (.cells cb tb (0, 0))
theorem startEnv {w : World} (h : SentOf w) (h' : MaxOf w) : ∃ a b m, StartEnv w a b m := by
  obtain ⟨a, b, h1, h2, h3, h4, h5⟩ := h
  obtain ⟨m, hm⟩ := h'
  exact ⟨a, b, m, h1, h2, h3, h4, h5, hm⟩
theorem row_err (u : TypeId) (h : Tryd.prog.typeName? 3 u = some "*errors.errorString") : u = 146 :=
  typeName_ptr_named (nm := "errors.errorString") (by kernel_rfl) (by kernel_rfl) (by decide) u h
theorem gErrSyn : Tryd.prog.globalNamed "variantproxy/startline.errSyntax" = some 1 := by kernel_rfl
theorem gErrVer : Tryd.prog.globalNamed "variantproxy/startline.errVersion" = some 2 := by kernel_rfl
theorem sent_of_two {W : World} {r : List (String × DataW Unit)} (h : laidMet Tryd.prog (("variantproxy/startline.errSyntax", Rows.laid_variantproxy_startline_errSyntax) :: ("variantproxy/startline.errVersion", Rows.laid_variantproxy_startline_errVersion) :: r) W) : SentOf W := by
  obtain ⟨a0, a1, s0, s1, c0, c1, t0, t1, hv0, hv1, _, _, _, _, _, _, hne, hb0, hb1⟩ := laid_sentinels2 h gErrSyn (by kernel_rfl) gErrVer (by kernel_rfl) Tryd.underlying56 row_err Tryd.underlying146 Tryd.underlying168 rfl rfl Tryd.underlying9 (by kernel_rfl) (by kernel_rfl)
  exact ⟨a0, a1, World.var?_cell gErrSyn hv0 0, World.var?_cell gErrVer hv1 0, hne, ⟨c0, t0, hb0⟩, ⟨c1, t1, hb1⟩⟩
/-- What a call of ParseRequest asks of the world. -/
def ReqEnv (w : World) : Prop := MaxOf w ∧ ∃ a b m, StartEnv w a b m
theorem ReqEnv.below {w w' : World} (h : ReqEnv w) (hb : Below w.heap.size w w') : ReqEnv w' := by
  obtain ⟨h1, a, b, m, h2⟩ := h
  exact ⟨h1.below hb, a, b, m, h2.below hb⟩
theorem ReqEnv.of {w : World} (h : SentOf w) (h' : MaxOf w) : ReqEnv w := ⟨h', startEnv h h'⟩
theorem parseE_any (s : ByteArray) (w : World) (hs : s.size ≤ 1000000) (h : ReqEnv w) : Calls Tryd.prog 19 #[.string s] w (ReqOut (parseQ (bs s)) w) := by
  obtain ⟨h1, a, b, m, h2⟩ := h
  exact parse_any s w hs h1 a b m h2
abbrev aw6 : ByteArray := ⟨#[80, 85, 84, 32, 47, 32, 72, 84, 84, 80, 47, 49, 46, 49, 13, 10, 72, 111, 115, 116, 58, 32, 97, 13, 10, 67, 111, 110, 116, 101, 110, 116, 45, 76, 101, 110, 103, 116, 104, 58, 32, 50, 13, 10, 13, 10, 104, 105, 120]⟩
theorem aw6_parse : (parseQ (bs aw6)).2 = (48, 0) ∧ (parseQ (bs aw6)).1.b = [104, 105] ∧ (parseQ (bs aw6)).1.xs.length = 1 := by decide +kernel
set_option maxHeartbeats 800000 in
theorem awake6_any (w : World) (hE : ReqEnv w) : Calls Tryd.prog 20 #[] w fun e w' => e = .returned (.bool true) ∧ Below w.heap.size w w' := by
  have HP := parseE_any aw6 w (by decide) hE
  obtain ⟨h1, h2, h3⟩ := aw6_parse
  generalize parseQ (bs aw6) = r at HP h1 h2 h3
  obtain ⟨⟨m, t, v, xs, b⟩, n, e0⟩ := r
  obtain ⟨h1, h4⟩ := Prod.mk.inj h1
  dsimp only at h1 h2 h3 h4
  subst h1 h4 h2
  have HPH := Lib.hid HP
  have HX := Lib.hid h3
  clear HP hE h3
  obtain ⟨M, hM⟩ : ∃ M : ByteArray, M = ⟨m.toArray⟩ := ⟨_, rfl⟩
  obtain ⟨T, hT⟩ : ∃ M : ByteArray, M = ⟨t.toArray⟩ := ⟨_, rfl⟩
  go_enter Tryd.func20, Tryd.ntmps20
  go_wp2_with fail
  refine HPH.out.mono ?_
  rintro e w1 ⟨vf, rfl, FB, hb1⟩
  dsimp only at FB ⊢
  obtain ⟨oa, cap, rfl, _⟩ := FB.shape
  rw [HX.out, ← hM, ← hT]
  clear HPH FB hM hT
  have ha := alloc_b w1 (.cells (reqC ⟨#[]⟩ ⟨#[]⟩ 0 (.slice none 0 0) ⟨#[]⟩).toArray 40)
  have RN := RowAt.new w1 (reqC ⟨#[]⟩ ⟨#[]⟩ 0 (.slice none 0 0) ⟨#[]⟩) 40
  go_wp2_with (refine wpList_store_row rfl _ 40 (.tmp 1) (.tmp 6) rfl w1.heap.size 40 zReq (reqC M T v (.slice oa 1 cap) ⟨#[104, 105]⟩) RN rfl rfl rfl mreq_size (reqC_one _ _ _ _ _ _ _) ?_; intro w2 R2 f1 f2 f3; have d3 := R2.cell 3 rfl; have d4 := R2.cell 4 rfl)
  go_ret
  exact ⟨rfl, (step_b hb1 ha).trans (f1 _ hb1.size)⟩
end Go.Proofs.YtfnmohaddkoalaaDoor
namespace Go.Proofs.YtfnmohaddkoalaaDoor
open Go.RowKit

def digC (u : Nat) : UInt8 := UInt8.ofNat (48 + u % 10)
/-- After k digits of m have been written: what is left, and the digits that stand. -/
def DecAtR (m u k : Nat) (l : List UInt8) : Prop := (k = 0 ∧ l = [] ∧ u = m) ∨ (0 < k ∧ Lib.decDigits m = (if u = 0 then [] else Lib.decDigits u) ++ l)
theorem DecAtR.step {m u k : Nat} {l : List UInt8} (h : DecAtR m u k l) (hk : u ≠ 0 ∨ k = 0) : DecAtR m (u / 10) (k + 1) (digC u :: l) := by
  refine .inr ⟨by omega, ?_⟩
  have hd : Lib.decDigits m = Lib.decDigits u ++ l := by
    rcases h with ⟨_, rfl, rfl⟩ | ⟨h1, h2⟩
    · simp
    · rw [h2, if_neg (by omega)]
  rw [hd]
  by_cases h10 : u < 10
  · rw [Lib.decDigits_one h10, show u / 10 = 0 from by omega, show digC u = UInt8.ofNat (48 + u) from by unfold digC; rw [show u % 10 = u from by omega]]; rfl
  · rw [if_neg (by omega)]
    conv => lhs; rw [Lib.decDigits, dif_neg h10]
    rw [List.append_assoc]; rfl
theorem DecAtR.done {m u k : Nat} {l : List UInt8} (h : DecAtR m u k l) (hu : u = 0) (hk : 0 < k) : l = Lib.decDigits m := by
  rcases h with ⟨h, _⟩ | ⟨_, h⟩
  · omega
  · rw [h, if_pos hu, List.nil_append]
theorem cat_mk (a b : List UInt8) : (⟨a.toArray⟩ : ByteArray) ++ ⟨b.toArray⟩ = ⟨(a ++ b).toArray⟩ := by
  apply ByteArray.ext; simp
theorem DecAtR.len {m u k : Nat} {l : List UInt8} (h : DecAtR m u k l) (hm : m ≤ 9223372036854775808) : l.length ≤ 21 := by
  rcases h with ⟨_, rfl, _⟩ | ⟨_, h⟩
  · simp
  · have h1 : (Lib.itoa (-(m : Int))).length ≤ 21 := Lib.itoa_length_le _ (by omega) (by omega)
    have h2 : (Lib.decDigits m).length ≤ 21 := by
      by_cases h0 : m = 0
      · subst h0; rw [Lib.decDigits_one (by omega)]; simp
      · rw [Lib.itoa_neg m (by omega)] at h1; simp at h1; omega
    rw [h] at h2
    simp only [List.length_append] at h2
    omega
theorem digit_nat (u : Nat) : ((digC u).toNat : Int) = 48 + (u : Int) % 10 := by simp [digC]; omega
theorem Buf.digit (w : World) (B : Nat) (e : TypeId) (u : Nat) (hB : B ≤ w.heap.size) : Buf (w.alloc (.cells #[.int .u8 (48 + (u : Int) % 10)] e)) B e (.slice (some ⟨w.heap.size, 0, none⟩) 1 1) [digC u] := by
  rw [← digit_nat]; exact Buf.one w B e _ hB
set_option maxHeartbeats 800000 in
theorem rdecimal_pos (m : Nat) (w : World) (hm : m ≤ 9223372036854775807) :
    Calls Tryd.prog 18 #[.int .i64 m] w fun e w' => e = .returned (.string ⟨(Lib.decDigits m).toArray⟩) ∧ Below w.heap.size w w' := by
  have hm1 : ¬ (m : Int) < 0 := by omega
  go_enter Tryd.func18, Tryd.ntmps18
  go_wp2
  go_loopw [0, 3, 5] (fun n v j wr => ∃ (u k : Nat) (l : List UInt8), n = .int .i64 ((u : Int)) ∧ j = .int .i64 k ∧ Buf wr w.heap.size 5 v l ∧ DecAtR m u k l ∧ u ≤ m ∧ l.length = k ∧ Below w.heap.size w wr ∧ w.heap.size ≤ wr.heap.size) (fun n _ j _ => (intOf n).natAbs + (1 - (intOf j).toNat))
  case atStart => exact ⟨m, 0, [], rfl, rfl, Buf.none_ _ _ _, .inl ⟨rfl, rfl, rfl⟩, Nat.le_refl _, rfl, Below.refl _ _, Nat.le_refl _⟩
  case round =>
    obtain ⟨u, k, l, rfl, rfl, hB, hD0, hu, hkm0, hb, hz⟩ := hrel
    have hkm : k ≤ 21 := by have := hD0.len (by omega); omega
    have Hkm := Lib.hid hkm0
    clear hkm0
    have hll := hD0.len (by omega)
    have hlen : [digC u].length + l.length ≤ 140737488355328 := by simp; omega
    by_cases h0 : u = 0
    · subst h0
      by_cases hk0 : k = 0
      · subst hk0
        have hD := Lib.hid hD0
        clear hD0
        go_wp2_with (at_builtin; refine wpList_append_bufs rfl (.tmp 26) (.tmp 27) 45 rfl w _ w.heap.size w.heap.size 5 Tryd.underlying45 infoU8 _ _ _ _ rfl (Buf.digit wr w.heap.size 5 0 hz) (hb.alloc hz _) (le_alloc hz _) rfl (hB.alloc _) hlen ?_)
        intro v1 w1 hB1 hb1 hz1
        clear hB hb hz
        go_wp2
        go_roundw
        case rel => exact ⟨0 / 10, 0 + 1, _, rfl, rfl, hB1, hD.out.step (.inr rfl), by omega, by simp [Hkm.out], hb1, hz1⟩
        case measure => simp [intOf]
      · have b2 : ((k : Int) == 0) = false := by simp; omega
        have HE := Lib.hid (hD0.done rfl (by omega))
        have hcv := conv_from_buf (P := Tryd.prog) 45 9 5 w.heap.size _ _ wr Tryd.underlying45 Tryd.underlying5 Tryd.underlying9 hB
        clear hD0 hB
        go_wp2
        go_ret
        exact ⟨by rw [← HE.out]; rfl, hb⟩
    · have b1 : ((u : Int) != 0) = true := by simp; omega
      have hD := Lib.hid hD0
      have hup : 0 < u := by omega
      clear hD0 h0
      go_wp2_with (at_builtin; refine wpList_append_bufs rfl (.tmp 26) (.tmp 27) 45 rfl w _ w.heap.size w.heap.size 5 Tryd.underlying45 infoU8 _ _ _ _ rfl (Buf.digit wr w.heap.size 5 u hz) (hb.alloc hz _) (le_alloc hz _) rfl (hB.alloc _) hlen ?_)
      intro v1 w1 hB1 hb1 hz1
      clear hB hb hz
      go_wp2
      go_roundw
      case rel => exact ⟨u / 10, k + 1, _, by go_num, by go_num, hB1, hD.out.step (.inl (by omega)), by omega, by simp [Hkm.out], hb1, hz1⟩
      case measure => simp [intOf]; omega
set_option maxHeartbeats 800000 in
theorem rdecimal_neg (m : Nat) (w : World) (hm : 0 < m) (hm2 : m ≤ 9223372036854775808) :
    Calls Tryd.prog 18 #[.int .i64 (-(m : Int))] w fun e w' => e = .returned (.string ⟨(45 :: Lib.decDigits m).toArray⟩) ∧ Below w.heap.size w w' := by
  have hm1 : -(m : Int) < 0 := by omega
  go_enter Tryd.func18, Tryd.ntmps18
  go_wp2
  go_loopw [0, 3, 5] (fun n v j wr => ∃ (u k : Nat) (l : List UInt8), n = .int .i64 (-(u : Int)) ∧ j = .int .i64 k ∧ Buf wr w.heap.size 5 v l ∧ DecAtR m u k l ∧ u ≤ m ∧ l.length = k ∧ Below w.heap.size w wr ∧ w.heap.size ≤ wr.heap.size) (fun n _ j _ => (intOf n).natAbs + (1 - (intOf j).toNat))
  case atStart => exact ⟨m, 0, [], rfl, rfl, Buf.none_ _ _ _, .inl ⟨rfl, rfl, rfl⟩, Nat.le_refl _, rfl, Below.refl _ _, Nat.le_refl _⟩
  case round =>
    obtain ⟨u, k, l, rfl, rfl, hB, hD0, hu, hkm0, hb, hz⟩ := hrel
    have hkm : k ≤ 21 := by have := hD0.len (by omega); omega
    have Hkm := Lib.hid hkm0
    clear hkm0
    have hll := hD0.len (by omega)
    have hlen : [digC u].length + l.length ≤ 140737488355328 := by simp; omega
    by_cases h0 : u = 0
    · subst h0
      by_cases hk0 : k = 0
      · exfalso
        subst hk0
        rcases hD0 with ⟨_, _, h⟩ | ⟨h, _⟩ <;> omega
      · have b2 : ((k : Int) == 0) = false := by simp; omega
        have HE := Lib.hid (hD0.done rfl (by omega))
        have hcv := conv_from_buf (P := Tryd.prog) 45 9 5 w.heap.size _ _ wr Tryd.underlying45 Tryd.underlying5 Tryd.underlying9 hB
        clear hD0 hB hk0 hm
        go_wp2
        go_ret
        exact ⟨by rw [← HE.out]; exact congrArg (fun b => Ending.returned (Value.string b)) (cat_mk [45] l), hb⟩
    · have b1 : (-(u : Int) != 0) = true := by simp; omega
      have t1 : (-(u : Int)).tmod 10 = -((u : Int) % 10) := by rw [Int.neg_tmod, Int.tmod_eq_emod_of_nonneg (by omega)]
      have t2 : (-(u : Int)).tdiv 10 = -((u : Int) / 10) := by rw [Int.neg_tdiv, Int.tdiv_eq_ediv_of_nonneg (by omega)]
      have hD := Lib.hid hD0
      have hup : 0 < u := by omega
      clear hD0 h0
      by_cases hr0 : (u : Int) % 10 = 0
      · have d1 : ¬ -((u : Int) % 10) < 0 := by omega
        have d0 : -((u : Int) % 10) = (u : Int) % 10 := by omega
        rw [d0] at t1 d1
        clear hr0 d0
        go_wp2_with (at_builtin; refine wpList_append_bufs rfl (.tmp 26) (.tmp 27) 45 rfl w _ w.heap.size w.heap.size 5 Tryd.underlying45 infoU8 _ _ _ _ rfl (Buf.digit wr w.heap.size 5 u hz) (hb.alloc hz _) (le_alloc hz _) rfl (hB.alloc _) hlen ?_)
        intro v1 w1 hB1 hb1 hz1
        clear hB hb hz
        go_wp2
        go_roundw
        case rel => exact ⟨u / 10, k + 1, _, by go_num, by go_num, hB1, hD.out.step (.inl (by omega)), by omega, by simp [Hkm.out], hb1, hz1⟩
        case measure => simp [intOf]; omega
      · have d1 : -((u : Int) % 10) < 0 := by omega
        clear hr0
        go_wp2_with (at_builtin; refine wpList_append_bufs rfl (.tmp 26) (.tmp 27) 45 rfl w _ w.heap.size w.heap.size 5 Tryd.underlying45 infoU8 _ _ _ _ rfl (Buf.digit wr w.heap.size 5 u hz) (hb.alloc hz _) (le_alloc hz _) rfl (hB.alloc _) hlen ?_)
        intro v1 w1 hB1 hb1 hz1
        clear hB hb hz
        go_wp2
        go_roundw
        case rel => exact ⟨u / 10, k + 1, _, by go_num, by go_num, hB1, hD.out.step (.inl (by omega)), by omega, by simp [Hkm.out], hb1, hz1⟩
        case measure => simp [intOf]; omega
end Go.Proofs.YtfnmohaddkoalaaDoor
namespace Go.Proofs.YtfnmohaddkoalaaDoor
open Go.RowKit

abbrev PowTab (w : World) : Prop := Lib.TabIs Tryd.prog w "internal/strconv.uint64pow10" .u64 Lib.pow10Tab
theorem rdecimal_any (n : Int) (w : World) (h0 : -9223372036854775808 ≤ n) (h1 : n ≤ 9223372036854775807) :
    Calls Tryd.prog 18 #[.int .i64 n] w fun e w' => e = .returned (.string ⟨(Lib.itoa n).toArray⟩) ∧ Below w.heap.size w w' := by
  by_cases hn : n < 0
  · obtain ⟨m, rfl⟩ : ∃ m : Nat, n = -(m : Int) := ⟨n.natAbs, by omega⟩
    rw [Lib.itoa_neg m (by omega)]
    exact rdecimal_neg m w (by omega) (by omega)
  · obtain ⟨m, rfl⟩ : ∃ m : Nat, n = (m : Int) := ⟨n.toNat, by omega⟩
    rw [Lib.itoa_nonneg]
    exact rdecimal_pos m w (by omega)
/-- The table of powers of ten stands behind a call. -/
theorem PowTab.below {w w' : World} (h : PowTab w) (hb : Below w.heap.size w w') : PowTab w' := by
  have hg : Tryd.prog.globalNamed "internal/strconv.uint64pow10" = some 0 := by kernel_rfl
  exact var?_below hb hg (World.block_lt_of_cell? _ _ (Lib.TabIs.cell h hg 0 (by decide))) h
theorem itoa_len {n : Int} (h0 : -9223372036854775808 ≤ n) (h1 : n ≤ 9223372036854775807) : (Lib.itoa n).length ≤ 40 := by
  have := Lib.itoa_length_le n h0 h1
  omega
end Go.Proofs.YtfnmohaddkoalaaDoor
namespace Go.Proofs.YtfnmohaddkoalaaDoor
open Go.RowKit Go.Shelf
set_option linter.unusedSimpArgs false
set_option linter.unusedVariables false

theorem sent_of_amb {W : World} (h : laidMetH Tryd.prog Rows.messageAmbiguousRow.laid W) : SentOf W := by
  rw [MakeChecks.laidMetH_plain _ _ _ (by kernel_rfl)] at h
  exact sent_of_two h.tail
theorem bs_cat3 (a b : ByteArray) : bs (a ++ b) = bs a ++ bs b := by unfold bs; rw [ByteArray.data_append, Array.toList_append]
theorem and3 (x : Int) : 0 ≤ bits .and .i64 x 3 ∧ bits .and .i64 x 3 ≤ 3 := by
  have h : (BitVec.ofInt IntKind.i64.bits x &&& BitVec.ofInt IntKind.i64.bits 3).toNat ≤ 3 := by
    rw [BitVec.toNat_and]
    exact Nat.le_trans Nat.and_le_right (by decide)
  simp only [bits]
  rw [IntKind.wrap_i64]
  omega
set_option maxHeartbeats 3200000 in
set_option maxRecDepth 100000 in
theorem ambiguous_walk (ln tw : Int) (host : ByteArray) (w : World) (_ : (Lit.int .i64 ln).wf = true) (_ : (Lit.int .i64 tw).wf = true) (_ : host.size ≤ 9223372036854775807) (hS : SentOf w) (hM : MaxOf w) :
    Calls Tryd.prog 8 #[.int .i64 ln, .int .i64 tw, .string host] w fun e w' => e = .returned (.bool true) ∧ Below w.heap.size w w' := by
  have HE := Lib.hid (ReqEnv.of hS hM)
  clear hS hM
  by_cases h0 : ln < 0
  · go_enter Tryd.func8, Tryd.ntmps8
    go_wp2_with fail
    go_ret
    exact ⟨rfl, Below.refl _ _⟩
  by_cases h1 : 100000 < ln
  · go_enter Tryd.func8, Tryd.ntmps8
    go_wp2_with fail
    go_ret
    exact ⟨rfl, Below.refl _ _⟩
  by_cases h2 : 100 < (host.size : Int)
  · go_enter Tryd.func8, Tryd.ntmps8
    go_wp2_with fail
    go_ret
    exact ⟨rfl, Below.refl _ _⟩
  cases hf : validF (bs ⟨#[72, 111, 115, 116]⟩) (bs host) with
  | false =>
    go_enter Tryd.func8, Tryd.ntmps8
    go_wp2_with fail
    refine (rfvalid_any ⟨#[72, 111, 115, 116]⟩ host w (by decide) (by omega)).mono ?_
    rintro e w1 ⟨he, hb1⟩
    rw [hf] at he; subst he
    go_wp2_with fail
    go_ret
    exact ⟨rfl, hb1⟩
  | true =>
  have HVF := Lib.hid hf
  obtain ⟨u, hu⟩ : ∃ u : Nat, ln = (u : Int) := ⟨ln.toNat, by omega⟩
  subst hu
  obtain ⟨D, hD⟩ : ∃ D : ByteArray, D = ⟨(Lib.itoa (u : Int)).toArray⟩ := ⟨_, rfl⟩
  have hDb : bs D = Lib.decDigits u := by rw [hD]; exact Lib.itoa_nonneg u
  have zD : D.size ≤ 9 := by rw [← bs_length, hDb]; exact dec_len 9 u (by decide) (by omega)
  have HD : Hid (∀ wx, Calls Tryd.prog 18 #[.int .i64 (u : Int)] wx fun e w' => e = .returned (.string D) ∧ Below wx.heap.size wx w') := Lib.hid fun wx => by
    rw [hD]; exact rdecimal_any (u : Int) wx (by omega) (by omega)
  have HDB := Lib.hid hDb
  clear hD hDb
  have hk0 := and3 tw
  obtain ⟨T1, hT1⟩ : ∃ E : ByteArray, E = ⟨#[80, 79, 83, 84, 32, 47, 32, 72, 84, 84, 80, 47, 49, 46, 49, 13, 10, 72, 111, 115, 116, 58, 32]⟩ ++ host := ⟨_, rfl⟩
  obtain ⟨T2, hT2⟩ : ∃ E : ByteArray, E = T1 ++ ⟨#[13, 10, 67, 111, 110, 116, 101, 110, 116, 45, 76, 101, 110, 103, 116, 104, 58, 32]⟩ := ⟨_, rfl⟩
  obtain ⟨T3, hT3⟩ : ∃ E : ByteArray, E = T2 ++ D := ⟨_, rfl⟩
  obtain ⟨T4, hT4⟩ : ∃ E : ByteArray, E = T3 ++ ⟨#[13, 10]⟩ := ⟨_, rfl⟩
  have zT1 : T1.size = 23 + host.size := by rw [hT1, ByteArray.size_append]; rfl
  have zT2 : T2.size = T1.size + 18 := by rw [hT2, ByteArray.size_append]; rfl
  have zT3 : T3.size = T2.size + D.size := by rw [hT3, ByteArray.size_append]
  have zT4 : T4.size = T3.size + 2 := by rw [hT4, ByteArray.size_append]; rfl
  have sT1 : ∀ wx, (Op.stringOp .add ⟨#[80, 79, 83, 84, 32, 47, 32, 72, 84, 84, 80, 47, 49, 46, 49, 13, 10, 72, 111, 115, 116, 58, 32]⟩ host).run Tryd.prog wx = .ok (.string T1) wx := fun wx => by rw [hT1]; exact run_string_add_sum wx _ _ (by have e0 : (⟨#[80, 79, 83, 84, 32, 47, 32, 72, 84, 84, 80, 47, 49, 46, 49, 13, 10, 72, 111, 115, 116, 58, 32]⟩ : ByteArray).size = 23 := rfl; omega)
  have sT2 : ∀ wx, (Op.stringOp .add T1 ⟨#[13, 10, 67, 111, 110, 116, 101, 110, 116, 45, 76, 101, 110, 103, 116, 104, 58, 32]⟩).run Tryd.prog wx = .ok (.string T2) wx := fun wx => by rw [hT2]; exact run_string_add_sum wx _ _ (by have e0 : (⟨#[13, 10, 67, 111, 110, 116, 101, 110, 116, 45, 76, 101, 110, 103, 116, 104, 58, 32]⟩ : ByteArray).size = 18 := rfl; omega)
  have sT3 : ∀ wx, (Op.stringOp .add T2 D).run Tryd.prog wx = .ok (.string T3) wx := fun wx => by rw [hT3]; exact run_string_add_sum wx _ _ (by omega)
  have sT4 : ∀ wx, (Op.stringOp .add T3 ⟨#[13, 10]⟩).run Tryd.prog wx = .ok (.string T4) wx := fun wx => by rw [hT4]; exact run_string_add_sum wx _ _ (by have e0 : (⟨#[13, 10]⟩ : ByteArray).size = 2 := rfl; omega)
  have HT4 : Hid (bs T4 = linesB [postL, lineS hoN (bs host), lineS clN (Lib.decDigits u)]) := Lib.hid (by
    rw [hT4, bs_cat3, hT3, bs_cat3, hT2, bs_cat3, hT1, bs_cat3, HDB.out]; simp [linesB, lineS, bs])
  have zT : T4.size ≤ 300 := by omega
  clear hT1 hT2 hT3 hT4 zT1 zT2 zT3 zT4
  have hkk : bits .and .i64 tw 3 = 0 ∨ bits .and .i64 tw 3 = 1 ∨ bits .and .i64 tw 3 = 2 ∨ bits .and .i64 tw 3 = 3 := by omega
  clear hk0
  rcases hkk with hq | hq | hq | hq
  · obtain ⟨T5, hT5⟩ : ∃ E : ByteArray, E = T4 ++ ⟨#[84, 114, 97, 110, 115, 102, 101, 114, 45, 69, 110, 99, 111, 100, 105, 110, 103, 58, 32, 99, 104, 117, 110, 107, 101, 100, 13, 10]⟩ := ⟨_, rfl⟩
    obtain ⟨T6, hT6⟩ : ∃ E : ByteArray, E = T5 ++ ⟨#[13, 10]⟩ := ⟨_, rfl⟩
    have zT5 : T5.size = T4.size + 28 := by rw [hT5, ByteArray.size_append]; rfl
    have zT6 : T6.size = T5.size + 2 := by rw [hT6, ByteArray.size_append]; rfl
    have sT5 : ∀ wx, (Op.stringOp .add T4 ⟨#[84, 114, 97, 110, 115, 102, 101, 114, 45, 69, 110, 99, 111, 100, 105, 110, 103, 58, 32, 99, 104, 117, 110, 107, 101, 100, 13, 10]⟩).run Tryd.prog wx = .ok (.string T5) wx := fun wx => by rw [hT5]; exact run_string_add_sum wx _ _ (by have e0 : (⟨#[84, 114, 97, 110, 115, 102, 101, 114, 45, 69, 110, 99, 111, 100, 105, 110, 103, 58, 32, 99, 104, 117, 110, 107, 101, 100, 13, 10]⟩ : ByteArray).size = 28 := rfl; omega)
    have sT6 : ∀ wx, (Op.stringOp .add T5 ⟨#[13, 10]⟩).run Tryd.prog wx = .ok (.string T6) wx := fun wx => by rw [hT6]; exact run_string_add_sum wx _ _ (by have e0 : (⟨#[13, 10]⟩ : ByteArray).size = 2 := rfl; omega)
    have HT6 : bs T6 = linesB (ambLs 0 (bs host) (Lib.decDigits u)) ++ [13, 10] := by
      rw [hT6, bs_cat3, hT5, bs_cat3, HT4.out]
      simp [linesB, lineS, ambLs, ambX, bs]
    have z6 : T6.size ≤ 1000000 := by omega
    obtain ⟨q, hpq⟩ := amb_parse 0 (h := bs host) (u := u) HVF.out (by rw [bs_length]; omega) (by omega)
    rw [← HT6, show ambE 0 = 8 from rfl] at hpq
    have HP : Hid (∀ wx, ReqEnv wx → Calls Tryd.prog 19 #[.string T6] wx (ReqOut (q, 0, 8) wx)) := Lib.hid fun wx h => by
      have := parseE_any T6 wx z6 h
      rw [hpq] at this
      exact this
    clear hT5 zT5 hT6 zT6 HT6 hpq
    obtain ⟨m, t, v, xs, b⟩ := q
    obtain ⟨M, hM⟩ : ∃ M : ByteArray, M = ⟨m.toArray⟩ := ⟨_, rfl⟩
    obtain ⟨T, hT⟩ : ∃ M : ByteArray, M = ⟨t.toArray⟩ := ⟨_, rfl⟩
    obtain ⟨X, hX⟩ : ∃ M : ByteArray, M = ⟨b.toArray⟩ := ⟨_, rfl⟩
    go_enter Tryd.func8, Tryd.ntmps8
    go_wp2_with fail
    refine (rfvalid_any ⟨#[72, 111, 115, 116]⟩ host w (by decide) (by omega)).mono ?_
    rintro e w1 ⟨he, hb1⟩
    rw [hf] at he; subst he
    go_wp2_with fail
    refine (HD.out _).mono ?_
    rintro e w2 ⟨rfl, hb2⟩
    have b2 := step_b hb1 hb2
    go_wp2_with fail
    refine (HP.out _ (HE.out.below b2)).mono ?_
    rintro e w3 ⟨vf, rfl, FB, hb3⟩
    have b3 := step_b b2 hb3
    dsimp only at FB ⊢
    obtain ⟨oa, cap, rfl, _⟩ := FB.shape
    rw [← hM, ← hT, ← hX]
    clear HP FB hM hT hX
    have ha := alloc_b w3 (.cells (reqC ⟨#[]⟩ ⟨#[]⟩ 0 (.slice none 0 0) ⟨#[]⟩).toArray 40)
    have RN := RowAt.new w3 (reqC ⟨#[]⟩ ⟨#[]⟩ 0 (.slice none 0 0) ⟨#[]⟩) 40
    go_wp2_with (refine wpList_store_row rfl _ 40 (.tmp 9) (.tmp 65) rfl w3.heap.size 40 zReq (reqC M T v (.slice oa xs.length cap) X) RN rfl rfl rfl mreq_size (reqC_one _ _ _ _ _ _ _) ?_; intro w4 R4 f1 f2 f3)
    have b4 := (step_b b3 ha).trans (f1 _ b3.size)
    refine (awake6_any w4 (HE.out.below b4)).mono ?_
    rintro e w5 ⟨rfl, hb5⟩
    go_wp2_with fail
    go_ret
    exact ⟨rfl, step_b b4 hb5⟩
  · obtain ⟨U1, hU1⟩ : ∃ E : ByteArray, E = ⟨#[99, 111, 110, 116, 101, 110, 116, 45, 108, 101, 110, 103, 116, 104, 58, 32]⟩ ++ D := ⟨_, rfl⟩
    obtain ⟨U2, hU2⟩ : ∃ E : ByteArray, E = U1 ++ ⟨#[13, 10]⟩ := ⟨_, rfl⟩
    obtain ⟨T5, hT5⟩ : ∃ E : ByteArray, E = T4 ++ U2 := ⟨_, rfl⟩
    obtain ⟨T6, hT6⟩ : ∃ E : ByteArray, E = T5 ++ ⟨#[13, 10]⟩ := ⟨_, rfl⟩
    have zU1 : U1.size = 16 + D.size := by rw [hU1, ByteArray.size_append]; rfl
    have zU2 : U2.size = U1.size + 2 := by rw [hU2, ByteArray.size_append]; rfl
    have zT5 : T5.size = T4.size + U2.size := by rw [hT5, ByteArray.size_append]
    have zT6 : T6.size = T5.size + 2 := by rw [hT6, ByteArray.size_append]; rfl
    have sU1 : ∀ wx, (Op.stringOp .add ⟨#[99, 111, 110, 116, 101, 110, 116, 45, 108, 101, 110, 103, 116, 104, 58, 32]⟩ D).run Tryd.prog wx = .ok (.string U1) wx := fun wx => by rw [hU1]; exact run_string_add_sum wx _ _ (by have e0 : (⟨#[99, 111, 110, 116, 101, 110, 116, 45, 108, 101, 110, 103, 116, 104, 58, 32]⟩ : ByteArray).size = 16 := rfl; omega)
    have sU2 : ∀ wx, (Op.stringOp .add U1 ⟨#[13, 10]⟩).run Tryd.prog wx = .ok (.string U2) wx := fun wx => by rw [hU2]; exact run_string_add_sum wx _ _ (by have e0 : (⟨#[13, 10]⟩ : ByteArray).size = 2 := rfl; omega)
    have sT5 : ∀ wx, (Op.stringOp .add T4 U2).run Tryd.prog wx = .ok (.string T5) wx := fun wx => by rw [hT5]; exact run_string_add_sum wx _ _ (by omega)
    have sT6 : ∀ wx, (Op.stringOp .add T5 ⟨#[13, 10]⟩).run Tryd.prog wx = .ok (.string T6) wx := fun wx => by rw [hT6]; exact run_string_add_sum wx _ _ (by have e0 : (⟨#[13, 10]⟩ : ByteArray).size = 2 := rfl; omega)
    have HT6 : bs T6 = linesB (ambLs 1 (bs host) (Lib.decDigits u)) ++ [13, 10] := by
      rw [hT6, bs_cat3, hT5, bs_cat3, hU2, bs_cat3, hU1, bs_cat3, HT4.out]
      simp [linesB, lineS, ambLs, ambX, bs, ← HDB.out]
    have z6 : T6.size ≤ 1000000 := by omega
    obtain ⟨q, hpq⟩ := amb_parse 1 (h := bs host) (u := u) HVF.out (by rw [bs_length]; omega) (by omega)
    rw [← HT6, show ambE 1 = 8 from rfl] at hpq
    have HP : Hid (∀ wx, ReqEnv wx → Calls Tryd.prog 19 #[.string T6] wx (ReqOut (q, 0, 8) wx)) := Lib.hid fun wx h => by
      have := parseE_any T6 wx z6 h
      rw [hpq] at this
      exact this
    clear hU1 zU1 hU2 zU2 hT5 zT5 hT6 zT6 HT6 hpq
    obtain ⟨m, t, v, xs, b⟩ := q
    obtain ⟨M, hM⟩ : ∃ M : ByteArray, M = ⟨m.toArray⟩ := ⟨_, rfl⟩
    obtain ⟨T, hT⟩ : ∃ M : ByteArray, M = ⟨t.toArray⟩ := ⟨_, rfl⟩
    obtain ⟨X, hX⟩ : ∃ M : ByteArray, M = ⟨b.toArray⟩ := ⟨_, rfl⟩
    go_enter Tryd.func8, Tryd.ntmps8
    go_wp2_with fail
    refine (rfvalid_any ⟨#[72, 111, 115, 116]⟩ host w (by decide) (by omega)).mono ?_
    rintro e w1 ⟨he, hb1⟩
    rw [hf] at he; subst he
    go_wp2_with fail
    refine (HD.out _).mono ?_
    rintro e w2 ⟨rfl, hb2⟩
    have b2 := step_b hb1 hb2
    go_wp2_with fail
    refine (HD.out _).mono ?_
    rintro e w2b ⟨rfl, hb2b⟩
    have b2 := step_b b2 hb2b
    go_wp2_with fail
    refine (HP.out _ (HE.out.below b2)).mono ?_
    rintro e w3 ⟨vf, rfl, FB, hb3⟩
    have b3 := step_b b2 hb3
    dsimp only at FB ⊢
    obtain ⟨oa, cap, rfl, _⟩ := FB.shape
    rw [← hM, ← hT, ← hX]
    clear HP FB hM hT hX
    have ha := alloc_b w3 (.cells (reqC ⟨#[]⟩ ⟨#[]⟩ 0 (.slice none 0 0) ⟨#[]⟩).toArray 40)
    have RN := RowAt.new w3 (reqC ⟨#[]⟩ ⟨#[]⟩ 0 (.slice none 0 0) ⟨#[]⟩) 40
    go_wp2_with (refine wpList_store_row rfl _ 40 (.tmp 9) (.tmp 65) rfl w3.heap.size 40 zReq (reqC M T v (.slice oa xs.length cap) X) RN rfl rfl rfl mreq_size (reqC_one _ _ _ _ _ _ _) ?_; intro w4 R4 f1 f2 f3)
    have b4 := (step_b b3 ha).trans (f1 _ b3.size)
    refine (awake6_any w4 (HE.out.below b4)).mono ?_
    rintro e w5 ⟨rfl, hb5⟩
    go_wp2_with fail
    go_ret
    exact ⟨rfl, step_b b4 hb5⟩
  · obtain ⟨T5, hT5⟩ : ∃ E : ByteArray, E = T4 ++ ⟨#[84, 114, 97, 110, 115, 102, 101, 114, 45, 69, 110, 99, 111, 100, 105, 110, 103, 58, 32, 103, 122, 105, 112, 44, 32, 99, 104, 117, 110, 107, 101, 100, 13, 10]⟩ := ⟨_, rfl⟩
    obtain ⟨T6, hT6⟩ : ∃ E : ByteArray, E = T5 ++ ⟨#[13, 10]⟩ := ⟨_, rfl⟩
    have zT5 : T5.size = T4.size + 34 := by rw [hT5, ByteArray.size_append]; rfl
    have zT6 : T6.size = T5.size + 2 := by rw [hT6, ByteArray.size_append]; rfl
    have sT5 : ∀ wx, (Op.stringOp .add T4 ⟨#[84, 114, 97, 110, 115, 102, 101, 114, 45, 69, 110, 99, 111, 100, 105, 110, 103, 58, 32, 103, 122, 105, 112, 44, 32, 99, 104, 117, 110, 107, 101, 100, 13, 10]⟩).run Tryd.prog wx = .ok (.string T5) wx := fun wx => by rw [hT5]; exact run_string_add_sum wx _ _ (by have e0 : (⟨#[84, 114, 97, 110, 115, 102, 101, 114, 45, 69, 110, 99, 111, 100, 105, 110, 103, 58, 32, 103, 122, 105, 112, 44, 32, 99, 104, 117, 110, 107, 101, 100, 13, 10]⟩ : ByteArray).size = 34 := rfl; omega)
    have sT6 : ∀ wx, (Op.stringOp .add T5 ⟨#[13, 10]⟩).run Tryd.prog wx = .ok (.string T6) wx := fun wx => by rw [hT6]; exact run_string_add_sum wx _ _ (by have e0 : (⟨#[13, 10]⟩ : ByteArray).size = 2 := rfl; omega)
    have HT6 : bs T6 = linesB (ambLs 2 (bs host) (Lib.decDigits u)) ++ [13, 10] := by
      rw [hT6, bs_cat3, hT5, bs_cat3, HT4.out]
      simp [linesB, lineS, ambLs, ambX, bs]
    have z6 : T6.size ≤ 1000000 := by omega
    obtain ⟨q, hpq⟩ := amb_parse 2 (h := bs host) (u := u) HVF.out (by rw [bs_length]; omega) (by omega)
    rw [← HT6, show ambE 2 = 7 from rfl] at hpq
    have HP : Hid (∀ wx, ReqEnv wx → Calls Tryd.prog 19 #[.string T6] wx (ReqOut (q, 0, 7) wx)) := Lib.hid fun wx h => by
      have := parseE_any T6 wx z6 h
      rw [hpq] at this
      exact this
    clear hT5 zT5 hT6 zT6 HT6 hpq
    obtain ⟨m, t, v, xs, b⟩ := q
    obtain ⟨M, hM⟩ : ∃ M : ByteArray, M = ⟨m.toArray⟩ := ⟨_, rfl⟩
    obtain ⟨T, hT⟩ : ∃ M : ByteArray, M = ⟨t.toArray⟩ := ⟨_, rfl⟩
    obtain ⟨X, hX⟩ : ∃ M : ByteArray, M = ⟨b.toArray⟩ := ⟨_, rfl⟩
    go_enter Tryd.func8, Tryd.ntmps8
    go_wp2_with fail
    refine (rfvalid_any ⟨#[72, 111, 115, 116]⟩ host w (by decide) (by omega)).mono ?_
    rintro e w1 ⟨he, hb1⟩
    rw [hf] at he; subst he
    go_wp2_with fail
    refine (HD.out _).mono ?_
    rintro e w2 ⟨rfl, hb2⟩
    have b2 := step_b hb1 hb2
    go_wp2_with fail
    refine (HP.out _ (HE.out.below b2)).mono ?_
    rintro e w3 ⟨vf, rfl, FB, hb3⟩
    have b3 := step_b b2 hb3
    dsimp only at FB ⊢
    obtain ⟨oa, cap, rfl, _⟩ := FB.shape
    rw [← hM, ← hT, ← hX]
    clear HP FB hM hT hX
    have ha := alloc_b w3 (.cells (reqC ⟨#[]⟩ ⟨#[]⟩ 0 (.slice none 0 0) ⟨#[]⟩).toArray 40)
    have RN := RowAt.new w3 (reqC ⟨#[]⟩ ⟨#[]⟩ 0 (.slice none 0 0) ⟨#[]⟩) 40
    go_wp2_with (refine wpList_store_row rfl _ 40 (.tmp 9) (.tmp 65) rfl w3.heap.size 40 zReq (reqC M T v (.slice oa xs.length cap) X) RN rfl rfl rfl mreq_size (reqC_one _ _ _ _ _ _ _) ?_; intro w4 R4 f1 f2 f3)
    have b4 := (step_b b3 ha).trans (f1 _ b3.size)
    refine (awake6_any w4 (HE.out.below b4)).mono ?_
    rintro e w5 ⟨rfl, hb5⟩
    go_wp2_with fail
    go_ret
    exact ⟨rfl, step_b b4 hb5⟩
  · obtain ⟨U1, hU1⟩ : ∃ E : ByteArray, E = ⟨#[72, 79, 83, 84, 58, 32]⟩ ++ host := ⟨_, rfl⟩
    obtain ⟨U2, hU2⟩ : ∃ E : ByteArray, E = U1 ++ ⟨#[13, 10]⟩ := ⟨_, rfl⟩
    obtain ⟨T5, hT5⟩ : ∃ E : ByteArray, E = T4 ++ U2 := ⟨_, rfl⟩
    obtain ⟨T6, hT6⟩ : ∃ E : ByteArray, E = T5 ++ ⟨#[13, 10]⟩ := ⟨_, rfl⟩
    have zU1 : U1.size = 6 + host.size := by rw [hU1, ByteArray.size_append]; rfl
    have zU2 : U2.size = U1.size + 2 := by rw [hU2, ByteArray.size_append]; rfl
    have zT5 : T5.size = T4.size + U2.size := by rw [hT5, ByteArray.size_append]
    have zT6 : T6.size = T5.size + 2 := by rw [hT6, ByteArray.size_append]; rfl
    have sU1 : ∀ wx, (Op.stringOp .add ⟨#[72, 79, 83, 84, 58, 32]⟩ host).run Tryd.prog wx = .ok (.string U1) wx := fun wx => by rw [hU1]; exact run_string_add_sum wx _ _ (by have e0 : (⟨#[72, 79, 83, 84, 58, 32]⟩ : ByteArray).size = 6 := rfl; omega)
    have sU2 : ∀ wx, (Op.stringOp .add U1 ⟨#[13, 10]⟩).run Tryd.prog wx = .ok (.string U2) wx := fun wx => by rw [hU2]; exact run_string_add_sum wx _ _ (by have e0 : (⟨#[13, 10]⟩ : ByteArray).size = 2 := rfl; omega)
    have sT5 : ∀ wx, (Op.stringOp .add T4 U2).run Tryd.prog wx = .ok (.string T5) wx := fun wx => by rw [hT5]; exact run_string_add_sum wx _ _ (by omega)
    have sT6 : ∀ wx, (Op.stringOp .add T5 ⟨#[13, 10]⟩).run Tryd.prog wx = .ok (.string T6) wx := fun wx => by rw [hT6]; exact run_string_add_sum wx _ _ (by have e0 : (⟨#[13, 10]⟩ : ByteArray).size = 2 := rfl; omega)
    have HT6 : bs T6 = linesB (ambLs 3 (bs host) (Lib.decDigits u)) ++ [13, 10] := by
      rw [hT6, bs_cat3, hT5, bs_cat3, hU2, bs_cat3, hU1, bs_cat3, HT4.out]
      simp [linesB, lineS, ambLs, ambX, bs]
    have z6 : T6.size ≤ 1000000 := by omega
    obtain ⟨q, hpq⟩ := amb_parse 3 (h := bs host) (u := u) HVF.out (by rw [bs_length]; omega) (by omega)
    rw [← HT6, show ambE 3 = 6 from rfl] at hpq
    have HP : Hid (∀ wx, ReqEnv wx → Calls Tryd.prog 19 #[.string T6] wx (ReqOut (q, 0, 6) wx)) := Lib.hid fun wx h => by
      have := parseE_any T6 wx z6 h
      rw [hpq] at this
      exact this
    clear hU1 zU1 hU2 zU2 hT5 zT5 hT6 zT6 HT6 hpq
    obtain ⟨m, t, v, xs, b⟩ := q
    obtain ⟨M, hM⟩ : ∃ M : ByteArray, M = ⟨m.toArray⟩ := ⟨_, rfl⟩
    obtain ⟨T, hT⟩ : ∃ M : ByteArray, M = ⟨t.toArray⟩ := ⟨_, rfl⟩
    obtain ⟨X, hX⟩ : ∃ M : ByteArray, M = ⟨b.toArray⟩ := ⟨_, rfl⟩
    go_enter Tryd.func8, Tryd.ntmps8
    go_wp2_with fail
    refine (rfvalid_any ⟨#[72, 111, 115, 116]⟩ host w (by decide) (by omega)).mono ?_
    rintro e w1 ⟨he, hb1⟩
    rw [hf] at he; subst he
    go_wp2_with fail
    refine (HD.out _).mono ?_
    rintro e w2 ⟨rfl, hb2⟩
    have b2 := step_b hb1 hb2
    go_wp2_with fail
    refine (HP.out _ (HE.out.below b2)).mono ?_
    rintro e w3 ⟨vf, rfl, FB, hb3⟩
    have b3 := step_b b2 hb3
    dsimp only at FB ⊢
    obtain ⟨oa, cap, rfl, _⟩ := FB.shape
    rw [← hM, ← hT, ← hX]
    clear HP FB hM hT hX
    have ha := alloc_b w3 (.cells (reqC ⟨#[]⟩ ⟨#[]⟩ 0 (.slice none 0 0) ⟨#[]⟩).toArray 40)
    have RN := RowAt.new w3 (reqC ⟨#[]⟩ ⟨#[]⟩ 0 (.slice none 0 0) ⟨#[]⟩) 40
    go_wp2_with (refine wpList_store_row rfl _ 40 (.tmp 9) (.tmp 65) rfl w3.heap.size 40 zReq (reqC M T v (.slice oa xs.length cap) X) RN rfl rfl rfl mreq_size (reqC_one _ _ _ _ _ _ _) ?_; intro w4 R4 f1 f2 f3)
    have b4 := (step_b b3 ha).trans (f1 _ b3.size)
    refine (awake6_any w4 (HE.out.below b4)).mono ?_
    rintro e w5 ⟨rfl, hb5⟩
    go_wp2_with fail
    go_ret
    exact ⟨rfl, step_b b4 hb5⟩
end Go.Proofs.YtfnmohaddkoalaaDoor
