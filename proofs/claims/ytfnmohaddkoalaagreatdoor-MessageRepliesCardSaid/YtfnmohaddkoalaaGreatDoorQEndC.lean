/- The walks of Bodiless and FormatResponse, of the program and of the reference (6.4, 6.5). Printed by gen_fmtr.py. message.ParseResponse (layer 6), where it reads a response. Printed by gen_msgs.py. A written response and what is read of it, in plain terms (layer 6). No program in sight. The walk of MessageReplies (law 6): it returns true. Printed by gen_msgu.py. -/
import Derived.Test.YtfnmohaddkoalaaGreatDoorQEnd
import Derived.Test.YtfnmohaddkoalaaGreatDoorQPre
namespace Go.Proofs.YtfnmohaddkoalaaGreatDoor
open Go.RowKit Go.Shelf
set_option linter.unusedSimpArgs false
set_option linter.unusedVariables false

/-- Has a response no body? -/
def bodB (s : Int) (me : ByteArray) : Bool := decide (100 ≤ s ∧ s ≤ 199) || (s == 204 || (s == 304 || me.toList == [72, 69, 65, 68]))
/-- A response as it is written. -/
def resW (v s : Int) (r : ByteArray) (xs : List Fd) (b me : ByteArray) : List UInt8 := msgL (statF v s (bs r)) xs (if bodB s me then -1 else (b.size : Int)) (if bodB s me then [] else bs b)
theorem statF_len (v s : Int) (r : List UInt8) : (statF v s r).length ≤ 2000 := by
  unfold statF
  split
  · rename_i h; exact (statL_inv h).1
  · simp
set_option maxHeartbeats 800000 in
theorem bodiless_any (s : Int) (me : ByteArray) (w : World) :
    Calls Tryz.prog 21 #[.int .i64 s, .string me] w fun e w' => e = .returned (.bool (bodB s me)) ∧ w = w' := by
  by_cases h4 : s = 204
  · subst h4
    have HB : Hid (bodB 204 me = true) := Lib.hid (by unfold bodB; simp)
    go_enter Tryz.func21, Tryz.ntmps21
    go_wp2_with fail
    go_ret
    exact ⟨by rw [HB.out]; rfl, rfl⟩
  by_cases h3 : s = 304
  · subst h3
    have HB : Hid (bodB 304 me = true) := Lib.hid (by unfold bodB; simp)
    go_enter Tryz.func21, Tryz.ntmps21
    go_wp2_with fail
    go_ret
    exact ⟨by rw [HB.out]; rfl, rfl⟩
  have g4 : (s == 204) = false := by rw [beq_eq_false_iff_ne]; exact h4
  have g3 : (s == 304) = false := by rw [beq_eq_false_iff_ne]; exact h3
  cases hm : (me.toList == [72, 69, 65, 68]) with
  | true =>
    by_cases h1 : 100 ≤ s
    · by_cases h2 : s ≤ 199
      · skip
        have HB : Hid (bodB s me = true) := Lib.hid (by unfold bodB; rw [hm]; simp)
        go_enter Tryz.func21, Tryz.ntmps21
        go_wp2_with fail
        go_ret
        exact ⟨by rw [HB.out]; rfl, rfl⟩
      · skip
        have HB : Hid (bodB s me = true) := Lib.hid (by unfold bodB; rw [hm]; simp)
        go_enter Tryz.func21, Tryz.ntmps21
        go_wp2_with fail
        go_ret
        exact ⟨by rw [HB.out]; rfl, rfl⟩
    · skip
      have HB : Hid (bodB s me = true) := Lib.hid (by unfold bodB; rw [hm]; simp)
      go_enter Tryz.func21, Tryz.ntmps21
      go_wp2_with fail
      go_ret
      exact ⟨by rw [HB.out]; rfl, rfl⟩
  | false =>
    by_cases h1 : 100 ≤ s
    · by_cases h2 : s ≤ 199
      · skip
        have HB : Hid (bodB s me = true) := Lib.hid (by unfold bodB; rw [decide_eq_true ⟨h1, h2⟩]; rfl)
        go_enter Tryz.func21, Tryz.ntmps21
        go_wp2_with fail
        go_ret
        exact ⟨by rw [HB.out]; rfl, rfl⟩
      · skip
        have HB : Hid (bodB s me = false) := Lib.hid (by unfold bodB; rw [decide_eq_false (fun h => h2 h.2), g4, g3, hm]; rfl)
        go_enter Tryz.func21, Tryz.ntmps21
        go_wp2_with fail
        go_ret
        exact ⟨by rw [HB.out]; rfl, rfl⟩
    · skip
      have HB : Hid (bodB s me = false) := Lib.hid (by unfold bodB; rw [decide_eq_false (fun h => h1 h.1), g4, g3, hm]; rfl)
      go_enter Tryz.func21, Tryz.ntmps21
      go_wp2_with fail
      go_ret
      exact ⟨by rw [HB.out]; rfl, rfl⟩
set_option maxHeartbeats 800000 in
theorem rbodiless_any (s : Int) (me : ByteArray) (w : World) :
    Calls Tryz.prog 22 #[.int .i64 s, .string me] w fun e w' => e = .returned (.bool (bodB s me)) ∧ w = w' := by
  by_cases h4 : s = 204
  · subst h4
    have HB : Hid (bodB 204 me = true) := Lib.hid (by unfold bodB; simp)
    go_enter Tryz.func22, Tryz.ntmps22
    go_wp2_with fail
    go_ret
    exact ⟨by rw [HB.out]; rfl, rfl⟩
  by_cases h3 : s = 304
  · subst h3
    have HB : Hid (bodB 304 me = true) := Lib.hid (by unfold bodB; simp)
    go_enter Tryz.func22, Tryz.ntmps22
    go_wp2_with fail
    go_ret
    exact ⟨by rw [HB.out]; rfl, rfl⟩
  have g4 : (s == 204) = false := by rw [beq_eq_false_iff_ne]; exact h4
  have g3 : (s == 304) = false := by rw [beq_eq_false_iff_ne]; exact h3
  cases hm : (me.toList == [72, 69, 65, 68]) with
  | true =>
    by_cases h1 : 100 ≤ s
    · by_cases h2 : s ≤ 199
      · skip
        have HB : Hid (bodB s me = true) := Lib.hid (by unfold bodB; rw [hm]; simp)
        go_enter Tryz.func22, Tryz.ntmps22
        go_wp2_with fail
        go_ret
        exact ⟨by rw [HB.out]; rfl, rfl⟩
      · skip
        have HB : Hid (bodB s me = true) := Lib.hid (by unfold bodB; rw [hm]; simp)
        go_enter Tryz.func22, Tryz.ntmps22
        go_wp2_with fail
        go_ret
        exact ⟨by rw [HB.out]; rfl, rfl⟩
    · skip
      have HB : Hid (bodB s me = true) := Lib.hid (by unfold bodB; rw [hm]; simp)
      go_enter Tryz.func22, Tryz.ntmps22
      go_wp2_with fail
      go_ret
      exact ⟨by rw [HB.out]; rfl, rfl⟩
  | false =>
    by_cases h1 : 100 ≤ s
    · by_cases h2 : s ≤ 199
      · skip
        have HB : Hid (bodB s me = true) := Lib.hid (by unfold bodB; rw [decide_eq_true ⟨h1, h2⟩]; rfl)
        go_enter Tryz.func22, Tryz.ntmps22
        go_wp2_with fail
        go_ret
        exact ⟨by rw [HB.out]; rfl, rfl⟩
      · skip
        have HB : Hid (bodB s me = false) := Lib.hid (by unfold bodB; rw [decide_eq_false (fun h => h2 h.2), g4, g3, hm]; rfl)
        go_enter Tryz.func22, Tryz.ntmps22
        go_wp2_with fail
        go_ret
        exact ⟨by rw [HB.out]; rfl, rfl⟩
    · skip
      have HB : Hid (bodB s me = false) := Lib.hid (by unfold bodB; rw [decide_eq_false (fun h => h1 h.1), g4, g3, hm]; rfl)
      go_enter Tryz.func22, Tryz.ntmps22
      go_wp2_with fail
      go_ret
      exact ⟨by rw [HB.out]; rfl, rfl⟩
set_option maxHeartbeats 3200000 in
set_option maxRecDepth 100000 in
theorem fmtR_any (v s : Int) (r : ByteArray) (oa : Option Addr) (xs : List Fd) (cap : Nat) (b me : ByteArray) (w : World) (hr : r.size ≤ 2100) (hb : b.size ≤ 2000) (hn : xs.length ≤ 100) (hz : FldZ xs 300) (hc : FldO w oa xs) (h0 : -9223372036854775808 ≤ v) (h1 : v ≤ 9223372036854775807) (g0 : -9223372036854775808 ≤ s) (g1 : s ≤ 9223372036854775807) (hE : ReqEnv w) (hT : PowTab w) :
    Calls Tryz.prog 19 #[respV v s r oa xs.length cap b, .string me] w fun e w' => e = .returned (.string ⟨(resW v s r xs b me).toArray⟩) ∧ Below w.heap.size w w' := by
  obtain ⟨L, hL⟩ : ∃ L : ByteArray, L = ⟨(statF v s (bs r)).toArray⟩ := ⟨_, rfl⟩
  have zL : L.size ≤ 2000 := by rw [hL]; exact statF_len _ _ _
  have hLb : bs L = statF v s (bs r) := by rw [hL]
  obtain ⟨X, hX⟩ : ∃ X : ByteArray, X = ⟨(resW v s r xs b me).toArray⟩ := ⟨_, rfl⟩
  rw [← hX]
  have ha := alloc_b w (.cells (respC v s r oa xs.length cap b).toArray 41)
  have V1 := RowAt.new w (respC v s r oa xs.length cap b) 41
  have HQ : Hid (∀ W, Below w.heap.size w W → Calls Tryz.prog 39 #[.int .i64 v, .int .i64 s, .string r] W fun e w' => e = .returned (.string L) ∧ Below W.heap.size W w') := Lib.hid fun W hW => by
    obtain ⟨_, p, q, k, hk⟩ := hE.below hW
    rw [hL]
    exact fmtStat_any v s r W p q k hk (hT.below hW) (by omega) h0 h1 g0 g1
  have hb100 : ¬ 100000 < (b.size : Int) := by omega
  cases hbd : bodB s me with
  | true =>
    have HO : Hid (∀ W, Below w.heap.size w W → Calls Tryz.prog 36 #[.string L, .slice oa xs.length cap, .int .i64 (-1), .string ⟨#[]⟩] W fun e w' => e = .returned (.string X) ∧ Below W.heap.size W w') := Lib.hid fun W hW => by
      have h9 := format_any L oa xs cap (-1) ⟨#[]⟩ W (by omega) (by decide) (by omega) (by omega) hn hz (hc.down hW) (hT.below hW)
      rw [hX]; unfold resW
      rw [hbd, hLb.symm]
      exact h9
    have HBD := Lib.hid hbd
    clear hL hX hLb zL hz hc hE hT hbd
    go_enter Tryz.func19, Tryz.ntmps19
    have a0 := V1.cell 0 rfl
    have a1 := V1.cell 1 rfl
    have a2 := V1.cell 2 rfl
    have a3 := V1.cell 3 rfl
    have a4 := V1.cell 4 rfl
    go_wp2_with fail
    refine (HQ.out _ ha).mono ?_
    rintro e w2 ⟨rfl, hb2⟩
    have V2 := V1.below hb2
    have b2 := step_b ha hb2
    clear V1 ha hb2 a0 a1 a2 a3 a4
    have a0 := V2.cell 0 rfl
    have a1 := V2.cell 1 rfl
    have a2 := V2.cell 2 rfl
    have a3 := V2.cell 3 rfl
    have a4 := V2.cell 4 rfl
    go_wp2_with fail
    refine (bodiless_any s me w2).mono ?_
    rintro e w3 ⟨rfl, rfl⟩
    rw [HBD.out]
    go_wp2_with fail
    refine (HO.out _ b2).mono ?_
    rintro e w4 ⟨rfl, hb4⟩
    go_wp2_with fail
    go_ret
    exact ⟨rfl, step_b b2 hb4⟩
  | false =>
    have HO : Hid (∀ W, Below w.heap.size w W → Calls Tryz.prog 36 #[.string L, .slice oa xs.length cap, .int .i64 (b.size : Int), .string b] W fun e w' => e = .returned (.string X) ∧ Below W.heap.size W w') := Lib.hid fun W hW => by
      have h9 := format_any L oa xs cap (b.size : Int) b W (by omega) (by omega) (by omega) (by omega) hn hz (hc.down hW) (hT.below hW)
      rw [hX]; unfold resW
      rw [hbd, hLb.symm]
      exact h9
    have HBD := Lib.hid hbd
    clear hL hX hLb zL hz hc hE hT hbd
    go_enter Tryz.func19, Tryz.ntmps19
    have a0 := V1.cell 0 rfl
    have a1 := V1.cell 1 rfl
    have a2 := V1.cell 2 rfl
    have a3 := V1.cell 3 rfl
    have a4 := V1.cell 4 rfl
    go_wp2_with fail
    refine (HQ.out _ ha).mono ?_
    rintro e w2 ⟨rfl, hb2⟩
    have V2 := V1.below hb2
    have b2 := step_b ha hb2
    clear V1 ha hb2 a0 a1 a2 a3 a4
    have a0 := V2.cell 0 rfl
    have a1 := V2.cell 1 rfl
    have a2 := V2.cell 2 rfl
    have a3 := V2.cell 3 rfl
    have a4 := V2.cell 4 rfl
    go_wp2_with fail
    refine (bodiless_any s me w2).mono ?_
    rintro e w3 ⟨rfl, rfl⟩
    rw [HBD.out]
    go_wp2_with fail
    refine (HO.out _ b2).mono ?_
    rintro e w4 ⟨rfl, hb4⟩
    go_wp2_with fail
    go_ret
    exact ⟨rfl, step_b b2 hb4⟩
set_option maxHeartbeats 3200000 in
set_option maxRecDepth 100000 in
theorem rfmtR_any (v s : Int) (r : ByteArray) (oa : Option Addr) (xs : List Fd) (cap : Nat) (b me : ByteArray) (w : World) (hr : r.size ≤ 2100) (hb : b.size ≤ 2000) (hn : xs.length ≤ 100) (hz : FldZ xs 300) (hc : FldO w oa xs) (h0 : -9223372036854775808 ≤ v) (h1 : v ≤ 9223372036854775807) (g0 : -9223372036854775808 ≤ s) (g1 : s ≤ 9223372036854775807) :
    Calls Tryz.prog 20 #[respV v s r oa xs.length cap b, .string me] w fun e w' => e = .returned (.string ⟨(resW v s r xs b me).toArray⟩) ∧ Below w.heap.size w w' := by
  obtain ⟨L, hL⟩ : ∃ L : ByteArray, L = ⟨(statF v s (bs r)).toArray⟩ := ⟨_, rfl⟩
  have zL : L.size ≤ 2000 := by rw [hL]; exact statF_len _ _ _
  have hLb : bs L = statF v s (bs r) := by rw [hL]
  obtain ⟨X, hX⟩ : ∃ X : ByteArray, X = ⟨(resW v s r xs b me).toArray⟩ := ⟨_, rfl⟩
  rw [← hX]
  have ha := alloc_b w (.cells (respC v s r oa xs.length cap b).toArray 41)
  have V1 := RowAt.new w (respC v s r oa xs.length cap b) 41
  have HQ : Hid (∀ W, Below w.heap.size w W → Calls Tryz.prog 40 #[.int .i64 v, .int .i64 s, .string r] W fun e w' => e = .returned (.string L) ∧ Below W.heap.size W w') := Lib.hid fun W hW => by
    rw [hL]
    exact rfmtStat_any v s r W (by omega) h0 h1 g0 g1
  cases hbd : bodB s me with
  | true =>
    have HO : Hid (∀ W, Below w.heap.size w W → Calls Tryz.prog 27 #[.string L, .slice oa xs.length cap, .string b, .bool false, .bool false] W fun e w' => e = .returned (.string X) ∧ Below W.heap.size W w') := Lib.hid fun W hW => by
      have h9 := rjoined_any L oa xs cap b false false W (by omega) (by omega) hn hz (hc.down hW)
      rw [hX]; unfold resW
      rw [hbd, hLb.symm]
      exact h9
    have HBD := Lib.hid hbd
    clear hL hX hLb zL hz hc hbd
    go_enter Tryz.func20, Tryz.ntmps20
    have a0 := V1.cell 0 rfl
    have a1 := V1.cell 1 rfl
    have a2 := V1.cell 2 rfl
    have a3 := V1.cell 3 rfl
    have a4 := V1.cell 4 rfl
    clear V1
    go_wp2_with fail
    generalize (w.alloc (.cells #[.int .i64 v, .int .i64 s, .string r, .slice oa xs.length cap, .string b] 41)) = w1 at *
    refine (rbodiless_any s me w1).mono ?_
    rintro e w3 ⟨rfl, rfl⟩
    rw [HBD.out]
    go_wp2_with fail
    go_region_held3 (fun w' => w'.cell? ⟨w.heap.size, 0, none⟩ = some (.int .i64 v) ∧ w'.cell? ⟨w.heap.size, 1, none⟩ = some (.int .i64 s) ∧ w'.cell? ⟨w.heap.size, 2, none⟩ = some (.string r) ∧ w'.cell? ⟨w.heap.size, 3, none⟩ = some (.slice oa xs.length cap) ∧ w'.cell? ⟨w.heap.size, 4, none⟩ = some (.string b) ∧ Below w1.heap.size w1 w') (first | assumption | exact ⟨a0, a1, a2, a3, a4, (Below.refl _ _).drew⟩ | (exact mkeep6 (by first | assumption | exact ⟨a0, a1, a2, a3, a4, (Below.refl _ _).drew⟩) hbx)) (first | (go_at_call 40; (with_reducible refine (HQ.out _ (step_b ha (by first | exact (Below.refl _ _).drew | exact mlast6 (by assumption)))).mono ?_); rintro e w' ⟨rfl, hbx⟩) | (go_at_call 27; (with_reducible refine (HO.out _ (step_b ha (by first | exact (Below.refl _ _).drew | exact mlast6 (by assumption)))).mono ?_); rintro e w' ⟨rfl, hbx⟩))
    all_goals
      have hq := mlast6 (w3 := w1) (by assumption)
      go_wp2_with fail
      go_ret
      exact ⟨rfl, step_b ha hq⟩
  | false =>
    have HO : Hid (∀ W, Below w.heap.size w W → Calls Tryz.prog 27 #[.string L, .slice oa xs.length cap, .string b, .bool true, .bool true] W fun e w' => e = .returned (.string X) ∧ Below W.heap.size W w') := Lib.hid fun W hW => by
      have h9 := rjoined_any L oa xs cap b true true W (by omega) (by omega) hn hz (hc.down hW)
      rw [hX]; unfold resW
      rw [hbd, hLb.symm]
      exact h9
    have HBD := Lib.hid hbd
    clear hL hX hLb zL hz hc hbd
    go_enter Tryz.func20, Tryz.ntmps20
    have a0 := V1.cell 0 rfl
    have a1 := V1.cell 1 rfl
    have a2 := V1.cell 2 rfl
    have a3 := V1.cell 3 rfl
    have a4 := V1.cell 4 rfl
    clear V1
    go_wp2_with fail
    generalize (w.alloc (.cells #[.int .i64 v, .int .i64 s, .string r, .slice oa xs.length cap, .string b] 41)) = w1 at *
    refine (rbodiless_any s me w1).mono ?_
    rintro e w3 ⟨rfl, rfl⟩
    rw [HBD.out]
    go_wp2_with fail
    go_region_held3 (fun w' => w'.cell? ⟨w.heap.size, 0, none⟩ = some (.int .i64 v) ∧ w'.cell? ⟨w.heap.size, 1, none⟩ = some (.int .i64 s) ∧ w'.cell? ⟨w.heap.size, 2, none⟩ = some (.string r) ∧ w'.cell? ⟨w.heap.size, 3, none⟩ = some (.slice oa xs.length cap) ∧ w'.cell? ⟨w.heap.size, 4, none⟩ = some (.string b) ∧ Below w1.heap.size w1 w') (first | assumption | exact ⟨a0, a1, a2, a3, a4, (Below.refl _ _).drew⟩ | (exact mkeep6 (by first | assumption | exact ⟨a0, a1, a2, a3, a4, (Below.refl _ _).drew⟩) hbx)) (first | (go_at_call 40; (with_reducible refine (HQ.out _ (step_b ha (by first | exact (Below.refl _ _).drew | exact mlast6 (by assumption)))).mono ?_); rintro e w' ⟨rfl, hbx⟩) | (go_at_call 27; (with_reducible refine (HO.out _ (step_b ha (by first | exact (Below.refl _ _).drew | exact mlast6 (by assumption)))).mono ?_); rintro e w' ⟨rfl, hbx⟩))
    all_goals
      have hq := mlast6 (w3 := w1) (by assumption)
      go_wp2_with fail
      go_ret
      exact ⟨rfl, step_b ha hq⟩
end Go.Proofs.YtfnmohaddkoalaaGreatDoor
namespace Go.Proofs.YtfnmohaddkoalaaGreatDoor
open Go.RowKit Go.Shelf
set_option linter.unusedSimpArgs false
set_option linter.unusedVariables false

abbrev zRes : List Value := respC 0 0 ⟨#[]⟩ none 0 0 ⟨#[]⟩
theorem respC_one (m s : Int) (r : ByteArray) (oa : Option Addr) (n c : Nat) (b : ByteArray) : ∀ u ∈ respC m s r oa n c b, u.oneCell' = true := by
  intro u hu
  simp only [List.mem_cons, List.not_mem_nil, or_false] at hu
  rcases hu with rfl | rfl | rfl | rfl | rfl <;> rfl
abbrev stS : List UInt8 → Int := fun x => (statL x).2.2.2
abbrev r1S (x : List UInt8) : List Value := .int .i64 (statL x).1 :: .int .i64 (statL x).2.1 :: .string ⟨(statL x).2.2.1.toArray⟩ :: r2R
set_option maxHeartbeats 1600000 in
theorem startS_any (w : World) (B g : Nat) (s : ByteArray) (a : Nat) (fs : List Fd) (ls cs : List ByteArray) (vf vl vc : Value) (v0 t0 : Int) (m0 : ByteArray) (r2 : List Value) (line M : ByteArray) (v t er : Int) (ea eb : Addr) (mx : Int)
    (R : RdAt 73 w B g s a fs ls cs vf vl vc (.int .i64 v0 :: .int .i64 t0 :: .string m0 :: r2)) (hr : statL (bs line) = (v, t, bs M, er)) (hE : StartEnv w ea eb mx) (hs : line.size ≤ 100000000) :
    Calls Tryz.prog 41 #[.pointer (some ⟨g, 0, none⟩), .string line] w fun e w' => e = .returned (.int .i64 er) ∧ Below g w w' ∧ RdAt 73 w' B g s a fs ls cs vf vl vc (.int .i64 v :: .int .i64 t :: .string M :: r2) := by
  have HF := parseStat_any line w ea eb mx hE hs
  rw [hr, show statV (v, t, bs M, er) = .tuple #[.int .i64 v, .int .i64 t, .string M, .int .i64 er] from rfl] at HF
  have HG := Lib.hid HF
  have hgw : g ≤ w.heap.size := by have := R.gB; have := R.sz; omega
  clear HF hE hr
  go_enter Tryz.func41, Tryz.ntmps41
  go_wp2_with fail
  refine HG.out.mono ?_
  rintro e w1 ⟨rfl, hb1⟩
  have R1 := R.below hb1
  have b1 := hb1.mono hgw
  have c5 := R1.row.cell 5 rfl
  have f5 := R1.row.free 5
  have c6 := R1.row.cell 6 rfl
  have f6 := R1.row.free 6
  have c7 := R1.row.cell 7 rfl
  have f7 := R1.row.free 7
  clear HG R hb1
  have R2 := R1.set 5 (.int .i64 v) a (.int .i64 v :: .int .i64 t0 :: .string m0 :: r2) rfl
  have R3 := R2.set 6 (.int .i64 t) a (.int .i64 v :: .int .i64 t :: .string m0 :: r2) rfl
  have R4 := R3.set 7 (.string M) a (.int .i64 v :: .int .i64 t :: .string M :: r2) rfl
  have b4 : Below g w (((w1.setCell ⟨g, 5, none⟩ (.int .i64 v)).setCell ⟨g, 6, none⟩ (.int .i64 t)).setCell ⟨g, 7, none⟩ (.string M)) := ((b1.setCell (Nat.le_refl _) _).setCell (Nat.le_refl _) _).setCell (Nat.le_refl _) _
  clear R1 R2 R3 b1
  go_wp2_with fail
  go_ret
  exact ⟨rfl, b4, R4⟩
theorem eg_startS (args : Array Value) (w : World) : (callFunc 41 args).run Tryz.prog w = .ok (.enter 41 args) w := enters_of Tryz.func41 (by kernel_rfl) rfl args w
theorem statS_pred (w0 w : World) (B g : Nat) (s : ByteArray) (ea eb : Addr) (mx : Int) (hE : StartEnv w0 ea eb mx) (hb : Below w0.heap.size w0 w) (hg : w0.heap.size ≤ g) :
    SPred 41 73 w B g s stS (.int .i64 0 :: .int .i64 0 :: .string ⟨#[]⟩ :: r2R) r1S := by
  intro W a vf vl vc line hW R hl
  exact startS_any W B g s a [] [] [] vf vl vc 0 0 ⟨#[]⟩ r2R line ⟨(statL (bs line)).2.2.1.toArray⟩ (statL (bs line)).1 (statL (bs line)).2.1 (statL (bs line)).2.2.2 ea eb mx R rfl (hE.below (hb.trans (hW.mono hg))) (by omega)
set_option maxHeartbeats 6400000 in
set_option maxRecDepth 100000 in
theorem parseS_any (s me : ByteArray) (cl : Bool) (w : World) (hs : s.size ≤ 1000000) (hM : MaxOf w) (ea eb : Addr) (mx : Int) (hE : StartEnv w ea eb mx) (a : Nat) (xs : List Fd) (v st : Int) (R X : ByteArray) (n : Nat)
    (hhd : hdL stS (bs s) = (0, a, xs)) (hfr : frL xs = 0) (hst : statL (nextL (bs s)).1 = (v, st, bs R, 0))
    (hw : bodB st me = true ∧ X = ⟨#[]⟩ ∧ n = 0 ∨ bodB st me = false ∧ getF clN xs ≠ [] ∧ bdL xs ((bs s).drop a) = (bs X, n, 0)) :
    Calls Tryz.prog 23 #[.string s, .string me, .bool cl] w fun e w' => ∃ oz cz, e = .returned (.tuple #[.agg (respC v st R oz (unfrL xs).length cz X).toArray, .int .i64 ((a + n : Nat) : Int), .int .i64 0]) ∧ FldO w' oz (unfrL xs) ∧ Below w.heap.size w w' := by
  have b2 : Below w.heap.size w ((w.alloc (.cells #[.int .i64 0, .int .i64 0, .string ⟨#[]⟩, .slice none 0 0, .string ⟨#[]⟩] 41)).alloc (.cells #[.string s, .int .i64 0, .slice none 0 0, .slice none 0 0, .slice none 0 0, .int .i64 0, .int .i64 0, .string ⟨#[]⟩, .slice none 0 0, .string ⟨#[]⟩] 73)) := ((Below.refl _ _).alloc (Nat.le_refl _) _).alloc (by rw [World.size_alloc]; omega) _
  have Z2 : RowAt ((w.alloc (.cells #[.int .i64 0, .int .i64 0, .string ⟨#[]⟩, .slice none 0 0, .string ⟨#[]⟩] 41)).alloc (.cells #[.string s, .int .i64 0, .slice none 0 0, .slice none 0 0, .slice none 0 0, .int .i64 0, .int .i64 0, .string ⟨#[]⟩, .slice none 0 0, .string ⟨#[]⟩] 73)) w.heap.size 41 zRes := (RowAt.new w zRes 41).alloc _
  have G0 : RowAt ((w.alloc (.cells #[.int .i64 0, .int .i64 0, .string ⟨#[]⟩, .slice none 0 0, .string ⟨#[]⟩] 41)).alloc (.cells #[.string s, .int .i64 0, .slice none 0 0, .slice none 0 0, .slice none 0 0, .int .i64 0, .int .i64 0, .string ⟨#[]⟩, .slice none 0 0, .string ⟨#[]⟩] 73)) (w.heap.size + 1) 73 ([.string s, .int .i64 0, .slice none 0 0, .slice none 0 0, .slice none 0 0] ++ zRes) := by
    have := RowAt.new (w.alloc (.cells zRes.toArray 41)) ([.string s, .int .i64 0, .slice none 0 0, .slice none 0 0, .slice none 0 0] ++ zRes) 73
    rw [World.size_alloc] at this
    exact this
  have z2 : ((w.alloc (.cells #[.int .i64 0, .int .i64 0, .string ⟨#[]⟩, .slice none 0 0, .string ⟨#[]⟩] 41)).alloc (.cells #[.string s, .int .i64 0, .slice none 0 0, .slice none 0 0, .slice none 0 0, .int .i64 0, .int .i64 0, .string ⟨#[]⟩, .slice none 0 0, .string ⟨#[]⟩] 73)).heap.size = w.heap.size + 2 := by rw [World.size_alloc, World.size_alloc]
  have HHD := Lib.hid hhd
  have HST := Lib.hid hst
  clear hhd hst
  go_enter Tryz.func23, Tryz.ntmps23
  go_wp2_with fail
  generalize ((w.alloc (.cells #[.int .i64 0, .int .i64 0, .string ⟨#[]⟩, .slice none 0 0, .string ⟨#[]⟩] 41)).alloc (.cells #[.string s, .int .i64 0, .slice none 0 0, .slice none 0 0, .slice none 0 0, .int .i64 0, .int .i64 0, .string ⟨#[]⟩, .slice none 0 0, .string ⟨#[]⟩] 73)) = w2 at b2 Z2 G0 z2 ⊢
  have RD : RdAt 73 w2 (w.heap.size + 2) (w.heap.size + 1) s 0 [] [] [] (.slice none 0 0) (.slice none 0 0) (.slice none 0 0) zRes := ⟨G0, FBuf.nil_ _ _, SBuf.nil_ _ _, SBuf.nil_ _ _, (fun b h => by cases h), by omega, by omega⟩
  have HC := head_any 73 w2 (w.heap.size + 2) (w.heap.size + 1) s stS 41 zRes r1S _ _ _ RD hs (fun W hW => hM.below (b2.trans (hW.mono (by omega)))) eg_startS (statS_pred w w2 _ _ s ea eb mx hE b2 (by omega))
  clear RD G0
  rw [HHD.out] at HC
  refine HC.mono ?_
  rintro e w3 ⟨rfl, hb3, hRD⟩
  dsimp only at hRD ⊢
  clear HC
  have Z3 := Z2.belowB hb3 (by omega)
  have b3 := b2.trans (hb3.mono (by omega))
  have z3 := hb3.size
  obtain ⟨⟨vf, vl, vc, R3⟩, hat, hxl, hxz⟩ := hRD rfl
  have R3 : RdAt 73 w3 (w.heap.size + 2) (w.heap.size + 1) s a (unfrL xs) (getF clN xs) (getF teN xs) vf vl vc (.int .i64 v :: .int .i64 st :: .string R :: r2R) := by
    unfold r1S at R3
    rw [HST.out] at R3
    exact R3
  go_wp2_with fail
  have hfl : (unfrL xs).length ≤ 65 := by have := List.length_filter_le plainF xs; unfold unfrL; omega
  have HFR := framing_any 73 w3 (w.heap.size + 2) (w.heap.size + 1) s a _ _ _ _ _ _ _ R3 (fun c hc => by have := getF_sz hxz c hc; omega) (fun c hc => by have := getF_sz hxz c hc; omega) (by have := getF_len2 clN xs; omega)
  rw [show frE (getF teN xs) (getF clN xs) = 0 from hfr] at HFR
  refine HFR.mono ?_
  rintro e w4 ⟨rfl, hb4⟩
  have R4 := R3.below hb4
  have Z4 := Z3.below hb4
  have b4 := b3.trans (hb4.mono b3.size)
  have z4 := hb4.size
  clear R3 Z3 hb4 hRD HFR
  have HFRL := Lib.hid hfr
  obtain ⟨oa, cap, rfl, _⟩ := R4.f.shape
  have c2 := R4.row.cell 2 rfl
  have c8 := R4.row.cell 8 rfl
  have f8 := R4.row.free 8
  have R5 := R4.set 8 (.slice oa (unfrL xs).length cap) a (.int .i64 v :: .int .i64 st :: .string R :: .slice oa (unfrL xs).length cap :: [.string ⟨#[]⟩]) rfl
  have Z5 := Z4.setOther (show w.heap.size ≠ w.heap.size + 1 by omega) 8 (.slice oa (unfrL xs).length cap)
  have b5 := b4.setCell (p := ⟨w.heap.size + 1, 8, none⟩) (by show w.heap.size ≤ w.heap.size + 1; omega) (.slice oa (unfrL xs).length cap)
  have g6 := R5.row.cell 6 rfl
  have z5 := size_setM w4 ⟨w.heap.size + 1, 8, none⟩ (.slice oa (unfrL xs).length cap)
  clear R4 Z4 b4 hfr
  go_wp2_with fail
  generalize (w4.setCell ⟨w.heap.size + 1, 8, none⟩ (.slice oa (unfrL xs).length cap)) = w5 at *
  refine (bodiless_any st me w5).mono ?_
  rintro e w5b ⟨rfl, rfl⟩
  rcases hw with ⟨hbd, rfl, rfl⟩ | ⟨hbd, hcl, hbody⟩
  · rw [hbd]
    clear hbd g6 c2 c8 f8
    go_wp2_with fail
    have R8 := R5
    have Z8 := Z5
    have b8 := b5
    clear R5 Z5 b5
    generalize w5 = w8 at *
    refine wp_region_K 9 (fun w' => Below w8.heap.size w8 w') (by kernel_rfl) (Below.refl _ _).drew (fun hH => ?_)
    generalize w8.drew = y1 at *
    refine wpK_pure (i := 0) (v := .pointer (some ⟨w.heap.size + 1, 0, none⟩)) rfl (by kernel_rfl) (fun _ _ _ h => h) (by rfl) (fun w9 => by go_simp) (fun _ => hH) ?_
    try simp only [Act.put, List.setIfInBounds_toArray, List.set_cons_zero, List.set_cons_succ]
    refine wpK_pure (i := 1) (v := .pointer (some ⟨w.heap.size + 1, 0, none⟩)) rfl (by kernel_rfl) (fun _ _ _ h => h) (by rfl) (fun w9 => by go_simp) (fun _ => hH) ?_
    try simp only [Act.put, List.setIfInBounds_toArray, List.set_cons_zero, List.set_cons_succ]
    refine wpK_pure (i := 2) (v := .pointer (some ⟨w.heap.size + 1, 5, none⟩)) rfl (by kernel_rfl) (fun _ _ _ h => h) (by rfl) (fun w9 => by go_simp) (fun _ => hH) ?_
    try simp only [Act.put, List.setIfInBounds_toArray, List.set_cons_zero, List.set_cons_succ]
    refine wpK_load (i := 3) (v := .agg (respC v st R oa (unfrL xs).length cap ⟨#[]⟩).toArray) [9] rfl (by kernel_rfl) (fun _ _ _ h => h) (by rfl) (fun w9 h9 => by have Q := (R8.row.below h9); have d5 := Q.cell 5 rfl; have d6 := Q.cell 6 rfl; have d7 := Q.cell 7 rfl; have d8 := Q.cell 8 rfl; have d9 := Q.cell 9 rfl; clear Q; go_simp) (fun _ => hH) ?_
    try simp only [Act.put, List.setIfInBounds_toArray, List.set_cons_zero, List.set_cons_succ]
    refine wpK_pure (i := 4) (v := .pointer (some ⟨w.heap.size + 1, 0, none⟩)) rfl (by kernel_rfl) (fun _ _ _ h => h) (by rfl) (fun w9 => by go_simp) (fun _ => hH) ?_
    try simp only [Act.put, List.setIfInBounds_toArray, List.set_cons_zero, List.set_cons_succ]
    refine wpK_pure (i := 5) (v := .pointer (some ⟨w.heap.size + 1, 0, none⟩)) rfl (by kernel_rfl) (fun _ _ _ h => h) (by rfl) (fun w9 => by go_simp) (fun _ => hH) ?_
    try simp only [Act.put, List.setIfInBounds_toArray, List.set_cons_zero, List.set_cons_succ]
    refine wpK_pure (i := 6) (v := .pointer (some ⟨w.heap.size + 1, 0, none⟩)) rfl (by kernel_rfl) (fun _ _ _ h => h) (by rfl) (fun w9 => by go_simp) (fun _ => hH) ?_
    try simp only [Act.put, List.setIfInBounds_toArray, List.set_cons_zero, List.set_cons_succ]
    refine wpK_pure (i := 7) (v := .pointer (some ⟨w.heap.size + 1, 1, none⟩)) rfl (by kernel_rfl) (fun _ _ _ h => h) (by rfl) (fun w9 => by go_simp) (fun _ => hH) ?_
    try simp only [Act.put, List.setIfInBounds_toArray, List.set_cons_zero, List.set_cons_succ]
    have ZQ := Z8.below hH
    refine wpK_ready [8, 9] (by kernel_rfl) (by simp) ?_
    refine AllK.cons (i := 8) (rs := [9]) rfl ?_ (AllK.cons (i := 9) (rs := []) rfl ?_ AllK.nil)
    · intro K hK
      have c9 := (R8.row.below hH).cell 1 rfl
      go_simp
      refine hK.out _ _ (fun _ => hH) ?_
      intro _
      clear hK K
      try simp only [Act.put, List.setIfInBounds_toArray, List.set_cons_zero, List.set_cons_succ]
      refine wpK_ready [9] (by kernel_rfl) (by simp) ?_
      refine AllK.cons (i := 9) (rs := []) rfl ?_ AllK.nil
      intro K hK
      have z0 := ZQ.cell 0 rfl
      have f0 := ZQ.free 0
      have z1 := ZQ.cell 1 rfl
      have f1 := ZQ.free 1
      have z2 := ZQ.cell 2 rfl
      have f2 := ZQ.free 2
      have z3 := ZQ.cell 3 rfl
      have f3 := ZQ.free 3
      have z4 := ZQ.cell 4 rfl
      have f4 := ZQ.free 4
      have RQ : RowAt (((((y1.setCell ⟨w.heap.size, 0, none⟩ (.int .i64 v)).setCell ⟨w.heap.size, 1, none⟩ (.int .i64 st)).setCell ⟨w.heap.size, 2, none⟩ (.string R)).setCell ⟨w.heap.size, 3, none⟩ (.slice oa (unfrL xs).length cap)).setCell ⟨w.heap.size, 4, none⟩ (.string ⟨#[]⟩)) w.heap.size 41 (respC v st R oa (unfrL xs).length cap ⟨#[]⟩) := (((((ZQ.set 0 (.int .i64 v)).set 1 (.int .i64 st)).set 2 (.string R)).set 3 (.slice oa (unfrL xs).length cap)).set 4 (.string ⟨#[]⟩))
      have k1 : Below w.heap.size y1 (((((y1.setCell ⟨w.heap.size, 0, none⟩ (.int .i64 v)).setCell ⟨w.heap.size, 1, none⟩ (.int .i64 st)).setCell ⟨w.heap.size, 2, none⟩ (.string R)).setCell ⟨w.heap.size, 3, none⟩ (.slice oa (unfrL xs).length cap)).setCell ⟨w.heap.size, 4, none⟩ (.string ⟨#[]⟩)) := ((((((Below.refl _ _).setCell (p := ⟨w.heap.size, 0, none⟩) (Nat.le_refl _) (.int .i64 v)).setCell (p := ⟨w.heap.size, 1, none⟩) (Nat.le_refl _) (.int .i64 st)).setCell (p := ⟨w.heap.size, 2, none⟩) (Nat.le_refl _) (.string R)).setCell (p := ⟨w.heap.size, 3, none⟩) (Nat.le_refl _) (.slice oa (unfrL xs).length cap)).setCell (p := ⟨w.heap.size, 4, none⟩) (Nat.le_refl _) (.string ⟨#[]⟩))
      have k2 : ∀ k, k ≠ w.heap.size → (((((y1.setCell ⟨w.heap.size, 0, none⟩ (.int .i64 v)).setCell ⟨w.heap.size, 1, none⟩ (.int .i64 st)).setCell ⟨w.heap.size, 2, none⟩ (.string R)).setCell ⟨w.heap.size, 3, none⟩ (.slice oa (unfrL xs).length cap)).setCell ⟨w.heap.size, 4, none⟩ (.string ⟨#[]⟩)).heap[k]? = y1.heap[k]? := fun k hk => ((heap_setCell_other _ _ _ _ hk).trans ((heap_setCell_other _ _ _ _ hk).trans ((heap_setCell_other _ _ _ _ hk).trans ((heap_setCell_other _ _ _ _ hk).trans ((heap_setCell_other _ _ _ _ hk).trans rfl)))))
      go_simp
      generalize (((((y1.setCell ⟨w.heap.size, 0, none⟩ (.int .i64 v)).setCell ⟨w.heap.size, 1, none⟩ (.int .i64 st)).setCell ⟨w.heap.size, 2, none⟩ (.string R)).setCell ⟨w.heap.size, 3, none⟩ (.slice oa (unfrL xs).length cap)).setCell ⟨w.heap.size, 4, none⟩ (.string ⟨#[]⟩)) = y2 at RQ k1 k2 ⊢
      refine hK.out _ _ (fun h => absurd h (by decide)) ?_
      intro _
      clear hK K z0 z1 z2 z3 z4 f0 f1 f2 f3 f4
      try simp only [Act.put, List.setIfInBounds_toArray, List.set_cons_zero, List.set_cons_succ]
      refine wpK_pureD (i := 10) (d := some 7) (v := .int .i64 ((a : Nat) : Int)) rfl rfl (by kernel_rfl) (fun _ _ _ h => h) (by rfl) (fun w9 => by go_simp) (fun h => absurd h (by decide)) ?_
      try simp only [Act.put, List.setIfInBounds_toArray, List.set_cons_zero, List.set_cons_succ]
      refine wpK_pureD (i := 11) (d := some 8) (v := .int .i64 0) rfl rfl (by kernel_rfl) (fun _ _ _ h => h) (by rfl) (fun w9 => by go_simp) (fun h => absurd h (by decide)) ?_
      try simp only [Act.put, List.setIfInBounds_toArray, List.set_cons_zero, List.set_cons_succ]
      refine wpK_done (by kernel_rfl) ?_ _
      go_wp2_with fail
      refine bodyPost_ret (results_row3 rfl _ _ w.heap.size 41 (respC v st R oa (unfrL xs).length cap ⟨#[]⟩) RQ rfl _ Tryz.underlying41 resp_size) rfl ?_
      exact ⟨_, _, rfl, ((R8.below hH).f.other (show w.heap.size < w.heap.size + 2 by omega) k2).fld, (b8.trans (hH.mono b8.size)).trans k1⟩
    · intro K hK
      have z0 := ZQ.cell 0 rfl
      have f0 := ZQ.free 0
      have z1 := ZQ.cell 1 rfl
      have f1 := ZQ.free 1
      have z2 := ZQ.cell 2 rfl
      have f2 := ZQ.free 2
      have z3 := ZQ.cell 3 rfl
      have f3 := ZQ.free 3
      have z4 := ZQ.cell 4 rfl
      have f4 := ZQ.free 4
      have RQ : RowAt (((((y1.setCell ⟨w.heap.size, 0, none⟩ (.int .i64 v)).setCell ⟨w.heap.size, 1, none⟩ (.int .i64 st)).setCell ⟨w.heap.size, 2, none⟩ (.string R)).setCell ⟨w.heap.size, 3, none⟩ (.slice oa (unfrL xs).length cap)).setCell ⟨w.heap.size, 4, none⟩ (.string ⟨#[]⟩)) w.heap.size 41 (respC v st R oa (unfrL xs).length cap ⟨#[]⟩) := (((((ZQ.set 0 (.int .i64 v)).set 1 (.int .i64 st)).set 2 (.string R)).set 3 (.slice oa (unfrL xs).length cap)).set 4 (.string ⟨#[]⟩))
      have k1 : Below w.heap.size y1 (((((y1.setCell ⟨w.heap.size, 0, none⟩ (.int .i64 v)).setCell ⟨w.heap.size, 1, none⟩ (.int .i64 st)).setCell ⟨w.heap.size, 2, none⟩ (.string R)).setCell ⟨w.heap.size, 3, none⟩ (.slice oa (unfrL xs).length cap)).setCell ⟨w.heap.size, 4, none⟩ (.string ⟨#[]⟩)) := ((((((Below.refl _ _).setCell (p := ⟨w.heap.size, 0, none⟩) (Nat.le_refl _) (.int .i64 v)).setCell (p := ⟨w.heap.size, 1, none⟩) (Nat.le_refl _) (.int .i64 st)).setCell (p := ⟨w.heap.size, 2, none⟩) (Nat.le_refl _) (.string R)).setCell (p := ⟨w.heap.size, 3, none⟩) (Nat.le_refl _) (.slice oa (unfrL xs).length cap)).setCell (p := ⟨w.heap.size, 4, none⟩) (Nat.le_refl _) (.string ⟨#[]⟩))
      have k2 : ∀ k, k ≠ w.heap.size → (((((y1.setCell ⟨w.heap.size, 0, none⟩ (.int .i64 v)).setCell ⟨w.heap.size, 1, none⟩ (.int .i64 st)).setCell ⟨w.heap.size, 2, none⟩ (.string R)).setCell ⟨w.heap.size, 3, none⟩ (.slice oa (unfrL xs).length cap)).setCell ⟨w.heap.size, 4, none⟩ (.string ⟨#[]⟩)).heap[k]? = y1.heap[k]? := fun k hk => ((heap_setCell_other _ _ _ _ hk).trans ((heap_setCell_other _ _ _ _ hk).trans ((heap_setCell_other _ _ _ _ hk).trans ((heap_setCell_other _ _ _ _ hk).trans ((heap_setCell_other _ _ _ _ hk).trans rfl)))))
      go_simp
      generalize (((((y1.setCell ⟨w.heap.size, 0, none⟩ (.int .i64 v)).setCell ⟨w.heap.size, 1, none⟩ (.int .i64 st)).setCell ⟨w.heap.size, 2, none⟩ (.string R)).setCell ⟨w.heap.size, 3, none⟩ (.slice oa (unfrL xs).length cap)).setCell ⟨w.heap.size, 4, none⟩ (.string ⟨#[]⟩)) = y2 at RQ k1 k2 ⊢
      refine hK.out _ _ (fun h => absurd h (by decide)) ?_
      intro _
      clear hK K z0 z1 z2 z3 z4 f0 f1 f2 f3 f4
      try simp only [Act.put, List.setIfInBounds_toArray, List.set_cons_zero, List.set_cons_succ]
      have c9 : y2.cell? ⟨w.heap.size + 1, 1, none⟩ = some (.int .i64 ((a : Nat) : Int)) := by
        have h9 : RowAt y2 (w.heap.size + 1) _ _ := (k2 (w.heap.size + 1) (by omega)).trans (R8.row.below hH)
        exact h9.cell 1 rfl
      refine wpK_ready [8] (by kernel_rfl) (by simp) ?_
      refine AllK.cons (i := 8) (rs := []) rfl ?_ AllK.nil
      intro K hK
      go_simp
      refine hK.out _ _ (fun h => absurd h (by decide)) ?_
      intro _
      clear hK K
      try simp only [Act.put, List.setIfInBounds_toArray, List.set_cons_zero, List.set_cons_succ]
      refine wpK_pureD (i := 10) (d := some 7) (v := .int .i64 ((a : Nat) : Int)) rfl rfl (by kernel_rfl) (fun _ _ _ h => h) (by rfl) (fun w9 => by go_simp) (fun h => absurd h (by decide)) ?_
      try simp only [Act.put, List.setIfInBounds_toArray, List.set_cons_zero, List.set_cons_succ]
      refine wpK_pureD (i := 11) (d := some 8) (v := .int .i64 0) rfl rfl (by kernel_rfl) (fun _ _ _ h => h) (by rfl) (fun w9 => by go_simp) (fun h => absurd h (by decide)) ?_
      try simp only [Act.put, List.setIfInBounds_toArray, List.set_cons_zero, List.set_cons_succ]
      refine wpK_done (by kernel_rfl) ?_ _
      go_wp2_with fail
      refine bodyPost_ret (results_row3 rfl _ _ w.heap.size 41 (respC v st R oa (unfrL xs).length cap ⟨#[]⟩) RQ rfl _ Tryz.underlying41 resp_size) rfl ?_
      exact ⟨_, _, rfl, ((R8.below hH).f.other (show w.heap.size < w.heap.size + 2 by omega) k2).fld, (b8.trans (hH.mono b8.size)).trans k1⟩
  · rw [hbd]
    obtain ⟨ol, cl2, rfl, _⟩ := R5.l.shape
    obtain ⟨oc, cc, rfl, _⟩ := R5.c.shape
    have hlen : 0 < (((getF teN xs).length : Int) + ((getF clN xs).length : Int)) := by have := List.length_pos_iff.2 hcl; omega
    have hl1 : (getF teN xs).length ≤ 65 := by have := getF_len2 teN xs; omega
    have hl2 : (getF clN xs).length ≤ 65 := by have := getF_len2 clN xs; omega
    have c3 := R5.row.cell 3 rfl
    have c4 := R5.row.cell 4 rfl
    have HB9 := Lib.hid hbody
    clear hbd hcl hbody g6 c2 c8 f8
    go_wp2_with fail
    go_quiet (fail)
    have bq : Below w5.heap.size w5 (w5.drewN nq) := below_draws _ _
    have R6 := R5.below bq
    have Z6 := Z5.below bq
    have b6 := b5.trans (bq.mono b5.size)
    clear R5 Z5 b5 c3 c4
    generalize w5.drewN nq = w6 at b6 R6 Z6 bq ⊢
    go_wp2_with fail
    refine (body_any 73 w6 (w.heap.size + 2) (w.heap.size + 1) s a _ _ _ _ _ _ _ R6 hat hs (hM.below b6) HFRL.out X n 0 HB9.out).mono ?_
    rintro e w7 ⟨rfl, hb7, R7, hat7⟩
    have Z7 := Z6.belowB hb7 (by omega)
    have b7 := b6.trans (hb7.mono (by omega))
    have z7 := hb7.size
    have R8 := R7.set 9 (.string X) (a + n) (.int .i64 v :: .int .i64 st :: .string R :: .slice oa (unfrL xs).length cap :: [.string X]) rfl
    have f7 := R7.row.free 9
    have c7 := R7.row.cell 9 rfl
    have Z8 := Z7.setOther (show w.heap.size ≠ w.heap.size + 1 by omega) 9 (.string X)
    have b8 := b7.setCell (p := ⟨w.heap.size + 1, 9, none⟩) (by show w.heap.size ≤ w.heap.size + 1; omega) (.string X)
    clear R7 Z7 b7 hb7
    go_wp2_with fail
    generalize (w7.setCell ⟨w.heap.size + 1, 9, none⟩ (.string X)) = w8 at *
    refine wp_region_K 9 (fun w' => Below w8.heap.size w8 w') (by kernel_rfl) (Below.refl _ _).drew (fun hH => ?_)
    generalize w8.drew = y1 at *
    refine wpK_pure (i := 0) (v := .pointer (some ⟨w.heap.size + 1, 0, none⟩)) rfl (by kernel_rfl) (fun _ _ _ h => h) (by rfl) (fun w9 => by go_simp) (fun _ => hH) ?_
    try simp only [Act.put, List.setIfInBounds_toArray, List.set_cons_zero, List.set_cons_succ]
    refine wpK_pure (i := 1) (v := .pointer (some ⟨w.heap.size + 1, 0, none⟩)) rfl (by kernel_rfl) (fun _ _ _ h => h) (by rfl) (fun w9 => by go_simp) (fun _ => hH) ?_
    try simp only [Act.put, List.setIfInBounds_toArray, List.set_cons_zero, List.set_cons_succ]
    refine wpK_pure (i := 2) (v := .pointer (some ⟨w.heap.size + 1, 5, none⟩)) rfl (by kernel_rfl) (fun _ _ _ h => h) (by rfl) (fun w9 => by go_simp) (fun _ => hH) ?_
    try simp only [Act.put, List.setIfInBounds_toArray, List.set_cons_zero, List.set_cons_succ]
    refine wpK_load (i := 3) (v := .agg (respC v st R oa (unfrL xs).length cap X).toArray) [9] rfl (by kernel_rfl) (fun _ _ _ h => h) (by rfl) (fun w9 h9 => by have Q := (R8.row.below h9); have d5 := Q.cell 5 rfl; have d6 := Q.cell 6 rfl; have d7 := Q.cell 7 rfl; have d8 := Q.cell 8 rfl; have d9 := Q.cell 9 rfl; clear Q; go_simp) (fun _ => hH) ?_
    try simp only [Act.put, List.setIfInBounds_toArray, List.set_cons_zero, List.set_cons_succ]
    refine wpK_pure (i := 4) (v := .pointer (some ⟨w.heap.size + 1, 0, none⟩)) rfl (by kernel_rfl) (fun _ _ _ h => h) (by rfl) (fun w9 => by go_simp) (fun _ => hH) ?_
    try simp only [Act.put, List.setIfInBounds_toArray, List.set_cons_zero, List.set_cons_succ]
    refine wpK_pure (i := 5) (v := .pointer (some ⟨w.heap.size + 1, 0, none⟩)) rfl (by kernel_rfl) (fun _ _ _ h => h) (by rfl) (fun w9 => by go_simp) (fun _ => hH) ?_
    try simp only [Act.put, List.setIfInBounds_toArray, List.set_cons_zero, List.set_cons_succ]
    refine wpK_pure (i := 6) (v := .pointer (some ⟨w.heap.size + 1, 0, none⟩)) rfl (by kernel_rfl) (fun _ _ _ h => h) (by rfl) (fun w9 => by go_simp) (fun _ => hH) ?_
    try simp only [Act.put, List.setIfInBounds_toArray, List.set_cons_zero, List.set_cons_succ]
    refine wpK_pure (i := 7) (v := .pointer (some ⟨w.heap.size + 1, 1, none⟩)) rfl (by kernel_rfl) (fun _ _ _ h => h) (by rfl) (fun w9 => by go_simp) (fun _ => hH) ?_
    try simp only [Act.put, List.setIfInBounds_toArray, List.set_cons_zero, List.set_cons_succ]
    have ZQ := Z8.below hH
    refine wpK_ready [8, 9] (by kernel_rfl) (by simp) ?_
    refine AllK.cons (i := 8) (rs := [9]) rfl ?_ (AllK.cons (i := 9) (rs := []) rfl ?_ AllK.nil)
    · intro K hK
      have c9 := (R8.row.below hH).cell 1 rfl
      go_simp
      refine hK.out _ _ (fun _ => hH) ?_
      intro _
      clear hK K
      try simp only [Act.put, List.setIfInBounds_toArray, List.set_cons_zero, List.set_cons_succ]
      refine wpK_ready [9] (by kernel_rfl) (by simp) ?_
      refine AllK.cons (i := 9) (rs := []) rfl ?_ AllK.nil
      intro K hK
      have z0 := ZQ.cell 0 rfl
      have f0 := ZQ.free 0
      have z1 := ZQ.cell 1 rfl
      have f1 := ZQ.free 1
      have z2 := ZQ.cell 2 rfl
      have f2 := ZQ.free 2
      have z3 := ZQ.cell 3 rfl
      have f3 := ZQ.free 3
      have z4 := ZQ.cell 4 rfl
      have f4 := ZQ.free 4
      have RQ : RowAt (((((y1.setCell ⟨w.heap.size, 0, none⟩ (.int .i64 v)).setCell ⟨w.heap.size, 1, none⟩ (.int .i64 st)).setCell ⟨w.heap.size, 2, none⟩ (.string R)).setCell ⟨w.heap.size, 3, none⟩ (.slice oa (unfrL xs).length cap)).setCell ⟨w.heap.size, 4, none⟩ (.string X)) w.heap.size 41 (respC v st R oa (unfrL xs).length cap X) := (((((ZQ.set 0 (.int .i64 v)).set 1 (.int .i64 st)).set 2 (.string R)).set 3 (.slice oa (unfrL xs).length cap)).set 4 (.string X))
      have k1 : Below w.heap.size y1 (((((y1.setCell ⟨w.heap.size, 0, none⟩ (.int .i64 v)).setCell ⟨w.heap.size, 1, none⟩ (.int .i64 st)).setCell ⟨w.heap.size, 2, none⟩ (.string R)).setCell ⟨w.heap.size, 3, none⟩ (.slice oa (unfrL xs).length cap)).setCell ⟨w.heap.size, 4, none⟩ (.string X)) := ((((((Below.refl _ _).setCell (p := ⟨w.heap.size, 0, none⟩) (Nat.le_refl _) (.int .i64 v)).setCell (p := ⟨w.heap.size, 1, none⟩) (Nat.le_refl _) (.int .i64 st)).setCell (p := ⟨w.heap.size, 2, none⟩) (Nat.le_refl _) (.string R)).setCell (p := ⟨w.heap.size, 3, none⟩) (Nat.le_refl _) (.slice oa (unfrL xs).length cap)).setCell (p := ⟨w.heap.size, 4, none⟩) (Nat.le_refl _) (.string X))
      have k2 : ∀ k, k ≠ w.heap.size → (((((y1.setCell ⟨w.heap.size, 0, none⟩ (.int .i64 v)).setCell ⟨w.heap.size, 1, none⟩ (.int .i64 st)).setCell ⟨w.heap.size, 2, none⟩ (.string R)).setCell ⟨w.heap.size, 3, none⟩ (.slice oa (unfrL xs).length cap)).setCell ⟨w.heap.size, 4, none⟩ (.string X)).heap[k]? = y1.heap[k]? := fun k hk => ((heap_setCell_other _ _ _ _ hk).trans ((heap_setCell_other _ _ _ _ hk).trans ((heap_setCell_other _ _ _ _ hk).trans ((heap_setCell_other _ _ _ _ hk).trans ((heap_setCell_other _ _ _ _ hk).trans rfl)))))
      go_simp
      generalize (((((y1.setCell ⟨w.heap.size, 0, none⟩ (.int .i64 v)).setCell ⟨w.heap.size, 1, none⟩ (.int .i64 st)).setCell ⟨w.heap.size, 2, none⟩ (.string R)).setCell ⟨w.heap.size, 3, none⟩ (.slice oa (unfrL xs).length cap)).setCell ⟨w.heap.size, 4, none⟩ (.string X)) = y2 at RQ k1 k2 ⊢
      refine hK.out _ _ (fun h => absurd h (by decide)) ?_
      intro _
      clear hK K z0 z1 z2 z3 z4 f0 f1 f2 f3 f4
      try simp only [Act.put, List.setIfInBounds_toArray, List.set_cons_zero, List.set_cons_succ]
      refine wpK_pureD (i := 10) (d := some 7) (v := .int .i64 ((a + n : Nat) : Int)) rfl rfl (by kernel_rfl) (fun _ _ _ h => h) (by rfl) (fun w9 => by go_simp) (fun h => absurd h (by decide)) ?_
      try simp only [Act.put, List.setIfInBounds_toArray, List.set_cons_zero, List.set_cons_succ]
      refine wpK_pureD (i := 11) (d := some 8) (v := .int .i64 0) rfl rfl (by kernel_rfl) (fun _ _ _ h => h) (by rfl) (fun w9 => by go_simp) (fun h => absurd h (by decide)) ?_
      try simp only [Act.put, List.setIfInBounds_toArray, List.set_cons_zero, List.set_cons_succ]
      refine wpK_done (by kernel_rfl) ?_ _
      go_wp2_with fail
      refine bodyPost_ret (results_row3 rfl _ _ w.heap.size 41 (respC v st R oa (unfrL xs).length cap X) RQ rfl _ Tryz.underlying41 resp_size) rfl ?_
      exact ⟨_, _, rfl, ((R8.below hH).f.other (show w.heap.size < w.heap.size + 2 by omega) k2).fld, (b8.trans (hH.mono b8.size)).trans k1⟩
    · intro K hK
      have z0 := ZQ.cell 0 rfl
      have f0 := ZQ.free 0
      have z1 := ZQ.cell 1 rfl
      have f1 := ZQ.free 1
      have z2 := ZQ.cell 2 rfl
      have f2 := ZQ.free 2
      have z3 := ZQ.cell 3 rfl
      have f3 := ZQ.free 3
      have z4 := ZQ.cell 4 rfl
      have f4 := ZQ.free 4
      have RQ : RowAt (((((y1.setCell ⟨w.heap.size, 0, none⟩ (.int .i64 v)).setCell ⟨w.heap.size, 1, none⟩ (.int .i64 st)).setCell ⟨w.heap.size, 2, none⟩ (.string R)).setCell ⟨w.heap.size, 3, none⟩ (.slice oa (unfrL xs).length cap)).setCell ⟨w.heap.size, 4, none⟩ (.string X)) w.heap.size 41 (respC v st R oa (unfrL xs).length cap X) := (((((ZQ.set 0 (.int .i64 v)).set 1 (.int .i64 st)).set 2 (.string R)).set 3 (.slice oa (unfrL xs).length cap)).set 4 (.string X))
      have k1 : Below w.heap.size y1 (((((y1.setCell ⟨w.heap.size, 0, none⟩ (.int .i64 v)).setCell ⟨w.heap.size, 1, none⟩ (.int .i64 st)).setCell ⟨w.heap.size, 2, none⟩ (.string R)).setCell ⟨w.heap.size, 3, none⟩ (.slice oa (unfrL xs).length cap)).setCell ⟨w.heap.size, 4, none⟩ (.string X)) := ((((((Below.refl _ _).setCell (p := ⟨w.heap.size, 0, none⟩) (Nat.le_refl _) (.int .i64 v)).setCell (p := ⟨w.heap.size, 1, none⟩) (Nat.le_refl _) (.int .i64 st)).setCell (p := ⟨w.heap.size, 2, none⟩) (Nat.le_refl _) (.string R)).setCell (p := ⟨w.heap.size, 3, none⟩) (Nat.le_refl _) (.slice oa (unfrL xs).length cap)).setCell (p := ⟨w.heap.size, 4, none⟩) (Nat.le_refl _) (.string X))
      have k2 : ∀ k, k ≠ w.heap.size → (((((y1.setCell ⟨w.heap.size, 0, none⟩ (.int .i64 v)).setCell ⟨w.heap.size, 1, none⟩ (.int .i64 st)).setCell ⟨w.heap.size, 2, none⟩ (.string R)).setCell ⟨w.heap.size, 3, none⟩ (.slice oa (unfrL xs).length cap)).setCell ⟨w.heap.size, 4, none⟩ (.string X)).heap[k]? = y1.heap[k]? := fun k hk => ((heap_setCell_other _ _ _ _ hk).trans ((heap_setCell_other _ _ _ _ hk).trans ((heap_setCell_other _ _ _ _ hk).trans ((heap_setCell_other _ _ _ _ hk).trans ((heap_setCell_other _ _ _ _ hk).trans rfl)))))
      go_simp
      generalize (((((y1.setCell ⟨w.heap.size, 0, none⟩ (.int .i64 v)).setCell ⟨w.heap.size, 1, none⟩ (.int .i64 st)).setCell ⟨w.heap.size, 2, none⟩ (.string R)).setCell ⟨w.heap.size, 3, none⟩ (.slice oa (unfrL xs).length cap)).setCell ⟨w.heap.size, 4, none⟩ (.string X)) = y2 at RQ k1 k2 ⊢
      refine hK.out _ _ (fun h => absurd h (by decide)) ?_
      intro _
      clear hK K z0 z1 z2 z3 z4 f0 f1 f2 f3 f4
      try simp only [Act.put, List.setIfInBounds_toArray, List.set_cons_zero, List.set_cons_succ]
      have c9 : y2.cell? ⟨w.heap.size + 1, 1, none⟩ = some (.int .i64 ((a + n : Nat) : Int)) := by
        have h9 : RowAt y2 (w.heap.size + 1) _ _ := (k2 (w.heap.size + 1) (by omega)).trans (R8.row.below hH)
        exact h9.cell 1 rfl
      refine wpK_ready [8] (by kernel_rfl) (by simp) ?_
      refine AllK.cons (i := 8) (rs := []) rfl ?_ AllK.nil
      intro K hK
      go_simp
      refine hK.out _ _ (fun h => absurd h (by decide)) ?_
      intro _
      clear hK K
      try simp only [Act.put, List.setIfInBounds_toArray, List.set_cons_zero, List.set_cons_succ]
      refine wpK_pureD (i := 10) (d := some 7) (v := .int .i64 ((a + n : Nat) : Int)) rfl rfl (by kernel_rfl) (fun _ _ _ h => h) (by rfl) (fun w9 => by go_simp) (fun h => absurd h (by decide)) ?_
      try simp only [Act.put, List.setIfInBounds_toArray, List.set_cons_zero, List.set_cons_succ]
      refine wpK_pureD (i := 11) (d := some 8) (v := .int .i64 0) rfl rfl (by kernel_rfl) (fun _ _ _ h => h) (by rfl) (fun w9 => by go_simp) (fun h => absurd h (by decide)) ?_
      try simp only [Act.put, List.setIfInBounds_toArray, List.set_cons_zero, List.set_cons_succ]
      refine wpK_done (by kernel_rfl) ?_ _
      go_wp2_with fail
      refine bodyPost_ret (results_row3 rfl _ _ w.heap.size 41 (respC v st R oa (unfrL xs).length cap X) RQ rfl _ Tryz.underlying41 resp_size) rfl ?_
      exact ⟨_, _, rfl, ((R8.below hH).f.other (show w.heap.size < w.heap.size + 2 by omega) k2).fld, (b8.trans (hH.mono b8.size)).trans k1⟩
end Go.Proofs.YtfnmohaddkoalaaGreatDoor
namespace Go.Proofs.YtfnmohaddkoalaaGreatDoor
set_option linter.unusedSimpArgs false
set_option linter.unusedVariables false

theorem dig_line {c : UInt8} (h : digB c = true) : lineC c = true := by
  have := of_digB h
  refine lineC_yes.2 ⟨fun e => ?_, fun e => ?_⟩ <;> (subst e; revert this; decide)
/-- A status line is a line. -/
theorem stat_lineC {l r : List UInt8} {v s : Int} (h : statL l = (v, s, r, 0)) : ∀ c ∈ l, lineC c = true := by
  obtain ⟨_, p1, p2, q1, hp, hq, hf, ht, hv, _, _⟩ := statL_inv h
  have e1 := cut_join hp
  have e2 := cut_join hq
  obtain ⟨hv0, hvb, _⟩ := verE_zero hv
  obtain ⟨a0, a1, a2, rfl, k0, k1, k2, k3⟩ := statForm_list hf
  intro c hc
  rw [e1, e2] at hc
  simp only [List.mem_append, List.mem_cons, List.not_mem_nil, or_false] at hc
  rcases hc with hc | rfl | (rfl | rfl | rfl) | rfl | hc
  · rw [hvb] at hc; exact verB_line hv0 c hc
  · decide
  · exact dig_line (digB_true (by omega))
  · exact dig_line k2
  · exact dig_line k3
  · decide
  · exact text_all ht c hc
theorem statF_ne {v s : Int} {r : List UInt8} (h : statF v s r ≠ []) : statL (statF v s r) = (v, s, r, 0) := by
  unfold statF at h ⊢
  split at h
  · rename_i e; rw [if_pos e]; exact e
  · exact absurd rfl h
/-- The head of a written response is read, and its body. -/
theorem res_back {v s : Int} {r : List UInt8} {fs : List Fd} {n : Int} {b : List UInt8} (more : List UInt8) (hs : msgL (statF v s r) fs n b ≠ []) (hn : n ≤ 100000) :
    ∃ a : Nat, hdL stS (msgL (statF v s r) fs n b ++ more) = (0, a, readF fs n) ∧ statL (nextL (msgL (statF v s r) fs n b ++ more)).1 = (v, s, r, 0) ∧ (msgL (statF v s r) fs n b).length = a + b.length ∧ (msgL (statF v s r) fs n b ++ more).drop a = b ++ more := by
  obtain ⟨h1, h2, h3, h4, h5⟩ := msg_ne hs
  have hr := statF_ne h1
  obtain ⟨hL, hF⟩ := lines_read hn h3
  have h6 : ((unfrL fs).map fmtF ++ clLs n).length ≤ 64 := by
    rw [List.length_append, List.length_map]
    have : (clLs n).length ≤ 1 := by unfold clLs; split <;> simp
    omega
  have hl := (statL_inv hr).1
  have hd := hd_lines (st := stS) (x := statF v s r) (L := (unfrL fs).map fmtF ++ clLs n) (b ++ more) (stat_lineC hr) hl (by show (statL (statF v s r)).2.2.2 = 0; rw [hr]) h6 hL h4
  rw [hF] at hd
  have e : msgL (statF v s r) fs n b ++ more = linesB (statF v s r :: ((unfrL fs).map fmtF ++ clLs n)) ++ 13 :: 10 :: (b ++ more) := by rw [h5]; simp [headLs]
  refine ⟨(linesB (statF v s r :: ((unfrL fs).map fmtF ++ clLs n))).length + 2, ?_, ?_, ?_, ?_⟩
  · rw [e]; exact hd
  · have e2 : linesB (statF v s r :: ((unfrL fs).map fmtF ++ clLs n)) ++ 13 :: 10 :: (b ++ more) = statF v s r ++ 13 :: 10 :: (linesB ((unfrL fs).map fmtF ++ clLs n) ++ 13 :: 10 :: (b ++ more)) := by simp [linesB]
    rw [e, e2, nextL_ok _ (stat_lineC hr) hl]
    exact hr
  · rw [h5]
    show (linesB (statF v s r :: _) ++ 13 :: 10 :: b).length = _
    simp only [List.length_append, List.length_cons]; omega
  · rw [e]
    exact drop_line _ _
theorem read_bd_len {fs : List Fd} {b : List UInt8} (more : List UInt8) (h : b.length ≤ 100000) : bdL (readF fs b.length) (b ++ more) = (b, b.length, 0) := by
  rw [read_bd (by omega), if_neg (by omega), if_neg (by rw [List.length_append]; omega), Int.toNat_natCast, List.take_left' rfl]
theorem read_cl_ne (fs : List Fd) {n : Int} (h : ¬ n < 0) : getF clN (readF fs n) ≠ [] := by
  rw [(read_parts fs n).1, if_neg h]; simp
end Go.Proofs.YtfnmohaddkoalaaGreatDoor
namespace Go.Proofs.YtfnmohaddkoalaaGreatDoor
open Go.RowKit Go.Shelf
set_option linter.unusedSimpArgs false
set_option linter.unusedVariables false

theorem sent_of_replies {W : World} (h : laidMetH Tryz.prog Rows.messageRepliesRow.laid W) : SentOf W := by
  rw [MakeChecks.laidMetH_plain _ _ _ (by kernel_rfl)] at h
  exact sent_of_two h.tail.tail.tail.tail
theorem pow_of_replies {W : World} (h : laidMetH Tryz.prog Rows.messageRepliesRow.laid W) : PowTab W := by
  rw [MakeChecks.laidMetH_plain _ _ _ (by kernel_rfl)] at h
  obtain ⟨ps, hv, _⟩ := h
  obtain ⟨q1, hv1⟩ := laid_rest hv
  obtain ⟨q2, hv2⟩ := laid_rest hv1
  exact laid_tab (g := 3) (t := 154) (e := 135) (n := 20) (by kernel_rfl) (by kernel_rfl) Tryz.underlying154 Tryz.underlying135 (by kernel_rfl) (by kernel_rfl) hv2
theorem msgL_len7 (st : List UInt8) (fs : List Fd) (n : Int) (b : List UInt8) : (msgL st fs n b).length ≤ 16000 + b.length := by
  unfold msgL
  split
  · simp
  · split
    · simp
    · rw [List.length_append]; simp only [List.length_cons]; omega
theorem resW_len (v s : Int) (r : ByteArray) (xs : List Fd) (b me : ByteArray) (hb : b.size ≤ 2000) : (resW v s r xs b me).length ≤ 18000 := by
  have h := msgL_len7 (statF v s (bs r)) xs (if bodB s me then -1 else (b.size : Int)) (if bodB s me then [] else bs b)
  have : (if bodB s me = true then ([] : List UInt8) else bs b).length ≤ 2000 := by
    split
    · simp
    · rw [bs_length]; exact hb
  unfold resW
  omega
/-- A written response is read. -/
theorem replies_any (v s : Int) (r : ByteArray) (us : List Fd) (b me X more Y : ByteArray) (cl : Bool) (w : World) (hX : bs X = resW v s r us b me) (h0 : bs X ≠ []) (hY : Y = X ++ more) (hb : b.size ≤ 2000) (zY : Y.size ≤ 1000000) (huu : unfrL us = us) (hM : MaxOf w) (ea eb : Addr) (mx : Int) (hE : StartEnv w ea eb mx) :
    Calls Tryz.prog 23 #[.string Y, .string me, .bool cl] w fun e w' => ∃ oz cz, e = .returned (.tuple #[.agg (respC v s r oz us.length cz (if bodB s me then ⟨#[]⟩ else b)).toArray, .int .i64 (X.size : Int), .int .i64 0]) ∧ FldO w' oz us ∧ Below w.heap.size w w' := by
  have hYb : bs Y = bs X ++ bs more := by rw [hY, cat6]
  cases hbd : bodB s me with
  | true =>
    have hX2 : bs X = msgL (statF v s (bs r)) us (-1) [] := by rw [hX]; unfold resW; rw [hbd]; rfl
    obtain ⟨a, h1, h2, h3, h4⟩ := res_back (v := v) (s := s) (r := bs r) (fs := us) (n := -1) (b := []) (bs more) (by rw [← hX2]; exact h0) (by omega)
    rw [← hX2, ← hYb] at h1 h2
    have hz : a = X.size := by rw [← bs_length, hX2, h3]; simp
    have h9 := parseS_any Y me cl w zY hM ea eb mx hE a (readF us (-1)) v s r ⟨#[]⟩ 0 h1 (read_fr (by omega)) h2 (.inl ⟨hbd, rfl, rfl⟩)
    rw [(read_parts us (-1)).2.2.2, huu, Nat.add_zero, hz] at h9
    exact h9
  | false =>
    have hX2 : bs X = msgL (statF v s (bs r)) us ((bs b).length : Int) (bs b) := by rw [hX, bs_length]; unfold resW; rw [hbd]; rfl
    have hbl : (bs b).length ≤ 2000 := by rw [bs_length]; exact hb
    obtain ⟨a, h1, h2, h3, h4⟩ := res_back (v := v) (s := s) (r := bs r) (fs := us) (n := ((bs b).length : Int)) (b := bs b) (bs more) (by rw [← hX2]; exact h0) (by omega)
    rw [← hX2, ← hYb] at h1 h2 h4
    have hz : a + (bs b).length = X.size := by rw [← bs_length X, hX2, h3]
    have h9 := parseS_any Y me cl w zY hM ea eb mx hE a (readF us ((bs b).length : Int)) v s r b (bs b).length h1 (read_fr (by omega)) h2 (.inr ⟨hbd, read_cl_ne us (by omega), by rw [h4]; exact read_bd_len (bs more) (by omega)⟩)
    rw [(read_parts us ((bs b).length : Int)).2.2.2, huu, hz] at h9
    exact h9
set_option maxHeartbeats 3200000 in
set_option maxRecDepth 100000 in
theorem replies6_walk (v s : Int) (r : ByteArray) (oa : Option Addr) (xs : List Fd) (cap : Nat) (b : ByteArray) (me more : ByteArray) (cl : Bool) (w : World) (hn : xs.length ≤ 9223372036854775807) (_ : r.size ≤ 9223372036854775807) (_ : b.size ≤ 9223372036854775807) (hc : FldO w oa xs) (hmw : (Lit.int .i64 v).wf = true) (hsw : (Lit.int .i64 s).wf = true) (_ : me.size ≤ 9223372036854775807) (_ : more.size ≤ 9223372036854775807) (hS : SentOf w) (hT : PowTab w) (hM : MaxOf w) :
    Calls Tryz.prog 7 #[respV v s r oa xs.length cap b, .string me, .string more, .bool cl] w fun e w' => e = .returned (.bool true) ∧ Below w.heap.size w w' := by
  have ha := alloc_b w (.cells (respC v s r oa xs.length cap b).toArray 41)
  have V0 := RowAt.new w (respC v s r oa xs.length cap b) 41
  have HC := Lib.hid hc
  have HE := Lib.hid (ReqEnv.of hS hM)
  have HT := Lib.hid hT
  obtain ⟨v0, v1⟩ := bounds_i64 hmw
  obtain ⟨s0, s1⟩ := bounds_i64 hsw
  clear hc hS hT hM hmw hsw
  cases hk : keepRB r b xs with
  | false =>
    have HK := Lib.hid hk
    clear hk
    go_enter Tryz.func7, Tryz.ntmps7
    go_wp2_with fail
    refine (keepR_any v s r oa xs cap b _ hn (HC.out.down ha)).mono ?_
    rintro e w1 ⟨rfl, hb1⟩
    rw [HK.out]
    have V1 := V0.below hb1
    have b1 := step_b ha hb1
    have z1 : w.heap.size + 1 ≤ w1.heap.size := Nat.le_trans (by rw [World.size_alloc]; omega) hb1.size
    clear V0 hb1 ha
    go_wp2_with fail
    go_ret
    exact ⟨rfl, b1⟩
  | true =>
  have hkk : r.size ≤ 2100 ∧ b.size ≤ 2000 ∧ xs.length ≤ 70 ∧ FldZ xs 300 := by
    have h := hk
    unfold keepRB at h
    rw [Bool.and_eq_true, Bool.and_eq_true, decide_eq_true_eq, decide_eq_true_eq] at h
    obtain ⟨⟨h1, h2⟩, h3⟩ := h
    have := fieldsB_true h2
    exact ⟨h1, h3, this.1, this.2⟩
  obtain ⟨k1, k3, k4, k5⟩ := hkk
  have HK := Lib.hid hk
  clear hk
  by_cases h0 : 100 < (me.size : Int)
  · skip
    go_enter Tryz.func7, Tryz.ntmps7
    go_wp2_with fail
    refine (keepR_any v s r oa xs cap b _ hn (HC.out.down ha)).mono ?_
    rintro e w1 ⟨rfl, hb1⟩
    rw [HK.out]
    have V1 := V0.below hb1
    have b1 := step_b ha hb1
    have z1 : w.heap.size + 1 ≤ w1.heap.size := Nat.le_trans (by rw [World.size_alloc]; omega) hb1.size
    clear V0 hb1 ha
    go_wp2_with fail
    go_ret
    exact ⟨rfl, b1⟩
  by_cases h0m : 1000 < (more.size : Int)
  · skip
    go_enter Tryz.func7, Tryz.ntmps7
    go_wp2_with fail
    refine (keepR_any v s r oa xs cap b _ hn (HC.out.down ha)).mono ?_
    rintro e w1 ⟨rfl, hb1⟩
    rw [HK.out]
    have V1 := V0.below hb1
    have b1 := step_b ha hb1
    have z1 : w.heap.size + 1 ≤ w1.heap.size := Nat.le_trans (by rw [World.size_alloc]; omega) hb1.size
    clear V0 hb1 ha
    go_wp2_with fail
    go_ret
    exact ⟨rfl, b1⟩
  go_enter Tryz.func7, Tryz.ntmps7
  go_wp2_with fail
  refine (keepR_any v s r oa xs cap b _ hn (HC.out.down ha)).mono ?_
  rintro e w1 ⟨rfl, hb1⟩
  rw [HK.out]
  have V1 := V0.below hb1
  have b1 := step_b ha hb1
  have z1 : w.heap.size + 1 ≤ w1.heap.size := Nat.le_trans (by rw [World.size_alloc]; omega) hb1.size
  clear V0 hb1 ha
  have a0 := V1.cell 0 rfl
  have a1 := V1.cell 1 rfl
  have a2 := V1.cell 2 rfl
  have a3 := V1.cell 3 rfl
  have a4 := V1.cell 4 rfl
  go_wp2_with fail
  refine (unframed_any oa xs cap w1 (by omega) (fun x hx => by have := k5 x hx; omega) (HC.out.down b1)).mono ?_
  rintro e w2 ⟨vu, rfl, FU, hb2⟩
  obtain ⟨us, hus⟩ : ∃ us, us = unfrL xs := ⟨_, rfl⟩
  rw [← hus] at FU
  obtain ⟨ou, cu, rfl, _⟩ := FU.shape
  have V2 := V1.below hb2
  have b2 := step_b b1 hb2
  clear V1 hb2 b1 a0 a1 a2 a3 a4
  have a0 := V2.cell 0 rfl
  have a1 := V2.cell 1 rfl
  have a2 := V2.cell 2 rfl
  have a3 := V2.cell 3 rfl
  have a4 := V2.cell 4 rfl
  have f3 := V2.free 3
  have V3 : RowAt (w2.setCell ⟨w.heap.size, 3, none⟩ (.slice ou us.length cu)) w.heap.size 41 (respC v s r ou us.length cu b) := V2.set 3 (.slice ou us.length cu)
  have b3 := b2.setCell (p := ⟨w.heap.size, 3, none⟩) (Nat.le_refl _) (.slice ou us.length cu)
  have FU3 : FBuf (w2.setCell ⟨w.heap.size, 3, none⟩ (.slice ou us.length cu)) w1.heap.size (.slice ou us.length cu) us := FU.other (show w.heap.size < w1.heap.size by omega) (fun k hk => heap_setCell_other _ _ _ _ hk)
  have HFU := Lib.hid FU3
  have HU := Lib.hid FU3.fld
  have hul : us.length ≤ 70 := by rw [hus]; have := unfr_len xs; omega
  have huz : FldZ us 300 := by rw [hus]; exact fldz_filter k5
  have huu : unfrL us = us := by rw [hus]; exact unfr_twice xs
  clear V2 b2 FU FU3
  have g0 := V3.cell 0 rfl
  have g1 := V3.cell 1 rfl
  have g2 := V3.cell 2 rfl
  have g3 := V3.cell 3 rfl
  have g4 := V3.cell 4 rfl
  have HUS := Lib.hid hus
  clear hus
  obtain ⟨w3, hw3⟩ : ∃ W, W = (w2.setCell ⟨w.heap.size, 3, none⟩ (.slice ou us.length cu)) := ⟨_, rfl⟩
  rw [← hw3] at V3 b3 HU HFU g0 g1 g2 g3 g4
  have HW3 := Lib.hid hw3
  obtain ⟨X, hX⟩ : ∃ X : ByteArray, X = ⟨(resW v s r us b me).toArray⟩ := ⟨_, rfl⟩
  have hXb : bs X = resW v s r us b me := by rw [hX]
  have zX : X.size ≤ 18000 := by rw [hX]; exact resW_len v s r us b me k3
  have HF : Hid (∀ W, Below w3.heap.size w3 W → Calls Tryz.prog 19 #[respV v s r ou us.length cu b, .string me] W fun e w' => e = .returned (.string X) ∧ Below W.heap.size W w') := Lib.hid fun W hW => by
    have hW0 := step_b b3 hW
    rw [hX]; exact fmtR_any v s r ou us cu b me W k1 k3 (by omega) huz (HU.out.down hW) v0 v1 s0 s1 (HE.out.below hW0) (HT.out.below hW0)
  have HRF : Hid (∀ W, Below w3.heap.size w3 W → Calls Tryz.prog 20 #[respV v s r ou us.length cu b, .string me] W fun e w' => e = .returned (.string X) ∧ Below W.heap.size W w') := Lib.hid fun W hW => by
    rw [hX]; exact rfmtR_any v s r ou us cu b me W k1 k3 (by omega) huz (HU.out.down hW) v0 v1 s0 s1
  have HXB := Lib.hid hXb
  clear hX hXb
  go_wp2_with fail
  rw [← HW3.out]
  clear a0 a1 a2 a3 a4 f3 hw3 HW3
  refine (HF.out _ (Below.refl _ _)).mono ?_
  rintro e w4 ⟨rfl, hb4⟩
  have V4 := V3.below hb4
  clear V3 g0 g1 g2 g3 g4
  have a0 := V4.cell 0 rfl
  have a1 := V4.cell 1 rfl
  have a2 := V4.cell 2 rfl
  have a3 := V4.cell 3 rfl
  have a4 := V4.cell 4 rfl
  by_cases hx0 : X.size = 0
  · obtain ⟨e1, e2⟩ := femp_yes hx0
    clear e2 hx0
    go_wp2_with fail
    refine (HRF.out _ hb4).mono ?_
    rintro e w9 ⟨rfl, hb9⟩
    have b9 := step_b b3 (step_b hb4 hb9)
    go_wp2_with fail
    refine (awake6_any w9 (HE.out.below b9)).mono ?_
    rintro e w10 ⟨rfl, hb10⟩
    go_wp2_with fail
    go_ret
    exact ⟨rfl, step_b b9 hb10⟩
  obtain ⟨e1, e2⟩ := femp_no hx0
  cases hbd : bodB s me with
  | true =>
    obtain ⟨Y, hY⟩ : ∃ Y : ByteArray, Y = X ++ more := ⟨_, rfl⟩
    have sY : ∀ wx, (Op.stringOp .add X more).run Tryz.prog wx = .ok (.string Y) wx := fun wx => by rw [hY]; exact run_string_add_sum wx _ _ (by omega)
    have zY : Y.size ≤ 1000000 := by rw [hY, ByteArray.size_append]; omega
    have HP : Hid (∀ wx, ReqEnv wx → Calls Tryz.prog 23 #[.string Y, .string me, .bool cl] wx fun e w' => ∃ oz cz, e = .returned (.tuple #[.agg (respC v s r oz us.length cz ⟨#[]⟩).toArray, .int .i64 (X.size : Int), .int .i64 0]) ∧ FldO w' oz us ∧ Below wx.heap.size wx w') := Lib.hid fun wx h => by
      obtain ⟨hm9, ea, eb, mx, he9⟩ := h
      exact replies_any v s r us b me X more Y cl wx HXB.out e2 hY k3 zY huu hm9 ea eb mx he9 |>.mono (fun e w' h => by rw [hbd] at h; exact h)
    have HBD := Lib.hid hbd
    clear e2 hx0 hY hbd
    go_wp2_with fail
    refine (bodiless_any s me w4).mono ?_
    rintro e w4b ⟨rfl, rfl⟩
    rw [HBD.out]
    have f4 := V4.free 4
    have V5 : RowAt (w4.setCell ⟨w.heap.size, 4, none⟩ (.string ⟨#[]⟩)) w.heap.size 41 (respC v s r ou us.length cu ⟨#[]⟩) := V4.set 4 (.string ⟨#[]⟩)
    have bE := (step_b b3 hb4).setCell (p := ⟨w.heap.size, 4, none⟩) (Nat.le_refl _) (.string ⟨#[]⟩)
    have HU5 : Hid (FldO (w4.setCell ⟨w.heap.size, 4, none⟩ (.string ⟨#[]⟩)) ou us) := Lib.hid (((HFU.out.below hb4 (Nat.le_refl _)).other (show w.heap.size < w1.heap.size by omega) (fun k hk => heap_setCell_other _ _ _ _ hk)).fld)
    have g4 := V5.cell 4 rfl
    clear V4 g4
    go_wp2_with fail
    obtain ⟨w5, hw5⟩ : ∃ W, W = (w4.setCell ⟨w.heap.size, 4, none⟩ (.string ⟨#[]⟩)) := ⟨_, rfl⟩
    rw [← hw5]
    rw [← hw5] at V5 bE HU5
    have b5 := Below.refl w5.heap.size w5
    clear hw5 f4 hb4
    refine (HP.out _ (HE.out.below bE)).mono ?_
    rintro e w6 ⟨oz, cz, rfl, FO, hb6⟩
    have V6 := V5.below hb6
    have b6 := step_b b5 hb6
    have hA := alloc_b w6 (.cells zRes.toArray 41)
    have RN := RowAt.new w6 zRes 41
    have V7 := V6.below hA
    have hlt6 := V6.lt
    clear V5 hb6 b5 a0 a1 a2 a3 a4 V6
    go_wp2_with (refine wpList_store_row rfl _ 41 (.tmp 10) (.tmp 55) rfl w6.heap.size 41 zRes (respC v s r oz us.length cz ⟨#[]⟩) RN rfl rfl rfl resp_size (respC_one _ _ _ _ _ _ _) ?_; intro w7 R7 f1 f2 f3; have d0 := R7.cell 0 rfl; have d1 := R7.cell 1 rfl; have d2 := R7.cell 2 rfl; have d3 := R7.cell 3 rfl; have d4 := R7.cell 4 rfl; have b7 := (step_b b6 hA).trans (f1 _ b6.size); have V8 := V7.belowB (f1 w6.heap.size (Nat.le_refl _)) hlt6; have a0 := V8.cell 0 rfl; have a1 := V8.cell 1 rfl; have a2 := V8.cell 2 rfl; have a3 := V8.cell 3 rfl; have a4 := V8.cell 4 rfl; have FO8 : FldO w7 oz us := FO.down (hA.trans (f1 w6.heap.size (Nat.le_refl _))); clear RN V7)
    refine (sameResp_any v s r oz us cz ou cu ⟨#[]⟩ w7 (by omega) FO8 (HU5.out.down b7)).mono ?_
    rintro e w8 ⟨rfl, hb8⟩
    have b8 := step_b bE (step_b b7 hb8)
    go_wp2_with fail
    refine (awake6_any w8 (HE.out.below b8)).mono ?_
    rintro e w9 ⟨rfl, hb9⟩
    go_wp2_with fail
    go_ret
    exact ⟨rfl, step_b b8 hb9⟩
  | false =>
    obtain ⟨Y, hY⟩ : ∃ Y : ByteArray, Y = X ++ more := ⟨_, rfl⟩
    have sY : ∀ wx, (Op.stringOp .add X more).run Tryz.prog wx = .ok (.string Y) wx := fun wx => by rw [hY]; exact run_string_add_sum wx _ _ (by omega)
    have zY : Y.size ≤ 1000000 := by rw [hY, ByteArray.size_append]; omega
    have HP : Hid (∀ wx, ReqEnv wx → Calls Tryz.prog 23 #[.string Y, .string me, .bool cl] wx fun e w' => ∃ oz cz, e = .returned (.tuple #[.agg (respC v s r oz us.length cz b).toArray, .int .i64 (X.size : Int), .int .i64 0]) ∧ FldO w' oz us ∧ Below wx.heap.size wx w') := Lib.hid fun wx h => by
      obtain ⟨hm9, ea, eb, mx, he9⟩ := h
      exact replies_any v s r us b me X more Y cl wx HXB.out e2 hY k3 zY huu hm9 ea eb mx he9 |>.mono (fun e w' h => by rw [hbd] at h; exact h)
    have HBD := Lib.hid hbd
    clear e2 hx0 hY hbd
    go_wp2_with fail
    refine (bodiless_any s me w4).mono ?_
    rintro e w4b ⟨rfl, rfl⟩
    rw [HBD.out]
    have bE := step_b b3 hb4
    have HU5 : Hid (FldO w4 ou us) := Lib.hid (HU.out.down hb4)
    have V5 := V4
    have b5 := Below.refl w4.heap.size w4
    clear V4 hb4
    go_wp2_with fail
    refine (HP.out _ (HE.out.below bE)).mono ?_
    rintro e w6 ⟨oz, cz, rfl, FO, hb6⟩
    have V6 := V5.below hb6
    have b6 := step_b b5 hb6
    have hA := alloc_b w6 (.cells zRes.toArray 41)
    have RN := RowAt.new w6 zRes 41
    have V7 := V6.below hA
    have hlt6 := V6.lt
    clear V5 hb6 b5 a0 a1 a2 a3 a4 V6
    go_wp2_with (refine wpList_store_row rfl _ 41 (.tmp 10) (.tmp 55) rfl w6.heap.size 41 zRes (respC v s r oz us.length cz b) RN rfl rfl rfl resp_size (respC_one _ _ _ _ _ _ _) ?_; intro w7 R7 f1 f2 f3; have d0 := R7.cell 0 rfl; have d1 := R7.cell 1 rfl; have d2 := R7.cell 2 rfl; have d3 := R7.cell 3 rfl; have d4 := R7.cell 4 rfl; have b7 := (step_b b6 hA).trans (f1 _ b6.size); have V8 := V7.belowB (f1 w6.heap.size (Nat.le_refl _)) hlt6; have a0 := V8.cell 0 rfl; have a1 := V8.cell 1 rfl; have a2 := V8.cell 2 rfl; have a3 := V8.cell 3 rfl; have a4 := V8.cell 4 rfl; have FO8 : FldO w7 oz us := FO.down (hA.trans (f1 w6.heap.size (Nat.le_refl _))); clear RN V7)
    refine (sameResp_any v s r oz us cz ou cu b w7 (by omega) FO8 (HU5.out.down b7)).mono ?_
    rintro e w8 ⟨rfl, hb8⟩
    have b8 := step_b bE (step_b b7 hb8)
    go_wp2_with fail
    refine (awake6_any w8 (HE.out.below b8)).mono ?_
    rintro e w9 ⟨rfl, hb9⟩
    go_wp2_with fail
    go_ret
    exact ⟨rfl, step_b b8 hb9⟩
end Go.Proofs.YtfnmohaddkoalaaGreatDoor
