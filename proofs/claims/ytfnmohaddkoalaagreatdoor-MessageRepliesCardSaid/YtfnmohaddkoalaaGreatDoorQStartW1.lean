/- The walks of layer 2 (startline): versions, request lines, status lines. -/
import Derived.Test.YtfnmohaddkoalaaGreatDoorQStartE
import Derived.Test.YtfnmohaddkoalaaGreatDoorQPre
import Derived.Test.YtfnmohaddkoalaaGreatDoorQAsciiW1
import Derived.Deep.QuietTactic
import Derived.BigQuiet
namespace Go.Proofs.YtfnmohaddkoalaaGreatDoor
open Go.RowKit

/-- What the walks of layer 2 want of the package variables. -/
structure StartEnv (w : World) (a b : Addr) (m : Int) : Prop where
  syn : w.cell? ⟨0, 0, none⟩ = some (errV a)
  ver : w.cell? ⟨1, 0, none⟩ = some (errV b)
  ne : a ≠ b
  ba : ∃ ca ta, w.heap[a.block]? = some (.cells ca ta (0, 0))
  bb : ∃ cb tb, w.heap[b.block]? = some (.cells cb tb (0, 0))
  max : w.cell? ⟨2, 0, none⟩ = some (.int .i64 m)
theorem StartEnv.below {w w' : World} {a b : Addr} {m : Int} (h : StartEnv w a b m) (hb : Below w.heap.size w w') : StartEnv w' a b m := by
  obtain ⟨ca, ta, ha⟩ := h.ba
  obtain ⟨cb, tb, hbb⟩ := h.bb
  exact ⟨(hb.cell (World.block_lt_of_cell? _ _ h.syn)).trans h.syn, (hb.cell (World.block_lt_of_cell? _ _ h.ver)).trans h.ver, h.ne,
    ⟨ca, ta, (hb.block _ (block_lt ha)).trans ha⟩, ⟨cb, tb, (hb.block _ (block_lt hbb)).trans hbb⟩, (hb.cell (World.block_lt_of_cell? _ _ h.max)).trans h.max⟩
theorem below_step {w w1 w2 : World} (h : Below w.heap.size w w1) (h' : Below w1.heap.size w1 w2) : Below w.heap.size w w2 := h.trans (h'.mono h.size)
theorem below_draws (w : World) (n : Nat) : Below w.heap.size w (w.drewN n) := below_drewN (Below.refl _ _) n
/-- strings.Cut at one byte. -/
theorem scut_any (s : ByteArray) (c : UInt8) (m : Int) (w : World) (hs : s.size < 4294967281) (hm : w.cell? ⟨2, 0, none⟩ = some (.int .i64 m)) :
    Calls Tryz.prog 71 #[.string s, .string ⟨#[c]⟩] w fun e w' => e = .returned (.tuple #[.string ⟨(cutB c (bs s)).1.toArray⟩, .string ⟨(cutB c (bs s)).2.1.toArray⟩, .bool (cutB c (bs s)).2.2]) ∧ Below w.heap.size w w' :=
  (Tryz.strings_Cut s ⟨#[c]⟩ m w hs hm).mono fun e w' ⟨he, n, hw⟩ => ⟨by rw [he]; show _ = Ending.returned (Value.tuple #[.string ⟨(cutB c s.data.toList).1.toArray⟩, _, _]); rw [← cut_one], by rw [hw]; exact below_draws w n⟩
set_option maxHeartbeats 400000 in
theorem sdigit_any (c : UInt8) (w : World) :
    Calls Tryz.prog 100 #[.int .u8 c.toNat] w fun e w' => e = .returned (.bool (digB c)) ∧ w = w' := by
  go_enter Tryz.func100, Tryz.ntmps100
  go_wp2
  all_goals (go_ret; exact ⟨ret_bool (by rw [Bool.eq_iff_iff]; simp [digB]; omega), rfl⟩)
set_option maxHeartbeats 400000 in
theorem visible_any (s : ByteArray) (w : World) (hs : s.size ≤ 9223372036854775807) :
    Calls Tryz.prog 73 #[.string s] w fun e w' => e = .returned (.bool (visB (bs s))) ∧ w = w' := by
  go_enter Tryz.func73, Tryz.ntmps73
  go_wp2
  go_loop [6] (fun j => ∃ k : Nat, k ≤ s.size ∧ j = .int .i64 k ∧ Hid ((bs s).all visC = ((bs s).drop k).all visC)) (fun j => s.size - (intOf j).toNat)
  case atStart => exact ⟨0, by omega, rfl, Lib.hid rfl⟩
  case round =>
    obtain ⟨k, hk, rfl, H⟩ := hrel
    by_cases hlt : k < s.size
    · have Hs := Lib.hid (all_step visC s hlt)
      by_cases h1 : 33 ≤ s[k].toNat
      · have k1 : ¬ (s[k].toNat : Int) < 33 := by omega
        by_cases h2 : s[k].toNat ≤ 126
        · have k2 : ¬ 126 < (s[k].toNat : Int) := by omega
          have hd := Lib.hid (visC_true ⟨h1, h2⟩)
          clear h1 h2
          go_wp2
          go_round
          case rel => exact ⟨k + 1, by omega, by go_num, Lib.hid (by rw [H.out, Hs.out, hd.out]; rfl)⟩
          case measure => simp [intOf]; omega
        · have k2 : 126 < (s[k].toNat : Int) := by omega
          have hd := Lib.hid (visC_false (c := s[k]) fun h => h2 h.2)
          clear h1 h2
          go_wp2
          go_ret
          exact ⟨ret_bool (by unfold visB; rw [H.out, Hs.out, hd.out]; rfl), rfl⟩
      · have k1 : (s[k].toNat : Int) < 33 := by omega
        have hd := Lib.hid (visC_false (c := s[k]) fun h => h1 h.1)
        clear h1
        go_wp2
        go_ret
        exact ⟨ret_bool (by unfold visB; rw [H.out, Hs.out, hd.out]; rfl), rfl⟩
    · have He := Lib.hid (all_end visC s (k := k) (by omega))
      go_wp2
      go_ret
      exact ⟨ret_bool (by unfold visB; rw [H.out, He.out]; simp [Lib.toList_data]), rfl⟩
/-- What version hands back. -/
def verV (a b : Addr) (l : List UInt8) : Value := if verE l = 0 then .tuple #[.int .i64 (verN l), .nilIface] else if verE l = 1 then .tuple #[.int .i64 0, faultV a] else .tuple #[.int .i64 0, faultV b]
theorem verV_one {a b : Addr} {l : List UInt8} (h : verForm l = false) : verV a b l = .tuple #[.int .i64 0, faultV a] := by
  have e : verE l = 1 := by unfold verE; rw [h]; rfl
  unfold verV; rw [e]; rfl
theorem verV_three {a b : Addr} {l : List UInt8} (h : verForm l = true) (h' : ¬ (l.getD 5 0 = 49 ∧ (l.getD 7 0).toNat ≤ 49)) : verV a b l = .tuple #[.int .i64 0, faultV b] := by
  have e : verE l = 3 := by unfold verE; rw [if_pos h, if_neg h']
  unfold verV; rw [e]; rfl
theorem verV_zero {a b : Addr} {l : List UInt8} (h : verForm l = true) (h' : l.getD 5 0 = 49 ∧ (l.getD 7 0).toNat ≤ 49) : verV a b l = .tuple #[.int .i64 (((l.getD 7 0).toNat : Int) - 48), .nilIface] := by
  have e : verE l = 0 := by unfold verE; rw [if_pos h, if_pos h']
  unfold verV verN; rw [e]; rfl
theorem getD_bs (s : ByteArray) {k : Nat} (h : k < s.size) : (bs s).getD k 0 = s[k] := by
  have h' : k < (bs s).length := by rw [bs_length]; exact h
  rw [List.getD_eq_getElem?_getD, List.getElem?_eq_getElem h']; rfl
theorem verForm_at (s : ByteArray) (h : s.size = 8) : verForm (bs s) = ((s.extract 0 5).toList == httpL && (digB s[5] && (s[6] == 46 && digB s[7]))) := by
  unfold verForm
  rw [bs_length, getD_bs s (by omega), getD_bs s (by omega), getD_bs s (by omega), Lib.extract_toList, show (s.size == 8) = true by rw [h]; rfl]
  simp
theorem verForm_size (s : ByteArray) (h : s.size ≠ 8) : verForm (bs s) = false := by
  unfold verForm; rw [bs_length]; simp [h]
set_option maxHeartbeats 1600000 in
theorem version_any (s : ByteArray) (w : World) (a b : Addr) (m : Int) (hE : StartEnv w a b m) :
    Calls Tryz.prog 74 #[.string s] w fun e w' => e = .returned (verV a b (bs s)) ∧ Below w.heap.size w w' := by
  have hS := hE.syn
  have hV := hE.ver
  clear hE
  by_cases h8 : s.size = 8
  · have HA := Lib.hid (verForm_at s h8)
    by_cases h5 : (s.extract 0 5).toList = httpL
    · have h5' : (s.extract 0 5).toList = [72, 84, 84, 80, 47] := h5
      cases d5 : digB s[5] with
      | false =>
        have HF := Lib.hid (verV_one (a := a) (b := b) (l := bs s) (by rw [HA.out, d5]; simp))
        clear h5
        go_enter Tryz.func74, Tryz.ntmps74
        go_wp2_with (go_at_call 100; refine (sdigit_any _ _).mono ?_; rintro e w' ⟨rfl, rfl⟩)
        go_quiet (fail)
        go_wp2
        go_ret2
        exact ⟨by rw [HF.out]; rfl, below_draws w _⟩
      | true =>
        by_cases h6 : s[6] = 46
        · have k6 : ((s[6].toNat : Int) != 46) = false := u8_bf (n := 46) (by decide) h6
          cases d7 : digB s[7] with
          | false =>
            have HF := Lib.hid (verV_one (a := a) (b := b) (l := bs s) (by rw [HA.out, d7]; simp))
            clear h5 h6
            go_enter Tryz.func74, Tryz.ntmps74
            go_wp2_with (go_at_call 100; refine (sdigit_any _ _).mono ?_; rintro e w' ⟨rfl, rfl⟩)
            go_quiet (fail)
            go_wp2
            go_ret2
            exact ⟨by rw [HF.out]; rfl, below_draws w _⟩
          | true =>
            have HT : Hid (verForm (bs s) = true) := Lib.hid (by rw [HA.out, h5, d5, d7, h6]; rfl)
            have G5 := Lib.hid (getD_bs s (k := 5) (by omega))
            have G7 := Lib.hid (getD_bs s (k := 7) (by omega))
            obtain ⟨b7, b7'⟩ := of_digB d7
            clear h5 h6
            by_cases h49 : s[5] = 49
            · have k5 : ((s[5].toNat : Int) != 49) = false := u8_bf (n := 49) (by decide) h49
              by_cases h7 : s[7].toNat ≤ 49
              · have HF := Lib.hid (verV_zero (a := a) (b := b) (l := bs s) HT.out ⟨by rw [G5.out]; exact h49, by rw [G7.out]; exact h7⟩)
                have k7 : ¬ 49 < (s[7].toNat : Int) := by omega
                clear h49
                go_enter Tryz.func74, Tryz.ntmps74
                go_wp2_with (go_at_call 100; refine (sdigit_any _ _).mono ?_; rintro e w' ⟨rfl, rfl⟩)
                go_ret2
                exact ⟨by rw [HF.out, G7.out]; rfl, Below.refl _ _⟩
              · have HF := Lib.hid (verV_three (a := a) (b := b) (l := bs s) HT.out fun h => h7 (by have := h.2; rw [G7.out] at this; exact this))
                have k7 : 49 < (s[7].toNat : Int) := by omega
                clear h49 h7
                go_enter Tryz.func74, Tryz.ntmps74
                go_wp2_with (go_at_call 100; refine (sdigit_any _ _).mono ?_; rintro e w' ⟨rfl, rfl⟩)
                go_quiet (fail)
                go_wp2
                go_ret2
                exact ⟨by rw [HF.out]; rfl, below_draws w _⟩
            · have HF := Lib.hid (verV_three (a := a) (b := b) (l := bs s) HT.out fun h => h49 (by have := h.1; rw [G5.out] at this; exact this))
              have k5 : ((s[5].toNat : Int) != 49) = true := u8_bt (n := 49) (by decide) h49
              clear h49
              go_enter Tryz.func74, Tryz.ntmps74
              go_wp2_with (go_at_call 100; refine (sdigit_any _ _).mono ?_; rintro e w' ⟨rfl, rfl⟩)
              go_quiet (fail)
              go_wp2
              go_ret2
              exact ⟨by rw [HF.out]; rfl, below_draws w _⟩
        · have HF := Lib.hid (verV_one (a := a) (b := b) (l := bs s) (by rw [HA.out, beq_eq_false_iff_ne.2 h6]; simp))
          have k6 : ((s[6].toNat : Int) != 46) = true := u8_bt (n := 46) (by decide) h6
          clear h5 h6
          go_enter Tryz.func74, Tryz.ntmps74
          go_wp2_with (go_at_call 100; refine (sdigit_any _ _).mono ?_; rintro e w' ⟨rfl, rfl⟩)
          go_quiet (fail)
          go_wp2
          go_ret2
          exact ⟨by rw [HF.out]; rfl, below_draws w _⟩
    · have HF := Lib.hid (verV_one (a := a) (b := b) (l := bs s) (by rw [HA.out, beq_eq_false_iff_ne.2 h5]; simp))
      have h5' : ¬ (s.extract 0 5).toList = [72, 84, 84, 80, 47] := h5
      clear h5
      go_enter Tryz.func74, Tryz.ntmps74
      go_wp2_with (go_at_call 100; refine (sdigit_any _ _).mono ?_; rintro e w' ⟨rfl, rfl⟩)
      go_quiet (fail)
      go_wp2
      go_ret2
      exact ⟨by rw [HF.out]; rfl, below_draws w _⟩
  · have HF := Lib.hid (verV_one (a := a) (b := b) (verForm_size s h8))
    have h8' : ((s.size : Int) != 8) = true := by simp; omega
    clear h8
    go_enter Tryz.func74, Tryz.ntmps74
    go_wp2_with (go_at_call 100; refine (sdigit_any _ _).mono ?_; rintro e w' ⟨rfl, rfl⟩)
    go_quiet (fail)
    go_wp2
    go_ret2
    exact ⟨by rw [HF.out]; rfl, below_draws w _⟩
theorem code_syn (a b : Addr) (m : Int) (w : World) (hE : StartEnv w a b m) :
    Calls Tryz.prog 75 #[faultV a] w fun e w' => e = .returned (.int .i64 1) ∧ Below w.heap.size w w' := by
  have HE := Lib.hid hE
  have hV := hE.ver
  clear hE
  go_enter Tryz.func75, Tryz.ntmps75
  go_wp2_with fail
  refine (is_other a b _ HE.out.ne HE.out.ba HE.out.bb).mono ?_
  rintro e w1 ⟨rfl, hb1⟩
  go_wp2_with fail
  go_ret
  exact ⟨rfl, hb1⟩
theorem code_ver (a b : Addr) (m : Int) (w : World) (hE : StartEnv w a b m) :
    Calls Tryz.prog 75 #[faultV b] w fun e w' => e = .returned (.int .i64 3) ∧ Below w.heap.size w w' := by
  have HE := Lib.hid hE
  have hV := hE.ver
  clear hE
  go_enter Tryz.func75, Tryz.ntmps75
  go_wp2_with fail
  refine (is_same b _).mono ?_
  rintro e w1 ⟨rfl, hb1⟩
  go_wp2_with fail
  go_ret
  exact ⟨rfl, hb1⟩
end Go.Proofs.YtfnmohaddkoalaaGreatDoor
