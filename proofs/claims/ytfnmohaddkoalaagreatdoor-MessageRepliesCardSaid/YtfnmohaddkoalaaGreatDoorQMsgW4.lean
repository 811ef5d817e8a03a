/- The reader of messages (layer 6): the framing fields. -/
import Derived.Test.YtfnmohaddkoalaaGreatDoorQMsgW3
import Derived.Test.YtfnmohaddkoalaaGreatDoorQNumW
namespace Go.Proofs.YtfnmohaddkoalaaGreatDoor
open Go.RowKit Go.Shelf
set_option linter.unusedSimpArgs false
set_option linter.unusedVariables false

abbrev chC : ByteArray := ⟨#[99, 104, 117, 110, 107, 101, 100]⟩
theorem frE_one (c : ByteArray) : frE [] [c] = if (numGo (bs c) 0).isSome ∧ bs c ≠ [] ∧ c.size ≤ 9 then 0 else 8 := rfl
theorem num_words (c : ByteArray) : ∃ (n : Int) (b : Bool), numV (bs c) = .tuple #[.int .i64 n, .bool b] ∧ frE [] [c] = if b = true ∧ c.size ≤ 9 then 0 else 8 := by
  rw [frE_one]
  unfold numV
  cases hn : numGo (bs c) 0 with
  | none => exact ⟨0, false, rfl, by rw [if_neg (fun h => absurd h.1 (by decide)), if_neg (fun h => absurd h.1 (by decide))]⟩
  | some n =>
    refine ⟨n, !(bs c).isEmpty, rfl, ?_⟩
    cases hb : bs c with
    | nil => rw [if_neg (fun h => h.2.1 rfl), if_neg (fun h => absurd h.1 (by decide))]
    | cons x l =>
      rw [hb] at hn
      by_cases h9 : c.size ≤ 9
      · rw [if_pos ⟨rfl, by simp, h9⟩, if_pos ⟨rfl, h9⟩]
      · rw [if_neg (fun h => h9 h.2.2), if_neg (fun h => h9 h.2)]
set_option maxHeartbeats 1600000 in
/-- The framing where no Transfer-Encoding stands. -/
theorem framing_none (T : TypeId) (w : World) (B g : Nat) (s : ByteArray) (a : Nat) (fs : List Fd) (ls : List ByteArray) (vf vl vc : Value) (rest : List Value)
    (R : RdAt T w B g s a fs ls [] vf vl vc rest) (hz : ∀ c ∈ ls, c.size ≤ 100000) (hl : ls.length ≤ 1000) :
    Calls Tryz.prog 31 #[.pointer (some ⟨g, 0, none⟩)] w fun e w' => e = .returned (.int .i64 (frE [] ls)) ∧ Below w.heap.size w w' := by
  obtain ⟨oc, cc, rfl, _⟩ := R.c.shape
  have c4 := R.row.cell 4 rfl
  rcases ls with _ | ⟨c, _ | ⟨d, ls⟩⟩
  · obtain ⟨ol, cl, rfl, _⟩ := R.l.shape
    have c3 := R.row.cell 3 rfl
    go_enter Tryz.func31, Tryz.ntmps31
    go_wp2_with fail
    refine wp_loop_rounds 1 ?_
    rw [rounds_succ]
    go_wp2_with fail
    go_ret
    exact ⟨rfl, Below.refl _ _⟩
  · obtain ⟨n, b, hv, hb⟩ := num_words c
    obtain ⟨gl, cl, rfl, _, _, hA, _⟩ := R.l.form (by simp)
    have c3 := R.row.cell 3 rfl
    have c0 := hA 0 c rfl
    have zc := hz c (by simp)
    have HN := Lib.hid (number_any c w (by omega))
    have HV := Lib.hid hv
    have HB := Lib.hid hb
    clear hv hb hA
    go_enter Tryz.func31, Tryz.ntmps31
    go_wp2_with fail
    refine wp_loop_rounds 2 ?_
    rw [rounds_succ]
    go_wp2_with fail
    refine HN.out.mono ?_
    rintro e w1 ⟨rfl, rfl⟩
    rw [HV.out]
    cases b with
    | false =>
      have HE : Hid (frE [] [c] = 8) := Lib.hid (by rw [HB.out]; simp)
      go_wp2_with fail
      go_ret
      exact ⟨by rw [HE.out]; rfl, Below.refl _ _⟩
    | true =>
      by_cases h9 : 9 < (c.size : Int)
      · have HE : Hid (frE [] [c] = 8) := Lib.hid (by rw [HB.out, if_neg (by simp; omega)])
        go_wp2_with fail
        go_ret
        exact ⟨by rw [HE.out]; rfl, Below.refl _ _⟩
      · have HE : Hid (frE [] [c] = 0) := Lib.hid (by rw [HB.out, if_pos (by simp; omega)])
        go_wp2_with fail
        rw [rounds_succ]
        go_wp2_with fail
        go_ret
        exact ⟨by rw [HE.out]; rfl, Below.refl _ _⟩
  · obtain ⟨n, hn⟩ : ∃ n, n = (c :: d :: ls).length := ⟨_, rfl⟩
    obtain ⟨ol, cl, hv, _⟩ := R.l.shape
    rw [← hn] at hv
    subst hv
    have hn2 : 1 < (n : Int) := by rw [hn]; simp only [List.length_cons]; omega
    have c3 := R.row.cell 3 rfl
    clear hn
    go_enter Tryz.func31, Tryz.ntmps31
    go_wp2_with fail
    go_ret
    exact ⟨rfl, Below.refl _ _⟩
end Go.Proofs.YtfnmohaddkoalaaGreatDoor
