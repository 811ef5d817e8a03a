/- The reader of messages (layer 6): the framing fields where a Transfer-Encoding stands. -/
import Derived.Test.YtfnmohaddkoalaaGreatDoorQMsgW4
namespace Go.Proofs.YtfnmohaddkoalaaGreatDoor
open Go.RowKit Go.Shelf
set_option linter.unusedSimpArgs false
set_option linter.unusedVariables false

theorem frE_two (t u : ByteArray) (cs ls : List ByteArray) : frE (t :: u :: cs) ls = 7 := by cases ls <;> rfl
theorem frE_te0 {t : ByteArray} (ls : List ByteArray) (h : foldB (bs t) chN = false) : frE [t] ls = 7 := by
  cases ls with
  | nil => show (if foldB (bs t) chN = true then (0 : Int) else 7) = 7; rw [h]; rfl
  | cons x l => show (if foldB (bs t) chN = true then (8 : Int) else 7) = 7; rw [h]; rfl
set_option maxHeartbeats 1600000 in
theorem framing_any (T : TypeId) (w : World) (B g : Nat) (s : ByteArray) (a : Nat) (fs : List Fd) (ls cs : List ByteArray) (vf vl vc : Value) (rest : List Value)
    (R : RdAt T w B g s a fs ls cs vf vl vc rest) (hz : ∀ c ∈ ls, c.size ≤ 100000) (hz2 : ∀ c ∈ cs, c.size ≤ 100000) (hl : ls.length ≤ 1000) :
    Calls Tryz.prog 31 #[.pointer (some ⟨g, 0, none⟩)] w fun e w' => e = .returned (.int .i64 (frE cs ls)) ∧ Below w.heap.size w w' := by
  rcases cs with _ | ⟨t, _ | ⟨u, cs⟩⟩
  · exact framing_none T w B g s a fs ls vf vl vc rest R hz hl
  · obtain ⟨gc, cc, rfl, _, _, hA, _⟩ := R.c.form (by simp)
    have c4 := R.row.cell 4 rfl
    have c0 := hA 0 t rfl
    have zt := hz2 t (by simp)
    clear hA hz hz2
    cases hf : foldB (bs t) (bs chC) with
    | false =>
      have HE : Hid (frE [t] ls = 7) := Lib.hid (frE_te0 ls hf)
      go_enter Tryz.func31, Tryz.ntmps31
      go_wp2_with fail
      refine (fold_any t chC w (by omega) (by decide)).mono ?_
      rintro e w1 ⟨he, hb1⟩
      rw [hf] at he
      subst he
      go_wp2_with fail
      go_ret
      exact ⟨by rw [HE.out]; rfl, hb1⟩
    | true =>
      obtain ⟨n, hn⟩ : ∃ n, n = ls.length := ⟨_, rfl⟩
      obtain ⟨ol, cl, hv, _⟩ := R.l.shape
      rw [← hn] at hv
      subst hv
      have HE : Hid (frE [t] ls = if n = 0 then 0 else 8) := Lib.hid (by
        rw [hn]
        cases ls with
        | nil => show (if foldB (bs t) chN = true then (0 : Int) else 7) = _; rw [show foldB (bs t) chN = true from hf]; rfl
        | cons x l => show (if foldB (bs t) chN = true then (8 : Int) else 7) = _; rw [show foldB (bs t) chN = true from hf]; simp)
      clear hn
      go_enter Tryz.func31, Tryz.ntmps31
      go_wp2_with fail
      refine (fold_any t chC w (by omega) (by decide)).mono ?_
      rintro e w1 ⟨he, hb1⟩
      rw [hf] at he
      subst he
      have R1 := R.below hb1
      have d3 := R1.row.cell 3 rfl
      have d4 := R1.row.cell 4 rfl
      clear R R1 c4 c0
      rcases (show n = 0 ∨ n = 1 ∨ 1 < n from by omega) with rfl | rfl | h1
      · go_wp2_with fail
        refine wp_loop_rounds 1 ?_
        rw [rounds_succ]
        go_wp2_with fail
        go_ret
        exact ⟨by rw [HE.out]; rfl, hb1⟩
      · go_wp2_with fail
        go_ret
        exact ⟨by rw [HE.out]; rfl, hb1⟩
      · have h1' : 1 < (n : Int) := by omega
        have HE2 : Hid (frE [t] ls = 8) := Lib.hid (by rw [HE.out, if_neg (by omega)])
        go_wp2_with fail
        go_ret
        exact ⟨by rw [HE2.out]; rfl, hb1⟩
  · obtain ⟨n, hn⟩ : ∃ n, n = (t :: u :: cs).length := ⟨_, rfl⟩
    obtain ⟨ol, cl, hv, _⟩ := R.c.shape
    rw [← hn] at hv
    subst hv
    have hn2 : 1 < (n : Int) := by rw [hn]; simp only [List.length_cons]; omega
    have c4 := R.row.cell 4 rfl
    have HE := Lib.hid (frE_two t u cs ls)
    clear hn
    go_enter Tryz.func31, Tryz.ntmps31
    go_wp2_with fail
    go_ret
    exact ⟨by rw [HE.out]; rfl, Below.refl _ _⟩
end Go.Proofs.YtfnmohaddkoalaaGreatDoor
