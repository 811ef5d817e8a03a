/- The walks of the program's fields by name (layer 3): named, filter, Get, Has, First, Remove. -/
import Derived.Test.YtfnmohaddkoalaaDoorQFldB
import Derived.Test.YtfnmohaddkoalaaDoorQLowA
import Derived.Test.YtfnmohaddkoalaaDoorQSBuf
import Derived.Deep.RegionHeld3
import Derived.Shelf.Abstract
namespace Go.Proofs.YtfnmohaddkoalaaDoor
open Go.RowKit Go.Shelf

theorem ftake_keep {α : Type} {p : α → Bool} {xs : List α} {k : Nat} {x : α} (hx : xs[k]? = some x) (h : p x = true) : (xs.take (k + 1)).filter p = (xs.take k).filter p ++ [x] := by
  obtain ⟨hk, he⟩ := List.getElem?_eq_some_iff.1 hx
  rw [List.take_succ_eq_append_getElem hk, List.filter_append, he, List.filter_cons_of_pos h]; rfl
theorem ftake_skip {α : Type} {p : α → Bool} {xs : List α} {k : Nat} {x : α} (hx : xs[k]? = some x) (h : p x = false) : (xs.take (k + 1)).filter p = (xs.take k).filter p := by
  obtain ⟨hk, he⟩ := List.getElem?_eq_some_iff.1 hx
  rw [List.take_succ_eq_append_getElem hk, List.filter_append, he, List.filter_cons_of_neg (by rw [h]; simp)]; simp
/-- A field has this name. -/
def isF (n : List UInt8) (x : Fd) : Bool := foldB (bs x.1) n
def getF (n : List UInt8) (xs : List Fd) : List ByteArray := (xs.filter (isF n)).map (·.2)
/-- What is asked of a function value that tests a field. -/
def FPred (g : Nat) (lb : Array Value) (p : Fd → Bool) (w : World) : Prop :=
  ∀ (W : World) (x : Fd), Below w.heap.size w W → x.1.size ≤ 1000000 → Calls Tryd.prog g (#[.agg #[.string x.1, .string x.2]] ++ lb) W fun e w' => e = .returned (.bool (p x)) ∧ Below W.heap.size W w'
theorem isF_len {n : List UInt8} {x : Fd} (h : ¬ x.1.size = n.length) : isF n x = false := by
  unfold isF foldB
  rw [decide_eq_false (by rw [bs_length]; exact h)]; rfl
theorem isF_low {n : List UInt8} {x : Fd} (h : x.1.size = n.length) : isF n x = (lowL (bs x.1) == lowL n) := by
  unfold isF foldB
  rw [decide_eq_true (by rw [bs_length]; exact h)]; rfl
set_option maxHeartbeats 1600000 in
theorem filter_any (oa : Option Addr) (xs : List Fd) (cap : Nat) (g : Nat) (lb : Array Value) (p : Fd → Bool) (w : World) (eg : ∀ args w, (callFunc g args).run Tryd.prog w = .ok (.enter g args) w) (hp : FPred g lb p w)
    (hn : xs.length ≤ 100000) (hz : FldZ xs 100000) (hc : FldO w oa xs) :
    Calls Tryd.prog 59 #[.slice oa xs.length cap, .func (.func g) #[] lb] w fun e w' => ∃ v, e = .returned v ∧ FBuf w' w.heap.size v (xs.filter p) ∧ Below w.heap.size w w' := by
  have HC := Lib.hid hc
  have HZ := Lib.hid hz
  have HP := Lib.hid hp
  clear hc hz hp
  go_enter Tryd.func59, Tryd.ntmps59
  go_wp2_with fail
  go_loopw [5, 10] (fun v j wr => ∃ (k : Nat) (ys : List Fd), k ≤ xs.length ∧ j = .int .i64 k ∧ Hid (ys = (xs.take k).filter p) ∧ ys.length ≤ k ∧ FBuf wr w.heap.size v ys ∧ Below w.heap.size w wr) (fun _ j _ => xs.length - (intOf j).toNat)
  case atStart => exact ⟨0, [], by omega, rfl, Lib.hid rfl, by simp, FBuf.nil_ _ _, Below.refl _ _⟩
  case round =>
    obtain ⟨k, ys, hk, rfl, HY, hyl, FB, hb⟩ := hrel
    by_cases hlt : k < xs.length
    · obtain ⟨x, hx⟩ : ∃ x, xs[k]? = some x := ⟨_, List.getElem?_eq_getElem hlt⟩
      obtain ⟨ad, rfl, c0, c1⟩ := (HC.out.down hb).at hx
      have zx := (HZ.out x (List.mem_of_getElem? hx)).1
      have hl10 : ys.length + 1 ≤ 1000000 := by omega
      have HCL := Lib.hid (HP.out (wr.alloc (.cells #[.string x.1, .string x.2] 29)) x (hb.alloc hb.size _) (by omega))
      cases hkp : p x with
      | true =>
        rw [hkp] at HCL
        have HS := Lib.hid (ftake_keep hx hkp)
        clear hx hkp
        go_wp2_with fail
        refine HCL.out.mono ?_
        rintro e w4 ⟨rfl, bb⟩
        have F4 := (RowAt.new wr [.string x.1, .string x.2] 29).below bb
        have FB4 := (FB.alloc _).below bb (Nat.le_refl _)
        have b4 := step_b (hb.alloc hb.size _) bb
        have z4 : w.heap.size ≤ w4.heap.size := b4.size
        clear bb FB hb c0 c1 HCL
        have e0 := F4.cell 0 rfl
        have e1 := F4.cell 1 rfl
        go_wp2_with (at_builtin; refine wpList_append_fld rfl (.tmp 17) (.tmp 19) rfl w _ w.heap.size _ ys rfl (FB4.alloc _) (b4.alloc z4 _) (le_alloc z4 _) ⟨w4.heap.size, 0, none⟩ x rfl (new_f0 w4 x _) (new_f1 w4 x _) hl10 ?_)
        intro v5 w5 FB5 hb5 z5
        clear FB4 F4 b4 z4 e0 e1
        go_wp2_with fail
        go_roundw
        case rel => exact ⟨k + 1, ys ++ [x], by omega, by go_num, Lib.hid (by rw [HS.out, HY.out]), by simp; omega, FB5, hb5⟩
        case measure => simp [intOf]; omega
      | false =>
        rw [hkp] at HCL
        have HS := Lib.hid (ftake_skip hx hkp)
        clear hx hkp
        go_wp2_with fail
        refine HCL.out.mono ?_
        rintro e w4 ⟨rfl, bb⟩
        have FB4 := (FB.alloc _).below bb (Nat.le_refl _)
        have b4 := step_b (hb.alloc hb.size _) bb
        clear bb FB hb c0 c1 HCL
        go_wp2_with fail
        go_roundw
        case rel => exact ⟨k + 1, ys, by omega, by go_num, Lib.hid (by rw [HS.out]; exact HY.out), by omega, FB4, b4⟩
        case measure => simp [intOf]; omega
    · have HF : Hid (xs.filter p = ys) := Lib.hid (by rw [HY.out, List.take_of_length_le (by omega)])
      go_wp2_with fail
      go_ret
      exact ⟨_, rfl, by rw [HF.out]; exact FB, hb⟩
set_option maxHeartbeats 800000 in
theorem named_any (s : ByteArray) (w : World) (hs : s.size ≤ 9223372036854775807) :
    Calls Tryd.prog 60 #[.string s] w fun e w' => e = .returned (.func (.func 80) #[] #[.pointer (some ⟨w.heap.size, 0, none⟩)]) ∧ w'.cell? ⟨w.heap.size, 0, none⟩ = some (.string ⟨(lowL (bs s)).toArray⟩) ∧ w.heap.size < w'.heap.size ∧ Below w.heap.size w w' := by
  go_enter Tryd.func60, Tryd.ntmps60
  go_wp2_with fail
  refine (lower_any s _ hs).mono ?_
  rintro e w1 ⟨rfl, hb⟩
  have R1 := (RowAt.new w [.string s] 9).below hb
  have b1 := step_b (alloc_b w _) hb
  have z1 := R1.lt
  have c1 := R1.cell 0 rfl
  have f1 := R1.free 0
  have R2 := R1.set 0 (.string ⟨(lowL (bs s)).toArray⟩)
  have b2 := b1.setCell (p := ⟨w.heap.size, 0, none⟩) (Nat.le_refl _) (.string ⟨(lowL (bs s)).toArray⟩)
  clear hb b1
  go_wp2_with fail
  go_ret
  exact ⟨rfl, R2.cell 0 rfl, by simpa using z1, b2⟩
end Go.Proofs.YtfnmohaddkoalaaDoor
