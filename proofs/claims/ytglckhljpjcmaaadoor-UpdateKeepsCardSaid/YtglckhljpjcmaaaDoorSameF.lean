/- The walks of keep.Response and ref.SameFields, keep.SameResponse. -/
import Derived.Test.YtglckhljpjcmaaaDoorKeepF
import Derived.Test.YtglckhljpjcmaaaDoorRowW
import Derived.Laws.StructEq
import Derived.Deep.QuietTactic
import Derived.BigQuiet
namespace Go.Proofs.YtglckhljpjcmaaaDoor
open Go.RowKit

theorem step_b {w w1 w2 : World} (h : Below w.heap.size w w1) (h' : Below w1.heap.size w1 w2) : Below w.heap.size w w2 := h.trans (h'.mono h.size)
theorem alloc_b (w : World) (o : Obj) : Below w.heap.size w (w.alloc o) := (Below.refl _ _).alloc (Nat.le_refl _) _
/-- A response's cells. -/
abbrev respC (m st : Int) (rs : ByteArray) (oa : Option Addr) (n cap : Nat) (bd : ByteArray) : List Value := [.int .i64 m, .int .i64 st, .string rs, .slice oa n cap, .string bd]
abbrev respV (m st : Int) (rs : ByteArray) (oa : Option Addr) (n cap : Nat) (bd : ByteArray) : Value := .agg #[.int .i64 m, .int .i64 st, .string rs, .slice oa n cap, .string bd]
theorem resp_size : (Tryd.prog.info? 28).map (·.size) = some 5 := by kernel_rfl
def keepRB (rs bd : ByteArray) (xs : List Fd) : Bool := decide (rs.size ≤ 2100) && fieldsB xs && decide (bd.size ≤ 2000)
set_option maxHeartbeats 1600000 in
theorem keepR_any (m st : Int) (rs : ByteArray) (oa : Option Addr) (xs : List Fd) (cap : Nat) (bd : ByteArray) (w : World) (hn : xs.length ≤ 9223372036854775807) (hc : FldO w oa xs) :
    Calls Tryd.prog 6 #[respV m st rs oa xs.length cap bd] w fun e w' => e = .returned (.bool (keepRB rs bd xs)) ∧ Below w.heap.size w w' := by
  have HC := Lib.hid (hc.down (alloc_b w (.cells (respC m st rs oa xs.length cap bd).toArray 28)))
  clear hc
  by_cases h1 : rs.size ≤ 2100
  · have h1' : decide ((rs.size : Int) ≤ 2100) = true := by simp; omega
    cases hf : fieldsB xs with
    | true =>
      have HF := Lib.hid hf
      have HR : Hid (keepRB rs bd xs = decide ((bd.size : Int) ≤ 2000)) := Lib.hid (by
        unfold keepRB; rw [hf, decide_eq_true h1]; simp; omega)
      clear hf
      go_enter Tryd.func6, Tryd.ntmps6
      go_wp2_with fail
      refine (keepF_any oa xs cap _ hn HC.out).mono ?_
      rintro e w2 ⟨rfl, hw2⟩
      rw [HF.out]
      subst hw2
      go_wp2_with fail
      go_ret
      exact ⟨by rw [HR.out]; rfl, alloc_b w _⟩
    | false =>
      have HF := Lib.hid hf
      have HR : Hid (keepRB rs bd xs = false) := Lib.hid (by unfold keepRB; rw [hf]; simp)
      clear hf
      go_enter Tryd.func6, Tryd.ntmps6
      go_wp2_with fail
      refine (keepF_any oa xs cap _ hn HC.out).mono ?_
      rintro e w2 ⟨rfl, hw2⟩
      rw [HF.out]
      subst hw2
      go_wp2_with fail
      go_ret
      exact ⟨by rw [HR.out]; rfl, alloc_b w _⟩
  · have h1' : decide ((rs.size : Int) ≤ 2100) = false := by simp; omega
    have HR : Hid (keepRB rs bd xs = false) := Lib.hid (by unfold keepRB; rw [decide_eq_false h1]; rfl)
    go_enter Tryd.func6, Tryd.ntmps6
    go_wp2_with fail
    go_ret
    exact ⟨by rw [HR.out]; rfl, alloc_b w _⟩
/-- One field's struct, loaded. -/
theorem run_load_fd {w : World} {oa : Option Addr} {xs : List Fd} (h : FldO w oa xs) {i : Nat} {x : Fd} (hx : xs[i]? = some x) : ∃ ad : Addr, oa = some ad ∧ w.cell? (ad.add (i * 2)) = some (.string x.1) ∧ w.cell? ⟨(ad.add (i * 2)).block, (ad.add (i * 2)).off + 1, none⟩ = some (.string x.2) := h.at hx
set_option maxHeartbeats 3200000 in
theorem sameFields_any (oa ob : Option Addr) (xs : List Fd) (ca cb : Nat) (w : World) (hn : xs.length ≤ 1000000) (ha : FldO w oa xs) (hb : FldO w ob xs) :
    Calls Tryd.prog 30 #[.slice oa xs.length ca, .slice ob xs.length cb] w fun e w' => e = .returned (.bool true) ∧ Below w.heap.size w w' := by
  have HA := Lib.hid ha
  have HB := Lib.hid hb
  clear ha hb
  go_enter Tryd.func30, Tryd.ntmps30
  go_wp2_with fail
  go_loopw [5] (fun j wr => ∃ k : Nat, k ≤ xs.length ∧ j = .int .i64 k ∧ Below w.heap.size w wr) (fun j _ => xs.length - (intOf j).toNat)
  case atStart => exact ⟨0, by omega, rfl, Below.refl _ _⟩
  case round =>
    obtain ⟨k, hk, rfl, hb⟩ := hrel
    by_cases hlt : k < xs.length
    · obtain ⟨x, hx⟩ : ∃ x, xs[k]? = some x := ⟨_, List.getElem?_eq_getElem hlt⟩
      obtain ⟨ad, rfl, c0, c1⟩ := (HA.out.down hb).at hx
      obtain ⟨bd, rfl, d0, d1⟩ := (HB.out.down hb).at hx
      clear hx
      go_wp2_with fail
      go_quiet (fail)
      have b4 := below_drewN hb nq
      generalize wr.drewN nq = w4 at b4 ⊢
      go_wp2_with fail
      go_roundw
      case rel => exact ⟨k + 1, by omega, by go_num, b4⟩
      case measure => simp [intOf]; omega
    · go_wp2_with fail
      go_ret
      exact ⟨rfl, hb⟩
end Go.Proofs.YtglckhljpjcmaaaDoor
