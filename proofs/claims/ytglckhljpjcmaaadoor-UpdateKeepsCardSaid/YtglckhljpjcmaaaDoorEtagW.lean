/- The walks of the program's entity tags (layer 21): permitted, Parse, Format, Of. -/
import Derived.Test.YtglckhljpjcmaaaDoorEtagP
import Derived.Test.YtglckhljpjcmaaaDoorFline2
import Derived.Test.YtglckhljpjcmaaaDoorShelf
namespace Go.Proofs.YtglckhljpjcmaaaDoor
open Go.RowKit Go.Shelf

set_option maxHeartbeats 800000 in
theorem permitted_any (s : ByteArray) (w : World) (hs : s.size ≤ 9223372036854775807) :
    Calls Tryd.prog 61 #[.string s] w fun e w' => e = .returned (.bool (permB (bs s))) ∧ w = w' := by
  go_enter Tryd.func61, Tryd.ntmps61
  go_wp2
  go_loop [7] (fun j => ∃ k : Nat, k ≤ s.size ∧ j = .int .i64 k ∧ Hid ((bs s).all permC = ((bs s).drop k).all permC)) (fun j => s.size - (intOf j).toNat)
  case atStart => exact ⟨0, by omega, rfl, Lib.hid rfl⟩
  case round =>
    obtain ⟨k, hk, rfl, H⟩ := hrel
    by_cases hlt : k < s.size
    · have Hs := Lib.hid (all_step permC s hlt)
      by_cases h1 : s[k].toNat < 33
      · have hd := Lib.hid (permC_false (.inl h1))
        have k1 : (s[k].toNat : Int) < 33 := by omega
        clear h1
        go_wp2
        go_ret
        exact ⟨ret_bool (by unfold permB; rw [H.out, Hs.out, hd.out]; rfl), rfl⟩
      · have k1 : ¬ (s[k].toNat : Int) < 33 := by omega
        by_cases h2 : s[k].toNat = 34
        · have hd := Lib.hid (permC_false (.inr (.inl h2)))
          have k2 : ((s[k].toNat : Int) == 34) = true := by simp; omega
          clear h1 h2
          go_wp2
          go_ret
          exact ⟨ret_bool (by unfold permB; rw [H.out, Hs.out, hd.out]; rfl), rfl⟩
        · have k2 : ((s[k].toNat : Int) == 34) = false := by simp; omega
          by_cases h3 : s[k].toNat = 127
          · have hd := Lib.hid (permC_false (.inr (.inr h3)))
            have k3 : ((s[k].toNat : Int) == 127) = true := by simp; omega
            clear h1 h2 h3
            go_wp2
            go_ret
            exact ⟨ret_bool (by unfold permB; rw [H.out, Hs.out, hd.out]; rfl), rfl⟩
          · have hd := Lib.hid (permC_true h1 h2 h3)
            have k3 : ((s[k].toNat : Int) == 127) = false := by simp; omega
            clear h1 h2 h3
            go_wp2
            go_round
            case rel => exact ⟨k + 1, by omega, by go_num, Lib.hid (by rw [H.out, Hs.out, hd.out]; rfl)⟩
            case measure => simp [intOf]; omega
    · have He := Lib.hid (all_end permC s (k := k) (by omega))
      go_wp2
      go_ret
      exact ⟨ret_bool (by unfold permB; rw [H.out, He.out]), rfl⟩
abbrev etC (b : Bool) (t : ByteArray) : List Value := [.bool b, .string t]
theorem et_size : (Tryd.prog.info? 55).map (·.size) = some 2 := by kernel_rfl
theorem et_one (b : Bool) (t : ByteArray) : ∀ v ∈ etC b t, v.oneCell' = true := by intro v hv; simp at hv; rcases hv with rfl | rfl <;> rfl
/-- What CutPrefix hands back. -/
def CutW (s u : ByteArray) (wk : Bool) : Prop := ∀ w : World, Calls Tryd.prog 60 #[.string s, .string ⟨#[87, 47]⟩] w fun e w' => e = .returned (.tuple #[.string u, .bool wk]) ∧ w = w'
theorem cutW (s : ByteArray) : ∃ (u : ByteArray) (wk : Bool), CutW s u wk ∧ weakL (bs s) = (bs u, wk) ∧ u.size ≤ s.size := by
  refine ⟨⟨(Lib.trimPrefix (bs s) [87, 47]).toArray⟩, Lib.hasPrefix (bs s) [87, 47], fun w => (Tryd.strings_CutPrefix s ⟨#[87, 47]⟩ w).mono fun e w' ⟨h1, h2⟩ => ⟨h1, h2.symm⟩, ?_, ?_⟩
  · unfold weakL Lib.trimPrefix
    cases Lib.hasPrefix (bs s) [87, 47] <;> rfl
  · show (Lib.trimPrefix (bs s) [87, 47]).length ≤ _
    unfold Lib.trimPrefix
    rw [← bs_length]
    split
    · rw [List.length_drop]; omega
    · exact Nat.le_refl _
set_option maxHeartbeats 1600000 in
theorem etag_bad (s u : ByteArray) (wk : Bool) (w : World) (hC : CutW s u wk) (hu : u.size ≤ 9223372036854775807) (hq : quotB (bs u) = false) :
    Calls Tryd.prog 50 #[.string s] w fun e w' => e = .returned (etagV none) ∧ Below w.heap.size w w' := by
  have HC := Lib.hid hC
  have HQ := Lib.hid hq
  have R := RowAt.new w (etC false ⟨#[]⟩) 55
  have hb := alloc_b w (.cells #[.bool false, .string ⟨#[]⟩] 55)
  clear hC hq
  by_cases h2 : u.size < 2
  · have h2' : (u.size : Int) < 2 := by omega
    go_enter Tryd.func50, Tryd.ntmps50
    go_wp2_with fail
    refine (HC.out _).mono ?_
    rintro e w1 ⟨rfl, hw1⟩
    subst hw1
    go_wp2_with (refine wpList_store_row rfl _ 55 (.tmp 2) (.tmp 35) rfl w.heap.size 55 (etC false ⟨#[]⟩) (etC false ⟨#[]⟩) R rfl rfl rfl et_size (et_one _ _) ?_; intro w5 R5 f1 f2 f3)
    refine bodyPost_ret (results_row2 rfl _ _ w.heap.size 55 (etC false ⟨#[]⟩) R5 rfl _ Tryd.underlying55 et_size) rfl ?_
    exact ⟨rfl, hb.trans (f1 _ (Nat.le_refl _))⟩
  have h2' : ¬ (u.size : Int) < 2 := by omega
  have hn : 0 < u.size := by omega
  by_cases h0 : u[0] = 34
  · have q0 : ((u[0].toNat : Int) != 34) = false := u8_bf (n := 34) (by decide) h0
    have hl : u.size - 1 < u.size := by omega
    have e1 : ((u.size : Int) - 1).toNat = u.size - 1 := by omega
    by_cases h1 : u[u.size - 1] = 34
    · have q1 : ((u[u.size - 1].toNat : Int) != 34) = false := u8_bf (n := 34) (by decide) h1
      obtain ⟨t, ht⟩ : ∃ t, u.extract 1 (u.size - 1) = t := ⟨_, rfl⟩
      have htz : t.size ≤ 9223372036854775807 := by rw [← ht]; simp; omega
      have HP : Hid (permB (bs t) = false) := Lib.hid (by rw [← ht, ← quot_mid (by omega) hn hl (by rw [h0]; rfl) (by rw [h1]; rfl)]; exact HQ.out)
      clear h0 h1
      go_enter Tryd.func50, Tryd.ntmps50
      go_wp2_with fail
      refine (HC.out _).mono ?_
      rintro e w1 ⟨rfl, hw1⟩
      subst hw1
      go_wp2_with fail
      refine (permitted_any t _ htz).mono ?_
      rintro e w1 ⟨rfl, hw1⟩
      rw [HP.out]
      subst hw1
      go_wp2_with (refine wpList_store_row rfl _ 55 (.tmp 2) (.tmp 35) rfl w.heap.size 55 (etC false ⟨#[]⟩) (etC false ⟨#[]⟩) R rfl rfl rfl et_size (et_one _ _) ?_; intro w5 R5 f1 f2 f3)
      refine bodyPost_ret (results_row2 rfl _ _ w.heap.size 55 (etC false ⟨#[]⟩) R5 rfl _ Tryd.underlying55 et_size) rfl ?_
      exact ⟨rfl, hb.trans (f1 _ (Nat.le_refl _))⟩
    · have q1 : ((u[u.size - 1].toNat : Int) != 34) = true := u8_bt (n := 34) (by decide) h1
      clear h0 h1
      go_enter Tryd.func50, Tryd.ntmps50
      go_wp2_with fail
      refine (HC.out _).mono ?_
      rintro e w1 ⟨rfl, hw1⟩
      subst hw1
      go_wp2_with (refine wpList_store_row rfl _ 55 (.tmp 2) (.tmp 35) rfl w.heap.size 55 (etC false ⟨#[]⟩) (etC false ⟨#[]⟩) R rfl rfl rfl et_size (et_one _ _) ?_; intro w5 R5 f1 f2 f3)
      refine bodyPost_ret (results_row2 rfl _ _ w.heap.size 55 (etC false ⟨#[]⟩) R5 rfl _ Tryd.underlying55 et_size) rfl ?_
      exact ⟨rfl, hb.trans (f1 _ (Nat.le_refl _))⟩
  · have q0 : ((u[0].toNat : Int) != 34) = true := u8_bt (n := 34) (by decide) h0
    clear h0
    go_enter Tryd.func50, Tryd.ntmps50
    go_wp2_with fail
    refine (HC.out _).mono ?_
    rintro e w1 ⟨rfl, hw1⟩
    subst hw1
    go_wp2_with (refine wpList_store_row rfl _ 55 (.tmp 2) (.tmp 35) rfl w.heap.size 55 (etC false ⟨#[]⟩) (etC false ⟨#[]⟩) R rfl rfl rfl et_size (et_one _ _) ?_; intro w5 R5 f1 f2 f3)
    refine bodyPost_ret (results_row2 rfl _ _ w.heap.size 55 (etC false ⟨#[]⟩) R5 rfl _ Tryd.underlying55 et_size) rfl ?_
    exact ⟨rfl, hb.trans (f1 _ (Nat.le_refl _))⟩
set_option maxHeartbeats 1600000 in
theorem etag_good (s u : ByteArray) (wk : Bool) (w : World) (hC : CutW s u wk) (hu : u.size ≤ 9223372036854775807) (hq : quotB (bs u) = true) :
    Calls Tryd.prog 50 #[.string s] w fun e w' => e = .returned (etagV (some (wk, bs (u.extract 1 (u.size - 1))))) ∧ Below w.heap.size w w' := by
  have HC := Lib.hid hC
  have R := RowAt.new w (etC false ⟨#[]⟩) 55
  have hb := alloc_b w (.cells #[.bool false, .string ⟨#[]⟩] 55)
  have h2 : ¬ u.size < 2 := fun h => by rw [quot_short h] at hq; cases hq
  have h2' : ¬ (u.size : Int) < 2 := by omega
  have hn : 0 < u.size := by omega
  have hl : u.size - 1 < u.size := by omega
  have g0 : (u[0]'hn).toNat = 34 := Decidable.byContradiction fun h => by rw [quot_first hn h] at hq; cases hq
  have g1 : (u[u.size - 1]'hl).toNat = 34 := Decidable.byContradiction fun h => by rw [quot_end hl h] at hq; cases hq
  have q0 : ((u[0].toNat : Int) != 34) = false := by rw [g0]; rfl
  have q1 : ((u[u.size - 1].toNat : Int) != 34) = false := by rw [g1]; rfl
  have e1 : ((u.size : Int) - 1).toNat = u.size - 1 := by omega
  have hp := quot_mid (by omega) hn hl g0 g1
  obtain ⟨t, ht⟩ : ∃ t, u.extract 1 (u.size - 1) = t := ⟨_, rfl⟩
  have htz : t.size ≤ 9223372036854775807 := by rw [← ht]; simp; omega
  have HP : Hid (permB (bs t) = true) := Lib.hid (by rw [← ht, ← hp]; exact hq)
  rw [ht]
  clear hC hq hp g0 g1
  go_enter Tryd.func50, Tryd.ntmps50
  go_wp2_with fail
  refine (HC.out _).mono ?_
  rintro e w1 ⟨rfl, hw1⟩
  subst hw1
  go_wp2_with fail
  refine (permitted_any t _ htz).mono ?_
  rintro e w1 ⟨rfl, hw1⟩
  rw [HP.out]
  subst hw1
  go_wp2_with (refine wpList_store_row rfl _ 55 (.tmp 2) (.tmp 42) rfl w.heap.size 55 (etC false ⟨#[]⟩) (etC wk t) R rfl rfl rfl et_size (et_one _ _) ?_; intro w5 R5 f1 f2 f3)
  refine bodyPost_ret (results_row2 rfl _ _ w.heap.size 55 (etC wk t) R5 rfl _ Tryd.underlying55 et_size) rfl ?_
  exact ⟨rfl, hb.trans (f1 _ (Nat.le_refl _))⟩
theorem etag_any (s : ByteArray) (w : World) (hs : s.size ≤ 9223372036854775807) :
    Calls Tryd.prog 50 #[.string s] w fun e w' => e = .returned (etagV (etagL (bs s))) ∧ Below w.heap.size w w' := by
  obtain ⟨u, wk, hC, hw, hz⟩ := cutW s
  unfold etagL
  rw [hw]
  cases hq : quotB (bs u) with
  | false => exact etag_bad s u wk w hC (by omega) hq
  | true =>
    show Calls _ _ _ _ fun e w' => e = .returned (etagV (some (wk, ((bs u).drop 1).take ((bs u).length - 2)))) ∧ _
    rw [bs_mid]
    exact etag_good s u wk w hC (by omega) hq
end Go.Proofs.YtglckhljpjcmaaaDoor
