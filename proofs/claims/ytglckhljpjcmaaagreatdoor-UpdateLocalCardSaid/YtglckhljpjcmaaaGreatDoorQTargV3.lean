/- The walk of Segments (4.3) in the reference, and of the scheme, sites, keys. -/
import Derived.Test.YtglckhljpjcmaaaGreatDoorQTargW3
import Derived.Test.YtglckhljpjcmaaaGreatDoorQTargW4
import Derived.Test.YtglckhljpjcmaaaGreatDoorQTargV1
import Derived.Test.YtglckhljpjcmaaaGreatDoorQPre
namespace Go.Proofs.YtglckhljpjcmaaaGreatDoor
open Go.RowKit

set_option maxHeartbeats 400000 in
theorem rscheme_any (s : ByteArray) (w : World) (hs : s.size ≤ 100000) :
    Calls Tryz.prog 25 #[.string s] w fun e w' => e = .returned (.bool (absB (bs s))) ∧ Below w.heap.size w w' := by
  by_cases h : 7 ≤ s.size
  · have HF : Hid (absB (bs s) = foldB (bs (s.extract 0 7)) (bs schemeT)) := Lib.hid (by
      unfold absB
      rw [bs_length, decide_eq_true h, extract_take]; rfl)
    have h' : decide (7 ≤ (s.size : Int)) = true := by simp; omega
    have hsz : (s.extract 0 7).size = 7 := by rw [ByteArray.size_extract]; omega
    obtain ⟨t, ht⟩ : ∃ t, t = s.extract 0 7 := ⟨_, rfl⟩
    have hsl : ∀ wx, (Instr.slice 9 (.string s) none (some (.int .i64 7)) none).run Tryz.prog wx = .ok (.string t) wx := fun wx => by
      rw [ht]; exact run_slice_string_h wx 9 s Tryz.underlying9 .i64 7 (by omega) (by omega)
    rw [← ht] at HF hsz
    clear ht
    go_enter Tryz.func25, Tryz.ntmps25
    go_wp2_with fail
    refine (rfold_any t schemeT _ (by omega) (show (7 : Nat) ≤ 9223372036854775807 by omega)).mono ?_
    rintro e w2 ⟨rfl, hb2⟩
    rw [← HF.out]
    go_wp2_with fail
    go_ret
    exact ⟨rfl, hb2⟩
  · have HF : Hid (absB (bs s) = false) := Lib.hid (by unfold absB; rw [bs_length, decide_eq_false h]; rfl)
    have h' : decide (7 ≤ (s.size : Int)) = false := by simp; omega
    clear h
    go_enter Tryz.func25, Tryz.ntmps25
    go_wp2_with fail
    go_ret
    exact ⟨by rw [HF.out]; rfl, Below.refl _ _⟩
set_option maxHeartbeats 1600000 in
theorem rsite_any (h : ByteArray) (n : Int) (p q : ByteArray) (b : Bool) (w : World) (hh : h.size ≤ 100000) (h0 : -9223372036854775808 ≤ n) (h1 : n ≤ 9223372036854775807) :
    Calls Tryz.prog 30 #[.agg #[.string h, .int .i64 n, .string p, .string q, .bool b]] w fun e w' => e = .returned (.string ⟨(siteL (bs h) n).toArray⟩) ∧ Below w.heap.size w w' := by
  by_cases hn : n = 80
  · have HF : Hid (siteL (bs h) n = bs h) := Lib.hid (by unfold siteL; rw [if_pos hn])
    have hn' : (n == 80) = true := by simp [hn]
    clear hn
    go_enter Tryz.func30, Tryz.ntmps30
    go_wp2_with fail
    go_ret
    exact ⟨by rw [HF.out]; rfl, below_alloc w _⟩
  · have HF : Hid (siteL (bs h) n = bs h ++ 58 :: Lib.itoa n) := Lib.hid (by unfold siteL; rw [if_neg hn])
    have hn' : (n == 80) = false := by simp [hn]
    have hil := itoa_len h0 h1
    obtain ⟨d, hd⟩ : ∃ d : ByteArray, d = ⟨(Lib.itoa n).toArray⟩ := ⟨_, rfl⟩
    have hdz : d.size ≤ 40 := by rw [hd]; exact hil
    obtain ⟨x1, hx1⟩ : ∃ x1 : ByteArray, x1 = h ++ ⟨#[58]⟩ := ⟨_, rfl⟩
    obtain ⟨x2, hx2⟩ : ∃ x2 : ByteArray, x2 = x1 ++ d := ⟨_, rfl⟩
    have zx1 : x1.size ≤ 100001 := by rw [hx1, ByteArray.size_append]; show h.size + 1 ≤ _; omega
    have s1 : ∀ wx, (Op.stringOp .add h ⟨#[58]⟩).run Tryz.prog wx = .ok (.string x1) wx := fun wx => by
      rw [hx1]; exact run_string_add_sum wx _ _ (by show h.size + 1 ≤ _; omega)
    have s2 : ∀ wx, (Op.stringOp .add x1 d).run Tryz.prog wx = .ok (.string x2) wx := fun wx => by
      rw [hx2]; exact run_string_add_sum wx _ _ (by omega)
    have HF2 : Hid (x2 = ⟨(siteL (bs h) n).toArray⟩) := Lib.hid (by
      rw [hx2, hx1, HF.out, hd]
      show (⟨(bs h).toArray⟩ : ByteArray) ++ ⟨([58] : List UInt8).toArray⟩ ++ _ = _
      rw [cat_mk, cat_mk, List.append_assoc]; rfl)
    have HD : Hid (∀ wx, Calls Tryz.prog 49 #[.int .i64 n] wx fun e w' => e = .returned (.string d) ∧ Below wx.heap.size wx w') := Lib.hid (by
      intro wx
      rw [hd]; exact rdecimal_any n wx h0 h1)
    clear hn hd hil HF hx1 hx2
    go_enter Tryz.func30, Tryz.ntmps30
    go_wp2_with fail
    have R1 := RowAt.new w (uriC h n p q b) 23
    have b1 := below_alloc w (.cells (uriC h n p q b).toArray 23)
    generalize w.alloc (.cells (uriC h n p q b).toArray 23) = w1 at R1 b1 ⊢
    have c0 := R1.cell 0 rfl
    have c2 := R1.cell 1 rfl
    have z1 := b1.size
    go_region_held3 (fun w' => w'.cell? ⟨w.heap.size, 0, none⟩ = some (.string h) ∧ w'.cell? ⟨w.heap.size, 1, none⟩ = some (.int .i64 n) ∧ Below w1.heap.size w1 w') (first | assumption | exact ⟨c0, c2, (Below.refl _ _).drew⟩ | (exact keep2 (by assumption) hb)) (first | (go_at_call 49; refine (HD.out w1.drew).mono ?_; rintro e w2 ⟨rfl, hb⟩))
    have hq : Below w1.heap.size w1 _ := And.right (And.right (by assumption))
    go_wp2_with fail
    go_ret
    exact ⟨by rw [← HF2.out]; rfl, below_step b1 hq⟩
set_option maxHeartbeats 1600000 in
theorem rlocal_any (h : ByteArray) (n : Int) (p q : ByteArray) (b : Bool) (w : World) (hp : p.size ≤ 100000) (hq : q.size ≤ 100000) :
    Calls Tryz.prog 31 #[.agg #[.string h, .int .i64 n, .string p, .string q, .bool b]] w fun e w' => e = .returned (.string ⟨(localL (mkU h n p q b)).toArray⟩) ∧ Below w.heap.size w w' := by
  obtain ⟨x1, hx1⟩ : ∃ x1 : ByteArray, x1 = p ++ ⟨#[63]⟩ := ⟨_, rfl⟩
  obtain ⟨x2, hx2⟩ : ∃ x2 : ByteArray, x2 = x1 ++ q := ⟨_, rfl⟩
  have zx1 : x1.size ≤ 100001 := by rw [hx1, ByteArray.size_append]; show p.size + 1 ≤ _; omega
  have s1 : ∀ wx, (Op.stringOp .add p ⟨#[63]⟩).run Tryz.prog wx = .ok (.string x1) wx := fun wx => by
    rw [hx1]; exact run_string_add_sum wx _ _ (by show p.size + 1 ≤ _; omega)
  have s2 : ∀ wx, (Op.stringOp .add x1 q).run Tryz.prog wx = .ok (.string x2) wx := fun wx => by
    rw [hx2]; exact run_string_add_sum wx _ _ (by omega)
  cases b with
  | true =>
    have HF : Hid (x2 = ⟨(localL (mkU h n p q true)).toArray⟩) := Lib.hid (by
      rw [hx2, hx1]
      show (⟨(bs p).toArray⟩ : ByteArray) ++ ⟨([63] : List UInt8).toArray⟩ ++ ⟨(bs q).toArray⟩ = _
      rw [cat_mk, cat_mk]
      unfold localL
      rw [if_pos rfl, List.append_assoc]; rfl)
    clear hx1 hx2
    go_enter Tryz.func31, Tryz.ntmps31
    go_wp2_with fail
    go_ret
    exact ⟨by rw [← HF.out]; rfl, below_alloc w _⟩
  | false =>
    have HF : Hid (p = ⟨(localL (mkU h n p q false)).toArray⟩) := Lib.hid (by unfold localL; rw [if_neg (by simp)])
    clear hx1 hx2
    go_enter Tryz.func31, Tryz.ntmps31
    go_wp2_with fail
    go_ret
    exact ⟨by rw [← HF.out]; rfl, below_alloc w _⟩
theorem local_len (u : Uri) : (localL u).length ≤ u.path.length + u.query.length + 1 := by unfold localL; split <;> (try simp) <;> omega
theorem hold5_draw {w1 : World} {a0 a1 a2 a3 a4 : Addr} {v0 v1 v2 v3 v4 : Value} (c0 : w1.cell? a0 = some v0) (c1 : w1.cell? a1 = some v1) (c2 : w1.cell? a2 = some v2) (c3 : w1.cell? a3 = some v3) (c4 : w1.cell? a4 = some v4) :
    w1.drew.cell? a0 = some v0 ∧ w1.drew.cell? a1 = some v1 ∧ w1.drew.cell? a2 = some v2 ∧ w1.drew.cell? a3 = some v3 ∧ w1.drew.cell? a4 = some v4 ∧ Below w1.heap.size w1 w1.drew := ⟨c0, c1, c2, c3, c4, (Below.refl _ _).drew⟩
set_option maxHeartbeats 1600000 in
theorem rkey_any (h : ByteArray) (n : Int) (p q : ByteArray) (b : Bool) (w : World) (hh : h.size ≤ 100000) (hp : p.size ≤ 100000) (hq : q.size ≤ 100000) (h0 : -9223372036854775808 ≤ n) (h1 : n ≤ 9223372036854775807) :
    Calls Tryz.prog 13 #[.agg #[.string h, .int .i64 n, .string p, .string q, .bool b]] w fun e w' => e = .returned (.string ⟨(keyL (mkU h n p q b)).toArray⟩) ∧ Below w.heap.size w w' := by
  have sl := site_len (h := bs h) h0 h1
  have ll := local_len (mkU h n p q b)
  simp only [bs_length] at sl ll
  obtain ⟨d, hd⟩ : ∃ d : ByteArray, d = ⟨(siteL (bs h) n).toArray⟩ := ⟨_, rfl⟩
  obtain ⟨l, hl⟩ : ∃ l : ByteArray, l = ⟨(localL (mkU h n p q b)).toArray⟩ := ⟨_, rfl⟩
  have hdb : bs d = siteL (bs h) n := by rw [hd]
  have hlb : bs l = localL (mkU h n p q b) := by rw [hl]
  have hdz : d.size ≤ 100041 := by rw [← bs_length, hdb]; omega
  have hlz : l.size ≤ 200001 := by rw [← bs_length, hlb]; omega
  have HD : Hid (∀ wx, Calls Tryz.prog 30 #[.agg #[.string h, .int .i64 n, .string p, .string q, .bool b]] wx fun e w' => e = .returned (.string d) ∧ Below wx.heap.size wx w') := Lib.hid (by
    intro wx
    rw [hd]; exact rsite_any h n p q b wx hh h0 h1)
  have HL : Hid (∀ wx, Calls Tryz.prog 31 #[.agg #[.string h, .int .i64 n, .string p, .string q, .bool b]] wx fun e w' => e = .returned (.string l) ∧ Below wx.heap.size wx w') := Lib.hid (by
    intro wx
    rw [hl]; exact rlocal_any h n p q b wx hp hq)
  obtain ⟨x1, hx1⟩ : ∃ x1 : ByteArray, x1 = schemeT ++ d := ⟨_, rfl⟩
  obtain ⟨x2, hx2⟩ : ∃ x2 : ByteArray, x2 = x1 ++ l := ⟨_, rfl⟩
  have zx1 : x1.size ≤ 200000 := by rw [hx1, ByteArray.size_append]; show 7 + d.size ≤ _; omega
  have s1 : ∀ wx, (Op.stringOp .add ⟨#[104, 116, 116, 112, 58, 47, 47]⟩ d).run Tryz.prog wx = .ok (.string x1) wx := fun wx => by
    rw [hx1]; exact run_string_add_sum wx _ _ (by show 7 + d.size ≤ _; omega)
  have s2 : ∀ wx, (Op.stringOp .add x1 l).run Tryz.prog wx = .ok (.string x2) wx := fun wx => by
    rw [hx2]; exact run_string_add_sum wx _ _ (by omega)
  have HF : Hid (x2 = ⟨(keyL (mkU h n p q b)).toArray⟩) := Lib.hid (by
    rw [hx2, hx1]
    show (⟨schemeL.toArray⟩ : ByteArray) ++ ⟨(bs d).toArray⟩ ++ ⟨(bs l).toArray⟩ = _
    rw [cat_mk, cat_mk, hdb, hlb]; rfl)
  clear hd hl hdb hlb hx1 hx2 sl ll
  go_enter Tryz.func13, Tryz.ntmps13
  go_wp2_with fail
  have R1 := RowAt.new w (uriC h n p q b) 23
  have b1 := below_alloc w (.cells (uriC h n p q b).toArray 23)
  generalize w.alloc (.cells (uriC h n p q b).toArray 23) = w1 at R1 b1 ⊢
  have c0 := R1.cell 0 rfl
  have c1 := R1.cell 1 rfl
  have c2 := R1.cell 2 rfl
  have c3 := R1.cell 3 rfl
  have c4 := R1.cell 4 rfl
  have z1 := b1.size
  go_region_held3 (fun w' => w'.cell? ⟨w.heap.size, 0, none⟩ = some (.string h) ∧ w'.cell? ⟨w.heap.size, 1, none⟩ = some (.int .i64 n) ∧ w'.cell? ⟨w.heap.size, 2, none⟩ = some (.string p) ∧ w'.cell? ⟨w.heap.size, 3, none⟩ = some (.string q) ∧ w'.cell? ⟨w.heap.size, 4, none⟩ = some (.bool b) ∧ Below w1.heap.size w1 w') (first | assumption | exact hold5_draw c0 c1 c2 c3 c4 | (exact keep5 (by assumption) hb)) (first | (go_at_call 30; refine (HD.out _).mono ?_; rintro e w2 ⟨rfl, hb⟩) | (go_at_call 31; refine (HL.out _).mono ?_; rintro e w2 ⟨rfl, hb⟩))
  all_goals
    have hq : Below w1.heap.size w1 w2 := And.right (And.right (And.right (And.right (And.right (by assumption)))))
    go_wp2_with fail
    go_ret
    exact ⟨by rw [← HF.out]; rfl, below_step b1 hq⟩
end Go.Proofs.YtglckhljpjcmaaaGreatDoor
