/- The walks of the rest of layer 4 (target): the scheme, Parse, keys, references. -/
import Derived.Test.YtglckhljpjcmaaaGreatDoorQTargW1
import Derived.Test.YtglckhljpjcmaaaGreatDoorQPre
import Derived.Deep.QuietTactic
import Derived.BigQuiet
namespace Go.Proofs.YtglckhljpjcmaaaGreatDoor
open Go.RowKit

abbrev schemeT : ByteArray := ⟨#[104, 116, 116, 112, 58, 47, 47]⟩
theorem extract_take (s : ByteArray) (i : Nat) : bs (s.extract 0 i) = (bs s).take i := by unfold bs; rw [Lib.extract_data]; simp
theorem extract_from (s : ByteArray) (i : Nat) : bs (s.extract i s.size) = (bs s).drop i := by
  unfold bs; rw [Lib.extract_data]
  exact List.take_of_length_le (by rw [List.length_drop, ← Lib.size_eq]; exact Nat.le_refl _)
set_option maxHeartbeats 400000 in
theorem absolute_any (s : ByteArray) (w : World) (hs : s.size ≤ 100000) :
    Calls Tryz.prog 34 #[.string s] w fun e w' => e = .returned (.bool (absB (bs s))) ∧ Below w.heap.size w w' := by
  by_cases h : 7 ≤ s.size
  · have HF : Hid (absB (bs s) = foldB (bs (s.extract 0 7)) (bs schemeT)) := Lib.hid (by
      unfold absB
      rw [bs_length, decide_eq_true h, extract_take]; rfl)
    have h' : decide (7 ≤ (s.size : Int)) = true := by simp; omega
    have hsz : (s.extract 0 7).size = 7 := by rw [ByteArray.size_extract]; omega
    obtain ⟨t, ht⟩ : ∃ t, t = s.extract 0 7 := ⟨_, rfl⟩
    have hsl : ∀ wx, (Instr.slice 9 (.string s) none (some (.int .i64 7)) none).run Tryz.prog wx = .ok (.string t) wx := fun wx => by
      rw [ht]; exact run_slice_string_h wx 9 s Tryz.underlying9 .i64 7 (by omega) (by omega)
    rw [← ht] at HF hsz
    clear ht
    go_enter Tryz.func34, Tryz.ntmps34
    go_wp2_with fail
    refine (fold_any t schemeT _ (by omega) (show (7 : Nat) ≤ 9223372036854775807 by omega)).mono ?_
    rintro e w2 ⟨rfl, hb2⟩
    rw [← HF.out]
    go_wp2_with fail
    go_ret
    exact ⟨rfl, hb2⟩
  · have HF : Hid (absB (bs s) = false) := Lib.hid (by unfold absB; rw [bs_length, decide_eq_false h]; rfl)
    have h' : decide (7 ≤ (s.size : Int)) = false := by simp; omega
    clear h
    go_enter Tryz.func34, Tryz.ntmps34
    go_wp2_with fail
    go_ret
    exact ⟨by rw [HF.out]; rfl, Below.refl _ _⟩
theorem cell_blt {w : World} {p : Addr} {v : Value} (h : w.cell? p = some v) : p.block < w.heap.size := World.block_lt_of_cell? _ _ h
theorem keep2 {w1 w2 w3 : World} {a0 a1 : Addr} {v0 v1 : Value} (h : w2.cell? a0 = some v0 ∧ w2.cell? a1 = some v1 ∧ Below w1.heap.size w1 w2) (hb : Below w2.heap.size w2 w3) : w3.cell? a0 = some v0 ∧ w3.cell? a1 = some v1 ∧ Below w1.heap.size w1 w3 :=
  ⟨(hb.cell (cell_blt h.1)).trans h.1, (hb.cell (cell_blt h.2.1)).trans h.2.1, below_step h.2.2 hb⟩
/-- A URI's cells. -/
abbrev uriC (h : ByteArray) (n : Int) (p q : ByteArray) (b : Bool) : List Value := [.string h, .int .i64 n, .string p, .string q, .bool b]
theorem uri_size : (Tryz.prog.info? 23).map (·.size) = some 5 := by kernel_rfl
set_option maxHeartbeats 1600000 in
theorem site_any (h : ByteArray) (n : Int) (p q : ByteArray) (b : Bool) (w : World) (hh : h.size ≤ 100000) (h0 : -9223372036854775808 ≤ n) (h1 : n ≤ 9223372036854775807) (hT : PowTab w) :
    Calls Tryz.prog 32 #[.agg #[.string h, .int .i64 n, .string p, .string q, .bool b]] w fun e w' => e = .returned (.string ⟨(siteL (bs h) n).toArray⟩) ∧ Below w.heap.size w w' := by
  have HT := Lib.hid (hT.below (below_alloc w (.cells #[.string h, .int .i64 n, .string p, .string q, .bool b] 23)))
  clear hT
  by_cases hn : n = 80
  · have HF : Hid (siteL (bs h) n = bs h) := Lib.hid (by unfold siteL; rw [if_pos hn])
    have hn' : (n == 80) = true := by simp [hn]
    clear hn
    go_enter Tryz.func32, Tryz.ntmps32
    go_wp2_with fail
    go_ret
    exact ⟨by rw [HF.out]; rfl, below_alloc w _⟩
  · have HF : Hid (siteL (bs h) n = bs h ++ 58 :: Lib.itoa n) := Lib.hid (by unfold siteL; rw [if_neg hn])
    have hn' : (n == 80) = false := by simp [hn]
    have hil := itoa_len h0 h1
    obtain ⟨d, hd⟩ : ∃ d : ByteArray, d = ⟨(Lib.itoa n).toArray⟩ := ⟨_, rfl⟩
    have hdz : d.size ≤ 40 := by rw [hd]; exact hil
    obtain ⟨x1, hx1⟩ : ∃ x1 : ByteArray, x1 = h ++ ⟨#[58]⟩ := ⟨_, rfl⟩
    obtain ⟨x2, hx2⟩ : ∃ x2 : ByteArray, x2 = x1 ++ d := ⟨_, rfl⟩
    have zx1 : x1.size ≤ 100001 := by rw [hx1, ByteArray.size_append]; show h.size + 1 ≤ _; omega
    have s1 : ∀ wx, (Op.stringOp .add h ⟨#[58]⟩).run Tryz.prog wx = .ok (.string x1) wx := fun wx => by
      rw [hx1]; exact run_string_add_sum wx _ _ (by show h.size + 1 ≤ _; omega)
    have s2 : ∀ wx, (Op.stringOp .add x1 d).run Tryz.prog wx = .ok (.string x2) wx := fun wx => by
      rw [hx2]; exact run_string_add_sum wx _ _ (by omega)
    have HF2 : Hid (x2 = ⟨(siteL (bs h) n).toArray⟩) := Lib.hid (by
      rw [hx2, hx1, HF.out, hd]
      show (⟨(bs h).toArray⟩ : ByteArray) ++ ⟨([58] : List UInt8).toArray⟩ ++ _ = _
      rw [cat_mk, cat_mk, List.append_assoc]; rfl)
    have HD : Hid (∀ wx, PowTab wx → Calls Tryz.prog 50 #[.int .i64 n] wx fun e w' => e = .returned (.string d) ∧ Below wx.heap.size wx w') := Lib.hid (by
      intro wx hx
      rw [hd]; exact decimal_any n wx h0 h1 hx)
    clear hn hd hil HF hx1 hx2
    go_enter Tryz.func32, Tryz.ntmps32
    go_wp2_with fail
    have R1 := RowAt.new w (uriC h n p q b) 23
    have b1 := below_alloc w (.cells (uriC h n p q b).toArray 23)
    generalize w.alloc (.cells (uriC h n p q b).toArray 23) = w1 at R1 b1 HT ⊢
    have c0 := R1.cell 0 rfl
    have c2 := R1.cell 1 rfl
    have z1 := b1.size
    go_region_held3 (fun w' => w'.cell? ⟨w.heap.size, 0, none⟩ = some (.string h) ∧ w'.cell? ⟨w.heap.size, 1, none⟩ = some (.int .i64 n) ∧ Below w1.heap.size w1 w') (first | assumption | exact ⟨c0, c2, (Below.refl _ _).drew⟩ | (exact keep2 (by assumption) hb)) (first | (go_at_call 50; refine (HD.out w1.drew HT.out).mono ?_; rintro e w2 ⟨rfl, hb⟩))
    have hq : Below w1.heap.size w1 _ := And.right (And.right (by assumption))
    go_wp2_with fail
    go_ret
    exact ⟨by rw [← HF2.out]; rfl, below_step b1 hq⟩
theorem keep5 {w1 w2 w3 : World} {a0 a1 a2 a3 a4 : Addr} {v0 v1 v2 v3 v4 : Value} (h : w2.cell? a0 = some v0 ∧ w2.cell? a1 = some v1 ∧ w2.cell? a2 = some v2 ∧ w2.cell? a3 = some v3 ∧ w2.cell? a4 = some v4 ∧ Below w1.heap.size w1 w2) (hb : Below w2.heap.size w2 w3) :
    w3.cell? a0 = some v0 ∧ w3.cell? a1 = some v1 ∧ w3.cell? a2 = some v2 ∧ w3.cell? a3 = some v3 ∧ w3.cell? a4 = some v4 ∧ Below w1.heap.size w1 w3 :=
  ⟨(hb.cell (cell_blt h.1)).trans h.1, (hb.cell (cell_blt h.2.1)).trans h.2.1, (hb.cell (cell_blt h.2.2.1)).trans h.2.2.1, (hb.cell (cell_blt h.2.2.2.1)).trans h.2.2.2.1, (hb.cell (cell_blt h.2.2.2.2.1)).trans h.2.2.2.2.1, below_step h.2.2.2.2.2 hb⟩
theorem site_len {h : List UInt8} {n : Int} (h0 : -9223372036854775808 ≤ n) (h1 : n ≤ 9223372036854775807) : (siteL h n).length ≤ h.length + 41 := by
  have := itoa_len h0 h1
  unfold siteL
  split
  · omega
  · simp; omega
/-- A URI as the walks carry it. -/
abbrev mkU (h : ByteArray) (n : Int) (p q : ByteArray) (b : Bool) : Uri := ⟨bs h, n, bs p, bs q, b⟩
set_option maxHeartbeats 1600000 in
theorem key_any (h : ByteArray) (n : Int) (p q : ByteArray) (b : Bool) (w : World) (hh : h.size ≤ 100000) (hp : p.size ≤ 100000) (hq : q.size ≤ 100000) (h0 : -9223372036854775808 ≤ n) (h1 : n ≤ 9223372036854775807) (hT : PowTab w) :
    Calls Tryz.prog 16 #[.agg #[.string h, .int .i64 n, .string p, .string q, .bool b]] w fun e w' => e = .returned (.string ⟨(keyL (mkU h n p q b)).toArray⟩) ∧ Below w.heap.size w w' := by
  have HT := Lib.hid (hT.below (below_alloc w (.cells #[.string h, .int .i64 n, .string p, .string q, .bool b] 23)))
  clear hT
  have sl := site_len (h := bs h) h0 h1
  rw [bs_length] at sl
  obtain ⟨d, hd⟩ : ∃ d : ByteArray, d = ⟨(siteL (bs h) n).toArray⟩ := ⟨_, rfl⟩
  have hdb : bs d = siteL (bs h) n := by rw [hd]
  have hdz : d.size ≤ 100041 := by rw [← bs_length, hdb]; omega
  have HD : Hid (∀ wx, PowTab wx → Calls Tryz.prog 32 #[.agg #[.string h, .int .i64 n, .string p, .string q, .bool b]] wx fun e w' => e = .returned (.string d) ∧ Below wx.heap.size wx w') := Lib.hid (by
    intro wx hx
    rw [hd]; exact site_any h n p q b wx hh h0 h1 hx)
  obtain ⟨x1, hx1⟩ : ∃ x1 : ByteArray, x1 = schemeT ++ d := ⟨_, rfl⟩
  obtain ⟨x2, hx2⟩ : ∃ x2 : ByteArray, x2 = x1 ++ p := ⟨_, rfl⟩
  obtain ⟨x3, hx3⟩ : ∃ x3 : ByteArray, x3 = (⟨#[63]⟩ : ByteArray) ++ q := ⟨_, rfl⟩
  obtain ⟨x4, hx4⟩ : ∃ x4 : ByteArray, x4 = x2 ++ x3 := ⟨_, rfl⟩
  have zx1 : x1.size ≤ 200000 := by rw [hx1, ByteArray.size_append]; show 7 + d.size ≤ _; omega
  have zx2 : x2.size ≤ 300000 := by rw [hx2, ByteArray.size_append]; omega
  have zx3 : x3.size ≤ 100001 := by rw [hx3, ByteArray.size_append]; show 1 + q.size ≤ _; omega
  have s1 : ∀ wx, (Op.stringOp .add ⟨#[104, 116, 116, 112, 58, 47, 47]⟩ d).run Tryz.prog wx = .ok (.string x1) wx := fun wx => by
    rw [hx1]; exact run_string_add_sum wx _ _ (by show 7 + d.size ≤ _; omega)
  have s2 : ∀ wx, (Op.stringOp .add x1 p).run Tryz.prog wx = .ok (.string x2) wx := fun wx => by
    rw [hx2]; exact run_string_add_sum wx _ _ (by omega)
  have s3 : ∀ wx, (Op.stringOp .add ⟨#[63]⟩ q).run Tryz.prog wx = .ok (.string x3) wx := fun wx => by
    rw [hx3]; exact run_string_add_sum wx _ _ (by show 1 + q.size ≤ _; omega)
  have s4 : ∀ wx, (Op.stringOp .add x2 x3).run Tryz.prog wx = .ok (.string x4) wx := fun wx => by
    rw [hx4]; exact run_string_add_sum wx _ _ (by omega)
  have e2 : bs x2 = schemeL ++ siteL (bs h) n ++ bs p := by
    rw [hx2, hx1]
    show bs (⟨schemeL.toArray⟩ ++ ⟨(bs d).toArray⟩ ++ ⟨(bs p).toArray⟩) = _
    rw [cat_mk, cat_mk, hdb]
  have e4 : bs x4 = bs x2 ++ 63 :: bs q := by
    rw [hx4, hx3]
    show bs (⟨(bs x2).toArray⟩ ++ (⟨([63] : List UInt8).toArray⟩ ++ ⟨(bs q).toArray⟩)) = _
    rw [cat_mk, cat_mk]; rfl
  have HF : Hid ((if b then x4 else x2) = ⟨(keyL (mkU h n p q b)).toArray⟩) := Lib.hid (by
    have ek : keyL (mkU h n p q b) = if b then bs x4 else bs x2 := by
      unfold keyL localL
      cases b with
      | true => rw [if_pos rfl, if_pos rfl, e4, e2]; simp
      | false => rw [if_neg (by simp), if_neg (by simp), e2]
    rw [ek]
    cases b <;> rfl)
  clear hd hdb hx1 hx2 hx3 hx4 e2 e4 sl
  go_enter Tryz.func16, Tryz.ntmps16
  go_wp2_with fail
  have R1 := RowAt.new w (uriC h n p q b) 23
  have b1 := below_alloc w (.cells (uriC h n p q b).toArray 23)
  generalize w.alloc (.cells (uriC h n p q b).toArray 23) = w1 at R1 b1 HT ⊢
  have c0 := R1.cell 0 rfl
  have c1 := R1.cell 1 rfl
  have c2 := R1.cell 2 rfl
  have c3 := R1.cell 3 rfl
  have c4 := R1.cell 4 rfl
  have z1 := b1.size
  go_region_held3 (fun w' => w'.cell? ⟨w.heap.size, 0, none⟩ = some (.string h) ∧ w'.cell? ⟨w.heap.size, 1, none⟩ = some (.int .i64 n) ∧ w'.cell? ⟨w.heap.size, 2, none⟩ = some (.string p) ∧ w'.cell? ⟨w.heap.size, 3, none⟩ = some (.string q) ∧ w'.cell? ⟨w.heap.size, 4, none⟩ = some (.bool b) ∧ Below w1.heap.size w1 w') (first | assumption | exact ⟨c0, c1, c2, c3, c4, (Below.refl _ _).drew⟩ | (exact keep5 (by assumption) hb)) (first | (go_at_call 32; refine (HD.out w1.drew HT.out).mono ?_; rintro e w2 ⟨rfl, hb⟩))
  have hq2 : Below w1.heap.size w1 w2 := below_step ((Below.refl _ _).drew) hb
  have R2 := R1.below hq2
  have d3 := R2.cell 3 rfl
  have d4 := R2.cell 4 rfl
  cases b with
  | true =>
    go_wp2_with fail
    go_ret
    exact ⟨by rw [← HF.out]; rfl, below_step b1 hq2⟩
  | false =>
    go_wp2_with fail
    go_ret
    exact ⟨by rw [← HF.out]; rfl, below_step b1 hq2⟩
end Go.Proofs.YtglckhljpjcmaaaGreatDoor
