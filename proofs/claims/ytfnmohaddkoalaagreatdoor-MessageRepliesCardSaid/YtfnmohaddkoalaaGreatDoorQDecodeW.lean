/- The walks of chunk's cut and trailer (5.3). Printed by gen_decw.py. -/
import Derived.Test.YtfnmohaddkoalaaGreatDoorQSizeW
import Derived.Test.YtfnmohaddkoalaaGreatDoorQBldW
namespace Go.Proofs.YtfnmohaddkoalaaGreatDoor
open Go.RowKit Go.Shelf
set_option linter.unusedSimpArgs false

/-- One block, a variable's, has turned; what was there besides stands. -/
def Turn (g : Nat) (w w' : World) : Prop := (∀ k, k < w.heap.size → k ≠ g → w'.heap[k]? = w.heap[k]?) ∧ w.heap.size ≤ w'.heap.size ∧ Below g w w'
theorem Turn.refl (g : Nat) (w : World) : Turn g w w := ⟨fun _ _ _ => rfl, Nat.le_refl _, Below.refl _ _⟩
theorem Turn.trans {g : Nat} {w w1 w2 : World} (h : Turn g w w1) (h' : Turn g w1 w2) : Turn g w w2 :=
  ⟨fun k hk hg => (h'.1 k (Nat.lt_of_lt_of_le hk h.2.1) hg).trans (h.1 k hk hg), Nat.le_trans h.2.1 h'.2.1, h.2.2.trans h'.2.2⟩
theorem Turn.of {g : Nat} {w w' : World} (hb : Below w.heap.size w w') (hg : g < w.heap.size) : Turn g w w' := ⟨fun k hk _ => hb.block k hk, hb.size, hb.mono (Nat.le_of_lt hg)⟩
theorem Turn.set (g : Nat) (w : World) (v : Value) : Turn g w (w.setCell ⟨g, 0, none⟩ v) := ⟨fun k _ hg => heap_setCell_other _ _ _ _ hg, by simp, (Below.refl _ _).setCell (p := ⟨g, 0, none⟩) (Nat.le_refl _) v⟩
theorem RowAt.turn {w w' : World} {k g : Nat} {t : TypeId} {cs : List Value} (h : RowAt w k t cs) (ht : Turn g w w') (hne : k ≠ g) : RowAt w' k t cs := by
  show w'.heap[k]? = _
  rw [ht.1 k h.lt hne]; exact h
theorem BldAt.turn {w w' : World} {B b : Nat} {l : List UInt8} (h : BldAt w B b l) {g : Nat} (ht : Turn g w w') {t : TypeId} {cs : List Value} (hr : RowAt w g t cs) (hty : t ≠ 87 ∧ t ≠ 5) : BldAt w' B b l := by
  have hne : ∀ (k : Nat) (c : Array Value) (u : TypeId), u ≠ t → w.heap[k]? = some (Obj.cells c u (0, 0)) → k ≠ g := fun k c u hu hk e => by
    subst e
    have h2 : w.heap[k]? = some (.cells cs.toArray t (0, 0)) := hr
    rw [h2] at hk
    cases hk
    exact hu rfl
  have hlt : ∀ (k : Nat) (o : Obj), w.heap[k]? = some o → k < w.heap.size := fun k o hk => by
    rcases Nat.lt_or_ge k w.heap.size with h' | h'
    · exact h'
    · rw [Array.getElem?_eq_none h'] at hk; cases hk
  refine h.kept (fun k c u hu hk => ht.1 k (hlt k _ hk) (hne k c u ?_ hk)) (fun k c hk => ht.1 k (hlt k _ hk) (hne k c _ (fun e => hty.2 e.symm) hk))
  rcases hu with rfl | rfl
  · exact fun e => hty.1 e.symm
  · exact fun e => hty.2 e.symm
theorem next_used (l : List UInt8) : (nextL l).2.1 ≤ l.length := by
  obtain ⟨x, u, e, h⟩ : ∃ x u e, nextL l = (x, u, e) := ⟨_, _, _, rfl⟩
  rw [h]
  by_cases he : e = 0
  · subst he
    exact (nextL_inv h).2.1
  · unfold nextL at h
    split at h
    · cases h; exact Nat.zero_le _
    · split at h
      · cases h; exact absurd rfl he
      · cases h; exact Nat.zero_le _
theorem next_len (l : List UInt8) : (nextL l).1.length ≤ 2000 := by
  unfold nextL
  split
  · simp
  · split
    · show (l.takeWhile lineC).length ≤ 2000; omega
    · simp
theorem run_from2 (s : ByteArray) (k : Nat) (i : Int) (hi : i = k) (h : k ≤ s.size) (wx : World) : (Instr.slice 9 (.string s) (some (.int .i64 i)) none none).run Tryz.prog wx = .ok (.string (s.extract k s.size)) wx := by
  subst hi
  rw [run_slice_string_l wx 9 s Tryz.underlying9 .i64 (k : Int) (by omega) (by omega)]; simp
theorem ext_from (s : ByteArray) (i : Nat) : bs (s.extract i s.size) = (bs s).drop i := by
  unfold bs; rw [Lib.extract_data]
  exact List.take_of_length_le (by rw [List.length_drop, ← Lib.size_eq]; exact Nat.le_refl _)
theorem eg_cut (args : Array Value) (w : World) : (callFunc 78 args).run Tryz.prog w = .ok (.enter 78 args) w := by kernel_rfl
set_option maxHeartbeats 1600000 in
theorem cut1_any (s : ByteArray) (a gS gA : Nat) (w : World) (ha : a ≤ s.size) (hs : s.size ≤ 1000000) (_ : gS ≠ gA) (RS : RowAt w gS 9 [.string s]) (RA : RowAt w gA 3 [.int .i64 a]) :
    Calls Tryz.prog 78 #[.pointer (some ⟨gS, 0, none⟩), .pointer (some ⟨gA, 0, none⟩)] w fun e w' => e = .returned (.tuple #[.string ⟨(nextL ((bs s).drop a)).1.toArray⟩, .int .i64 (nextL ((bs s).drop a)).2.2]) ∧ RowAt w' gA 3 [.int .i64 ((a + (nextL ((bs s).drop a)).2.1 : Nat) : Int)] ∧ Turn gA w w' := by
  obtain ⟨x, hx⟩ : ∃ x : ByteArray, x = s.extract a s.size := ⟨_, rfl⟩
  have hxb : bs x = (bs s).drop a := by rw [hx]; exact ext_from s a
  have hxz : x.size ≤ s.size := by rw [← bs_length, hxb, List.length_drop, bs_length]; omega
  have p0 : ∀ wx, (Instr.slice 9 (.string s) (some (.int .i64 (a : Int))) none none).run Tryz.prog wx = .ok (.string x) wx := fun wx => by rw [hx]; exact run_from2 s a _ rfl ha wx
  have hu := next_used (bs x)
  rw [bs_length] at hu
  rw [← hxb]
  obtain ⟨x1, u, er, hr⟩ : ∃ x1 u er, nextL (bs x) = (x1, u, er) := ⟨_, _, _, rfl⟩
  rw [hr] at hu ⊢
  have hu : u ≤ x.size := hu
  have HN := Lib.hid (next_any x w (by omega))
  rw [hr] at HN
  obtain ⟨X, hX⟩ : ∃ X : ByteArray, X = ⟨x1.toArray⟩ := ⟨_, rfl⟩
  have HX := Lib.hid hX
  have HV : Hid (nextV (x1, u, er) = .tuple #[.string X, .int .i64 u, .int .i64 er]) := Lib.hid (by rw [hX]; rfl)
  have s0 := RS.cell 0 rfl
  have a0 := RA.cell 0 rfl
  have hua : (u : Int) ≤ 1000000 := by omega
  have haa : (a : Int) ≤ 1000000 := by omega
  have hlt := RA.lt
  have hsum : ((a + u : Nat) : Int) = (a : Int) + (u : Int) := by omega
  have HSUM := Lib.hid hsum
  clear hx hxb hxz hr hX hsum
  go_enter Tryz.func78, Tryz.ntmps78
  go_wp2_with fail
  refine HN.out.mono ?_
  rintro e w1 ⟨rfl, hb1⟩
  rw [HV.out]
  have RA1 := RA.below hb1
  have c0 := RA1.cell 0 rfl
  have f0 := RA1.free 0
  have t1 := Turn.of hb1 hlt
  clear s0 a0 RS HN HV
  go_wp2_with fail
  go_ret2
  refine ⟨by rw [HX.out]; rfl, ?_, t1.trans (Turn.set gA w1 _)⟩
  have h := RA1.set 0 (.int .i64 ((a : Int) + (u : Int)))
  rw [HSUM.out]
  exact h
set_option maxHeartbeats 6400000 in
theorem trail_any (s : ByteArray) (a gS gA : Nat) (w : World) (ha : a ≤ s.size) (hs : s.size ≤ 1000000) (hne : gS ≠ gA) (RS : RowAt w gS 9 [.string s]) (RA : RowAt w gA 3 [.int .i64 a]) (hM : MaxOf w) (hMg : 2 ≠ gA) :
    Calls Tryz.prog 80 #[.func (.func 78) #[] #[.pointer (some ⟨gS, 0, none⟩), .pointer (some ⟨gA, 0, none⟩)]] w fun e w' => e = .returned (.int .i64 (trailL ((bs s).drop a) a).2) ∧ (∃ a1 : Nat, a1 ≤ s.size ∧ ((trailL ((bs s).drop a) a).2 = 0 → a1 = (trailL ((bs s).drop a) a).1) ∧ RowAt w' gA 3 [.int .i64 a1]) ∧ Turn gA w w' := by
  obtain ⟨r, hr⟩ : ∃ r, r = trailL ((bs s).drop a) a := ⟨_, rfl⟩
  have HR : Hid (r = trGo (((bs s).drop a).length + 1) 0 ((bs s).drop a) a) := Lib.hid hr
  rw [← hr]
  have HRS := Lib.hid RS
  have HM : Hid (∀ w', Turn gA w w' → MaxOf w') := Lib.hid fun w' ht => by
    obtain ⟨m, hm⟩ := hM
    refine ⟨m, ?_⟩
    have hlt := cell_lt hm
    unfold World.cell? at hm ⊢
    rw [show w'.heap[(⟨2, 0, none⟩ : Addr).block]? = w.heap[(⟨2, 0, none⟩ : Addr).block]? from ht.1 _ hlt hMg]
    exact hm
  clear hr hM
  go_enter Tryz.func80, Tryz.ntmps80
  go_wp2_with fail
  go_loopw [3] (fun j wr => ∃ (i a' f : Nat), i ≤ 64 ∧ j = .int .i64 i ∧ a' ≤ s.size ∧ Hid (((bs s).drop a').length < f) ∧ Hid (r = trGo f i ((bs s).drop a') a') ∧ RowAt wr gA 3 [.int .i64 a'] ∧ Turn gA w wr) (fun j _ => 65 - (intOf j).toNat)
  case atStart => exact ⟨0, a, _, by omega, rfl, ha, Lib.hid (Nat.lt_succ_self _), HR, RA, Turn.refl _ _⟩
  case round =>
    clear RA ha HR
    obtain ⟨i, a', f, hi, rfl, ha, HFU, HR, RA, T⟩ := hrel
    obtain ⟨f', hf⟩ : ∃ f', f = f' + 1 := ⟨f - 1, by have := HFU.out; omega⟩
    subst hf
    have RS1 := HRS.out.turn T hne
    have HC := Lib.hid (cut1_any s a' gS gA wr ha hs hne RS1 RA)
    have hu := next_used ((bs s).drop a')
    rw [List.length_drop, bs_length] at hu
    have hl2 := next_len ((bs s).drop a')
    obtain ⟨x, u, er, hn⟩ : ∃ x u er, nextL ((bs s).drop a') = (x, u, er) := ⟨_, _, _, rfl⟩
    have HNX := Lib.hid hn
    rw [hn] at HC hu hl2
    obtain ⟨X, hX⟩ : ∃ X : ByteArray, X = ⟨x.toArray⟩ := ⟨_, rfl⟩
    have hXb : bs X = x := by rw [hX]
    have hXz : X.size ≤ 2000 := by rw [← bs_length, hXb]; exact hl2
    have HXX : Hid ((⟨x.toArray⟩ : ByteArray) = X) := Lib.hid hX.symm
    have HXB := Lib.hid hXb
    have eg := eg_cut
    have hgr := RA.lt
    have hua : a' + u ≤ s.size := by have h : u ≤ s.size - a' := hu; omega
    clear hn hX hXb RS1 hl2 hu
    go_wp2_with fail
    refine HC.out.mono ?_
    rintro e w1 ⟨rfl, RA1, T1⟩
    rw [HXX.out]
    have T2 := T.trans T1
    clear HC RA T T1 eg
    by_cases her : er = 0
    · subst her
      cases hz : decide (X.size = 0) with
      | true =>
        have hz0 : X.size = 0 := of_decide_eq_true hz
        obtain ⟨e1, e2⟩ := femp_yes hz0
        have hx0 : x = [] := by rw [← HXB.out]; exact e2
        have HF : Hid (r = (a' + u, 0)) := Lib.hid (by rw [HR.out]; exact trGo_end (by rw [HNX.out, hx0]))
        clear hz hz0 e2 hx0
        go_wp2_with fail
        go_ret
        exact ⟨by rw [HF.out]; rfl, ⟨a' + u, hua, (fun _ => by rw [HF.out]), RA1⟩, T2⟩
      | false =>
        have hz0 : X.size ≠ 0 := of_decide_eq_false hz
        obtain ⟨e1, e2⟩ := femp_no hz0
        have hxn : x ≠ [] := by rw [← HXB.out]; exact e2
        by_cases h64 : i = 64
        · subst h64
          have HF : Hid (r = (0, 4)) := Lib.hid (by rw [HR.out]; exact trGo_many HNX.out hxn)
          clear hz hz0 e2 hxn
          go_wp2_with fail
          go_ret
          exact ⟨by rw [HF.out]; rfl, ⟨a' + u, hua, (fun h => by rw [HF.out] at h; cases h), RA1⟩, T2⟩
        · have h64' : ((i : Int) == 64) = false := by rw [beq_eq_false_iff_ne]; omega
          obtain ⟨n, v, ef, hfl⟩ : ∃ n v ef, fieldL (bs X) = ((n, v), ef) := ⟨_, _, _, rfl⟩
          have hfx : fieldL x = ((n, v), ef) := by rw [← HXB.out]; exact hfl
          have HP := Lib.hid (fparse_any X w1 (by omega) (HM.out w1 T2))
          rw [hfl] at HP
          obtain ⟨Nm, hNm⟩ : ∃ Nm : ByteArray, Nm = ⟨n.toArray⟩ := ⟨_, rfl⟩
          obtain ⟨Vl, hVl⟩ : ∃ Vl : ByteArray, Vl = ⟨v.toArray⟩ := ⟨_, rfl⟩
          have HFV : Hid (fieldV ((n, v), ef) = .tuple #[.agg #[.string Nm, .string Vl], .int .i64 ef]) := Lib.hid (by rw [hNm, hVl]; rfl)
          have HFX := Lib.hid hfx
          have HXN := Lib.hid hxn
          clear hz hz0 e2 hxn hfl hfx hNm hVl
          go_wp2_with fail
          refine HP.out.mono ?_
          rintro e w3 ⟨rfl, hb3⟩
          rw [HFV.out]
          have a4 := alloc_b w3 (.cells #[.string Nm, .string Vl] 69)
          have hlt1 := RA1.lt
          have RA4 := (RA1.below hb3).below a4
          have T4 := T2.trans (Turn.of (step_b hb3 a4) hlt1)
          clear RA1 T2 hb3 a4 HP HFV
          by_cases hef : ef = 0
          · subst hef
            have HF : Hid (r = trGo f' (i + 1) ((bs s).drop (a' + u)) (a' + u)) := Lib.hid (by
              rw [HR.out, trGo_step HNX.out HXN.out h64 (by rw [HFX.out]), List.drop_drop])
            have HFU2 : Hid (((bs s).drop (a' + u)).length < f') := Lib.hid (by
              have h := HFU.out
              have h2 := (nextL_inv HNX.out).1
              rw [List.length_drop, bs_length] at h ⊢
              omega)
            have hi2 : i + 1 ≤ 64 := by omega
            go_wp2_with fail
            go_roundw
            case rel => exact ⟨i + 1, a' + u, f', hi2, by go_num, hua, HFU2, HF, RA4, T4⟩
            case measure => simp [intOf]; omega
          · have HF : Hid (r = (0, ef)) := Lib.hid (by rw [HR.out, trGo_bad HNX.out HXN.out h64 (by rw [HFX.out]; exact hef), HFX.out])
            have hef' : (ef != 0) = true := by simp [hef]
            go_wp2_with fail
            go_ret
            exact ⟨by rw [HF.out]; rfl, ⟨a' + u, hua, (fun h => by rw [HF.out] at h; exact absurd h hef), RA4⟩, T4⟩
    · have HF : Hid (r = (0, er)) := Lib.hid (by rw [HR.out, trGo_err (by rw [HNX.out]; exact her), HNX.out])
      have her' : (er != 0) = true := by simp [her]
      go_wp2_with fail
      go_ret
      exact ⟨by rw [HF.out]; rfl, ⟨a' + u, hua, (fun h => by rw [HF.out] at h; exact absurd h her), RA1⟩, T2⟩
end Go.Proofs.YtfnmohaddkoalaaGreatDoor
