/- The reader of messages (layer 6): the body in all cases. -/
import Derived.Test.YtfnmohaddkoalaaGreatDoorQMsgW9
namespace Go.Proofs.YtfnmohaddkoalaaGreatDoor
open Go.RowKit Go.Shelf
set_option linter.unusedSimpArgs false
set_option linter.unusedVariables false

theorem trGo_used : ∀ (f n : Nat) (l : List UInt8) (a : Nat), (trGo f n l a).2 = 0 → (trGo f n l a).1 ≤ a + l.length
  | 0, _, _, _, h => by simp [trGo] at h
  | f + 1, n, l, a, h => by
    have hu := next_used l
    rw [trGo] at h ⊢
    by_cases h1 : (nextL l).2.2 ≠ 0
    · rw [if_pos h1] at h; exact absurd h h1
    rw [if_neg h1] at h ⊢
    by_cases h2 : (nextL l).1 = []
    · rw [if_pos h2]; show a + (nextL l).2.1 ≤ _; omega
    rw [if_neg h2] at h ⊢
    by_cases h3 : n = 64
    · rw [if_pos h3] at h; simp at h
    rw [if_neg h3] at h ⊢
    by_cases h4 : (fieldL (nextL l).1).2 ≠ 0
    · rw [if_pos h4] at h; exact absurd h h4
    rw [if_neg h4] at h ⊢
    have := trGo_used f (n + 1) _ _ h
    rw [List.length_drop] at this
    omega
theorem decGo_used : ∀ (f : Nat) (l b : List UInt8) (a : Nat), (decGo f l b a).2.1 ≤ a + l.length
  | 0, _, _, _ => by simp [decGo]
  | f + 1, l, b, a => by
    have hu := next_used l
    rw [decGo]
    by_cases h1 : (nextL l).2.2 ≠ 0
    · rw [if_pos h1]; simp
    rw [if_neg h1]
    cases hs : sizeL (nextL l).1 with
    | none => simp
    | some k =>
      dsimp only
      by_cases h2 : 100000 < b.length + k
      · rw [if_pos h2]; simp
      rw [if_neg h2]
      by_cases h3 : k = 0
      · rw [if_pos h3]
        by_cases h4 : (trailL (l.drop (nextL l).2.1) (a + (nextL l).2.1)).2 = 0
        · rw [if_pos h4]
          have : (trailL (l.drop (nextL l).2.1) (a + (nextL l).2.1)).1 ≤ _ := trGo_used _ _ _ _ h4
          rw [List.length_drop] at this
          show (trailL (l.drop (nextL l).2.1) (a + (nextL l).2.1)).1 ≤ _
          omega
        · rw [if_neg h4]; simp
      rw [if_neg h3]
      by_cases h5 : l.length < (nextL l).2.1 + k
      · rw [if_pos h5]; simp
      rw [if_neg h5]
      by_cases h6 : endE (l.drop ((nextL l).2.1 + k)) ≠ 0
      · rw [if_pos h6]; simp
      rw [if_neg h6]
      have := decGo_used f (l.drop ((nextL l).2.1 + k + 2)) (b ++ (l.drop (nextL l).2.1).take k) (a + (nextL l).2.1 + k + 2)
      rw [List.length_drop] at this
      have h7 : 2 ≤ (l.drop ((nextL l).2.1 + k)).length := by
        rcases Nat.lt_or_ge (l.drop ((nextL l).2.1 + k)).length 2 with hq | hq
        · exfalso
          apply h6
          unfold endE
          intro he
          split at he
          · omega
          · split at he
            · rename_i e2
              have := congrArg List.length e2
              rw [List.length_take] at this
              simp only [List.length_cons, List.length_nil] at this
              omega
            · omega
        · exact hq
      rw [List.length_drop] at h7
      omega
theorem decL_used {l X : List UInt8} {n : Nat} {e : Int} (h : decL l = (X, n, e)) : n ≤ l.length := by
  have := decGo_used (l.length + 1) l [] 0
  rw [show decGo (l.length + 1) l [] 0 = (X, n, e) from h] at this
  simpa using this
theorem frB_cl (c : ByteArray) : frE [] [c] = if (numGo (bs c) 0).isSome ∧ bs c ≠ [] ∧ c.size ≤ 9 then 0 else 8 := rfl
theorem frB_te (t c : ByteArray) (ls : List ByteArray) : frE [t] (c :: ls) = if foldB (bs t) chN then 8 else 7 := rfl
/-- What the reader is behind its body. -/
theorem body_any (T : TypeId) (w : World) (B g : Nat) (s : ByteArray) (a : Nat) (fs : List Fd) (ls cs : List ByteArray) (vf vl vc : Value) (rest : List Value)
    (R : RdAt T w B g s a fs ls cs vf vl vc rest) (ha : a ≤ s.size) (hs : s.size ≤ 1000000) (hM : MaxOf w) (hf : frE cs ls = 0) (X : ByteArray) (n : Nat) (er : Int) (hb : bdE cs ls ((bs s).drop a) = (bs X, n, er)) :
    Calls Tryz.prog 33 #[.pointer (some ⟨g, 0, none⟩)] w fun e w' => e = .returned (.tuple #[.string X, .int .i64 er]) ∧ Below g w w' ∧ RdAt T w' B g s (a + n) fs ls cs vf vl vc rest ∧ a + n ≤ s.size := by
  have hX0 : ∀ {y : ByteArray}, ([] : List UInt8) = bs y → (⟨#[]⟩ : ByteArray) = y := fun h => ByteArray.ext (Array.toList_inj.1 h)
  rcases cs with _ | ⟨t, cs⟩
  · rcases ls with _ | ⟨c, ls⟩
    · rw [bdE] at hb
      obtain ⟨h1, h2⟩ := Prod.mk.inj hb
      obtain ⟨h2, h3⟩ := Prod.mk.inj h2
      subst h2 h3
      rw [← hX0 h1]
      exact (body_none T w B g s a fs vf vl vc rest R ha hs).mono fun e w' ⟨e1, e2, e3⟩ => ⟨e1, e2, e3, ha⟩
    · rcases ls with _ | ⟨c2, ls⟩
      · have hfr : (numGo (bs c) 0).isSome = true ∧ bs c ≠ [] ∧ c.size ≤ 9 := by
          rw [frB_cl] at hf
          by_cases hq : (numGo (bs c) 0).isSome = true ∧ bs c ≠ [] ∧ c.size ≤ 9
          · exact hq
          · rw [if_neg hq] at hf; omega
        obtain ⟨hq1, hq2, hq3⟩ := hfr
        obtain ⟨k, hk⟩ := Option.isSome_iff_exists.1 hq1
        obtain ⟨hk0, _⟩ := numGo_bd _ _ _ (by omega) (by omega) hk
        have hv := numV_some hk
        have hlen : ((bs s).drop a).length = s.size - a := by rw [List.length_drop, bs_length]
        rw [bdE, hk] at hb
        dsimp only at hb
        by_cases hbig : 100000 < k
        · rw [if_pos hbig] at hb
          obtain ⟨h1, h2⟩ := Prod.mk.inj hb
          obtain ⟨h2, h3⟩ := Prod.mk.inj h2
          subst h2 h3
          rw [← hX0 h1]
          exact (body_big T w B g s a fs c vf vl vc rest R ha hs (by omega) k _ hv hbig).mono fun e w' ⟨e1, e2, e3⟩ => ⟨e1, e2, e3, ha⟩
        · rw [if_neg hbig, hlen] at hb
          by_cases hsh : ((s.size - a : Nat) : Int) < k
          · rw [if_pos hsh] at hb
            obtain ⟨h1, h2⟩ := Prod.mk.inj hb
            obtain ⟨h2, h3⟩ := Prod.mk.inj h2
            subst h2 h3
            rw [← hX0 h1]
            exact (body_short T w B g s a fs c vf vl vc rest R ha hs (by omega) k _ hv hbig (by omega)).mono fun e w' ⟨e1, e2, e3⟩ => ⟨e1, e2, e3, ha⟩
          · rw [if_neg hsh] at hb
            obtain ⟨h1, h2⟩ := Prod.mk.inj hb
            obtain ⟨h2, h3⟩ := Prod.mk.inj h2
            obtain ⟨m, hm⟩ : ∃ m : Nat, k = (m : Int) := ⟨k.toNat, by omega⟩
            subst hm
            rw [Int.toNat_natCast] at h1 h2
            subst h2 h3
            have hX : s.extract a (a + m) = X := by
              apply ByteArray.ext
              apply Array.ext'
              show bs _ = bs _
              rw [← h1, ext_mid, show a + m - a = m by omega]
            rw [← hX]
            exact (body_len T w B g s a fs c vf vl vc rest R ha hs (by omega) m _ hv (by omega) (by omega)).mono fun e w' ⟨e1, e2, e3⟩ => ⟨e1, e2, e3, by omega⟩
      · have h8 : frE [] (c :: c2 :: ls) = 8 := rfl
        omega
  · rcases cs with _ | ⟨t2, cs⟩
    · have hls : ls = [] := by
        rcases ls with _ | ⟨c, ls⟩
        · rfl
        · exfalso; rw [frB_te] at hf; split at hf <;> omega
      subst hls
      rw [bdE] at hb
      have hn := decL_used hb
      rw [List.length_drop, bs_length] at hn
      exact (body_chunks T w B g s a fs t [] [] vf vl vc rest R ha hs hM X n er hb (by omega)).mono fun e w' ⟨e1, e2, e3⟩ => ⟨e1, e2, e3, by omega⟩
    · have h7 : frE (t :: t2 :: cs) ls = 7 := rfl
      omega
end Go.Proofs.YtfnmohaddkoalaaGreatDoor
