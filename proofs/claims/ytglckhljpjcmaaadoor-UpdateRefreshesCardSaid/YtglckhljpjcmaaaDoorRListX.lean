/- The walk of the reference's All (layer 7). -/
import Derived.Test.YtglckhljpjcmaaaDoorRListW
import Derived.Maps.AppendAt
namespace Go.Proofs.YtglckhljpjcmaaaDoor
open Go.RowKit Go.Shelf

def TurnedOf (w w' : World) (v v' : Value) : Prop := ∀ b, b < w.heap.size → some b ≠ v.ownBlock → w'.heap[b]? = w.heap[b]? ∧ some b ≠ v'.ownBlock
theorem wpList_append_str_at {ops : Array Oper} {rest : List Oper} {o : Oper} {a : Act} {Q : Exit → Act → World → Prop} (hgd : o.guard = none) (s x : Operand)
    (ho : o.op = .call { callee := .builtin .append, args := #[s, x], argTypes := #[23, 23] })
    (w0 w : World) (B : Nat) (v : Value) (xs : List ByteArray) (hs : a.eval s = v) (hown : SBuf w B v xs) (hb : Below B w0 w) (hB : B ≤ w.heap.size)
    (ad : Addr) (c : ByteArray) (hx : a.eval x = .slice (some ad) 1 1) (hc : w.cell? ad = some (.string c)) (hl : xs.length + 1 ≤ 1000000)
    (h : ∀ v' w', SBuf w' B v' (xs ++ [c]) → Below B w0 w' → B ≤ w'.heap.size → TurnedOf w w' v v' → wpList Tryd.prog ops Q rest (a.put o.dst v') w') : wpList Tryd.prog ops Q (o :: rest) a w := by
  obtain ⟨i, hi, hz0, hz1, hz2⟩ := info_parts infoStr
  refine wpList_append_own_at w hgd s x 23 ho B 9 i (.string ByteArray.empty) 1 16 Tryd.underlying23 hi hz0 hz1 hz2 rfl (by decide) v xs.length _ hs hown ad 1 1 [.string c] hx rfl ?_ ?_ (by unfold maxLen; omega) (by omega) hB ?_
  · intro j u hj
    rcases j with _ | j
    · simp at hj; subst hj
      have : ad.add 0 = ad := by unfold Addr.add; simp
      rw [this]; exact hc
    · simp at hj
  · intro u hu
    simp at hu; subst hu; rfl
  · intro v' w' hown' hg _ hloc
    refine h v' w' ?_ (hb.grown hg hB (fun j hj => (World.ownsRow.lt hown j hj).1)) (Nat.le_trans hB hg.size) (fun b hbl hbn => ⟨hg.block b hbl hbn, fun e => ?_⟩)
    · unfold SBuf
      simpa using hown'
    · rcases hloc with hl' | hl'
      · exact hbn (e.trans hl')
      · rw [hl'] at e; cases e; omega
/-- The strings lie in a block that is not the row's. -/
def NsAt (w : World) (v : Value) (oc : Option Addr) (ns : List ByteArray) : Prop := ∀ (j : Nat) (x : ByteArray), ns[j]? = some x → ∃ g, oc = some ⟨g, 0, none⟩ ∧ some g ≠ v.ownBlock ∧ w.cell? ⟨g, j, none⟩ = some (.string x)
theorem SBuf.own_lt {w : World} {B : Nat} {v : Value} {xs : List ByteArray} (h : SBuf w B v xs) {g : Nat} (hg : v.ownBlock = some g) : g < w.heap.size := (World.ownsRow.lt h g hg).2
theorem NsAt.of {w w2 : World} {B : Nat} {v v2 : Value} {xs ns : List ByteArray} (h : SBuf w B v xs) (h2 : SBuf w2 w.heap.size v2 ns) : ∃ oc cap, v2 = .slice oc ns.length cap ∧ NsAt w2 v oc ns := by
  obtain ⟨oc, cap, rfl, _⟩ := h2.shape
  refine ⟨oc, cap, rfl, fun j x hx => ?_⟩
  have hl : 0 < ns.length := by have := (List.getElem?_eq_some_iff.1 hx).1; omega
  obtain ⟨g, cap', e, hg1, _, hA, _⟩ := h2.form hl
  cases e
  exact ⟨g, rfl, fun e => by have := h.own_lt e.symm; omega, hA j x hx⟩
theorem NsAt.alloc {w : World} {v : Value} {oc : Option Addr} {ns : List ByteArray} (h : NsAt w v oc ns) (o : Obj) : NsAt (w.alloc o) v oc ns := fun j x hx => by
  obtain ⟨g, h1, h2, h3⟩ := h j x hx
  exact ⟨g, h1, h2, ((alloc_b w o).cell (cell_lt h3)).trans h3⟩
theorem NsAt.turn {w w' : World} {v v' : Value} {oc : Option Addr} {ns : List ByteArray} (h : NsAt w v oc ns) (hk : TurnedOf w w' v v') : NsAt w' v' oc ns := fun j x hx => by
  obtain ⟨g, h1, h2, h3⟩ := h j x hx
  obtain ⟨k1, k2⟩ := hk g (cell_lt h3) h2
  refine ⟨g, h1, k2, ?_⟩
  rw [← h3]; unfold World.cell?; rw [k1]
def ROut (vs : List ByteArray) (R : List (List UInt8)) (k : Nat) (ms : List (List UInt8)) : Prop := ms.length ≤ 64 ∧ R = (ms ++ allGo (vs.drop k)).take 64
def RIn (vs : List ByteArray) (R : List (List UInt8)) (k : Nat) (x : ByteArray) (j : Nat) (ms : List (List UInt8)) : Prop := ms.length ≤ 64 ∧ R = (ms ++ ((membersL (bs x)).drop j ++ allGo (vs.drop (k + 1)))).take 64
theorem ROut.inn {vs : List ByteArray} {R : List (List UInt8)} {k : Nat} {ms : List (List UInt8)} {x : ByteArray} (h : ROut vs R k ms) (hx : vs[k]? = some x) : RIn vs R k x 0 ms := by
  obtain ⟨hk, he⟩ := List.getElem?_eq_some_iff.1 hx
  refine ⟨h.1, ?_⟩
  rw [h.2, List.drop_eq_getElem_cons hk, he]
  unfold allGo
  rw [List.flatMap_cons, List.drop_zero]
theorem ROut.over {vs : List ByteArray} {R : List (List UInt8)} {k : Nat} {ms : List (List UInt8)} (h : ROut vs R k ms) (hk : vs.length ≤ k) : R = ms := by
  rw [h.2, List.drop_of_length_le hk]
  show (ms ++ []).take 64 = ms
  rw [List.append_nil, List.take_of_length_le h.1]
theorem RIn.over {vs : List ByteArray} {R : List (List UInt8)} {k : Nat} {x : ByteArray} {j : Nat} {ms : List (List UInt8)} (h : RIn vs R k x j ms) (hj : (membersL (bs x)).length ≤ j) : ROut vs R (k + 1) ms := by
  refine ⟨h.1, ?_⟩
  rw [h.2, List.drop_of_length_le hj, List.nil_append]
theorem RIn.full {vs : List ByteArray} {R : List (List UInt8)} {k : Nat} {x : ByteArray} {j : Nat} {ms : List (List UInt8)} (h : RIn vs R k x j ms) (hm : 64 ≤ ms.length) : ROut vs R (k + 1) ms := by
  refine ⟨h.1, ?_⟩
  rw [h.2, List.take_append_of_le_length hm, List.take_append_of_le_length hm]
theorem RIn.step {vs : List ByteArray} {R : List (List UInt8)} {k : Nat} {x : ByteArray} {j : Nat} {ms : List (List UInt8)} {m : List UInt8} (h : RIn vs R k x j ms) (hm : (membersL (bs x))[j]? = some m) (hl : ms.length < 64) : RIn vs R k x (j + 1) (ms ++ [m]) := by
  obtain ⟨hk, he⟩ := List.getElem?_eq_some_iff.1 hm
  refine ⟨by simp; omega, ?_⟩
  rw [h.2, List.drop_eq_getElem_cons hk, he]
  simp
set_option maxHeartbeats 3200000 in
theorem rall_any (oa : Option Addr) (xs : List Fd) (cap : Nat) (s : ByteArray) (w : World) (hs : s.size ≤ 100000) (hn : xs.length ≤ 10000) (hz : FldZ xs 100000) (hc : FldO w oa xs) :
    Calls Tryd.prog 47 #[.slice oa xs.length cap, .string s] w fun e w' => ∃ ob cb ms, e = .returned (.slice ob ms.length cb) ∧ ms = (allL (bs s) xs).map mkB ∧ StrO w' ob ms ∧ Below w.heap.size w w' := by
  have HG := Lib.hid (rget_any oa xs cap s w hs (by omega) hz hc)
  have hgl : (getF (bs s) xs).length ≤ xs.length := getF_len _ _
  obtain ⟨vs, hvs⟩ : ∃ vs, vs = getF (bs s) xs := ⟨_, rfl⟩
  have HVZ : Hid (∀ v ∈ vs, v.size ≤ 100000) := Lib.hid fun v hv => by rw [hvs] at hv; exact getF_mem' hz hv
  rw [← hvs] at HG hgl
  obtain ⟨R, hR⟩ : ∃ R, R = allL (bs s) xs := ⟨_, rfl⟩
  have H0 : Hid (ROut vs R 0 []) := Lib.hid ⟨by simp, by rw [hR, allL, ← hvs]; rfl⟩
  rw [← hR]
  clear hz hc hvs hR
  go_enter Tryd.func47, Tryd.ntmps47
  go_wp2_with fail
  refine HG.out.mono ?_
  rintro e w1 ⟨v1, rfl, SB1, hb1⟩
  obtain ⟨ov, cv, rfl, SO⟩ := StrO.ofS SB1
  have HSO := Lib.hid SO
  clear SO SB1 HG
  go_wp2_with fail
  go_loopw [5, 7] (fun v c wr => ∃ (k : Nat) (ms : List (List UInt8)) (zs : List ByteArray), k ≤ vs.length ∧ c = .int .i64 k ∧ Hid (ROut vs R k ms) ∧ Hid (zs = ms.map mkB) ∧ SBuf wr w1.heap.size v zs ∧ Below w1.heap.size w1 wr) (fun _ c _ => vs.length - (intOf c).toNat)
  case atStart => exact ⟨0, [], [], by omega, rfl, H0, Lib.hid rfl, SBuf.nil_ _ _, Below.refl _ _⟩
  case round =>
    obtain ⟨k, ms, zs, hk, rfl, H, HZ, SB, hb⟩ := hrel
    by_cases hlt : k < vs.length
    · obtain ⟨x, hx⟩ : ∃ x, vs[k]? = some x := ⟨_, List.getElem?_eq_getElem hlt⟩
      obtain ⟨ad, rfl, c0⟩ := (HSO.out.down hb) k x hx
      have zx := HVZ.out x (List.mem_of_getElem? hx)
      have HI := Lib.hid (H.out.inn hx)
      have hml := members_len (bs x)
      obtain ⟨ns, hns⟩ : ∃ ns, ns = (membersL (bs x)).map mkB := ⟨_, rfl⟩
      have hnl := congrArg List.length hns
      rw [List.length_map] at hnl
      have HNL := Lib.hid hnl
      have HN := Lib.hid hns
      have HSP := Lib.hid (rsplit_any x wr (by omega))
      rw [← hns] at HSP
      have hnn : ns.length ≤ 64 := by omega
      clear hx hns hnl hml H0 H
      go_wp2_with fail
      refine HSP.out.mono ?_
      rintro e w2 ⟨v2, rfl, SB2, hb2⟩
      obtain ⟨oc, cc, rfl, hNs⟩ := NsAt.of SB SB2
      have SB3 := SB.below hb2 (Nat.le_refl _)
      have b3 := step_b hb hb2
      clear SB hb hb2 SB2 c0 HSP
      go_wp2_with fail
      go_loopw [5, 9] (fun v c wi => ∃ (j : Nat) (ms : List (List UInt8)) (zs : List ByteArray), j ≤ ns.length ∧ c = .int .i64 j ∧ Hid (RIn vs R k x j ms) ∧ Hid (zs = ms.map mkB) ∧ SBuf wi w1.heap.size v zs ∧ Below w1.heap.size w1 wi ∧ Hid (NsAt wi v oc ns)) (fun _ c _ => ns.length - (intOf c).toNat)
      case atStart => exact ⟨0, ms, zs, by omega, rfl, HI, HZ, SB3, b3, Lib.hid hNs⟩
      case round =>
        clear HZ SB3 b3 HI hNs
        obtain ⟨j, ms, zs, hj, rfl, H, HZ, SB, hb, HNs⟩ := hrel
        have hzl := congrArg List.length HZ.out
        rw [List.length_map] at hzl
        have hm64 := H.out.1
        have hl10 : zs.length + 1 ≤ 1000000 := by omega
        have hz := hb.size
        obtain ⟨oz, cz, rfl, _⟩ := SB.shape
        by_cases hjl : j < ns.length
        · by_cases hfull : zs.length < 64
          · have hfl : (zs.length : Int) < 64 := by omega
            obtain ⟨y, hy⟩ : ∃ y, ns[j]? = some y := ⟨_, List.getElem?_eq_getElem hjl⟩
            obtain ⟨g, rfl, _, c0⟩ := HNs.out j y hy
            obtain ⟨m, hm, hym⟩ : ∃ m, (membersL (bs x))[j]? = some m ∧ y = mkB m := by
              rw [HN.out, List.getElem?_map] at hy
              cases hq : (membersL (bs x))[j]? with
              | none => rw [hq] at hy; cases hy
              | some m =>
                rw [hq] at hy
                exact ⟨m, rfl, by simpa using hy.symm⟩
            have HS := Lib.hid (H.out.step hm (by omega))
            have HY := Lib.hid hym
            clear hy hm hym hzl
            go_wp2_with (at_builtin; refine wpList_append_str_at rfl (.tmp 35) (.tmp 40) rfl w1 _ w1.heap.size _ zs rfl (SB.alloc _) (hb.alloc hz _) (le_alloc hz _) ⟨wr.heap.size, 0, none⟩ y rfl (cell_new wr _ _) hl10 ?_)
            intro v5 w5 SB5 hb5 z5 hk5
            have HN5 := Lib.hid ((HNs.out.alloc _).turn hk5)
            clear SB hb hz c0 hk5
            go_wp2_with fail
            go_roundw
            case rel => exact ⟨j + 1, ms ++ [m], zs ++ [y], by omega, by go_num, HS, Lib.hid (by rw [List.map_append, List.map_singleton, ← HY.out, HZ.out]), SB5, hb5, HN5⟩
            case measure => simp [intOf]; omega
          · have HF := Lib.hid (H.out.full (by omega))
            have hfl : ¬ ((zs.length : Int) < 64) := by omega
            clear hzl
            go_wp2_with fail
            go_roundw
            case rel => exact ⟨k + 1, ms, zs, by omega, by go_num, HF, HZ, SB, hb⟩
            case measure => simp [intOf]; omega
        · have HF := Lib.hid (H.out.over (by rw [← HNL.out]; omega))
          clear hzl
          go_wp2_with fail
          go_roundw
          case rel => exact ⟨k + 1, ms, zs, by omega, by go_num, HF, HZ, SB, hb⟩
          case measure => simp [intOf]; omega
    · have HF := Lib.hid (H.out.over (by omega))
      obtain ⟨oz, cz, rfl, SO2⟩ := StrO.ofS SB
      go_wp2_with fail
      go_ret
      exact ⟨oz, cz, zs, rfl, by rw [HF.out]; exact HZ.out, SO2, step_b hb1 hb⟩
end Go.Proofs.YtglckhljpjcmaaaDoor
