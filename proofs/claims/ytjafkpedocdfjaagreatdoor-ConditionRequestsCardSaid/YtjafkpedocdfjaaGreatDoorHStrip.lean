/- The walk of hop.Strip. -/
import Derived.Test.YtjafkpedocdfjaaGreatDoorBMap
import Derived.Test.YtjafkpedocdfjaaGreatDoorListX
import Derived.Test.YtjafkpedocdfjaaGreatDoorLowA
namespace Go.Proofs.YtjafkpedocdfjaaGreatDoor
open Go.RowKit Go.Shelf
attribute [local go_sem] Oper.semAt_some

def addF (l : List (List UInt8)) (f : List UInt8 → Bool) : List UInt8 → Bool := l.foldl (fun f y x => x == y || f x) f
def delF (l : List (List UInt8)) (f : List UInt8 → Bool) : List UInt8 → Bool := l.foldl (fun f y x => !(x == y) && f x) f
theorem addF_snoc (l : List (List UInt8)) (y : List UInt8) (f : List UInt8 → Bool) : addF (l ++ [y]) f = fun x => x == y || addF l f x := by simp [addF]
theorem delF_snoc (l : List (List UInt8)) (y : List UInt8) (f : List UInt8 → Bool) : delF (l ++ [y]) f = fun x => !(x == y) && delF l f x := by simp [delF]
def noF : List UInt8 → Bool := fun _ => false
def tenS : ByteArray := ⟨#[99, 111, 110, 110, 101, 99, 116, 105, 111, 110, 32, 107, 101, 101, 112, 45, 97, 108, 105, 118, 101, 32, 112, 114, 111, 120, 121, 45, 99, 111, 110, 110, 101, 99, 116, 105, 111, 110, 32, 112, 114, 111, 120, 121, 45, 97, 117, 116, 104, 101, 110, 116, 105, 99, 97, 116, 101, 32, 112, 114, 111, 120, 121, 45, 97, 117, 116, 104, 111, 114, 105, 122, 97, 116, 105, 111, 110, 32, 116, 101, 32, 116, 114, 97, 105, 108, 101, 114, 32, 116, 114, 97, 110, 115, 102, 101, 114, 45, 101, 110, 99, 111, 100, 105, 110, 103, 32, 99, 111, 110, 116, 101, 110, 116, 45, 108, 101, 110, 103, 116, 104, 32, 117, 112, 103, 114, 97, 100, 101]⟩
def sixS : ByteArray := ⟨#[104, 111, 115, 116, 32, 99, 97, 99, 104, 101, 45, 99, 111, 110, 116, 114, 111, 108, 32, 118, 97, 114, 121, 32, 118, 97, 114, 105, 97, 110, 116, 115, 32, 118, 97, 114, 105, 97, 110, 116, 45, 107, 101, 121, 32, 118, 105, 97]⟩
/-- What the map holds true, Connection's members being conn; what is passed on. -/
def dropF (conn : List (List UInt8)) : List UInt8 → Bool := addF (((spC [] (bs tenS)).map mkB).map bs) (delF (((spC [] (bs sixS)).map mkB).map bs) (addF (conn.map lowL) noF))
def hopB (conn : List (List UInt8)) (x : Fd) : Bool := !(dropF conn (lowL (bs x.1)))
theorem map_low (l : List (List UInt8)) : (l.map mkB).map (fun m => lowL (bs m)) = l.map lowL := by rw [List.map_map]; rfl
theorem grow_below {A B : World} (b : Nat) (h : Below A.heap.size A B) : A.grownBy B (some b) := ⟨h.os, h.tape, h.output, h.size, fun k hk _ => h.block k hk⟩
theorem grow_trans {A B C : World} {r : Option Nat} (h : A.grownBy B r) (k : B.grownBy C r) : A.grownBy C r :=
  ⟨k.os.trans h.os, k.tape.trans h.tape, k.output.trans h.output, Nat.le_trans h.size k.size, fun i hi hr => (k.block i (Nat.lt_of_lt_of_le hi h.size) hr).trans (h.block i hi hr)⟩
theorem StrO.grown {A B : World} {oa : Option Addr} {xs : List ByteArray} {b n : Nat} {f : List UInt8 → Bool} (h : StrO A oa xs) (hm : MapB A b n f) (g : A.grownBy B (some b)) : StrO B oa xs := fun i x hx => by
  obtain ⟨ad, h1, h2⟩ := h i x hx
  obtain ⟨D, ⟨es, ck, hb, _⟩, _⟩ := hm
  exact ⟨ad, h1, cell_kept h2 g (fun r e => by cases e; exact ⟨_, hb, rfl⟩)⟩
theorem RowAt.grown {A B : World} {r b : Nat} {T : TypeId} {cs : List Value} (h : RowAt A r T cs) (g : A.grownBy B (some b)) (hne : r ≠ b) (hlt : r < A.heap.size) : RowAt B r T cs := (g.block r hlt (by simpa using hne)).trans h
/-- The map's box and the map, beside what lay ahead. -/
def MapI (w : World) (z n : Nat) (f : List UInt8 → Bool) (W : World) : Prop := z ≤ W.heap.size ∧ RowAt W (w.heap.size + 1) 95 [.map (some w.heap.size)] ∧ MapB W w.heap.size n f ∧ Below w.heap.size w W
theorem MapI.big {w W : World} {z n : Nat} {f : List UInt8 → Bool} (h : MapI w z n f W) : w.heap.size + 1 < W.heap.size := (Array.getElem?_eq_some_iff.1 h.2.1).1
theorem mapI_own (w : World) {z B : Nat} (hB : w.heap.size + 2 ≤ B) (nf : List ByteArray → Nat) (ff : List ByteArray → List UInt8 → Bool) : OwnFrom B (fun pre W => MapI w z (nf pre) (ff pre) W) := fun s W W' row h hg hr =>
  ⟨Nat.le_trans h.1 hg.size, (hg.block _ h.big (fun e => by have := (hr _ e.symm).1; omega)).trans h.2.1, h.2.2.1.kept hg (fun e => by have := (hr _ e.symm).1; omega), h.2.2.2.grown hg h.2.2.2.size (fun k e => by have := (hr _ e).1; omega)⟩
theorem MapI.setCell {w W : World} {z n : Nat} {f : List UInt8 → Bool} (h : MapI w z n f W) {b : Nat} (hb : w.heap.size + 2 ≤ b) (v : Value) : MapI w z n f (W.setCell ⟨b, 0, none⟩ v) :=
  ⟨by have := h.1; simpa [World.setCell] using this, h.2.1.setOther (by omega) 0 v, h.2.2.1.setCell (by show w.heap.size ≠ b; omega) v, h.2.2.2.setCell (p := ⟨b, 0, none⟩) (by show w.heap.size ≤ b; omega) v⟩
theorem MapI.turn {w W W' : World} {z n n' : Nat} {f f' : List UInt8 → Bool} (h : MapI w z n f W) (hM : MapB W' w.heap.size n' f') (g : W.grownBy W' (some w.heap.size)) : MapI w z n' f' W' :=
  ⟨Nat.le_trans h.1 g.size, (g.block _ h.big (by simp)).trans h.2.1, hM, h.2.2.2.grown g h.2.2.2.size (fun k e => by cases e; exact Nat.le_refl _)⟩
theorem MapI.goes {w W W' : World} {z n n' b0 : Nat} {f f' : List UInt8 → Bool} (h : MapI w z n f W) (hM : MapB W' w.heap.size n' f') (g : W.grownBy W' (some w.heap.size)) (hz : z = b0 + 3) (hb : w.heap.size + 1 < b0) :
    KeepsFrom z W W' ∧ Box3 b0 W W' ∧ MapI w z n' f' W' :=
  ⟨KeepsFrom.of_grownBy g (fun j e => by cases e; omega), fun k h1 h2 => g.block k (by have := h.1; omega) (fun e => by cases e; omega), h.turn hM g⟩
/-- .. and the first loop's record of deferred calls. -/
def MapD (w : World) (z d n : Nat) (f : List UInt8 → Bool) (W : World) : Prop := MapI w z n f W ∧ W.heap[d]? = some (.deferred (some []))
theorem mapD_own (w : World) {z d B : Nat} (hB : w.heap.size + 2 ≤ B) (hd : d < B) (nf : List ByteArray → Nat) (ff : List ByteArray → List UInt8 → Bool) : OwnFrom B (fun pre W => MapD w z d (nf pre) (ff pre) W) := fun s W W' row h hg hr =>
  ⟨mapI_own w hB nf ff s W W' row h.1 hg hr, (hg.block _ (Array.getElem?_eq_some_iff.1 h.2).1 (fun e => by have := (hr _ e.symm).1; omega)).trans h.2⟩
theorem MapD.setCell {w W : World} {z d n : Nat} {f : List UInt8 → Bool} (h : MapD w z d n f W) {b : Nat} (hb : w.heap.size + 2 ≤ b) (hd : d ≠ b) (v : Value) : MapD w z d n f (W.setCell ⟨b, 0, none⟩ v) :=
  ⟨h.1.setCell hb v, (Below.heap_setCell W ⟨b, 0, none⟩ v d hd).trans h.2⟩
theorem MapD.turn {w W W' : World} {z d n n' : Nat} {f f' : List UInt8 → Bool} (h : MapD w z d n f W) (hM : MapB W' w.heap.size n' f') (g : W.grownBy W' (some w.heap.size)) (hd : w.heap.size < d) : MapD w z d n' f' W' :=
  ⟨h.1.turn hM g, (g.block _ (Array.getElem?_eq_some_iff.1 h.2).1 (fun e => by cases e; omega)).trans h.2⟩
theorem MapD.goes {w W W' : World} {z d n n' b0 : Nat} {f f' : List UInt8 → Bool} (h : MapD w z d n f W) (hM : MapB W' w.heap.size n' f') (g : W.grownBy W' (some w.heap.size)) (hz : z = b0 + 3) (hb : w.heap.size + 1 < b0) (hd : w.heap.size < d) :
    KeepsFrom z W W' ∧ Box3 b0 W W' ∧ MapD w z d n' f' W' :=
  ⟨KeepsFrom.of_grownBy g (fun j e => by cases e; omega), fun k h1 h2 => g.block k (by have := h.1.1; omega) (fun e => by cases e; omega), h.turn hM g hd⟩
theorem piece_count {l : List ByteArray} {pre suf : List ByteArray} {x : ByteArray} (hx : l = pre ++ x :: suf) (hl : l.length ≤ 1000) : pre.length < 1000 := by
  have := congrArg List.length hx; simp at this; omega
theorem piece_size {l : List ByteArray} {pre suf : List ByteArray} {x : ByteArray} (hx : l = pre ++ x :: suf) (hl : ∀ y ∈ l, y.size ≤ 1000) : x.size ≤ 1000 := hl x (by rw [hx]; simp)
set_option maxHeartbeats 3200000 in
set_option maxRecDepth 100000 in
theorem strip_any (oa : Option Addr) (xs : List Fd) (cap : Nat) (w : World) (hn : xs.length ≤ 10000) (hz : FldZ xs 100000) (hc : FldO w oa xs) :
    Calls Tryz.prog 48 #[.slice oa xs.length cap] w fun e w' => ∃ v, e = .returned v ∧ FBuf w' w.heap.size v (xs.filter (hopB (allL (bs nConn) xs))) ∧ Below w.heap.size w w' := by
  have HC := Lib.hid hc
  have HZ := Lib.hid hz
  have hmm := @run_makeMap Tryz.prog
  have b0 : Below w.heap.size w ((w.alloc (.map #[] 0)).alloc (.cells #[.map (some w.heap.size)] 95)) := ((Below.refl _ w).alloc (Nat.le_refl _) _).alloc (by simp) _
  have HA := Lib.hid (all_any oa xs cap ⟨#[67, 111, 110, 110, 101, 99, 116, 105, 111, 110]⟩ _ (by decide) hn hz (hc.down b0))
  have M0 := (mapB_made w).alloc (.cells #[.map (some w.heap.size)] 95)
  have R0 := RowAt.new (w.alloc (.map #[] 0)) [.map (some w.heap.size)] 95
  rw [World.size_alloc] at R0
  clear hc hz
  refine (callsIn_wide (n := 3)).1 ?_
  refine callsIn_of_wp_marks Tryz.func48 rfl trivial ?_
  refine wpIn_wide.2 ?_
  simp only [Tryz.ntmps48, List.size_toArray, List.length_cons, List.length_nil, Nat.reduceAdd, Nat.reduceSub, Array.replicate_succ, Array.replicate_zero, List.push_toArray, List.append_toArray, List.nil_append, List.cons_append]
  go_wp2_with fail
  refine HA.out.mono ?_
  rintro e w1 ⟨om, cm, ms, rfl, hms, SO, hb1⟩
  have hml : ms.length ≤ 64 := by rw [hms, List.length_map]; exact allL_len _ _
  have HMZ : Hid (∀ x ∈ ms, x.size ≤ 100000) := Lib.hid fun x hx => by
    rw [hms] at hx
    obtain ⟨y, hy, rfl⟩ := List.mem_map.1 hx
    exact allL_mem HZ.out hy
  have HMB := Lib.hid hms
  have HS := Lib.hid SO
  have b1 := step_b b0 hb1
  clear hms SO HA
  have M1 := M0.row (hb1.block w.heap.size (by simp; omega))
  have R1 : RowAt w1 (w.heap.size + 1) 95 [.map (some w.heap.size)] := (hb1.block (w.heap.size + 1) (by simp)).trans R0
  have z1 : w.heap.size + 2 ≤ w1.heap.size := by have := hb1.size; simp at this; omega
  obtain ⟨ls, hls⟩ : ∃ ls, ls = ms.map (fun m => lowL (bs m)) := ⟨_, rfl⟩
  have HLS := Lib.hid hls
  have hll : ls.length = ms.length := by rw [hls, List.length_map]
  have M1 : MapB w1 w.heap.size 0 (addF (ls.take 0) noF) := M1
  have HL : ∀ x : ByteArray, (⟨(lowL (bs x)).toArray⟩ : ByteArray).size = x.size := fun x => by show (lowL (bs x)).toArray.size = _; rw [List.size_toArray, lowL_length, bs_length]
  have HK : ∀ k : Nat, k < 1000000 → k < maxLen := fun k h => Nat.lt_of_lt_of_le h (by decide)
  have HLH := Lib.hid HL
  have HKH := Lib.hid HK
  clear hls M0 R0 hb1 b0 HL HK
  go_wp2_with fail
  go_loopw [15] (fun j wr => ∃ k : Nat, k ≤ ms.length ∧ j = .int .i64 k ∧ MapB wr w.heap.size k (addF (ls.take k) noF) ∧ w1.grownBy wr (some w.heap.size) ∧ Below w.heap.size w wr) (fun j _ => ms.length - (intOf j).toNat)
  case atStart => exact ⟨0, by omega, rfl, M1, grow_below _ (Below.refl _ _), b1⟩
  case round =>
    obtain ⟨k, hk, rfl, M, hg, hb⟩ := hrel
    by_cases hlt : k < ms.length
    · obtain ⟨x, hx⟩ : ∃ x, ms[k]? = some x := ⟨_, List.getElem?_eq_getElem hlt⟩
      obtain ⟨ad, rfl, hcx⟩ := (HS.out.grown M1 hg) k x hx
      have R := R1.grown hg (by omega) (by omega)
      have r0 := R.cell 0 rfl
      have hzr : w.heap.size + 1 < wr.heap.size := by have := hg.size; omega
      have zx := HMZ.out x (List.mem_of_getElem? hx)
      have Hs : Hid (addF (ls.take (k + 1)) noF = fun y => y == lowL (bs x) || addF (ls.take k) noF y) := Lib.hid (by
        rw [← addF_snoc]
        congr 1
        have hx' : ls[k]? = some (lowL (bs x)) := by rw [HLS.out, List.getElem?_map, hx]; rfl
        obtain ⟨hlt', e⟩ := List.getElem?_eq_some_iff.1 hx'
        rw [List.take_succ_eq_append_getElem hlt', e])
      clear hx
      go_wp2_with fail
      go_region_held3 (fun w' => w'.cell? ⟨w.heap.size + 1, 0, none⟩ = some (.map (some w.heap.size)) ∧ wr.grownBy w' (some w.heap.size)) (first | assumption | exact ⟨r0, grow_below _ (Below.refl _ _).drew⟩) (first | (go_at_call 78; refine (lower_any x _ (by omega)).mono ?_; rintro e w4 ⟨rfl, hb4⟩; have hb4 : Below wr.heap.size wr w4 := Below.trans (Below.refl wr.heap.size wr).drew hb4; obtain ⟨w5, hput, M5, g5⟩ := (M.row (hb4.block _ M.lt)).put (HKH.out k (by omega)) ⟨(lowL (bs x)).toArray⟩ (by rw [HLH.out x]; exact Nat.le_of_lt (HKH.out _ (by omega))); have r4 := RowAt.cell ((hb4.block _ hzr).trans R) 0 rfl; have S4 : w4.cell? ⟨w.heap.size + 1, 0, none⟩ = some (.map (some w.heap.size)) ∧ wr.grownBy w4 (some w.heap.size) := ⟨r4, grow_below _ hb4⟩; have S5 : w5.cell? ⟨w.heap.size + 1, 0, none⟩ = some (.map (some w.heap.size)) ∧ wr.grownBy w5 (some w.heap.size) := ⟨RowAt.cell ((g5.block _ (Nat.lt_of_lt_of_le hzr hb4.size) (by simp)).trans ((hb4.block _ hzr).trans R)) 0 rfl, grow_trans (grow_below _ hb4) g5⟩))
      have M6 : MapB w5 w.heap.size (k + 1) (addF (ls.take (k + 1)) noF) := by rw [Hs.out]; exact M5
      have b5 : Below w.heap.size w w5 := (step_b hb hb4).grown g5 (by have := hb.size; have := hb4.size; omega) (fun k e => by cases e; exact Nat.le_refl _)
      have G5 := S5.2
      clear M5 S4 S5 hput r4 g5 hb4
      go_wp2_with fail
      go_roundw
      case rel => exact ⟨k + 1, by omega, by go_num, M6, grow_trans hg G5, b5⟩
      case measure => simp [intOf]; omega
    · have hkm : k = ms.length := by omega
      subst hkm
      rw [← hll, List.take_length] at M
      go_wp2_with fail
      refine (splitseq_calls ⟨#[104, 111, 115, 116, 32, 99, 97, 99, 104, 101, 45, 99, 111, 110, 116, 114, 111, 108, 32, 118, 97, 114, 121, 32, 118, 97, 114, 105, 97, 110, 116, 115, 32, 118, 97, 114, 105, 97, 110, 116, 45, 107, 101, 121, 32, 118, 105, 97]⟩ _).mono ?_
      rintro e w2 ⟨rfl, hb2, hz2, T0, T1, T2⟩
      have M2 := M.row (hb2.block w.heap.size M.lt)
      have hzr : w.heap.size + 1 < wr.heap.size := by have := hg.size; omega
      have R2 : RowAt w2 (w.heap.size + 1) 95 [.map (some w.heap.size)] := (hb2.block (w.heap.size + 1) hzr).trans (R1.grown hg (by omega) (by omega))
      have b2 := step_b hb hb2
      have I2 : MapI w w2.heap.size ls.length (delF ([].map bs) (addF ls noF)) w2 := ⟨Nat.le_refl _, R2, M2, b2⟩
      obtain ⟨f0, hf0⟩ : ∃ f0, f0 = addF ls noF := ⟨_, rfl⟩
      rw [← hf0] at I2
      have HF0 := Lib.hid hf0
      have HZ2 := Lib.hid hz2
      clear M hg hb hb2 R1 M1 b1 hlt hk z1 M2 R2 b2 hf0 hz2
      go_wp2_with fail
      refine (wpIn_wide (n := 3)).1 ?_
      refine wpIn_range_own (a1 := ?a1) rfl (by omega) (gf := 129) (lb := #[.pointer (some ⟨wr.heap.size + 1, 0, none⟩), .pointer (some ⟨wr.heap.size, 0, none⟩), .pointer (some ⟨wr.heap.size + 2, 0, none⟩)]) rfl trivial (enters_of Tryz.func129 (by kernel_rfl) rfl) (b0 := wr.heap.size) (by rw [HZ2.out]; omega)
        (splitseq_gives _ wr.heap.size (wr.heap.size + 1) (wr.heap.size + 2) rfl rfl w2 2 (by omega) (by decide) T0 T1 T2) (fun pre W => MapI w w2.heap.size ls.length (delF (pre.map bs) f0) W) (mapI_own w (by have := HZ2.out; omega) _ _) (fun s W v h => h.setCell (by omega) v) I2 ?assign ?body ?done
      case assign =>
        intro l x W K hK
        gi_wp2
        exact hK
      case body =>
        rintro l pre x suf W hx h
        have r0 := h.2.1.cell 0 rfl
        have zx := piece_size hx (by decide)
        obtain ⟨W', hdel, M', g'⟩ := h.2.2.1.del x (Nat.le_of_lt (HKH.out _ (by omega))) 0
        have e := delF_snoc (pre.map bs) (bs x) f0
        have G := h.goes M' g' HZ2.out hzr
        rw [← e] at G
        gi_wp2
        show KeepsFrom _ _ _ ∧ Box3 _ _ _ ∧ _
        rw [List.map_append]
        exact G
      case done =>
        intro W h hK
        have hd : w2.heap.size < W.heap.size := (Array.getElem?_eq_some_iff.1 hK).1
        have hdw : w.heap.size < w2.heap.size := by have := HZ2.out; omega
        obtain ⟨f1, hf1⟩ : ∃ f1, f1 = delF (((spC [] (bs sixS)).map mkB).map bs) f0 := ⟨_, rfl⟩
        have h : MapI w w2.heap.size ls.length f1 W := by rw [hf1]; exact h
        have HF1 := Lib.hid hf1
        have HDF := Lib.hid hK
        clear hK hf1 T0 T1 T2 I2
        go_wp2_with fail
        refine (splitseq_calls _ _).mono ?_
        rintro e w3 ⟨rfl, hb3, hz3, T0, T1, T2⟩
        have I3 : MapD w w3.heap.size w2.heap.size (ls.length + ([] : List ByteArray).length) (addF ([].map bs) f1) w3 :=
          ⟨⟨Nat.le_refl _, (hb3.block (w.heap.size + 1) h.big).trans h.2.1, h.2.2.1.row (hb3.block w.heap.size h.2.2.1.lt), step_b h.2.2.2 hb3⟩, (hb3.block _ hd).trans HDF.out⟩
        have hbig : w.heap.size + 1 < W.heap.size := h.big
        have HZ3 := Lib.hid hz3
        clear h hb3 HDF hz3
        go_wp2_with fail
        refine (wpIn_wide (n := 3)).1 ?_
        refine wpIn_range_own (a1 := ?a2) rfl (by omega) (gf := 129) (lb := #[.pointer (some ⟨W.heap.size + 1, 0, none⟩), .pointer (some ⟨W.heap.size, 0, none⟩), .pointer (some ⟨W.heap.size + 2, 0, none⟩)]) rfl trivial (enters_of Tryz.func129 (by kernel_rfl) rfl) (b0 := W.heap.size) (by rw [HZ3.out]; omega)
          (splitseq_gives _ W.heap.size (W.heap.size + 1) (W.heap.size + 2) rfl rfl w3 2 (by omega) (by decide) T0 T1 T2) (fun pre V => MapD w w3.heap.size w2.heap.size (ls.length + pre.length) (addF (pre.map bs) f1) V) (mapD_own w (by have := HZ3.out; omega) (by have := HZ3.out; omega) _ _) (fun s W v h => h.setCell (by omega) (by omega) v) I3 ?assign ?body ?done
        case assign =>
          intro l x W K hK
          gi_wp2
          exact hK
        case body =>
          rintro l pre x suf V hx h
          have r0 := h.1.2.1.cell 0 rfl
          have zx := piece_size hx (by decide)
          have zp := piece_count hx (by decide)
          obtain ⟨W', hput, M', g'⟩ := h.1.2.2.1.put (HKH.out _ (by omega)) x (Nat.le_of_lt (HKH.out _ (by omega)))
          have e := addF_snoc (pre.map bs) (bs x) f1
          have G := h.goes M' g' HZ3.out hbig hdw
          rw [← e] at G
          gi_wp2
          show KeepsFrom _ _ _ ∧ Box3 _ _ _ ∧ _
          rw [List.map_append, List.length_append]
          exact G
        case done =>
          intro V h hK
          have HDV := Lib.hid hK
          have HV := Lib.hid h
          have hdv : w3.heap.size < V.heap.size := (Array.getElem?_eq_some_iff.1 hK).1
          clear hK h T0 T1 T2 I3
          obtain ⟨f2, hf2⟩ : ∃ f2, f2 = addF (((spC [] (bs tenS)).map mkB).map bs) f1 := ⟨_, rfl⟩
          have HF2 := Lib.hid hf2
          have hMV : Hid (∃ n, MapB V w.heap.size n f2) := Lib.hid ⟨_, by rw [hf2]; exact HV.out.1.2.2.1⟩
          have hRV : RowAt V (w.heap.size + 1) 95 [.map (some w.heap.size)] := HV.out.1.2.1
          have hbV : Below w.heap.size w V := HV.out.1.2.2.2
          have HDW := Lib.hid HV.out.2
          have zV : w.heap.size + 1 < V.heap.size := HV.out.1.big
          obtain ⟨p, hp⟩ : ∃ p : Fd → Bool, p = fun x => !(f2 (lowL (bs x.1))) := ⟨_, rfl⟩
          have HP := Lib.hid hp
          clear HV hf2 hp
          go_wp2_with fail
          go_loopw [8, 33] (fun v j wr => ∃ (k : Nat) (ys : List Fd), k ≤ xs.length ∧ j = .int .i64 k ∧ Hid (ys = (xs.take k).filter p) ∧ ys.length ≤ k ∧ FBuf wr V.heap.size v ys ∧ Below V.heap.size V wr) (fun _ j _ => xs.length - (intOf j).toNat)
          case atStart => exact ⟨0, [], by omega, rfl, Lib.hid rfl, by simp, FBuf.nil_ _ _, Below.refl _ _⟩
          case round =>
            obtain ⟨k, ys, hk, rfl, HY, hyl, FB, hb⟩ := hrel
            by_cases hlt : k < xs.length
            · obtain ⟨x, hx⟩ : ∃ x, xs[k]? = some x := ⟨_, List.getElem?_eq_getElem hlt⟩
              obtain ⟨ad, rfl, c0, c1⟩ := ((HC.out.down hbV).down hb).at hx
              have zx := (HZ.out x (List.mem_of_getElem? hx)).1
              have hl10 : ys.length + 1 ≤ 1000000 := by omega
              have zr := hb.size
              obtain ⟨ob, cb, rfl, FO⟩ := FB.shape
              clear FO
              obtain ⟨A, hA⟩ : ∃ A, A = (wr.alloc (.cells #[.string x.1, .string x.2] 58)) := ⟨_, rfl⟩
              have HAe := Lib.hid hA
              have hbA : Below V.heap.size V A := by rw [hA]; exact hb.alloc zr _
              have rA : RowAt A (w.heap.size + 1) 95 [.map (some w.heap.size)] := (hbA.block _ zV).trans hRV
              have sA : RowAt A wr.heap.size 58 [.string x.1, .string x.2] := by rw [hA]; exact RowAt.new wr _ _
              have FBA : FBuf A V.heap.size (.slice ob ys.length cb) ys := by rw [hA]; exact FB.alloc _
              have zA2 : wr.heap.size < A.heap.size := by rw [hA]; simp
              have zA1 : w.heap.size + 1 < A.heap.size := by omega
              have zA0 : w.heap.size < A.heap.size := by omega
              have rA0 := rA.cell 0 rfl
              have sA0 := sA.cell 0 rfl
              obtain ⟨n0, MV⟩ := hMV.out
              clear hA FB hb
              cases hkp : f2 (lowL (bs x.1)) with
              | false =>
                have HKP := Lib.hid hkp
                have HS := Lib.hid (ftake_keep (p := p) hx (by rw [HP.out]; simp [hkp]))
                clear hx hkp
                go_wp2_with fail
                rw [← HAe.out]
                go_region_held3 (fun w' => w'.cell? ⟨w.heap.size + 1, 0, none⟩ = some (.map (some w.heap.size)) ∧ w'.cell? ⟨wr.heap.size, 0, none⟩ = some (.string x.1) ∧ Below A.heap.size A w') (first | assumption | exact ⟨rA0, sA0, (Below.refl A.heap.size A).drew⟩) (first | (go_at_call 78; refine (lower_any x.1 _ (by omega)).mono ?_; rintro e w4 ⟨rfl, hb4⟩; have hb4 : Below A.heap.size A w4 := Below.trans (Below.refl A.heap.size A).drew hb4; have L4 := ((MV.row (hbA.block _ MV.lt)).row (hb4.block _ zA0)).look ⟨(lowL (bs x.1)).toArray⟩ (by rw [HLH.out x.1]; exact Nat.le_of_lt (HKH.out _ (by omega))); rw [show f2 (bs ⟨(lowL (bs x.1)).toArray⟩) = false from HKP.out] at L4; have S4 : w4.cell? ⟨w.heap.size + 1, 0, none⟩ = some (.map (some w.heap.size)) ∧ w4.cell? ⟨wr.heap.size, 0, none⟩ = some (.string x.1) ∧ Below A.heap.size A w4 := ⟨RowAt.cell ((hb4.block _ zA1).trans rA) 0 rfl, RowAt.cell ((hb4.block _ zA2).trans sA) 0 rfl, hb4⟩))
                have F4 := sA.below hb4
                have FB4 := FBA.below hb4 (by omega)
                have b4 := step_b hbA hb4
                have z4 : V.heap.size ≤ w4.heap.size := b4.size
                clear S4 L4 hb4 hbA rA sA FBA rA0 sA0 c0 c1
                have e0 := F4.cell 0 rfl
                have e1 := F4.cell 1 rfl
                go_wp2_with (at_builtin; refine wpList_append_fld rfl (.tmp 43) (.tmp 45) rfl V _ V.heap.size _ ys rfl (FB4.alloc _) (b4.alloc z4 _) (le_alloc z4 _) ⟨w4.heap.size, 0, none⟩ x rfl (new_f0 w4 x _) (new_f1 w4 x _) hl10 ?_)
                intro v5 w5 FB5 hb5 z5
                clear FB4 F4 b4 z4 e0 e1
                go_wp2_with fail
                go_roundw
                case rel => exact ⟨k + 1, ys ++ [x], by omega, by go_num, Lib.hid (by rw [HS.out, HY.out]), by simp; omega, FB5, hb5⟩
                case measure => simp [intOf]; omega
              | true =>
                have HKP := Lib.hid hkp
                have HS := Lib.hid (ftake_skip (p := p) hx (by rw [HP.out]; simp [hkp]))
                clear hx hkp
                go_wp2_with fail
                rw [← HAe.out]
                go_region_held3 (fun w' => w'.cell? ⟨w.heap.size + 1, 0, none⟩ = some (.map (some w.heap.size)) ∧ w'.cell? ⟨wr.heap.size, 0, none⟩ = some (.string x.1) ∧ Below A.heap.size A w') (first | assumption | exact ⟨rA0, sA0, (Below.refl A.heap.size A).drew⟩) (first | (go_at_call 78; refine (lower_any x.1 _ (by omega)).mono ?_; rintro e w4 ⟨rfl, hb4⟩; have hb4 : Below A.heap.size A w4 := Below.trans (Below.refl A.heap.size A).drew hb4; have L4 := ((MV.row (hbA.block _ MV.lt)).row (hb4.block _ zA0)).look ⟨(lowL (bs x.1)).toArray⟩ (by rw [HLH.out x.1]; exact Nat.le_of_lt (HKH.out _ (by omega))); rw [show f2 (bs ⟨(lowL (bs x.1)).toArray⟩) = true from HKP.out] at L4; have S4 : w4.cell? ⟨w.heap.size + 1, 0, none⟩ = some (.map (some w.heap.size)) ∧ w4.cell? ⟨wr.heap.size, 0, none⟩ = some (.string x.1) ∧ Below A.heap.size A w4 := ⟨RowAt.cell ((hb4.block _ zA1).trans rA) 0 rfl, RowAt.cell ((hb4.block _ zA2).trans sA) 0 rfl, hb4⟩))
                have FB4 := FBA.below hb4 (by omega)
                have b4 := step_b hbA hb4
                clear S4 L4 hb4 hbA rA sA FBA rA0 sA0 c0 c1
                go_wp2_with fail
                go_roundw
                case rel => exact ⟨k + 1, ys, by omega, by go_num, Lib.hid (by rw [HS.out]; exact HY.out), by omega, FB4, b4⟩
                case measure => simp [intOf]; omega
            · have HF : Hid (xs.filter p = ys) := Lib.hid (by rw [HY.out, List.take_of_length_le (by omega)])
              go_wp2_with fail
              have d3 : wr.heap[w3.heap.size]? = some (.deferred (some [])) := (hb.block _ hdv).trans HDV.out
              have h23 : w2.heap.size ≠ w3.heap.size := by have := HZ3.out; omega
              have h2v : w2.heap.size < V.heap.size := (Array.getElem?_eq_some_iff.1 HDW.out).1
              have d2 : (wr.putObj w3.heap.size (.deferred none)).heap[w2.heap.size]? = some (.deferred (some [])) :=
                (World.putObj_heap_other h23).trans ((hb.block _ h2v).trans HDW.out)
              refine ⟨by simp, .inl ⟨_, _, rfl, run_takeDeferred d3, ?_⟩⟩
              refine ⟨by simp, .inl ⟨_, _, rfl, run_takeDeferred d2, ?_⟩⟩
              refine ⟨_, results_tmp rfl _ _ _, _, rfl, ?_, ?_⟩
              · have F := (FB.others hdv (w' := wr.putObj w3.heap.size (.deferred none)) fun k hk => World.putObj_heap_other hk).others h2v (w' := (wr.putObj w3.heap.size (.deferred none)).putObj w2.heap.size (.deferred none)) fun k hk => World.putObj_heap_other hk
                rw [← HF.out] at F
                have F := F.lower (Nat.le_of_lt (Nat.lt_of_succ_lt zV))
                have hpp : p = hopB (allL (bs nConn) xs) := by
                  rw [HP.out]; unfold hopB dropF
                  rw [HF2.out, HF1.out, HF0.out, HLS.out, HMB.out, map_low]
                rw [hpp] at F
                exact F
              · have q1 := step_b hbV hb
                exact (q1.grown (grownBy_putObj' _ w3.heap.size _) q1.size (fun k e => by cases e; have := HZ3.out; omega)).grown (grownBy_putObj' _ w2.heap.size _) (by have := q1.size; simpa using this) (fun k e => by cases e; omega)
theorem addF_eq (l : List (List UInt8)) (f : List UInt8 → Bool) (x : List UInt8) : addF l f x = (l.any (fun y => x == y) || f x) := by
  induction l generalizing f with
  | nil => rfl
  | cons y t ih => show addF t (fun z => z == y || f z) x = _; rw [ih, List.any_cons]; cases t.any (fun y => x == y) <;> cases (x == y) <;> simp
theorem delF_eq (l : List (List UInt8)) (f : List UInt8 → Bool) (x : List UInt8) : delF l f x = (!(l.any (fun y => x == y)) && f x) := by
  induction l generalizing f with
  | nil => simp [delF]
  | cons y t ih => show delF t (fun z => !(z == y) && f z) x = _; rw [ih, List.any_cons]; cases t.any (fun y => x == y) <;> cases (x == y) <;> simp
theorem oneB_any (n : List UInt8) (l : List (List UInt8)) : oneB n l = (l.map lowL).any (fun y => lowL n == y) := by
  induction l with
  | nil => rfl
  | cons y t ih =>
    rw [oneB, ih, List.map_cons, List.any_cons]
    congr 1
    unfold foldB
    by_cases h : lowL n = lowL y
    · have : n.length = y.length := by have := congrArg List.length h; simpa [lowL_length] using this
      simp [h, this]
    · simp [h]
theorem ten_eq : ((spC [] (bs tenS)).map mkB).map bs = (fixedN.map bs).map lowL := by decide
theorem six_eq : ((spC [] (bs sixS)).map mkB).map bs = (keptN.map bs).map lowL := by decide
theorem hop_strip (conn : List (List UInt8)) (x : Fd) : hopB conn x = stripB conn x := by
  unfold hopB stripB dropF
  rw [addF_eq, delF_eq, addF_eq, ten_eq, six_eq, ← oneB_any, ← oneB_any, ← oneB_any]
  unfold noF
  rw [Bool.or_false]
  cases oneB (bs x.1) (fixedN.map bs) <;> cases oneB (bs x.1) conn <;> cases oneB (bs x.1) (keptN.map bs) <;> rfl
theorem hop_stripL (xs : List Fd) : xs.filter (hopB (allL (bs nConn) xs)) = stripL xs := by
  unfold stripL; congr 1; funext x; exact hop_strip _ x
end Go.Proofs.YtjafkpedocdfjaaGreatDoor
