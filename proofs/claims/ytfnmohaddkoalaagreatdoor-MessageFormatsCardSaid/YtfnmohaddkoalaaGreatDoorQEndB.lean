/- A request in chunks and the same one with a Content-Length, in plain terms (layer 6). No program in sight. The lines of a written message, one after the other (layer 6). No program in sight. The walks of the reference's hexadecimal and EncodeChunks (5.4). Printed by gen_chunkl.py. The walk of MessageChunked (law 6): it returns true. Printed by gen_msgm.py. The walks of Bodiless and FormatResponse, of the program and of the reference (6.4, 6.5). Printed by gen_fmtr.py. The walk of MessageFormats (law 6): it returns true. Printed by gen_msgo.py. -/
import Derived.Test.YtfnmohaddkoalaaGreatDoorQMsgF
import Derived.Test.YtfnmohaddkoalaaGreatDoorQMsgG
import Derived.Test.YtfnmohaddkoalaaGreatDoorQFieldW
import Derived.Test.YtfnmohaddkoalaaGreatDoorQPre
import Derived.Test.YtfnmohaddkoalaaGreatDoorQDecodeW
import Derived.Test.YtfnmohaddkoalaaGreatDoorQRParseW
import Derived.Deep.RegionHeld3
import Derived.IntWalk
import Derived.Test.YtfnmohaddkoalaaGreatDoorQEnd
namespace Go.Proofs.YtfnmohaddkoalaaGreatDoor
set_option linter.unusedSimpArgs false
set_option linter.unusedVariables false

/-- "Chunked". -/
abbrev chUp : List UInt8 := [67, 104, 117, 110, 107, 101, 100]
theorem te_line : FLine (lineS teN chUp) ∧ lineF (lineS teN chUp) = mkF (teN, chUp) := fline_sp (by decide +kernel) (by decide)
/-- The start line and the fields. -/
def topB (st : List UInt8) (fs : List Fd) : List UInt8 := linesB (st :: (unfrL fs).map fmtF)
/-- The request in chunks. -/
def chunkedL (st : List UInt8) (fs : List Fd) (b : List UInt8) (size : Int) : List UInt8 := topB st fs ++ (lineS teN chUp ++ 13 :: 10 :: 13 :: 10 :: encL b size)
theorem head_split (st : List UInt8) (fs : List Fd) (n : Int) : linesB (headLs st fs n) = topB st fs ++ linesB (clLs n) := by
  unfold headLs topB
  rw [← List.cons_append, linesB_app]
theorem te_parts (fs : List Fd) : getF clN (unfrL fs ++ [mkF (teN, chUp)]) = [] ∧ getF teN (unfrL fs ++ [mkF (teN, chUp)]) = [⟨chUp.toArray⟩] ∧ getF hoN (unfrL fs ++ [mkF (teN, chUp)]) = getF hoN fs ∧ unfrL (unfrL fs ++ [mkF (teN, chUp)]) = unfrL fs := by
  obtain ⟨h1, h2⟩ := unfr_cl fs
  refine ⟨?_, ?_, ?_, ?_⟩
  · rw [getF_two, h1, show getF clN [mkF (teN, chUp)] = [] by decide +kernel]; rfl
  · rw [getF_two, h2, show getF teN [mkF (teN, chUp)] = [⟨chUp.toArray⟩] by decide +kernel]; rfl
  · rw [getF_two, unfr_ho, show getF hoN [mkF (teN, chUp)] = [] by decide +kernel, List.append_nil]
  · have e : ∀ (a b : List Fd), unfrL (a ++ b) = unfrL a ++ unfrL b := fun a b => by unfold unfrL; rw [List.filter_append]
    rw [e, unfr_twice, show unfrL [mkF (teN, chUp)] = [] by decide +kernel, List.append_nil]
/-- Both are read as the same request, or both have the same error. -/
theorem chunked_same {m t : List UInt8} {v : Int} {fs : List Fd} {b : List UInt8} (size : Int) (hs : msgL (reqF m t v) fs b.length b ≠ []) (hb : b.length ≤ 100000) (hl : (linesB (headLs (reqF m t v) fs b.length)).length + 2 ≤ 15900) (h60 : (unfrL fs).length ≤ 60) :
    (parseQ (msgL (reqF m t v) fs b.length b) = (req0, 0, 6) ∧ parseQ (chunkedL (reqF m t v) fs b size) = (req0, 0, 6)) ∨
    (parseQ (msgL (reqF m t v) fs b.length b) = (⟨m, t, v, unfrL fs, b⟩, (msgL (reqF m t v) fs b.length b).length, 0) ∧ parseQ (chunkedL (reqF m t v) fs b size) = (⟨m, t, v, unfrL fs, b⟩, (chunkedL (reqF m t v) fs b size).length, 0)) := by
  obtain ⟨h1, h2, h3, h4, h5⟩ := msg_ne hs
  have hr := reqF_ne h1
  have hn1 : (b.length : Int) ≤ 100000 := by omega
  have hn0 : ¬ (b.length : Int) < 0 := by omega
  obtain ⟨hL, hF⟩ := lines_read hn1 h3
  obtain ⟨p1, p2, p3, p4⟩ := read_parts fs b.length
  have h6 : ((unfrL fs).map fmtF ++ clLs b.length).length ≤ 64 := by
    rw [List.length_append, List.length_map]
    have : (clLs (b.length : Int)).length ≤ 1 := by unfold clLs; split <;> simp
    omega
  have PA := parse_lines (x := reqF m t v) (L := (unfrL fs).map fmtF ++ clLs b.length) b (req_line hr) hr h6 hL h4
  rw [hF, read_fr hn1, p3, p4, read_bd hn1, if_neg hn0, if_neg (show ¬ (b.length : Int) < (b.length : Int) by omega), Int.toNat_natCast, List.take_length, if_neg (by simp)] at PA
  have ht : (topB (reqF m t v) fs).length ≤ 15900 := by
    rw [head_split, List.length_append] at hl; omega
  have hTL : ∀ y ∈ (unfrL fs).map fmtF ++ [lineS teN chUp], FLine y := fun y hy => by
    rcases List.mem_append.1 hy with hy | hy
    · exact hL y (List.mem_append_left _ hy)
    · rw [List.mem_singleton] at hy; subst hy; exact te_line.1
  have hTF : ((unfrL fs).map fmtF ++ [lineS teN chUp]).map lineF = unfrL fs ++ [mkF (teN, chUp)] := by
    have := (lines_read (fs := fs) (n := -1) (by omega) h3).2
    rw [show clLs (-1) = [] from rfl, List.append_nil, show readF fs (-1) = unfrL fs ++ [] from rfl, List.append_nil] at this
    rw [List.map_append, this, List.map_singleton, te_line.2]
  have e1 : linesB (reqF m t v :: ((unfrL fs).map fmtF ++ [lineS teN chUp])) = topB (reqF m t v) fs ++ (lineS teN chUp ++ [13, 10]) := by
    rw [← List.cons_append, linesB_app]; rfl
  have hte : (lineS teN chUp).length = 26 := rfl
  have PB := parse_lines (x := reqF m t v) (L := (unfrL fs).map fmtF ++ [lineS teN chUp]) (encL b size) (req_line hr) hr (by rw [List.length_append, List.length_map]; simp; omega) hTL (by rw [e1]; simp only [List.length_append, List.length_cons, List.length_nil, hte]; omega)
  obtain ⟨q1, q2, q3, q4⟩ := te_parts fs
  have hdec : decL (encL b size) = (b, (encL b size).length, 0) := by
    have := dec_back b [] size hb
    rwa [List.append_nil] at this
  have hfr : frL (unfrL fs ++ [mkF (teN, chUp)]) = 0 := by
    unfold frL; rw [q1, q2]; decide +kernel
  have hbd : bdL (unfrL fs ++ [mkF (teN, chUp)]) (encL b size) = (b, (encL b size).length, 0) := by
    unfold bdL; rw [q1, q2]; exact hdec
  rw [hTF, hfr, q3, q4, hbd, if_neg (by simp), e1] at PB
  have eB : chunkedL (reqF m t v) fs b size = topB (reqF m t v) fs ++ (lineS teN chUp ++ [13, 10]) ++ 13 :: 10 :: encL b size := by unfold chunkedL; simp
  have eA : msgL (reqF m t v) fs b.length b = linesB (reqF m t v :: ((unfrL fs).map fmtF ++ clLs b.length)) ++ 13 :: 10 :: b := h5
  rw [eA, eB, PA, PB]
  by_cases hh : 1 < (getF hoN fs).length ∨ (getF hoN fs).length = 0 ∧ v = 1
  · left
    rw [if_pos hh, if_pos hh]
    exact ⟨rfl, rfl⟩
  · right
    rw [if_neg hh, if_neg hh, if_neg (by simp), if_neg (by simp)]
    refine ⟨Prod.ext rfl (Prod.ext ?_ rfl), Prod.ext rfl (Prod.ext ?_ rfl)⟩
    · show (linesB (reqF m t v :: _)).length + 2 + b.length = (linesB (reqF m t v :: _) ++ 13 :: 10 :: b).length
      simp only [List.length_append, List.length_cons]; omega
    · show (topB (reqF m t v) fs ++ (lineS teN chUp ++ [13, 10])).length + 2 + (encL b size).length = (topB (reqF m t v) fs ++ (lineS teN chUp ++ [13, 10]) ++ 13 :: 10 :: encL b size).length
      simp only [List.length_append, List.length_cons]; omega
end Go.Proofs.YtfnmohaddkoalaaGreatDoor
namespace Go.Proofs.YtfnmohaddkoalaaGreatDoor
set_option linter.unusedSimpArgs false
set_option linter.unusedVariables false

def linesOK (Ls : List (List UInt8)) : Prop := ∀ x ∈ Ls, (∀ c ∈ x, lineC c = true) ∧ x.length ≤ 2000
theorem drop_past (x r : List UInt8) (n : Nat) : (x ++ 13 :: 10 :: r).drop (x.length + 2 + n) = r.drop n := by
  rw [← List.drop_drop, drop_line]
theorem lines_at (rest : List UInt8) : ∀ (Ls : List (List UInt8)) (k : Nat) (x : List UInt8), linesOK Ls → Ls[k]? = some x → nextL ((linesB Ls ++ rest).drop (linesB (Ls.take k)).length) = (x, x.length + 2, 0)
  | [], k, x, _, hk => by simp at hk
  | y :: r, 0, x, h, hk => by
    simp only [List.getElem?_cons_zero, Option.some.injEq] at hk
    subst hk
    have e : linesB (y :: r) ++ rest = y ++ 13 :: 10 :: (linesB r ++ rest) := by simp [linesB]
    rw [e]
    exact nextL_ok _ (h y (by simp)).1 (h y (by simp)).2
  | y :: r, k + 1, x, h, hk => by
    simp only [List.getElem?_cons_succ] at hk
    have e : linesB (y :: r) ++ rest = y ++ 13 :: 10 :: (linesB r ++ rest) := by simp [linesB]
    have e2 : (linesB ((y :: r).take (k + 1))).length = y.length + 2 + (linesB (r.take k)).length := by
      simp only [List.take_succ_cons, linesB, List.length_append, List.length_cons]; omega
    rw [e, e2, drop_past]
    exact lines_at rest r k x (fun z hz => h z (by simp [hz])) hk
theorem lines_step {Ls : List (List UInt8)} {k : Nat} {x : List UInt8} (hk : Ls[k]? = some x) : (linesB (Ls.take (k + 1))).length = (linesB (Ls.take k)).length + (x.length + 2) := by
  rw [List.take_add_one, hk, show (some x).toList = [x] from rfl, linesB_snoc, List.length_append, List.length_append]; rfl
theorem lines_upto (Ls : List (List UInt8)) (k : Nat) : (linesB (Ls.take k)).length ≤ (linesB Ls).length := by
  have : linesB Ls = linesB (Ls.take k) ++ linesB (Ls.drop k) := by rw [← linesB_app, List.take_append_drop]
  rw [this, List.length_append]; omega
/-- The lines ahead of the length. -/
def topLs (st : List UInt8) (us : List Fd) : List (List UInt8) := st :: us.map fmtF
theorem top_ok {m t : List UInt8} {v : Int} {fs : List Fd} {n : Int} {b : List UInt8} (h : msgL (reqF m t v) fs n b ≠ []) : linesOK (topLs (reqF m t v) (unfrL fs)) := by
  obtain ⟨h1, _, h3, _, _⟩ := msg_ne h
  have hr := reqF_ne h1
  intro x hx
  unfold topLs at hx
  rcases List.mem_cons.1 hx with rfl | hx
  · exact ⟨req_line hr, (reqL_inv hr).1⟩
  · obtain ⟨f, hf, rfl⟩ := List.mem_map.1 hx
    have := form_line (h3 f hf)
    exact ⟨this.1, this.2.2⟩
theorem msg_top {st : List UInt8} {fs : List Fd} {n : Int} {b : List UInt8} (h : msgL st fs n b ≠ []) : msgL st fs n b = linesB (topLs st (unfrL fs)) ++ (linesB (clLs n) ++ 13 :: 10 :: b) := by
  obtain ⟨_, _, _, _, h5⟩ := msg_ne h
  rw [h5, lines_head, List.append_assoc]; rfl
theorem encGo_len6 {n : Nat} (hn : 0 < n) : ∀ (f : Nat) (l : List UInt8), l.length ≤ 3000 → (encGo f n l).length ≤ 13 * l.length + 5
  | 0, l, _ => by rw [encGo]; simp
  | f + 1, l, hl => by
    by_cases h : l = []
    · rw [h, enc_nil]; simp
    · have hp := List.length_pos_iff.2 h
      rw [enc_step h]
      have h1 := hexN_len 8 (min n l.length) (by omega) (by have : (16 : Nat) ^ 8 = 4294967296 := by decide
                                                            omega)
      have h2 := encGo_len6 hn f (l.drop (min n l.length)) (by rw [List.length_drop]; omega)
      simp only [List.length_append, List.length_cons, List.length_take]
      rw [List.length_drop] at h2
      omega
theorem enc_len6 {l : List UInt8} (n : Int) (hl : l.length ≤ 3000) : (encL l n).length ≤ 39005 := by
  unfold encL
  by_cases h : l = []
  · rw [h, enc_nil]; simp
  · have hp := List.length_pos_iff.2 h
    by_cases h1 : n < 1
    · rw [if_pos h1]; have := encGo_len6 hp (l.length + 1) l hl; omega
    · rw [if_neg h1]; have := encGo_len6 (n := n.toNat) (by omega) (l.length + 1) l hl; omega
end Go.Proofs.YtfnmohaddkoalaaGreatDoor
namespace Go.Proofs.YtfnmohaddkoalaaGreatDoor
open Go.RowKit Go.Shelf
set_option linter.unusedSimpArgs false

theorem bs_cat (a b : ByteArray) : bs (a ++ b) = bs a ++ bs b := by unfold bs; rw [ByteArray.data_append, Array.toList_append]
theorem hexN_cons {u : Nat} (h : 16 ≤ u) : hexN u = hexN (u / 16) ++ [lowD (u % 16)] := hexN_more (by omega)
/-- The digits of a number, nothing for 0. -/
def hexR (u : Nat) : List UInt8 := if u = 0 then [] else hexN u
theorem hexR_step {u : Nat} (h : 0 < u) : hexR u = hexR (u / 16) ++ [lowD (u % 16)] := by
  unfold hexR
  rw [if_neg (by omega)]
  by_cases h16 : u < 16
  · rw [hexN_one h16, if_pos (by omega), show u % 16 = u by omega]; rfl
  · rw [if_neg (by omega), hexN_more h16]
theorem hexR_pos {u : Nat} (h : 0 < u) : hexR u = hexN u := by unfold hexR; rw [if_neg (by omega)]
theorem hexR_len {u : Nat} (h : u ≤ 4294967295) : (hexR u).length ≤ 8 := by
  unfold hexR
  split
  · simp
  · exact hexN_len 8 u (by omega) (by have : (16 : Nat) ^ 8 = 4294967296 := by decide
                                      omega)
theorem run_dig (n : Nat) (h : n < 16) (w : World) : (Instr.slice 9 (.string hexTc) (some (.int .i64 (n : Int))) (some (.int .i64 ((n : Int) + 1))) none).run Tryz.prog w = .ok (.string ⟨[lowD n].toArray⟩) w := by
  rcases (show n = 0 ∨ n = 1 ∨ n = 2 ∨ n = 3 ∨ n = 4 ∨ n = 5 ∨ n = 6 ∨ n = 7 ∨ n = 8 ∨ n = 9 ∨ n = 10 ∨ n = 11 ∨ n = 12 ∨ n = 13 ∨ n = 14 ∨ n = 15 from by omega) with rfl | rfl | rfl | rfl | rfl | rfl | rfl | rfl | rfl | rfl | rfl | rfl | rfl | rfl | rfl | rfl <;> kernel_rfl
set_option maxHeartbeats 1600000 in
theorem rhexa_any (n : Nat) (w : World) (hn : n ≤ 4294967295) :
    Calls Tryz.prog 34 #[.int .i64 n] w fun e w' => e = .returned (.string ⟨(hexR n).toArray⟩) ∧ w = w' := by
  go_enter Tryz.func34, Tryz.ntmps34
  go_wp2_with fail
  go_loop [0, 3] (fun j v => ∃ (u : Nat) (B : ByteArray), u ≤ 4294967295 ∧ j = .int .i64 u ∧ v = .string B ∧ Hid (hexR n = hexR u ++ bs B) ∧ B.size ≤ 8) (fun j _ => (intOf j).toNat)
  case atStart => exact ⟨n, ⟨#[]⟩, hn, rfl, rfl, Lib.hid (by show hexR n = hexR n ++ []; simp), by show 0 ≤ 8; omega⟩
  case round =>
    obtain ⟨u, B, hu, rfl, rfl, HH, hB⟩ := hrel
    by_cases h0 : 0 < u
    · have h0' : 0 < (u : Int) := by omega
      obtain ⟨d, hd⟩ : ∃ d : Nat, d = u % 16 := ⟨_, rfl⟩
      have hd16 : d < 16 := by omega
      have hm : (u : Int) % 16 = (d : Int) := by omega
      obtain ⟨q, hq⟩ : ∃ q : Nat, q = u / 16 := ⟨_, rfl⟩
      have hq' : (u : Int) / 16 = (q : Int) := by omega
      obtain ⟨B2, hB2⟩ : ∃ B2 : ByteArray, B2 = ⟨[lowD d].toArray⟩ ++ B := ⟨_, rfl⟩
      obtain ⟨E, hE⟩ : ∃ E : ByteArray, E = ⟨[lowD d].toArray⟩ := ⟨_, rfl⟩
      have zE : E.size = 1 := by rw [hE]; rfl
      have p1 : ∀ wx, (Instr.slice 9 (.string hexTc) (some (.int .i64 (d : Int))) (some (.int .i64 ((d : Int) + 1))) none).run Tryz.prog wx = .ok (.string E) wx := fun wx => by rw [hE]; exact run_dig d hd16 wx
      have s1 : ∀ wx, (Op.stringOp .add E B).run Tryz.prog wx = .ok (.string B2) wx := fun wx => by
        rw [hB2, ← hE]; exact run_string_add_sum wx _ _ (by omega)
      have hst := hexR_step h0
      have HH2 : Hid (hexR n = hexR q ++ bs B2) := Lib.hid (by
        rw [HH.out, hst, ← hd, ← hq, hB2, bs_cat, List.append_assoc])
      have hl8 := hexR_len hn
      have zB2 : B2.size ≤ 8 := by
        rw [HH2.out, List.length_append, bs_length] at hl8; omega
      have hqu : q < u := by omega
      clear hd hq hB2 hE hst hl8 zE
      go_wp2_with fail
      go_round
      case rel => exact ⟨q, B2, by omega, by rw [← hq'], rfl, HH2, zB2⟩
      case measure => simp [intOf]; omega
    · have h0' : ¬ 0 < (u : Int) := by omega
      have HE : Hid (B = ⟨(hexR n).toArray⟩) := Lib.hid (by
        rw [HH.out, show u = 0 by omega]; rfl)
      go_wp2_with fail
      go_ret
      exact ⟨by rw [← HE.out]; rfl, rfl⟩
theorem enc_step2 {f N : Nat} {C D P X : ByteArray} {m : Nat} (h : 0 < C.size) (hm : m = min N C.size) (hm0 : 0 < m) (hP : P = C.extract 0 m) (hD : D = C.extract m C.size) (hX : X = ⟨(hexR m).toArray⟩) :
    encGo (f + 1) N (bs C) = bs X ++ ([13, 10] ++ (bs P ++ ([13, 10] ++ encGo f N (bs D)))) := by
  have hl : (bs C).length = C.size := bs_length C
  have hne : bs C ≠ [] := fun e => by rw [e] at hl; simp at hl; omega
  rw [enc_step hne, hl, ← hm, hP, hD, ext_take, ext_from, hX, hexR_pos hm0]; simp [bs]
set_option maxRecDepth 100000 in
set_option maxHeartbeats 1600000 in
theorem rencode_any (s : ByteArray) (sz : Int) (w : World) (hs : s.size ≤ 3000) :
    Calls Tryz.prog 14 #[.string s, .int .i64 sz] w fun e w' => e = .returned (.string ⟨(encL (bs s) sz).toArray⟩) ∧ Below w.heap.size w w' := by
  by_cases h1 : sz < 1
  · go_enter Tryz.func14, Tryz.ntmps14
    go_wp2_with fail
    have hN : s.size = 0 ∨ 1 ≤ s.size := by omega
    have HE0 : Hid (encL (bs s) sz = [] ++ encGo (s.size + 1) s.size (bs s)) := Lib.hid (by rw [List.nil_append]; unfold encL; rw [bs_length]; rw [if_pos (by omega)])
    generalize hL : encL (bs s) sz = L at HE0
    have HL := Lib.hid hL
    clear hL
    go_loopw [0, 5] (fun j v wr => ∃ (C O : ByteArray) (f : Nat), Below w.heap.size w wr ∧ j = .string C ∧ v = .string O ∧ C.size < f ∧ C.size ≤ s.size ∧ O.size + 13 * C.size ≤ 13 * s.size ∧ Hid (L = bs O ++ encGo f s.size (bs C))) (fun j _ _ => match j with | .string c => c.size | _ => 0)
    case atStart => exact ⟨s, ⟨#[]⟩, s.size + 1, Below.refl _ _, rfl, rfl, by omega, by omega, by show 0 + _ ≤ _; omega, HE0⟩
    case round =>
      obtain ⟨C, O, f, hbr, rfl, rfl, hf, hC, hO, HE⟩ := hrel
      by_cases h0 : 0 < C.size
      · have h0' : 0 < (C.size : Int) := by omega
        obtain ⟨g, hg⟩ : ∃ g, f = g + 1 := ⟨f - 1, by omega⟩
        obtain ⟨m, hm⟩ : ∃ m : Nat, m = min s.size C.size := ⟨_, rfl⟩
        have hmC : m ≤ C.size := by omega
        have hm0 : 0 < m := by omega
        have hmi : min (s.size : Int) (C.size : Int) = (m : Int) := by omega
        obtain ⟨X, hX⟩ : ∃ X : ByteArray, X = ⟨(hexR m).toArray⟩ := ⟨_, rfl⟩
        have zX : X.size ≤ 8 := by rw [hX]; exact hexR_len (by omega)
        have HX : ∀ wx, Calls Tryz.prog 34 #[.int .i64 (m : Int)] wx fun e w' => e = .returned (.string X) ∧ w' = wx := fun wx => by rw [hX]; exact (rhexa_any m wx (by omega)).mono fun _ _ h => ⟨h.1, h.2.symm⟩
        obtain ⟨P, hP⟩ : ∃ P : ByteArray, P = C.extract 0 m := ⟨_, rfl⟩
        obtain ⟨Q, hQ⟩ : ∃ Q : ByteArray, Q = C.extract m C.size := ⟨_, rfl⟩
        have zP : P.size = m := by rw [hP, ByteArray.size_extract]; omega
        have zQ : Q.size = C.size - m := by rw [hQ, ByteArray.size_extract]; omega
        have p1 : ∀ wx, (Instr.slice 9 (.string C) none (some (.int .i64 (m : Int))) none).run Tryz.prog wx = .ok (.string P) wx := fun wx => by rw [hP]; exact run_to2 C m _ rfl hmC wx
        have p2 : ∀ wx, (Instr.slice 9 (.string C) (some (.int .i64 (m : Int))) none none).run Tryz.prog wx = .ok (.string Q) wx := fun wx => by rw [hQ]; exact run_from2 C m _ rfl hmC wx
        obtain ⟨E1, hE1⟩ : ∃ E : ByteArray, E = X ++ ⟨#[13, 10]⟩ := ⟨_, rfl⟩
        obtain ⟨E2, hE2⟩ : ∃ E : ByteArray, E = E1 ++ P := ⟨_, rfl⟩
        obtain ⟨E3, hE3⟩ : ∃ E : ByteArray, E = E2 ++ ⟨#[13, 10]⟩ := ⟨_, rfl⟩
        obtain ⟨E4, hE4⟩ : ∃ E : ByteArray, E = O ++ E3 := ⟨_, rfl⟩
        have z1 : E1.size = X.size + 2 := by rw [hE1, ByteArray.size_append]; rfl
        have z2 : E2.size = E1.size + P.size := by rw [hE2, ByteArray.size_append]
        have z3 : E3.size = E2.size + 2 := by rw [hE3, ByteArray.size_append]; rfl
        have z4 : E4.size = O.size + E3.size := by rw [hE4, ByteArray.size_append]
        have s1 : ∀ wx, (Op.stringOp .add X ⟨#[13, 10]⟩).run Tryz.prog wx = .ok (.string E1) wx := fun wx => by rw [hE1]; exact run_string_add_sum wx _ _ (by show _ + 2 ≤ _; omega)
        have s2 : ∀ wx, (Op.stringOp .add E1 P).run Tryz.prog wx = .ok (.string E2) wx := fun wx => by rw [hE2]; exact run_string_add_sum wx _ _ (by omega)
        have s3 : ∀ wx, (Op.stringOp .add E2 ⟨#[13, 10]⟩).run Tryz.prog wx = .ok (.string E3) wx := fun wx => by rw [hE3]; exact run_string_add_sum wx _ _ (by show _ + 2 ≤ _; omega)
        have s4 : ∀ wx, (Op.stringOp .add O E3).run Tryz.prog wx = .ok (.string E4) wx := fun wx => by rw [hE4]; exact run_string_add_sum wx _ _ (by omega)
        have HE2 : Hid (L = bs E4 ++ encGo g s.size (bs Q)) := Lib.hid (by
          rw [HE.out, hg, enc_step2 h0 hm hm0 hP hQ hX, hE4, hE3, hE2, hE1]
          simp only [bs_cat, List.append_assoc])
        have hO2 : E4.size + 13 * Q.size ≤ 13 * s.size := by omega
        have hQs : Q.size < C.size := by omega
        have hQg : Q.size < g := by omega
        clear hE1 hE2 hE3 hE4 z1 z2 z3 z4 hP hQ hX zX zP zQ hm hg
        go_wp2_with fail
        go_quiet ((go_at_call 34; exact Calls.quiet_of_same (HX _)))
        have b4 := below_drewN hbr nq
        generalize wr.drewN nq = w4 at b4 ⊢
        go_wp2_with fail
        go_round
        case rel => exact ⟨Q, E4, g, b4, rfl, rfl, hQg, by omega, hO2, HE2⟩
        case measure => exact hQs
      · have h0' : ¬ 0 < (C.size : Int) := by omega
        obtain ⟨E4, hE4⟩ : ∃ E : ByteArray, E = O ++ ⟨#[48, 13, 10, 13, 10]⟩ := ⟨_, rfl⟩
        have s4 : ∀ wx, (Op.stringOp .add O ⟨#[48, 13, 10, 13, 10]⟩).run Tryz.prog wx = .ok (.string E4) wx := fun wx => by rw [hE4]; exact run_string_add_sum wx _ _ (by show _ + 5 ≤ _; omega)
        have HE2 : Hid (E4 = ⟨L.toArray⟩) := Lib.hid (by
          have hl : (bs C).length = C.size := bs_length C
          have e0 : bs C = [] := List.length_eq_zero_iff.1 (by omega)
          rw [HE.out, e0, enc_nil, hE4]
          apply ByteArray.ext
          simp [bs])
        clear hE4
        go_wp2_with fail
        go_ret
        exact ⟨by rw [HE2.out, HL.out]; rfl, hbr⟩
  · obtain ⟨N, hNz⟩ : ∃ N : Nat, sz = N := ⟨sz.toNat, by omega⟩
    subst hNz
    go_enter Tryz.func14, Tryz.ntmps14
    go_wp2_with fail
    have hN : s.size = 0 ∨ 1 ≤ N := by omega
    have HE0 : Hid (encL (bs s) (N : Int) = [] ++ encGo (s.size + 1) N (bs s)) := Lib.hid (by rw [List.nil_append]; unfold encL; rw [bs_length]; rw [if_neg (by omega)]; rfl)
    generalize hL : encL (bs s) (N : Int) = L at HE0
    have HL := Lib.hid hL
    clear hL
    go_loopw [0, 5] (fun j v wr => ∃ (C O : ByteArray) (f : Nat), Below w.heap.size w wr ∧ j = .string C ∧ v = .string O ∧ C.size < f ∧ C.size ≤ s.size ∧ O.size + 13 * C.size ≤ 13 * s.size ∧ Hid (L = bs O ++ encGo f N (bs C))) (fun j _ _ => match j with | .string c => c.size | _ => 0)
    case atStart => exact ⟨s, ⟨#[]⟩, s.size + 1, Below.refl _ _, rfl, rfl, by omega, by omega, by show 0 + _ ≤ _; omega, HE0⟩
    case round =>
      obtain ⟨C, O, f, hbr, rfl, rfl, hf, hC, hO, HE⟩ := hrel
      by_cases h0 : 0 < C.size
      · have h0' : 0 < (C.size : Int) := by omega
        obtain ⟨g, hg⟩ : ∃ g, f = g + 1 := ⟨f - 1, by omega⟩
        obtain ⟨m, hm⟩ : ∃ m : Nat, m = min N C.size := ⟨_, rfl⟩
        have hmC : m ≤ C.size := by omega
        have hm0 : 0 < m := by omega
        have hmi : min (N : Int) (C.size : Int) = (m : Int) := by omega
        obtain ⟨X, hX⟩ : ∃ X : ByteArray, X = ⟨(hexR m).toArray⟩ := ⟨_, rfl⟩
        have zX : X.size ≤ 8 := by rw [hX]; exact hexR_len (by omega)
        have HX : ∀ wx, Calls Tryz.prog 34 #[.int .i64 (m : Int)] wx fun e w' => e = .returned (.string X) ∧ w' = wx := fun wx => by rw [hX]; exact (rhexa_any m wx (by omega)).mono fun _ _ h => ⟨h.1, h.2.symm⟩
        obtain ⟨P, hP⟩ : ∃ P : ByteArray, P = C.extract 0 m := ⟨_, rfl⟩
        obtain ⟨Q, hQ⟩ : ∃ Q : ByteArray, Q = C.extract m C.size := ⟨_, rfl⟩
        have zP : P.size = m := by rw [hP, ByteArray.size_extract]; omega
        have zQ : Q.size = C.size - m := by rw [hQ, ByteArray.size_extract]; omega
        have p1 : ∀ wx, (Instr.slice 9 (.string C) none (some (.int .i64 (m : Int))) none).run Tryz.prog wx = .ok (.string P) wx := fun wx => by rw [hP]; exact run_to2 C m _ rfl hmC wx
        have p2 : ∀ wx, (Instr.slice 9 (.string C) (some (.int .i64 (m : Int))) none none).run Tryz.prog wx = .ok (.string Q) wx := fun wx => by rw [hQ]; exact run_from2 C m _ rfl hmC wx
        obtain ⟨E1, hE1⟩ : ∃ E : ByteArray, E = X ++ ⟨#[13, 10]⟩ := ⟨_, rfl⟩
        obtain ⟨E2, hE2⟩ : ∃ E : ByteArray, E = E1 ++ P := ⟨_, rfl⟩
        obtain ⟨E3, hE3⟩ : ∃ E : ByteArray, E = E2 ++ ⟨#[13, 10]⟩ := ⟨_, rfl⟩
        obtain ⟨E4, hE4⟩ : ∃ E : ByteArray, E = O ++ E3 := ⟨_, rfl⟩
        have z1 : E1.size = X.size + 2 := by rw [hE1, ByteArray.size_append]; rfl
        have z2 : E2.size = E1.size + P.size := by rw [hE2, ByteArray.size_append]
        have z3 : E3.size = E2.size + 2 := by rw [hE3, ByteArray.size_append]; rfl
        have z4 : E4.size = O.size + E3.size := by rw [hE4, ByteArray.size_append]
        have s1 : ∀ wx, (Op.stringOp .add X ⟨#[13, 10]⟩).run Tryz.prog wx = .ok (.string E1) wx := fun wx => by rw [hE1]; exact run_string_add_sum wx _ _ (by show _ + 2 ≤ _; omega)
        have s2 : ∀ wx, (Op.stringOp .add E1 P).run Tryz.prog wx = .ok (.string E2) wx := fun wx => by rw [hE2]; exact run_string_add_sum wx _ _ (by omega)
        have s3 : ∀ wx, (Op.stringOp .add E2 ⟨#[13, 10]⟩).run Tryz.prog wx = .ok (.string E3) wx := fun wx => by rw [hE3]; exact run_string_add_sum wx _ _ (by show _ + 2 ≤ _; omega)
        have s4 : ∀ wx, (Op.stringOp .add O E3).run Tryz.prog wx = .ok (.string E4) wx := fun wx => by rw [hE4]; exact run_string_add_sum wx _ _ (by omega)
        have HE2 : Hid (L = bs E4 ++ encGo g N (bs Q)) := Lib.hid (by
          rw [HE.out, hg, enc_step2 h0 hm hm0 hP hQ hX, hE4, hE3, hE2, hE1]
          simp only [bs_cat, List.append_assoc])
        have hO2 : E4.size + 13 * Q.size ≤ 13 * s.size := by omega
        have hQs : Q.size < C.size := by omega
        have hQg : Q.size < g := by omega
        clear hE1 hE2 hE3 hE4 z1 z2 z3 z4 hP hQ hX zX zP zQ hm hg
        go_wp2_with fail
        go_quiet ((go_at_call 34; exact Calls.quiet_of_same (HX _)))
        have b4 := below_drewN hbr nq
        generalize wr.drewN nq = w4 at b4 ⊢
        go_wp2_with fail
        go_round
        case rel => exact ⟨Q, E4, g, b4, rfl, rfl, hQg, by omega, hO2, HE2⟩
        case measure => exact hQs
      · have h0' : ¬ 0 < (C.size : Int) := by omega
        obtain ⟨E4, hE4⟩ : ∃ E : ByteArray, E = O ++ ⟨#[48, 13, 10, 13, 10]⟩ := ⟨_, rfl⟩
        have s4 : ∀ wx, (Op.stringOp .add O ⟨#[48, 13, 10, 13, 10]⟩).run Tryz.prog wx = .ok (.string E4) wx := fun wx => by rw [hE4]; exact run_string_add_sum wx _ _ (by show _ + 5 ≤ _; omega)
        have HE2 : Hid (E4 = ⟨L.toArray⟩) := Lib.hid (by
          have hl : (bs C).length = C.size := bs_length C
          have e0 : bs C = [] := List.length_eq_zero_iff.1 (by omega)
          rw [HE.out, e0, enc_nil, hE4]
          apply ByteArray.ext
          simp [bs])
        clear hE4
        go_wp2_with fail
        go_ret
        exact ⟨by rw [HE2.out, HL.out]; rfl, hbr⟩
end Go.Proofs.YtfnmohaddkoalaaGreatDoor
namespace Go.Proofs.YtfnmohaddkoalaaGreatDoor
open Go.RowKit Go.Shelf
set_option linter.unusedSimpArgs false
set_option linter.unusedVariables false

theorem sent_of_chunked {W : World} (h : laidMetH Tryz.prog Rows.messageChunkedRow.laid W) : SentOf W := by
  rw [MakeChecks.laidMetH_plain _ _ _ (by kernel_rfl)] at h
  exact sent_of_two h.tail
theorem numQ_post (b : ByteArray) : numQ ⟨#[80, 79, 83, 84]⟩ b = ((bs b).length : Int) := by
  have : lenQ ⟨#[80, 79, 83, 84]⟩ b = true := by
    unfold lenQ
    rw [show ((⟨#[80, 79, 83, 84]⟩ : ByteArray).toList == [80, 79, 83, 84]) = true by rw [Lib.toList_data]; rfl]
    simp
  unfold numQ
  rw [if_pos this, bs_length]
theorem msgL_len6 (st : List UInt8) (fs : List Fd) (n : Int) (b : List UInt8) : (msgL st fs n b).length ≤ 16000 + b.length := by
  unfold msgL
  split
  · simp
  · split
    · simp
    · rw [List.length_append]; simp only [List.length_cons]; omega
theorem ckeep {w1 w2 w3 : World} {p : Addr} {v : Value} (h : w1.cell? p = some v ∧ Below w3.heap.size w3 w1) (hb : Below w1.heap.size w1 w2) : w2.cell? p = some v ∧ Below w3.heap.size w3 w2 := ⟨(hb.cell (cell_lt h.1)).trans h.1, step_b h.2 hb⟩
/-- Both readings in the walk's words. -/
theorem chunked_words {t : List UInt8} {v : Int} {us : List Fd} {b : ByteArray} (size : Int) {X : ByteArray} (hX : bs X = msgL (reqF (bs ⟨#[80, 79, 83, 84]⟩) t v) us (bs b).length (bs b)) (h0 : bs X ≠ []) (hb : b.size ≤ 2000) (hl : X.size ≤ 15900 + b.size) (hu : us.length ≤ 60) (huu : unfrL us = us) :
    ∃ (Ls : List (List UInt8)) (rest : List UInt8) (q : ReqP) (n1 n2 : Nat) (er : Int), linesOK Ls ∧ Ls.length = us.length + 1 ∧ bs X = linesB Ls ++ rest ∧ parseQ (bs X) = (q, n1, er) ∧ parseQ (linesB Ls ++ bs ⟨#[84, 114, 97, 110, 115, 102, 101, 114, 45, 69, 110, 99, 111, 100, 105, 110, 103, 58, 32, 67, 104, 117, 110, 107, 101, 100, 13, 10, 13, 10]⟩ ++ encL (bs b) size) = (q, n2, er) ∧ q.xs.length ≤ 60 ∧
      (er = 6 ∨ er = 0 ∧ n1 = X.size ∧ n2 = (linesB Ls ++ bs ⟨#[84, 114, 97, 110, 115, 102, 101, 114, 45, 69, 110, 99, 111, 100, 105, 110, 103, 58, 32, 67, 104, 117, 110, 107, 101, 100, 13, 10, 13, 10]⟩ ++ encL (bs b) size).length) := by
  have hne : msgL (reqF (bs ⟨#[80, 79, 83, 84]⟩) t v) us (bs b).length (bs b) ≠ [] := by rw [← hX]; exact h0
  have hsz : X.size = (bs X).length := (bs_length X).symm
  obtain ⟨h1, h2, h3, h4, h5⟩ := msg_ne hne
  have hl2 : (linesB (headLs (reqF (bs ⟨#[80, 79, 83, 84]⟩) t v) us (bs b).length)).length + 2 ≤ 15900 := by
    rw [hX, h5, List.length_append] at hsz
    simp only [List.length_cons, bs_length] at hsz ⊢
    omega
  have hcs := chunked_same size hne (by rw [bs_length]; omega) hl2 (by have := unfr_len us; omega)
  rw [← hX, huu] at hcs
  have hT : chunkedL (reqF (bs ⟨#[80, 79, 83, 84]⟩) t v) us (bs b) size = linesB (topLs (reqF (bs ⟨#[80, 79, 83, 84]⟩) t v) us) ++ bs ⟨#[84, 114, 97, 110, 115, 102, 101, 114, 45, 69, 110, 99, 111, 100, 105, 110, 103, 58, 32, 67, 104, 117, 110, 107, 101, 100, 13, 10, 13, 10]⟩ ++ encL (bs b) size := by
    unfold chunkedL topB topLs
    rw [huu]
    simp [lineS, bs]
  rw [hT] at hcs
  have hok := top_ok hne
  rw [huu] at hok
  have htop := msg_top hne
  rw [huu, ← hX] at htop
  have hlen : (topLs (reqF (bs ⟨#[80, 79, 83, 84]⟩) t v) us).length = us.length + 1 := by unfold topLs; simp
  rcases hcs with ⟨ha, hb2⟩ | ⟨ha, hb2⟩
  · exact ⟨_, _, _, _, _, _, hok, hlen, htop, ha, hb2, by show ([] : List Fd).length ≤ 60; simp, .inl rfl⟩
  · exact ⟨_, _, _, _, _, _, hok, hlen, htop, ha, hb2, hu, .inr ⟨rfl, bs_length X, rfl⟩⟩
set_option maxHeartbeats 3200000 in
set_option maxRecDepth 100000 in
theorem chunked6_walk (m t : ByteArray) (v : Int) (oa : Option Addr) (xs : List Fd) (cap : Nat) (b : ByteArray) (size : Int) (w : World) (hn : xs.length ≤ 9223372036854775807) (_ : m.size ≤ 9223372036854775807) (_ : t.size ≤ 9223372036854775807) (_ : b.size ≤ 9223372036854775807) (hmw : (Lit.int .i64 v).wf = true) (hc : FldO w oa xs) (hsw : (Lit.int .i64 size).wf = true) (hS : SentOf w) (hM : MaxOf w) :
    Calls Tryz.prog 3 #[.agg (reqC m t v (.slice oa xs.length cap) b).toArray, .int .i64 size] w fun e w' => e = .returned (.bool true) ∧ Below w.heap.size w w' := by
  have ha := alloc_b w (.cells (reqC m t v (.slice oa xs.length cap) b).toArray 24)
  have V0 := RowAt.new w (reqC m t v (.slice oa xs.length cap) b) 24
  have HC := Lib.hid hc
  have HE := Lib.hid (ReqEnv.of hS hM)
  obtain ⟨v0, v1⟩ := bounds_i64 hmw
  clear hc hS hM hmw
  cases hk : keepQB m t b xs with
  | false =>
    have HK := Lib.hid hk
    clear hk
    go_enter Tryz.func3, Tryz.ntmps3
    go_wp2_with fail
    refine (keepQ_any m t v oa xs cap b _ hn (HC.out.down ha)).mono ?_
    rintro e w1 ⟨rfl, hb1⟩
    rw [HK.out]
    have V1 := V0.below hb1
    have b1 := step_b ha hb1
    have z1 : w.heap.size + 1 ≤ w1.heap.size := Nat.le_trans (by rw [World.size_alloc]; omega) hb1.size
    clear V0 hb1 ha
    go_wp2_with fail
    go_ret
    exact ⟨rfl, b1⟩
  | true =>
  obtain ⟨k1, k2, k3, k4, k5⟩ := keepQB_true hk
  have HK := Lib.hid hk
  clear hk
  by_cases h0 : 60 < (xs.length : Int)
  · skip
    go_enter Tryz.func3, Tryz.ntmps3
    go_wp2_with fail
    refine (keepQ_any m t v oa xs cap b _ hn (HC.out.down ha)).mono ?_
    rintro e w1 ⟨rfl, hb1⟩
    rw [HK.out]
    have V1 := V0.below hb1
    have b1 := step_b ha hb1
    have z1 : w.heap.size + 1 ≤ w1.heap.size := Nat.le_trans (by rw [World.size_alloc]; omega) hb1.size
    clear V0 hb1 ha
    have a0 := V1.cell 0 rfl
    have a1 := V1.cell 1 rfl
    have a2 := V1.cell 2 rfl
    have a3 := V1.cell 3 rfl
    have a4 := V1.cell 4 rfl
    go_wp2_with fail
    go_ret
    exact ⟨rfl, b1⟩
  go_enter Tryz.func3, Tryz.ntmps3
  go_wp2_with fail
  refine (keepQ_any m t v oa xs cap b _ hn (HC.out.down ha)).mono ?_
  rintro e w1 ⟨rfl, hb1⟩
  rw [HK.out]
  have V1 := V0.below hb1
  have b1 := step_b ha hb1
  have z1 : w.heap.size + 1 ≤ w1.heap.size := Nat.le_trans (by rw [World.size_alloc]; omega) hb1.size
  clear V0 hb1 ha
  have a0 := V1.cell 0 rfl
  have a1 := V1.cell 1 rfl
  have a2 := V1.cell 2 rfl
  have a3 := V1.cell 3 rfl
  have a4 := V1.cell 4 rfl
  go_wp2_with fail
  refine (unframed_any oa xs cap w1 (by omega) (fun x hx => by have := k5 x hx; omega) (HC.out.down b1)).mono ?_
  rintro e w2 ⟨vu, rfl, FU, hb2⟩
  obtain ⟨us, hus⟩ : ∃ us, us = unfrL xs := ⟨_, rfl⟩
  rw [← hus] at FU
  obtain ⟨ou, cu, rfl, _⟩ := FU.shape
  have V2 := V1.below hb2
  have b2 := step_b b1 hb2
  clear V1 hb2 b1 a0 a1 a2 a3 a4
  have a0 := V2.cell 0 rfl
  have a1 := V2.cell 1 rfl
  have a2 := V2.cell 2 rfl
  have a3 := V2.cell 3 rfl
  have a4 := V2.cell 4 rfl
  have f3 := V2.free 3
  have f0 := V2.free 0
  have V3 : RowAt ((w2.setCell ⟨w.heap.size, 3, none⟩ (.slice ou us.length cu)).setCell ⟨w.heap.size, 0, none⟩ (.string ⟨#[80, 79, 83, 84]⟩)) w.heap.size 24 (reqC ⟨#[80, 79, 83, 84]⟩ t v (.slice ou us.length cu) b) := (V2.set 3 (.slice ou us.length cu)).set 0 (.string ⟨#[80, 79, 83, 84]⟩)
  have b3 := (b2.setCell (p := ⟨w.heap.size, 3, none⟩) (Nat.le_refl _) (.slice ou us.length cu)).setCell (p := ⟨w.heap.size, 0, none⟩) (Nat.le_refl _) (.string ⟨#[80, 79, 83, 84]⟩)
  have FU3 : FBuf ((w2.setCell ⟨w.heap.size, 3, none⟩ (.slice ou us.length cu)).setCell ⟨w.heap.size, 0, none⟩ (.string ⟨#[80, 79, 83, 84]⟩)) w1.heap.size (.slice ou us.length cu) us := (FU.other (show w.heap.size < w1.heap.size by omega) (fun k hk => heap_setCell_other _ _ _ _ hk)).other (show w.heap.size < w1.heap.size by omega) (fun k hk => heap_setCell_other _ _ _ _ hk)
  have HU := Lib.hid FU3.fld
  have hul : us.length ≤ 60 := by rw [hus]; have := unfr_len xs; omega
  have huz : FldZ us 300 := by rw [hus]; exact fldz_filter k5
  have huu : unfrL us = us := by rw [hus]; exact unfr_twice xs
  clear V2 b2 FU FU3
  have g0 := V3.cell 0 rfl
  have g1 := V3.cell 1 rfl
  have g2 := V3.cell 2 rfl
  have g3 := V3.cell 3 rfl
  have g4 := V3.cell 4 rfl
  have HUS := Lib.hid hus
  clear hus
  obtain ⟨w3, hw3⟩ : ∃ W, W = ((w2.setCell ⟨w.heap.size, 3, none⟩ (.slice ou us.length cu)).setCell ⟨w.heap.size, 0, none⟩ (.string ⟨#[80, 79, 83, 84]⟩)) := ⟨_, rfl⟩
  rw [← hw3] at V3 b3 HU g0 g1 g2 g3 g4
  have HW3 := Lib.hid hw3
  obtain ⟨X, hX⟩ : ∃ X : ByteArray, X = ⟨(reqW ⟨#[80, 79, 83, 84]⟩ t v us b).toArray⟩ := ⟨_, rfl⟩
  have hXb : bs X = msgL (reqF (bs ⟨#[80, 79, 83, 84]⟩) (bs t) v) us (bs b).length (bs b) := by rw [hX, ← numQ_post b]; rfl
  have zX : X.size ≤ 18000 := by rw [hX]; have := msgL_len6 (reqF (bs ⟨#[80, 79, 83, 84]⟩) (bs t) v) us (numQ ⟨#[80, 79, 83, 84]⟩ b) (bs b); rw [bs_length] at this; show (reqW ⟨#[80, 79, 83, 84]⟩ t v us b).length ≤ _; unfold reqW; omega
  have HRF : Hid (∀ W, Below w3.heap.size w3 W → Calls Tryz.prog 10 #[.agg (reqC ⟨#[80, 79, 83, 84]⟩ t v (.slice ou us.length cu) b).toArray] W fun e w' => e = .returned (.string X) ∧ Below W.heap.size W w') := Lib.hid fun W hW => by
    rw [hX]; exact rfmtQ_any ⟨#[80, 79, 83, 84]⟩ t v ou us cu b W (by decide) k2 k3 (by omega) huz (HU.out.down hW) v0 v1
  have HXB := Lib.hid hXb
  clear hX hXb
  go_wp2_with fail
  rw [← HW3.out]
  clear a0 a1 a2 a3 a4 f3 f0 hw3 HW3
  refine (HRF.out _ (Below.refl _ _)).mono ?_
  rintro e w4 ⟨rfl, hb4⟩
  have V4 := V3.below hb4
  clear V3 g0 g1 g2 g3 g4
  have a0 := V4.cell 0 rfl
  have a1 := V4.cell 1 rfl
  have a2 := V4.cell 2 rfl
  have a3 := V4.cell 3 rfl
  have a4 := V4.cell 4 rfl
  by_cases hx0 : X.size = 0
  · obtain ⟨e1, e2⟩ := femp_yes hx0
    clear e2 hx0
    go_wp2_with fail
    refine (awake6_any w4 (HE.out.below (step_b b3 hb4))).mono ?_
    rintro e w10 ⟨rfl, hb10⟩
    go_wp2_with fail
    go_ret
    exact ⟨rfl, step_b (step_b b3 hb4) hb10⟩
  obtain ⟨e1, e2⟩ := femp_no hx0
  by_cases hbig : 15900 < (X.size : Int) - (b.size : Int)
  · clear e2 hx0
    go_wp2_with fail
    refine (awake6_any w4 (HE.out.below (step_b b3 hb4))).mono ?_
    rintro e w10 ⟨rfl, hb10⟩
    go_wp2_with fail
    go_ret
    exact ⟨rfl, step_b (step_b b3 hb4) hb10⟩
  obtain ⟨Ls, rest, q, n1, n2, er, hok, hlen, htop, hp1, hp2, hql, her⟩ := chunked_words size HXB.out e2 (by omega) (by omega) hul huu
  obtain ⟨N, hN⟩ : ∃ N : Nat → Nat, ∀ k, N k = (linesB (Ls.take k)).length := ⟨fun k => (linesB (Ls.take k)).length, fun k => rfl⟩
  have hN0 : N 0 = 0 := by rw [hN]; rfl
  have hLX : (linesB Ls).length ≤ X.size := by rw [← bs_length, htop, List.length_append]; omega
  have HNX : Hid (∀ (k : Nat), k < us.length + 1 → ∀ wx, ∃ Y : ByteArray, Calls Tryz.prog 13 #[.string X, .int .i64 (N k : Int)] wx fun e w' => e = .returned (.tuple #[.string Y, .int .i64 (N (k + 1) : Int), .int .i64 0]) ∧ wx = w') := Lib.hid fun k hk wx => by
    obtain ⟨x, hx⟩ : ∃ x, Ls[k]? = some x := ⟨_, List.getElem?_eq_getElem (by omega)⟩
    have hNk : N k ≤ X.size := by rw [hN]; have := lines_upto Ls k; omega
    have h9 := rnext_any X (N k) wx hNk (by omega)
    rw [htop, hN, lines_at rest Ls k x hok hx] at h9
    refine ⟨⟨x.toArray⟩, ?_⟩
    rw [hN (k + 1), lines_step hx, hN]
    exact h9
  have hNE : N (us.length + 1) = (linesB Ls).length := by rw [hN, ← hlen, List.take_length]
  obtain ⟨p, hp⟩ : ∃ p, p = N (us.length + 1) := ⟨_, rfl⟩
  have hpX : p ≤ X.size := by rw [hp, hNE]; exact hLX
  obtain ⟨Y, hY⟩ : ∃ Y : ByteArray, Y = X.extract 0 p := ⟨_, rfl⟩
  have p2 : ∀ wx, (Instr.slice 9 (.string X) none (some (.int .i64 (p : Int))) none).run Tryz.prog wx = .ok (.string Y) wx := fun wx => by rw [hY]; exact run_to2 X p _ rfl hpX wx
  have hYb : bs Y = linesB Ls := by rw [hY, ext_take, htop, hp, hNE, List.take_left' rfl]
  have zY : Y.size ≤ X.size := by rw [hY, ByteArray.size_extract]; omega
  obtain ⟨E, hE⟩ : ∃ E : ByteArray, E = ⟨(encL (bs b) size).toArray⟩ := ⟨_, rfl⟩
  have hEb : bs E = encL (bs b) size := by rw [hE]
  have zE : E.size ≤ 39005 := by rw [hE]; exact enc_len6 size (by rw [bs_length]; omega)
  have HEN : Hid (∀ wx, Calls Tryz.prog 14 #[.string b, .int .i64 size] wx fun e w' => e = .returned (.string E) ∧ Below wx.heap.size wx w') := Lib.hid fun wx => by
    rw [hE]; exact rencode_any b size wx (by omega)
  obtain ⟨T1, hT1⟩ : ∃ E : ByteArray, E = Y ++ ⟨#[84, 114, 97, 110, 115, 102, 101, 114, 45, 69, 110, 99, 111, 100, 105, 110, 103, 58, 32, 67, 104, 117, 110, 107, 101, 100, 13, 10, 13, 10]⟩ := ⟨_, rfl⟩
  obtain ⟨T2, hT2⟩ : ∃ Z : ByteArray, Z = T1 ++ E := ⟨_, rfl⟩
  have zT1 : T1.size = Y.size + 30 := by rw [hT1, ByteArray.size_append]; rfl
  have zT2 : T2.size = T1.size + E.size := by rw [hT2, ByteArray.size_append]
  have sT1 : ∀ wx, (Op.stringOp .add Y ⟨#[84, 114, 97, 110, 115, 102, 101, 114, 45, 69, 110, 99, 111, 100, 105, 110, 103, 58, 32, 67, 104, 117, 110, 107, 101, 100, 13, 10, 13, 10]⟩).run Tryz.prog wx = .ok (.string T1) wx := fun wx => by rw [hT1]; exact run_string_add_sum wx _ _ (by have e0 : (⟨#[84, 114, 97, 110, 115, 102, 101, 114, 45, 69, 110, 99, 111, 100, 105, 110, 103, 58, 32, 67, 104, 117, 110, 107, 101, 100, 13, 10, 13, 10]⟩ : ByteArray).size = 30 := rfl; omega)
  have sT2 : ∀ wx, (Op.stringOp .add T1 E).run Tryz.prog wx = .ok (.string T2) wx := fun wx => by rw [hT2]; exact run_string_add_sum wx _ _ (by omega)
  have hTb : bs T2 = linesB Ls ++ bs ⟨#[84, 114, 97, 110, 115, 102, 101, 114, 45, 69, 110, 99, 111, 100, 105, 110, 103, 58, 32, 67, 104, 117, 110, 107, 101, 100, 13, 10, 13, 10]⟩ ++ encL (bs b) size := by rw [hT2, cat6, hT1, cat6, hYb, hEb]
  have zT : T2.size ≤ 1000000 := by omega
  rw [← hTb] at hp2 her
  rw [bs_length] at her
  obtain ⟨M, hMm⟩ : ∃ M : ByteArray, M = ⟨q.m.toArray⟩ := ⟨_, rfl⟩
  obtain ⟨T, hTm⟩ : ∃ M : ByteArray, M = ⟨q.t.toArray⟩ := ⟨_, rfl⟩
  obtain ⟨B, hBm⟩ : ∃ M : ByteArray, M = ⟨q.b.toArray⟩ := ⟨_, rfl⟩
  have HPX : Hid (∀ wx, ReqEnv wx → Calls Tryz.prog 12 #[.string X] wx fun e w' => ∃ oz cz, e = .returned (.tuple #[.agg (reqC M T q.v (.slice oz q.xs.length cz) B).toArray, .int .i64 (n1 : Int), .int .i64 er]) ∧ FldO w' oz q.xs ∧ Below wx.heap.size wx w') := Lib.hid fun wx h => by
    have h9 := parseE_any X wx (by omega) h
    rw [hp1] at h9
    refine h9.mono ?_
    rintro e w' ⟨vf, rfl, FB, hb⟩
    obtain ⟨oz, cz, rfl, FO⟩ := FB.shape
    rw [hMm, hTm, hBm]
    exact ⟨oz, cz, rfl, FO, hb⟩
  have HPT : Hid (∀ wx, ReqEnv wx → Calls Tryz.prog 12 #[.string T2] wx fun e w' => ∃ oz cz, e = .returned (.tuple #[.agg (reqC M T q.v (.slice oz q.xs.length cz) B).toArray, .int .i64 (n2 : Int), .int .i64 er]) ∧ FldO w' oz q.xs ∧ Below wx.heap.size wx w') := Lib.hid fun wx h => by
    have h9 := parseE_any T2 wx zT h
    rw [hp2] at h9
    refine h9.mono ?_
    rintro e w' ⟨vf, rfl, FB, hb⟩
    obtain ⟨oz, cz, rfl, FO⟩ := FB.shape
    rw [hMm, hTm, hBm]
    exact ⟨oz, cz, rfl, FO, hb⟩
  have HER := Lib.hid her
  have HP := Lib.hid hp
  have HN0 := Lib.hid hN0
  clear hMm hTm hBm hTb hT1 hT2 zT1 zT2 hEb hE hYb hY hp hNE hp1 hp2 her hN hN0 htop hok hlen e2 hx0 hLX zY zE
  go_wp2_with fail
  refine (HPX.out _ (HE.out.below (step_b b3 hb4))).mono ?_
  rintro e w5 ⟨oz, cz, rfl, FO, hb5⟩
  have V5 := V4.below hb5
  have b5 := step_b hb4 hb5
  have hA := alloc_b w5 (.cells zReq.toArray 24)
  have RN := RowAt.new w5 zReq 24
  have V6 := V5.below hA
  have hlt5 := V5.lt
  clear V4 hb5 hb4 a0 a1 a2 a3 a4 V5
  go_wp2_with (refine wpList_store_row rfl _ 24 (.tmp 6) (.tmp 46) rfl w5.heap.size 24 zReq (reqC M T q.v (.slice oz q.xs.length cz) B) RN rfl rfl rfl mreq_size (reqC_one _ _ _ _ _ _ _) ?_; intro w6 R6 f1 f2 f3; have b6 := (step_b b5 hA).trans (f1 _ b5.size); have FZ6 : FldO w6 oz q.xs := FO.down (hA.trans (f1 w5.heap.size (Nat.le_refl _))); have V7 := V6.belowB (f1 w5.heap.size (Nat.le_refl _)) hlt5; have a3 := V7.cell 3 rfl; have a4 := V7.cell 4 rfl; clear RN f1 f2 f3 V6 hA b5 FO)
  go_loop [9, 10] (fun at_ j => ∃ k : Nat, k ≤ us.length + 1 ∧ j = .int .i64 k ∧ at_ = .int .i64 (N k : Int)) (fun _ j => us.length + 1 - (intOf j).toNat)
  case atStart => exact ⟨0, by omega, rfl, by rw [HN0.out]; rfl⟩
  case round =>
    obtain ⟨k, hk, rfl, rfl⟩ := hrel
    by_cases hlt : k < us.length + 1
    · have hlt' : (k : Int) < (us.length : Int) + 1 := by omega
      obtain ⟨Yk, HC9⟩ := HNX.out k hlt w6
      have HC9 := Lib.hid HC9
      go_wp2_with fail
      refine HC9.out.mono ?_
      rintro e w' ⟨rfl, rfl⟩
      go_wp2_with fail
      go_round
      case rel => exact ⟨k + 1, by omega, by go_num, rfl⟩
      case measure => simp [intOf]; omega
    · have hlt' : ¬ (k : Int) < (us.length : Int) + 1 := by omega
      have hke : k = us.length + 1 := by omega
      subst hke
      rw [← HP.out]
      clear HNX hk hlt
      go_wp2_with fail
      go_region_held3 (fun w' => w'.cell? ⟨w.heap.size, 4, none⟩ = some (.string b) ∧ Below w6.heap.size w6 w') (first | assumption | exact ⟨a4, (Below.refl _ _).drew⟩ | (exact ckeep (by first | assumption | exact ⟨a4, (Below.refl _ _).drew⟩) hbx)) ((go_at_call 14; (with_reducible refine (HEN.out _).mono ?_); rintro e w' ⟨rfl, hbx⟩))
      have hq := (show _ ∧ Below w6.heap.size w6 _ by assumption).2
      have b8 := step_b b6 hq
      have R8 := R6.below hq
      have FZ8 := FZ6.down hq
      clear a3 a4 V7
      go_wp2_with fail
      refine (HPT.out _ (HE.out.below (step_b b3 b8))).mono ?_
      rintro e w9 ⟨oy, cy, rfl, FY, hb9⟩
      have b9 := step_b b8 hb9
      have R9 := R8.below hb9
      have FZ9 := FZ8.down hb9
      have hA := alloc_b w9 (.cells zReq.toArray 24)
      have RN := RowAt.new w9 zReq 24
      have hlt9 := R9.lt
      clear R8 FZ8 hb9 R6 FZ6
      go_wp2_with (refine wpList_store_row rfl _ 24 (.tmp 12) (.tmp 76) rfl w9.heap.size 24 zReq (reqC M T q.v (.slice oy q.xs.length cy) B) RN rfl rfl rfl mreq_size (reqC_one _ _ _ _ _ _ _) ?_; intro w11 R11 f1 f2 f3; have b11 := step_b b3 ((step_b b9 hA).trans (f1 _ b9.size)); have hf := hA.trans (f1 w9.heap.size (Nat.le_refl _)); have FZ11 : FldO w11 oz q.xs := FZ9.down hf; have FY11 : FldO w11 oy q.xs := FY.down hf; have R10 := R9.belowB hf hlt9; have c0 := R10.cell 0 rfl; have c1 := R10.cell 1 rfl; have c2 := R10.cell 2 rfl; have c3 := R10.cell 3 rfl; have c4 := R10.cell 4 rfl; have d0 := R11.cell 0 rfl; have d1 := R11.cell 1 rfl; have d2 := R11.cell 2 rfl; have d3 := R11.cell 3 rfl; have d4 := R11.cell 4 rfl; clear RN f1 f2 f3 hA R9; rcases HER.out with h6 | ⟨h6, hn1, hn2⟩)
      · subst h6
        go_wp2_with fail
        refine (sameReq_any M T q.v oz q.xs cz oy cy B w11 (by omega) FZ11 FY11).mono ?_
        rintro e w12 ⟨rfl, hb12⟩
        have b12 := step_b b11 hb12
        go_wp2_with fail
        refine (awake6_any w12 (HE.out.below b12)).mono ?_
        rintro e w13 ⟨rfl, hb13⟩
        go_wp2_with fail
        go_ret
        exact ⟨rfl, step_b b12 hb13⟩
      · subst h6 hn1 hn2
        go_wp2_with fail
        refine (sameReq_any M T q.v oz q.xs cz oy cy B w11 (by omega) FZ11 FY11).mono ?_
        rintro e w12 ⟨rfl, hb12⟩
        have b12 := step_b b11 hb12
        go_wp2_with fail
        refine (awake6_any w12 (HE.out.below b12)).mono ?_
        rintro e w13 ⟨rfl, hb13⟩
        go_wp2_with fail
        go_ret
        exact ⟨rfl, step_b b12 hb13⟩
end Go.Proofs.YtfnmohaddkoalaaGreatDoor
namespace Go.Proofs.YtfnmohaddkoalaaGreatDoor
open Go.RowKit Go.Shelf
set_option linter.unusedSimpArgs false
set_option linter.unusedVariables false

/-- Has a response no body? -/
def bodB (s : Int) (me : ByteArray) : Bool := decide (100 ≤ s ∧ s ≤ 199) || (s == 204 || (s == 304 || me.toList == [72, 69, 65, 68]))
/-- A response as it is written. -/
def resW (v s : Int) (r : ByteArray) (xs : List Fd) (b me : ByteArray) : List UInt8 := msgL (statF v s (bs r)) xs (if bodB s me then -1 else (b.size : Int)) (if bodB s me then [] else bs b)
theorem statF_len (v s : Int) (r : List UInt8) : (statF v s r).length ≤ 2000 := by
  unfold statF
  split
  · rename_i h; exact (statL_inv h).1
  · simp
set_option maxHeartbeats 800000 in
theorem bodiless_any (s : Int) (me : ByteArray) (w : World) :
    Calls Tryz.prog 21 #[.int .i64 s, .string me] w fun e w' => e = .returned (.bool (bodB s me)) ∧ w = w' := by
  by_cases h4 : s = 204
  · subst h4
    have HB : Hid (bodB 204 me = true) := Lib.hid (by unfold bodB; simp)
    go_enter Tryz.func21, Tryz.ntmps21
    go_wp2_with fail
    go_ret
    exact ⟨by rw [HB.out]; rfl, rfl⟩
  by_cases h3 : s = 304
  · subst h3
    have HB : Hid (bodB 304 me = true) := Lib.hid (by unfold bodB; simp)
    go_enter Tryz.func21, Tryz.ntmps21
    go_wp2_with fail
    go_ret
    exact ⟨by rw [HB.out]; rfl, rfl⟩
  have g4 : (s == 204) = false := by rw [beq_eq_false_iff_ne]; exact h4
  have g3 : (s == 304) = false := by rw [beq_eq_false_iff_ne]; exact h3
  cases hm : (me.toList == [72, 69, 65, 68]) with
  | true =>
    by_cases h1 : 100 ≤ s
    · by_cases h2 : s ≤ 199
      · skip
        have HB : Hid (bodB s me = true) := Lib.hid (by unfold bodB; rw [hm]; simp)
        go_enter Tryz.func21, Tryz.ntmps21
        go_wp2_with fail
        go_ret
        exact ⟨by rw [HB.out]; rfl, rfl⟩
      · skip
        have HB : Hid (bodB s me = true) := Lib.hid (by unfold bodB; rw [hm]; simp)
        go_enter Tryz.func21, Tryz.ntmps21
        go_wp2_with fail
        go_ret
        exact ⟨by rw [HB.out]; rfl, rfl⟩
    · skip
      have HB : Hid (bodB s me = true) := Lib.hid (by unfold bodB; rw [hm]; simp)
      go_enter Tryz.func21, Tryz.ntmps21
      go_wp2_with fail
      go_ret
      exact ⟨by rw [HB.out]; rfl, rfl⟩
  | false =>
    by_cases h1 : 100 ≤ s
    · by_cases h2 : s ≤ 199
      · skip
        have HB : Hid (bodB s me = true) := Lib.hid (by unfold bodB; rw [decide_eq_true ⟨h1, h2⟩]; rfl)
        go_enter Tryz.func21, Tryz.ntmps21
        go_wp2_with fail
        go_ret
        exact ⟨by rw [HB.out]; rfl, rfl⟩
      · skip
        have HB : Hid (bodB s me = false) := Lib.hid (by unfold bodB; rw [decide_eq_false (fun h => h2 h.2), g4, g3, hm]; rfl)
        go_enter Tryz.func21, Tryz.ntmps21
        go_wp2_with fail
        go_ret
        exact ⟨by rw [HB.out]; rfl, rfl⟩
    · skip
      have HB : Hid (bodB s me = false) := Lib.hid (by unfold bodB; rw [decide_eq_false (fun h => h1 h.1), g4, g3, hm]; rfl)
      go_enter Tryz.func21, Tryz.ntmps21
      go_wp2_with fail
      go_ret
      exact ⟨by rw [HB.out]; rfl, rfl⟩
set_option maxHeartbeats 800000 in
theorem rbodiless_any (s : Int) (me : ByteArray) (w : World) :
    Calls Tryz.prog 22 #[.int .i64 s, .string me] w fun e w' => e = .returned (.bool (bodB s me)) ∧ w = w' := by
  by_cases h4 : s = 204
  · subst h4
    have HB : Hid (bodB 204 me = true) := Lib.hid (by unfold bodB; simp)
    go_enter Tryz.func22, Tryz.ntmps22
    go_wp2_with fail
    go_ret
    exact ⟨by rw [HB.out]; rfl, rfl⟩
  by_cases h3 : s = 304
  · subst h3
    have HB : Hid (bodB 304 me = true) := Lib.hid (by unfold bodB; simp)
    go_enter Tryz.func22, Tryz.ntmps22
    go_wp2_with fail
    go_ret
    exact ⟨by rw [HB.out]; rfl, rfl⟩
  have g4 : (s == 204) = false := by rw [beq_eq_false_iff_ne]; exact h4
  have g3 : (s == 304) = false := by rw [beq_eq_false_iff_ne]; exact h3
  cases hm : (me.toList == [72, 69, 65, 68]) with
  | true =>
    by_cases h1 : 100 ≤ s
    · by_cases h2 : s ≤ 199
      · skip
        have HB : Hid (bodB s me = true) := Lib.hid (by unfold bodB; rw [hm]; simp)
        go_enter Tryz.func22, Tryz.ntmps22
        go_wp2_with fail
        go_ret
        exact ⟨by rw [HB.out]; rfl, rfl⟩
      · skip
        have HB : Hid (bodB s me = true) := Lib.hid (by unfold bodB; rw [hm]; simp)
        go_enter Tryz.func22, Tryz.ntmps22
        go_wp2_with fail
        go_ret
        exact ⟨by rw [HB.out]; rfl, rfl⟩
    · skip
      have HB : Hid (bodB s me = true) := Lib.hid (by unfold bodB; rw [hm]; simp)
      go_enter Tryz.func22, Tryz.ntmps22
      go_wp2_with fail
      go_ret
      exact ⟨by rw [HB.out]; rfl, rfl⟩
  | false =>
    by_cases h1 : 100 ≤ s
    · by_cases h2 : s ≤ 199
      · skip
        have HB : Hid (bodB s me = true) := Lib.hid (by unfold bodB; rw [decide_eq_true ⟨h1, h2⟩]; rfl)
        go_enter Tryz.func22, Tryz.ntmps22
        go_wp2_with fail
        go_ret
        exact ⟨by rw [HB.out]; rfl, rfl⟩
      · skip
        have HB : Hid (bodB s me = false) := Lib.hid (by unfold bodB; rw [decide_eq_false (fun h => h2 h.2), g4, g3, hm]; rfl)
        go_enter Tryz.func22, Tryz.ntmps22
        go_wp2_with fail
        go_ret
        exact ⟨by rw [HB.out]; rfl, rfl⟩
    · skip
      have HB : Hid (bodB s me = false) := Lib.hid (by unfold bodB; rw [decide_eq_false (fun h => h1 h.1), g4, g3, hm]; rfl)
      go_enter Tryz.func22, Tryz.ntmps22
      go_wp2_with fail
      go_ret
      exact ⟨by rw [HB.out]; rfl, rfl⟩
set_option maxHeartbeats 3200000 in
set_option maxRecDepth 100000 in
theorem fmtR_any (v s : Int) (r : ByteArray) (oa : Option Addr) (xs : List Fd) (cap : Nat) (b me : ByteArray) (w : World) (hr : r.size ≤ 2100) (hb : b.size ≤ 2000) (hn : xs.length ≤ 100) (hz : FldZ xs 300) (hc : FldO w oa xs) (h0 : -9223372036854775808 ≤ v) (h1 : v ≤ 9223372036854775807) (g0 : -9223372036854775808 ≤ s) (g1 : s ≤ 9223372036854775807) (hE : ReqEnv w) (hT : PowTab w) :
    Calls Tryz.prog 19 #[respV v s r oa xs.length cap b, .string me] w fun e w' => e = .returned (.string ⟨(resW v s r xs b me).toArray⟩) ∧ Below w.heap.size w w' := by
  obtain ⟨L, hL⟩ : ∃ L : ByteArray, L = ⟨(statF v s (bs r)).toArray⟩ := ⟨_, rfl⟩
  have zL : L.size ≤ 2000 := by rw [hL]; exact statF_len _ _ _
  have hLb : bs L = statF v s (bs r) := by rw [hL]
  obtain ⟨X, hX⟩ : ∃ X : ByteArray, X = ⟨(resW v s r xs b me).toArray⟩ := ⟨_, rfl⟩
  rw [← hX]
  have ha := alloc_b w (.cells (respC v s r oa xs.length cap b).toArray 41)
  have V1 := RowAt.new w (respC v s r oa xs.length cap b) 41
  have HQ : Hid (∀ W, Below w.heap.size w W → Calls Tryz.prog 39 #[.int .i64 v, .int .i64 s, .string r] W fun e w' => e = .returned (.string L) ∧ Below W.heap.size W w') := Lib.hid fun W hW => by
    obtain ⟨_, p, q, k, hk⟩ := hE.below hW
    rw [hL]
    exact fmtStat_any v s r W p q k hk (hT.below hW) (by omega) h0 h1 g0 g1
  have hb100 : ¬ 100000 < (b.size : Int) := by omega
  cases hbd : bodB s me with
  | true =>
    have HO : Hid (∀ W, Below w.heap.size w W → Calls Tryz.prog 36 #[.string L, .slice oa xs.length cap, .int .i64 (-1), .string ⟨#[]⟩] W fun e w' => e = .returned (.string X) ∧ Below W.heap.size W w') := Lib.hid fun W hW => by
      have h9 := format_any L oa xs cap (-1) ⟨#[]⟩ W (by omega) (by decide) (by omega) (by omega) hn hz (hc.down hW) (hT.below hW)
      rw [hX]; unfold resW
      rw [hbd, hLb.symm]
      exact h9
    have HBD := Lib.hid hbd
    clear hL hX hLb zL hz hc hE hT hbd
    go_enter Tryz.func19, Tryz.ntmps19
    have a0 := V1.cell 0 rfl
    have a1 := V1.cell 1 rfl
    have a2 := V1.cell 2 rfl
    have a3 := V1.cell 3 rfl
    have a4 := V1.cell 4 rfl
    go_wp2_with fail
    refine (HQ.out _ ha).mono ?_
    rintro e w2 ⟨rfl, hb2⟩
    have V2 := V1.below hb2
    have b2 := step_b ha hb2
    clear V1 ha hb2 a0 a1 a2 a3 a4
    have a0 := V2.cell 0 rfl
    have a1 := V2.cell 1 rfl
    have a2 := V2.cell 2 rfl
    have a3 := V2.cell 3 rfl
    have a4 := V2.cell 4 rfl
    go_wp2_with fail
    refine (bodiless_any s me w2).mono ?_
    rintro e w3 ⟨rfl, rfl⟩
    rw [HBD.out]
    go_wp2_with fail
    refine (HO.out _ b2).mono ?_
    rintro e w4 ⟨rfl, hb4⟩
    go_wp2_with fail
    go_ret
    exact ⟨rfl, step_b b2 hb4⟩
  | false =>
    have HO : Hid (∀ W, Below w.heap.size w W → Calls Tryz.prog 36 #[.string L, .slice oa xs.length cap, .int .i64 (b.size : Int), .string b] W fun e w' => e = .returned (.string X) ∧ Below W.heap.size W w') := Lib.hid fun W hW => by
      have h9 := format_any L oa xs cap (b.size : Int) b W (by omega) (by omega) (by omega) (by omega) hn hz (hc.down hW) (hT.below hW)
      rw [hX]; unfold resW
      rw [hbd, hLb.symm]
      exact h9
    have HBD := Lib.hid hbd
    clear hL hX hLb zL hz hc hE hT hbd
    go_enter Tryz.func19, Tryz.ntmps19
    have a0 := V1.cell 0 rfl
    have a1 := V1.cell 1 rfl
    have a2 := V1.cell 2 rfl
    have a3 := V1.cell 3 rfl
    have a4 := V1.cell 4 rfl
    go_wp2_with fail
    refine (HQ.out _ ha).mono ?_
    rintro e w2 ⟨rfl, hb2⟩
    have V2 := V1.below hb2
    have b2 := step_b ha hb2
    clear V1 ha hb2 a0 a1 a2 a3 a4
    have a0 := V2.cell 0 rfl
    have a1 := V2.cell 1 rfl
    have a2 := V2.cell 2 rfl
    have a3 := V2.cell 3 rfl
    have a4 := V2.cell 4 rfl
    go_wp2_with fail
    refine (bodiless_any s me w2).mono ?_
    rintro e w3 ⟨rfl, rfl⟩
    rw [HBD.out]
    go_wp2_with fail
    refine (HO.out _ b2).mono ?_
    rintro e w4 ⟨rfl, hb4⟩
    go_wp2_with fail
    go_ret
    exact ⟨rfl, step_b b2 hb4⟩
set_option maxHeartbeats 3200000 in
set_option maxRecDepth 100000 in
theorem rfmtR_any (v s : Int) (r : ByteArray) (oa : Option Addr) (xs : List Fd) (cap : Nat) (b me : ByteArray) (w : World) (hr : r.size ≤ 2100) (hb : b.size ≤ 2000) (hn : xs.length ≤ 100) (hz : FldZ xs 300) (hc : FldO w oa xs) (h0 : -9223372036854775808 ≤ v) (h1 : v ≤ 9223372036854775807) (g0 : -9223372036854775808 ≤ s) (g1 : s ≤ 9223372036854775807) :
    Calls Tryz.prog 20 #[respV v s r oa xs.length cap b, .string me] w fun e w' => e = .returned (.string ⟨(resW v s r xs b me).toArray⟩) ∧ Below w.heap.size w w' := by
  obtain ⟨L, hL⟩ : ∃ L : ByteArray, L = ⟨(statF v s (bs r)).toArray⟩ := ⟨_, rfl⟩
  have zL : L.size ≤ 2000 := by rw [hL]; exact statF_len _ _ _
  have hLb : bs L = statF v s (bs r) := by rw [hL]
  obtain ⟨X, hX⟩ : ∃ X : ByteArray, X = ⟨(resW v s r xs b me).toArray⟩ := ⟨_, rfl⟩
  rw [← hX]
  have ha := alloc_b w (.cells (respC v s r oa xs.length cap b).toArray 41)
  have V1 := RowAt.new w (respC v s r oa xs.length cap b) 41
  have HQ : Hid (∀ W, Below w.heap.size w W → Calls Tryz.prog 40 #[.int .i64 v, .int .i64 s, .string r] W fun e w' => e = .returned (.string L) ∧ Below W.heap.size W w') := Lib.hid fun W hW => by
    rw [hL]
    exact rfmtStat_any v s r W (by omega) h0 h1 g0 g1
  cases hbd : bodB s me with
  | true =>
    have HO : Hid (∀ W, Below w.heap.size w W → Calls Tryz.prog 27 #[.string L, .slice oa xs.length cap, .string b, .bool false, .bool false] W fun e w' => e = .returned (.string X) ∧ Below W.heap.size W w') := Lib.hid fun W hW => by
      have h9 := rjoined_any L oa xs cap b false false W (by omega) (by omega) hn hz (hc.down hW)
      rw [hX]; unfold resW
      rw [hbd, hLb.symm]
      exact h9
    have HBD := Lib.hid hbd
    clear hL hX hLb zL hz hc hbd
    go_enter Tryz.func20, Tryz.ntmps20
    have a0 := V1.cell 0 rfl
    have a1 := V1.cell 1 rfl
    have a2 := V1.cell 2 rfl
    have a3 := V1.cell 3 rfl
    have a4 := V1.cell 4 rfl
    clear V1
    go_wp2_with fail
    generalize (w.alloc (.cells #[.int .i64 v, .int .i64 s, .string r, .slice oa xs.length cap, .string b] 41)) = w1 at *
    refine (rbodiless_any s me w1).mono ?_
    rintro e w3 ⟨rfl, rfl⟩
    rw [HBD.out]
    go_wp2_with fail
    go_region_held3 (fun w' => w'.cell? ⟨w.heap.size, 0, none⟩ = some (.int .i64 v) ∧ w'.cell? ⟨w.heap.size, 1, none⟩ = some (.int .i64 s) ∧ w'.cell? ⟨w.heap.size, 2, none⟩ = some (.string r) ∧ w'.cell? ⟨w.heap.size, 3, none⟩ = some (.slice oa xs.length cap) ∧ w'.cell? ⟨w.heap.size, 4, none⟩ = some (.string b) ∧ Below w1.heap.size w1 w') (first | assumption | exact ⟨a0, a1, a2, a3, a4, (Below.refl _ _).drew⟩ | (exact mkeep6 (by first | assumption | exact ⟨a0, a1, a2, a3, a4, (Below.refl _ _).drew⟩) hbx)) (first | (go_at_call 40; (with_reducible refine (HQ.out _ (step_b ha (by first | exact (Below.refl _ _).drew | exact mlast6 (by assumption)))).mono ?_); rintro e w' ⟨rfl, hbx⟩) | (go_at_call 27; (with_reducible refine (HO.out _ (step_b ha (by first | exact (Below.refl _ _).drew | exact mlast6 (by assumption)))).mono ?_); rintro e w' ⟨rfl, hbx⟩))
    all_goals
      have hq := mlast6 (w3 := w1) (by assumption)
      go_wp2_with fail
      go_ret
      exact ⟨rfl, step_b ha hq⟩
  | false =>
    have HO : Hid (∀ W, Below w.heap.size w W → Calls Tryz.prog 27 #[.string L, .slice oa xs.length cap, .string b, .bool true, .bool true] W fun e w' => e = .returned (.string X) ∧ Below W.heap.size W w') := Lib.hid fun W hW => by
      have h9 := rjoined_any L oa xs cap b true true W (by omega) (by omega) hn hz (hc.down hW)
      rw [hX]; unfold resW
      rw [hbd, hLb.symm]
      exact h9
    have HBD := Lib.hid hbd
    clear hL hX hLb zL hz hc hbd
    go_enter Tryz.func20, Tryz.ntmps20
    have a0 := V1.cell 0 rfl
    have a1 := V1.cell 1 rfl
    have a2 := V1.cell 2 rfl
    have a3 := V1.cell 3 rfl
    have a4 := V1.cell 4 rfl
    clear V1
    go_wp2_with fail
    generalize (w.alloc (.cells #[.int .i64 v, .int .i64 s, .string r, .slice oa xs.length cap, .string b] 41)) = w1 at *
    refine (rbodiless_any s me w1).mono ?_
    rintro e w3 ⟨rfl, rfl⟩
    rw [HBD.out]
    go_wp2_with fail
    go_region_held3 (fun w' => w'.cell? ⟨w.heap.size, 0, none⟩ = some (.int .i64 v) ∧ w'.cell? ⟨w.heap.size, 1, none⟩ = some (.int .i64 s) ∧ w'.cell? ⟨w.heap.size, 2, none⟩ = some (.string r) ∧ w'.cell? ⟨w.heap.size, 3, none⟩ = some (.slice oa xs.length cap) ∧ w'.cell? ⟨w.heap.size, 4, none⟩ = some (.string b) ∧ Below w1.heap.size w1 w') (first | assumption | exact ⟨a0, a1, a2, a3, a4, (Below.refl _ _).drew⟩ | (exact mkeep6 (by first | assumption | exact ⟨a0, a1, a2, a3, a4, (Below.refl _ _).drew⟩) hbx)) (first | (go_at_call 40; (with_reducible refine (HQ.out _ (step_b ha (by first | exact (Below.refl _ _).drew | exact mlast6 (by assumption)))).mono ?_); rintro e w' ⟨rfl, hbx⟩) | (go_at_call 27; (with_reducible refine (HO.out _ (step_b ha (by first | exact (Below.refl _ _).drew | exact mlast6 (by assumption)))).mono ?_); rintro e w' ⟨rfl, hbx⟩))
    all_goals
      have hq := mlast6 (w3 := w1) (by assumption)
      go_wp2_with fail
      go_ret
      exact ⟨rfl, step_b ha hq⟩
end Go.Proofs.YtfnmohaddkoalaaGreatDoor
namespace Go.Proofs.YtfnmohaddkoalaaGreatDoor
open Go.RowKit Go.Shelf
set_option linter.unusedSimpArgs false
set_option linter.unusedVariables false

theorem sent_of_formats {W : World} (h : laidMetH Tryz.prog Rows.messageFormatsRow.laid W) : SentOf W := by
  rw [MakeChecks.laidMetH_plain _ _ _ (by kernel_rfl)] at h
  exact sent_of_two h.tail.tail.tail.tail
theorem pow_of_formats {W : World} (h : laidMetH Tryz.prog Rows.messageFormatsRow.laid W) : PowTab W := by
  rw [MakeChecks.laidMetH_plain _ _ _ (by kernel_rfl)] at h
  obtain ⟨ps, hv, _⟩ := h
  obtain ⟨q1, hv1⟩ := laid_rest hv
  obtain ⟨q2, hv2⟩ := laid_rest hv1
  exact laid_tab (g := 3) (t := 154) (e := 135) (n := 20) (by kernel_rfl) (by kernel_rfl) Tryz.underlying154 Tryz.underlying135 (by kernel_rfl) (by kernel_rfl) hv2
theorem keep11o {w1 w2 w3 : World} {p0 p1 p2 p3 p4 p5 p6 p7 p8 p9 : Addr} {v0 v1 v2 v3 v4 v5 v6 v7 v8 v9 : Value} (h : w1.cell? p0 = some v0 ∧ w1.cell? p1 = some v1 ∧ w1.cell? p2 = some v2 ∧ w1.cell? p3 = some v3 ∧ w1.cell? p4 = some v4 ∧ w1.cell? p5 = some v5 ∧ w1.cell? p6 = some v6 ∧ w1.cell? p7 = some v7 ∧ w1.cell? p8 = some v8 ∧ w1.cell? p9 = some v9 ∧ Below w3.heap.size w3 w1) (hb : Below w1.heap.size w1 w2) : w2.cell? p0 = some v0 ∧ w2.cell? p1 = some v1 ∧ w2.cell? p2 = some v2 ∧ w2.cell? p3 = some v3 ∧ w2.cell? p4 = some v4 ∧ w2.cell? p5 = some v5 ∧ w2.cell? p6 = some v6 ∧ w2.cell? p7 = some v7 ∧ w2.cell? p8 = some v8 ∧ w2.cell? p9 = some v9 ∧ Below w3.heap.size w3 w2 :=
  ⟨(hb.cell (cell_lt h.1)).trans h.1, (hb.cell (cell_lt h.2.1)).trans h.2.1, (hb.cell (cell_lt h.2.2.1)).trans h.2.2.1, (hb.cell (cell_lt h.2.2.2.1)).trans h.2.2.2.1, (hb.cell (cell_lt h.2.2.2.2.1)).trans h.2.2.2.2.1, (hb.cell (cell_lt h.2.2.2.2.2.1)).trans h.2.2.2.2.2.1, (hb.cell (cell_lt h.2.2.2.2.2.2.1)).trans h.2.2.2.2.2.2.1, (hb.cell (cell_lt h.2.2.2.2.2.2.2.1)).trans h.2.2.2.2.2.2.2.1, (hb.cell (cell_lt h.2.2.2.2.2.2.2.2.1)).trans h.2.2.2.2.2.2.2.2.1, (hb.cell (cell_lt h.2.2.2.2.2.2.2.2.2.1)).trans h.2.2.2.2.2.2.2.2.2.1, step_b h.2.2.2.2.2.2.2.2.2.2 hb⟩
theorem last11o {w1 w3 : World} {p0 p1 p2 p3 p4 p5 p6 p7 p8 p9 : Addr} {v0 v1 v2 v3 v4 v5 v6 v7 v8 v9 : Value} (h : w1.cell? p0 = some v0 ∧ w1.cell? p1 = some v1 ∧ w1.cell? p2 = some v2 ∧ w1.cell? p3 = some v3 ∧ w1.cell? p4 = some v4 ∧ w1.cell? p5 = some v5 ∧ w1.cell? p6 = some v6 ∧ w1.cell? p7 = some v7 ∧ w1.cell? p8 = some v8 ∧ w1.cell? p9 = some v9 ∧ Below w3.heap.size w3 w1) : Below w3.heap.size w3 w1 := h.2.2.2.2.2.2.2.2.2.2
set_option maxHeartbeats 6400000 in
set_option maxRecDepth 100000 in
theorem formats6_walk (m t : ByteArray) (v : Int) (oa : Option Addr) (xs : List Fd) (cap : Nat) (b : ByteArray) (rm st : Int) (rs : ByteArray) (oe : Option Addr) (es : List Fd) (ce : Nat) (be : ByteArray) (me : ByteArray) (w : World)
    (hn : xs.length ≤ 9223372036854775807) (_ : m.size ≤ 9223372036854775807) (_ : t.size ≤ 9223372036854775807) (_ : b.size ≤ 9223372036854775807) (hmw : (Lit.int .i64 v).wf = true) (hc : FldO w oa xs) (hne : es.length ≤ 9223372036854775807) (_ : rs.size ≤ 9223372036854775807) (_ : be.size ≤ 9223372036854775807) (hce : FldO w oe es) (hrb : (Lit.int .i64 rm).wf = true) (hsb : (Lit.int .i64 st).wf = true) (_ : me.size ≤ 9223372036854775807) (hS : SentOf w) (hT : PowTab w) (hM : MaxOf w) :
    Calls Tryz.prog 6 #[.agg (reqC m t v (.slice oa xs.length cap) b).toArray, respV rm st rs oe es.length ce be, .string me] w fun e w' => e = .returned (.bool true) ∧ Below w.heap.size w w' := by
  obtain ⟨R0, R1, b0⟩ := rows2 w (reqC m t v (.slice oa xs.length cap) b) 24 (respC rm st rs oe es.length ce be) 41
  have HC := Lib.hid (hc.down b0)
  have HE := Lib.hid (hce.down b0)
  have HEN := Lib.hid ((ReqEnv.of hS hM).below b0)
  have HT := Lib.hid (hT.below b0)
  obtain ⟨v0, v1⟩ := bounds_i64 hmw
  obtain ⟨r0, r1⟩ := bounds_i64 hrb
  obtain ⟨s0, s1⟩ := bounds_i64 hsb
  clear hc hce hS hT hM hmw hrb hsb
  cases hk : keepQB m t b xs with
  | false =>
    have HK := Lib.hid hk
    clear hk
    go_enter Tryz.func6, Tryz.ntmps6
    go_wp2_with fail
    refine (keepQ_any m t v oa xs cap b _ hn HC.out).mono ?_
    rintro e w1 ⟨rfl, hb1⟩
    rw [HK.out]
    go_wp2_with fail
    go_ret
    exact ⟨rfl, step_b b0 hb1⟩
  | true =>
  obtain ⟨k1, k2, k3, k4, k5⟩ := keepQB_true hk
  have HK := Lib.hid hk
  clear hk
  cases hk : keepRB rs be es with
  | false =>
    have HKE := Lib.hid hk
    clear hk
    go_enter Tryz.func6, Tryz.ntmps6
    go_wp2_with fail
    refine (keepQ_any m t v oa xs cap b _ hn HC.out).mono ?_
    rintro e w1 ⟨rfl, hb1⟩
    rw [HK.out]
    have E1 := R1.below hb1
    have c0 := E1.cell 0 rfl
    have c1 := E1.cell 1 rfl
    have c2 := E1.cell 2 rfl
    have c3 := E1.cell 3 rfl
    have c4 := E1.cell 4 rfl
    go_wp2_with fail
    refine (keepR_any rm st rs oe es ce be _ hne (HE.out.down hb1)).mono ?_
    rintro e w2 ⟨rfl, hb2⟩
    rw [HKE.out]
    go_wp2_with fail
    go_ret
    exact ⟨rfl, step_b (step_b b0 hb1) hb2⟩
  | true =>
  have hrs : rs.size ≤ 2100 ∧ be.size ≤ 2000 ∧ es.length ≤ 70 ∧ FldZ es 300 := by
    have h := hk
    unfold keepRB at h
    rw [Bool.and_eq_true, Bool.and_eq_true, decide_eq_true_eq, decide_eq_true_eq] at h
    obtain ⟨⟨h1, h2⟩, h3⟩ := h
    have := fieldsB_true h2
    exact ⟨h1, h3, this.1, this.2⟩
  obtain ⟨q1, q2, q3, q4⟩ := hrs
  have HKE := Lib.hid hk
  clear hk
  by_cases hme : 100 < (me.size : Int)
  · go_enter Tryz.func6, Tryz.ntmps6
    go_wp2_with fail
    refine (keepQ_any m t v oa xs cap b _ hn HC.out).mono ?_
    rintro e w1 ⟨rfl, hb1⟩
    rw [HK.out]
    have E1 := R1.below hb1
    have c0 := E1.cell 0 rfl
    have c1 := E1.cell 1 rfl
    have c2 := E1.cell 2 rfl
    have c3 := E1.cell 3 rfl
    have c4 := E1.cell 4 rfl
    go_wp2_with fail
    refine (keepR_any rm st rs oe es ce be _ hne (HE.out.down hb1)).mono ?_
    rintro e w2 ⟨rfl, hb2⟩
    rw [HKE.out]
    go_wp2_with fail
    go_ret
    exact ⟨rfl, step_b (step_b b0 hb1) hb2⟩
  go_enter Tryz.func6, Tryz.ntmps6
  go_wp2_with fail
  refine (keepQ_any m t v oa xs cap b _ hn HC.out).mono ?_
  rintro e w1 ⟨rfl, hb1⟩
  rw [HK.out]
  have E1 := R1.below hb1
  have Q1 := R0.below hb1
  have c0 := E1.cell 0 rfl
  have c1 := E1.cell 1 rfl
  have c2 := E1.cell 2 rfl
  have c3 := E1.cell 3 rfl
  have c4 := E1.cell 4 rfl
  go_wp2_with fail
  refine (keepR_any rm st rs oe es ce be _ hne (HE.out.down hb1)).mono ?_
  rintro e w2 ⟨rfl, hb2⟩
  rw [HKE.out]
  have E2 := E1.below hb2
  have Q2 := Q1.below hb2
  have b2 := step_b (step_b b0 hb1) hb2
  have HC2 := (HC.out.down hb1).down hb2
  have HE2 := (HE.out.down hb1).down hb2
  have HEN2 := (HEN.out.below hb1).below hb2
  have HT2 := (HT.out.below hb1).below hb2
  clear c0 c1 c2 c3 c4 hb1 hb2 E1 Q1 R0 R1 HC HE b0 HEN HT
  have a0 := Q2.cell 0 rfl
  have a1 := Q2.cell 1 rfl
  have a2 := Q2.cell 2 rfl
  have a3 := Q2.cell 3 rfl
  have a4 := Q2.cell 4 rfl
  have c0 := E2.cell 0 rfl
  have c1 := E2.cell 1 rfl
  have c2 := E2.cell 2 rfl
  have c3 := E2.cell 3 rfl
  have c4 := E2.cell 4 rfl
  obtain ⟨X, hX⟩ : ∃ X : ByteArray, X = ⟨(reqW m t v xs b).toArray⟩ := ⟨_, rfl⟩
  obtain ⟨Y, hY⟩ : ∃ X : ByteArray, X = ⟨(resW rm st rs es be me).toArray⟩ := ⟨_, rfl⟩
  obtain ⟨z, hz⟩ : ∃ z, z = bodB st me := ⟨_, rfl⟩
  have HA : Hid (∀ W, Below w2.heap.size w2 W → Calls Tryz.prog 16 #[.agg (reqC m t v (.slice oa xs.length cap) b).toArray] W fun e w' => e = .returned (.string X) ∧ Below W.heap.size W w') := Lib.hid fun W hW => by
    rw [hX]; exact fmtQ_any m t v oa xs cap b W k1 k2 k3 (by omega) k5 (HC2.down hW) v0 v1 (HEN2.below hW) (HT2.below hW)
  have HB : Hid (∀ W, Below w2.heap.size w2 W → Calls Tryz.prog 10 #[.agg (reqC m t v (.slice oa xs.length cap) b).toArray] W fun e w' => e = .returned (.string X) ∧ Below W.heap.size W w') := Lib.hid fun W hW => by
    rw [hX]; exact rfmtQ_any m t v oa xs cap b W k1 k2 k3 (by omega) k5 (HC2.down hW) v0 v1
  have HC1 : Hid (∀ W, Below w2.heap.size w2 W → Calls Tryz.prog 19 #[respV rm st rs oe es.length ce be, .string me] W fun e w' => e = .returned (.string Y) ∧ Below W.heap.size W w') := Lib.hid fun W hW => by
    rw [hY]; exact fmtR_any rm st rs oe es ce be me W q1 q2 (by omega) q4 (HE2.down hW) r0 r1 s0 s1 (HEN2.below hW) (HT2.below hW)
  have HD : Hid (∀ W, Below w2.heap.size w2 W → Calls Tryz.prog 20 #[respV rm st rs oe es.length ce be, .string me] W fun e w' => e = .returned (.string Y) ∧ Below W.heap.size W w') := Lib.hid fun W hW => by
    rw [hY]; exact rfmtR_any rm st rs oe es ce be me W q1 q2 (by omega) q4 (HE2.down hW) r0 r1 s0 s1
  have HBO : Hid (∀ W, Calls Tryz.prog 21 #[.int .i64 st, .string me] W fun e w' => e = .returned (.bool z) ∧ W = w') := Lib.hid fun W => by
    rw [hz]; exact bodiless_any st me W
  have HBR : Hid (∀ W, Calls Tryz.prog 22 #[.int .i64 st, .string me] W fun e w' => e = .returned (.bool z) ∧ W = w') := Lib.hid fun W => by
    rw [hz]; exact rbodiless_any st me W
  have HAW : Hid (∀ W, Below w2.heap.size w2 W → Calls Tryz.prog 11 #[] W fun e w' => e = .returned (.bool true) ∧ Below W.heap.size W w') := Lib.hid fun W hW => awake6_any W (HEN2.below hW)
  clear hX hY hz E2 Q2 HC2 HE2 HEN2 HT2
  go_wp2_with fail
  go_region_held3 (fun w' => w'.cell? ⟨w.heap.size, 0, none⟩ = some (.string m) ∧ w'.cell? ⟨w.heap.size, 1, none⟩ = some (.string t) ∧ w'.cell? ⟨w.heap.size, 2, none⟩ = some (.int .i64 v) ∧ w'.cell? ⟨w.heap.size, 3, none⟩ = some (.slice oa xs.length cap) ∧ w'.cell? ⟨w.heap.size, 4, none⟩ = some (.string b) ∧ w'.cell? ⟨w.heap.size + 1, 0, none⟩ = some (.int .i64 rm) ∧ w'.cell? ⟨w.heap.size + 1, 1, none⟩ = some (.int .i64 st) ∧ w'.cell? ⟨w.heap.size + 1, 2, none⟩ = some (.string rs) ∧ w'.cell? ⟨w.heap.size + 1, 3, none⟩ = some (.slice oe es.length ce) ∧ w'.cell? ⟨w.heap.size + 1, 4, none⟩ = some (.string be) ∧ Below w2.heap.size w2 w') (first | assumption | exact ⟨a0, a1, a2, a3, a4, c0, c1, c2, c3, c4, (Below.refl _ _).drew⟩ | (exact keep11o (by first | assumption | exact ⟨a0, a1, a2, a3, a4, c0, c1, c2, c3, c4, (Below.refl _ _).drew⟩) hbx)) (first | (go_at_call 16; (with_reducible refine (HA.out _ (by first | exact (Below.refl _ _).drew | exact last11o (by assumption))).mono ?_); rintro e w' ⟨rfl, hbx⟩) | (go_at_call 10; (with_reducible refine (HB.out _ (by first | exact (Below.refl _ _).drew | exact last11o (by assumption))).mono ?_); rintro e w' ⟨rfl, hbx⟩) | (go_at_call 19; (with_reducible refine (HC1.out _ (by first | exact (Below.refl _ _).drew | exact last11o (by assumption))).mono ?_); rintro e w' ⟨rfl, hbx⟩) | (go_at_call 20; (with_reducible refine (HD.out _ (by first | exact (Below.refl _ _).drew | exact last11o (by assumption))).mono ?_); rintro e w' ⟨rfl, hbx⟩) | (go_at_call 21; (with_reducible refine (HBO.out _).mono ?_); rintro e w' ⟨rfl, rfl⟩) | (go_at_call 22; (with_reducible refine (HBR.out _).mono ?_); rintro e w' ⟨rfl, rfl⟩) | (go_at_call 11; (with_reducible refine (HAW.out _ (by first | exact (Below.refl _ _).drew | exact last11o (by assumption))).mono ?_); rintro e w' ⟨rfl, hbx⟩))
  all_goals
    have hq : Below w2.heap.size w2 _ := last11o (by assumption)
    go_wp2_with fail
    go_ret
    exact ⟨rfl, step_b b2 hq⟩
end Go.Proofs.YtfnmohaddkoalaaGreatDoor
