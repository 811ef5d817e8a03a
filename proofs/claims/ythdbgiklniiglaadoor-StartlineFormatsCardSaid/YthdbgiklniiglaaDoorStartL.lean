/- The walks of the statements on layer 2 (startline) that read lines: each returns true. -/
import Derived.Test.YthdbgiklniiglaaDoorStartW4
import Derived.Test.YthdbgiklniiglaaDoorPost
import Derived.OpenShut
namespace Go.Proofs.YthdbgiklniiglaaDoor
open Go.RowKit

def SentOf (w : World) : Prop := ∃ a b : Addr, w.cell? ⟨0, 0, none⟩ = some (errV a) ∧ w.cell? ⟨1, 0, none⟩ = some (errV b) ∧ a ≠ b ∧
  (∃ ca ta, w.heap[a.block]? = some (.cells ca ta (0, 0))) ∧ ∃ cb tb, w.heap[b.block]? = some (.cells cb tb (0, 0))
def MaxOf (w : World) : Prop := ∃ m, w.cell? ⟨2, 0, none⟩ = some (.int .i64 m)
theorem startEnv {w : World} (h : SentOf w) (h' : MaxOf w) : ∃ a b m, StartEnv w a b m := by
  obtain ⟨a, b, h1, h2, h3, h4, h5⟩ := h
  obtain ⟨m, hm⟩ := h'
  exact ⟨a, b, m, h1, h2, h3, h4, h5, hm⟩
theorem max_of_shape {W : World} (h : W.ShapedOpen Tryd.prog) : MaxOf W := Tryd.laysM145.s1_3 W h
theorem row_err (u : TypeId) (h : Tryd.prog.typeName? 3 u = some "*errors.errorString") : u = 112 :=
  typeName_ptr_named (nm := "errors.errorString") (by kernel_rfl) (by kernel_rfl) (by decide) u h
theorem gErrSyn : Tryd.prog.globalNamed "variantproxy/startline.errSyntax" = some 0 := by kernel_rfl
theorem gErrVer : Tryd.prog.globalNamed "variantproxy/startline.errVersion" = some 1 := by kernel_rfl
theorem sent_of_two {W : World} {r : List (String × DataW Unit)} (h : laidMet Tryd.prog (("variantproxy/startline.errSyntax", Rows.laid_variantproxy_startline_errSyntax) :: ("variantproxy/startline.errVersion", Rows.laid_variantproxy_startline_errVersion) :: r) W) : SentOf W := by
  obtain ⟨a0, a1, s0, s1, c0, c1, t0, t1, hv0, hv1, _, _, _, _, _, _, hne, hb0, hb1⟩ := laid_sentinels2 h gErrSyn (by kernel_rfl) gErrVer (by kernel_rfl) Tryd.underlying47 row_err Tryd.underlying112 Tryd.underlying137 rfl rfl Tryd.underlying9 (by kernel_rfl) (by kernel_rfl)
  exact ⟨a0, a1, World.var?_cell gErrSyn hv0 0, World.var?_cell gErrVer hv1 0, hne, ⟨c0, t0, hb0⟩, ⟨c1, t1, hb1⟩⟩
theorem sent_of_laid {W : World} (h : laidMetH Tryd.prog Rows.startlineRequestsRow.laid W) : SentOf W := by
  rw [MakeChecks.laidMetH_plain _ _ _ (by kernel_rfl)] at h
  exact sent_of_two h
abbrev getA : ByteArray := ⟨#[71, 69, 84, 32, 47, 97, 32, 72, 84, 84, 80, 47, 49, 46, 49]⟩
theorem awake_req : reqV (reqL (bs getA)) = .tuple #[.string ⟨#[71, 69, 84]⟩, .string ⟨#[47, 97]⟩, .int .i64 1, .int .i64 0] := by
  have : reqL (bs getA) = ([71, 69, 84], [47, 97], 1, 0) := by decide +kernel
  rw [this]; rfl
set_option maxHeartbeats 400000 in
theorem awake2_any (w : World) (a b : Addr) (m : Int) (hE : StartEnv w a b m) :
    Calls Tryd.prog 18 #[] w fun e w' => e = .returned (.bool true) ∧ Below w.heap.size w w' := by
  have HE := Lib.hid hE
  have H := Lib.hid awake_req
  clear hE
  go_enter Tryd.func18, Tryd.ntmps18
  go_wp2_with fail
  refine (parseReq_any getA _ a b m HE.out (by decide)).mono ?_
  rintro e w1 ⟨rfl, hb1⟩
  rw [H.out]
  go_wp2_with fail
  go_ret
  exact ⟨rfl, hb1⟩
theorem reqV_form (r : List UInt8 × List UInt8 × Int × Int) : ∃ x y n e, reqV r = .tuple #[.string x, .string y, .int .i64 n, .int .i64 e] := ⟨_, _, _, _, rfl⟩
theorem statV_form (r : Int × Int × List UInt8 × Int) : ∃ x y n e, statV r = .tuple #[.int .i64 x, .int .i64 y, .string n, .int .i64 e] := ⟨_, _, _, _, rfl⟩
set_option maxHeartbeats 400000 in
theorem startlineRequests_walk (s : ByteArray) (w : World) (_ : s.size ≤ 9223372036854775807) (hS : SentOf w) (hM : MaxOf w) :
    Calls Tryd.prog 3 #[.string s] w fun e w' => e = .returned (.bool true) ∧ Below w.heap.size w w' := by
  obtain ⟨a, b, m, hE⟩ := startEnv hS hM
  have HE := Lib.hid hE
  clear hS hM hE
  by_cases hl : 5000 < (s.size : Int)
  · go_enter Tryd.func3, Tryd.ntmps3
    go_wp2_with fail
    go_ret
    exact ⟨rfl, Below.refl _ _⟩
  obtain ⟨x, y, n, r, hv⟩ := reqV_form (reqL (bs s))
  have HV := Lib.hid hv
  clear hv
  go_enter Tryd.func3, Tryd.ntmps3
  go_wp2_with fail
  refine (parseReq_any s _ a b m HE.out (by omega)).mono ?_
  rintro e w1 ⟨rfl, hb1⟩
  rw [HV.out]
  have E1 := Lib.hid (HE.out.below hb1)
  go_wp2_with fail
  refine (rparseReq_any s _ (by omega)).mono ?_
  rintro e w2 ⟨rfl, hb2⟩
  rw [HV.out]
  have E2 := Lib.hid (E1.out.below hb2)
  have b2 := below_step hb1 hb2
  clear hb1 hb2
  go_wp2_with fail
  refine (awake2_any _ a b m E2.out).mono ?_
  rintro e w3 ⟨rfl, hb3⟩
  go_wp2_with fail
  go_ret
  exact ⟨rfl, below_step b2 hb3⟩
set_option maxHeartbeats 400000 in
theorem startlineStatuses_walk (s : ByteArray) (w : World) (_ : s.size ≤ 9223372036854775807) (hS : SentOf w) (hM : MaxOf w) :
    Calls Tryd.prog 5 #[.string s] w fun e w' => e = .returned (.bool true) ∧ Below w.heap.size w w' := by
  obtain ⟨a, b, m, hE⟩ := startEnv hS hM
  have HE := Lib.hid hE
  clear hS hM hE
  by_cases hl : 5000 < (s.size : Int)
  · go_enter Tryd.func5, Tryd.ntmps5
    go_wp2_with fail
    go_ret
    exact ⟨rfl, Below.refl _ _⟩
  obtain ⟨x, y, n, r, hv⟩ := statV_form (statL (bs s))
  have HV := Lib.hid hv
  clear hv
  go_enter Tryd.func5, Tryd.ntmps5
  go_wp2_with fail
  refine (parseStat_any s _ a b m HE.out (by omega)).mono ?_
  rintro e w1 ⟨rfl, hb1⟩
  rw [HV.out]
  have E1 := Lib.hid (HE.out.below hb1)
  go_wp2_with fail
  refine (rparseStat_any s _ (by omega)).mono ?_
  rintro e w2 ⟨rfl, hb2⟩
  rw [HV.out]
  have E2 := Lib.hid (E1.out.below hb2)
  have b2 := below_step hb1 hb2
  clear hb1 hb2
  go_wp2_with fail
  refine (awake2_any _ a b m E2.out).mono ?_
  rintro e w3 ⟨rfl, hb3⟩
  go_wp2_with fail
  go_ret
  exact ⟨rfl, below_step b2 hb3⟩
theorem reqV_long {s : ByteArray} (h : 2000 < s.size) : reqV (reqL (bs s)) = .tuple #[.string ⟨#[]⟩, .string ⟨#[]⟩, .int .i64 0, .int .i64 4] := by rw [reqL_long (by rw [bs_length]; exact h)]; rfl
theorem statV_long {s : ByteArray} (h : 2000 < s.size) : statV (statL (bs s)) = .tuple #[.int .i64 0, .int .i64 0, .string ⟨#[]⟩, .int .i64 4] := by rw [statL_long (by rw [bs_length]; exact h)]; rfl
set_option maxHeartbeats 800000 in
theorem startlineLong_walk (s : ByteArray) (k : Int) (w : World) (_ : s.size ≤ 9223372036854775807) (_ : (Lit.int .i64 k).wf = true) (hS : SentOf w) (hM : MaxOf w) :
    Calls Tryd.prog 6 #[.string s, .int .i64 k] w fun e w' => e = .returned (.bool true) ∧ Below w.heap.size w w' := by
  obtain ⟨a, b, m, hE⟩ := startEnv hS hM
  have HE := Lib.hid hE
  clear hS hM hE
  by_cases hl : 1000 < (s.size : Int)
  · go_enter Tryd.func6, Tryd.ntmps6
    go_wp2_with fail
    go_ret
    exact ⟨rfl, Below.refl _ _⟩
  by_cases hk0 : k < 0
  · go_enter Tryd.func6, Tryd.ntmps6
    go_wp2_with fail
    go_ret
    exact ⟨rfl, Below.refl _ _⟩
  by_cases hk1 : 100 < k
  · go_enter Tryd.func6, Tryd.ntmps6
    go_wp2_with fail
    go_ret
    exact ⟨rfl, Below.refl _ _⟩
  go_enter Tryd.func6, Tryd.ntmps6
  go_wp2_with fail
  go_loop [0] (fun v => ∃ t : ByteArray, v = .string t ∧ (t.size : Int) ≤ 2101) (fun v => match v with | .string t => 3000 - t.size | _ => 0)
  case atStart => exact ⟨s, rfl, by omega⟩
  case round =>
    obtain ⟨t, rfl, ht⟩ := hrel
    by_cases hlt : (t.size : Int) ≤ 2000 + k
    · go_wp2
      go_round
      case rel => exact ⟨_, rfl, by rw [ByteArray.size_append]; show ((t.size + 1 : Nat) : Int) ≤ _; omega⟩
      case measure =>
        show 3000 - (t ++ (⟨#[120]⟩ : ByteArray)).size < 3000 - t.size
        rw [ByteArray.size_append]
        show 3000 - (t.size + 1) < _
        omega
    · have HV := Lib.hid (reqV_long (s := t) (by omega))
      have HW := Lib.hid (statV_long (s := t) (by omega))
      go_wp2_with fail
      refine (parseReq_any t _ a b m HE.out (by omega)).mono ?_
      rintro e w1 ⟨rfl, hb1⟩
      rw [HV.out]
      have E1 := Lib.hid (HE.out.below hb1)
      go_wp2_with fail
      refine (parseStat_any t _ a b m E1.out (by omega)).mono ?_
      rintro e w2 ⟨rfl, hb2⟩
      rw [HW.out]
      have E2 := Lib.hid (E1.out.below hb2)
      have b2 := below_step hb1 hb2
      clear hb1 hb2
      go_wp2_with fail
      refine (awake2_any _ a b m E2.out).mono ?_
      rintro e w3 ⟨rfl, hb3⟩
      go_wp2_with fail
      go_ret
      exact ⟨rfl, below_step b2 hb3⟩
end Go.Proofs.YthdbgiklniiglaaDoor
