/- What the listed variables give the walks of law 6 (message): the errors of a start line. -/
import Derived.Test.YtfnmohaddkoalaaGreatDoorQMsgR
import Derived.Test.YtfnmohaddkoalaaGreatDoorQPost
import Derived.OpenShut
namespace Go.Proofs.YtfnmohaddkoalaaGreatDoor
open Go.RowKit
set_option linter.unusedVariables false

def SentOf (w : World) : Prop := ∃ a b : Addr, w.cell? ⟨0, 0, none⟩ = some (errV a) ∧ w.cell? ⟨1, 0, none⟩ = some (errV b) ∧ a ≠ b ∧
  (∃ ca ta, w.heap[a.block]? = some (.cells ca ta (0, 0))) ∧ ∃ cb tb, w.heap[b.block]? = some (.cells cb tb (0, 0))
theorem startEnv {w : World} (h : SentOf w) (h' : MaxOf w) : ∃ a b m, StartEnv w a b m := by
  obtain ⟨a, b, h1, h2, h3, h4, h5⟩ := h
  obtain ⟨m, hm⟩ := h'
  exact ⟨a, b, m, h1, h2, h3, h4, h5, hm⟩
theorem row_err (u : TypeId) (h : Tryz.prog.typeName? 3 u = some "*errors.errorString") : u = 170 :=
  typeName_ptr_named (nm := "errors.errorString") (by kernel_rfl) (by kernel_rfl) (by decide) u h
theorem gErrSyn : Tryz.prog.globalNamed "variantproxy/startline.errSyntax" = some 0 := by kernel_rfl
theorem gErrVer : Tryz.prog.globalNamed "variantproxy/startline.errVersion" = some 1 := by kernel_rfl
theorem sent_of_two {W : World} {r : List (String × DataW Unit)} (h : laidMet Tryz.prog (("variantproxy/startline.errSyntax", Rows.laid_variantproxy_startline_errSyntax) :: ("variantproxy/startline.errVersion", Rows.laid_variantproxy_startline_errVersion) :: r) W) : SentOf W := by
  obtain ⟨a0, a1, s0, s1, c0, c1, t0, t1, hv0, hv1, _, _, _, _, _, _, hne, hb0, hb1⟩ := laid_sentinels2 h gErrSyn (by kernel_rfl) gErrVer (by kernel_rfl) Tryz.underlying89 row_err Tryz.underlying170 Tryz.underlying192 rfl rfl Tryz.underlying9 (by kernel_rfl) (by kernel_rfl)
  exact ⟨a0, a1, World.var?_cell gErrSyn hv0 0, World.var?_cell gErrVer hv1 0, hne, ⟨c0, t0, hb0⟩, ⟨c1, t1, hb1⟩⟩
/-- What a call of ParseRequest asks of the world. -/
def ReqEnv (w : World) : Prop := MaxOf w ∧ ∃ a b m, StartEnv w a b m
theorem ReqEnv.below {w w' : World} (h : ReqEnv w) (hb : Below w.heap.size w w') : ReqEnv w' := by
  obtain ⟨h1, a, b, m, h2⟩ := h
  exact ⟨h1.below hb, a, b, m, h2.below hb⟩
theorem ReqEnv.of {w : World} (h : SentOf w) (h' : MaxOf w) : ReqEnv w := ⟨h', startEnv h h'⟩
theorem parseE_any (s : ByteArray) (w : World) (hs : s.size ≤ 1000000) (h : ReqEnv w) : Calls Tryz.prog 12 #[.string s] w (ReqOut (parseQ (bs s)) w) := by
  obtain ⟨h1, a, b, m, h2⟩ := h
  exact parse_any s w hs h1 a b m h2
abbrev aw6 : ByteArray := ⟨#[80, 85, 84, 32, 47, 32, 72, 84, 84, 80, 47, 49, 46, 49, 13, 10, 72, 111, 115, 116, 58, 32, 97, 13, 10, 67, 111, 110, 116, 101, 110, 116, 45, 76, 101, 110, 103, 116, 104, 58, 32, 50, 13, 10, 13, 10, 104, 105, 120]⟩
theorem aw6_parse : (parseQ (bs aw6)).2 = (48, 0) ∧ (parseQ (bs aw6)).1.b = [104, 105] ∧ (parseQ (bs aw6)).1.xs.length = 1 := by decide +kernel
set_option maxHeartbeats 800000 in
theorem awake6_any (w : World) (hE : ReqEnv w) : Calls Tryz.prog 11 #[] w fun e w' => e = .returned (.bool true) ∧ Below w.heap.size w w' := by
  have HP := parseE_any aw6 w (by decide) hE
  obtain ⟨h1, h2, h3⟩ := aw6_parse
  generalize parseQ (bs aw6) = r at HP h1 h2 h3
  obtain ⟨⟨m, t, v, xs, b⟩, n, e0⟩ := r
  obtain ⟨h1, h4⟩ := Prod.mk.inj h1
  dsimp only at h1 h2 h3 h4
  subst h1 h4 h2
  have HPH := Lib.hid HP
  have HX := Lib.hid h3
  clear HP hE h3
  obtain ⟨M, hM⟩ : ∃ M : ByteArray, M = ⟨m.toArray⟩ := ⟨_, rfl⟩
  obtain ⟨T, hT⟩ : ∃ M : ByteArray, M = ⟨t.toArray⟩ := ⟨_, rfl⟩
  go_enter Tryz.func11, Tryz.ntmps11
  go_wp2_with fail
  refine HPH.out.mono ?_
  rintro e w1 ⟨vf, rfl, FB, hb1⟩
  dsimp only at FB ⊢
  obtain ⟨oa, cap, rfl, _⟩ := FB.shape
  rw [HX.out, ← hM, ← hT]
  clear HPH FB hM hT
  have ha := alloc_b w1 (.cells (reqC ⟨#[]⟩ ⟨#[]⟩ 0 (.slice none 0 0) ⟨#[]⟩).toArray 24)
  have RN := RowAt.new w1 (reqC ⟨#[]⟩ ⟨#[]⟩ 0 (.slice none 0 0) ⟨#[]⟩) 24
  go_wp2_with (refine wpList_store_row rfl _ 24 (.tmp 1) (.tmp 6) rfl w1.heap.size 24 zReq (reqC M T v (.slice oa 1 cap) ⟨#[104, 105]⟩) RN rfl rfl rfl mreq_size (reqC_one _ _ _ _ _ _ _) ?_; intro w2 R2 f1 f2 f3; have d3 := R2.cell 3 rfl; have d4 := R2.cell 4 rfl)
  go_ret
  exact ⟨rfl, (step_b hb1 ha).trans (f1 _ hb1.size)⟩
end Go.Proofs.YtfnmohaddkoalaaGreatDoor
