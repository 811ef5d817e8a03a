/- variantproxy/variantproxylaw11.LanguageSelects: for every input the call returns true and leaves its arguments as they were; the listed package variables hold what the program's text lays (the card ties them). Conditions: none beyond the given row's own. -/
import Derived.Test.YtfkgjjoejcbdnaaDoorLangU
import Derived.Test.YtfkgjjoejcbdnaaDoorPost
import Derived.Test.YtfkgjjoejcbdnaaDoorStrs
import Derived.Lay
import Derived.Test.YtfkgjjoejcbdnaaDoorCards
import Derived.Test.YtfkgjjoejcbdnaaDoorTie
import Derived.SevenTiedAt
import Derived.LaidLaws
namespace Go.Proofs.YtfkgjjoejcbdnaaDoor.languageSelectsF
open Go.ChangeShapes Go.WideShapes Go.ChangeAt Go.RowKit
open Go.ChangeMaps (open_string shut_string)
set_option linter.unusedVariables false
set_option linter.unusedSimpArgs false

theorem own : ownKnob Tryd.prog.godebug = none := by kernel_rfl
theorem door_met (os : Os) (args : Array Value) : laidMetH Tryd.prog Rows.languageSelectsRow.laid ((World.laidAll Tryd.prog os Rows.languageSelectsRow.laid).forCall (fun _ _ => 0) ⟨#[], args, []⟩).memory :=
  by rw [MakeChecks.laidMetH_plain _ _ _ (by kernel_rfl)]; exact laidMet_laidAll _ (by kernel_rfl) (by kernel_rfl)
set_option maxRecDepth 100000 in
theorem lifted (os : Os) (started : os.Started) (H : Type) (enc : TypeId × Value → H) :
    ReturnsInHanded {} Tryd.checked os 7 .any (fun w args => (Rows.languageSelectsSpec.pre enc Tryd.prog Tryd.f7 [] false w args ∧ laidMetH Tryd.prog Rows.languageSelectsRow.laid w) ∧ sizedMet enc Tryd.prog Tryd.f7 (OpenSpec.ofChange Rows.languageSelectsSpec) false w args)
      (Rows.languageSelectsSpec.post enc Tryd.prog Tryd.f7 false true false false) := by
  refine returns_shaped_and (C := Tryd.checked) (X := fun w _ => laidMetH Tryd.prog Rows.languageSelectsRow.laid w) (fun _ _ _ hh h => h.of_heap hh) own started (by kernel_rfl) Tryd.func7
    (ChangeSpec.witness_shaped (enc := enc) (C := Tryd.checked) (os := os) (X := fun w _ => laidMetH Tryd.prog Rows.languageSelectsRow.laid w) false (World.laidAll Tryd.prog os Rows.languageSelectsRow.laid) #[.string ByteArray.empty, .slice none 0 0, .slice none 0 0] 8 (World.laidAll_os _ _ _) (World.shaped_of_ZipB (by kernel_rfl) (by kernel_rfl)) (by kernel_rfl) (by kernel_rfl) (by kernel_rfl) (door_met os _)) ?_
  intro W base args ds gs before hval0 hW hL hS
  have hval : ∀ (j : Nat) t v, Tryd.f7.params[j]? = some t → args[j]? = some v → Value.okWide Tryd.prog W .any base t v := hval0
  have hW' := hW
  obtain ⟨p, q, hA0, hV, rfl, hfz, hnd⟩ := hW
  have hA : DataW.TrodAll enc Tryd.prog W 0 (fun _ => true) true Tryd.f7.params.toList args.toList ds p := hA0
  rw [Tryd.params7] at hA hval
  obtain ⟨v0, vs0, d0, ds0, p0, q0, hargs, rfl, rfl, h0, r0⟩ := trodAll_cons hA
  obtain ⟨v1, vs1, d1, ds1, p1, q1, rfl, rfl, rfl, h1, r1⟩ := trodAll_cons r0
  obtain ⟨v2, vs2, d2, ds2, p2, q2, rfl, rfl, rfl, h2, r2⟩ := trodAll_cons r1
  obtain ⟨rfl, rfl, rfl⟩ := trodAll_nil r2
  obtain rfl : args = #[v0, v1, v2] := by cases args; simp_all
  obtain ⟨rfl, rfl⟩ := trodVars_none hV
  obtain ⟨a0, rfl, rfl, rfl, w0⟩ := open_string Tryd.underlying9 (hval 0 9 v0 rfl rfl) h0
  obtain ⟨oa1, xs1, cap1, rfl, st1, sz1, ln1⟩ := open_strsl Tryd.underlying28 (hval 1 28 v1 rfl rfl) h1
  obtain ⟨oa2, xs2, cap2, rfl, st2, sz2, ln2⟩ := open_strsl Tryd.underlying28 (hval 2 28 v2 rfl rfl) h2
  clear hA0 hval0
  simp only [List.append_nil, List.nil_append] at hW'
  have hlt0 := hW'.lt
  refine (languageSelects_walk a0 oa1 xs1 cap1 oa2 xs2 cap2 W (by unfold maxLen at w0; exact w0) st1 sz1 ln1 st2 sz2 ln2 (max_of_shape hS)).mono fun e W' ⟨he, hg⟩ => ?_
  subst he
  exact ⟨_, rfl, post_below (pa := p1 ++ p2) (pv := []) hW' (fun _ _ _ => (trodAll_cons_mk (shut_bool Tryd.underlying4 _) trodAll_mk0)) (fun sp hsp => by have hsh : DataW.TrodAll enc Tryd.prog W' 0 sp true _ _ _ _ := (trodAll_cons_mk (shut_string Tryd.underlying9 w0) (trodAll_cons_mk (stays (by kernel_rfl) (of_decide_eq_true (by kernel_rfl)) h1 hg (fun x hx => hlt0 x (by simp [hx])) (fun x hx => hsp x (by simp [hx]))) (trodAll_cons_mk (stays (by kernel_rfl) (of_decide_eq_true (by kernel_rfl)) h2 hg (fun x hx => hlt0 x (by simp [hx])) (fun x hx => hsp x (by simp [hx]))) trodAll_mk0))); simp only [List.append_nil, List.nil_append] at hsh; exact hsh) (fun _ _ => rfl) (by simp)
    hg (ok_one (by kernel_rfl) rfl (okWide_bool_mk Tryd.underlying4 _))⟩

theorem over : Rows.LanguageSelectsSaid :=
  OpenClaim.holds_of_wide 7 Tryd.f7 rfl rfl rfl rfl rfl rfl rfl ⟨rfl, rfl, rfl, rfl, rfl⟩ rfl rfl rfl rfl rfl (by kernel_rfl) Tryd.func7 (by kernel_rfl)
    (of_decide_eq_true (by kernel_rfl)) (by unfold Func.isWrapper; first | (rw [if_pos (by decide +kernel)]; kernel_rfl) | (rw [if_neg (by decide +kernel)]; exact ⟨rfl, rfl⟩))
    (fun os started H enc _ => lifted os started H enc)
theorem card_holds : Rows.LanguageSelectsCardSaid :=
  Claim7.holds_tied_plain_at .later [] [.data, .pinned] true (true, "34579f68307bacfe2f340135141d49e61880232d1e253a374c695de612aa5b2f") false
    over (fun _ h => by cases h) (by kernel_rfl) (fun _ h => by cases h) languageSelects_row_tie rfl ⟨rfl, rfl⟩ (by kernel_rfl) rfl
    (fun f fn hf hfn => by
      obtain rfl : f = 7 := Option.some.inj ((show Tryd.prog.funcNamed "variantproxy/variantproxylaw11.LanguageSelects" = some 7 by kernel_rfl).symm.trans hf) |>.symm
      obtain rfl : fn = Tryd.f7 := (Option.some.inj (Tryd.func7.symm.trans hfn)).symm
      exact ⟨by kernel_rfl, fun j t ht => by
        rw [Tryd.params7] at ht
        have hm : t ∈ [9, 28, 28] := by simpa using Array.mem_of_getElem? ht
        have hall : ([9, 28, 28].all fun u => !Tryd.prog.wantsStandIn u) = true := by kernel_rfl
        exact (show Tryd.prog.wantsStandIn t = false by simpa using List.all_eq_true.1 hall t hm)⟩)
    (by kernel_rfl)
#print axioms card_holds
end Go.Proofs.YtfkgjjoejcbdnaaDoor.languageSelectsF
