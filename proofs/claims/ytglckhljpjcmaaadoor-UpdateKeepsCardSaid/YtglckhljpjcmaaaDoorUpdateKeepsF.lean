/- variantproxy/variantproxylaw29.UpdateKeeps: for every input the call returns true and leaves its arguments as they were; the listed package variables hold what the program's text lays (the card ties them). Conditions: none beyond the given row's own. -/
import Derived.Test.YtglckhljpjcmaaaDoorUpdK2
import Derived.Test.YtglckhljpjcmaaaDoorPost
import Derived.Test.YtglckhljpjcmaaaDoorStrs
import Derived.Test.YtglckhljpjcmaaaDoorArgO
import Derived.Lay
import Derived.Test.YtglckhljpjcmaaaDoorCards
import Derived.Test.YtglckhljpjcmaaaDoorTie
import Derived.SevenTiedAt
import Derived.LaidLaws
namespace Go.Proofs.YtglckhljpjcmaaaDoor.updateKeepsF
open Go.ChangeShapes Go.WideShapes Go.ChangeAt Go.RowKit
open Go.ChangeMaps (open_string shut_string)
set_option linter.unusedVariables false
set_option linter.unusedSimpArgs false

theorem own : ownKnob Tryd.prog.godebug = none := by kernel_rfl
theorem door_met (os : Os) (args : Array Value) : laidMetH Tryd.prog Rows.updateKeepsRow.laid ((World.laidAll Tryd.prog os Rows.updateKeepsRow.laid).forCall (fun _ _ => 0) ⟨#[], args, []⟩).memory :=
  by rw [MakeChecks.laidMetH_plain _ _ _ (by kernel_rfl)]; exact laidMet_laidAll _ (by kernel_rfl) (by kernel_rfl)
set_option maxRecDepth 100000 in
theorem lifted (os : Os) (started : os.Started) (H : Type) (enc : TypeId × Value → H) :
    ReturnsInHanded {} Tryd.checked os 3 .any (fun w args => (Rows.updateKeepsSpec.pre enc Tryd.prog Tryd.f3 [] false w args ∧ laidMetH Tryd.prog Rows.updateKeepsRow.laid w) ∧ sizedMet enc Tryd.prog Tryd.f3 (OpenSpec.ofChange Rows.updateKeepsSpec) false w args)
      (Rows.updateKeepsSpec.post enc Tryd.prog Tryd.f3 false true false false) := by
  refine returns_shaped_and (C := Tryd.checked) (X := fun w _ => laidMetH Tryd.prog Rows.updateKeepsRow.laid w) (fun _ _ _ hh h => h.of_heap hh) own started (by kernel_rfl) Tryd.func3
    (ChangeSpec.witness_shaped (enc := enc) (C := Tryd.checked) (os := os) (X := fun w _ => laidMetH Tryd.prog Rows.updateKeepsRow.laid w) false (World.laidAll Tryd.prog os Rows.updateKeepsRow.laid) #[.agg #[.slice none 0 0, .slice none 0 0, .slice none 0 0, .string ByteArray.empty, .slice none 0 0, .string ByteArray.empty, .int .i64 0, .int .i64 0], .agg #[.int .i64 0, .int .i64 0, .string ByteArray.empty, .slice none 0 0, .string ByteArray.empty], .int .i64 0, .int .i64 0, .string ByteArray.empty] 8 (World.laidAll_os _ _ _) (World.shaped_of_ZipB (by kernel_rfl) (by kernel_rfl)) (by kernel_rfl) (by kernel_rfl) (by kernel_rfl) (door_met os _)) ?_
  intro W base args ds gs before hval0 hW hL hS
  have hval : ∀ (j : Nat) t v, Tryd.f3.params[j]? = some t → args[j]? = some v → Value.okWide Tryd.prog W .any base t v := hval0
  have hW' := hW
  obtain ⟨p, q, hA0, hV, rfl, hfz, hnd⟩ := hW
  have hA : DataW.TrodAll enc Tryd.prog W 0 (fun _ => true) true Tryd.f3.params.toList args.toList ds p := hA0
  rw [Tryd.params3] at hA hval
  obtain ⟨v0, vs0, d0, ds0, p0, q0, hargs, rfl, rfl, h0, r0⟩ := trodAll_cons hA
  obtain ⟨v1, vs1, d1, ds1, p1, q1, rfl, rfl, rfl, h1, r1⟩ := trodAll_cons r0
  obtain ⟨v2, vs2, d2, ds2, p2, q2, rfl, rfl, rfl, h2, r2⟩ := trodAll_cons r1
  obtain ⟨v3, vs3, d3, ds3, p3, q3, rfl, rfl, rfl, h3, r3⟩ := trodAll_cons r2
  obtain ⟨v4, vs4, d4, ds4, p4, q4, rfl, rfl, rfl, h4, r4⟩ := trodAll_cons r3
  obtain ⟨rfl, rfl, rfl⟩ := trodAll_nil r4
  obtain rfl : args = #[v0, v1, v2, v3, v4] := by cases args; simp_all
  obtain ⟨rfl, rfl⟩ := trodVars_none hV
  obtain ⟨ok0, ks0, ck0, ov0, vs0, cv0, os0, ss0, cs0, rs0, oe0, es0, ce0, be0, ra0, rb0, rfl, ek0, el0, em0, ev0, ew0, ex0, eA0, eB0, eC0, eD0, eE0, eF0, eG0, eH0, eI0, eJ0⟩ := open_ent (open8 Tryd.underlying26 (by kernel_rfl) (by kernel_rfl) (hval 0 26 v0 rfl rfl) h0)
  obtain ⟨m1, st1, rs1, oa1, xs1, cap1, bd1, rfl, fo1, fz1, ln1, rz1, bz1⟩ := open_resp (open5 Tryd.underlying28 (by kernel_rfl) (by kernel_rfl) (hval 1 28 v1 rfl rfl) h1)
  obtain ⟨a2, rfl, rfl, rfl, w2⟩ := open_int Tryd.underlying2 (hval 2 2 v2 rfl rfl) h2
  obtain ⟨a3, rfl, rfl, rfl, w3⟩ := open_int Tryd.underlying2 (hval 3 2 v3 rfl rfl) h3
  obtain ⟨a4, rfl, rfl, rfl, w4⟩ := open_string Tryd.underlying9 (hval 4 9 v4 rfl rfl) h4
  clear hA0 hval0
  simp only [List.append_nil, List.nil_append] at hW'
  have hlt0 := hW'.lt
  refine (keeps_walk ok0 ks0 ck0 ov0 vs0 cv0 os0 ss0 cs0 rs0 oe0 es0 ce0 be0 ra0 rb0 m1 st1 rs1 oa1 xs1 cap1 bd1 a2 a3 a4 W ek0 el0 em0 ev0 ew0 ex0 eA0 eB0 eC0 eD0 eE0 eG0 eH0 eI0 eJ0 ln1 rz1 bz1 fo1 w2 w3 (by unfold maxLen at w4; exact w4)).mono fun e W' ⟨he, hg⟩ => ?_
  subst he
  exact ⟨_, rfl, post_below (pa := p0 ++ p1) (pv := []) hW' (fun _ _ _ => (trodAll_cons_mk (shut_bool Tryd.underlying4 _) trodAll_mk0)) (fun sp hsp => by have hsh : DataW.TrodAll enc Tryd.prog W' 0 sp true _ _ _ _ := (trodAll_cons_mk (stays (by kernel_rfl) (of_decide_eq_true (by kernel_rfl)) h0 hg (fun x hx => hlt0 x (by simp [hx])) (fun x hx => hsp x (by simp [hx]))) (trodAll_cons_mk (stays (by kernel_rfl) (of_decide_eq_true (by kernel_rfl)) h1 hg (fun x hx => hlt0 x (by simp [hx])) (fun x hx => hsp x (by simp [hx]))) (trodAll_cons_mk (shut_int Tryd.underlying2 w2) (trodAll_cons_mk (shut_int Tryd.underlying2 w3) (trodAll_cons_mk (shut_string Tryd.underlying9 w4) trodAll_mk0))))); simp only [List.append_nil, List.nil_append] at hsh; exact hsh) (fun _ _ => rfl) (by simp)
    hg (ok_one (by kernel_rfl) rfl (okWide_bool_mk Tryd.underlying4 _))⟩

theorem over : Rows.UpdateKeepsSaid :=
  OpenClaim.holds_of_wide 3 Tryd.f3 rfl rfl rfl rfl rfl rfl rfl ⟨rfl, rfl, rfl, rfl, rfl⟩ rfl rfl rfl rfl rfl (by kernel_rfl) Tryd.func3 (by kernel_rfl)
    (of_decide_eq_true (by kernel_rfl)) (by unfold Func.isWrapper; first | (rw [if_pos (by decide +kernel)]; kernel_rfl) | (rw [if_neg (by decide +kernel)]; exact ⟨rfl, rfl⟩))
    (fun os started H enc _ => lifted os started H enc)
theorem card_holds : Rows.UpdateKeepsCardSaid :=
  Claim7.holds_tied_plain_at .later [] [.data, .pinned] true (true, "05321c9805349e374ba5b3f5848ffb06a1733c43f1914b3b32b6b618b4d4b662") false
    over (fun _ h => by cases h) (by kernel_rfl) (fun _ h => by cases h) updateKeeps_row_tie rfl ⟨rfl, rfl⟩ (by kernel_rfl) rfl
    (fun f fn hf hfn => by
      obtain rfl : f = 3 := Option.some.inj ((show Tryd.prog.funcNamed "variantproxy/variantproxylaw29.UpdateKeeps" = some 3 by kernel_rfl).symm.trans hf) |>.symm
      obtain rfl : fn = Tryd.f3 := (Option.some.inj (Tryd.func3.symm.trans hfn)).symm
      exact ⟨by kernel_rfl, fun j t ht => by
        rw [Tryd.params3] at ht
        have hm : t ∈ [26, 28, 2, 2, 9] := by simpa using Array.mem_of_getElem? ht
        have hall : ([26, 28, 2, 2, 9].all fun u => !Tryd.prog.wantsStandIn u) = true := by kernel_rfl
        exact (show Tryd.prog.wantsStandIn t = false by simpa using List.all_eq_true.1 hall t hm)⟩)
    (by kernel_rfl)
#print axioms card_holds
end Go.Proofs.YtglckhljpjcmaaaDoor.updateKeepsF
