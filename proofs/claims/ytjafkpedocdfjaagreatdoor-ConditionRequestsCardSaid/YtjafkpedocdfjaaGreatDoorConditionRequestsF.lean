/- variantproxy/variantproxylaw31.ConditionRequests: for every input the call returns true and leaves its arguments as they were; the listed package variables hold what the program's text lays (the card ties them). Conditions: none beyond the given row's own. -/
import Derived.Test.YtjafkpedocdfjaaGreatDoorReqZ
import Derived.Test.YtjafkpedocdfjaaGreatDoorPost
import Derived.Test.YtjafkpedocdfjaaGreatDoorStrs
import Derived.Test.YtjafkpedocdfjaaGreatDoorArgO
import Derived.Test.YtjafkpedocdfjaaGreatDoorReqZ
import Derived.Lay
import Derived.Test.YtjafkpedocdfjaaGreatDoorCards
import Derived.Test.YtjafkpedocdfjaaGreatDoorTie
import Derived.SevenTiedAt
import Derived.LaidLaws
namespace Go.Proofs.YtjafkpedocdfjaaGreatDoor.conditionRequestsF
open Go.ChangeShapes Go.WideShapes Go.ChangeAt Go.RowKit
open Go.ChangeMaps (open_string shut_string)
set_option linter.unusedVariables false
set_option linter.unusedSimpArgs false

theorem own : ownKnob Tryz.prog.godebug = none := by kernel_rfl
theorem door_met (os : Os) (args : Array Value) : laidMetH Tryz.prog Rows.conditionRequestsRow.laid ((World.laidAll Tryz.prog os Rows.conditionRequestsRow.laid).forCall (fun _ _ => 0) ⟨#[], args, []⟩).memory :=
  by rw [MakeChecks.laidMetH_plain _ _ _ (by kernel_rfl)]; exact laidMet_laidAll _ (by kernel_rfl) (by kernel_rfl)
set_option maxRecDepth 100000 in
theorem lifted (os : Os) (started : os.Started) (H : Type) (enc : TypeId × Value → H) :
    ReturnsInHanded {} Tryz.checked os 5 .any (fun w args => (Rows.conditionRequestsSpec.pre enc Tryz.prog Tryz.f5 [] false w args ∧ laidMetH Tryz.prog Rows.conditionRequestsRow.laid w) ∧ sizedMet enc Tryz.prog Tryz.f5 (OpenSpec.ofChange Rows.conditionRequestsSpec) false w args)
      (Rows.conditionRequestsSpec.post enc Tryz.prog Tryz.f5 false true false false) := by
  refine returns_shaped_and (C := Tryz.checked) (X := fun w _ => laidMetH Tryz.prog Rows.conditionRequestsRow.laid w) (fun _ _ _ hh h => h.of_heap hh) own started (by kernel_rfl) Tryz.func5
    (ChangeSpec.witness_shaped (enc := enc) (C := Tryz.checked) (os := os) (X := fun w _ => laidMetH Tryz.prog Rows.conditionRequestsRow.laid w) false (World.laidAll Tryz.prog os Rows.conditionRequestsRow.laid) #[.agg #[.string ByteArray.empty, .string ByteArray.empty, .int .i64 0, .slice none 0 0, .string ByteArray.empty], .agg #[.slice none 0 0, .slice none 0 0, .slice none 0 0, .string ByteArray.empty, .slice none 0 0, .string ByteArray.empty, .int .i64 0, .int .i64 0], .string ByteArray.empty] 8 (World.laidAll_os _ _ _) (World.shaped_of_ZipB (by kernel_rfl) (by kernel_rfl)) (by kernel_rfl) (by kernel_rfl) (by kernel_rfl) (door_met os _)) ?_
  intro W base args ds gs before hval0 hW hL hS
  have hval : ∀ (j : Nat) t v, Tryz.f5.params[j]? = some t → args[j]? = some v → Value.okWide Tryz.prog W .any base t v := hval0
  have hW' := hW
  obtain ⟨p, q, hA0, hV, rfl, hfz, hnd⟩ := hW
  have hA : DataW.TrodAll enc Tryz.prog W 0 (fun _ => true) true Tryz.f5.params.toList args.toList ds p := hA0
  rw [Tryz.params5] at hA hval
  obtain ⟨v0, vs0, d0, ds0, p0, q0, hargs, rfl, rfl, h0, r0⟩ := trodAll_cons hA
  obtain ⟨v1, vs1, d1, ds1, p1, q1, rfl, rfl, rfl, h1, r1⟩ := trodAll_cons r0
  obtain ⟨v2, vs2, d2, ds2, p2, q2, rfl, rfl, rfl, h2, r2⟩ := trodAll_cons r1
  obtain ⟨rfl, rfl, rfl⟩ := trodAll_nil r2
  obtain rfl : args = #[v0, v1, v2] := by cases args; simp_all
  obtain ⟨rfl, rfl⟩ := trodVars_none hV
  obtain ⟨m0, tg0, mn0, oa0, xs0, cap0, bd0, rfl, fo0, fz0, ln0, mz0, tz0, bz0, mw0⟩ := open_req (open5 Tryz.underlying40 (by kernel_rfl) (by kernel_rfl) (hval 0 40 v0 rfl rfl) h0)
  obtain ⟨ok1, ks1, ck1, ov1, vs1, cv1, os1, ss1, cs1, rs1, oe1, es1, ce1, be1, ra1, rb1, rfl, ek1, el1, em1, ev1, ew1, ex1, eA1, eB1, eC1, eD1, eE1, eF1, eG1, eH1, eI1, eJ1⟩ := open_ent (open8 Tryz.underlying43 (by kernel_rfl) (by kernel_rfl) (hval 1 43 v1 rfl rfl) h1)
  obtain ⟨a2, rfl, rfl, rfl, w2⟩ := open_string Tryz.underlying9 (hval 2 9 v2 rfl rfl) h2
  clear hA0 hval0
  simp only [List.append_nil, List.nil_append] at hW'
  have hlt0 := hW'.lt
  refine (requests_walk m0 tg0 mn0 oa0 xs0 cap0 bd0 ok1 ks1 ck1 ov1 vs1 cv1 os1 ss1 cs1 rs1 oe1 es1 ce1 be1 ra1 rb1 a2 W ln0 mz0 tz0 bz0 mw0 fo0 ek1 el1 em1 ev1 ew1 ex1 eA1 eB1 eC1 eD1 eE1 eG1 eH1 eI1 eJ1 (by unfold maxLen at w2; exact w2) (pow_of_laidR hL)).mono fun e W' ⟨he, hg⟩ => ?_
  subst he
  exact ⟨_, rfl, post_below (pa := p0 ++ p1) (pv := []) hW' (fun _ _ _ => (trodAll_cons_mk (shut_bool Tryz.underlying4 _) trodAll_mk0)) (fun sp hsp => by have hsh : DataW.TrodAll enc Tryz.prog W' 0 sp true _ _ _ _ := (trodAll_cons_mk (stays (by kernel_rfl) (of_decide_eq_true (by kernel_rfl)) h0 hg (fun x hx => hlt0 x (by simp [hx])) (fun x hx => hsp x (by simp [hx]))) (trodAll_cons_mk (stays (by kernel_rfl) (of_decide_eq_true (by kernel_rfl)) h1 hg (fun x hx => hlt0 x (by simp [hx])) (fun x hx => hsp x (by simp [hx]))) (trodAll_cons_mk (shut_string Tryz.underlying9 w2) trodAll_mk0))); simp only [List.append_nil, List.nil_append] at hsh; exact hsh) (fun _ _ => rfl) (by simp)
    hg (ok_one (by kernel_rfl) rfl (okWide_bool_mk Tryz.underlying4 _))⟩

theorem over : Rows.ConditionRequestsSaid :=
  OpenClaim.holds_of_wide 5 Tryz.f5 rfl rfl rfl rfl rfl rfl rfl ⟨rfl, rfl, rfl, rfl, rfl⟩ rfl rfl rfl rfl rfl (by kernel_rfl) Tryz.func5 (by kernel_rfl)
    (of_decide_eq_true (by kernel_rfl)) (by unfold Func.isWrapper; first | (rw [if_pos (by decide +kernel)]; kernel_rfl) | (rw [if_neg (by decide +kernel)]; exact ⟨rfl, rfl⟩))
    (fun os started H enc _ => lifted os started H enc)
theorem card_holds : Rows.ConditionRequestsCardSaid :=
  Claim7.holds_tied_plain_at .later [] [.data, .data, .data, .data, .pinned] true (true, "a3138ade43bb2e7016b4ba078f7bb1a64088bd40617ed355664c4383811a5f3a") false
    over (fun _ h => by cases h) (by kernel_rfl) (fun _ h => by cases h) conditionRequests_row_tie rfl ⟨rfl, rfl⟩ (by kernel_rfl) rfl
    (fun f fn hf hfn => by
      obtain rfl : f = 5 := Option.some.inj ((show Tryz.prog.funcNamed "variantproxy/variantproxylaw31.ConditionRequests" = some 5 by kernel_rfl).symm.trans hf) |>.symm
      obtain rfl : fn = Tryz.f5 := (Option.some.inj (Tryz.func5.symm.trans hfn)).symm
      exact ⟨by kernel_rfl, fun j t ht => by
        rw [Tryz.params5] at ht
        have hm : t ∈ [40, 43, 9] := by simpa using Array.mem_of_getElem? ht
        have hall : ([40, 43, 9].all fun u => !Tryz.prog.wantsStandIn u) = true := by kernel_rfl
        exact (show Tryz.prog.wantsStandIn t = false by simpa using List.all_eq_true.1 hall t hm)⟩)
    (by kernel_rfl)
#print axioms card_holds
end Go.Proofs.YtjafkpedocdfjaaGreatDoor.conditionRequestsF
