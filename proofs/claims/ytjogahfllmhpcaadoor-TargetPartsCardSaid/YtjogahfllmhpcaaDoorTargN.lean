/- The walks of two statements on layer 4 (target) that hold the program against the reference: TargetParts, TargetParses. -/
import Derived.Test.YtjogahfllmhpcaaDoorTargL
import Derived.Test.YtjogahfllmhpcaaDoorTargV5
namespace Go.Proofs.YtjogahfllmhpcaaDoor
open Go.RowKit

theorem auth_form (r : Option (List UInt8 × Int)) : ∃ (a : ByteArray) (k : Int) (b : Bool), authV r = .tuple #[.string a, .int .i64 k, .bool b] := by
  cases r with
  | none => exact ⟨_, _, _, rfl⟩
  | some x => exact ⟨_, _, _, rfl⟩
theorem norm_form (r : Option (List UInt8)) : ∃ (a : ByteArray) (b : Bool), normV r = .tuple #[.string a, .bool b] := by
  cases r with
  | none => exact ⟨_, _, rfl⟩
  | some x => exact ⟨_, _, rfl⟩
set_option maxHeartbeats 3200000 in
theorem targetParts_walk (s : ByteArray) (w : World) (_ : s.size ≤ 9223372036854775807) (hT : PowTab w) (hM : MaxOf w) :
    Calls Tryd.prog 4 #[.string s] w fun e w' => e = .returned (.bool true) ∧ Below w.heap.size w w' := by
  have HM := Lib.hid hM
  have HT := Lib.hid hT
  clear hM hT
  by_cases hl : 3000 < (s.size : Int)
  · go_enter Tryd.func4, Tryd.ntmps4
    go_wp2_with fail
    go_ret
    exact ⟨rfl, Below.refl _ _⟩
  obtain ⟨a, k, ok, ha⟩ := auth_form (authL (bs s))
  obtain ⟨n, is, hn⟩ := norm_form (normL (bs s))
  obtain ⟨p, hp⟩ : ∃ p : ByteArray, p = ⟨(segsL (bs s)).toArray⟩ := ⟨_, rfl⟩
  have HA := Lib.hid ha
  have HN := Lib.hid hn
  have HP := Lib.hid hp
  clear ha hn hp
  go_enter Tryd.func4, Tryd.ntmps4
  go_wp2_with fail
  refine (authority_any s _ (by omega) HM.out).mono ?_
  rintro e w1 ⟨rfl, b1⟩
  rw [HA.out]
  go_wp2_with fail
  refine (rauthority_any s _ (by omega)).mono ?_
  rintro e w2 ⟨rfl, hb2⟩
  rw [HA.out]
  have b2 := below_step b1 hb2
  clear b1 hb2
  go_wp2_with fail
  refine (normalize_any s _ (by omega)).mono ?_
  rintro e w3 ⟨rfl, hb3⟩
  rw [HN.out]
  have b3 := below_step b2 hb3
  clear b2 hb3
  go_wp2_with fail
  refine (rnormalize_any s _ (by omega)).mono ?_
  rintro e w4 ⟨rfl, hb4⟩
  rw [HN.out]
  have b4 := below_step b3 hb4
  have HM4 := Lib.hid (HM.out.below b4)
  clear b3 hb4
  go_wp2_with fail
  refine (segments_any s _ (by omega) HM4.out).mono ?_
  rintro e w5 ⟨rfl, hb5⟩
  rw [← HP.out]
  have b5 := below_step b4 hb5
  clear b4 hb5 HM4
  go_wp2_with fail
  refine (rsegments_any s _ (by omega)).mono ?_
  rintro e w6 ⟨rfl, hb6⟩
  rw [← HP.out]
  have b6 := below_step b5 hb6
  have HM6 := Lib.hid (HM.out.below b6)
  have HT6 := Lib.hid (HT.out.below b6)
  clear b5 hb6
  go_wp2_with fail
  refine (awake4_any _ HT6.out HM6.out).mono ?_
  rintro e w7 ⟨rfl, hb7⟩
  go_wp2_with fail
  go_ret
  exact ⟨rfl, below_step b6 hb7⟩
set_option maxHeartbeats 3200000 in
theorem targetParses_walk (t h : ByteArray) (w : World) (_ : t.size ≤ 9223372036854775807) (_ : h.size ≤ 9223372036854775807) (hT : PowTab w) (hM : MaxOf w) :
    Calls Tryd.prog 3 #[.string t, .string h] w fun e w' => e = .returned (.bool true) ∧ Below w.heap.size w w' := by
  have HM := Lib.hid hM
  have HT := Lib.hid hT
  clear hM hT
  by_cases k1 : 3000 < (t.size : Int)
  · go_enter Tryd.func3, Tryd.ntmps3
    go_wp2_with fail
    go_ret
    exact ⟨rfl, Below.refl _ _⟩
  by_cases k2 : 3000 < (h.size : Int)
  · go_enter Tryd.func3, Tryd.ntmps3
    go_wp2_with fail
    go_ret
    exact ⟨rfl, Below.refl _ _⟩
  obtain ⟨N, k, P, Q, b, e, hv⟩ := uri_form (parseU (bs t) (bs h))
  have HV : Hid (parseV (parseU (bs t) (bs h)) = .tuple #[.agg #[.string N, .int .i64 k, .string P, .string Q, .bool b], .int .i64 e]) := Lib.hid (by rw [hv]; rfl)
  clear hv
  go_enter Tryd.func3, Tryd.ntmps3
  go_wp2_with fail
  refine (parse_any t h _ (by omega) (by omega) HM.out).mono ?_
  rintro e w1 ⟨rfl, b1⟩
  rw [HV.out]
  have R1 := RowAt.new w1 (uriC N k P Q b) 23
  have b2 := below_step b1 (below_alloc w1 (.cells (uriC N k P Q b).toArray 23))
  clear b1
  go_wp2_with fail
  refine (rparse_any t h _ (by omega) (by omega)).mono ?_
  rintro e w4 ⟨rfl, hb4⟩
  rw [HV.out]
  have R4 := R1.below hb4
  have b4 := below_step b2 hb4
  have b5 := below_step b4 (below_alloc w4 (.cells (uriC N k P Q b).toArray 23))
  have HM5 := Lib.hid (HM.out.below b5)
  have HT5 := Lib.hid (HT.out.below b5)
  have d0 := R4.cell 0 rfl
  have d1 := R4.cell 1 rfl
  have d2 := R4.cell 2 rfl
  have d3 := R4.cell 3 rfl
  have d4 := R4.cell 4 rfl
  have z4 := R4.lt
  clear hb4 R1 b2 b4
  go_wp2_with fail
  refine (awake4_any _ HT5.out HM5.out).mono ?_
  rintro e6 w6 ⟨rfl, hb6⟩
  go_wp2_with fail
  go_ret
  exact ⟨rfl, below_step b5 hb6⟩
end Go.Proofs.YtjogahfllmhpcaaDoor
