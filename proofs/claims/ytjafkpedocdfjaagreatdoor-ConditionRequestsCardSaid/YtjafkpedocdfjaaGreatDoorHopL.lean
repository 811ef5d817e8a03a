/- The walks of law 25. -/
import Derived.Test.YtjafkpedocdfjaaGreatDoorViaW
import Derived.Test.YtjafkpedocdfjaaGreatDoorSameF
import Derived.Test.YtjafkpedocdfjaaGreatDoorStrs
namespace Go.Proofs.YtjafkpedocdfjaaGreatDoor
open Go.RowKit Go.Shelf
attribute [local go_sem] Oper.semAt_some

theorem FldO.new3 (w : World) (x y z : Fd) (t : TypeId) : FldO (w.alloc (.cells #[.string x.1, .string x.2, .string y.1, .string y.2, .string z.1, .string z.2] t)) (some ⟨w.heap.size, 0, none⟩) [x, y, z] := fun i u hu => by
  have h := RowAt.new w [.string x.1, .string x.2, .string y.1, .string y.2, .string z.1, .string z.2] t
  match i, hu with
  | 0, hu => cases hu; exact ⟨_, rfl, h.cell 0 rfl, h.cell 1 rfl⟩
  | 1, hu => cases hu; exact ⟨_, rfl, h.cell 2 rfl, h.cell 3 rfl⟩
  | 2, hu => cases hu; exact ⟨_, rfl, h.cell 4 rfl, h.cell 5 rfl⟩
abbrev wakeX : List Fd := [(nConn, ⟨#[99, 108, 111, 115, 101, 44, 32, 88, 45, 97]⟩), (⟨#[120, 45, 65]⟩, ⟨#[49]⟩), (⟨#[98]⟩, ⟨#[50]⟩)]
theorem wake_strip : wakeX.filter (hopB (allL (bs nConn) wakeX)) = [(⟨#[98]⟩, ⟨#[50]⟩)] := by rw [hop_stripL]; decide +kernel
theorem wake_via : viaL 1 ⟨#[112]⟩ [] = [(nVia, ⟨#[49, 46, 49, 32, 112]⟩)] := by decide +kernel
theorem wake_z : FldZ wakeX 100000 := by
  intro x hx
  simp only [wakeX, List.mem_cons, List.not_mem_nil, or_false] at hx
  rcases hx with rfl | rfl | rfl <;> decide
open Go.ChangeShapes Go.WideShapes Go.ChangeAt in
set_option maxRecDepth 1000000 in
theorem open_flds {H : Type} {enc : TypeId × Value → H} {W : World} {r : Reach} {base : Nat} {v : Value} {d : DataW H} {ps : List MemPlace}
    (hv : Value.okWide Tryz.prog W r base 24 v) (h : DataW.Trod enc Tryz.prog W 0 (fun _ => true) true 24 v d ps) :
    ∃ (oa : Option Addr) (xs : List Fd) (cap : Nat), v = .slice oa xs.length cap ∧ FldO W oa xs ∧ FldZ xs 9223372036854775807 ∧ xs.length ≤ 9223372036854775807 := by
  obtain ⟨a0, len, cap, rfl⟩ := okWide_slice Tryz.underlying24 hv
  obtain ⟨fuel, hf⟩ := h
  exact open_fld (by simpa [Value.cells] using hf)
theorem strip_none (xs : List Fd) {n : ByteArray} (hn : n ∈ fixedN) : getF (bs n) (stripL xs) = [] := by
  unfold getF stripL
  rw [List.map_eq_nil_iff, List.filter_eq_nil_iff]
  intro x hx
  have hs := (List.mem_filter.1 hx).2
  unfold stripB at hs
  have ho : oneB (bs x.1) (fixedN.map bs) = false := by
    cases h : oneB (bs x.1) (fixedN.map bs) with
    | false => rfl
    | true => rw [h] at hs; simp at hs
  rw [oneB_any, List.any_eq_false] at ho
  have := ho (lowL (bs n)) (List.mem_map.2 ⟨bs n, List.mem_map.2 ⟨n, hn, rfl⟩, rfl⟩)
  unfold isF foldB
  have h2 : ¬ lowL (bs x.1) = lowL (bs n) := by simpa using this
  simp [h2]
theorem strip_twice (xs : List Fd) : stripL (stripL xs) = stripL xs := by
  have hg : getF (bs nConn) (stripL xs) = [] := strip_none xs (by simp)
  have ha : allL (bs nConn) (stripL xs) = [] := by unfold allL; rw [hg]; rfl
  show (stripL xs).filter (stripB (allL (bs nConn) (stripL xs))) = stripL xs
  rw [ha, List.filter_eq_self]
  intro x hx
  have hs := (List.mem_filter.1 hx).2
  unfold stripB at hs ⊢
  cases h : oneB (bs x.1) (fixedN.map bs) with
  | false => rfl
  | true => rw [h] at hs; simp at hs
theorem strip_len (xs : List Fd) : (stripL xs).length ≤ xs.length := List.length_filter_le _ _
theorem strip_z {xs : List Fd} {n : Nat} (h : FldZ xs n) : FldZ (stripL xs) n := h.filter _
theorem FldZ.up {xs : List Fd} {n m : Nat} (h : FldZ xs n) (hm : n ≤ m) : FldZ xs m := fun x hx => ⟨Nat.le_trans (h x hx).1 hm, Nat.le_trans (h x hx).2 hm⟩
end Go.Proofs.YtjafkpedocdfjaaGreatDoor
