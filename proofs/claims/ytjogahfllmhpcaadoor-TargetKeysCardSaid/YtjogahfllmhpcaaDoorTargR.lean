/- Lengths of what layer 4 gives, and pieces of paths. No program in sight. -/
import Derived.Test.YtjogahfllmhpcaaDoorTargQ
namespace Go.Proofs.YtjogahfllmhpcaaDoor

theorem joinS_app (a b : List (List UInt8)) : joinS (a ++ b) = joinS a ++ joinS b := by simp [joinS]
theorem joinS_pop (l : List (List UInt8)) : (joinS l.dropLast).length ≤ (joinS l).length := by
  rcases List.eq_nil_or_concat l with rfl | ⟨ys, y, h0⟩
  · simp
  · have e : l = ys ++ [y] := by rw [h0]; simp
    subst e
    rw [List.dropLast_concat, joinS_app]; simp
theorem segGo_len : ∀ (ps out : List (List UInt8)), (joinS (segGo out ps)).length ≤ (joinS out).length + (joinS ps).length
  | [], out => by simp [segGo]
  | [x], out => by
    rw [segGo_one]
    have hp := joinS_pop out
    have hx : (joinS [x]).length = x.length + 1 := by simp [joinS]
    have h0 : (joinS [([] : List UInt8)]).length = 1 := by simp [joinS]
    split
    · rw [joinS_app, List.length_append]; omega
    · split
      · rw [joinS_app, List.length_append]; omega
      · rw [joinS_app, List.length_append]; omega
  | x :: y :: r, out => by
    rw [segGo_more out x (by simp)]
    have hp := joinS_pop out
    have hc : (joinS (x :: y :: r)).length = x.length + 1 + (joinS (y :: r)).length := by rw [joinS_cons]; simp; omega
    have hx : (joinS [x]).length = x.length + 1 := by simp [joinS]
    split
    · have := segGo_len (y :: r) out.dropLast; omega
    · split
      · have := segGo_len (y :: r) out; omega
      · have := segGo_len (y :: r) (out ++ [x])
        rw [joinS_app, List.length_append] at this; omega
theorem join_split : ∀ (t : List UInt8), joinS (splitC 47 t) = 47 :: t
  | [] => rfl
  | c :: t => by
    by_cases h : c = 47
    · subst h
      rw [splitC, if_pos rfl, joinS_cons, join_split t]; rfl
    · cases hs : splitC 47 t with
      | nil => exact absurd hs (splitC_ne 47 t)
      | cons x r =>
        have ih := join_split t
        rw [hs, joinS_cons] at ih
        rw [splitC_other h hs, joinS_cons]
        simp at ih
        simp [ih]
theorem segs_len (l : List UInt8) : (segsL l).length ≤ l.length := by
  cases l with
  | nil => simp [segsL]
  | cons c t =>
    by_cases h : c = 47
    · subst h
      rw [segsL_slash]
      have := segGo_len (splitC 47 t) []
      rw [join_split] at this
      simpa [joinS] using this
    · rw [segsL_other t h]; exact Nat.le_refl _
theorem root_len (p : List UInt8) : (rootL p).length ≤ p.length + 1 := by unfold rootL; split <;> simp
theorem auth_len {l n : List UInt8} {k : Int} (h : authL l = some (n, k)) : n.length ≤ l.length := by
  unfold authL at h
  split at h
  · cases hp : portN (cutB 58 l).2.1 with
    | none => rw [hp] at h; cases h
    | some m =>
      rw [hp] at h; simp at h
      have := cutB_len 58 l
      rw [← h.1, lowL_length]; omega
  · cases h
theorem auth1_len (l : List UInt8) : (auth1 l).length ≤ l.length := (List.takeWhile_sublist _).length_le
theorem rest1_len (l : List UInt8) : (rest1 l).length ≤ l.length := (List.dropWhile_sublist _).length_le
/-- The sizes of a URI that was parsed. -/
theorem parse_len {t h : List UInt8} {u : Uri} (e : parseU t h = (u, 0)) : u.host.length ≤ t.length + h.length ∧ u.path.length ≤ t.length + 1 ∧ u.query.length ≤ t.length ∧ (u.port = 80 ∨ 1 ≤ u.port ∧ u.port ≤ 65535) := by
  have key : ∀ h' rest : List UInt8, parse2 h' rest = (u, 0) → h'.length ≤ t.length + h.length → rest.length ≤ t.length → u.host.length ≤ t.length + h.length ∧ u.path.length ≤ t.length + 1 ∧ u.query.length ≤ t.length ∧ (u.port = 80 ∨ 1 ≤ u.port ∧ u.port ≤ 65535) := by
    intro h' rest e2 l1 l2
    obtain ⟨p, q, n, k, hp, hq, ha, rfl⟩ := parse2_ok e2
    have := cutB_len 63 rest
    have := norm_len _ _ _ (Nat.le_refl _) hp
    have := norm_len _ _ _ (Nat.le_refl _) hq
    have := segs_len (rootL p)
    have := root_len p
    have := auth_len ha
    have h4 := (authL_some ha).2.2.2
    refine ⟨?_, ?_, ?_, h4⟩
    · show n.length ≤ _; omega
    · show (segsL (rootL p)).length ≤ _; omega
    · show q.length ≤ _; omega
  unfold parseU at e
  split at e
  · refine key _ _ e ?_ ?_
    · have := auth1_len (t.drop 7); rw [List.length_drop] at this; omega
    · have := rest1_len (t.drop 7); rw [List.length_drop] at this; omega
  · split at e
    · exact key _ _ e (by omega) (by omega)
    · simp at e
theorem key_len (u : Uri) (hl : (Lib.itoa u.port).length ≤ 40) : (keyL u).length ≤ u.host.length + u.path.length + u.query.length + 49 := by
  unfold keyL siteL localL
  have : schemeL.length = 7 := rfl
  rw [List.length_append, List.length_append]
  have e1 : (if u.port = 80 then u.host else u.host ++ 58 :: Lib.itoa u.port).length ≤ u.host.length + 41 := by split <;> (try simp) <;> omega
  have e2 : (if u.has = true then u.path ++ 63 :: u.query else u.path).length ≤ u.path.length + u.query.length + 1 := by split <;> (try simp) <;> omega
  omega
/-- No piece of what Segments returns is a dot segment. -/
theorem segs_nodot {t a x b : List UInt8} (h : segsL (47 :: t) = a ++ 47 :: (x ++ b)) (hx : 47 ∉ x) (hb : b = [] ∨ ∃ r, b = 47 :: r) : x ≠ [46] ∧ x ≠ [46, 46] := by
  obtain ⟨y, r, _, h2, h3, h4, _⟩ := segs_pieces t
  have e1 : splitC 47 (segsL (47 :: t)) = [] :: y :: r := by rw [h2, splitC, if_pos rfl, h3]
  have e2 : splitC 47 (segsL (47 :: t)) = splitC 47 a ++ splitC 47 (x ++ b) := by rw [h, splitC_app]
  have e3 : x ∈ splitC 47 (x ++ b) := by
    rcases hb with rfl | ⟨r', rfl⟩
    · rw [List.append_nil, splitC_miss hx]; simp
    · rw [splitC_hit hx]; simp
  have hm : x ∈ [] :: y :: r := by rw [← e1, e2]; exact List.mem_append_right _ e3
  rcases List.mem_cons.1 hm with rfl | hm
  · exact ⟨by simp, by simp⟩
  · exact dotB_no.1 (h4 x hm)
theorem segs_head (t : List UInt8) : ∃ r, segsL (47 :: t) = 47 :: r := by
  obtain ⟨y, r, _, h2, _⟩ := segs_pieces t
  exact ⟨_, h2⟩
end Go.Proofs.YtjogahfllmhpcaaDoor
