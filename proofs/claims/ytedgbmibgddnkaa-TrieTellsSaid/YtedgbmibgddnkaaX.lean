/- The plain laws of tries, with no program in sight. -/
import Derived.Test.YtedgbmibgddnkaaC3
set_option linter.unusedSimpArgs false
set_option linter.unusedVariables false
namespace Go.Proofs.Ytedgbmibgddnkaa
open Go.RowKit Ad
theorem mem_ins {L : List Vrp} {v x : Vrp} : x ∈ ins L v ↔ x ∈ L ∨ x = v := by
  unfold ins
  split
  · rename_i h
    exact ⟨.inl, fun h' => h'.elim id (fun e => e ▸ h)⟩
  · simp
theorem ins_nodup {L : List Vrp} {v : Vrp} (h : L.Nodup) : (ins L v).Nodup := by
  unfold ins
  split
  · exact h
  · rename_i hv
    rw [List.nodup_append]
    refine ⟨h, by simp, fun a ha b hb e => ?_⟩
    simp at hb
    subst hb; subst e
    exact hv ha
theorem mem_fold : ∀ (L acc : List Vrp) (x : Vrp), x ∈ L.foldl step acc ↔ x ∈ acc ∨ (x ∈ L ∧ Ad.one x = true)
  | [], acc, x => by simp
  | v :: L, acc, x => by
    rw [List.foldl_cons, mem_fold L]
    unfold step
    by_cases hv : Ad.one v = true
    · rw [if_pos hv, mem_ins]
      constructor
      · rintro ((h | rfl) | h)
        · exact .inl h
        · exact .inr ⟨by simp, hv⟩
        · exact .inr ⟨by simp [h.1], h.2⟩
      · rintro (h | ⟨h, h2⟩)
        · exact .inl (.inl h)
        · rcases List.mem_cons.1 h with rfl | h
          · exact .inl (.inr rfl)
          · exact .inr ⟨h, h2⟩
    · rw [if_neg hv]
      constructor
      · rintro (h | h)
        · exact .inl h
        · exact .inr ⟨by simp [h.1], h.2⟩
      · rintro (h | ⟨h, h2⟩)
        · exact .inl h
        · rcases List.mem_cons.1 h with rfl | h
          · exact absurd h2 hv
          · exact .inr ⟨h, h2⟩
theorem mem_trieL {L : List Vrp} {x : Vrp} : x ∈ trieL L ↔ x ∈ L ∧ Ad.one x = true := by
  unfold trieL
  rw [mem_fold]
  simp
theorem fold_nodup : ∀ (L acc : List Vrp), acc.Nodup → (L.foldl step acc).Nodup
  | [], acc, h => h
  | v :: L, acc, h => by
    rw [List.foldl_cons]
    refine fold_nodup L _ ?_
    unfold step
    split
    · exact ins_nodup h
    · exact h
theorem trieL_nodup (L : List Vrp) : (trieL L).Nodup := fold_nodup L [] List.nodup_nil
theorem trieL_one (L : List Vrp) : ∀ v ∈ trieL L, Ad.one v = true := fun v h => (mem_trieL.1 h).2
theorem trieL_snoc (L : List Vrp) (v : Vrp) : trieL (L ++ [v]) = step (trieL L) v := by unfold trieL; rw [List.foldl_append]; rfl
theorem wayL_mono {L M : List Vrp} (h : ∀ x ∈ L, x ∈ M) {p : Pfx} {x : Vrp} (hx : x ∈ wayL L p) : x ∈ wayL M p := by
  unfold wayL at *
  split at hx
  · rename_i hp
    rw [if_pos hp]
    obtain ⟨h1, h2⟩ := mem_restL.1 hx
    exact mem_restL.2 ⟨h x h1, h2⟩
  · cases hx
theorem answerL_cases (L : List Vrp) (p : Pfx) (n : Int) : answerL L p n = 0 ∨ answerL L p n = 1 ∨ answerL L p n = 2 := by
  unfold answerL; split
  · exact .inr (.inr rfl)
  · split
    · exact .inl rfl
    · exact .inr (.inl rfl)
theorem answerL_2 {L : List Vrp} {p : Pfx} {n : Int} : answerL L p n = 2 ↔ ∃ x ∈ wayL L p, good p n x = true := by
  unfold answerL
  rw [← List.any_eq_true]
  split
  · rename_i h; simp [h]
  · rename_i h
    split <;> simp [h]
theorem answerL_0 {L : List Vrp} {p : Pfx} {n : Int} : answerL L p n = 0 ↔ wayL L p = [] := by
  unfold answerL
  split
  · rename_i h
    constructor
    · intro h'; cases h'
    · intro e; rw [e] at h; simp at h
  · split
    · rename_i h; simpa using h
    · rename_i h; constructor
      · intro h'; cases h'
      · intro e; rw [e] at h; simp at h
theorem more_2 {L M : List Vrp} (h : ∀ x ∈ L, x ∈ M) {p : Pfx} {n : Int} (h2 : answerL L p n = 2) : answerL M p n = 2 := by
  obtain ⟨x, hx, hg⟩ := answerL_2.1 h2
  exact answerL_2.2 ⟨x, wayL_mono h hx, hg⟩
theorem more_0 {L M : List Vrp} (h : ∀ x ∈ L, x ∈ M) {p : Pfx} {n : Int} (h2 : answerL M p n = 0) : answerL L p n = 0 := by
  rw [answerL_0] at *
  cases hw : wayL L p with
  | nil => rfl
  | cons y l =>
    have := wayL_mono h (p := p) (x := y) (by rw [hw]; simp)
    rw [h2] at this
    cases this
theorem zero_not2 (L : List Vrp) (p : Pfx) : answerL L p 0 ≠ 2 := by
  intro h
  obtain ⟨x, _, hg⟩ := answerL_2.1 h
  simp [good] at hg
theorem wrong_0 (L : List Vrp) {p : Pfx} (n : Int) (h : p.right = false) : answerL L p n = 0 := by
  rw [answerL_0]; unfold wayL; rw [if_neg (by simp [h])]
theorem restL_snoc (L : List Vrp) (v : Vrp) (κ : Bool) (a : Adr) (n : Nat) : ∀ (j k : Nat), n + 1 - k = j → (restL (L ++ [v]) κ a n k).length ≤ (restL L κ a n k).length + (if k ≤ (vpath v).length then 1 else 0)
  | 0, k, e => by unfold restL; rw [e]; simp
  | j + 1, k, e => by
    rw [restL_step _ κ a n k (by omega), restL_step L κ a n k (by omega), List.length_append, List.length_append]
    have ih := restL_snoc L v κ a n j (k + 1) (by omega)
    rw [here_snoc]
    by_cases h : v.p.v6 = κ ∧ vpath v = pathOf a k
    · rw [if_pos h]
      have hl : (vpath v).length = k := by rw [h.2, pathOf_length]
      rw [if_neg (by omega)] at ih
      rw [if_pos (by omega)]
      simp only [List.length_append, List.length_singleton]
      omega
    · rw [if_neg h]
      split <;> split at ih <;> omega
theorem wayL_step (L : List Vrp) (v : Vrp) (p : Pfx) : (wayL (step L v) p).length ≤ (wayL L p).length + 1 := by
  unfold step ins
  split
  · split
    · omega
    · unfold wayL
      split
      · have := restL_snoc L v p.v6 p.addr p.len.toNat _ 0 rfl
        split at this <;> omega
      · simp
  · omega
theorem step_mem (L : List Vrp) (v : Vrp) : ∀ x ∈ L, x ∈ step L v := by
  intro x hx
  unfold step
  split
  · exact mem_ins.2 (.inl hx)
  · exact hx
theorem step_length (L : List Vrp) (v : Vrp) : (step L v).length ≤ L.length + 1 := by
  unfold step
  split
  · exact ins_length _ _
  · omega
theorem coversL_length (L : List Vrp) (p : Pfx) : (coversL L p).length = (wayL L p).length := sortL_length _
end Go.Proofs.Ytedgbmibgddnkaa
