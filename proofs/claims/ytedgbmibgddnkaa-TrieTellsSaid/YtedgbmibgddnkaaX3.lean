/- The plain laws of the document's row. -/
import Derived.Test.YtedgbmibgddnkaaX2
set_option linter.unusedSimpArgs false
set_option linter.unusedVariables false
namespace Go.Proofs.Ytedgbmibgddnkaa
open Go.RowKit Ad Go.Sort
/-- Where one belongs in a row. -/
def atOf (R : List Vrp) (v : Vrp) : Nat := (R.takeWhile fun y => decide (cmpV y v < 0)).length
def rowStep (R : List Vrp) (v : Vrp) : List Vrp := if !Ad.one v || decide (R[atOf R v]? = some v) then R else R.take (atOf R v) ++ [v] ++ R.drop (atOf R v)
def rowL (L : List Vrp) : List Vrp := L.foldl rowStep []
theorem cmpV_neg {x y : Vrp} : cmpV x y < 0 ↔ cmpV x y = -1 := by
  rcases cmp3_V.three x y with h | h | h <;> omega
theorem atOf_le (R : List Vrp) (v : Vrp) : atOf R v ≤ R.length := by
  unfold atOf
  exact (List.takeWhile_sublist _).length_le
theorem takeWhile_at {p : Vrp → Bool} : ∀ (R : List Vrp) (j : Nat), (∀ i, i < j → ∀ y, R[i]? = some y → p y = true) → j ≤ R.length → (∀ y, R[j]? = some y → p y = false) → (R.takeWhile p).length = j
  | [], j, _, h2, _ => by simp at h2; subst h2; rfl
  | x :: R, 0, _, _, h3 => by
    have := h3 x rfl
    simp [List.takeWhile_cons, this]
  | x :: R, j + 1, h1, h2, h3 => by
    have h0 := h1 0 (by omega) x rfl
    rw [List.takeWhile_cons, if_pos h0, List.length_cons]
    rw [takeWhile_at R j (fun i hi y hy => h1 (i + 1) (by omega) y (by simpa using hy)) (by simpa using h2) (fun y hy => h3 y (by simpa using hy))]
theorem atOf_eq {R : List Vrp} {v : Vrp} {j : Nat} (h1 : ∀ i, i < j → ∀ y, R[i]? = some y → cmpV y v = -1) (h2 : j ≤ R.length) (h3 : ∀ y, R[j]? = some y → ¬ cmpV y v < 0) : atOf R v = j :=
  takeWhile_at R j (fun i hi y hy => decide_eq_true (cmpV_neg.2 (h1 i hi y hy))) h2 (fun y hy => decide_eq_false (h3 y hy))
theorem atOf_before {R : List Vrp} {v : Vrp} : ∀ y ∈ R.take (atOf R v), cmpV y v = -1 := by
  intro y hy
  unfold atOf at hy
  have e : R.take (R.takeWhile fun y => decide (cmpV y v < 0)).length = R.takeWhile fun y => decide (cmpV y v < 0) := by
    have := List.takeWhile_append_dropWhile (p := fun y => decide (cmpV y v < 0)) (l := R)
    have h2 := congrArg (List.take (R.takeWhile fun y => decide (cmpV y v < 0)).length) this
    rw [List.take_left] at h2
    exact h2.symm
  rw [e] at hy
  have h := List.all_eq_true.1 (List.all_takeWhile (p := fun y => decide (cmpV y v < 0)) (l := R)) y hy
  exact cmpV_neg.1 (by simpa using h)
theorem atOf_stop {R : List Vrp} {v y : Vrp} (hy : R[atOf R v]? = some y) : ¬ cmpV y v < 0 := by
  intro h
  have e := List.takeWhile_append_dropWhile (p := fun y => decide (cmpV y v < 0)) (l := R)
  unfold atOf at hy
  rw [← e, List.getElem?_append_right (by rw [e]; exact Nat.le_refl _)] at hy
  rw [e, Nat.sub_self] at hy
  cases hd : R.dropWhile (fun y => decide (cmpV y v < 0)) with
  | nil => rw [hd] at hy; cases hy
  | cons z l =>
    rw [hd] at hy
    simp only [List.getElem?_cons_zero, Option.some.injEq] at hy
    subst hy
    have := List.head?_dropWhile_not (fun y => decide (cmpV y v < 0)) R
    rw [hd] at this
    simp [h] at this
def Strict (R : List Vrp) : Prop := R.Pairwise fun x y => cmpV x y = -1
theorem rowStep_ok {R : List Vrp} {v : Vrp} (hR : Strict R) : Strict (rowStep R v) ∧ ∀ x, x ∈ rowStep R v ↔ x ∈ R ∨ (Ad.one v = true ∧ x = v) := by
  unfold rowStep
  have hsplit := List.take_append_drop (atOf R v) R
  cases ho : Ad.one v
  · simp [hR]
  · by_cases hat : R[atOf R v]? = some v
    · simp only [Bool.not_true, Bool.false_or, decide_eq_true hat, if_true]
      refine ⟨hR, fun x => ⟨.inl, ?_⟩⟩
      rintro (h | ⟨_, rfl⟩)
      · exact h
      · exact List.mem_of_getElem? hat
    · simp only [Bool.not_true, Bool.false_or, decide_eq_false hat, Bool.false_eq_true, if_false]
      have hpair := hR
      unfold Strict at hpair
      rw [← hsplit, List.pairwise_append] at hpair
      have hafter : ∀ y ∈ R.drop (atOf R v), cmpV v y = -1 := by
        intro y hy
        cases hd : R.drop (atOf R v) with
        | nil => rw [hd] at hy; cases hy
        | cons z l =>
          have hz : R[atOf R v]? = some z := by
            have := List.getElem?_drop (xs := R) (i := atOf R v) (j := 0)
            rw [hd] at this
            simpa using this.symm
          have hvz : cmpV v z = -1 := by
            have h1 := atOf_stop hz
            rw [cmpV_neg] at h1
            rcases cmp3_V.three z v with a | a | a
            · exact absurd a h1
            · exact absurd (by rw [hz, cmp3_V.eq _ _ a]) hat
            · exact cmp3_V.flip' _ _ a
          rw [hd] at hy
          rcases List.mem_cons.1 hy with rfl | hy
          · exact hvz
          · have := hpair.2.1
            rw [hd, List.pairwise_cons] at this
            exact cmp3_V.trans _ _ _ hvz (this.1 y hy)
      refine ⟨?_, ?_⟩
      · unfold Strict
        rw [List.append_assoc, List.pairwise_append]
        refine ⟨hpair.1, ?_, ?_⟩
        · rw [List.singleton_append, List.pairwise_cons]
          exact ⟨hafter, hpair.2.1⟩
        · intro a ha b hb
          rw [List.singleton_append] at hb
          rcases List.mem_cons.1 hb with rfl | hb
          · exact atOf_before a ha
          · exact hpair.2.2 a ha b hb
      · intro x
        conv => rhs; lhs; rw [← hsplit]
        simp only [List.mem_append, List.mem_singleton]
        constructor
        · rintro ((h | h) | h)
          · exact .inl (.inl h)
          · exact .inr ⟨trivial, h⟩
          · exact .inl (.inr h)
        · rintro ((h | h) | ⟨_, h⟩)
          · exact .inl (.inl h)
          · exact .inr h
          · exact .inl (.inr h)
theorem rowFold_ok : ∀ (L R : List Vrp), Strict R → Strict (L.foldl rowStep R) ∧ ∀ x, x ∈ L.foldl rowStep R ↔ x ∈ R ∨ (x ∈ L ∧ Ad.one x = true)
  | [], R, h => ⟨h, fun x => by simp⟩
  | v :: L, R, h => by
    have h1 := rowStep_ok (v := v) h
    have h2 := rowFold_ok L _ h1.1
    refine ⟨h2.1, fun x => ?_⟩
    rw [List.foldl_cons, h2.2, h1.2]
    constructor
    · rintro ((h | ⟨h, rfl⟩) | h)
      · exact .inl h
      · exact .inr ⟨by simp, h⟩
      · exact .inr ⟨by simp [h.1], h.2⟩
    · rintro (h | ⟨h, ho⟩)
      · exact .inl (.inl h)
      · rcases List.mem_cons.1 h with rfl | h
        · exact .inl (.inr ⟨ho, rfl⟩)
        · exact .inr ⟨h, ho⟩
theorem rowL_strict (L : List Vrp) : Strict (rowL L) := (rowFold_ok L [] List.Pairwise.nil).1
theorem mem_rowL {L : List Vrp} {x : Vrp} : x ∈ rowL L ↔ x ∈ L ∧ Ad.one x = true := by
  have := (rowFold_ok L [] List.Pairwise.nil).2 x
  unfold rowL
  rw [this]; simp
theorem rowL_take (L : List Vrp) (k : Nat) (x : Vrp) (hx : L[k]? = some x) : rowL (L.take (k + 1)) = rowStep (rowL (L.take k)) x := by
  unfold rowL
  obtain ⟨hlt, rfl⟩ := List.getElem?_eq_some_iff.1 hx
  rw [List.take_succ_eq_append_getElem hlt, List.foldl_append]
  rfl
theorem rowStep_length (R : List Vrp) (v : Vrp) : (rowStep R v).length ≤ R.length + 1 := by
  unfold rowStep
  split
  · omega
  · simp only [List.length_append, List.length_take, List.length_drop, List.length_singleton]
    have := atOf_le R v
    omega
theorem rowFold_length : ∀ (L R : List Vrp), (L.foldl rowStep R).length ≤ R.length + L.length
  | [], R => by simp
  | v :: L, R => by
    rw [List.foldl_cons]
    have h1 := rowFold_length L (rowStep R v)
    have h2 := rowStep_length R v
    simp only [List.length_cons]
    omega
theorem strict_nodup {R : List Vrp} (h : Strict R) : R.Nodup := by
  refine List.Pairwise.imp ?_ h
  rintro a b hab rfl
  rw [cmp3_V.refl] at hab
  omega
theorem row_is (L : List Vrp) : rowL L = sortL (trieL L) :=
  strict_unique cmp3_V (rowL_strict L) (sortL_strict (trieL_nodup L)) fun x => by rw [mem_rowL, mem_sortL, mem_trieL]
/-- What the document has that covers a prefix. -/
def refC (L : List Vrp) (p : Pfx) : List Vrp := (rowL L).filter fun v => covers v.p p
theorem refC_is (L : List Vrp) (p : Pfx) : coversL (trieL L) p = refC L p := by
  refine strict_unique cmp3_V (sortL_strict (wayL_nodup (trieL_nodup L) p)) (List.Pairwise.sublist List.filter_sublist (rowL_strict L)) fun x => ?_
  unfold refC coversL
  rw [mem_sortL, mem_wayL (trieL_one L), mem_trieL, List.mem_filter, mem_rowL]
theorem row_length (L : List Vrp) : (trieL L).length = (rowL L).length := by rw [row_is, sortL_length]
def refA (C : List Vrp) (p : Pfx) (n : Int) : Int := if C.any (good p n) then 2 else if 0 < C.length then 1 else 0
theorem refA_is (L : List Vrp) (p : Pfx) (n : Int) : answerL (trieL L) p n = refA (refC L p) p n := by
  have hm : ∀ x, x ∈ wayL (trieL L) p ↔ x ∈ refC L p := fun x => by rw [← refC_is]; unfold coversL; rw [mem_sortL]
  unfold answerL refA
  have h1 : (wayL (trieL L) p).any (good p n) = (refC L p).any (good p n) := by
    rw [Bool.eq_iff_iff, List.any_eq_true, List.any_eq_true]
    exact ⟨fun ⟨x, hx, hg⟩ => ⟨x, (hm x).1 hx, hg⟩, fun ⟨x, hx, hg⟩ => ⟨x, (hm x).2 hx, hg⟩⟩
  rw [h1]
  split
  · rfl
  · cases hc : refC L p with
    | nil =>
      have : wayL (trieL L) p = [] := by
        cases hw : wayL (trieL L) p with
        | nil => rfl
        | cons y l =>
          have := (hm y).1 (by rw [hw]; simp)
          rw [hc] at this; cases this
      rw [this]; simp
    | cons y l =>
      have := (hm y).2 (by rw [hc]; simp)
      cases hw : wayL (trieL L) p with
      | nil => rw [hw] at this; cases this
      | cons z m => simp
end Go.Proofs.Ytedgbmibgddnkaa
