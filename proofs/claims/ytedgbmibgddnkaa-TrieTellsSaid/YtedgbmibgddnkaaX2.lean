/- More plain laws of tries: order and repetition do not matter. -/
import Derived.Test.YtedgbmibgddnkaaX
set_option linter.unusedSimpArgs false
set_option linter.unusedVariables false
namespace Go.Proofs.Ytedgbmibgddnkaa
open Go.RowKit Ad Go.Sort
theorem leV_iff {x y : Vrp} : leV x y = true ↔ cmpV x y ≠ 1 := by
  unfold leV
  rw [Bool.not_eq_true', Bool.eq_false_iff, ne_eq, cmpV_lt]
  constructor
  · intro h h1; exact h (cmp3_V.flip' _ _ h1)
  · intro h h1; exact h (cmp3_V.flip _ _ h1)
theorem leV_trans (x y z : Vrp) (h1 : leV x y = true) (h2 : leV y z = true) : leV x z = true := by
  rw [leV_iff] at *
  intro h
  have h3 := cmp3_V.flip' _ _ h
  rcases cmp3_V.three x y with a | a | a
  · have := cmp3_V.trans _ _ _ h3 a
    have := cmp3_V.flip _ _ this
    exact h2 this
  · rw [cmp3_V.eq _ _ a] at h; exact h2 h
  · exact h1 a
theorem leV_total (x y : Vrp) : (leV x y || leV y x) = true := by
  rw [Bool.or_eq_true, leV_iff, leV_iff]
  rcases cmp3_V.three x y with a | a | a
  · exact .inl (by omega)
  · exact .inl (by omega)
  · exact .inr (by rw [cmp3_V.flip' _ _ a]; omega)
theorem mem_sortL {X : List Vrp} {x : Vrp} : x ∈ sortL X ↔ x ∈ X := List.mem_mergeSort
theorem sortL_strict {X : List Vrp} (h : X.Nodup) : (sortL X).Pairwise (fun x y => cmpV x y = -1) := by
  have h1 : (sortL X).Pairwise (fun a b => leV a b = true) := List.pairwise_mergeSort leV_trans leV_total X
  have h2 : (sortL X).Nodup := (List.mergeSort_perm X leV).nodup_iff.2 h
  refine List.Pairwise.imp₂ ?_ h1 h2
  intro a b hab hne
  rw [leV_iff] at hab
  rcases cmp3_V.three a b with e | e | e
  · exact e
  · exact absurd (cmp3_V.eq _ _ e) hne
  · exact absurd e hab
theorem sortL_same {X Y : List Vrp} (hX : X.Nodup) (hY : Y.Nodup) (h : ∀ x, x ∈ X ↔ x ∈ Y) : sortL X = sortL Y :=
  strict_unique cmp3_V (sortL_strict hX) (sortL_strict hY) fun x => by rw [mem_sortL, mem_sortL]; exact h x
theorem length_same {X Y : List Vrp} (hX : X.Nodup) (hY : Y.Nodup) (h : ∀ x, x ∈ X ↔ x ∈ Y) : X.length = Y.length := by
  have := congrArg List.length (sortL_same hX hY h)
  rwa [sortL_length, sortL_length] at this
theorem mem_trieL_same {L M : List Vrp} (h : ∀ x, x ∈ L ↔ x ∈ M) (x : Vrp) : x ∈ trieL L ↔ x ∈ trieL M := by rw [mem_trieL, mem_trieL, h]
theorem wayL_same {X Y : List Vrp} (h : ∀ x, x ∈ X ↔ x ∈ Y) (p : Pfx) (x : Vrp) : x ∈ wayL X p ↔ x ∈ wayL Y p :=
  ⟨wayL_mono fun x => (h x).1, wayL_mono fun x => (h x).2⟩
theorem covers_same {X Y : List Vrp} (hX : X.Nodup) (hY : Y.Nodup) (h : ∀ x, x ∈ X ↔ x ∈ Y) (p : Pfx) : coversL X p = coversL Y p :=
  sortL_same (wayL_nodup hX p) (wayL_nodup hY p) (wayL_same h p)
theorem answer_same {X Y : List Vrp} (h : ∀ x, x ∈ X ↔ x ∈ Y) (p : Pfx) (n : Int) : answerL X p n = answerL Y p n := by
  have a2 : answerL X p n = 2 ↔ answerL Y p n = 2 := ⟨more_2 fun x => (h x).1, more_2 fun x => (h x).2⟩
  have a0 : answerL X p n = 0 ↔ answerL Y p n = 0 := ⟨more_0 fun x => (h x).2, more_0 fun x => (h x).1⟩
  rcases answerL_cases X p n with e | e | e <;> rcases answerL_cases Y p n with e' | e' | e' <;> simp_all
/-- Turned, and one of it again. -/
def turned (L : List Vrp) (k : Nat) (v : Vrp) : List Vrp := L.drop k ++ L.take k ++ [v]
theorem mem_turned {L : List Vrp} {k : Nat} {v : Vrp} (hv : L[k]? = some v) (x : Vrp) : x ∈ L ↔ x ∈ turned L k v := by
  unfold turned
  have hm : v ∈ L := List.mem_of_getElem? hv
  simp only [List.mem_append, List.mem_singleton]
  constructor
  · intro h
    rw [← List.take_append_drop k L, List.mem_append] at h
    exact .inl h.symm
  · rintro ((h | h) | rfl)
    · exact List.mem_of_mem_drop h
    · exact List.mem_of_mem_take h
    · exact hm
end Go.Proofs.Ytedgbmibgddnkaa
