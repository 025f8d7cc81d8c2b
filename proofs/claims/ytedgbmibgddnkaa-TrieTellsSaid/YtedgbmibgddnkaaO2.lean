/- slices.SortFunc at what an AS may tell. -/
import Derived.Test.YtedgbmibgddnkaaO
import Derived.Test.YtedgbmibgddnkaaS
import Derived.Test.YtedgbmibgddnkaaB2
import Derived.Test.YtedgbmibgddnkaaP
set_option linter.unusedSimpArgs false
set_option linter.unusedVariables false
namespace Go.Proofs.Ytedgbmibgddnkaa
open Go.RowKit Ad Go.Sort
def leV (x y : Vrp) : Bool := !(ltOf cmpV) y x
def sortL (L : List Vrp) : List Vrp := L.mergeSort leV
theorem cmpV_lt {x y : Vrp} : (ltOf cmpV) x y = true ↔ cmpV x y = -1 := by
  unfold ltOf
  rcases cmp3_V.three x y with h | h | h <;> simp [h]
theorem swoV : SWO (ltOf cmpV) where
  irrefl x := by
    rw [Bool.eq_false_iff]; intro h
    have := cmpV_lt.1 h
    have h2 := cmp3_V.refl x
    omega
  trans x y z h1 h2 := cmpV_lt.2 (cmp3_V.trans _ _ _ (cmpV_lt.1 h1) (cmpV_lt.1 h2))
  ntrans x y z h1 h2 := by
    rw [Bool.eq_false_iff] at *
    intro h
    have h3 := cmpV_lt.1 h
    have h1' : cmpV x y ≠ -1 := fun e => h1 (cmpV_lt.2 e)
    have h2' : cmpV y z ≠ -1 := fun e => h2 (cmpV_lt.2 e)
    rcases cmp3_V.three x y with a | a | a
    · exact h1' a
    · rw [cmp3_V.eq _ _ a] at h3; exact h2' h3
    · have b := cmp3_V.trans _ _ _ (cmp3_V.flip' _ _ a) h3
      exact h2' b
theorem totV (x y : Vrp) (h1 : (ltOf cmpV) x y = false) (h2 : (ltOf cmpV) y x = false) : x = y := by
  rw [Bool.eq_false_iff] at h1 h2
  rcases cmp3_V.three x y with a | a | a
  · exact absurd (cmpV_lt.2 a) h1
  · exact cmp3_V.eq _ _ a
  · exact absurd (cmpV_lt.2 (cmp3_V.flip' _ _ a)) h2
theorem sortV_any (base : Nat) (v : Value) (L : List Vrp) (w : World) (hown : OwnV w base v L) (hl : L.length < 4611686018427387904) :
    Calls Try.prog 41 #[v, .func (.func 42) #[] #[]] w fun e w' => e = .returned undef ∧ OwnV w' base v (sortL L) ∧ F (fun i => v.ownBlock = some i) w w' := by
  have hS := sortV
  rcases hown.2 with ⟨rfl, h0⟩ | ⟨g, cap, cur, rfl, hb, hh, hn, hm, hs, ht⟩
  · have hL : L = [] := List.eq_nil_of_length_eq_zero h0
    subst hL
    refine (AnyF.slices_SortFunc_none sortV none 0 (.func (.func 42) #[] #[]) w).mono ?_
    rintro e w' ⟨rfl, rfl⟩
    exact ⟨rfl, by simpa [sortL] using hown, F.refl _ _⟩
  · refine (AnyQ.slices_SortFunc_total sortV 20 ?_ ?_ encV encV_length encV_one cmpV swoV 42 #[] g 0 cap L.toArray w ?_ ?_ (own_holds encV_length (by omega) hown) (heap_lt hh) (by simpa using hl) ?_).mono ?_
    · exact Try.isAgg39
    · exact Try.sizeOf39
    · exact enters_of Try.func42 (by kernel_rfl) rfl
    · intro m os dk hs x y
      exact (cl2_any x y _).mono fun e w' ⟨he, hg⟩ => ⟨he, G.iff.1 hg⟩
    · exact totV
    · rintro e w' ⟨rfl, m, os, rfl⟩
      exact ⟨rfl, own_sorted encV_length (by omega) hown (by simp [sortL]), (sort_far w g m _ os).mono fun i _ h => by simp [Value.ownBlock, h]⟩
end Go.Proofs.Ytedgbmibgddnkaa
