/- Regions in the text's order whose first operations only read. -/
import Derived.Test.YtedgbmibgddnkaaF
import Derived.Deep.CutBlock
set_option linter.unusedSimpArgs false
set_option linter.unusedVariables false
namespace Go.Proofs.Ytedgbmibgddnkaa
open Go.RowKit Ad
section
variable {P : Program}
theorem wpList_head {ops : Array Oper} {C : World → Prop} {Q' : Exit → Act → World → Prop} (l2 : List Oper) :
    ∀ (l : List Oper) (a : Act) (w : World), C w → wpQuiet P ops C (fun a' => ∀ w', C w' → wpList P ops Q' l2 a' w') l a → wpList P ops Q' (l ++ l2) a w
  | [], a, w, hw, h => h w hw
  | o :: l, a, w, hw, h => by
    unfold wpQuiet at h
    refine wpList_step fun K hK => ?_
    split at h
    · rename_i hwant
      rw [if_pos hwant]
      exact Oper.wp_of_quiet hw (fun a' w' hw' h' => hK _ _ (wpList_head l2 l a' w' hw' h')) h
    · rename_i hwant
      rw [if_neg hwant]
      exact hK _ _ (wpList_head l2 l _ _ hw h)
/-- The first n read, reckon and call; the others stand as they are. -/
theorem region_head {id : Nat} {Q : Exit → Act → World → Prop} {a : Act} {w : World} {l : List Oper} (n : Nat)
    (h : wpQuiet P l.toArray (fun w' => ∃ g, w' = grw w g) (fun a' => ∀ w', G w w' → wpList P l.toArray Q (l.drop n) a' w') (l.take n) a) : (Code.region id l.toArray false).wp P Q a w := by
  refine wp_region_lit ?_
  have h2 : (fun a' => ∀ w', (∃ g, w' = grw w g) → wpList P l.toArray Q (l.drop n) a' w') = (fun a' => ∀ w', G w w' → wpList P l.toArray Q (l.drop n) a' w') := by
    funext a'; simp only [G.iffg]
  rw [← h2] at h
  have := wpList_head (C := fun w' => ∃ g, w' = grw w g) (l.drop n) (l.take n) a w (G.iffg.1 (G.refl w)) h
  rwa [List.take_append_drop] at this
/-- The first n only read. -/
theorem region_read {id : Nat} {Q : Exit → Act → World → Prop} {a : Act} {w : World} {l : List Oper} (n : Nat)
    (h : wpQuiet P l.toArray (fun w' => w' = w) (fun a' => wpList P l.toArray Q (l.drop n) a' w) (l.take n) a) : (Code.region id l.toArray false).wp P Q a w := by
  refine wp_region_lit ?_
  have := wpList_head (C := fun w' => w' = w) (Q' := Q) (l.drop n) (l.take n) a w rfl (by
    have e : (fun a' => ∀ w', w' = w → wpList P l.toArray Q (l.drop n) a' w') = (fun a' => wpList P l.toArray Q (l.drop n) a' w) := by
      funext a'; exact propext ⟨fun h => h w rfl, fun h w' e => e ▸ h⟩
    rw [e]; exact h)
  rwa [List.take_append_drop] at this
end
theorem splA_all (C D : Array Value) (h : C.size = D.size) : splA C 0 D = D := by
  unfold splA
  have : List.drop (0 + D.size) C.toList = [] := List.drop_eq_nil_of_le (by simp [h])
  rw [this]
  simp
end Go.Proofs.Ytedgbmibgddnkaa
