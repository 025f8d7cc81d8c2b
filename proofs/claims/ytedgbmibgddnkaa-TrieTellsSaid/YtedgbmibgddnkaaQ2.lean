/- A slice that came in is no longer than it may grow. -/
import Derived.Test.YtedgbmibgddnkaaQ
set_option linter.unusedSimpArgs false
set_option linter.unusedVariables false
namespace Go.Proofs.Ytedgbmibgddnkaa
open Go.RowKit Ad
theorem open_cap {H : Type} {enc : TypeId × Value → H} {w : World} {base : Nat} {spare : Nat → Bool} {held : Bool} {T TS : Nat} (hTS : Try.prog.underlying TS = some (.slice T))
    {fuel : Nat} {A : Option Addr} {n c : Nat} {x : DataW H × List MemPlace} (h : DataW.trod enc Try.prog w base spare held fuel TS [.slice A n c] = some x) : n ≤ c := by
  rcases Deep.open_slice hTS h with ⟨e, _⟩ | ⟨a, len, cap, m, f, D, Pl, e, _, hl, _⟩
  · simp only [List.cons.injEq, Value.slice.injEq, and_true] at e
    omega
  · simp only [List.cons.injEq, Value.slice.injEq, and_true] at e
    omega
end Go.Proofs.Ytedgbmibgddnkaa
