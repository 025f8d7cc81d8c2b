/- Rows that came in: their numbers of ASes are numbers of 32 bits. -/
import Derived.Test.YtedgbmibgddnkaaQ2
set_option linter.unusedSimpArgs false
set_option linter.unusedVariables false
namespace Go.Proofs.Ytedgbmibgddnkaa
open Go.RowKit Ad
section
variable {H : Type} {enc : TypeId × Value → H} {w : World} {base : Nat} {spare : Nat → Bool} {held : Bool}
abbrev VrpW := { v : Vrp // 0 ≤ v.as ∧ v.as < 4294967296 }
theorem open_vrpW {fuel : Nat} {cs : List Value} {x : DataW H × List MemPlace} (h : DataW.trod enc Try.prog w base spare held fuel 39 cs = some x) : ∃ v : VrpW, cs = encV v.1 := by
  obtain ⟨v, rfl⟩ := open_vrp h
  obtain ⟨xs, m, _, _, hl, hlen, hi⟩ := DataW.trod_struct Try.underlying39 h
  have hlen' : xs.length = 3 := hlen
  have h0 : DataW.trod enc Try.prog w base spare held m 26 (((encV v).drop 0).take (Try.prog.cellsOf 26)) = xs[0]? := hi 0 _ rfl
  rw [List.getElem?_eq_getElem (show 0 < xs.length by omega), cells26] at h0
  obtain ⟨n, e0, _, hw⟩ := DataW.trod_int Try.underlying26 h0
  have e : v.as = n := by
    simp [encV] at e0
    exact e0
  refine ⟨⟨v, ?_⟩, rfl⟩
  rw [e]
  simp [Lit.wf, IntKind.min, IntKind.max, IntKind.signed, IntKind.bits] at hw
  omega
theorem open_rdW {fuel : Nat} {A : Option Addr} {n c : Nat} {x : DataW H × List MemPlace} (h : DataW.trod enc Try.prog w base spare held fuel 22 [.slice A n c] = some x) : ∃ L : List Vrp, L.length = n ∧ n ≤ maxLen ∧ RdV w A L ∧ ∀ v ∈ L, 0 ≤ v.as ∧ v.as < 4294967296 := by
  obtain ⟨L, h1, h2, h3⟩ := open_rd (en := fun v : VrpW => encV v.1) (k := 20) (fun x => encV_length x.1) cells39 Try.underlying22 open_vrpW h
  refine ⟨L.map (·.1), by simpa using h1, h2, fun j x hx => ?_, ?_⟩
  · rw [List.getElem?_map] at hx
    cases hl : L[j]? with
    | none => rw [hl] at hx; cases hx
    | some y =>
      rw [hl] at hx
      simp only [Option.map_some, Option.some.injEq] at hx
      subst hx
      exact h3 j y hl
  · intro v hv
    obtain ⟨y, _, rfl⟩ := List.mem_map.1 hv
    exact y.2
end
end Go.Proofs.Ytedgbmibgddnkaa
