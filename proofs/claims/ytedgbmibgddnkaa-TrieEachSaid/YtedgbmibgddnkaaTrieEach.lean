/-
  The statement 'Rows.TrieEachSaid': whatever the list, the law lanyardlaw24.TrieEach returns true and changes nothing that came in. No condition.
-/
import Derived.Test.YtedgbmibgddnkaaRows
import Derived.Test.YtedgbmibgddnkaaD3
import Derived.Test.YtedgbmibgddnkaaQ3
import Derived.WalkKit
import Derived.ProofKit
import Derived.OpenShut
import Derived.Below
import Derived.ChangeOld
namespace Go.Proofs.Ytedgbmibgddnkaa.trieEachDone
open Go.ChangeShapes Go.WideShapes Go.ChangeAt Go.RowKit Ad
set_option linter.unusedVariables false

theorem own : ownKnob Try.prog.godebug = none := by kernel_rfl
theorem laidOut : laidOutB Try.prog = true := by kernel_rfl

set_option maxRecDepth 100000 in
theorem lifted (os : Os) (started : os.Started) (H : Type) (enc : TypeId × Value → H) :
    ReturnsInHanded {} Try.checked os 6 .any (Rows.trieEachSpec.pre6 enc Try.prog Try.f6 Rows.trieEachRow.domain false) (Rows.trieEachSpec.post enc Try.prog Try.f6 false true false false) := by
  refine returnsInHanded_of_change (C := Try.checked) own started (by kernel_rfl) Try.func6
    (ChangeSpec.witness6 (enc := enc) (C := Try.checked) false ⟨#[], #[.slice none 0 0], []⟩ 8 (by kernel_rfl) (by kernel_rfl) (by kernel_rfl) (by kernel_rfl)) ?_
  intro W base args ds gs before hval0 hW hcnd _
  have hval : ∀ (j : Nat) t v, Try.f6.params[j]? = some t → args[j]? = some v → Value.okWide Try.prog W .any base t v := hval0
  have hW' := hW
  obtain ⟨p, q, hA0, hV, rfl, hfz, hnd⟩ := hW
  have hA : DataW.TrodAll enc Try.prog W 0 (fun _ => true) true Try.f6.params.toList args.toList ds p := hA0
  rw [Try.params6] at hA hval
  obtain ⟨v0, vs0, d0, ds0, p0, q0, hargs, rfl, rfl, h0, r0⟩ := trodAll_cons hA
  obtain ⟨rfl, rfl, rfl⟩ := trodAll_nil r0
  obtain rfl : args = #[v0] := by cases args; simp_all
  obtain ⟨rfl, rfl⟩ := trodVars_none hV
  obtain ⟨a0, len0, cap0, rfl⟩ := okWide_slice Try.underlying22 (hval 0 22 v0 rfl rfl)
  have k0 := h0
  have lt0 : ∀ x ∈ p0, x.block < W.heap.size := by obtain ⟨m, hm⟩ := k0; exact DataW.trod_lt m _ _ _ hm
  obtain ⟨L0, hL0, hm0, hr0, has0⟩ : ∃ L : List Vrp, L.length = len0 ∧ len0 ≤ maxLen ∧ RdV W a0 L ∧ ∀ v ∈ L, 0 ≤ v.as ∧ v.as < 4294967296 := by
    obtain ⟨fuel, hf⟩ := h0
    exact open_rdW hf
  have hc0 : len0 ≤ cap0 := by
    obtain ⟨fuel, hf⟩ := h0
    exact open_cap Try.underlying22 hf
  subst hL0
  clear hA0 hval0
  refine (trieEach_any a0 cap0 L0 W hr0 hm0 has0).mono fun e W' ⟨he, hg⟩ => ?_
  subst he
  exact ⟨_, rfl, _, _, _, [], _, [], hW', trodAll_mk1 (shut_bool Try.underlying4 _), (trodAll_cons_mk (Below.trod laidOut (by kernel_rfl) (of_decide_eq_true (by kernel_rfl)) k0 hg.below lt0) trodAll_mk0), rfl, hg.below.frame _, fun h => by cases h⟩

theorem over : Rows.trieEachRow.holds Try.pinned (OpenSpec.ofChange Rows.trieEachSpec) :=
  OpenClaim.holds_of_wide 6 Try.f6 rfl rfl rfl rfl rfl rfl rfl ⟨rfl, rfl, rfl, rfl, rfl⟩ rfl rfl rfl rfl rfl (by kernel_rfl) Try.func6 (by kernel_rfl)
    (of_decide_eq_true (by kernel_rfl)) (by unfold Func.isWrapper; first | (rw [if_pos (by decide +kernel)]; kernel_rfl) | (rw [if_neg (by decide +kernel)]; exact ⟨rfl, rfl⟩))
    (fun os started H enc _ => lifted os started H enc)

/-- The statement. -/
theorem proved : Rows.TrieEachSaid := over
end Go.Proofs.Ytedgbmibgddnkaa.trieEachDone
