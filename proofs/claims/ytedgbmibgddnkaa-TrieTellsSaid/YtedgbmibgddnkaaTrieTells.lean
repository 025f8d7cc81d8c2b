/-
  The statement 'Rows.TrieTellsSaid': whatever the list, the prefix and the AS, the law lanyardlaw24.TrieTells returns true and changes nothing that came in. No condition.
-/
import Derived.Test.YtedgbmibgddnkaaRows
import Derived.Test.YtedgbmibgddnkaaD4
import Derived.Test.YtedgbmibgddnkaaQ3
import Derived.WalkKit
import Derived.ProofKit
import Derived.OpenShut
import Derived.Below
import Derived.ChangeOld
namespace Go.Proofs.Ytedgbmibgddnkaa.trieTellsDone
open Go.ChangeShapes Go.WideShapes Go.ChangeAt Go.RowKit Ad
set_option linter.unusedVariables false

theorem own : ownKnob Try.prog.godebug = none := by kernel_rfl
theorem laidOut : laidOutB Try.prog = true := by kernel_rfl

set_option maxRecDepth 100000 in
theorem lifted (os : Os) (started : os.Started) (H : Type) (enc : TypeId × Value → H) :
    ReturnsInHanded {} Try.checked os 3 .any (Rows.trieTellsSpec.pre6 enc Try.prog Try.f3 Rows.trieTellsRow.domain false) (Rows.trieTellsSpec.post enc Try.prog Try.f3 false true false false) := by
  refine returnsInHanded_of_change (C := Try.checked) own started (by kernel_rfl) Try.func3
    (ChangeSpec.witness6 (enc := enc) (C := Try.checked) false ⟨#[], #[.slice none 0 0, .agg (arrP default), .int .u32 0], []⟩ 8 (by kernel_rfl) (by kernel_rfl) (by kernel_rfl) (by kernel_rfl)) ?_
  intro W base args ds gs before hval0 hW hcnd _
  have hval : ∀ (j : Nat) t v, Try.f3.params[j]? = some t → args[j]? = some v → Value.okWide Try.prog W .any base t v := hval0
  have hW' := hW
  obtain ⟨p, q, hA0, hV, rfl, hfz, hnd⟩ := hW
  have hA : DataW.TrodAll enc Try.prog W 0 (fun _ => true) true Try.f3.params.toList args.toList ds p := hA0
  rw [Try.params3] at hA hval
  obtain ⟨v0, vs0, d0, ds0, p0, q0, hargs, rfl, rfl, h0, r0⟩ := trodAll_cons hA
  obtain ⟨v1, vs1, d1, ds1, p1, q1, rfl, rfl, rfl, h1, r1⟩ := trodAll_cons r0
  obtain ⟨v2, vs2, d2, ds2, p2, q2, rfl, rfl, rfl, h2, r2⟩ := trodAll_cons r1
  obtain ⟨rfl, rfl, rfl⟩ := trodAll_nil r2
  obtain rfl : args = #[v0, v1, v2] := by cases args; simp_all
  obtain ⟨rfl, rfl⟩ := trodVars_none hV
  obtain ⟨a0, len0, cap0, rfl⟩ := okWide_slice Try.underlying22 (hval 0 22 v0 rfl rfl)
  have k0 := h0
  have lt0 : ∀ x ∈ p0, x.block < W.heap.size := by obtain ⟨m, hm⟩ := k0; exact DataW.trod_lt m _ _ _ hm
  obtain ⟨L0, hL0, hm0, hr0, has0⟩ : ∃ L : List Vrp, L.length = len0 ∧ len0 ≤ maxLen ∧ RdV W a0 L ∧ ∀ v ∈ L, 0 ≤ v.as ∧ v.as < 4294967296 := by
    obtain ⟨fuel, hf⟩ := h0
    exact open_rdW hf
  have hc0 : len0 ≤ cap0 := by
    obtain ⟨fuel, hf⟩ := h0
    exact open_cap Try.underlying22 hf
  subst hL0
  obtain ⟨cs1, hcs1, _⟩ := okWide_struct Try.underlying25 (hval 1 25 v1 rfl rfl)
  have k1 := h1
  have lt1 : ∀ x ∈ p1, x.block < W.heap.size := by obtain ⟨m, hm⟩ := k1; exact DataW.trod_lt m _ _ _ hm
  obtain ⟨x1, hx1⟩ : ∃ x, v1 = .agg (arrP x) := by
    obtain ⟨fuel, hf⟩ := h1
    obtain ⟨x, hx⟩ := open_pfx hf
    refine ⟨x, ?_⟩
    rw [hcs1] at hx ⊢
    simp only [Value.cells] at hx
    rw [show arrP x = (encP x).toArray from rfl, ← hx, Array.toArray_toList]
  subst hx1
  have k2 := h2
  have lt2 : ∀ x ∈ p2, x.block < W.heap.size := by obtain ⟨m, hm⟩ := k2; exact DataW.trod_lt m _ _ _ hm
  obtain ⟨x2, rfl, rfl, rfl, w2⟩ := open_int Try.underlying26 (hval 2 26 v2 rfl rfl) h2
  clear hA0 hval0
  refine (trieTells_any a0 cap0 L0 x1 x2 W hr0 hm0 has0).mono fun e W' ⟨he, hg⟩ => ?_
  subst he
  exact ⟨_, rfl, _, _, _, [], _, [], hW', trodAll_mk1 (shut_bool Try.underlying4 _), (trodAll_cons_mk (Below.trod laidOut (by kernel_rfl) (of_decide_eq_true (by kernel_rfl)) k0 hg.below lt0) (trodAll_cons_mk (Below.trod laidOut (by kernel_rfl) (of_decide_eq_true (by kernel_rfl)) k1 hg.below lt1) (trodAll_cons_mk (Below.trod laidOut (by kernel_rfl) (of_decide_eq_true (by kernel_rfl)) k2 hg.below lt2) trodAll_mk0))), rfl, hg.below.frame _, fun h => by cases h⟩

theorem over : Rows.trieTellsRow.holds Try.pinned (OpenSpec.ofChange Rows.trieTellsSpec) :=
  OpenClaim.holds_of_wide 3 Try.f3 rfl rfl rfl rfl rfl rfl rfl ⟨rfl, rfl, rfl, rfl, rfl⟩ rfl rfl rfl rfl rfl (by kernel_rfl) Try.func3 (by kernel_rfl)
    (of_decide_eq_true (by kernel_rfl)) (by unfold Func.isWrapper; first | (rw [if_pos (by decide +kernel)]; kernel_rfl) | (rw [if_neg (by decide +kernel)]; exact ⟨rfl, rfl⟩))
    (fun os started H enc _ => lifted os started H enc)

/-- The statement. -/
theorem proved : Rows.TrieTellsSaid := over
end Go.Proofs.Ytedgbmibgddnkaa.trieTellsDone
