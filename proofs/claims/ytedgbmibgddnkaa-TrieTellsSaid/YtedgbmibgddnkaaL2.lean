/- Regions that draw their order and hold calls whose answers lie in new memory: what reads is taken first; the calls come one behind the other. -/
import Derived.Test.YtedgbmibgddnkaaL
import Derived.OrdersHeld
set_option linter.unusedSimpArgs false
set_option linter.unusedVariables false
namespace Go.Proofs.Ytedgbmibgddnkaa
open Go.RowKit

/-- Operations that yield a value, or end the call. -/
def valOp : Op → Bool
  | .move _ | .assign _ | .load .. | .binOp .. | .unOp .. | .convert .. | .slice .. | .fieldAddr .. | .field .. | .indexAddr .. | .index .. | .extract .. => true
  | _ => false

section
variable {P : Program} {ops : Array Oper} {md : Region.Mode} {W : World} {Q : Exit → Act → World → Prop}

theorem then_value (s : Sem Value) (w w' : World) (n : Next) (h : (s.bind fun v => pure (Next.value v) : Sem Next).run P w = .ok n w') : ∃ u, n = .value u := by
  have h' : (s.run P w).andThen (fun v w1 => (pure (Next.value v) : Sem Next).run P w1) = .ok n w' := by rw [← h]; exact (Sem.run_bind ..).symm
  cases hs : s.run P w with
  | ok v w1 =>
    rw [hs] at h'
    simp only [Result.andThen_ok, Sem.run_pure] at h'
    injection h' with h1 _
    exact ⟨v, h1.symm⟩
  | halt x w1 => rw [hs] at h'; simp [Result.andThen] at h'

theorem valOp_value (o : Oper) (ρ : Operand → Value) (w w' : World) (n : Next) (hv : valOp o.op = true) (h : (execOp ρ o).run P w = .ok n w') : ∃ u, n = .value u := by
  obtain ⟨dst, op, type, pos, after, guard⟩ := o
  cases op <;> simp only [valOp, Bool.false_eq_true] at hv
  all_goals first
    | exact then_value _ _ _ _ h
    | (simp only [execOp, Sem.run_pure] at h; injection h with h1 _; exact ⟨_, h1.symm⟩)

/-- What is quiet in a class, of such an operation, is what may be taken first there. -/
theorem YieldsIn.yieldsIf {S : World → Prop} {o : Oper} {v : Value} {a : Act} (hv : valOp o.op = true) (h : YieldsIn P ops S o v a) : YieldsIf P ops S o v a := by
  rcases h with ⟨hw, h⟩ | h
  · refine .inl ⟨hw, fun w hS => ?_⟩
    have h1 := h w hS
    unfold Oper.quietAt at h1
    cases hr : (execOp a.eval o).run P w with
    | halt x w' => rw [hr] at h1; exact h1.elim
    | ok n w' =>
      obtain ⟨u, rfl⟩ := valOp_value o _ _ _ _ hv hr
      rw [hr] at h1
      obtain ⟨e1, e2⟩ := h1
      rw [e1, e2]
  · exact .inr h

/-- The calls, one behind the other, the world growing. -/
def wpTl (P : Program) (ops : Array Oper) (Q : Exit → Act → World → Prop) (W : World) : List Oper → Act → World → Prop
  | [], a, w => Q .normal a w
  | o :: rest, a, w => if Region.wanted o (yielded ops a.tmps) then o.wp P a w (fun a' w' => G W w' ∧ wpTl P ops Q W rest a' w') Q else wpTl P ops Q W rest (a.put o.dst undef) w

theorem wpTl_nil {a : Act} {w : World} (h : Q .normal a w) : wpTl P ops Q W [] a w := h
theorem wpTl_step {o : Oper} {rest : List Oper} {a : Act} {w : World}
    (h : ∀ K : Act → World → Prop, (∀ a' w', G W w' → wpTl P ops Q W rest a' w' → K a' w') → if Region.wanted o (yielded ops a.tmps) then o.wp P a w K Q else wpTl P ops Q W rest (a.put o.dst undef) w) : wpTl P ops Q W (o :: rest) a w :=
  h _ (fun _ _ h1 h2 => ⟨h1, h2⟩)
/-- An operation that only reads. -/
theorem wpTl_q {o : Oper} {rest : List Oper} {a : Act} {w : World} (hg : G W w) (hw : Region.wanted o (yielded ops a.tmps) = true) (h : o.quiet P a (fun w' => w' = w) (fun a' => wpTl P ops Q W rest a' w)) : wpTl P ops Q W (o :: rest) a w := by
  unfold wpTl
  rw [if_pos hw]
  exact Oper.wp_of_quiet (C := fun w' => w' = w) rfl (fun a' w' hw' h' => by subst hw'; exact ⟨hg, h'⟩) h
theorem wpTl_skip {o : Oper} {rest : List Oper} {a : Act} {w : World} (hw : Region.wanted o (yielded ops a.tmps) = false) (h : wpTl P ops Q W rest (a.put o.dst undef) w) : wpTl P ops Q W (o :: rest) a w := by
  unfold wpTl
  rw [if_neg (by rw [hw]; simp)]
  exact h

/-- First 'hd', each of which may be taken first; then 'tl', each of which is the one that may come up. -/
def loudB (ops : Array Oper) : List Nat → List Nat → Array Bool → Bool
  | i :: hd, tl, listed => (match ops[i]? with | some o => valOp o.op | none => false) && (Region.ready .any ops listed).contains i && Region.free .any ops listed i && loudB ops hd tl (listed.setIfInBounds i true)
  | [], i :: tl, listed => decide (Region.ready .any ops listed = [i]) && loudB ops [] tl (listed.setIfInBounds i true)
  | [], [], listed => (Region.ready .any ops listed).isEmpty

theorem loud_tl (hns : Region.noSelect ops = true) : ∀ (tl : List Nat) (lo : List Oper) (listed : Array Bool) (a : Act) (w : World), tl.map (fun i => ops[i]?) = lo.map some → loudB ops [] tl listed = true → G W w → wpTl P ops Q W lo a w →
    wpAnyH P .any ops Q (G W) tl.length listed a w
  | [], [], listed, a, w, _, hB, _, h => ⟨by simpa [loudB] using hB, h⟩
  | [], _ :: _, _, _, _, hm, _, _, _ => by simp at hm
  | _ :: _, [], _, _, _, hm, _, _, _ => by simp at hm
  | i :: tl, o :: lo, listed, a, w, hm, hB, hg, h => by
    simp only [List.map_cons, List.cons.injEq] at hm
    simp only [loudB, Bool.and_eq_true, decide_eq_true_eq] at hB
    refine wpAnyH_all hB.1 (by simp) fun j hj => ?_
    have : j = i := by simpa using hj
    subst this
    unfold wpOp
    simp only [hm.1]
    unfold wpTl at h
    split at h
    · rename_i hw
      rw [if_pos hw]
      refine .inl ?_
      unfold Oper.wp at *
      generalize (execOp a.eval o).run P w = r at *
      have go := fun a' w' (hh : G W w' ∧ wpTl P ops Q W lo a' w') => (⟨hh.1, loud_tl hns tl lo _ a' w' hm.2 hB.2 hh.1 hh.2⟩ : G W w' ∧ wpAnyH P .any ops Q (G W) tl.length (listed.setIfInBounds j true) a' w')
      cases r with
      | ok n w' =>
        cases n <;> simp only [Oper.upon] at h ⊢
        case value u => exact go _ _ h
        case skip => exact go _ _ h
        case defer d => exact go _ _ h
        case enter f args =>
          refine h.mono fun e w'' he => ?_
          cases e with
          | returned u => exact go _ _ he
          | panicked c => exact he
          | outgrown => exact he
        case row row args => exact Rows.mono h fun u w'' he => go _ _ he
      | halt x w' =>
        cases x <;> simp only [Oper.upon] at h ⊢
        case panic u => exact h
    · rename_i hw
      rw [if_neg hw]
      exact ⟨hg, loud_tl hns tl lo _ _ w hm.2 hB.2 hg h⟩

theorem loud_hd (hns : Region.noSelect ops = true) (hQ : ∀ c a d v w, Q (.panic c) (Act.put a d v) w → Q (.panic c) a w) (tl : List Nat) (lo : List Oper) (h2 : tl.map (fun i => ops[i]?) = lo.map some) :
    ∀ (hd : List Nat) (ho : List Oper) (listed : Array Bool) (a : Act) (w : World), hd.map (fun i => ops[i]?) = ho.map some → loudB ops hd tl listed = true → G W w →
    wpQuiet P ops (fun w' => G W w') (fun a' => wpTl P ops Q W lo a' w) ho a → wpAnyH P .any ops Q (G W) (hd.length + tl.length) listed a w
  | [], [], listed, a, w, _, hB, hg, h => by rw [List.length_nil, Nat.zero_add]; exact loud_tl hns tl lo listed a w h2 hB hg h
  | [], _ :: _, _, _, _, hm, _, _, _ => by simp at hm
  | _ :: _, [], _, _, _, hm, _, _, _ => by simp at hm
  | i :: hd, o :: ho, listed, a, w, hm, hB, hg, h => by
    simp only [List.map_cons, List.cons.injEq] at hm
    simp only [loudB, hm.1, Bool.and_eq_true] at hB
    obtain ⟨⟨⟨hv, hr⟩, hf⟩, hB'⟩ := hB
    rw [List.length_cons, show hd.length + 1 + tl.length = (hd.length + tl.length) + 1 by omega]
    have hq : qOp P ops (fun w' => G W w') i (fun a' => wpQuiet P ops (fun w' => G W w') (fun a' => wpTl P ops Q W lo a' w) ho a') a := by
      unfold qOp; simp only [hm.1]; exact h
    obtain ⟨v, hy, hK⟩ := yieldsIn_of_qOp hm.1 hq
    exact wpAnyH_take hm.1 hns hf hr (fun c a' w' hh => hQ c a' _ _ w' hh) (YieldsIn.yieldsIf hv hy) hg (loud_hd hns hQ tl lo h2 hd ho _ _ w hm.2 hB' hg hK)

theorem region_loud {id : Nat} {a : Act} {l : List Oper} (hd tl : List Nat) (ho lo : List Oper) (hm : P.follows .mixedOrders = true) (hns : Region.noSelect l.toArray = true)
    (h1 : hd.map (fun i => l.toArray[i]?) = ho.map some) (h2 : tl.map (fun i => l.toArray[i]?) = lo.map some) (hlen : hd.length + tl.length = l.toArray.size) (hB : loudB l.toArray hd tl (Array.replicate l.toArray.size false) = true)
    (hQ : ∀ c a d v w, Q (.panic c) (Act.put a d v) w → Q (.panic c) a w)
    (h : wpQuiet P l.toArray (fun w' => ∃ g, w' = grw W g) (fun a' => wpTl P l.toArray Q W lo a' W.drew) ho a) : (Code.region id l.toArray true).wp P Q a W := by
  have e : (fun w' => ∃ g, w' = grw W g) = (fun w' => G W w') := by funext w'; simp only [G.iffg]
  rw [e] at h
  refine wp_region_held (S := G W) hm ?_
  have := loud_hd hns hQ tl lo h2 hd ho _ a W.drew h1 hB ((G.refl W).drew) h
  rw [hlen] at this
  exact this
end
end Go.Proofs.Ytedgbmibgddnkaa
