/- A region's orders as a tree: what is taken first, what must come, what may come in two ways. -/
import Derived.Test.YtedgbmibgddnkaaT2
set_option linter.unusedSimpArgs false
set_option linter.unusedVariables false
namespace Go.Proofs.Ytedgbmibgddnkaa
open Go.RowKit

inductive Tq where
  | nil : Tq
  | one : Nat → Tq → Tq
  | two : Nat → Tq → Nat → Tq → Tq
  | q : List Nat → Tq → Tq
def Tq.sz : Tq → Nat
  | .nil => 0
  | .one _ t => t.sz + 1
  | .two _ t _ u => max t.sz u.sz + 1
  | .q is t => is.length + t.sz

/-- Operations that yield a value, or end the call. -/
def valOp3 : Op → Bool
  | .pick .. => true
  | .call { callee := .builtin .len, .. } => true
  | o => valOp2 o

section
variable {P : Program} {ops : Array Oper} {W : World} {Q : Exit → Act → World → Prop} {S : World → Prop} {m : Nat}

theorem valOp3_value (o : Oper) (ρ : Operand → Value) (w w' : World) (n : Next) (hv : valOp3 o.op = true) (h : (execOp ρ o).run P w = .ok n w') : ∃ u, n = .value u := by
  unfold valOp3 at hv
  split at hv
  · rename_i c x y hx
    obtain ⟨dst, op, type, pos, after, guard⟩ := o
    simp only at hx
    subst hx
    simp only [execOp, Sem.run_bind] at h
    cases hc : (asBool (ρ c)).run P w with
    | halt x w1 => rw [hc] at h; simp [Result.andThen] at h
    | ok b w1 =>
      rw [hc] at h
      simp only [Result.andThen_ok, Sem.run_pure] at h
      injection h with h1 _
      exact ⟨_, h1.symm⟩
  · rename_i args tys hx
    obtain ⟨dst, op, type, pos, after, guard⟩ := o
    simp only at hx
    subst hx
    simp only [execOp, resolve, Sem.run_bind, Sem.run_pure, Result.andThen_ok, invoke] at h
    simp only [builtin] at h
    exact then_value _ _ _ _ h
  · exact valOp2_value o ρ w w' n hv h

theorem YieldsIn.yieldsIf3 {o : Oper} {v : Value} {a : Act} (hv : valOp3 o.op = true) (h : YieldsIn P ops S o v a) : YieldsIf P ops S o v a := by
  rcases h with ⟨hw, h⟩ | h
  · refine .inl ⟨hw, fun w hS => ?_⟩
    have h1 := h w hS
    unfold Oper.quietAt at h1
    cases hr : (execOp a.eval o).run P w with
    | halt x w' => rw [hr] at h1; exact h1.elim
    | ok n w' =>
      obtain ⟨u, rfl⟩ := valOp3_value o _ _ _ _ hv hr
      rw [hr] at h1
      obtain ⟨e1, e2⟩ := h1
      rw [e1, e2]
  · exact .inr h

def pick (l : List Oper) (is : List Nat) : List Oper := is.filterMap fun i => l[i]?
def wpTq (P : Program) (l : List Oper) (Q : Exit → Act → World → Prop) (S : World → Prop) (m : Nat) : Tq → Act → World → Prop
  | .nil, a, w => Q .normal a w
  | .one i t, a, w => ∃ o, l[i]? = some o ∧ (i < m → S w) ∧ stpM P l.toArray Q S m i o (wpTq P l Q S m t) a w
  | .two i t j u, a, w => (∃ o, l[i]? = some o ∧ (i < m → S w) ∧ stpM P l.toArray Q S m i o (wpTq P l Q S m t) a w) ∧ (∃ o, l[j]? = some o ∧ (j < m → S w) ∧ stpM P l.toArray Q S m j o (wpTq P l Q S m u) a w)
  | .q is t, a, w => S w ∧ wpQuiet P l.toArray S (fun a' => wpTq P l Q S m t a' w) (pick l is) a

section
variable {l : List Oper}
theorem wpTq_nil {a : Act} {w : World} (h : Q .normal a w) : wpTq P l Q S m .nil a w := h
theorem wpTq_one {i : Nat} {o : Oper} {t : Tq} {a : Act} {w : World} (ho : l[i]? = some o) (hg : i < m → S w) (hw : Region.wanted o (yielded l.toArray a.tmps) = true)
    (h : ∀ K : Act → World → Prop, (∀ a' w', (i < m → S w') → wpTq P l Q S m t a' w' → K a' w') → o.wp P a w K Q) : wpTq P l Q S m (.one i t) a w :=
  ⟨o, ho, hg, by
    unfold stpM
    rw [if_pos hw]
    exact .inl (h (fun a' w' => (i < m → S w') ∧ wpTq P l Q S m t a' w') fun _ _ h1 h2 => ⟨h1, h2⟩)⟩
theorem wpTq_skip {i : Nat} {o : Oper} {t : Tq} {a : Act} {w : World} (ho : l[i]? = some o) (hg : i < m → S w) (hw : Region.wanted o (yielded l.toArray a.tmps) = false) (h : wpTq P l Q S m t (a.put o.dst undef) w) : wpTq P l Q S m (.one i t) a w := by
  refine ⟨o, ho, hg, ?_⟩
  unfold stpM
  rw [if_neg (by rw [hw]; simp)]
  exact h
theorem wpTq_last {i : Nat} {o : Oper} {a : Act} {w : World} (ho : l[i]? = some o) (hi : ¬ i < m) (h : wpList P l.toArray Q [o] a w) : wpTq P l Q S m (.one i .nil) a w := by
  refine ⟨o, ho, fun h => absurd h hi, ?_⟩
  have e : (fun a' w' => (i < m → S w') ∧ wpTq P l Q S m .nil a' w') = wpList P l.toArray Q [] := by
    funext a' w'
    exact propext ⟨fun h => h.2, fun h => ⟨fun h' => absurd h' hi, h⟩⟩
  unfold stpM
  rw [e]
  exact h
theorem wpTq_two {i j : Nat} {t u : Tq} {a : Act} {w : World} (h1 : wpTq P l Q S m (.one i t) a w) (h2 : wpTq P l Q S m (.one j u) a w) : wpTq P l Q S m (.two i t j u) a w := ⟨h1, h2⟩
/-- A run of operations that only read, taken first. -/
theorem wpTq_q {is : List Nat} {t : Tq} {a : Act} {w : World} (hS : S w) (h : wpQuiet P l.toArray (fun w' => ∃ g : Cl S, w' = g.1) (fun a' => wpTq P l Q S m t a' w) (pick l is) a) : wpTq P l Q S m (.q is t) a w := by
  rw [cl_iff] at h
  exact ⟨hS, h⟩
theorem wpTq_qG {W : World} {is : List Nat} {t : Tq} {a : Act} {w : World} (hS : G W w) (h : wpQuiet P l.toArray (fun w' => ∃ g, w' = grw W g) (fun a' => wpTq P l Q (G W) m t a' w) (pick l is) a) : wpTq P l Q (G W) m (.q is t) a w := by
  have e : (fun w' => ∃ g, w' = grw W g) = G W := by funext w'; simp only [G.iffg]
  rw [e] at h
  exact ⟨hS, h⟩
end

def takeB (ops : Array Oper) (m : Nat) : List Nat → Array Bool → Option (Array Bool)
  | [], l => some l
  | i :: is, l => if (match ops[i]? with | some o => valOp3 o.op | none => false) && (Region.ready .any ops l).contains i && Region.free .any ops l i && decide (i < m) && waitB ops m i then takeB ops m is (l.setIfInBounds i true) else none
def treeQ (ops : Array Oper) (m : Nat) : Tq → Array Bool → Bool
  | .nil, l => (Region.ready .any ops l).isEmpty
  | .one i t, l => decide (Region.ready .any ops l = [i]) && treeQ ops m t (l.setIfInBounds i true)
  | .two i t j u, l => decide (Region.ready .any ops l = [i, j]) && treeQ ops m t (l.setIfInBounds i true) && treeQ ops m u (l.setIfInBounds j true)
  | .q is t, l => match takeB ops m is l with | some l' => treeQ ops m t l' | none => false

theorem tq_take {l : List Oper} (hns : Region.noSelect l.toArray = true) (hQ : ∀ c a d v w, Q (.panic c) (Act.put a d v) w → Q (.panic c) a w) (K : Act → World → Prop) (n : Nat) (lst' : Array Bool)
    (hK : ∀ a w, K a w → wpAnyM P l.toArray Q S m n lst' a w) :
    ∀ (is : List Nat) (lst : Array Bool) (a : Act) (w : World), takeB l.toArray m is lst = some lst' → S w → wpQuiet P l.toArray S (fun a' => K a' w) (pick l is) a → wpAnyM P l.toArray Q S m (is.length + n) lst a w
  | [], lst, a, w, hB, hS, h => by
    simp only [takeB, Option.some.injEq] at hB
    subst hB
    rw [List.length_nil, Nat.zero_add]
    exact hK _ _ h
  | i :: is, lst, a, w, hB, hS, h => by
    unfold takeB at hB
    split at hB
    · rename_i o ho'
      split at hB
      · rename_i hc
        simp only [Bool.and_eq_true, decide_eq_true_eq] at hc
        obtain ⟨⟨⟨⟨hv, hr⟩, hf⟩, him⟩, hwt⟩ := hc
        have ho : l[i]? = some o := by simpa using ho'
        have e : pick l (i :: is) = o :: pick l is := by simp [pick, ho]
        rw [e] at h
        have hq : qOp P l.toArray S i (fun a' => wpQuiet P l.toArray S (fun a' => K a' w) (pick l is) a') a := by
          unfold qOp; simp only [ho']; exact h
        obtain ⟨v, hy, hK'⟩ := yieldsIn_of_qOp ho' hq
        rw [List.length_cons, show is.length + 1 + n = (is.length + n) + 1 by omega]
        exact wpAnyM_first ho' (Region.noSelect_spec hns) him hwt (fun c a' w' hh => hQ c a' _ _ w' hh) _ _ _ _ (Region.free_spec ho' hf) (by simpa using hr) (YieldsIn.yieldsIf3 hv hy) hS (tq_take hns hQ K n lst' hK is _ _ w hB hS hK')
      · cases hB
    · simp at hB

theorem tq_any {l : List Oper} (hns : Region.noSelect l.toArray = true) (hQ : ∀ c a d v w, Q (.panic c) (Act.put a d v) w → Q (.panic c) a w) :
    ∀ (t : Tq) (f : Nat) (lst : Array Bool) (a : Act) (w : World), t.sz ≤ f → treeQ l.toArray m t lst = true → wpTq P l Q S m t a w → wpAnyM P l.toArray Q S m f lst a w
  | .nil, 0, lst, a, w, _, hB, h => ⟨by simpa [treeQ] using hB, h⟩
  | .nil, f + 1, lst, a, w, _, hB, h => ⟨fun _ => h, by have : Region.ready .any l.toArray lst = [] := by simpa [treeQ] using hB
                                                        rw [this]; simp⟩
  | .one i t, 0, lst, a, w, hf, _, _ => by simp [Tq.sz] at hf
  | .two i t j u, 0, lst, a, w, hf, _, _ => by simp [Tq.sz] at hf
  | .one i t, f + 1, lst, a, w, hf, hB, h => by
    simp only [treeQ, Bool.and_eq_true, decide_eq_true_eq] at hB
    obtain ⟨o, ho, hg, hs⟩ := h
    have ho' : l.toArray[i]? = some o := by simpa using ho
    refine ⟨fun h0 => by rw [hB.1] at h0; simp at h0, fun k hk => ?_⟩
    have : k = i := by rw [hB.1] at hk; simpa using hk
    subst this
    exact stpM_op ho' (fun a' w' h' => tq_any hns hQ t f _ a' w' (by simp [Tq.sz] at hf; omega) hB.2 h') hg hs
  | .two i t j u, f + 1, lst, a, w, hf, hB, h => by
    simp only [treeQ, Bool.and_eq_true, decide_eq_true_eq] at hB
    obtain ⟨⟨o, ho, hg, hs⟩, ⟨o2, ho2, hg2, hs2⟩⟩ := h
    have ho' : l.toArray[i]? = some o := by simpa using ho
    have ho2' : l.toArray[j]? = some o2 := by simpa using ho2
    have hf' : t.sz ≤ f ∧ u.sz ≤ f := by simp [Tq.sz] at hf; omega
    refine ⟨fun h0 => by rw [hB.1.1] at h0; simp at h0, fun k hk => ?_⟩
    have hk' : k = i ∨ k = j := by rw [hB.1.1] at hk; simpa using hk
    rcases hk' with rfl | rfl
    · exact stpM_op ho' (fun a' w' h' => tq_any hns hQ t f _ a' w' hf'.1 hB.1.2 h') hg hs
    · exact stpM_op ho2' (fun a' w' h' => tq_any hns hQ u f _ a' w' hf'.2 hB.2 h') hg2 hs2
  | .q is t, f, lst, a, w, hf, hB, h => by
    unfold treeQ at hB
    split at hB
    · rename_i lst' hT
      have hn : is.length + t.sz ≤ f := by simpa [Tq.sz] using hf
      obtain ⟨d, rfl⟩ := Nat.exists_eq_add_of_le hn
      rw [Nat.add_assoc]
      exact tq_take hns hQ (wpTq P l Q S m t) (t.sz + d) lst' (fun a w h => tq_any hns hQ t (t.sz + d) lst' a w (by omega) hB h) is lst a w hT h.1 h.2
    · cases hB

/-- The region, by the tree of its orders. -/
theorem region_q {id : Nat} {a : Act} {l : List Oper} (S : World → Prop) (m : Nat) (t : Tq) (hm : P.follows .mixedOrders = true) (hns : Region.noSelect l.toArray = true) (hsz : t.sz ≤ l.length)
    (hB : treeQ l.toArray m t (Array.replicate l.length false) = true) (hQ : ∀ c a d v w, Q (.panic c) (Act.put a d v) w → Q (.panic c) a w)
    (h : wpTq P l Q S m t a W.drew) : (Code.region id l.toArray true).wp P Q a W := by
  refine wp_region_any hm (wpAny_of_M (S := S) (m := m) _ _ _ _ ?_)
  exact tq_any hns hQ t _ _ a W.drew (by simpa using hsz) (by simpa using hB) h
end
end Go.Proofs.Ytedgbmibgddnkaa
