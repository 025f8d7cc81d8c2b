/- Regions whose loud operations may come up in one of a few orders. -/
import Derived.Test.YtedgbmibgddnkaaL2
import Derived.Laws.AppendOwn
set_option linter.unusedSimpArgs false
set_option linter.unusedVariables false
namespace Go.Proofs.Ytedgbmibgddnkaa
open Go.RowKit

inductive Tr where
  | nil : Tr
  | one : Nat → Tr → Tr
  | two : Nat → Tr → Nat → Tr → Tr

def Tr.sz : Tr → Nat
  | .nil => 0
  | .one _ t => t.sz + 1
  | .two _ t _ u => max t.sz u.sz + 1

/-- Operations that yield a value, or end the call. -/
def valOp2 : Op → Bool
  | .nilCheck _ => true
  | o => valOp o

section
variable {P : Program} {ops : Array Oper} {md : Region.Mode} {W : World} {Q : Exit → Act → World → Prop}

theorem valOp2_value (o : Oper) (ρ : Operand → Value) (w w' : World) (n : Next) (hv : valOp2 o.op = true) (h : (execOp ρ o).run P w = .ok n w') : ∃ u, n = .value u := by
  by_cases hc : ∃ x, o.op = .nilCheck x
  · obtain ⟨x, hx⟩ := hc
    obtain ⟨dst, op, type, pos, after, guard⟩ := o
    simp only at hx
    subst hx
    simp only [execOp] at h
    split at h
    · simp [runtimePanic] at h
    · simp [runtimePanic] at h
    · simp [runtimePanic] at h
    · split at h
      · simp [runtimePanic] at h
      · simp only [Sem.run_bind, run_program, Result.andThen_ok] at h
        cases hr : (nilAhead (P.types.size + Made.depth) ‹_› ‹_› ‹_›).run P w with
        | halt x w1 => rw [hr] at h; simp [Result.andThen] at h
        | ok b w1 =>
          rw [hr] at h
          simp only [Result.andThen_ok] at h
          split at h
          · simp [unsupported, Result.andThen] at h
          · simp at h
            exact ⟨_, h.1.symm⟩
      · simp at h; exact ⟨_, h.1.symm⟩
    · simp at h; exact ⟨_, h.1.symm⟩
  · refine valOp_value o ρ w w' n ?_ h
    unfold valOp2 at hv
    split at hv
    · rename_i x hx; exact absurd ⟨_, hx⟩ hc
    · exact hv

theorem YieldsIn.yieldsIf2 {S : World → Prop} {o : Oper} {v : Value} {a : Act} (hv : valOp2 o.op = true) (h : YieldsIn P ops S o v a) : YieldsIf P ops S o v a := by
  rcases h with ⟨hw, h⟩ | h
  · refine .inl ⟨hw, fun w hS => ?_⟩
    have h1 := h w hS
    unfold Oper.quietAt at h1
    cases hr : (execOp a.eval o).run P w with
    | halt x w' => rw [hr] at h1; exact h1.elim
    | ok n w' =>
      obtain ⟨u, rfl⟩ := valOp2_value o _ _ _ _ hv hr
      rw [hr] at h1
      obtain ⟨e1, e2⟩ := h1
      rw [e1, e2]
  · exact .inr h

/-- One step. -/
def stp (P : Program) (ops : Array Oper) (Q : Exit → Act → World → Prop) (W : World) (o : Oper) (K : Act → World → Prop) (a : Act) (w : World) : Prop :=
  if Region.wanted o (yielded ops a.tmps) then o.wp P a w (fun a' w' => G W w' ∧ K a' w') Q else K (a.put o.dst undef) w

def wpTr (P : Program) (ops : Array Oper) (Q : Exit → Act → World → Prop) (W : World) : Tr → Act → World → Prop
  | .nil, a, w => Q .normal a w
  | .one i t, a, w => ∃ o, ops[i]? = some o ∧ stp P ops Q W o (wpTr P ops Q W t) a w
  | .two i t j u, a, w => (∃ o, ops[i]? = some o ∧ stp P ops Q W o (wpTr P ops Q W t) a w) ∧ (∃ o, ops[j]? = some o ∧ stp P ops Q W o (wpTr P ops Q W u) a w)

/-- Every world that the region may see. -/
theorem wpTr_nil {a : Act} {w : World} (h : Q .normal a w) : wpTr P ops Q W .nil a w := h
theorem wpTr_one {i : Nat} {o : Oper} {t : Tr} {a : Act} {w : World} (ho : ops[i]? = some o)
    (h : ∀ K : Act → World → Prop, (∀ a' w', G W w' → wpTr P ops Q W t a' w' → K a' w') → if Region.wanted o (yielded ops a.tmps) then o.wp P a w K Q else wpTr P ops Q W t (a.put o.dst undef) w) : wpTr P ops Q W (.one i t) a w :=
  ⟨o, ho, h _ fun _ _ h1 h2 => ⟨h1, h2⟩⟩
theorem wpTr_q {i : Nat} {o : Oper} {t : Tr} {a : Act} {w : World} (ho : ops[i]? = some o) (hg : G W w) (hw : Region.wanted o (yielded ops a.tmps) = true) (h : o.quiet P a (fun w' => w' = w) (fun a' => wpTr P ops Q W t a' w)) : wpTr P ops Q W (.one i t) a w := by
  refine ⟨o, ho, ?_⟩
  unfold stp
  rw [if_pos hw]
  exact Oper.wp_of_quiet (C := fun w' => w' = w) rfl (fun a' w' hw' h' => by subst hw'; exact ⟨hg, h'⟩) h
theorem wpTr_skip {i : Nat} {o : Oper} {t : Tr} {a : Act} {w : World} (ho : ops[i]? = some o) (hw : Region.wanted o (yielded ops a.tmps) = false) (h : wpTr P ops Q W t (a.put o.dst undef) w) : wpTr P ops Q W (.one i t) a w := by
  refine ⟨o, ho, ?_⟩
  unfold stp
  rw [if_neg (by rw [hw]; simp)]
  exact h
theorem wpTr_two {i j : Nat} {t u : Tr} {a : Act} {w : World} (h1 : wpTr P ops Q W (.one i t) a w) (h2 : wpTr P ops Q W (.one j u) a w) : wpTr P ops Q W (.two i t j u) a w := ⟨h1, h2⟩

def treeB (ops : Array Oper) : Tr → Array Bool → Bool
  | .nil, listed => (Region.ready .any ops listed).isEmpty
  | .one i t, listed => decide (Region.ready .any ops listed = [i]) && treeB ops t (listed.setIfInBounds i true)
  | .two i t j u, listed => decide (Region.ready .any ops listed = [i, j]) && treeB ops t (listed.setIfInBounds i true) && treeB ops u (listed.setIfInBounds j true)
def loudT (ops : Array Oper) (t : Tr) : List Nat → Array Bool → Bool
  | i :: hd, listed => (match ops[i]? with | some o => valOp2 o.op | none => false) && (Region.ready .any ops listed).contains i && Region.free .any ops listed i && loudT ops t hd (listed.setIfInBounds i true)
  | [], listed => treeB ops t listed

theorem stp_op {i : Nat} {o : Oper} {K K' : Act → World → Prop} {S : World → Prop} {a : Act} {w : World} (ho : ops[i]? = some o) (hS : S w) (hK : ∀ a' w', G W w' → K a' w' → S w' ∧ K' a' w') (hw0 : G W w)
    (h : stp P ops Q W o K a w) : wpOp P ops Q i (fun a' w' => S w' ∧ K' a' w') a w := by
  unfold wpOp
  simp only [ho]
  unfold stp at h
  split at h
  · rename_i hw
    rw [if_pos hw]
    refine .inl ?_
    unfold Oper.wp at *
    generalize (execOp a.eval o).run P w = r at *
    cases r with
    | ok n w' =>
      cases n <;> simp only [Oper.upon] at h ⊢
      case value u => exact hK _ _ h.1 h.2
      case skip => exact hK _ _ h.1 h.2
      case defer d => exact hK _ _ h.1 h.2
      case enter f args =>
        refine h.mono fun e w'' he => ?_
        cases e with
        | returned u => exact hK _ _ he.1 he.2
        | panicked c => exact he
        | outgrown => exact he
      case row row args => exact Rows.mono h fun u w'' he => hK _ _ he.1 he.2
    | halt x w' =>
      cases x <;> simp only [Oper.upon] at h ⊢
      case panic u => exact h
  · rename_i hw
    rw [if_neg hw]
    exact hK _ _ hw0 h

theorem tree_any (hns : Region.noSelect ops = true) : ∀ (t : Tr) (fuel : Nat) (listed : Array Bool) (a : Act) (w : World), t.sz ≤ fuel → treeB ops t listed = true → G W w → wpTr P ops Q W t a w →
    wpAnyH P .any ops Q (G W) fuel listed a w
  | .nil, fuel, listed, a, w, hf, hB, _, h => wpAnyH_done (by simpa [treeB] using hB) h fuel
  | .one i t, 0, listed, a, w, hf, _, _, _ => by simp [Tr.sz] at hf
  | .two i t j u, 0, listed, a, w, hf, _, _, _ => by simp [Tr.sz] at hf
  | .one i t, fuel + 1, listed, a, w, hf, hB, hg, h => by
    simp only [treeB, Bool.and_eq_true, decide_eq_true_eq] at hB
    obtain ⟨o, ho, hs⟩ := h
    refine wpAnyH_all hB.1 (by simp) fun k hk => ?_
    have : k = i := by simpa using hk
    subst this
    exact stp_op ho hg (fun a' w' hg' h' => ⟨hg', tree_any hns t fuel _ a' w' (by simp [Tr.sz] at hf; omega) hB.2 hg' h'⟩) hg hs
  | .two i t j u, fuel + 1, listed, a, w, hf, hB, hg, h => by
    simp only [treeB, Bool.and_eq_true, decide_eq_true_eq] at hB
    obtain ⟨⟨o, ho, hs⟩, ⟨o2, ho2, hs2⟩⟩ := h
    have hf' : t.sz ≤ fuel ∧ u.sz ≤ fuel := by simp [Tr.sz] at hf; omega
    refine wpAnyH_all hB.1.1 (by simp) fun k hk => ?_
    have hk' : k = i ∨ k = j := by simpa using hk
    rcases hk' with rfl | rfl
    · exact stp_op ho hg (fun a' w' hg' h' => ⟨hg', tree_any hns t fuel _ a' w' hf'.1 hB.1.2 hg' h'⟩) hg hs
    · exact stp_op ho2 hg (fun a' w' hg' h' => ⟨hg', tree_any hns u fuel _ a' w' hf'.2 hB.2 hg' h'⟩) hg hs2

theorem tree_hd (hns : Region.noSelect ops = true) (hQ : ∀ c a d v w, Q (.panic c) (Act.put a d v) w → Q (.panic c) a w) (t : Tr) :
    ∀ (hd : List Nat) (ho : List Oper) (n : Nat) (listed : Array Bool) (a : Act) (w : World), hd.map (fun i => ops[i]?) = ho.map some → loudT ops t hd listed = true → G W w → t.sz ≤ n →
    wpQuiet P ops (fun w' => G W w') (fun a' => wpTr P ops Q W t a' w) ho a → wpAnyH P .any ops Q (G W) (hd.length + n) listed a w
  | [], [], n, listed, a, w, _, hB, hg, hn, h => by rw [List.length_nil, Nat.zero_add]; exact tree_any hns t n listed a w hn hB hg h
  | [], _ :: _, _, _, _, _, hm, _, _, _, _ => by simp at hm
  | _ :: _, [], _, _, _, _, hm, _, _, _, _ => by simp at hm
  | i :: hd, o :: ho, n, listed, a, w, hm, hB, hg, hn, h => by
    simp only [List.map_cons, List.cons.injEq] at hm
    simp only [loudT, hm.1, Bool.and_eq_true] at hB
    obtain ⟨⟨⟨hv, hr⟩, hf⟩, hB'⟩ := hB
    rw [List.length_cons, show hd.length + 1 + n = (hd.length + n) + 1 by omega]
    have hq : qOp P ops (fun w' => G W w') i (fun a' => wpQuiet P ops (fun w' => G W w') (fun a' => wpTr P ops Q W t a' w) ho a') a := by
      unfold qOp; simp only [hm.1]; exact h
    obtain ⟨v, hy, hK⟩ := yieldsIn_of_qOp hm.1 hq
    exact wpAnyH_take hm.1 hns hf hr (fun c a' w' hh => hQ c a' _ _ w' hh) (YieldsIn.yieldsIf2 hv hy) hg (tree_hd hns hQ t hd ho n _ _ w hm.2 hB' hg hn hK)

theorem region_tree {id : Nat} {a : Act} {l : List Oper} (hd : List Nat) (t : Tr) (ho : List Oper) (hm : P.follows .mixedOrders = true) (hns : Region.noSelect l.toArray = true)
    (h1 : hd.map (fun i => l.toArray[i]?) = ho.map some) (n : Nat) (hn : t.sz ≤ n) (hlen : hd.length + n = l.toArray.size) (hB : loudT l.toArray t hd (Array.replicate l.toArray.size false) = true)
    (hQ : ∀ c a d v w, Q (.panic c) (Act.put a d v) w → Q (.panic c) a w)
    (h : wpQuiet P l.toArray (fun w' => ∃ g, w' = grw W g) (fun a' => wpTr P l.toArray Q W t a' W.drew) ho a) : (Code.region id l.toArray true).wp P Q a W := by
  have e : (fun w' => ∃ g, w' = grw W g) = (fun w' => G W w') := by funext w'; simp only [G.iffg]
  rw [e] at h
  refine wp_region_held (S := G W) hm ?_
  have := tree_hd hns hQ t hd ho n _ a W.drew h1 hB ((G.refl W).drew) hn h
  rw [hlen] at this
  exact this
end

theorem append_own_drawn {P : Program} (w : World) (base : Nat) (t ty e : TypeId) (i : TypeInfo) (z : Value) (size bytes : Nat) (ht : P.underlying t = some (.slice e)) (hi : P.info? e = some i) (hz : i.zero = some z)
    (hsize : i.size = size) (hby : i.bytes = bytes) 
    (v : Value) (n : Nat) (xs : List Value) (hown : w.ownsRow base e size v n xs)
    (a : Addr) (m c : Nat) (news : List Value) (hl : news.length = m * size) (hnews : ∀ j u, news[j]? = some u → w.cell? (a.add j) = some u) (h1 : ∀ u ∈ news, u.oneCell' = true)
    (h63 : n + m ≤ maxLen) (hbytes : (n + m) * bytes ≤ 140737488355328) :
    ∃ v' w', (Builtin.append_ #[t, t] ty #[v, .slice (some a) m c]).run P w = .ok v' w' ∧ w.drawn ≤ w'.drawn ∧ (v'.ownBlock = v.ownBlock ∨ ∃ g, v'.ownBlock = some g ∧ w.heap.size ≤ g) := by
  subst hsize
  subst hby
  have hsmall : n + m ≤ 9223372036854775807 := by simp only [maxLen] at h63; omega
  rcases hown.2 with ⟨rfl, rfl⟩ | ⟨g, cap, cur, rfl, hbg, hg, hnc, hcm, hcs, htake⟩
  · by_cases hm : m = 0
    · subst hm
      have hn : news = [] := List.eq_nil_of_length_eq_zero (by simpa using hl)
      subst hn
      refine ⟨.slice none 0 0, w, ?_, Nat.le_refl _, .inl rfl⟩
      simp [Builtin.append_, run_underlying ht, sizeOf, typeInfo, hi, Builtin.lenOf, Builtin.firstCells, loadCells, loadCellsFrom]
    · exact ⟨_, _, run_append_nil (P := P) w t ty e i z ht hi hz a m c news hl hnews (by omega) (by omega) (by have hb := hbytes; simp only [Nat.zero_add] at hb; omega), by simp, .inr ⟨_, rfl, Nat.le_refl _⟩⟩
  · by_cases hroom : n + m ≤ cap
    · have hfit : n * i.size + news.length ≤ cur.size := by rw [hl, hcs, ← Nat.add_mul]; exact Nat.mul_le_mul_right _ hroom
      exact ⟨_, _, run_append_room (P := P) w t ty e i ht hi g n cap cur hg a m c news hl hnews h1 hroom hfit, Nat.le_refl _, .inl rfl⟩
    · have holds : ∀ j u, xs[j]? = some u → w.cell? ((⟨g, 0, none⟩ : Addr).add j) = some u := hown.cells (g := g) rfl
      exact ⟨_, _, run_append_grow (P := P) w t ty e i z ht hi hz ⟨g, 0, none⟩ n cap xs hown.1 holds a m c news hl hnews (by omega) (by omega) (growslice_fits (by omega) hbytes), by simp, .inr ⟨_, rfl, Nat.le_refl _⟩⟩

theorem append_nil_run {P : Program} (w : World) (base : Nat) (t ty e : TypeId) (i : TypeInfo) (size : Nat) (ht : P.underlying t = some (.slice e)) (hi : P.info? e = some i)
    (v : Value) (n : Nat) (xs : List Value) (hown : w.ownsRow base e size v n xs) (c : Nat) (h63 : n ≤ maxLen) :
    (Builtin.append_ #[t, t] ty #[v, .slice none 0 c]).run P w = .ok v w := by
  rcases hown.2 with ⟨rfl, rfl⟩ | ⟨g, cap, cur, rfl, hbg, hg, hnc, hcm, hcs, htake⟩
  · simp [Builtin.append_, run_underlying ht, sizeOf, typeInfo, hi, Builtin.lenOf, Builtin.firstCells, loadCells, loadCellsFrom]
  · simp [Builtin.append_, run_underlying ht, sizeOf, typeInfo, hi, Builtin.lenOf, Builtin.firstCells, loadCells, loadCellsFrom, hnc, storeCells]
end Go.Proofs.Ytedgbmibgddnkaa
