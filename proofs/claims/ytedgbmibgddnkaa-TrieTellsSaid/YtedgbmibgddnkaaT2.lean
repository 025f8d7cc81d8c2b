/- The same where the last operations write what stood before: they wait for all that is taken first. -/
import Derived.Test.YtedgbmibgddnkaaT
import Derived.Test.YtedgbmibgddnkaaF
set_option linter.unusedSimpArgs false
set_option linter.unusedVariables false
namespace Go.Proofs.Ytedgbmibgddnkaa
open Go.RowKit

section
variable {P : Program} {ops : Array Oper} {W : World} {Q : Exit → Act → World → Prop} {S : World → Prop} {m : Nat}

/-- Whatever order: those below m leave a world in S. -/
def wpAnyM (P : Program) (ops : Array Oper) (Q : Exit → Act → World → Prop) (S : World → Prop) (m : Nat) : Nat → Array Bool → Act → World → Prop
  | 0, l, a, w => Region.ready .any ops l = [] ∧ Q .normal a w
  | f + 1, l, a, w => (Region.ready .any ops l = [] → Q .normal a w) ∧ ∀ i ∈ Region.ready .any ops l, wpOp P ops Q i (fun a' w' => (i < m → S w') ∧ wpAnyM P ops Q S m f (l.setIfInBounds i true) a' w') a w

theorem wpAny_of_M : ∀ (f : Nat) (l : Array Bool) (a : Act) (w : World), wpAnyM P ops Q S m f l a w → wpAny P .any ops Q f l a w
  | 0, _, _, _, h => h
  | f + 1, _, _, _, h => ⟨h.1, fun i hi => wpOp_mono (fun a' w' h' => wpAny_of_M f _ a' w' h'.2) (h.2 i hi)⟩

/-- Each of m and above waits for i. -/
def waitB (ops : Array Oper) (m i : Nat) : Bool := (List.range ops.size).all fun j => decide (j < m) || (match ops[j]? with | some o => o.after.any (fun e => Region.binds .any e && decide (e.on = i)) | none => true)

theorem ready_waits {i j : Nat} {l : Array Bool} (hi : i ∈ Region.ready .any ops l) (hj : j ∈ Region.ready .any ops l) (hb : waitB ops m i = true) : j < m := by
  obtain ⟨hjun, oj, hoj, hall⟩ := mem_ready.1 hj
  have hlt : j < ops.size := (Array.getElem?_eq_some_iff.1 hoj).1
  have h := List.all_eq_true.1 hb j (List.mem_range.2 hlt)
  rw [hoj] at h
  simp only [Bool.or_eq_true, decide_eq_true_eq] at h
  rcases h with h | h
  · exact h
  · obtain ⟨e, he, hee⟩ := Array.any_eq_true'.1 h
    simp only [Bool.and_eq_true, decide_eq_true_eq] at hee
    have h1 := hall e he hee.1
    have h0 := (mem_ready.1 hi).1
    rw [hee.2] at h1
    rcases Nat.lt_or_ge i l.size with h' | h'
    · simp [h'] at h0 h1; rw [h0] at h1; cases h1
    · simp [Array.getElem?_eq_none h'] at h1

theorem wpAnyM_first {i : Nat} {oi : Oper} {v : Value} (hi : ops[i]? = some oi) (hsel : ∀ (j : Nat) (o : Oper) cs b, ops[j]? = some o → o.op ≠ .select cs b) (him : i < m) (hb : waitB ops m i = true)
    (hQ : ∀ c a w, Q (.panic c) (a.put oi.dst v) w → Q (.panic c) a w) :
    ∀ (f : Nat) (l : Array Bool) (a : Act) (w : World), (∀ j oj, ops[j]? = some oj → j ≠ i → l.getD j true = false → (∀ e ∈ oj.after, Region.binds .any e = true → e.on ≠ i) → oi.apart ops oj = true) →
      i ∈ Region.ready .any ops l → YieldsIf P ops S oi v a → S w → wpAnyM P ops Q S m f (l.setIfInBounds i true) (a.put oi.dst v) w → wpAnyM P ops Q S m (f + 1) l a w
  | f, l, a, w, hfree, hr, hy, hS, H => by
    refine ⟨fun h => (by rw [h] at hr; cases hr), fun j hj => ?_⟩
    by_cases hji : j = i
    · subst hji; exact hy.wpOp hi hS ⟨fun _ => hS, H⟩
    · cases f with
      | zero =>
        have := ready_mono hj hji
        rw [H.1] at this
        cases this
      | succ f =>
        have h1 := H.2 j (ready_mono hj hji)
        have hjm := ready_waits hr hj hb
        obtain ⟨hjun, oj, hoj, hall⟩ := mem_ready.1 hj
        have hnot : ∀ e ∈ oj.after, Region.binds .any e = true → e.on ≠ i := fun e he hbd heq => by
          have h1 := hall e he hbd
          have h0 := (mem_ready.1 hr).1
          rw [heq] at h1
          rcases Nat.lt_or_ge i l.size with h' | h'
          · simp [h'] at h0 h1; rw [h0] at h1; cases h1
          · simp [Array.getElem?_eq_none h'] at h1
        have h2 := wpOp_putIf hoj (hfree j oj hoj hji hjun hnot) (fun cs b => hsel i oi cs b hi) (fun cs b => hsel j oj cs b hoj) hQ hy h1
        have hfree' : ∀ k ok, ops[k]? = some ok → k ≠ i → (l.setIfInBounds j true).getD k true = false →
            (∀ e ∈ ok.after, Region.binds .any e = true → e.on ≠ i) → oi.apart ops ok = true := fun k ok hk hki hun hno => by
          refine hfree k ok hk hki ?_ hno
          by_cases hjk : j = k
          · subst hjk; exact hjun
          · rw [getD_set_ne true hjk] at hun; exact hun
        refine wpOp_mono (fun a' w' h3 => ⟨h3.2.1, wpAnyM_first hi hsel him hb hQ f (l.setIfInBounds j true) a' w' hfree' (ready_mono hr (Ne.symm hji)) h3.1 (h3.2.1 hjm) ?_⟩) h2
        rw [Array.setIfInBounds_comm _ _ hji]
        exact h3.2.2

/-- One step: below m, the world has grown. -/
def stpM (P : Program) (ops : Array Oper) (Q : Exit → Act → World → Prop) (S : World → Prop) (m i : Nat) (o : Oper) (K : Act → World → Prop) (a : Act) (w : World) : Prop :=
  if Region.wanted o (yielded ops a.tmps) then o.wp P a w (fun a' w' => (i < m → S w') ∧ K a' w') Q ∨ (o.asks P a w ∧ LetsOut Q) else K (a.put o.dst undef) w

def wpTrM (P : Program) (ops : Array Oper) (Q : Exit → Act → World → Prop) (S : World → Prop) (m : Nat) : Tr → Act → World → Prop
  | .nil, a, w => Q .normal a w
  | .one i t, a, w => ∃ o, ops[i]? = some o ∧ (i < m → S w) ∧ stpM P ops Q S m i o (wpTrM P ops Q S m t) a w
  | .two i t j u, a, w => (∃ o, ops[i]? = some o ∧ (i < m → S w) ∧ stpM P ops Q S m i o (wpTrM P ops Q S m t) a w) ∧ (∃ o, ops[j]? = some o ∧ (j < m → S w) ∧ stpM P ops Q S m j o (wpTrM P ops Q S m u) a w)

theorem wpTrM_nil {a : Act} {w : World} (h : Q .normal a w) : wpTrM P ops Q S m .nil a w := h
theorem wpTrM_one {i : Nat} {o : Oper} {t : Tr} {a : Act} {w : World} (ho : ops[i]? = some o) (hg : i < m → S w)
    (h : ∀ K : Act → World → Prop, (∀ a' w', (i < m → S w') → wpTrM P ops Q S m t a' w' → K a' w') → if Region.wanted o (yielded ops a.tmps) then o.wp P a w K Q else wpTrM P ops Q S m t (a.put o.dst undef) w) : wpTrM P ops Q S m (.one i t) a w :=
  ⟨o, ho, hg, by
    have := h (fun a' w' => (i < m → S w') ∧ wpTrM P ops Q S m t a' w') fun _ _ h1 h2 => ⟨h1, h2⟩
    unfold stpM
    split at this
    · rename_i hw; rw [if_pos hw]; exact .inl this
    · rename_i hw; rw [if_neg hw]; exact this⟩
theorem wpTrM_q {i : Nat} {o : Oper} {t : Tr} {a : Act} {w : World} (ho : ops[i]? = some o) (hg : i < m → S w) (hw : Region.wanted o (yielded ops a.tmps) = true) (h : o.quiet P a (fun w' => w' = w) (fun a' => wpTrM P ops Q S m t a' w)) : wpTrM P ops Q S m (.one i t) a w := by
  refine ⟨o, ho, hg, ?_⟩
  unfold stpM
  rw [if_pos hw]
  refine .inl ?_
  exact Oper.wp_of_quiet (C := fun w' => w' = w) rfl (fun a' w' hw' h' => by subst hw'; exact ⟨hg, h'⟩) h
theorem wpTrM_skip {i : Nat} {o : Oper} {t : Tr} {a : Act} {w : World} (ho : ops[i]? = some o) (hg : i < m → S w) (hw : Region.wanted o (yielded ops a.tmps) = false) (h : wpTrM P ops Q S m t (a.put o.dst undef) w) : wpTrM P ops Q S m (.one i t) a w := by
  refine ⟨o, ho, hg, ?_⟩
  unfold stpM
  rw [if_neg (by rw [hw]; simp)]
  exact h
/-- The last one, that writes. -/
theorem wpTrM_last {i : Nat} {o : Oper} {a : Act} {w : World} (ho : ops[i]? = some o) (hi : ¬ i < m) (h : wpList P ops Q [o] a w) : wpTrM P ops Q S m (.one i .nil) a w := by
  refine ⟨o, ho, fun h => absurd h hi, ?_⟩
  have e : (fun a' w' => (i < m → S w') ∧ wpTrM P ops Q S m .nil a' w') = wpList P ops Q [] := by
    funext a' w'
    exact propext ⟨fun h => h.2, fun h => ⟨fun h' => absurd h' hi, h⟩⟩
  unfold stpM
  rw [e]
  exact h
theorem wpTrM_two {i j : Nat} {t u : Tr} {a : Act} {w : World} (h1 : wpTrM P ops Q S m (.one i t) a w) (h2 : wpTrM P ops Q S m (.one j u) a w) : wpTrM P ops Q S m (.two i t j u) a w := ⟨h1, h2⟩

theorem stpM_op {i : Nat} {o : Oper} {K K' : Act → World → Prop} {a : Act} {w : World} (ho : ops[i]? = some o) (hK : ∀ a' w', K a' w' → K' a' w') (hg : i < m → S w)
    (h : stpM P ops Q S m i o K a w) : wpOp P ops Q i (fun a' w' => (i < m → S w') ∧ K' a' w') a w := by
  unfold wpOp
  simp only [ho]
  unfold stpM at h
  split at h
  · rename_i hw
    rw [if_pos hw]
    rcases h with h | h
    case inr => exact .inr h
    refine .inl ?_
    unfold Oper.wp at *
    generalize (execOp a.eval o).run P w = r at *
    cases r with
    | ok n w' =>
      cases n <;> simp only [Oper.upon] at h ⊢
      case value u => exact ⟨h.1, hK _ _ h.2⟩
      case skip => exact ⟨h.1, hK _ _ h.2⟩
      case defer d => exact ⟨h.1, hK _ _ h.2⟩
      case enter f args =>
        refine h.mono fun e w'' he => ?_
        cases e with
        | returned u => exact ⟨he.1, hK _ _ he.2⟩
        | panicked c => exact he
        | outgrown => exact he
      case row row args => exact Rows.mono h fun u w'' he => ⟨he.1, hK _ _ he.2⟩
    | halt x w' =>
      cases x <;> simp only [Oper.upon] at h ⊢
      case panic u => exact h
  · rename_i hw
    rw [if_neg hw]
    exact ⟨hg, hK _ _ h⟩

theorem treeM_any : ∀ (t : Tr) (f : Nat) (l : Array Bool) (a : Act) (w : World), t.sz ≤ f → treeB ops t l = true → wpTrM P ops Q S m t a w → wpAnyM P ops Q S m f l a w
  | .nil, 0, l, a, w, _, hB, h => ⟨by simpa [treeB] using hB, h⟩
  | .nil, f + 1, l, a, w, _, hB, h => ⟨fun _ => h, by have : Region.ready .any ops l = [] := by simpa [treeB] using hB
                                                      rw [this]; simp⟩
  | .one i t, 0, l, a, w, hf, _, _ => by simp [Tr.sz] at hf
  | .two i t j u, 0, l, a, w, hf, _, _ => by simp [Tr.sz] at hf
  | .one i t, f + 1, l, a, w, hf, hB, h => by
    simp only [treeB, Bool.and_eq_true, decide_eq_true_eq] at hB
    obtain ⟨o, ho, hg, hs⟩ := h
    refine ⟨fun h0 => by rw [hB.1] at h0; simp at h0, fun k hk => ?_⟩
    have : k = i := by rw [hB.1] at hk; simpa using hk
    subst this
    exact stpM_op ho (fun a' w' h' => treeM_any t f _ a' w' (by simp [Tr.sz] at hf; omega) hB.2 h') hg hs
  | .two i t j u, f + 1, l, a, w, hf, hB, h => by
    simp only [treeB, Bool.and_eq_true, decide_eq_true_eq] at hB
    obtain ⟨⟨o, ho, hg, hs⟩, ⟨o2, ho2, hg2, hs2⟩⟩ := h
    have hf' : t.sz ≤ f ∧ u.sz ≤ f := by simp [Tr.sz] at hf; omega
    refine ⟨fun h0 => by rw [hB.1.1] at h0; simp at h0, fun k hk => ?_⟩
    have hk' : k = i ∨ k = j := by rw [hB.1.1] at hk; simpa using hk
    rcases hk' with rfl | rfl
    · exact stpM_op ho (fun a' w' h' => treeM_any t f _ a' w' hf'.1 hB.1.2 h') hg hs
    · exact stpM_op ho2 (fun a' w' h' => treeM_any u f _ a' w' hf'.2 hB.2 h') hg2 hs2

def loudM (ops : Array Oper) (m : Nat) (t : Tr) : List Nat → Array Bool → Bool
  | i :: hd, l => (match ops[i]? with | some o => valOp2 o.op | none => false) && (Region.ready .any ops l).contains i && Region.free .any ops l i && decide (i < m) && waitB ops m i && loudM ops m t hd (l.setIfInBounds i true)
  | [], l => treeB ops t l

theorem treeM_hd (hns : Region.noSelect ops = true) (hQ : ∀ c a d v w, Q (.panic c) (Act.put a d v) w → Q (.panic c) a w) (t : Tr) :
    ∀ (hd : List Nat) (ho : List Oper) (n : Nat) (l : Array Bool) (a : Act) (w : World), hd.map (fun i => ops[i]?) = ho.map some → loudM ops m t hd l = true → S w → t.sz ≤ n →
    wpQuiet P ops (fun w' => S w') (fun a' => wpTrM P ops Q S m t a' w) ho a → wpAnyM P ops Q S m (hd.length + n) l a w
  | [], [], n, l, a, w, _, hB, hg, hn, h => by rw [List.length_nil, Nat.zero_add]; exact treeM_any t n l a w hn hB h
  | [], _ :: _, _, _, _, _, hm, _, _, _, _ => by simp at hm
  | _ :: _, [], _, _, _, _, hm, _, _, _, _ => by simp at hm
  | i :: hd, o :: ho, n, l, a, w, hm, hB, hg, hn, h => by
    simp only [List.map_cons, List.cons.injEq] at hm
    simp only [loudM, hm.1, Bool.and_eq_true, decide_eq_true_eq] at hB
    obtain ⟨⟨⟨⟨⟨hv, hr⟩, hf⟩, him⟩, hwt⟩, hB'⟩ := hB
    rw [List.length_cons, show hd.length + 1 + n = (hd.length + n) + 1 by omega]
    have hq : qOp P ops (fun w' => S w') i (fun a' => wpQuiet P ops (fun w' => S w') (fun a' => wpTrM P ops Q S m t a' w) ho a') a := by
      unfold qOp; simp only [hm.1]; exact h
    obtain ⟨v, hy, hK⟩ := yieldsIn_of_qOp hm.1 hq
    exact wpAnyM_first hm.1 (Region.noSelect_spec hns) him hwt (fun c a' w' hh => hQ c a' _ _ w' hh) _ _ _ _ (Region.free_spec hm.1 hf) (by simpa using hr) (YieldsIn.yieldsIf2 hv hy) hg (treeM_hd hns hQ t hd ho n _ _ w hm.2 hB' hg hn hK)

/-- The worlds of a class. -/
def Cl (S : World → Prop) : Type := { w : World // S w }
theorem cl_iff {S : World → Prop} : (fun w' => ∃ g : Cl S, w' = g.1) = S := by
  funext w'
  exact propext ⟨fun ⟨g, e⟩ => e ▸ g.2, fun h => ⟨⟨w', h⟩, rfl⟩⟩
/-- The region: 'hd' is taken first; the tree's orders; those of m and above may write what they like. -/
theorem region_treeM {id : Nat} {a : Act} {l : List Oper} (S : World → Prop) (m : Nat) (hd : List Nat) (t : Tr) (ho : List Oper) (hm : P.follows .mixedOrders = true) (hns : Region.noSelect l.toArray = true)
    (h1 : hd.map (fun i => l.toArray[i]?) = ho.map some) (n : Nat) (hn : t.sz ≤ n) (hlen : hd.length + n = l.toArray.size) (hB : loudM l.toArray m t hd (Array.replicate l.toArray.size false) = true)
    (hQ : ∀ c a d v w, Q (.panic c) (Act.put a d v) w → Q (.panic c) a w) (hS : S W.drew)
    (h : wpQuiet P l.toArray (fun w' => ∃ g : Cl S, w' = g.1) (fun a' => wpTrM P l.toArray Q S m t a' W.drew) ho a) : (Code.region id l.toArray true).wp P Q a W := by
  rw [cl_iff] at h
  refine wp_region_any hm (wpAny_of_M (S := S) (m := m) _ _ _ _ ?_)
  have := treeM_hd hns hQ t hd ho n _ a W.drew h1 hB hS hn h
  rw [hlen] at this
  exact this

theorem pick_map (l : List Oper) : ∀ (hd : List Nat), hd.all (fun i => decide (i < l.length)) = true → hd.map (fun i => l.toArray[i]?) = (hd.filterMap fun i => l[i]?).map some
  | [], _ => rfl
  | i :: hd, h => by
    simp only [List.all_cons, Bool.and_eq_true, decide_eq_true_eq] at h
    rw [List.map_cons, List.filterMap_cons, pick_map l hd h.2]
    simp [List.getElem?_eq_getElem h.1]
/-- With a class of one's own. -/
theorem region_MS {id : Nat} {a : Act} {l : List Oper} (S : World → Prop) (m : Nat) (hd : List Nat) (t : Tr) (n : Nat) (hm : P.follows .mixedOrders = true) (hns : Region.noSelect l.toArray = true)
    (hall : hd.all (fun i => decide (i < l.length)) = true) (hn : t.sz ≤ n) (hlen : hd.length + n = l.length) (hB : loudM l.toArray m t hd (Array.replicate l.length false) = true)
    (hQ : ∀ c a d v w, Q (.panic c) (Act.put a d v) w → Q (.panic c) a w) (hS : S W.drew)
    (h : wpQuiet P l.toArray (fun w' => ∃ g : Cl S, w' = g.1) (fun a' => wpTrM P l.toArray Q S m t a' W.drew) (hd.filterMap fun i => l[i]?) a) : (Code.region id l.toArray true).wp P Q a W :=
  region_treeM S m hd t (hd.filterMap fun i => l[i]?) hm hns (pick_map l hd hall) n hn (by simpa using hlen) (by simpa using hB) hQ hS h
/-- With the class of what has come by growth. -/
theorem region_M {id : Nat} {a : Act} {l : List Oper} (m : Nat) (hd : List Nat) (t : Tr) (n : Nat) (hm : P.follows .mixedOrders = true) (hns : Region.noSelect l.toArray = true)
    (hall : hd.all (fun i => decide (i < l.length)) = true) (hn : t.sz ≤ n) (hlen : hd.length + n = l.length) (hB : loudM l.toArray m t hd (Array.replicate l.length false) = true)
    (hQ : ∀ c a d v w, Q (.panic c) (Act.put a d v) w → Q (.panic c) a w)
    (h : wpQuiet P l.toArray (fun w' => ∃ g, w' = grw W g) (fun a' => wpTrM P l.toArray Q (G W) m t a' W.drew) (hd.filterMap fun i => l[i]?) a) : (Code.region id l.toArray true).wp P Q a W := by
  have e : (fun w' => ∃ g, w' = grw W g) = (fun w' => ∃ g : Cl (G W), w' = g.1) := by rw [cl_iff]; funext w'; simp only [G.iffg]
  rw [e] at h
  exact region_MS (G W) m hd t n hm hns hall hn hlen hB hQ ((G.refl W).drew) h
end
/-- A load of an aggregate in a class of one's own. -/
theorem q_loadS {P : Program} {S : World → Prop} {o : Oper} {a : Act} {K : Act → Prop} (ty : TypeId) (x : Operand) (p : Addr) (D : Array Value) (h : ∀ w', S w' → At w' p D) {d : TypeDesc} (hu : P.underlying ty = some d) (hd : (match d with | .struct _ | .array _ _ => true | _ => false) = true) (hi : (P.info? ty).map (·.size) = some D.size)
    (ho : o.op = .load ty x) (hx : a.eval x = .pointer (some p)) (hk : K (a.put o.dst (.agg D))) : o.quiet P a (fun w' => ∃ g : Cl S, w' = g.1) K := by
  refine ⟨_, ?_, hk⟩
  rintro w' ⟨g, rfl⟩
  have hb' := h g.1 g.2
  unfold Oper.quietAt execOp
  simp only [ho, hx, Instr.loadAt, Instr.sureAddr, Sem.run_bind, Sem.run_pure, Result.andThen_ok, run_load _ ty p D hb' hu hd hi, Oper.quietUpon, and_self]
theorem scell {S : World → Prop} {p : Addr} {v : Value} (h : ∀ w', S w' → w'.cell? p = some v) : ∀ g : Cl S, g.1.cell? p = some v := fun g => h g.1 g.2
end Go.Proofs.Ytedgbmibgddnkaa
