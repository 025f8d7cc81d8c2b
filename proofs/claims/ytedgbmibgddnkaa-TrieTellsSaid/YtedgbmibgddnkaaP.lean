/- The trie in memory: which block is whose, what its nodes hold. -/
import Derived.Test.YtedgbmibgddnkaaF
set_option linter.unusedSimpArgs false
set_option linter.unusedVariables false
namespace Go.Proofs.Ytedgbmibgddnkaa
open Go.RowKit Ad

def pathOf (a : Adr) (n : Nat) : List Nat := (List.range n).map (bit a)
theorem pathOf_succ (a : Adr) (n : Nat) : pathOf a (n + 1) = pathOf a n ++ [bit a n] := by simp [pathOf, List.range_succ]
theorem pathOf_length (a : Adr) (n : Nat) : (pathOf a n).length = n := by simp [pathOf]
def vpath (v : Vrp) : List Nat := pathOf v.p.addr v.p.len.toNat
def here (L : List Vrp) (κ : Bool) (π : List Nat) : List Vrp := L.filter fun v => decide (v.p.v6 = κ) && decide (vpath v = π)
def ptr (o : Option Nat) : Value := .pointer (o.map fun b => ⟨b, 0, none⟩)
def ins (L : List Vrp) (v : Vrp) : List Vrp := if v ∈ L then L else L ++ [v]

theorem mem_here {L : List Vrp} {κ : Bool} {π : List Nat} {v : Vrp} : v ∈ here L κ π ↔ v ∈ L ∧ v.p.v6 = κ ∧ vpath v = π := by simp [here]
theorem here_snoc (L : List Vrp) (v : Vrp) (κ : Bool) (π : List Nat) : here (L ++ [v]) κ π = if v.p.v6 = κ ∧ vpath v = π then here L κ π ++ [v] else here L κ π := by
  unfold here
  rw [List.filter_append]
  by_cases h : v.p.v6 = κ ∧ vpath v = π
  · rw [if_pos h]; simp [h]
  · rw [if_neg h]
    have : (decide (v.p.v6 = κ) && decide (vpath v = π)) = false := by
      rw [Bool.and_eq_false_iff, decide_eq_false_iff_not, decide_eq_false_iff_not]
      by_cases h1 : v.p.v6 = κ
      · exact .inr fun h2 => h ⟨h1, h2⟩
      · exact .inl h1
    simp [this]

structure TB (w : World) (base bt : Nat) (β : Bool → List Nat → Option Nat) (σ : Bool → List Nat → Value) (L : List Vrp) : Prop where
  top : w.heap[bt]? = some (.cells #[ptr (β false []), ptr (β true []), .int .i64 L.length] 69 (0, 0))
  lo : base ≤ bt
  root : ∀ κ, ∃ b, β κ [] = some b
  node : ∀ κ π b, β κ π = some b → base ≤ b ∧ w.heap[b]? = some (.cells #[σ κ π, ptr (β κ (π ++ [0])), ptr (β κ (π ++ [1]))] 67 (0, 0)) ∧ OwnV w base (σ κ π) (here L κ π)
  far : ∀ κ π κ' π' b, β κ π = some b → β κ' π' = some b → κ = κ' ∧ π = π'
  rows : ∀ κ π κ' π' g, β κ π ≠ none → β κ' π' ≠ none → (σ κ π).ownBlock = some g → (σ κ' π').ownBlock = some g → κ = κ' ∧ π = π'
  gone : ∀ κ π, β κ π = none → here L κ π = [] ∧ ∀ x, β κ (π ++ [x]) = none

/-- Which rows are its own. -/
def RowOf (β : Bool → List Nat → Option Nat) (σ : Bool → List Nat → Value) (g : Nat) : Prop := ∃ κ π, β κ π ≠ none ∧ (σ κ π).ownBlock = some g
def TrieIs (w : World) (base bt : Nat) (L : List Vrp) : Prop := ∃ β σ, TB w base bt β σ L

section
variable {w w' : World} {base bt : Nat} {β : Bool → List Nat → Option Nat} {σ : Bool → List Nat → Value} {L : List Vrp} {m : Nat → Prop}
theorem heap_lt {b : Nat} {o : Obj} (h : w.heap[b]? = some o) : b < w.heap.size := (Array.getElem?_eq_some_iff.1 h).1
theorem TB.keep (h : TB w base bt β σ L) (hf : F m w w') (hm : ∀ i, base ≤ i → i < w.heap.size → ¬ m i) : TB w' base bt β σ L where
  top := hf.blk h.top (hm _ h.lo (heap_lt h.top))
  lo := h.lo
  root := h.root
  node κ π b hb := by
    obtain ⟨h1, h2, h3⟩ := h.node κ π b hb
    exact ⟨h1, hf.blk h2 (hm _ h1 (heap_lt h2)), h3.keep hf fun g hg => hm g (h3.block hg).1 (h3.block hg).2⟩
  far := h.far
  rows := h.rows
  gone := h.gone
theorem TB.row_lt (h : TB w base bt β σ L) {g : Nat} (hg : RowOf β σ g) : base ≤ g ∧ g < w.heap.size := by
  obtain ⟨κ, π, h1, h2⟩ := hg
  cases hb : β κ π with
  | none => exact absurd hb h1
  | some b => exact (h.node _ _ _ hb).2.2.block h2
theorem TrieIs.grow (h : TrieIs w base bt L) (hg : G w w') : TrieIs w' base bt L := by
  obtain ⟨β, σ, h⟩ := h
  exact ⟨β, σ, h.keep (hg.f fun _ => False) fun _ _ _ hh => hh⟩

/-- A new node below one that stands. -/
theorem TB.sprout (h : TB w base bt β σ L) {κ : Bool} {π : List Nat} {b x nb : Nat} (hb : β κ π = some b) (hx : x < 2) (hn : β κ (π ++ [x]) = none) (hbase : base ≤ w.heap.size) (hnb : w.heap.size ≤ nb)
    (hf : F (fun i => i = b) w w') (h1 : w'.heap[nb]? = some (.cells #[.slice none 0 0, .pointer none, .pointer none] 67 (0, 0)))
    (h2 : w'.heap[b]? = some (.cells ((#[σ κ π, ptr (β κ (π ++ [0])), ptr (β κ (π ++ [1]))] : Array Value).setIfInBounds (1 + x) (ptr (some nb))) 67 (0, 0))) :
    ∃ β' σ', TB w' base bt β' σ' L ∧ β' κ (π ++ [x]) = some nb ∧ ∀ g, RowOf β' σ' g → RowOf β σ g := by
  obtain ⟨hb1, hb2, hb3⟩ := h.node κ π b hb
  have hbnb : b ≠ nb := by have := heap_lt hb2; omega
  refine ⟨fun κ' π' => if κ' = κ ∧ π' = π ++ [x] then some nb else β κ' π', fun κ' π' => if κ' = κ ∧ π' = π ++ [x] then .slice none 0 0 else σ κ' π', ⟨?_, h.lo, ?_, ?_, ?_, ?_, ?_⟩, by simp, ?_⟩
  · have e1 : ¬ ((false = κ) ∧ ([] : List Nat) = π ++ [x]) := by simp
    have e2 : ¬ ((true = κ) ∧ ([] : List Nat) = π ++ [x]) := by simp
    simp only [if_neg e1, if_neg e2]
    refine hf.blk h.top ?_
    rintro rfl
    have := h.top.symm.trans hb2
    simp at this
  · intro κ'
    have e1 : ¬ (κ' = κ ∧ ([] : List Nat) = π ++ [x]) := by simp
    simp only [if_neg e1]
    exact h.root κ'
  · intro κ' π' b' hb'
    by_cases e : κ' = κ ∧ π' = π ++ [x]
    · rw [if_pos e] at hb'
      injection hb' with hb'
      subst hb'
      obtain ⟨rfl, rfl⟩ := e
      obtain ⟨g1, g2⟩ := h.gone _ _ hn
      have hne : ∀ y : Nat, ¬ (π ++ [x] ++ [y] = π ++ [x]) := fun y e => by have := congrArg List.length e; simp at this
      simp only [true_and, if_true, if_neg (hne _), g2]
      refine ⟨by omega, h1, ?_⟩
      rw [g1]
      exact World.ownsRow_nil ..
    · simp only [if_neg e] at hb' ⊢
      obtain ⟨k1, k2, k3⟩ := h.node _ _ _ hb'
      have hown : OwnV w' base (σ κ' π') (here L κ' π') := k3.keep hf fun g hg hgb => by
        obtain ⟨cur, hc⟩ := k3.ty hg
        subst hgb
        rw [hb2] at hc
        simp at hc
      by_cases e2 : κ' = κ ∧ π' = π
      · obtain ⟨rfl, rfl⟩ := e2
        rw [hb] at hb'
        injection hb' with hb'
        subst hb'
        refine ⟨k1, ?_, hown⟩
        rw [h2]
        have : x = 0 ∨ x = 1 := by omega
        rcases this with rfl | rfl <;> simp
      · refine ⟨k1, ?_, hown⟩
        have hne : ∀ y : Nat, ¬ (κ' = κ ∧ π' ++ [y] = π ++ [x]) := fun y hy => e2 ⟨hy.1, by have := congrArg List.dropLast hy.2; simpa using this⟩
        simp only [if_neg (hne _)]
        refine hf.blk k2 ?_
        rintro rfl
        exact e2 (h.far _ _ _ _ _ hb' hb)
  · intro κ1 π1 κ2 π2 b' p1 p2
    have hlt : ∀ κ3 π3, β κ3 π3 = some b' → b' ≠ nb := fun κ3 π3 hh => by have := heap_lt (h.node _ _ _ hh).2.1; omega
    by_cases e1 : κ1 = κ ∧ π1 = π ++ [x] <;> by_cases e2 : κ2 = κ ∧ π2 = π ++ [x]
    · exact ⟨e1.1.trans e2.1.symm, e1.2.trans e2.2.symm⟩
    · rw [if_pos e1] at p1; rw [if_neg e2] at p2
      injection p1 with p1
      exact absurd p1.symm (hlt _ _ p2)
    · rw [if_neg e1] at p1; rw [if_pos e2] at p2
      injection p2 with p2
      exact absurd p2.symm (hlt _ _ p1)
    · rw [if_neg e1] at p1; rw [if_neg e2] at p2
      exact h.far _ _ _ _ _ p1 p2
  · intro κ1 π1 κ2 π2 g q1 q2 p1 p2
    by_cases e1 : κ1 = κ ∧ π1 = π ++ [x]
    · simp [e1, Value.ownBlock] at p1
    · by_cases e2 : κ2 = κ ∧ π2 = π ++ [x]
      · simp [e2, Value.ownBlock] at p2
      · simp only [if_neg e1] at p1 q1
        simp only [if_neg e2] at p2 q2
        exact h.rows _ _ _ _ _ q1 q2 p1 p2
  · intro κ' π' hn'
    by_cases e : κ' = κ ∧ π' = π ++ [x]
    · rw [if_pos e] at hn'; cases hn'
    · simp only [if_neg e] at hn'
      obtain ⟨g1, g2⟩ := h.gone _ _ hn'
      refine ⟨g1, fun y => ?_⟩
      have hne : ¬ (κ' = κ ∧ π' ++ [y] = π ++ [x]) := fun hy => by
        have : π' = π := by have := congrArg List.dropLast hy.2; simpa using this
        rw [hy.1, this, hb] at hn'
        cases hn'
      simp only [if_neg hne]
      exact g2 y
  · rintro g ⟨κ1, π1, q1, p1⟩
    by_cases e1 : κ1 = κ ∧ π1 = π ++ [x]
    · simp [e1, Value.ownBlock] at p1
    · simp only [if_neg e1] at p1 q1
      exact ⟨κ1, π1, q1, p1⟩

/-- One more at a node. -/
theorem TB.more (h : TB w base bt β σ L) {v : Vrp} {b : Nat} {nv : Value} (hb : β v.p.v6 (vpath v) = some b) (hv : v ∉ L) 
    (hf : F (fun i => i = b ∨ i = bt ∨ (σ v.p.v6 (vpath v)).ownBlock = some i) w w')
    (h1 : w'.heap[b]? = some (.cells #[nv, ptr (β v.p.v6 (vpath v ++ [0])), ptr (β v.p.v6 (vpath v ++ [1]))] 67 (0, 0)))
    (h2 : w'.heap[bt]? = some (.cells #[ptr (β false []), ptr (β true []), .int .i64 ((L.length + 1 : Nat) : Int)] 69 (0, 0)))
    (h3 : OwnV w' base nv (here L v.p.v6 (vpath v) ++ [v])) (h4 : nv.ownBlock = (σ v.p.v6 (vpath v)).ownBlock ∨ ∃ g, nv.ownBlock = some g ∧ w.heap.size ≤ g) : TrieIs w' base bt (L ++ [v]) := by
  obtain ⟨hb1, hb2, hb3⟩ := h.node _ _ _ hb
  refine ⟨β, fun κ π => if κ = v.p.v6 ∧ π = vpath v then nv else σ κ π, ⟨by rw [List.length_append]; exact h2, h.lo, h.root, ?_, h.far, ?_, ?_⟩⟩
  · intro κ π b' hb'
    rw [here_snoc]
    by_cases e : κ = v.p.v6 ∧ π = vpath v
    · obtain ⟨rfl, rfl⟩ := e
      rw [hb] at hb'
      injection hb' with hb'
      subst hb'
      simp only [and_self, if_true]
      exact ⟨hb1, h1, h3⟩
    · have e' : ¬ (v.p.v6 = κ ∧ vpath v = π) := fun hh => e ⟨hh.1.symm, hh.2.symm⟩
      simp only [if_neg e, if_neg e']
      obtain ⟨k1, k2, k3⟩ := h.node _ _ _ hb'
      refine ⟨k1, hf.blk k2 ?_, k3.keep hf ?_⟩
      · rintro (rfl | rfl | hh)
        · exact e (h.far _ _ _ _ _ hb' hb)
        · have := h.top.symm.trans k2; simp at this
        · obtain ⟨cur, hc⟩ := hb3.ty hh
          rw [k2] at hc; simp at hc
      · intro g hg
        obtain ⟨cur, hc⟩ := k3.ty hg
        rintro (rfl | rfl | hh)
        · rw [hb2] at hc; simp at hc
        · rw [h.top] at hc; simp at hc
        · exact e (h.rows _ _ _ _ g (by rw [hb']; simp) (by rw [hb]; simp) hg hh)
  · intro κ1 π1 κ2 π2 g q1 q2 p1 p2
    have key : ∀ κ3 π3, β κ3 π3 ≠ none → ¬ (κ3 = v.p.v6 ∧ π3 = vpath v) → (σ κ3 π3).ownBlock = some g → nv.ownBlock = some g → False := by
      intro κ3 π3 hq hne hp hnv
      rcases h4 with h4 | ⟨g', h4, hg'⟩
      · exact hne (h.rows _ _ _ _ g hq (by rw [hb]; simp) hp (h4 ▸ hnv))
      · rw [h4] at hnv
        injection hnv with hnv
        subst hnv
        cases hq' : β κ3 π3 with
        | none => exact hq hq'
        | some b3 =>
          have := ((h.node _ _ _ hq').2.2.block hp).2
          omega
    by_cases e1 : κ1 = v.p.v6 ∧ π1 = vpath v <;> by_cases e2 : κ2 = v.p.v6 ∧ π2 = vpath v
    · exact ⟨e1.1.trans e2.1.symm, e1.2.trans e2.2.symm⟩
    · simp only [if_pos e1] at p1; simp only [if_neg e2] at p2
      exact (key _ _ q2 e2 p2 p1).elim
    · simp only [if_neg e1] at p1; simp only [if_pos e2] at p2
      exact (key _ _ q1 e1 p1 p2).elim
    · simp only [if_neg e1] at p1; simp only [if_neg e2] at p2
      exact h.rows _ _ _ _ _ q1 q2 p1 p2
  · intro κ π hn
    obtain ⟨g1, g2⟩ := h.gone _ _ hn
    refine ⟨?_, g2⟩
    rw [here_snoc, if_neg, g1]
    rintro ⟨rfl, rfl⟩
    rw [hb] at hn; cases hn

theorem F.alloc (m : Nat → Prop) (w : World) (o : Obj) : F m w (w.alloc o) := ((G.refl w).alloc o).f m
theorem F.setc {m : Nat → Prop} (w : World) {p : Addr} (h : m p.block) (u : Value) : F m w (w.setCell p u) :=
  have hB : Below p.block w (w.setCell p u) := (Below.refl _ _).setCell (Nat.le_refl _) u
  ⟨hB.os, hB.tape, hB.output, hB.size, Nat.le_refl _, fun b _ hn => heap_setCell_other _ _ _ _ (fun e => hn (e ▸ h))⟩
theorem TB.sprout_set (h : TB w base bt β σ L) {κ : Bool} {π : List Nat} {q x : Nat} (hb : β κ π = some q) (hx : x < 2) (hn : β κ (π ++ [x]) = none) (hbase : base ≤ w.heap.size) :
    (∃ β' σ', TB ((w.alloc (.cells #[.slice none 0 0, .pointer none, .pointer none] 67)).setCell ⟨q, 1 + x, none⟩ (.pointer (some ⟨w.heap.size, 0, none⟩))) base bt β' σ' L ∧ β' κ (π ++ [x]) = some w.heap.size ∧ ∀ g, RowOf β' σ' g → RowOf β σ g) ∧
    F (fun i => i = q) w ((w.alloc (.cells #[.slice none 0 0, .pointer none, .pointer none] 67)).setCell ⟨q, 1 + x, none⟩ (.pointer (some ⟨w.heap.size, 0, none⟩))) := by
  obtain ⟨hb1, hb2, hb3⟩ := h.node κ π q hb
  have h2 := (heap_alloc_old w (.cells #[.slice none 0 0, .pointer none, .pointer none] 67) (heap_lt hb2)).trans hb2
  have h3 := heap_alloc_new w (.cells #[.slice none 0 0, .pointer none, .pointer none] 67)
  have hne : w.heap.size ≠ q := by have := heap_lt hb2; omega
  have hf : F (fun i => i = q) w ((w.alloc (.cells #[.slice none 0 0, .pointer none, .pointer none] 67)).setCell ⟨q, 1 + x, none⟩ (.pointer (some ⟨w.heap.size, 0, none⟩))) :=
    (F.alloc (fun i => i = q) w (.cells #[.slice none 0 0, .pointer none, .pointer none] 67)).trans (F.setc (m := fun i => i = q) _ (p := ⟨q, 1 + x, none⟩) rfl _) (fun _ hh => .inl hh)
  exact ⟨h.sprout hb hx hn hbase (Nat.le_refl _) hf (blk_far h3 (p := ⟨q, 1 + x, none⟩) hne _) (blk_set h2 (1 + x) _), hf⟩
end
end Go.Proofs.Ytedgbmibgddnkaa
