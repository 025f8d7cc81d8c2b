/- What a way through the trie meets, in plain terms. -/
import Derived.Test.YtedgbmibgddnkaaP
set_option linter.unusedSimpArgs false
set_option linter.unusedVariables false
namespace Go.Proofs.Ytedgbmibgddnkaa
open Go.RowKit Ad
def runTo {α : Type} (go : α → Vrp → Bool) (nxt : α → Vrp → α) : α → List Vrp → α
  | acc, [] => acc
  | acc, x :: l => if go acc x then runTo go nxt (nxt acc x) l else nxt acc x
/-- From the k-th node on, as far as the n-th. -/
def restL (L : List Vrp) (κ : Bool) (a : Adr) (n k : Nat) : List Vrp := (List.range' k (n + 1 - k)).flatMap fun i => here L κ (pathOf a i)
def wayL (L : List Vrp) (p : Pfx) : List Vrp := if p.right then restL L p.v6 p.addr p.len.toNat 0 else []
theorem restL_end (L : List Vrp) (κ : Bool) (a : Adr) (n : Nat) : restL L κ a n (n + 1) = [] := by simp [restL]
theorem restL_step (L : List Vrp) (κ : Bool) (a : Adr) (n k : Nat) (h : k ≤ n) : restL L κ a n k = here L κ (pathOf a k) ++ restL L κ a n (k + 1) := by
  unfold restL
  rw [show n + 1 - k = (n + 1 - (k + 1)) + 1 by omega, List.range'_succ, List.flatMap_cons]
theorem gone_on {w : World} {base bt : Nat} {β : Bool → List Nat → Option Nat} {σ : Bool → List Nat → Value} {L : List Vrp} (h : TB w base bt β σ L) (κ : Bool) (a : Adr) (k : Nat) (hn : β κ (pathOf a k) = none) :
    ∀ j, β κ (pathOf a (k + j)) = none
  | 0 => hn
  | j + 1 => by
    rw [← Nat.add_assoc, pathOf_succ]
    exact (h.gone _ _ (gone_on h κ a k hn j)).2 _
theorem restL_gone {w : World} {base bt : Nat} {β : Bool → List Nat → Option Nat} {σ : Bool → List Nat → Value} {L : List Vrp} (h : TB w base bt β σ L) (κ : Bool) (a : Adr) (n k : Nat) (hn : β κ (pathOf a k) = none) : restL L κ a n k = [] := by
  unfold restL
  rw [List.flatMap_eq_nil_iff]
  intro i hi
  have := (List.mem_range'_1.1 hi).1
  obtain ⟨j, rfl⟩ := Nat.exists_eq_add_of_le this
  exact (h.gone _ _ (gone_on h κ a k hn j)).1
theorem mem_restL {L : List Vrp} {κ : Bool} {a : Adr} {n : Nat} {v : Vrp} : v ∈ restL L κ a n 0 ↔ v ∈ L ∧ v.p.v6 = κ ∧ ∃ i, i ≤ n ∧ vpath v = pathOf a i := by
  unfold restL
  rw [List.mem_flatMap]
  constructor
  · rintro ⟨i, hi, hm⟩
    have h2 := (List.mem_range'_1.1 hi).2
    obtain ⟨h3, h4, h5⟩ := mem_here.1 hm
    exact ⟨h3, h4, i, by omega, h5⟩
  · rintro ⟨h3, h4, i, hi, h5⟩
    exact ⟨i, List.mem_range'_1.2 ⟨by omega, by omega⟩, mem_here.2 ⟨h3, h4, h5⟩⟩
/-- Those that may be, met on the way, are those that cover. -/
theorem mem_wayL {L : List Vrp} (hL : ∀ v ∈ L, one v = true) {p : Pfx} {v : Vrp} : v ∈ wayL L p ↔ v ∈ L ∧ covers v.p p = true := by
  unfold wayL
  by_cases hp : p.right = true
  · rw [if_pos hp, mem_restL]
    constructor
    · rintro ⟨h1, h2, i, hi, h3⟩
      refine ⟨h1, ?_⟩
      have ho := hL v h1
      unfold one at ho
      simp only [Bool.and_eq_true] at ho
      have hr := (right_iff v.p).1 ho.1.1
      have hrp := (right_iff p).1 hp
      have hlen : v.p.len.toNat = i := by
        have := congrArg List.length h3
        simpa [vpath, pathOf_length] using this
      refine (covers_iff _ _).2 ⟨ho.1.1, hp, h2, by omega, fun j hj => ?_⟩
      have hj' : j < i := by omega
      have e := congrArg (fun l => l[j]?) h3
      simp only [vpath, pathOf, List.getElem?_map, List.getElem?_range (show j < v.p.len.toNat by omega), List.getElem?_range hj', Option.map_some, Option.some.injEq] at e
      exact e
    · rintro ⟨h1, h2⟩
      obtain ⟨h3, h4, h5, h6, h7⟩ := (covers_iff _ _).1 h2
      have hr := (right_iff v.p).1 h3
      refine ⟨h1, h5, v.p.len.toNat, by omega, ?_⟩
      unfold vpath pathOf
      apply List.map_congr_left
      intro j hj
      have := List.mem_range.1 hj
      exact h7 j (by omega)
  · rw [if_neg hp]
    constructor
    · intro h; cases h
    · rintro ⟨_, h⟩
      exact absurd ((covers_iff _ _).1 h).2.1 hp
theorem here_nodup {L : List Vrp} (h : L.Nodup) (κ : Bool) (π : List Nat) : (here L κ π).Nodup := h.sublist List.filter_sublist
theorem restL_nodup {L : List Vrp} (h : L.Nodup) (κ : Bool) (a : Adr) (n : Nat) : ∀ (j k : Nat), n + 1 - k = j → (restL L κ a n k).Nodup
  | 0, k, e => by unfold restL; rw [e]; simp
  | j + 1, k, e => by
    rw [restL_step L κ a n k (by omega), List.nodup_append]
    refine ⟨here_nodup h _ _, restL_nodup h κ a n j (k + 1) (by omega), ?_⟩
    intro x hx y hy hxy
    subst hxy
    unfold restL at hy
    obtain ⟨i, hi, hm⟩ := List.mem_flatMap.1 hy
    have h1 := (mem_here.1 hx).2.2
    have h2 := (mem_here.1 hm).2.2
    have := congrArg List.length (h1.symm.trans h2)
    simp only [pathOf_length] at this
    have := (List.mem_range'_1.1 hi).1
    omega
theorem wayL_nodup {L : List Vrp} (h : L.Nodup) (p : Pfx) : (wayL L p).Nodup := by
  unfold wayL
  split
  · exact restL_nodup h _ _ _ _ _ rfl
  · simp
/-- What is yet to come: it ends so; what it may cost. -/
def Rn {α : Type} (go : α → Vrp → Bool) (nxt : α → Vrp → α) (B : α → List Vrp → Prop) (fin : α) (acc : α) (X : List Vrp) : Prop := runTo go nxt acc X = fin ∧ B acc X
theorem Rn.nil {α : Type} {go : α → Vrp → Bool} {nxt : α → Vrp → α} {B : α → List Vrp → Prop} {fin acc : α} (h : Rn go nxt B fin acc []) : acc = fin := h.1
theorem Rn.stop {α : Type} {go : α → Vrp → Bool} {nxt : α → Vrp → α} {B : α → List Vrp → Prop} {fin acc : α} {x : Vrp} {l : List Vrp} (h : Rn go nxt B fin acc (x :: l)) (hg : go acc x = false) : nxt acc x = fin := by
  have := h.1
  unfold runTo at this
  rwa [if_neg (by simp [hg])] at this
theorem Rn.go {α : Type} {go : α → Vrp → Bool} {nxt : α → Vrp → α} {B : α → List Vrp → Prop} {fin acc : α} {x : Vrp} {l : List Vrp} (hB : ∀ acc x l, B acc (x :: l) → go acc x = true → B (nxt acc x) l) (h : Rn go nxt B fin acc (x :: l)) (hg : go acc x = true) : Rn go nxt B fin (nxt acc x) l := by
  have h1 := h.1
  unfold runTo at h1
  rw [if_pos hg] at h1
  exact ⟨h1, hB _ _ _ h.2 hg⟩
end Go.Proofs.Ytedgbmibgddnkaa
