/- Slices of what an AS may tell: what lies in them, those that the call makes itself. -/
import Derived.Test.YtedgbmibgddnkaaL2
import Derived.Test.YtedgbmibgddnkaaA6
import Derived.Laws.AppendOwn
import Derived.Laws.OwnMore
set_option linter.unusedSimpArgs false
set_option linter.unusedVariables false
namespace Go.Proofs.Ytedgbmibgddnkaa
open Go.RowKit Ad

theorem At.sub {w : World} {a : Addr} {D E : Array Value} (h : At w a D) (o n : Nat) (hE : D.extract o n = E) : At w (a.add o) E := fun j v hv => by
  subst hE
  rw [Array.getElem?_extract] at hv
  rw [add_add']
  split at hv
  · exact h _ _ hv
  · cases hv
theorem At.one {w : World} {a : Addr} {D : Array Value} {v : Value} (h : At w a D) (j : Nat) (hv : D[j]? = some v) : w.cell? (a.add j) = some v := h j v hv

section
variable {α : Type} {enc : α → List Value} {k : Nat}
/-- A slice reads as a list of structs of k cells. -/
def Rd (enc : α → List Value) (k : Nat) (w : World) (A : Option Addr) (L : List α) : Prop := ∀ j x, L[j]? = some x → ∃ ad, A = some ad ∧ At w (ad.add (j * k)) (enc x).toArray
theorem Rd.nil {w : World} {A : Option Addr} : Rd enc k w A [] := fun j x h => by simp at h
theorem Rd.grow {w w' : World} {A : Option Addr} {L : List α} (h : Rd enc k w A L) (hg : G w w') : Rd enc k w' A L := fun j x hx => by
  obtain ⟨ad, e, ha⟩ := h j x hx
  exact ⟨ad, e, ha.grow hg⟩
theorem Rd.get [Inhabited α] {w : World} {A : Option Addr} {L : List α} (h : Rd enc k w A L) {i : Nat} (hi : i < L.length) : ∃ ad, A = some ad ∧ At w (ad.add (i * k)) (enc (L.getD i default)).toArray :=
  h i _ (by rw [List.getD_eq_getElem?_getD, List.getElem?_eq_getElem hi]; rfl)
/-- A row of the call's own. -/
def Own (enc : α → List Value) (k : Nat) (T : TypeId) (w : World) (base : Nat) (v : Value) (L : List α) : Prop := w.ownsRow base T k v L.length (L.flatMap enc)

theorem flat_length (hk : ∀ x, (enc x).length = k) : ∀ (L : List α), (L.flatMap enc).length = L.length * k
  | [] => by simp
  | x :: L => by simp [hk, flat_length hk L, Nat.add_mul, Nat.add_comm]
theorem flat_get (hk : ∀ x, (enc x).length = k) : ∀ (L : List α) (j : Nat) (x : α) (i : Nat), L[j]? = some x → i < k → (L.flatMap enc)[j * k + i]? = (enc x)[i]?
  | [], j, x, i, h, _ => by simp at h
  | y :: L, 0, x, i, h, hi => by
    simp at h; subst h
    simp [List.getElem?_append_left, hk, hi]
  | y :: L, j + 1, x, i, h, hi => by
    rw [List.flatMap_cons, List.getElem?_append_right (by rw [hk, Nat.add_mul]; omega), hk]
    rw [show (j + 1) * k + i - k = j * k + i by rw [Nat.add_mul]; omega]
    exact flat_get hk L j x i (by simpa using h) hi

theorem Own.nil (w : World) (base : Nat) (T : TypeId) : Own enc k T w base (.slice none 0 0) ([] : List α) := World.ownsRow_nil w base T k
theorem Own.form {T : TypeId} {w : World} {base : Nat} {v : Value} {L : List α} (h : Own enc k T w base v L) : ∃ A c, v = .slice A L.length c := by
  rcases h.2 with ⟨rfl, h0⟩ | ⟨g, cap, cur, rfl, _⟩
  · exact ⟨none, 0, by rw [h0]⟩
  · exact ⟨_, cap, rfl⟩
theorem Own.len {T : TypeId} {w : World} {base : Nat} {v : Value} {L : List α} (h : Own enc k T w base v L) : L.length ≤ maxLen := by
  rcases h.2 with ⟨_, h0⟩ | ⟨g, cap, cur, _, _, _, h1, h2, _⟩
  · omega
  · omega
theorem Own.rd (hk : ∀ x, (enc x).length = k) {T : TypeId} {w : World} {base : Nat} {A : Option Addr} {n c : Nat} {L : List α} (h : Own enc k T w base (.slice A n c) L) : Rd enc k w A L := fun j x hx => by
  have hj : j < L.length := (List.getElem?_eq_some_iff.1 hx).1
  rcases h.2 with ⟨_, h0⟩ | ⟨g, cap, cur, hv, _, hh, hn, _, hs, ht⟩
  · omega
  · injection hv with hA _ _
    subst hA
    refine ⟨_, rfl, fun i v hi => ?_⟩
    have hik : i < k := by
      have : i < (enc x).length := by simpa using (Array.getElem?_eq_some_iff.1 hi).1
      rwa [hk] at this
    have hc := h.cells (g := g) rfl (j * k + i) v (by rw [flat_get hk L j x i hx hik]; simpa using hi)
    rw [add_add']
    exact hc
theorem Own.grow {T : TypeId} {w w' : World} {base : Nat} {v : Value} {L : List α} (h : Own enc k T w base v L) (hg : G w w') : Own enc k T w' base v L :=
  World.ownsRow.kept (row := none) h ⟨hg.below.os, hg.below.tape, hg.below.output, hg.below.size, fun i hi _ => hg.below.block i hi⟩ (by cases v.ownBlock <;> simp)
theorem Own.block {T : TypeId} {w : World} {base : Nat} {v : Value} {L : List α} (h : Own enc k T w base v L) {g : Nat} (hg : v.ownBlock = some g) : base ≤ g ∧ g < w.heap.size := World.ownsRow.lt h g hg
end

theorem flatV_one (L : List Vrp) : ∀ u ∈ L.flatMap encV, u.oneCell' = true := by
  intro u hu
  obtain ⟨x, _, hx⟩ := List.mem_flatMap.1 hu
  have := arrV_one x
  exact (Array.all_eq_true_iff_forall_mem.1 this) u (by simpa [arrV] using hx)

abbrev RdV := Rd encV 20
abbrev OwnV := Own encV 20 39

theorem info39' : ∃ i, Try.prog.info? 39 = some i ∧ i.zero = some (.agg (arrV default)) ∧ i.size = 20 ∧ i.bytes = 48 := by
  have h : (Try.prog.info? 39).map (fun i => (i.zero, i.size, i.bytes)) = some (some (.agg (arrV default)), 20, 48) := by kernel_rfl
  cases hi : Try.prog.info? 39 with
  | none => rw [hi] at h; cases h
  | some i =>
    rw [hi] at h
    simp only [Option.map_some, Option.some.injEq, Prod.mk.injEq] at h
    exact ⟨i, rfl, h.1, h.2.1, h.2.2⟩

/-- What an append may leave: new blocks, and the row that it wrote. -/
theorem wl_appendV {ops : Array Oper} {rest : List Oper} {o : Oper} {a : Act} {w : World} {Q : Exit → Act → World → Prop} (s x : Operand) (base : Nat) (v : Value) (L M : List Vrp) (ad : Addr) (c : Nat)
    (hown : OwnV w base v L) (hM : At w ad (M.flatMap encV).toArray) (hbase : base ≤ w.heap.size) (hbytes : (L.length + M.length) * 48 ≤ 140737488355328)
    (hgd : o.guard = none) (ho : o.op = .call { callee := .builtin .append, args := #[s, x], argTypes := #[22, 22] }) (hs : a.eval s = v) (hx : a.eval x = .slice (some ad) M.length c)
    (h : ∀ v' w', OwnV w' base v' (L ++ M) → w.grownBy w' v.ownBlock → wpList Try.prog ops Q rest (a.put o.dst v') w') : wpList Try.prog ops Q (o :: rest) a w := by
  obtain ⟨i, hi, hz, hsz, hby⟩ := info39'
  refine wpList_append_own w hgd s x 22 ho base 39 i (.agg (arrV default)) 20 48 Try.underlying22 hi hz hsz hby (arrV_size _) (by decide) v L.length (L.flatMap encV) hs hown ad M.length c (M.flatMap encV) hx
    (flat_length encV_length M) (fun j u hu => hM j u (by simpa using hu)) (flatV_one M) (by unfold maxLen; omega) hbytes hbase ?_
  intro v' w' h1 h2 _
  refine h v' w' ?_ h2
  unfold OwnV Own
  rw [List.length_append, List.flatMap_append]
  exact h1
end Go.Proofs.Ytedgbmibgddnkaa
