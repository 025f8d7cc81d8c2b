/- Frames: which blocks a call may have written; appending onto a row of the call's own. -/
import Derived.Test.YtedgbmibgddnkaaW
import Derived.Test.YtedgbmibgddnkaaT
set_option linter.unusedSimpArgs false
set_option linter.unusedVariables false
namespace Go.Proofs.Ytedgbmibgddnkaa
open Go.RowKit Ad

structure F (m : Nat → Prop) (w w' : World) : Prop where
  os : w'.os = w.os
  tape : w'.tape = w.tape
  output : w'.output = w.output
  size : w.heap.size ≤ w'.heap.size
  drawn : w.drawn ≤ w'.drawn
  block : ∀ b, b < w.heap.size → ¬ m b → w'.heap[b]? = w.heap[b]?

section
variable {m m' : Nat → Prop} {a b c w w' : World}
theorem F.refl (m : Nat → Prop) (w : World) : F m w w := ⟨rfl, rfl, rfl, Nat.le_refl _, Nat.le_refl _, fun _ _ _ => rfl⟩
theorem F.trans (h : F m a b) (k : F m' b c) (hm : ∀ i, m' i → m i ∨ a.heap.size ≤ i) : F m a c :=
  ⟨k.os.trans h.os, k.tape.trans h.tape, k.output.trans h.output, Nat.le_trans h.size k.size, Nat.le_trans h.drawn k.drawn, fun i hi hn =>
    (k.block i (Nat.lt_of_lt_of_le hi h.size) fun hh => (hm i hh).elim hn (fun _ => by omega)).trans (h.block i hi hn)⟩
theorem F.mono (h : F m a b) (hm : ∀ i, i < a.heap.size → m i → m' i) : F m' a b := ⟨h.os, h.tape, h.output, h.size, h.drawn, fun i hi hn => h.block i hi fun hh => hn (hm i hi hh)⟩
theorem G.f (h : G w w') (m : Nat → Prop) : F m w w' := ⟨h.below.os, h.below.tape, h.below.output, h.below.size, h.drawn, fun i hi _ => h.below.block i hi⟩
theorem F.g (h : F m w w') (hm : ∀ i, m i → w.heap.size ≤ i) : G w w' := ⟨⟨h.os, h.tape, h.output, h.size, fun i hi => h.block i hi fun hh => by have := hm i hh; omega⟩, h.drawn⟩
theorem F.gtrans (h : G a b) (k : F m b c) (hm : ∀ i, m i → a.heap.size ≤ i) : G a c :=
  (F.trans (h.f (fun _ => False)) k (fun i hi => .inr (hm i hi))).g (fun _ hi => hi.elim)
theorem F.blk (h : F m w w') {b : Nat} {o : Obj} (hb : w.heap[b]? = some o) (hn : ¬ m b) : w'.heap[b]? = some o := (h.block b (Array.getElem?_eq_some_iff.1 hb).1 hn).trans hb
theorem F.grown {row : Option Nat} (h : F (fun b => row = some b) w w') : w.grownBy w' row := ⟨h.os, h.tape, h.output, h.size, fun k hk hn => h.block k hk fun hh => hn hh.symm⟩
theorem F.below (h : F m w w') {base : Nat} (hm : ∀ i, m i → base ≤ i) (hb : base ≤ w.heap.size) : Below base w w' := ⟨h.os, h.tape, h.output, h.size, fun i hi => h.block i (by omega) fun hh => by have := hm i hh; omega⟩
theorem At.keep {ad : Addr} {D : Array Value} (h : At w ad D) (hD : 0 < D.size) (hf : F m w w') (hn : ¬ m ad.block) : At w' ad D := fun j v hv => by
  have hc := h j v hv
  have hb : (ad.add j).block = ad.block := by unfold Addr.add; split <;> rfl
  rw [← hc]
  exact World.cell?_of_block (by rw [hb]; refine hf.block _ ?_ hn; have := World.block_lt_of_cell? w (ad.add j) hc; rwa [hb] at this)
section
variable {α : Type} {enc : α → List Value} {k : Nat}
theorem Rd.keep {A : Option Addr} {L : List α} (hk : ∀ x, (enc x).length = k) (h0 : 0 < k) (h : Rd enc k w A L) (hf : F m w w') (hn : ∀ ad, A = some ad → ¬ m ad.block) : Rd enc k w' A L := fun j x hx => by
  obtain ⟨ad, e, ha⟩ := h j x hx
  refine ⟨ad, e, ha.keep (by simpa [hk] using h0) hf ?_⟩
  have hb : (ad.add (j * k)).block = ad.block := by unfold Addr.add; split <;> rfl
  rw [hb]
  exact hn ad e
theorem Own.keep {T : TypeId} {base : Nat} {v : Value} {L : List α} (h : Own enc k T w base v L) (hf : F m w w') (hn : ∀ g, v.ownBlock = some g → ¬ m g) : Own enc k T w' base v L := by
  refine ⟨h.1, ?_⟩
  rcases h.2 with hc | ⟨g, cap, cur, rfl, hb, hgg, rest⟩
  · exact .inl hc
  · exact .inr ⟨g, cap, cur, rfl, hb, hf.blk hgg (hn g rfl), rest⟩
theorem Own.at (hk : ∀ x, (enc x).length = k) {T : TypeId} {base : Nat} {v : Value} {L : List α} (h : Own enc k T w base v L) : ∃ A c, v = .slice A L.length c ∧ Rd enc k w A L ∧ (∀ ad, A = some ad → v.ownBlock = some ad.block) ∧ (A = none → L = []) := by
  obtain ⟨A, c, rfl⟩ := h.form
  refine ⟨A, c, rfl, h.rd hk, ?_, ?_⟩
  · rintro ad rfl; rfl
  · rintro rfl
    rcases h.2 with ⟨_, h0⟩ | ⟨g, cap, cur, hv, _⟩
    · exact List.eq_nil_of_length_eq_zero h0
    · cases hv
theorem Own.ty {T : TypeId} {base : Nat} {v : Value} {L : List α} (h : Own enc k T w base v L) {g : Nat} (hg : v.ownBlock = some g) : ∃ cur, w.heap[g]? = some (.cells cur T (0, 0)) := by
  rcases h.2 with ⟨rfl, _⟩ | ⟨g', cap, cur, rfl, _, hh, _⟩
  · simp [Value.ownBlock] at hg
  · simp [Value.ownBlock] at hg; subst hg; exact ⟨cur, hh⟩
theorem Own.base {T : TypeId} {base base' : Nat} {v : Value} {L : List α} (h : Own enc k T w base v L) (hb : base' ≤ base) : Own enc k T w base' v L := by
  refine ⟨h.1, ?_⟩
  rcases h.2 with hc | ⟨g, cap, cur, rfl, hbb, rest⟩
  · exact .inl hc
  · exact .inr ⟨g, cap, cur, rfl, Nat.le_trans hb hbb, rest⟩
end
end

/-- An append onto a row of the call's own. -/
theorem wp_app {α : Type} {enc : α → List Value} {k T TS byt : Nat} {o : Oper} {a : Act} {w : World} {K : Act → World → Prop} {Q : Exit → Act → World → Prop} (s x : Operand) (base : Nat) (v : Value) (L M : List α) (A : Option Addr) (c : Nat)
    (hk : ∀ x, (enc x).length = k) (hk0 : 0 < k) (h1 : ∀ x, ∀ u ∈ enc x, u.oneCell' = true) (ht : Try.prog.underlying TS = some (.slice T))
    (hinfo : ∃ i z, Try.prog.info? T = some i ∧ i.zero = some z ∧ i.size = k ∧ i.bytes = byt ∧ z.cells.size = k) (hby : 0 < byt)
    (hown : Own enc k T w base v L) (hM : Rd enc k w A M) (hbase : base ≤ w.heap.size) (hbytes : (L.length + M.length) * byt ≤ 140737488355328)
    (ho : o.op = .call { callee := .builtin .append, args := #[s, x], argTypes := #[TS, TS] }) (hs : a.eval s = v) (hx : a.eval x = .slice A M.length c)
    (h : ∀ v' w', Own enc k T w' base v' (L ++ M) → F (fun b => v.ownBlock = some b) w w' → (v'.ownBlock = v.ownBlock ∨ ∃ g, v'.ownBlock = some g ∧ w.heap.size ≤ g) → K (a.put o.dst v') w') : o.wp Try.prog a w K Q := by
  obtain ⟨i, z, hi, hz, hsz, hbyt, hzs⟩ := hinfo
  have hlen : L.length + M.length ≤ maxLen := by
    have : (L.length + M.length) * 1 ≤ (L.length + M.length) * byt := Nat.mul_le_mul_left _ hby
    simp only [maxLen]
    omega
  cases A with
  | none =>
    have hM0 : M = [] := by
      cases M with
      | nil => rfl
      | cons y M => obtain ⟨ad, e, _⟩ := hM 0 y rfl; cases e
    subst hM0
    have hr := append_nil_run (P := Try.prog) w base TS o.type T i k ht hi v L.length (L.flatMap enc) hown c (by simpa using hlen)
    unfold Oper.wp execOp
    simp only [ho, resolve, invoke, builtin, Sem.run_bind, Sem.run_pure, Result.andThen_ok, List.map_toArray, List.map_cons, List.map_nil, hs, hx, List.length_nil, hr]
    exact h v w (by rw [List.append_nil]; exact hown) (F.refl _ _) (.inl rfl)
  | some ad =>
    have hnews : ∀ j u, (M.flatMap enc)[j]? = some u → w.cell? (ad.add j) = some u := by
      intro j u hu
      have hj : j < M.length * k := by
        have := (List.getElem?_eq_some_iff.1 hu).1
        rwa [flat_length hk] at this
      have hjk : j / k < M.length := Nat.div_lt_of_lt_mul (by rw [Nat.mul_comm]; exact hj)
      obtain ⟨ad', e, ha⟩ := hM (j / k) M[j / k] (List.getElem?_eq_getElem hjk)
      cases e
      have hmod := Nat.mod_lt j hk0
      have hdm : j / k * k + j % k = j := by rw [Nat.mul_comm]; exact Nat.div_add_mod j k
      have := flat_get hk M (j / k) M[j / k] (j % k) (List.getElem?_eq_getElem hjk) hmod
      rw [hdm, hu] at this
      have := ha (j % k) u (by simpa using this.symm)
      rwa [add_add', hdm] at this
    have hone : ∀ u ∈ M.flatMap enc, u.oneCell' = true := by
      intro u hu
      obtain ⟨y, _, hy⟩ := List.mem_flatMap.1 hu
      exact h1 y u hy
    obtain ⟨v1, w1, hr1, hd, hg⟩ := append_own_drawn (P := Try.prog) w base TS o.type T i z k byt ht hi hz hsz hbyt v L.length (L.flatMap enc) hown ad M.length c (M.flatMap enc) (flat_length hk M) hnews hone hlen hbytes
    obtain ⟨v', w', hr, h2, h3, h4⟩ := run_append_own (P := Try.prog) w base TS o.type T i z k byt ht hi hz hsz hbyt hzs hk0 v L.length (L.flatMap enc) hown ad M.length c (M.flatMap enc) (flat_length hk M) hnews hone hlen hbytes hbase
    rw [hr1] at hr
    injection hr with e1 e2
    subst e1; subst e2
    unfold Oper.wp execOp
    simp only [ho, resolve, invoke, builtin, Sem.run_bind, Sem.run_pure, Result.andThen_ok, List.map_toArray, List.map_cons, List.map_nil, hs, hx, hr1]
    refine h v1 w1 ?_ ⟨h3.os, h3.tape, h3.output, h3.size, hd, fun b hb hn => h3.block b hb fun e => hn e.symm⟩ hg
    unfold Own
    rw [List.length_append, List.flatMap_append]
    exact h2

theorem info39'' : ∃ i z, Try.prog.info? 39 = some i ∧ i.zero = some z ∧ i.size = 20 ∧ i.bytes = 48 ∧ z.cells.size = 20 := by
  obtain ⟨i, h1, h2, h3, h4⟩ := info39'
  exact ⟨i, _, h1, h2, h3, h4, arrV_size _⟩
theorem encV_one (x : Vrp) : ∀ u ∈ encV x, u.oneCell' = true := fun u hu => (Array.all_eq_true_iff_forall_mem.1 (arrV_one x)) u (by simpa [arrV] using hu)
theorem wp_appV {o : Oper} {a : Act} {w : World} {K : Act → World → Prop} {Q : Exit → Act → World → Prop} (s x : Operand) (base : Nat) (v : Value) (L M : List Vrp) (A : Option Addr) (c : Nat)
    (hown : OwnV w base v L) (hM : RdV w A M) (hbase : base ≤ w.heap.size) (hbytes : (L.length + M.length) * 48 ≤ 140737488355328)
    (ho : o.op = .call { callee := .builtin .append, args := #[s, x], argTypes := #[22, 22] }) (hs : a.eval s = v) (hx : a.eval x = .slice A M.length c)
    (h : ∀ v' w', OwnV w' base v' (L ++ M) → F (fun b => v.ownBlock = some b) w w' → (v'.ownBlock = v.ownBlock ∨ ∃ g, v'.ownBlock = some g ∧ w.heap.size ≤ g) → K (a.put o.dst v') w') : o.wp Try.prog a w K Q :=
  wp_app s x base v L M A c encV_length (by omega) encV_one Try.underlying22 info39'' (by omega) hown hM hbase hbytes ho hs hx h
theorem wl_appV {ops : Array Oper} {rest : List Oper} {o : Oper} {a : Act} {w : World} {Q : Exit → Act → World → Prop} (s x : Operand) (base : Nat) (v : Value) (L M : List Vrp) (A : Option Addr) (c : Nat)
    (hown : OwnV w base v L) (hM : RdV w A M) (hbase : base ≤ w.heap.size) (hbytes : (L.length + M.length) * 48 ≤ 140737488355328)
    (hgd : o.guard = none) (ho : o.op = .call { callee := .builtin .append, args := #[s, x], argTypes := #[22, 22] }) (hs : a.eval s = v) (hx : a.eval x = .slice A M.length c)
    (h : ∀ v' w', OwnV w' base v' (L ++ M) → F (fun b => v.ownBlock = some b) w w' → (v'.ownBlock = v.ownBlock ∨ ∃ g, v'.ownBlock = some g ∧ w.heap.size ≤ g) → wpList Try.prog ops Q rest (a.put o.dst v') w') : wpList Try.prog ops Q (o :: rest) a w :=
  wpList_plain hgd fun _ hK => wp_appV s x base v L M A c hown hM hbase hbytes ho hs hx fun v' w' h1 h2 h3 => hK _ _ (h v' w' h1 h2 h3)
end Go.Proofs.Ytedgbmibgddnkaa
