import Derived.Test.YtedgbmibgddnkaaR
import Derived.Laws.StructEq
import Derived.Deep.Cut
namespace Go.Proofs.Ytedgbmibgddnkaa
open Go.RowKit Ad
set_option linter.unusedSimpArgs false
set_option linter.unusedVariables false
section
variable {P : Program} (w : World)
theorem arr_loop (c : Nat → Bool) (body : Nat → Option Bool × Unit → Sem (ForInStep (Option Bool × Unit))) : ∀ (L : List Nat), (∀ i ∈ L, (body i (none, ())).run P w = .ok (if c i then .yield (none, ()) else .done (some false, ())) w) →
    (forIn L (none, ()) body).run P w = .ok (if L.all c then none else some false, ()) w
  | [], _ => by simp
  | i :: L, h => by
    have h1 := h i (by simp)
    have ih := arr_loop c body L (fun j hj => h j (by simp [hj]))
    rw [List.forIn_cons, Sem.run_bind, h1, Result.andThen_ok]
    cases hc : c i
    · simp [hc]
    · simp only [hc, if_true, List.all_cons, Bool.true_and]; exact ih

theorem run_equalIn_arr (d : Nat) (t e : TypeId) (n : Nat) (k : IntKind) (xs ys : List Int) (ht : P.underlying t = some (.array n e)) (he : P.underlying e = some (.int k)) (hz : (sizeOf e).run P w = .ok 1 w) (hx : xs.length = n) (hy : ys.length = n) :
    (Op.equalIn (d + 2) t (.agg (xs.map (Value.int k)).toArray) (.agg (ys.map (Value.int k)).toArray)).run P w = .ok (decide (xs = ys)) w := by
  have ha : (isAgg e).run P w = .ok false w := by unfold isAgg; rw [Sem.run_bind, run_underlying he w]; rfl
  have hp : ∀ (zs : List Int) (i : Nat), i < zs.length → (part e (zs.map (Value.int k)).toArray (i * 1)).run P w = .ok (.int k (zs.getD i 0)) w := by
    intro zs i hi
    unfold part
    rw [Sem.run_bind, ha, Result.andThen_ok]
    simp [hi, List.getD_eq_getElem?_getD]
  rw [show d + 2 = (d + 1) + 1 from rfl, Op.equalIn]
  simp only [Sem.run_bind, run_underlying ht, Result.andThen_ok, hz]
  rw [Std.Legacy.Range.forIn_eq_forIn_range', arr_loop w (fun i => xs.getD i 0 == ys.getD i 0)]
  · simp only [Result.andThen_ok]
    by_cases e : xs = ys
    · subst e; simp
    · rw [if_neg, decide_eq_false e]; · rfl
      intro hall
      apply e
      apply List.ext_getElem (by omega)
      intro i h1 h2
      have := List.all_eq_true.1 hall i (by simp; omega)
      simpa [List.getD_eq_getElem?_getD, h1, h2] using this
  · intro i hi
    have hlt : i < n := by simpa using hi
    rw [Sem.run_bind, hp xs i (by omega), Result.andThen_ok, Sem.run_bind, hp ys i (by omega), Result.andThen_ok, Sem.run_bind, run_equalIn_int w d e k k _ _ he, Result.andThen_ok]
    cases xs.getD i 0 == ys.getD i 0 <;> rfl
end

/-! ### This seat's types -/
theorem encL_map (l : List UInt8) : encL l = (l.map fun b => (b.toNat : Int)).map (Value.int .u8) := by simp [encL, u8v]
theorem toInt_inj : ∀ {l m : List UInt8}, (l.map fun b => (b.toNat : Int)) = (m.map fun b => (b.toNat : Int)) → l = m
  | [], [], _ => rfl
  | [], _ :: _, h => by simp at h
  | _ :: _, [], h => by simp at h
  | a :: l, b :: m, h => by
    simp only [List.map_cons, List.cons.injEq] at h
    rw [UInt8.toNat_inj.1 (Int.ofNat_inj.1 h.1), toInt_inj h.2]

theorem eq23 (d : Nat) (a b : Adr) (w : World) : (Op.equalIn (d + 2) 23 (.agg (arrA a)) (.agg (arrA b))).run Try.prog w = .ok (decide (a = b)) w := by
  unfold arrA
  rw [encL_map, encL_map, run_equalIn_arr w d 23 5 16 .u8 _ _ Try.underlying23 Try.underlying5 (Try.sizeOf5 w) (by simp [a.h]) (by simp [b.h])]
  congr 1
  by_cases e : a = b
  · subst e; simp
  · rw [decide_eq_false e, decide_eq_false]
    exact fun h => e (Adr.ext (toInt_inj h))


theorem eqP (d : Nat) (p q : Pfx) (w : World) : (Op.equalIn (d + 3) 25 (.agg (arrP p)) (.agg (arrP q))).run Try.prog w = .ok (decide (p = q)) w := by
  have hS : Try.prog.underlying 25 = some (.struct (Try.prog.fieldsOf 25)) := by kernel_rfl
  have hp : Try.prog.stoodInHeld 25 = false := by kernel_rfl
  have p4 : ∀ (r : Pfx) w, (part 4 (arrP r) 0).run Try.prog w = .ok (.bool r.v6) w := fun r w => by
    unfold part; rw [Sem.run_bind, Try.isAgg4, Result.andThen_ok]; simp [arrP_0]
  have p3 : ∀ (r : Pfx) w, (part 3 (arrP r) 17).run Try.prog w = .ok (.int .i64 r.len) w := fun r w => by
    unfold part; rw [Sem.run_bind, Try.isAgg3, Result.andThen_ok]; simp [arrP_17]
  have p23 : ∀ (r : Pfx) w, (part 23 (arrP r) 1).run Try.prog w = .ok (.agg (arrA r.addr)) w := fun r w => by
    unfold part; rw [Sem.run_bind, Try.isAgg23, Result.andThen_ok]; simp only [if_true, Sem.run_bind, Try.sizeOf23, Result.andThen_ok, Sem.run_pure]; rw [arrP_ext]
  rw [show d + 3 = (d + 2) + 1 from rfl, run_equalIn_agg w (d + 2) 25 _ _ hS hp]
  simp only [Program.fieldsOf, Try.underlying25, Op.eqFields, Sem.run_bind, p4, p3, p23, Result.andThen_ok, ne_eq, String.reduceEq, not_false_eq_true, if_true,
    run_equalIn_bool' w (d + 1) 4 _ _ Try.underlying4, run_equalIn_int w (d + 1) 3 .i64 .i64 _ _ Try.underlying3, eq23]
  cases p with
  | mk v a n =>
    cases q with
    | mk v' a' n' =>
      simp only [Pfx.mk.injEq]
      by_cases h1 : v = v' <;> by_cases h2 : a = a' <;> by_cases h3 : n = n' <;> simp [h1, h2, h3, run_equalIn_int w (d + 1) 3 .i64 .i64 _ _ Try.underlying3, Op.eqFields, Sem.run_bind, p4, p3, p23, eq23]

theorem eqV (d : Nat) (p q : Vrp) (w : World) : (Op.equalIn (d + 4) 39 (.agg (arrV p)) (.agg (arrV q))).run Try.prog w = .ok (decide (p = q)) w := by
  have hS : Try.prog.underlying 39 = some (.struct (Try.prog.fieldsOf 39)) := by kernel_rfl
  have hp : Try.prog.stoodInHeld 39 = false := by kernel_rfl
  have p4 : ∀ (r : Vrp) w, (part 26 (arrV r) 0).run Try.prog w = .ok (.int .u32 r.as) w := fun r w => by
    unfold part; rw [Sem.run_bind, Try.isAgg26, Result.andThen_ok]; simp [arrV_0]
  have p3 : ∀ (r : Vrp) w, (part 3 (arrV r) 19).run Try.prog w = .ok (.int .i64 r.max) w := fun r w => by
    unfold part; rw [Sem.run_bind, Try.isAgg3, Result.andThen_ok]; simp [arrV_19]
  have p25 : ∀ (r : Vrp) w, (part 25 (arrV r) 1).run Try.prog w = .ok (.agg (arrP r.p)) w := fun r w => by
    unfold part; rw [Sem.run_bind, Try.isAgg25, Result.andThen_ok]; simp only [if_true, Sem.run_bind, Try.sizeOf25, Result.andThen_ok, Sem.run_pure]; rw [arrV_ext]
  rw [show d + 4 = (d + 3) + 1 from rfl, run_equalIn_agg w (d + 3) 39 _ _ hS hp]
  simp only [Program.fieldsOf, Try.underlying39, Op.eqFields, Sem.run_bind, p4, p3, p25, Result.andThen_ok, ne_eq, String.reduceEq, not_false_eq_true, if_true,
    run_equalIn_int w (d + 2) 26 .u32 .u32 _ _ Try.underlying26, run_equalIn_int w (d + 2) 3 .i64 .i64 _ _ Try.underlying3, eqP]
  cases p with
  | mk v a n =>
    cases q with
    | mk v' a' n' =>
      simp only [Vrp.mk.injEq]
      by_cases h1 : v = v' <;> by_cases h2 : a = a' <;> by_cases h3 : n = n' <;> simp [h1, h2, h3, run_equalIn_int w (d + 2) 3 .i64 .i64 _ _ Try.underlying3, Op.eqFields, Sem.run_bind, p4, p3, p25, eqP]

theorem eqS (d : Nat) (p q : Spn) (w : World) : (Op.equalIn (d + 3) 52 (.agg (arrS p)) (.agg (arrS q))).run Try.prog w = .ok (decide (p = q)) w := by
  have hS : Try.prog.underlying 52 = some (.struct (Try.prog.fieldsOf 52)) := by kernel_rfl
  have hp : Try.prog.stoodInHeld 52 = false := by kernel_rfl
  have p4 : ∀ (r : Spn) w, (part 4 (arrS r) 0).run Try.prog w = .ok (.bool r.v6) w := fun r w => by
    unfold part; rw [Sem.run_bind, Try.isAgg4, Result.andThen_ok]; simp [arrS_0]
  have p1 : ∀ (r : Spn) w, (part 23 (arrS r) 1).run Try.prog w = .ok (.agg (arrA r.lo)) w := fun r w => by
    unfold part; rw [Sem.run_bind, Try.isAgg23, Result.andThen_ok]; simp only [if_true, Sem.run_bind, Try.sizeOf23, Result.andThen_ok, Sem.run_pure]; rw [arrS_lo]
  have p2 : ∀ (r : Spn) w, (part 23 (arrS r) 17).run Try.prog w = .ok (.agg (arrA r.hi)) w := fun r w => by
    unfold part; rw [Sem.run_bind, Try.isAgg23, Result.andThen_ok]; simp only [if_true, Sem.run_bind, Try.sizeOf23, Result.andThen_ok, Sem.run_pure]; rw [arrS_hi]
  rw [show d + 3 = (d + 2) + 1 from rfl, run_equalIn_agg w (d + 2) 52 _ _ hS hp]
  simp only [Program.fieldsOf, Try.underlying52, Op.eqFields, Sem.run_bind, p4, p1, p2, Result.andThen_ok, ne_eq, String.reduceEq, not_false_eq_true, if_true,
    run_equalIn_bool' w (d + 1) 4 _ _ Try.underlying4, eq23]
  cases p with
  | mk v a n =>
    cases q with
    | mk v' a' n' =>
      simp only [Spn.mk.injEq]
      by_cases h1 : v = v' <;> by_cases h2 : a = a' <;> by_cases h3 : n = n' <;> simp [h1, h2, h3, Op.eqFields, Sem.run_bind, p4, p1, p2, eq23]

/-! ### '==' and '!=' on them -/
theorem eqlP (p q : Pfx) (w : World) : (binOp .eql 25 (.agg (arrP p)) (.agg (arrP q))).run Try.prog w = .ok (.bool (decide (p = q))) w := by rw [run_eql_struct, show 10000 = 9997 + 3 from rfl, eqP]; rfl
theorem eqlV (p q : Vrp) (w : World) : (binOp .eql 39 (.agg (arrV p)) (.agg (arrV q))).run Try.prog w = .ok (.bool (decide (p = q))) w := by rw [run_eql_struct, show 10000 = 9996 + 4 from rfl, eqV]; rfl
theorem neqV (p q : Vrp) (w : World) : (binOp .neq 39 (.agg (arrV p)) (.agg (arrV q))).run Try.prog w = .ok (.bool (!decide (p = q))) w := by rw [run_neq_struct, show 10000 = 9996 + 4 from rfl, eqV]; rfl
theorem eqlS (p q : Spn) (w : World) : (binOp .eql 52 (.agg (arrS p)) (.agg (arrS q))).run Try.prog w = .ok (.bool (decide (p = q))) w := by rw [run_eql_struct, show 10000 = 9997 + 3 from rfl, eqS]; rfl
theorem neqS (p q : Spn) (w : World) : (binOp .neq 52 (.agg (arrS p)) (.agg (arrS q))).run Try.prog w = .ok (.bool (!decide (p = q))) w := by rw [run_neq_struct, show 10000 = 9997 + 3 from rfl, eqS]; rfl
theorem guard25 (op : BinOp) (x y : Operand) (xs ys : Array Value) (w : World) : (eqGuard op 25 x y (.agg xs) (.agg ys)).run Try.prog w = .ok () w := run_eqGuard_agg w op 25 x y xs ys (by kernel_rfl)
theorem guard39 (op : BinOp) (x y : Operand) (xs ys : Array Value) (w : World) : (eqGuard op 39 x y (.agg xs) (.agg ys)).run Try.prog w = .ok () w := run_eqGuard_agg w op 39 x y xs ys (by kernel_rfl)
theorem guard52 (op : BinOp) (x y : Operand) (xs ys : Array Value) (w : World) : (eqGuard op 52 x y (.agg xs) (.agg ys)).run Try.prog w = .ok () w := run_eqGuard_agg w op 52 x y xs ys (by kernel_rfl)

/-! ### Reading and writing an aggregate, wherever it lies -/
def At (w : World) (a : Addr) (D : Array Value) : Prop := ∀ j v, D[j]? = some v → w.cell? (a.add j) = some v
theorem At.grow {w w' : World} {a : Addr} {D : Array Value} (h : At w a D) (hg : G w w') : At w' a D := fun j v hv => hg.cell (h j v hv)
theorem at_blk {w : World} {b : Nat} {C : Array Value} {T : TypeId} {fr : Nat × Nat} (h : w.heap[b]? = some (.cells C T fr)) : At w ⟨b, 0, none⟩ C := fun j v hv => by
  have : (⟨b, 0, none⟩ : Addr).add j = ⟨b, j, none⟩ := by unfold Addr.add; split <;> simp_all
  rw [this, blk_cell h, hv]
theorem at_ext {w : World} {b : Nat} {C D : Array Value} {T : TypeId} {fr : Nat × Nat} (h : w.heap[b]? = some (.cells C T fr)) (o n : Nat) (hD : C.extract o n = D) : At w ⟨b, o, none⟩ D := fun j v hv => by
  have : (⟨b, o, none⟩ : Addr).add j = ⟨b, o + j, none⟩ := by unfold Addr.add; split <;> simp_all
  rw [this, blk_cell h]
  subst hD
  rw [Array.getElem?_extract] at hv
  split at hv
  · exact hv
  · cases hv

theorem run_load {P : Program} (w : World) (ty : TypeId) (a : Addr) (D : Array Value) {d : TypeDesc} (h : At w a D) (hu : P.underlying ty = some d) (hd : (match d with | .struct _ | .array _ _ => true | _ => false) = true) (hi : (P.info? ty).map (·.size) = some D.size) :
    (loadVar ty a).run P w = .ok (.agg D) w := by
  have hl := run_loadCells_list (P := P) w a D.toList (fun j v hv => h j v (by simpa using hv))
  cases hq : P.info? ty with
  | none => simp [hq] at hi
  | some i =>
    have hs : i.size = D.size := by simpa [hq] using hi
    have hagg : (isAgg ty).run P w = .ok true w := by
      unfold isAgg
      rw [Sem.run_bind, run_underlying hu w]
      cases d <;> simp_all
    simp only [Array.length_toList, Array.toArray_toList] at hl
    simp [loadVar, Sem.run_bind, hagg, sizeOf, typeInfo, hq, hs, hl]

section
variable {P : Program} {ops : Array Oper} {rest : List Oper} {o : Oper} {a : Act} {w : World} {Q : Exit → Act → World → Prop}
theorem wl_load (ty : TypeId) (x : Operand) (p : Addr) (D : Array Value) (h : At w p D) {d : TypeDesc} (hu : P.underlying ty = some d) (hd : (match d with | .struct _ | .array _ _ => true | _ => false) = true) (hi : (P.info? ty).map (·.size) = some D.size)
    (hgd : o.guard = none) (ho : o.op = .load ty x) (hx : a.eval x = .pointer (some p)) (hk : wpList P ops Q rest (a.put o.dst (.agg D)) w) : wpList P ops Q (o :: rest) a w :=
  wpList_plain hgd fun K hK => by
    unfold Oper.wp execOp
    simp only [ho, hx, Instr.loadAt, Instr.sureAddr, Sem.run_bind, Sem.run_pure, Result.andThen_ok, run_load w ty p D h hu hd hi]
    exact hK _ _ hk
/-- The same, guarded: it is wanted. -/
theorem wl_load_g (ty : TypeId) (x : Operand) (p : Addr) (D : Array Value) (h : At w p D) {d : TypeDesc} (hu : P.underlying ty = some d) (hd : (match d with | .struct _ | .array _ _ => true | _ => false) = true) (hi : (P.info? ty).map (·.size) = some D.size)
    (hgd : Region.wanted o (yielded ops a.tmps) = true) (ho : o.op = .load ty x) (hx : a.eval x = .pointer (some p)) (hk : wpList P ops Q rest (a.put o.dst (.agg D)) w) : wpList P ops Q (o :: rest) a w :=
  wpList_step fun K hK => by
    rw [if_pos hgd]
    unfold Oper.wp execOp
    simp only [ho, hx, Instr.loadAt, Instr.sureAddr, Sem.run_bind, Sem.run_pure, Result.andThen_ok, run_load w ty p D h hu hd hi]
    exact hK _ _ hk
/-- In every world that has come of W by growth. -/
theorem q_load {W : World} {K : Act → Prop} (ty : TypeId) (x : Operand) (p : Addr) (D : Array Value) (h : At W p D) {d : TypeDesc} (hu : P.underlying ty = some d) (hd : (match d with | .struct _ | .array _ _ => true | _ => false) = true) (hi : (P.info? ty).map (·.size) = some D.size)
    (ho : o.op = .load ty x) (hx : a.eval x = .pointer (some p)) (hk : K (a.put o.dst (.agg D))) : o.quiet P a (fun w' => ∃ g, w' = grw W g) K := by
  refine ⟨_, ?_, hk⟩
  rintro w' ⟨g, rfl⟩
  have hb' := h.grow (G.of W g)
  unfold Oper.quietAt execOp
  simp only [ho, hx, Instr.loadAt, Instr.sureAddr, Sem.run_bind, Sem.run_pure, Result.andThen_ok, run_load _ ty p D hb' hu hd hi, Oper.quietUpon, and_self]
def splA (C : Array Value) (o : Nat) (D : Array Value) : Array Value := (C.toList.take o ++ D.toList ++ C.toList.drop (o + D.size)).toArray
theorem wl_store (ty : TypeId) (x y : Operand) (b off : Nat) (D C : Array Value) (T : TypeId) (hb : w.heap[b]? = some (.cells C T (0, 0))) (hl : off + D.size ≤ C.size) (hi : (P.info? ty).map (·.size) = some D.size) (h1 : D.all (·.oneCell') = true)
    (hgd : o.guard = none) (ho : o.op = .store ty x y) (hx : a.eval x = .pointer (some ⟨b, off, none⟩)) (hy : a.eval y = .agg D) (hk : wpList P ops Q rest (a.put o.dst undef) (w.setRow b (splA C off D))) : wpList P ops Q (o :: rest) a w :=
  wpList_plain hgd fun K hK => by
    have hst := run_storeCells_at (P := P) b off T D.toList 0 C w hb (by simpa using hl) (fun v hv => (Array.all_eq_true_iff_forall_mem.1 h1) v (by simpa using hv))
    cases hq : P.info? ty with
    | none => simp [hq] at hi
    | some i =>
      have hs : D.size = i.size := by simp [hq] at hi; omega
      unfold Oper.wp execOp
      simp only [ho, hx, hy, Instr.storeAt, Instr.sureAddr, Sem.run_bind, Sem.run_pure, Result.andThen_ok]
      have : (storeVar ty ⟨b, off, none⟩ (.agg D)).run P w = .ok () (w.setRow b (splA C off D)) := by
        simp only [storeVar, sizeOf, typeInfo, Sem.run_bind, run_program, hq, Result.andThen_ok, Sem.run_pure, Value.cells, hs, ne_eq, not_true_eq_false, if_false, hst]
        simp [splA]
      rw [this]
      exact hK _ _ hk
end

attribute [go_sem high] eqlP eqlV neqV eqlS neqS guard25 guard39 guard52

/-- A region in the text's order, all of whose operations read, reckon and call. -/
theorem wpList_of_quiet {P : Program} {ops : Array Oper} {C : World → Prop} {Q : Act → Prop} {Q' : Exit → Act → World → Prop} (hQ : ∀ a w, C w → Q a → Q' .normal a w) :
    ∀ (l : List Oper) (a : Act) (w : World), C w → wpQuiet P ops C Q l a → wpList P ops Q' l a w
  | [], a, w, hw, h => hQ a w hw h
  | o :: l, a, w, hw, h => by
    unfold wpQuiet at h
    refine wpList_step fun K hK => ?_
    split at h
    · rename_i hwant
      rw [if_pos hwant]
      exact Oper.wp_of_quiet hw (fun a' w' hw' h' => hK _ _ (wpList_of_quiet hQ l a' w' hw' h')) h
    · rename_i hwant
      rw [if_neg hwant]
      exact hK _ _ (wpList_of_quiet hQ l _ _ hw h)

theorem region_seq {P : Program} {id : Nat} {Q : Exit → Act → World → Prop} {a : Act} {w : World} {l : List Oper}
    (h : wpQuiet P l.toArray (fun w' => ∃ g, w' = grw w g) (fun a' => ∀ w', G w w' → Q .normal a' w') l a) : (Code.region id l.toArray false).wp P Q a w := by
  refine wp_region_lit (wpList_of_quiet (C := fun w' => ∃ g, w' = grw w g) (fun a' w' hw' h' => h' w' (G.iffg.2 hw')) l a w ⟨⟨0, #[]⟩, ?_⟩ h)
  show w = Go.Sort.grow (w.drewN 0) #[]
  rw [Go.Sort.grow_empty]; rfl
end Go.Proofs.Ytedgbmibgddnkaa
