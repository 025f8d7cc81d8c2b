/- Slice literals of one and of none. -/
import Derived.Test.YtedgbmibgddnkaaF
import Derived.Great.BuildSlice
set_option linter.unusedSimpArgs false
set_option linter.unusedVariables false
namespace Go.Proofs.Ytedgbmibgddnkaa
open Go.RowKit Ad
section
variable {o : Oper} {a : Act} {w : World} {K : Act → World → Prop} {Q : Exit → Act → World → Prop} {ops : Array Oper} {rest : List Oper}
theorem wp_build1 {T TS : TypeId} {k : Nat} (x : Operand) (D : Array Value) (hD : D.size = k) (hk : 0 < k) (hk2 : k ≤ 1000) (hu : Try.prog.underlying TS = some (.slice T)) (hinfo : ∃ i z, Try.prog.info? T = some i ∧ i.zero = some z ∧ i.size = k ∧ z.cells.size = k)
    (ho : o.op = .buildSlice TS 1 #[(0, x)]) (hx : a.eval x = .agg D)
    (h : K (a.put o.dst (.slice (some ⟨w.heap.size, 0, none⟩) 1 1)) (w.alloc (.cells D T))) : o.wp Try.prog a w K Q := by
  obtain ⟨i, z, hi, hz, hs, hzs⟩ := hinfo
  refine wp_buildSlice TS T 1 #[(0, x)] ho D i z hu hi hz (by rw [hs]; omega) (by rw [hs]; omega) ?_ h
  have := Great.fill_whole hk [Value.agg D] ((Array.range (1 * i.size)).map (z.cells[· % z.cells.size]!)) (by simpa [Value.cells] using hD) (by simp [hs])
  simp only [hs] at this ⊢
  simp [hx, Value.cells] at this ⊢
  exact this
theorem wp_build0 {T TS : TypeId} {k : Nat} (hu : Try.prog.underlying TS = some (.slice T)) (hinfo : ∃ i z, Try.prog.info? T = some i ∧ i.zero = some z ∧ i.size = k ∧ z.cells.size = k)
    (ho : o.op = .buildSlice TS 0 #[]) 
    (h : K (a.put o.dst (.slice (some ⟨w.heap.size, 0, none⟩) 0 0)) (w.alloc (.cells #[] T))) : o.wp Try.prog a w K Q := by
  obtain ⟨i, z, hi, hz, hs, hzs⟩ := hinfo
  unfold Oper.wp execOp
  simp [ho, Instr.buildSlice, run_underlying hu, sizeOf, typeInfo, hi, Instr.fill, newRow]
  have e : Array.map (fun x => (default : Value)) (Array.range 0) = #[] := by simp
  rw [e]
  exact h
theorem info39b : ∃ i z, Try.prog.info? 39 = some i ∧ i.zero = some z ∧ i.size = 20 ∧ z.cells.size = 20 := by
  obtain ⟨i, h1, h2, h3, h4⟩ := info39'
  exact ⟨i, _, h1, h2, h3, arrV_size _⟩
theorem wp_build1V (x : Operand) (v : Vrp) (ho : o.op = .buildSlice 22 1 #[(0, x)]) (hx : a.eval x = .agg (arrV v))
    (h : K (a.put o.dst (.slice (some ⟨w.heap.size, 0, none⟩) 1 1)) (w.alloc (.cells (arrV v) 39))) : o.wp Try.prog a w K Q :=
  wp_build1 x (arrV v) (arrV_size v) (by omega) (by omega) Try.underlying22 info39b ho hx h
theorem wp_build0V (ho : o.op = .buildSlice 22 0 #[]) (h : K (a.put o.dst (.slice (some ⟨w.heap.size, 0, none⟩) 0 0)) (w.alloc (.cells #[] 39))) : o.wp Try.prog a w K Q :=
  wp_build0 Try.underlying22 info39b ho h
theorem wl_build1V (x : Operand) (v : Vrp) (hg : o.guard = none) (ho : o.op = .buildSlice 22 1 #[(0, x)]) (hx : a.eval x = .agg (arrV v))
    (h : wpList Try.prog ops Q rest (a.put o.dst (.slice (some ⟨w.heap.size, 0, none⟩) 1 1)) (w.alloc (.cells (arrV v) 39))) : wpList Try.prog ops Q (o :: rest) a w :=
  wpList_plain hg fun _ hK => wp_build1V x v ho hx (hK _ _ h)
end
theorem rd_one {α : Type} {enc : α → List Value} {k : Nat} {w : World} {b : Nat} {x : α} {T : TypeId} {fr : Nat × Nat} (h : w.heap[b]? = some (.cells (enc x).toArray T fr)) : Rd enc k w (some ⟨b, 0, none⟩) [x] := by
  intro j y hy
  cases j with
  | zero =>
    simp at hy
    subst hy
    refine ⟨_, rfl, ?_⟩
    have : (⟨b, 0, none⟩ : Addr).add (0 * k) = ⟨b, 0, none⟩ := by simp [Addr.add]
    rw [this]
    exact at_blk h
  | succ j => simp at hy
theorem own_none {α : Type} {enc : α → List Value} {k base : Nat} {w : World} {b : Nat} {T : TypeId} (hb : base ≤ b) (h : w.heap[b]? = some (.cells #[] T (0, 0))) : Own enc k T w base (.slice (some ⟨b, 0, none⟩) 0 0) ([] : List α) :=
  ⟨by simp, .inr ⟨b, 0, #[], rfl, hb, h, by simp, by simp [maxLen], by simp, by simp⟩⟩
end Go.Proofs.Ytedgbmibgddnkaa
