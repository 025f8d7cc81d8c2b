/- Variables of struct type: made, and set once. -/
import Derived.Test.YtedgbmibgddnkaaN
import Derived.Test.YtedgbmibgddnkaaH
set_option linter.unusedSimpArgs false
set_option linter.unusedVariables false
namespace Go.Proofs.Ytedgbmibgddnkaa
open Go.RowKit Ad
section
variable {o o' : Oper} {a : Act} {w : World} {K : Act → World → Prop} {Q : Exit → Act → World → Prop} {ops : Array Oper} {rest : List Oper}
theorem wl_alloc {T : TypeId} {Z : Array Value} (hz : ∃ i, Try.prog.info? T = some i ∧ i.zero = some (.agg Z)) (hg : o.guard = none) (ho : o.op = .alloc T)
    (h : wpList Try.prog ops Q rest (a.put o.dst (.pointer (some ⟨w.heap.size, 0, none⟩))) (w.alloc (.cells Z T))) : wpList Try.prog ops Q (o :: rest) a w :=
  wpList_plain hg fun _ hK => by
    obtain ⟨i, hi, hz⟩ := hz
    unfold Oper.wp execOp
    simp [ho, Instr.alloc, zeroValue, typeInfo, hi, hz, newVar, newRow, Value.cells]
    exact hK _ _ h
end
end Go.Proofs.Ytedgbmibgddnkaa
