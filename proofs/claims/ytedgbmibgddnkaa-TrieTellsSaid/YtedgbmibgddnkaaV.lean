/- A call of a function by name, as one operation. -/
import Derived.Test.YtedgbmibgddnkaaT2
import Derived.Test.YtedgbmibgddnkaaN2
import Derived.Shelf.Abstract
set_option linter.unusedSimpArgs false
set_option linter.unusedVariables false
namespace Go.Proofs.Ytedgbmibgddnkaa
open Go.RowKit Ad Go.Shelf
section
variable {o : Oper} {a : Act} {w : World} {K : Act → World → Prop} {Q : Exit → Act → World → Prop}
theorem wp_callF {f : FuncId} {fn : Func} {c : Code} {args : Array Operand} {tys : Array TypeId} {R : Ending → World → Prop} (vals : Array Value) (hf : Try.prog.funcs[f]? = some fn) (hname : (fn.name == "runtime.NumGoroutine") = false) (hb : fn.body = some c)
    (ho : o.op = .call { callee := .value (.func f), args := args, argTypes := tys }) (hv : args.toList.map a.eval = vals.toList) (h : Calls Try.prog f vals w R) (hk : ∀ e w', R e w' → ∃ v, e = .returned v ∧ K (a.put o.dst v) w') : o.wp Try.prog a w K Q := by
  have hv : args.map a.eval = vals := by
    apply Array.ext'
    rw [Array.toList_map]; exact hv
  have he := enters_of hf hname hb vals w
  have e : (execOp a.eval o).run Try.prog w = .ok (.enter f vals) w := by
    unfold execOp
    simp [ho, resolve, Deferred.ofValue, invoke, hv, Act.eval, he]
  unfold Oper.wp
  rw [e]
  simp only [Oper.upon]
  refine h.mono fun e w' hR => ?_
  obtain ⟨v, rfl, hK⟩ := hk e w' hR
  exact hK
end
end Go.Proofs.Ytedgbmibgddnkaa
