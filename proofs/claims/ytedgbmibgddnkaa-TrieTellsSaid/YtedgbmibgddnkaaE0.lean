/- Slices that are cut: what lies in them; the operation that cuts them. -/
import Derived.Test.YtedgbmibgddnkaaT3
import Derived.Test.YtedgbmibgddnkaaV
import Derived.Test.YtedgbmibgddnkaaD2
set_option linter.unusedSimpArgs false
set_option linter.unusedVariables false
namespace Go.Proofs.Ytedgbmibgddnkaa
open Go.RowKit Ad
def sliA (A : Option Addr) (lo c k : Nat) : Option Addr := if c = lo then A else A.map (·.add (lo * k))
theorem Rd.sli {α : Type} {enc : α → List Value} {k : Nat} {w : World} {A : Option Addr} {L : List α} {c lo : Nat} (h : Rd enc k w A L) (hc : L.length ≤ c) : Rd enc k w (sliA A lo c k) (L.drop lo) := by
  unfold sliA
  split
  · rename_i e
    rw [List.drop_eq_nil_of_le (by omega)]
    exact Rd.nil
  · intro i x hx
    rw [List.getElem?_drop] at hx
    obtain ⟨a2, rfl, ha⟩ := h _ x hx
    refine ⟨_, rfl, ?_⟩
    rw [add_add', ← Nat.add_mul]
    exact ha
section
variable {P : Program} {o : Oper} {a : Act} {C : World → Prop} {K : Act → Prop}
theorem q_sl_lo (T e : TypeId) (k : Nat) (x y : Operand) (A : Option Addr) (n c lo : Nat) (hlo : lo ≤ n) (hu : P.underlying T = some (.slice e)) (hs : ∀ w, (sizeOf e).run P w = .ok k w) (ho : o.op = .slice T x (some y) none none)
    (hx : a.eval x = .slice A n c) (hy : a.eval y = .int .i64 lo) (hk : K (a.put o.dst (.slice (sliA A lo c k) (n - lo) (c - lo)))) : o.quiet P a C K := by
  refine ⟨_, fun w _ => ?_, hk⟩
  have he : P.elem T = e := by unfold Program.elem; rw [hu]
  have h1 : P.underlying T = some (.slice (P.elem T)) := by rw [he]; exact hu
  unfold Oper.quietAt execOp
  simp only [ho, hx, hy, Option.map_some, Option.map_none, Sem.run_bind, run_sliceAt_slice _ _ _ _ _ _ h1, run_slice_l w T A n c h1 .i64 (lo : Int) (by omega) (by omega), he, hs, Result.andThen_ok, Sem.run_pure, Oper.quietUpon]
  simp [sliced, sliA]
theorem q_sl_hi (T e : TypeId) (k : Nat) (x y : Operand) (A : Option Addr) (n c hi : Nat) (hh : hi ≤ c) (hu : P.underlying T = some (.slice e)) (hs : ∀ w, (sizeOf e).run P w = .ok k w) (ho : o.op = .slice T x none (some y) none)
    (hx : a.eval x = .slice A n c) (hy : a.eval y = .int .i64 hi) (hk : K (a.put o.dst (.slice A hi c))) : o.quiet P a C K := by
  refine ⟨_, fun w _ => ?_, hk⟩
  have he : P.elem T = e := by unfold Program.elem; rw [hu]
  have h1 : P.underlying T = some (.slice (P.elem T)) := by rw [he]; exact hu
  unfold Oper.quietAt execOp
  simp only [ho, hx, hy, Option.map_some, Option.map_none, Sem.run_bind, run_sliceAt_slice _ _ _ _ _ _ h1, run_slice_h w T A n c h1 .i64 (hi : Int) (by omega) (by omega), he, hs, Result.andThen_ok, Sem.run_pure, Oper.quietUpon]
  cases A <;> simp [sliced, Addr.add_zero']
end
end Go.Proofs.Ytedgbmibgddnkaa
