/- Sorting a row of the call's own: the shelf's contract, said of 'Own'. -/
import Derived.Test.YtedgbmibgddnkaaF
import Derived.Shelf.SlSortCmp.NoneTotal
set_option linter.unusedSimpArgs false
set_option linter.unusedVariables false
namespace Go.Proofs.Ytedgbmibgddnkaa
open Go.RowKit Ad Go.Sort
section
variable {α : Type} [Inhabited α] {enc : α → List Value} {k : Nat}
theorem flatK_list (hk : ∀ x, (enc x).length = k) (k0 : 0 < k) (d : List α) : flatK enc k d.toArray = (d.flatMap enc).toArray := by
  refine ext_get! (by simp [flat_length hk]) fun t ht => ?_
  have ht' : t < d.length * k := by simpa using ht
  have hd : t / k < d.length := Nat.div_lt_of_lt_mul (by rwa [Nat.mul_comm])
  have hm := Nat.mod_lt t k0
  rw [get_flatK _ _ _ t (by simpa using ht')]
  have e := flat_get hk d (t / k) d[t / k] (t % k) (List.getElem?_eq_getElem hd) hm
  rw [show t / k * k + t % k = t by rw [Nat.mul_comm]; exact Nat.div_add_mod t k] at e
  simp [getElem!_def, e, hd]
theorem row_heap (w : World) (g m : Nat) (d : Array α) (os : Array Obj) {cur : Array Value} {T : TypeId} {fr : Nat × Nat} (h : w.heap[g]? = some (.cells cur T fr)) :
    (sortWorldK enc k w g 0 m d os).heap[g]? = some (.cells (putCells id 0 (flatK enc k d) cur) T fr) := by
  unfold sortWorldK Sort.grow putRowK putRow mapBlock Sort.ahead
  have hg := (Array.getElem?_eq_some_iff.1 h).1
  simp only
  rw [Array.getElem?_append_left (by simpa using hg), Array.getElem?_modify, if_pos rfl, h]
  rfl
theorem sort_far (w : World) (g m : Nat) (d : Array α) (os : Array Obj) : F (fun i => i = g) w (sortWorldK enc k w g 0 m d os) := by
  unfold sortWorldK Sort.grow putRowK putRow mapBlock Sort.ahead
  refine ⟨rfl, rfl, rfl, by simp, by simp, fun b hb hn => ?_⟩
  simp only
  rw [Array.getElem?_append_left (by simpa using hb), Array.getElem?_modify, if_neg (fun e => hn e.symm)]
theorem own_sorted (hk : ∀ x, (enc x).length = k) (k0 : 0 < k) {T : TypeId} {w : World} {base g n cap m : Nat} {os : Array Obj} {L d : List α} (h : Own enc k T w base (.slice (some ⟨g, 0, none⟩) n cap) L) (hd : d.length = L.length) :
    Own enc k T (sortWorldK enc k w g 0 m d.toArray os) base (.slice (some ⟨g, 0, none⟩) n cap) d := by
  rcases h.2 with ⟨hv, _⟩ | ⟨g', cap', cur, hv, hb, hh, hn, hm, hs, ht⟩
  · cases hv
  · injection hv with h1 h2 h3
    injection h1 with h1
    injection h1 with h1
    subst h1; subst h3
    have hfl : (d.flatMap enc).length = d.length * k := flat_length hk d
    refine ⟨hfl, .inr ⟨g, cap, putCells id 0 (flatK enc k d.toArray) cur, by rw [hd, ← h2], hb, row_heap w g m d.toArray os hh, by omega, hm, by simp [putCells, hs], ?_⟩⟩
    rw [flatK_list hk k0]
    apply List.ext_getElem?
    intro i
    rw [List.getElem?_take]
    have hle : d.length * k ≤ cap * k := Nat.mul_le_mul_right _ (by omega)
    by_cases hi : i < d.length * k
    · rw [if_pos hi]
      simp only [putCells, Array.getElem?_toList, Array.getElem?_mapIdx]
      have hc : i < cur.size := by omega
      simp [Array.getElem?_eq_getElem hc, hfl, hi, List.getElem?_eq_getElem (show i < (d.flatMap enc).length by omega)]
    · rw [if_neg hi, List.getElem?_eq_none (by omega)]
theorem own_holds (hk : ∀ x, (enc x).length = k) (k0 : 0 < k) {T : TypeId} {w : World} {base g n cap : Nat} {L : List α} (h : Own enc k T w base (.slice (some ⟨g, 0, none⟩) n cap) L) : HoldsK enc k w g 0 L.toArray := by
  unfold HoldsK
  rw [flatK_list hk k0]
  intro j hj
  have hj' : j < (L.flatMap enc).length := by simpa using hj
  obtain ⟨cur, hc⟩ := h.ty (g := g) rfl
  refine ⟨?_, by rw [Nat.zero_add]; exact blk_frozen hc j⟩
  have := World.ownsRow.cells h (g := g) rfl j (L.flatMap enc)[j] (List.getElem?_eq_getElem hj')
  have e : (⟨g, 0, none⟩ : Addr).add j = ⟨g, 0 + j, none⟩ := by unfold Addr.add; split <;> simp_all
  rw [e] at this
  rw [this]
  simp [getElem!_def, List.getElem?_eq_getElem hj']
end
end Go.Proofs.Ytedgbmibgddnkaa
