/- What the arguments are: opened. -/
import Derived.Test.YtedgbmibgddnkaaW
import Derived.WalkKit
import Derived.ProofKit
import Derived.OpenShut
import Derived.Deep.Slices
import Derived.Below
set_option linter.unusedSimpArgs false
set_option linter.unusedVariables false
namespace Go.Proofs.Ytedgbmibgddnkaa
open Go.RowKit Ad
section
variable {H : Type} {enc : TypeId × Value → H} {w : World} {base : Nat} {spare : Nat → Bool} {held : Bool}
theorem cells4 : Try.prog.cellsOf 4 = 1 := by kernel_rfl
theorem cells3 : Try.prog.cellsOf 3 = 1 := by kernel_rfl
theorem cells5 : Try.prog.cellsOf 5 = 1 := by kernel_rfl
theorem cells26 : Try.prog.cellsOf 26 = 1 := by kernel_rfl
theorem cells23 : Try.prog.cellsOf 23 = 16 := by kernel_rfl
theorem cells25 : Try.prog.cellsOf 25 = 18 := by kernel_rfl
theorem cells39 : Try.prog.cellsOf 39 = 20 := by kernel_rfl
theorem cells52 : Try.prog.cellsOf 52 = 33 := by kernel_rfl
def u8of : Value → UInt8
  | .int _ n => UInt8.ofNat n.toNat
  | _ => 0
theorem u8_wf {n : Int} (h : (Lit.int .u8 n).wf = true) : u8v (u8of (.int .u8 n)) = .int .u8 n := by
  have h2 : 0 ≤ n ∧ n ≤ 255 := by
    simp [Lit.wf, IntKind.min, IntKind.max, IntKind.signed, IntKind.bits] at h
    omega
  unfold u8v u8of
  have : ((UInt8.ofNat n.toNat).toNat : Int) = n := by
    rw [UInt8.toNat_ofNat']
    omega
  rw [this]
theorem open_adr {fuel : Nat} {cs : List Value} {x : DataW H × List MemPlace} (h : DataW.trod enc Try.prog w base spare held fuel 23 cs = some x) : ∃ a : Adr, cs = encL a.l := by
  obtain ⟨xs, m, _, _, hl, hlen, hi⟩ := DataW.trod_array Try.underlying23 h
  rw [cells23] at hl
  refine ⟨⟨cs.map u8of, by rw [List.length_map, hl]⟩, ?_⟩
  unfold encL
  rw [List.map_map]
  symm
  conv => rhs; rw [← List.map_id cs]
  apply List.map_congr_left
  intro v hv
  obtain ⟨i, hlt, rfl⟩ := List.mem_iff_getElem.1 hv
  have h1 := hi i (by omega)
  rw [cells5, Nat.mul_one] at h1
  have h2 : (cs.drop i).take 1 = [cs[i]] := by
    rw [List.drop_eq_getElem_cons hlt]; rfl
  rw [h2] at h1
  rw [List.getElem?_eq_getElem (show i < xs.length by omega)] at h1
  obtain ⟨n, e, _, hw⟩ := DataW.trod_int Try.underlying5 h1
  simp only [List.cons.injEq, and_true] at e
  rw [e]
  exact u8_wf hw
theorem split3 (cs : List Value) (a b : Nat) : cs = (cs.drop 0).take a ++ ((cs.drop a).take b ++ (cs.drop (a + b))) := by
  rw [List.drop_zero, ← List.drop_drop, List.take_append_drop, List.take_append_drop]
theorem take_rest (cs : List Value) (a b : Nat) (h : cs.length = a + b) : cs.drop a = (cs.drop a).take b := by
  rw [List.take_of_length_le (by rw [List.length_drop]; omega)]
theorem open_pfx {fuel : Nat} {cs : List Value} {x : DataW H × List MemPlace} (h : DataW.trod enc Try.prog w base spare held fuel 25 cs = some x) : ∃ p : Pfx, cs = encP p := by
  obtain ⟨xs, m, _, _, hl, hlen, hi⟩ := DataW.trod_struct Try.underlying25 h
  rw [cells25] at hl
  have hlen' : xs.length = 3 := hlen
  have h0 : DataW.trod enc Try.prog w base spare held m 4 ((cs.drop 0).take (Try.prog.cellsOf 4)) = xs[0]? := hi 0 _ rfl
  have h1 : DataW.trod enc Try.prog w base spare held m 23 ((cs.drop 1).take (Try.prog.cellsOf 23)) = xs[1]? := hi 1 _ rfl
  have h2 : DataW.trod enc Try.prog w base spare held m 3 ((cs.drop 17).take (Try.prog.cellsOf 3)) = xs[2]? := hi 2 _ rfl
  rw [List.getElem?_eq_getElem (show 0 < xs.length by omega), cells4] at h0
  rw [List.getElem?_eq_getElem (show 1 < xs.length by omega), cells23] at h1
  rw [List.getElem?_eq_getElem (show 2 < xs.length by omega), cells3] at h2
  obtain ⟨b, e0, _⟩ := DataW.trod_bool Try.underlying4 h0
  obtain ⟨a, e1⟩ := open_adr h1
  obtain ⟨n, e2, _, _⟩ := DataW.trod_int Try.underlying3 h2
  refine ⟨⟨b, a, n⟩, ?_⟩
  rw [split3 cs 1 16, e0, e1, take_rest cs (1 + 16) 1 (by omega), e2]
  rfl
theorem open_vrp {fuel : Nat} {cs : List Value} {x : DataW H × List MemPlace} (h : DataW.trod enc Try.prog w base spare held fuel 39 cs = some x) : ∃ v : Vrp, cs = encV v := by
  obtain ⟨xs, m, _, _, hl, hlen, hi⟩ := DataW.trod_struct Try.underlying39 h
  rw [cells39] at hl
  have hlen' : xs.length = 3 := hlen
  have h0 : DataW.trod enc Try.prog w base spare held m 26 ((cs.drop 0).take (Try.prog.cellsOf 26)) = xs[0]? := hi 0 _ rfl
  have h1 : DataW.trod enc Try.prog w base spare held m 25 ((cs.drop 1).take (Try.prog.cellsOf 25)) = xs[1]? := hi 1 _ rfl
  have h2 : DataW.trod enc Try.prog w base spare held m 3 ((cs.drop 19).take (Try.prog.cellsOf 3)) = xs[2]? := hi 2 _ rfl
  rw [List.getElem?_eq_getElem (show 0 < xs.length by omega), cells26] at h0
  rw [List.getElem?_eq_getElem (show 1 < xs.length by omega), cells25] at h1
  rw [List.getElem?_eq_getElem (show 2 < xs.length by omega), cells3] at h2
  obtain ⟨n, e0, _, _⟩ := DataW.trod_int Try.underlying26 h0
  obtain ⟨p, e1⟩ := open_pfx h1
  obtain ⟨k, e2, _, _⟩ := DataW.trod_int Try.underlying3 h2
  refine ⟨⟨n, p, k⟩, ?_⟩
  rw [split3 cs 1 18, e0, e1, take_rest cs (1 + 18) 1 (by omega), e2]
  rfl
theorem open_spn {fuel : Nat} {cs : List Value} {x : DataW H × List MemPlace} (h : DataW.trod enc Try.prog w base spare held fuel 52 cs = some x) : ∃ s : Spn, cs = encS s := by
  obtain ⟨xs, m, _, _, hl, hlen, hi⟩ := DataW.trod_struct Try.underlying52 h
  rw [cells52] at hl
  have hlen' : xs.length = 3 := hlen
  have h0 : DataW.trod enc Try.prog w base spare held m 4 ((cs.drop 0).take (Try.prog.cellsOf 4)) = xs[0]? := hi 0 _ rfl
  have h1 : DataW.trod enc Try.prog w base spare held m 23 ((cs.drop 1).take (Try.prog.cellsOf 23)) = xs[1]? := hi 1 _ rfl
  have h2 : DataW.trod enc Try.prog w base spare held m 23 ((cs.drop 17).take (Try.prog.cellsOf 23)) = xs[2]? := hi 2 _ rfl
  rw [List.getElem?_eq_getElem (show 0 < xs.length by omega), cells4] at h0
  rw [List.getElem?_eq_getElem (show 1 < xs.length by omega), cells23] at h1
  rw [List.getElem?_eq_getElem (show 2 < xs.length by omega), cells23] at h2
  obtain ⟨b, e0, _⟩ := DataW.trod_bool Try.underlying4 h0
  obtain ⟨a, e1⟩ := open_adr h1
  obtain ⟨c, e2⟩ := open_adr h2
  refine ⟨⟨b, a, c⟩, ?_⟩
  rw [split3 cs 1 16, e0, e1, take_rest cs (1 + 16) 16 (by omega), e2]
  rfl
/-- A slice of structs that came in reads as a list. -/
theorem open_rd {α : Type} {en : α → List Value} {k T TS : Nat} (hk : ∀ x, (en x).length = k) (hT : Try.prog.cellsOf T = k) (hTS : Try.prog.underlying TS = some (.slice T)) (hopen : ∀ {fuel : Nat} {cs : List Value} {x : DataW H × List MemPlace}, DataW.trod enc Try.prog w base spare held fuel T cs = some x → ∃ v : α, cs = en v)
    {fuel : Nat} {A : Option Addr} {n c : Nat} {x : DataW H × List MemPlace} (h : DataW.trod enc Try.prog w base spare held fuel TS [.slice A n c] = some x) : ∃ L : List α, L.length = n ∧ n ≤ maxLen ∧ Rd en k w A L := by
  rcases Deep.open_slice hTS h with ⟨e, _⟩ | ⟨a, len, cap, m, f, D, Pl, e, _, hl, hm, hmm, _, hi⟩
  · simp only [List.cons.injEq, Value.slice.injEq, and_true] at e
    obtain ⟨rfl, rfl, rfl⟩ := e
    exact ⟨[], rfl, by simp, Rd.nil⟩
  · simp only [List.cons.injEq, Value.slice.injEq, and_true] at e
    obtain ⟨rfl, rfl, rfl⟩ := e
    have hle : n ≤ m := by rw [hmm]; split <;> omega
    have hex : ∀ i, i < n → ∃ v : α, w.cells? base (a.add (i * k)) k = some (en v) := fun i hi' => by
      obtain ⟨cs', h1, h2⟩ := hi i (by omega)
      obtain ⟨v, rfl⟩ := hopen h2
      rw [hT] at h1
      exact ⟨v, h1⟩
    have hmain : ∀ n, (∀ i, i < n → ∃ v : α, w.cells? base (a.add (i * k)) k = some (en v)) → ∃ L : List α, L.length = n ∧ ∀ i v, L[i]? = some v → w.cells? base (a.add (i * k)) k = some (en v) := by
      intro n
      induction n with
      | zero => exact fun _ => ⟨[], rfl, by simp⟩
      | succ n ih =>
        intro hex
        obtain ⟨L, hL, h⟩ := ih (fun i hi => hex i (by omega))
        obtain ⟨v, hv⟩ := hex n (by omega)
        refine ⟨L ++ [v], by simp [hL], fun i u hu => ?_⟩
        by_cases hi : i < n
        · rw [List.getElem?_append_left (by omega)] at hu
          exact h i u hu
        · have hlt := (List.getElem?_eq_some_iff.1 hu).1
          simp [hL] at hlt
          obtain rfl : i = n := by omega
          rw [List.getElem?_append_right (by omega), hL] at hu
          simp at hu
          subst hu
          exact hv
    obtain ⟨L, hL, hc⟩ := hmain n hex
    refine ⟨L, hL, by omega, fun j v hj => ⟨a, rfl, fun i u hu => ?_⟩⟩
    have h1 := World.cells?_some (hc j v hj)
    have hu' : (en v)[i]? = some u := by simpa using hu
    have hik : i < k := by
      have := (List.getElem?_eq_some_iff.1 hu').1
      omega
    rw [h1.2.2 i hik]
    exact hu'
end
end Go.Proofs.Ytedgbmibgddnkaa
