/- Walks: where one stands in a row; the sample. -/
import Derived.Test.YtedgbmibgddnkaaB1
import Derived.Test.YtedgbmibgddnkaaH
namespace Go.Proofs.Ytedgbmibgddnkaa
open Go.RowKit Ad
set_option linter.unusedSimpArgs false
set_option linter.unusedVariables false
set_option maxRecDepth 100000
set_option maxHeartbeats 1000000
def idx (L : List Vrp) (v : Vrp) : Int := if v ∈ L then (L.idxOf v : Int) else -1
theorem idx_at {L : List Vrp} {v : Vrp} {k : Nat} (hk : L[k]? = some v) (h : ∀ j x, j < k → L[j]? = some x → v ≠ x) : idx L v = k := by
  unfold idx
  have hm : v ∈ L := List.mem_of_getElem? hk
  rw [if_pos hm]
  obtain ⟨hlt, he⟩ := List.getElem?_eq_some_iff.1 hk
  have hi : L.idxOf v < L.length := List.idxOf_lt_length_iff.2 hm
  have h1 : L[L.idxOf v]'hi = v := List.getElem_idxOf hi
  by_cases h2 : L.idxOf v < k
  · exact absurd h1.symm (h _ _ h2 (List.getElem?_eq_getElem hi))
  · by_cases h3 : k < L.idxOf v
    · have := List.not_of_lt_findIdx (p := (· == v)) (xs := L) h3
      simp [he] at this
    · congr 1; omega
theorem idx_none {L : List Vrp} {v : Vrp} (h : ∀ (j : Nat) (x : Vrp), L[j]? = some x → v ≠ x) : idx L v = -1 := by
  unfold idx
  rw [if_neg]
  intro hm
  obtain ⟨j, hj, he⟩ := List.mem_iff_getElem.1 hm
  exact h j v (by rw [List.getElem?_eq_getElem hj, he]) rfl
theorem idx_pos (L : List Vrp) (v : Vrp) : decide (0 ≤ idx L v) = decide (v ∈ L) := by
  unfold idx
  by_cases h : v ∈ L <;> simp [h]
theorem index_any (A : Option Addr) (L : List Vrp) (c : Nat) (v : Vrp) (w : World) (hL : RdV w A L) (hl : L.length ≤ maxLen) :
    Calls Try.prog 86 #[.slice A L.length c, .agg (arrV v)] w fun e w' => e = .returned (.int .i64 (idx L v)) ∧ G w w' := by
  obtain ⟨n, hn⟩ : ∃ n, L.length = n := ⟨_, rfl⟩
  have HL := Lib.hid hL
  have Hn := Lib.hid hn
  have Hat := fun k => Lib.hid (@idx_at L v k)
  have Hno := Lib.hid (@idx_none L v)
  rw [hn] at hl ⊢
  simp only [maxLen] at hl
  clear hL hn
  generalize idx L v = r at *
  go_enter Try.func86, Try.ntmps86
  go_wp2
  have b1 := heap_alloc_new w (.cells (arrV v) 39)
  have g0 := (G.refl w).alloc (.cells (arrV v) 39)
  obtain ⟨b, hb⟩ : ∃ b, w.heap.size = b := ⟨_, rfl⟩
  rw [hb] at b1 ⊢
  clear hb
  go_loopw [4, 5, 8, 9, 10, 11, 12, 13, 14, 15, 16] (fun _ _ i _ _ _ _ _ _ _ _ wr => ∃ k : Nat, k ≤ n ∧ i = .int .i64 k ∧ G w wr ∧ wr.heap[b]? = some (.cells (arrV v) 39 (0, 0)) ∧ Hid (∀ (j : Nat) (x : Vrp), j < k → L[j]? = some x → v ≠ x)) (fun _ _ i _ _ _ _ _ _ _ _ _ => n - (intOf i).toNat)
  case atStart => exact ⟨0, by omega, rfl, g0, b1, Lib.hid (fun j x h => by omega)⟩
  case round =>
    clear g0 b1
    obtain ⟨k, hk, rfl, gr, b1, Hk⟩ := hrel
    by_cases hlt : k < n
    · obtain ⟨x, hx⟩ : ∃ x, L[k]? = some x := ⟨_, List.getElem?_eq_getElem (by have := Hn.out; omega)⟩
      obtain ⟨ad, rfl, ha⟩ := HL.out k x hx
      replace ha := ha.grow gr
      have Hx := Lib.hid hx
      clear hx
      go_upto_region 4 with fail
      refine region_all (by kernel_rfl) (by kernel_rfl) ?_
      repeat (first | go_big_quiet_skip | (go_big_quiet_want; go_big_quiet_op; go_big_quiet_on))
      go_big_quiet_want; refine q_load 39 _ ⟨b, 0, none⟩ (arrV (v)) (at_blk b1) Try.underlying39 rfl (info39v (v)) rfl rfl ?_; go_big_quiet_on
      simp only [Act.put, List.setIfInBounds_toArray, List.set_cons_zero, List.set_cons_succ]
      repeat (first | go_big_quiet_skip | (go_big_quiet_want; go_big_quiet_op; go_big_quiet_on))
      go_big_quiet_want; refine q_load 39 _ (ad.add (k * 20)) (arrV (x)) ha Try.underlying39 rfl (info39v (x)) rfl rfl ?_; go_big_quiet_on
      simp only [Act.put, List.setIfInBounds_toArray, List.set_cons_zero, List.set_cons_succ]
      repeat (first | go_big_quiet_skip | (go_big_quiet_want; go_big_quiet_op; go_big_quiet_on))
      refine wpQuiet_nil ?_
      intro W1 hg1
      have G1 := Lib.hid (gr.trans hg1)
      have B1 := Lib.hid (hg1.blk b1)
      clear ha gr hg1 b1
      by_cases hxy : v = x
      · subst hxy
        have HX := (Hat k).out Hx.out Hk.out
        subst HX
        simp only [decide_true]
        clear Hx
        go_wp2
        go_ret
        exact ⟨rfl, G1.out⟩
      · simp only [hxy, decide_false]
        go_wp2
        go_roundw
        case rel => exact ⟨k + 1, by omega, by go_num, G1.out, B1.out, Lib.hid (fun j y h hy => by
            by_cases e : j = k
            · subst e
              have := Hx.out.symm.trans hy
              simp at this
              rwa [← this]
            · exact Hk.out j y (by omega) hy)⟩
        case measure => simp [intOf]; omega
    · obtain rfl : k = n := by omega
      have HX := Hno.out fun j x hj => Hk.out j x (by have := (List.getElem?_eq_some_iff.1 hj).1; have := Hn.out; omega) hj
      subst HX
      go_wp2
      go_ret
      exact ⟨rfl, gr⟩
theorem contains_any (A : Option Addr) (L : List Vrp) (c : Nat) (v : Vrp) (w : World) (hL : RdV w A L) (hl : L.length ≤ maxLen) :
    Calls Try.prog 68 #[.slice A L.length c, .agg (arrV v)] w fun e w' => e = .returned (.bool (decide (v ∈ L))) ∧ G w w' := by
  have h1 := fun (W : World) (h : G w W) => index_any A L c v W (hL.grow h) hl
  have e := idx_pos L v
  have HE := Lib.hid e
  clear e hL hl
  generalize decide (v ∈ L) = d at *
  generalize idx L v = r at *
  go_enter Try.func68, Try.ntmps68
  go_upto_region 1 with fail
  have b1 := heap_alloc_new w (.cells (arrV v) 39)
  have g0 := (G.refl w).alloc (.cells (arrV v) 39)
  obtain ⟨b, hb⟩ : ∃ b, w.heap.size = b := ⟨_, rfl⟩
  rw [hb] at b1 ⊢
  clear hb
  generalize w.alloc (.cells (arrV v) 39) = W at *
  refine region_seq ?_
  repeat (first | go_big_quiet_skip | (go_big_quiet_want; go_big_quiet_op; go_big_quiet_on))
  go_big_quiet_want; refine q_load 39 _ ⟨b, 0, none⟩ (arrV (v)) (at_blk b1) Try.underlying39 rfl (info39v (v)) rfl rfl ?_; go_big_quiet_on
  simp only [Act.put, List.setIfInBounds_toArray, List.set_cons_zero, List.set_cons_succ]
  repeat (first | go_big_quiet_skip | (go_big_quiet_want; go_big_quiet_op; go_big_quiet_on))
  go_big_quiet_want; go_big_quiet_op; refine ⟨_, fun g => cls (h1 _ (g0.trans (G.of W g))), ?_⟩; go_big_quiet_on
  repeat (first | go_big_quiet_skip | (go_big_quiet_want; go_big_quiet_op; go_big_quiet_on))
  refine wpQuiet_nil ?_
  intro W1 hg1
  have g1 := g0.trans hg1
  clear g0 b1 hg1
  clear W
  go_wp2
  go_ret
  exact ⟨by rw [← HE.out]; rfl, g1⟩

def tenV (n : Int) : Vrp := ⟨n, ⟨false, ⟨[10, 0, 0, 0, 0, 0, 0, 0, 0, 0, 0, 0, 0, 0, 0, 0], rfl⟩, 8⟩, 24⟩
def Zv : Array Value := arrV default
theorem ten_any (n : Int) (w : World) : Calls Try.prog 36 #[.int .u32 n] w fun e w' => e = .returned (.agg (arrV (tenV n))) ∧ G w w' := by
  have e : arrV (tenV n) = #[.int .u32 n, .bool false, .int .u8 10, .int .u8 0, .int .u8 0, .int .u8 0, .int .u8 0, .int .u8 0, .int .u8 0, .int .u8 0, .int .u8 0, .int .u8 0, .int .u8 0, .int .u8 0, .int .u8 0, .int .u8 0, .int .u8 0, .int .u8 0, .int .i64 8, .int .i64 24] := rfl
  have i1 := info39v (tenV n)
  have i2 : Zv.size = (arrV (tenV n)).size := by rw [arrV_size]; exact arrV_size _
  have i3 := arrV_one (tenV n)
  have HE := Lib.hid e
  clear e
  generalize arrV (tenV n) = D at *
  go_enter Try.func36, Try.ntmps36
  go_upto_region 1 with fail
  have b1 := heap_alloc_new w (.cells Zv 39)
  have g0 := (G.refl w).alloc (.cells Zv 39)
  obtain ⟨b, hb⟩ : ∃ b, w.heap.size = b := ⟨_, rfl⟩
  have hb0 : w.heap.size ≤ b := by omega
  change Code.wp _ _ _ _ (w.alloc (.cells Zv 39))
  rw [hb] at b1 ⊢
  clear hb
  generalize w.alloc (.cells Zv 39) = W at *
  refine region_head 4 ?_
  simp only [List.take_succ_cons, List.take_zero, List.drop_succ_cons, List.drop_zero]
  repeat (first | go_big_quiet_skip | (go_big_quiet_want; go_big_quiet_op; go_big_quiet_on))
  refine wpQuiet_nil ?_
  intro W1 hg1
  have c1 := hg1.blk b1
  have g1 := g0.trans hg1
  clear b1 g0 hg1
  clear W
  rw [← HE.out]
  clear HE
  refine wl_store 39 _ _ b 0 D Zv 39 c1 (by omega) i1 i3 rfl rfl rfl rfl ?_
  rw [splA_all _ _ i2]
  have b5 := row_set (D := D) c1
  have g5 := g1.row (b := b) hb0 D
  refine wpList_nil ?_
  clear c1 g1
  generalize W1.setRow b D = W2 at *
  go_wp2
  refine bodyPost_ret (results_cell_row rfl _ _ b 39 D (0, 0) _ rfl b5 Try.underlying39 rfl i1) rfl ⟨rfl, g5⟩
end Go.Proofs.Ytedgbmibgddnkaa
