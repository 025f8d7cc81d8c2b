/- Walks over rows of what an AS may tell: whether two are the same, whether one stands there. -/
import Derived.Test.YtedgbmibgddnkaaF
import Derived.Deep.CutBlock
namespace Go.Proofs.Ytedgbmibgddnkaa
open Go.RowKit Ad
set_option linter.unusedSimpArgs false
set_option linter.unusedVariables false
set_option maxRecDepth 100000
set_option maxHeartbeats 1000000
theorem cl2_any (x y : Vrp) (w : World) : Calls Try.prog 42 #[.agg (arrV x), .agg (arrV y)] w fun e w' => e = .returned (.int .i64 (cmpV x y)) ∧ G w w' := by
  have h1 := fun W => cmpV_any x y W
  generalize cmpV x y = r at *
  go_enter Try.func42, Try.ntmps42
  go_upto_region 1 with fail
  have b1 := heap_alloc2_old w (.cells (arrV x) 39) (.cells (arrV y) 39)
  have b2 := heap_alloc2_new w (.cells (arrV x) 39) (.cells (arrV y) 39)
  have g0 := ((G.refl w).alloc (.cells (arrV x) 39)).alloc (.cells (arrV y) 39)
  generalize (w.alloc (.cells (arrV x) 39)).alloc (.cells (arrV y) 39) = W at *
  obtain ⟨b, hb⟩ : ∃ b, w.heap.size = b := ⟨_, rfl⟩
  have hb0 : w.heap.size ≤ b := by omega
  rw [hb] at b1 b2 ⊢
  clear hb
  refine region_seq ?_
  repeat (first | go_big_quiet_skip | (go_big_quiet_want; go_big_quiet_op; go_big_quiet_on))
  go_big_quiet_want; refine q_load 39 _ ⟨b, 0, none⟩ (arrV (x)) (at_blk b1) Try.underlying39 rfl (info39v (x)) rfl rfl ?_; go_big_quiet_on
  simp only [Act.put, List.setIfInBounds_toArray, List.set_cons_zero, List.set_cons_succ]
  repeat (first | go_big_quiet_skip | (go_big_quiet_want; go_big_quiet_op; go_big_quiet_on))
  go_big_quiet_want; refine q_load 39 _ ⟨b + 1, 0, none⟩ (arrV (y)) (at_blk b2) Try.underlying39 rfl (info39v (y)) rfl rfl ?_; go_big_quiet_on
  simp only [Act.put, List.setIfInBounds_toArray, List.set_cons_zero, List.set_cons_succ]
  repeat (first | go_big_quiet_skip | (go_big_quiet_want; go_big_quiet_op; go_big_quiet_on))
  go_big_quiet_want; go_big_quiet_op; refine ⟨_, fun g => cls (h1 _), ?_⟩; go_big_quiet_on
  repeat (first | go_big_quiet_skip | (go_big_quiet_want; go_big_quiet_op; go_big_quiet_on))
  refine wpQuiet_nil ?_
  intro W1 hg1
  have g1 := g0.trans hg1
  clear b1 b2 g0 hg1
  clear W
  have G1 := Lib.hid g1
  clear g1
  go_wp2
  go_ret
  exact ⟨rfl, G1.out⟩

theorem same_any (A B : Option Addr) (L M : List Vrp) (c d : Nat) (w : World) (hL : RdV w A L) (hM : RdV w B M) (hl : L.length ≤ maxLen) (hm : M.length ≤ maxLen) :
    Calls Try.prog 13 #[.slice A L.length c, .slice B M.length d] w fun e w' => e = .returned (.bool (decide (L = M))) ∧ G w w' := by
  by_cases hlen : L.length = M.length
  · obtain ⟨n, hn⟩ : ∃ n, L.length = n := ⟨_, rfl⟩
    have hn' : M.length = n := by omega
    obtain ⟨v, hv⟩ : ∃ v, decide (L = M) = v := ⟨_, rfl⟩
    have Hv := Lib.hid hv
    have HL := Lib.hid hL
    have HM := Lib.hid hM
    have Hn := Lib.hid hn
    have Hn' := Lib.hid hn'
    rw [hv, hn, hn']
    rw [hn] at hl
    simp only [maxLen] at hl
    clear hv hL hM hn hn' hm hlen
    go_enter Try.func13, Try.ntmps13
    go_wp2
    go_loopw [5, 11, 12, 13, 14, 15, 16, 17, 18, 19, 20, 21, 22, 23, 24, 25] (fun i _ _ _ _ _ _ _ _ _ _ _ _ _ _ _ wr => ∃ k : Nat, k ≤ n ∧ i = .int .i64 k ∧ G w wr ∧ Hid (∀ j, j < k → L[j]? = M[j]?)) (fun i _ _ _ _ _ _ _ _ _ _ _ _ _ _ _ _ => n - (intOf i).toNat)
    case atStart => exact ⟨0, by omega, rfl, G.refl _, Lib.hid (fun j h => by omega)⟩
    case round =>
      obtain ⟨k, hk, rfl, gr, Hk⟩ := hrel
      by_cases hlt : k < n
      · obtain ⟨x, hx⟩ : ∃ x, L[k]? = some x := ⟨_, List.getElem?_eq_getElem (by have := Hn.out; omega)⟩
        obtain ⟨y, hy⟩ : ∃ y, M[k]? = some y := ⟨_, List.getElem?_eq_getElem (by have := Hn'.out; omega)⟩
        obtain ⟨ad, rfl, ha⟩ := HL.out k x hx
        obtain ⟨bd, rfl, hb⟩ := HM.out k y hy
        replace ha := ha.grow gr
        replace hb := hb.grow gr
        have Hx := Lib.hid hx
        have Hy := Lib.hid hy
        clear hx hy
        go_upto_region 6 with fail
        refine region_all (by kernel_rfl) (by kernel_rfl) ?_
        repeat (first | go_big_quiet_skip | (go_big_quiet_want; go_big_quiet_op; go_big_quiet_on))
        go_big_quiet_want; refine q_load 39 _ (ad.add (k * 20)) (arrV (x)) ha Try.underlying39 rfl (info39v (x)) rfl rfl ?_; go_big_quiet_on
        simp only [Act.put, List.setIfInBounds_toArray, List.set_cons_zero, List.set_cons_succ]
        repeat (first | go_big_quiet_skip | (go_big_quiet_want; go_big_quiet_op; go_big_quiet_on))
        go_big_quiet_want; refine q_load 39 _ (bd.add (k * 20)) (arrV (y)) hb Try.underlying39 rfl (info39v (y)) rfl rfl ?_; go_big_quiet_on
        simp only [Act.put, List.setIfInBounds_toArray, List.set_cons_zero, List.set_cons_succ]
        repeat (first | go_big_quiet_skip | (go_big_quiet_want; go_big_quiet_op; go_big_quiet_on))
        refine wpQuiet_nil ?_
        intro W1 hg1
        have G1 := Lib.hid (gr.trans hg1)
        clear ha hb gr hg1
        by_cases hxy : x = y
        · subst hxy
          have HX := Lib.hid (Hx.out.trans Hy.out.symm)
          simp only [ne_eq, not_true_eq_false, decide_false, decide_true, Bool.not_true]
          clear Hx Hy
          go_wp2
          go_roundw
          case rel => exact ⟨k + 1, by omega, by go_num, G1.out, Lib.hid (fun j h => by
            by_cases e : j = k
            · rw [e]; exact HX.out
            · exact Hk.out j (by omega))⟩
          case measure => simp [intOf]; omega
        · have hf : v = false := by
            rw [← Hv.out, decide_eq_false_iff_not]
            rintro rfl
            have := Hx.out.symm.trans Hy.out
            exact hxy (by simpa using this)
          subst hf
          simp only [ne_eq, hxy, not_false_eq_true, decide_true, decide_false, Bool.not_false]
          clear Hx Hy
          go_wp2
          go_ret
          exact ⟨rfl, G1.out⟩
      · obtain rfl : k = n := by omega
        have hf : v = true := by
          rw [← Hv.out, decide_eq_true_iff]
          apply List.ext_getElem?
          intro j
          by_cases hj : j < k
          · exact Hk.out j hj
          · rw [List.getElem?_eq_none (by have := Hn.out; omega), List.getElem?_eq_none (by have := Hn'.out; omega)]
        subst hf
        go_wp2
        go_ret
        exact ⟨rfl, gr⟩
  · have e : decide (L = M) = false := by
      rw [decide_eq_false_iff_not]; rintro rfl; exact hlen rfl
    rw [e]
    clear e
    go_enter Try.func13, Try.ntmps13
    go_wp2
    go_ret
    exact ⟨rfl, G.refl _⟩
end Go.Proofs.Ytedgbmibgddnkaa
