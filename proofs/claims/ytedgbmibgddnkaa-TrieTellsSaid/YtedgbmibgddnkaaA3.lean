/- The walks of the functions that tell which prefix may be, and what an AS may tell. -/
import Derived.Test.YtedgbmibgddnkaaA2
namespace Go.Proofs.Ytedgbmibgddnkaa
open Go.RowKit Ad
set_option linter.unusedSimpArgs false
set_option linter.unusedVariables false
set_option maxRecDepth 100000
theorem one_any (v : Vrp) (w : World) : Calls Try.prog 37 #[.agg (arrV v)] w fun e w' => e = .returned (.bool (one v)) ∧ G w w' := by
  have hr := fun W => right_any v.p W
  cases hv : v.p.right with
  | false =>
    have ho : one v = false := by unfold one; rw [hv]; rfl
    simp only [hv] at hr
    rw [ho]
    clear ho hv
    go_enter Try.func37, Try.ntmps37
    go_upto_region 1 with fail
    have b1 := heap_alloc_new w (.cells (arrV v) 39)
    have g0 := (G.refl w).alloc (.cells (arrV v) 39)
    generalize w.alloc (.cells (arrV v) 39) = W at *
    generalize w.heap.size = b at *
    have k1 := gcell ((blk_cell b1 1).trans (arrV_1 v))
    have k18 := gcell ((blk_cell b1 18).trans (arrV_18 v))
    have k19 := gcell ((blk_cell b1 19).trans (arrV_19 v))
    refine region_all (by kernel_rfl) (by kernel_rfl) ?_
    repeat (first | go_big_quiet_skip | (go_big_quiet_want; go_big_quiet_op; go_big_quiet_on))
    go_big_quiet_want; refine q_load 25 _ ⟨b, 1, none⟩ (arrP (v.p)) (at_ext b1 1 19 (arrV_ext v)) Try.underlying25 rfl (info25p (v.p)) rfl rfl ?_; go_big_quiet_on
    simp only [Act.put, List.setIfInBounds_toArray, List.set_cons_zero, List.set_cons_succ]
    repeat (first | go_big_quiet_skip | (go_big_quiet_want; go_big_quiet_op; go_big_quiet_on))
    go_big_quiet_want; go_big_quiet_op; refine ⟨_, fun g => cls (hr _), ?_⟩; go_big_quiet_on
    repeat (first | go_big_quiet_skip | (go_big_quiet_want; go_big_quiet_op; go_big_quiet_on))
    refine wpQuiet_nil ?_
    intro W1 hg1
    go_wp2
    go_ret
    exact ⟨rfl, g0.trans hg1⟩
  | true =>
    simp only [hv] at hr
    by_cases hm : v.p.len ≤ v.max
    · have ho : one v = decide (v.max ≤ most v.p.v6) := by unfold one; rw [hv]; simp [hm]
      rw [ho]
      clear ho hv
      go_enter Try.func37, Try.ntmps37
      go_upto_region 1 with fail
      have b1 := heap_alloc_new w (.cells (arrV v) 39)
      have g0 := (G.refl w).alloc (.cells (arrV v) 39)
      generalize w.alloc (.cells (arrV v) 39) = W at *
      generalize w.heap.size = b at *
      have k1 := gcell ((blk_cell b1 1).trans (arrV_1 v))
      have k18 := gcell ((blk_cell b1 18).trans (arrV_18 v))
      have k19 := gcell ((blk_cell b1 19).trans (arrV_19 v))
      refine region_all (by kernel_rfl) (by kernel_rfl) ?_
      repeat (first | go_big_quiet_skip | (go_big_quiet_want; go_big_quiet_op; go_big_quiet_on))
      go_big_quiet_want; refine q_load 25 _ ⟨b, 1, none⟩ (arrP (v.p)) (at_ext b1 1 19 (arrV_ext v)) Try.underlying25 rfl (info25p (v.p)) rfl rfl ?_; go_big_quiet_on
      simp only [Act.put, List.setIfInBounds_toArray, List.set_cons_zero, List.set_cons_succ]
      repeat (first | go_big_quiet_skip | (go_big_quiet_want; go_big_quiet_op; go_big_quiet_on))
      go_big_quiet_want; go_big_quiet_op; refine ⟨_, fun g => cls (hr _), ?_⟩; go_big_quiet_on
      repeat (first | go_big_quiet_skip | (go_big_quiet_want; go_big_quiet_op; go_big_quiet_on))
      go_big_quiet_want; go_big_quiet_op; refine ⟨_, fun g => cls_same (rmost_any _ _), ?_⟩; go_big_quiet_on
      repeat (first | go_big_quiet_skip | (go_big_quiet_want; go_big_quiet_op; go_big_quiet_on))
      refine wpQuiet_nil ?_
      intro W1 hg1
      go_wp2
      go_ret
      exact ⟨rfl, g0.trans hg1⟩
    · have ho : one v = false := by unfold one; rw [hv]; simp [hm]
      rw [ho]
      clear ho hv
      go_enter Try.func37, Try.ntmps37
      go_upto_region 1 with fail
      have b1 := heap_alloc_new w (.cells (arrV v) 39)
      have g0 := (G.refl w).alloc (.cells (arrV v) 39)
      generalize w.alloc (.cells (arrV v) 39) = W at *
      generalize w.heap.size = b at *
      have k1 := gcell ((blk_cell b1 1).trans (arrV_1 v))
      have k18 := gcell ((blk_cell b1 18).trans (arrV_18 v))
      have k19 := gcell ((blk_cell b1 19).trans (arrV_19 v))
      refine region_all (by kernel_rfl) (by kernel_rfl) ?_
      repeat (first | go_big_quiet_skip | (go_big_quiet_want; go_big_quiet_op; go_big_quiet_on))
      go_big_quiet_want; refine q_load 25 _ ⟨b, 1, none⟩ (arrP (v.p)) (at_ext b1 1 19 (arrV_ext v)) Try.underlying25 rfl (info25p (v.p)) rfl rfl ?_; go_big_quiet_on
      simp only [Act.put, List.setIfInBounds_toArray, List.set_cons_zero, List.set_cons_succ]
      repeat (first | go_big_quiet_skip | (go_big_quiet_want; go_big_quiet_op; go_big_quiet_on))
      go_big_quiet_want; go_big_quiet_op; refine ⟨_, fun g => cls (hr _), ?_⟩; go_big_quiet_on
      repeat (first | go_big_quiet_skip | (go_big_quiet_want; go_big_quiet_op; go_big_quiet_on))
      refine wpQuiet_nil ?_
      intro W1 hg1
      go_wp2
      go_ret
      exact ⟨rfl, g0.trans hg1⟩
theorem right_of (p : Pfx) (h0 : 0 ≤ p.len) (h1 : p.len ≤ most p.v6) (h : ∀ i : Nat, i < 128 → p.len ≤ (i : Int) → bit p.addr i = 0) : p.right = true := (right_iff p).2 ⟨h0, h1, h⟩
theorem not_right_low (p : Pfx) (h : p.len < 0) : p.right = false := by
  cases hr : p.right
  · rfl
  · have := (right_iff p).1 hr; omega
theorem not_right_high (p : Pfx) (h : most p.v6 < p.len) : p.right = false := by
  cases hr : p.right
  · rfl
  · have := (right_iff p).1 hr; omega
theorem not_right_bit (p : Pfx) (i : Nat) (hi : i < 128) (hl : p.len ≤ (i : Int)) (h : bit p.addr i = 1) : p.right = false := by
  cases hr : p.right
  · rfl
  · have := ((right_iff p).1 hr).2.2 i hi hl; omega

theorem right2_any (p : Pfx) (w : World) : Calls Try.prog 48 #[.agg (arrP p)] w fun e w' => e = .returned (.bool p.right) ∧ G w w' := by
  by_cases h0 : p.len < 0
  · rw [not_right_low p h0]
    go_enter Try.func48, Try.ntmps48
    go_upto_region 1 with fail
    have b1 := heap_alloc_new w (.cells (arrP p) 25)
    have g0 := (G.refl w).alloc (.cells (arrP p) 25)
    have k0 := gcell ((blk_cell b1 0).trans (arrP_0 p))
    have k17 := gcell ((blk_cell b1 17).trans (arrP_17 p))
    generalize w.alloc (.cells (arrP p) 25) = W at *
    generalize w.heap.size = b at *
    refine region_all (by kernel_rfl) (by kernel_rfl) ?_
    repeat (first | go_big_quiet_skip | (go_big_quiet_want; go_big_quiet_op; go_big_quiet_on))
    refine wpQuiet_nil ?_
    intro W1 hg1
    go_wp2
    go_ret
    exact ⟨rfl, g0.trans hg1⟩
  · by_cases h1 : most p.v6 < p.len
    · rw [not_right_high p h1]
      go_enter Try.func48, Try.ntmps48
      go_upto_region 1 with fail
      have b1 := heap_alloc_new w (.cells (arrP p) 25)
      have g0 := (G.refl w).alloc (.cells (arrP p) 25)
      have k0 := gcell ((blk_cell b1 0).trans (arrP_0 p))
      have k17 := gcell ((blk_cell b1 17).trans (arrP_17 p))
      generalize w.alloc (.cells (arrP p) 25) = W at *
      generalize w.heap.size = b at *
      refine region_all (by kernel_rfl) (by kernel_rfl) ?_
      repeat (first | go_big_quiet_skip | (go_big_quiet_want; go_big_quiet_op; go_big_quiet_on))
      go_big_quiet_want; go_big_quiet_op; refine ⟨_, fun g => cls_same (most2_any _ _), ?_⟩; go_big_quiet_on
      repeat (first | go_big_quiet_skip | (go_big_quiet_want; go_big_quiet_op; go_big_quiet_on))
      refine wpQuiet_nil ?_
      intro W1 hg1
      go_wp2
      go_ret
      exact ⟨rfl, g0.trans hg1⟩
    · have hm := most_le p.v6
      obtain ⟨n, hn⟩ := Int.eq_ofNat_of_zero_le (show 0 ≤ p.len by omega)
      have Hr1 := Lib.hid (right_of p (by omega) (by omega))
      have Hr2 := Lib.hid (not_right_bit p)
      have hn128 : n ≤ 128 := by omega
      have H0 := Lib.hid h0
      have h1' : ¬ most p.v6 < (n : Int) := by omega
      have h0' : ¬ (n : Int) < 0 := by omega
      have Hn := Lib.hid hn
      go_enter Try.func48, Try.ntmps48
      go_upto_region 1 with fail
      have b1 := heap_alloc_new w (.cells (arrP p) 25)
      have g0 := (G.refl w).alloc (.cells (arrP p) 25)
      have k0 := gcell ((blk_cell b1 0).trans (arrP_0 p))
      have k17 := gcell ((blk_cell b1 17).trans (arrP_17 p))
      generalize w.alloc (.cells (arrP p) 25) = W at *
      generalize w.heap.size = b at *
      rw [hn] at k17
      clear hn h0 h1
      refine region_all (by kernel_rfl) (by kernel_rfl) ?_
      repeat (first | go_big_quiet_skip | (go_big_quiet_want; go_big_quiet_op; go_big_quiet_on))
      go_big_quiet_want; go_big_quiet_op; refine ⟨_, fun g => cls_same (most2_any _ _), ?_⟩; go_big_quiet_on
      repeat (first | go_big_quiet_skip | (go_big_quiet_want; go_big_quiet_op; go_big_quiet_on))
      refine wpQuiet_nil ?_
      intro W1 hg1
      have b2 := hg1.blk b1
      have g2 := g0.trans hg1
      have c17 := (blk_cell b2 17).trans (arrP_17 p)
      rw [Hn.out] at c17
      clear b1 g0 k0 k17 hg1
      clear W
      go_wp2
      go_loopw [3, 17, 18, 19, 20, 21, 22, 23, 24, 25] (fun i _ _ _ _ _ _ _ _ _ wr => ∃ k : Nat, n ≤ k ∧ k ≤ 128 ∧ i = .int .i64 k ∧ wr.heap[b]? = some (.cells (arrP p) 25 (0, 0)) ∧ G w wr ∧ Hid (∀ j, n ≤ j → j < k → bit p.addr j = 0)) (fun i _ _ _ _ _ _ _ _ _ _ => 128 - (intOf i).toNat)
      case atStart => exact ⟨n, by omega, by omega, rfl, b2, g2, Lib.hid (fun j h1 h2 => by omega)⟩
      case round =>
        obtain ⟨k, hk0, hk1, rfl, b1, gr, Hk⟩ := hrel
        clear b2 g2 c17
        by_cases hlt : k < 128
        · go_upto_region 6 with fail
          refine region_seq ?_
          repeat (first | go_big_quiet_skip | (go_big_quiet_want; go_big_quiet_op; go_big_quiet_on))
          go_big_quiet_want; refine q_load 23 _ ⟨b, 1, none⟩ (arrA (p.addr)) (at_ext b1 1 17 (arrP_ext p)) Try.underlying23 rfl (info23a (p.addr)) rfl rfl ?_; go_big_quiet_on
          simp only [Act.put, List.setIfInBounds_toArray, List.set_cons_zero, List.set_cons_succ]
          repeat (first | go_big_quiet_skip | (go_big_quiet_want; go_big_quiet_op; go_big_quiet_on))
          go_big_quiet_want; go_big_quiet_op; refine ⟨_, fun g => cls (rbit_any p.addr k hlt _), ?_⟩; go_big_quiet_on
          repeat (first | go_big_quiet_skip | (go_big_quiet_want; go_big_quiet_op; go_big_quiet_on))
          refine wpQuiet_nil ?_
          intro W1 hg1
          have b3 := hg1.blk b1
          have g3 := gr.trans hg1
          have hb2 := bit_lt p.addr k
          by_cases hb : bit p.addr k = 0
          · have B3 := Lib.hid b3
            have G3 := Lib.hid g3
            have HB := Lib.hid hb
            rw [hb]
            clear b1 gr hg1 b3 g3 hb hb2
            go_wp2
            go_roundw
            case rel => exact ⟨k + 1, by omega, by omega, by go_num, B3.out, G3.out, Lib.hid (fun j h1 h2 => by
              by_cases e : j = k
              · rw [e]; exact HB.out
              · exact Hk.out j h1 (by omega))⟩
            case measure => simp [intOf]; omega
          · have hb1 : bit p.addr k = 1 := by omega
            have hf := Hr2.out k hlt (by have := Hn.out; omega) hb1
            have G3 := Lib.hid g3
            have HF := Lib.hid hf
            rw [hb1]
            clear b1 gr hg1 b3 g3 hb hb1 hb2 hf
            go_wp2
            go_ret
            exact ⟨by rw [HF.out]; rfl, G3.out⟩
        · obtain rfl : k = 128 := by omega
          have hf := Hr1.out (fun i hi hl => Hk.out i (by have := Hn.out; omega) hi)
          have HF := Lib.hid hf
          clear hf
          go_wp2
          go_ret
          exact ⟨by rw [HF.out]; rfl, gr⟩
theorem one2_any (v : Vrp) (w : World) : Calls Try.prog 22 #[.agg (arrV v)] w fun e w' => e = .returned (.bool (one v)) ∧ G w w' := by
  have hr := fun W => right2_any v.p W
  cases hv : v.p.right with
  | false =>
    have ho : one v = false := by unfold one; rw [hv]; rfl
    simp only [hv] at hr
    rw [ho]
    clear ho hv
    go_enter Try.func22, Try.ntmps22
    go_upto_region 1 with fail
    have b1 := heap_alloc_new w (.cells (arrV v) 39)
    have g0 := (G.refl w).alloc (.cells (arrV v) 39)
    generalize w.alloc (.cells (arrV v) 39) = W at *
    generalize w.heap.size = b at *
    have k1 := gcell ((blk_cell b1 1).trans (arrV_1 v))
    have k18 := gcell ((blk_cell b1 18).trans (arrV_18 v))
    have k19 := gcell ((blk_cell b1 19).trans (arrV_19 v))
    refine region_all (by kernel_rfl) (by kernel_rfl) ?_
    repeat (first | go_big_quiet_skip | (go_big_quiet_want; go_big_quiet_op; go_big_quiet_on))
    go_big_quiet_want; refine q_load 25 _ ⟨b, 1, none⟩ (arrP (v.p)) (at_ext b1 1 19 (arrV_ext v)) Try.underlying25 rfl (info25p (v.p)) rfl rfl ?_; go_big_quiet_on
    simp only [Act.put, List.setIfInBounds_toArray, List.set_cons_zero, List.set_cons_succ]
    repeat (first | go_big_quiet_skip | (go_big_quiet_want; go_big_quiet_op; go_big_quiet_on))
    go_big_quiet_want; go_big_quiet_op; refine ⟨_, fun g => cls (hr _), ?_⟩; go_big_quiet_on
    repeat (first | go_big_quiet_skip | (go_big_quiet_want; go_big_quiet_op; go_big_quiet_on))
    refine wpQuiet_nil ?_
    intro W1 hg1
    go_wp2
    go_ret
    exact ⟨rfl, g0.trans hg1⟩
  | true =>
    simp only [hv] at hr
    by_cases hm : v.p.len ≤ v.max
    · have ho : one v = decide (v.max ≤ most v.p.v6) := by unfold one; rw [hv]; simp [hm]
      rw [ho]
      clear ho hv
      go_enter Try.func22, Try.ntmps22
      go_upto_region 1 with fail
      have b1 := heap_alloc_new w (.cells (arrV v) 39)
      have g0 := (G.refl w).alloc (.cells (arrV v) 39)
      generalize w.alloc (.cells (arrV v) 39) = W at *
      generalize w.heap.size = b at *
      have k1 := gcell ((blk_cell b1 1).trans (arrV_1 v))
      have k18 := gcell ((blk_cell b1 18).trans (arrV_18 v))
      have k19 := gcell ((blk_cell b1 19).trans (arrV_19 v))
      refine region_all (by kernel_rfl) (by kernel_rfl) ?_
      repeat (first | go_big_quiet_skip | (go_big_quiet_want; go_big_quiet_op; go_big_quiet_on))
      go_big_quiet_want; refine q_load 25 _ ⟨b, 1, none⟩ (arrP (v.p)) (at_ext b1 1 19 (arrV_ext v)) Try.underlying25 rfl (info25p (v.p)) rfl rfl ?_; go_big_quiet_on
      simp only [Act.put, List.setIfInBounds_toArray, List.set_cons_zero, List.set_cons_succ]
      repeat (first | go_big_quiet_skip | (go_big_quiet_want; go_big_quiet_op; go_big_quiet_on))
      go_big_quiet_want; go_big_quiet_op; refine ⟨_, fun g => cls (hr _), ?_⟩; go_big_quiet_on
      repeat (first | go_big_quiet_skip | (go_big_quiet_want; go_big_quiet_op; go_big_quiet_on))
      go_big_quiet_want; go_big_quiet_op; refine ⟨_, fun g => cls_same (most2_any _ _), ?_⟩; go_big_quiet_on
      repeat (first | go_big_quiet_skip | (go_big_quiet_want; go_big_quiet_op; go_big_quiet_on))
      refine wpQuiet_nil ?_
      intro W1 hg1
      go_wp2
      go_ret
      exact ⟨rfl, g0.trans hg1⟩
    · have ho : one v = false := by unfold one; rw [hv]; simp [hm]
      rw [ho]
      clear ho hv
      go_enter Try.func22, Try.ntmps22
      go_upto_region 1 with fail
      have b1 := heap_alloc_new w (.cells (arrV v) 39)
      have g0 := (G.refl w).alloc (.cells (arrV v) 39)
      generalize w.alloc (.cells (arrV v) 39) = W at *
      generalize w.heap.size = b at *
      have k1 := gcell ((blk_cell b1 1).trans (arrV_1 v))
      have k18 := gcell ((blk_cell b1 18).trans (arrV_18 v))
      have k19 := gcell ((blk_cell b1 19).trans (arrV_19 v))
      refine region_all (by kernel_rfl) (by kernel_rfl) ?_
      repeat (first | go_big_quiet_skip | (go_big_quiet_want; go_big_quiet_op; go_big_quiet_on))
      go_big_quiet_want; refine q_load 25 _ ⟨b, 1, none⟩ (arrP (v.p)) (at_ext b1 1 19 (arrV_ext v)) Try.underlying25 rfl (info25p (v.p)) rfl rfl ?_; go_big_quiet_on
      simp only [Act.put, List.setIfInBounds_toArray, List.set_cons_zero, List.set_cons_succ]
      repeat (first | go_big_quiet_skip | (go_big_quiet_want; go_big_quiet_op; go_big_quiet_on))
      go_big_quiet_want; go_big_quiet_op; refine ⟨_, fun g => cls (hr _), ?_⟩; go_big_quiet_on
      repeat (first | go_big_quiet_skip | (go_big_quiet_want; go_big_quiet_op; go_big_quiet_on))
      refine wpQuiet_nil ?_
      intro W1 hg1
      go_wp2
      go_ret
      exact ⟨rfl, g0.trans hg1⟩
end Go.Proofs.Ytedgbmibgddnkaa
