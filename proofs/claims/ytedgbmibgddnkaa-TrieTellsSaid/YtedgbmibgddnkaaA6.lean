/- The walks of the functions that order prefixes, and what an AS may tell. -/
import Derived.Test.YtedgbmibgddnkaaA5
namespace Go.Proofs.Ytedgbmibgddnkaa
open Go.RowKit Ad
set_option linter.unusedSimpArgs false
set_option linter.unusedVariables false
set_option maxRecDepth 100000
set_option maxHeartbeats 1000000
theorem cmpP_any (p q : Pfx) (w : World) : Calls Try.prog 72 #[.agg (arrP p), .agg (arrP q)] w fun e w' => e = .returned (.int .i64 (cmpP p q)) ∧ G w w' := by
  obtain ⟨v, hv⟩ : ∃ v, p.v6 = v := ⟨_, rfl⟩
  obtain ⟨v', hv'⟩ : ∃ v', q.v6 = v' := ⟨_, rfl⟩
  cases v <;> cases v'
  ·
    have hc : cmpP p q = if cmpL p.addr.l q.addr.l ≠ 0 then cmpL p.addr.l q.addr.l else cmpI p.len q.len := by unfold cmpP; simp [hv, hv']
    rw [hc]
    clear hc
    have hcall := fun (a b : Addr) (c d : Nat) (W : World) ha hb => bcmpA_any p.addr q.addr a b c d W ha hb
    generalize cmpL p.addr.l q.addr.l = r at *
    by_cases hr : r = 0
    · rw [if_neg (by simp [hr])]
      subst hr
      rcases cmpI_cases p.len q.len with ⟨h, hc⟩ | ⟨h, hc⟩ | ⟨h, hc⟩
      all_goals
        rw [hc]
        clear hc
        have HV := Lib.hid hv
        have HV' := Lib.hid hv'
        clear hv hv'
        go_enter Try.func72, Try.ntmps72
        go_upto_region 1 with fail
        have b1 := heap_alloc2_old w (.cells (arrP p) 25) (.cells (arrP q) 25)
        have b2 := heap_alloc2_new w (.cells (arrP p) 25) (.cells (arrP q) 25)
        have g0 := ((G.refl w).alloc (.cells (arrP p) 25)).alloc (.cells (arrP q) 25)
        generalize (w.alloc (.cells (arrP p) 25)).alloc (.cells (arrP q) 25) = W at *
        obtain ⟨b, hb⟩ : ∃ b, w.heap.size = b := ⟨_, rfl⟩
        have hb0 : w.heap.size ≤ b := by omega
        rw [hb] at b1 b2 ⊢
        clear hb
        have k0 := (blk_cell b1 0).trans (arrP_0 p)
        have k17 := (blk_cell b1 17).trans (arrP_17 p)
        have j0 := (blk_cell b2 0).trans (arrP_0 q)
        have j17 := (blk_cell b2 17).trans (arrP_17 q)
        rw [HV.out] at k0
        rw [HV'.out] at j0
        go_upto_region 5 with fail
        clear k0 k17 j0 j17
        refine region_all (by kernel_rfl) (by kernel_rfl) ?_
        repeat (first | go_big_quiet_skip | (go_big_quiet_want; go_big_quiet_op; go_big_quiet_on))
        go_big_quiet_want; go_big_quiet_op; refine ⟨_, fun g => cls_same (hcall ⟨b, 1, none⟩ ⟨b + 1, 1, none⟩ _ _ _ ((at_ext b1 1 17 (arrP_ext p)).grow (G.of W g)) ((at_ext b2 1 17 (arrP_ext q)).grow (G.of W g))), ?_⟩; go_big_quiet_on
        repeat (first | go_big_quiet_skip | (go_big_quiet_want; go_big_quiet_op; go_big_quiet_on))
        refine wpQuiet_nil ?_
        intro W1 hg1
        have c1 := hg1.blk b1
        have c2 := hg1.blk b2
        have g1 := g0.trans hg1
        clear b1 b2 g0 hg1
        clear W
        have k17 := (blk_cell c1 17).trans (arrP_17 p)
        have j17 := (blk_cell c2 17).trans (arrP_17 q)
        have G1 := Lib.hid g1
        clear g1 c1 c2
        go_wp2
        go_ret
        exact ⟨rfl, G1.out⟩
    · rw [if_pos hr]
      have HV := Lib.hid hv
      have HV' := Lib.hid hv'
      clear hv hv'
      go_enter Try.func72, Try.ntmps72
      go_upto_region 1 with fail
      have b1 := heap_alloc2_old w (.cells (arrP p) 25) (.cells (arrP q) 25)
      have b2 := heap_alloc2_new w (.cells (arrP p) 25) (.cells (arrP q) 25)
      have g0 := ((G.refl w).alloc (.cells (arrP p) 25)).alloc (.cells (arrP q) 25)
      generalize (w.alloc (.cells (arrP p) 25)).alloc (.cells (arrP q) 25) = W at *
      obtain ⟨b, hb⟩ : ∃ b, w.heap.size = b := ⟨_, rfl⟩
      have hb0 : w.heap.size ≤ b := by omega
      rw [hb] at b1 b2 ⊢
      clear hb
      have k0 := (blk_cell b1 0).trans (arrP_0 p)
      have k17 := (blk_cell b1 17).trans (arrP_17 p)
      have j0 := (blk_cell b2 0).trans (arrP_0 q)
      have j17 := (blk_cell b2 17).trans (arrP_17 q)
      rw [HV.out] at k0
      rw [HV'.out] at j0
      go_upto_region 5 with fail
      clear k0 k17 j0 j17
      refine region_all (by kernel_rfl) (by kernel_rfl) ?_
      repeat (first | go_big_quiet_skip | (go_big_quiet_want; go_big_quiet_op; go_big_quiet_on))
      go_big_quiet_want; go_big_quiet_op; refine ⟨_, fun g => cls_same (hcall ⟨b, 1, none⟩ ⟨b + 1, 1, none⟩ _ _ _ ((at_ext b1 1 17 (arrP_ext p)).grow (G.of W g)) ((at_ext b2 1 17 (arrP_ext q)).grow (G.of W g))), ?_⟩; go_big_quiet_on
      repeat (first | go_big_quiet_skip | (go_big_quiet_want; go_big_quiet_op; go_big_quiet_on))
      refine wpQuiet_nil ?_
      intro W1 hg1
      have c1 := hg1.blk b1
      have c2 := hg1.blk b2
      have g1 := g0.trans hg1
      clear b1 b2 g0 hg1
      clear W
      have k17 := (blk_cell c1 17).trans (arrP_17 p)
      have j17 := (blk_cell c2 17).trans (arrP_17 q)
      have G1 := Lib.hid g1
      clear g1 c1 c2
      go_wp2
      go_ret
      exact ⟨rfl, G1.out⟩
  ·
    have hc : cmpP p q = -1 := by unfold cmpP; simp [hv, hv']
    rw [hc]
    clear hc
    have HV := Lib.hid hv
    have HV' := Lib.hid hv'
    clear hv hv'
    go_enter Try.func72, Try.ntmps72
    go_upto_region 1 with fail
    have b1 := heap_alloc2_old w (.cells (arrP p) 25) (.cells (arrP q) 25)
    have b2 := heap_alloc2_new w (.cells (arrP p) 25) (.cells (arrP q) 25)
    have g0 := ((G.refl w).alloc (.cells (arrP p) 25)).alloc (.cells (arrP q) 25)
    generalize (w.alloc (.cells (arrP p) 25)).alloc (.cells (arrP q) 25) = W at *
    obtain ⟨b, hb⟩ : ∃ b, w.heap.size = b := ⟨_, rfl⟩
    have hb0 : w.heap.size ≤ b := by omega
    rw [hb] at b1 b2 ⊢
    clear hb
    have k0 := (blk_cell b1 0).trans (arrP_0 p)
    have k17 := (blk_cell b1 17).trans (arrP_17 p)
    have j0 := (blk_cell b2 0).trans (arrP_0 q)
    have j17 := (blk_cell b2 17).trans (arrP_17 q)
    rw [HV.out] at k0
    rw [HV'.out] at j0
    go_wp2
    go_ret
    exact ⟨rfl, g0⟩
  ·
    have hc : cmpP p q = 1 := by unfold cmpP; simp [hv, hv']
    rw [hc]
    clear hc
    have HV := Lib.hid hv
    have HV' := Lib.hid hv'
    clear hv hv'
    go_enter Try.func72, Try.ntmps72
    go_upto_region 1 with fail
    have b1 := heap_alloc2_old w (.cells (arrP p) 25) (.cells (arrP q) 25)
    have b2 := heap_alloc2_new w (.cells (arrP p) 25) (.cells (arrP q) 25)
    have g0 := ((G.refl w).alloc (.cells (arrP p) 25)).alloc (.cells (arrP q) 25)
    generalize (w.alloc (.cells (arrP p) 25)).alloc (.cells (arrP q) 25) = W at *
    obtain ⟨b, hb⟩ : ∃ b, w.heap.size = b := ⟨_, rfl⟩
    have hb0 : w.heap.size ≤ b := by omega
    rw [hb] at b1 b2 ⊢
    clear hb
    have k0 := (blk_cell b1 0).trans (arrP_0 p)
    have k17 := (blk_cell b1 17).trans (arrP_17 p)
    have j0 := (blk_cell b2 0).trans (arrP_0 q)
    have j17 := (blk_cell b2 17).trans (arrP_17 q)
    rw [HV.out] at k0
    rw [HV'.out] at j0
    go_wp2
    go_ret
    exact ⟨rfl, g0⟩
  ·
    have hc : cmpP p q = if cmpL p.addr.l q.addr.l ≠ 0 then cmpL p.addr.l q.addr.l else cmpI p.len q.len := by unfold cmpP; simp [hv, hv']
    rw [hc]
    clear hc
    have hcall := fun (a b : Addr) (c d : Nat) (W : World) ha hb => bcmpA_any p.addr q.addr a b c d W ha hb
    generalize cmpL p.addr.l q.addr.l = r at *
    by_cases hr : r = 0
    · rw [if_neg (by simp [hr])]
      subst hr
      rcases cmpI_cases p.len q.len with ⟨h, hc⟩ | ⟨h, hc⟩ | ⟨h, hc⟩
      all_goals
        rw [hc]
        clear hc
        have HV := Lib.hid hv
        have HV' := Lib.hid hv'
        clear hv hv'
        go_enter Try.func72, Try.ntmps72
        go_upto_region 1 with fail
        have b1 := heap_alloc2_old w (.cells (arrP p) 25) (.cells (arrP q) 25)
        have b2 := heap_alloc2_new w (.cells (arrP p) 25) (.cells (arrP q) 25)
        have g0 := ((G.refl w).alloc (.cells (arrP p) 25)).alloc (.cells (arrP q) 25)
        generalize (w.alloc (.cells (arrP p) 25)).alloc (.cells (arrP q) 25) = W at *
        obtain ⟨b, hb⟩ : ∃ b, w.heap.size = b := ⟨_, rfl⟩
        have hb0 : w.heap.size ≤ b := by omega
        rw [hb] at b1 b2 ⊢
        clear hb
        have k0 := (blk_cell b1 0).trans (arrP_0 p)
        have k17 := (blk_cell b1 17).trans (arrP_17 p)
        have j0 := (blk_cell b2 0).trans (arrP_0 q)
        have j17 := (blk_cell b2 17).trans (arrP_17 q)
        rw [HV.out] at k0
        rw [HV'.out] at j0
        go_upto_region 5 with fail
        clear k0 k17 j0 j17
        refine region_all (by kernel_rfl) (by kernel_rfl) ?_
        repeat (first | go_big_quiet_skip | (go_big_quiet_want; go_big_quiet_op; go_big_quiet_on))
        go_big_quiet_want; go_big_quiet_op; refine ⟨_, fun g => cls_same (hcall ⟨b, 1, none⟩ ⟨b + 1, 1, none⟩ _ _ _ ((at_ext b1 1 17 (arrP_ext p)).grow (G.of W g)) ((at_ext b2 1 17 (arrP_ext q)).grow (G.of W g))), ?_⟩; go_big_quiet_on
        repeat (first | go_big_quiet_skip | (go_big_quiet_want; go_big_quiet_op; go_big_quiet_on))
        refine wpQuiet_nil ?_
        intro W1 hg1
        have c1 := hg1.blk b1
        have c2 := hg1.blk b2
        have g1 := g0.trans hg1
        clear b1 b2 g0 hg1
        clear W
        have k17 := (blk_cell c1 17).trans (arrP_17 p)
        have j17 := (blk_cell c2 17).trans (arrP_17 q)
        have G1 := Lib.hid g1
        clear g1 c1 c2
        go_wp2
        go_ret
        exact ⟨rfl, G1.out⟩
    · rw [if_pos hr]
      have HV := Lib.hid hv
      have HV' := Lib.hid hv'
      clear hv hv'
      go_enter Try.func72, Try.ntmps72
      go_upto_region 1 with fail
      have b1 := heap_alloc2_old w (.cells (arrP p) 25) (.cells (arrP q) 25)
      have b2 := heap_alloc2_new w (.cells (arrP p) 25) (.cells (arrP q) 25)
      have g0 := ((G.refl w).alloc (.cells (arrP p) 25)).alloc (.cells (arrP q) 25)
      generalize (w.alloc (.cells (arrP p) 25)).alloc (.cells (arrP q) 25) = W at *
      obtain ⟨b, hb⟩ : ∃ b, w.heap.size = b := ⟨_, rfl⟩
      have hb0 : w.heap.size ≤ b := by omega
      rw [hb] at b1 b2 ⊢
      clear hb
      have k0 := (blk_cell b1 0).trans (arrP_0 p)
      have k17 := (blk_cell b1 17).trans (arrP_17 p)
      have j0 := (blk_cell b2 0).trans (arrP_0 q)
      have j17 := (blk_cell b2 17).trans (arrP_17 q)
      rw [HV.out] at k0
      rw [HV'.out] at j0
      go_upto_region 5 with fail
      clear k0 k17 j0 j17
      refine region_all (by kernel_rfl) (by kernel_rfl) ?_
      repeat (first | go_big_quiet_skip | (go_big_quiet_want; go_big_quiet_op; go_big_quiet_on))
      go_big_quiet_want; go_big_quiet_op; refine ⟨_, fun g => cls_same (hcall ⟨b, 1, none⟩ ⟨b + 1, 1, none⟩ _ _ _ ((at_ext b1 1 17 (arrP_ext p)).grow (G.of W g)) ((at_ext b2 1 17 (arrP_ext q)).grow (G.of W g))), ?_⟩; go_big_quiet_on
      repeat (first | go_big_quiet_skip | (go_big_quiet_want; go_big_quiet_op; go_big_quiet_on))
      refine wpQuiet_nil ?_
      intro W1 hg1
      have c1 := hg1.blk b1
      have c2 := hg1.blk b2
      have g1 := g0.trans hg1
      clear b1 b2 g0 hg1
      clear W
      have k17 := (blk_cell c1 17).trans (arrP_17 p)
      have j17 := (blk_cell c2 17).trans (arrP_17 q)
      have G1 := Lib.hid g1
      clear g1 c1 c2
      go_wp2
      go_ret
      exact ⟨rfl, G1.out⟩
theorem cmpP2_any (p q : Pfx) (w : World) : Calls Try.prog 76 #[.agg (arrP p), .agg (arrP q)] w fun e w' => e = .returned (.int .i64 (cmpP p q)) ∧ G w w' := by
  obtain ⟨v, hv⟩ : ∃ v, p.v6 = v := ⟨_, rfl⟩
  obtain ⟨v', hv'⟩ : ∃ v', q.v6 = v' := ⟨_, rfl⟩
  cases v <;> cases v'
  ·
    have hc : cmpP p q = if cmpL p.addr.l q.addr.l ≠ 0 then cmpL p.addr.l q.addr.l else cmpI p.len q.len := by unfold cmpP; simp [hv, hv']
    rw [hc]
    clear hc
    have hcall := fun (W : World) => cmpAddr_any p.addr q.addr W
    generalize cmpL p.addr.l q.addr.l = r at *
    by_cases hr : r = 0
    · rw [if_neg (by simp [hr])]
      subst hr
      rcases cmpI_cases p.len q.len with ⟨h, hc⟩ | ⟨h, hc⟩ | ⟨h, hc⟩
      all_goals
        rw [hc]
        clear hc
        have HV := Lib.hid hv
        have HV' := Lib.hid hv'
        clear hv hv'
        go_enter Try.func76, Try.ntmps76
        go_upto_region 1 with fail
        have b1 := heap_alloc2_old w (.cells (arrP p) 25) (.cells (arrP q) 25)
        have b2 := heap_alloc2_new w (.cells (arrP p) 25) (.cells (arrP q) 25)
        have g0 := ((G.refl w).alloc (.cells (arrP p) 25)).alloc (.cells (arrP q) 25)
        generalize (w.alloc (.cells (arrP p) 25)).alloc (.cells (arrP q) 25) = W at *
        obtain ⟨b, hb⟩ : ∃ b, w.heap.size = b := ⟨_, rfl⟩
        have hb0 : w.heap.size ≤ b := by omega
        rw [hb] at b1 b2 ⊢
        clear hb
        have k0 := (blk_cell b1 0).trans (arrP_0 p)
        have k17 := (blk_cell b1 17).trans (arrP_17 p)
        have j0 := (blk_cell b2 0).trans (arrP_0 q)
        have j17 := (blk_cell b2 17).trans (arrP_17 q)
        rw [HV.out] at k0
        rw [HV'.out] at j0
        go_upto_region 5 with fail
        clear k0 k17 j0 j17
        refine region_seq ?_
        repeat (first | go_big_quiet_skip | (go_big_quiet_want; go_big_quiet_op; go_big_quiet_on))
        go_big_quiet_want; refine q_load 23 _ ⟨b, 1, none⟩ (arrA (p.addr)) (at_ext b1 1 17 (arrP_ext p)) Try.underlying23 rfl (info23a (p.addr)) rfl rfl ?_; go_big_quiet_on
        simp only [Act.put, List.setIfInBounds_toArray, List.set_cons_zero, List.set_cons_succ]
        repeat (first | go_big_quiet_skip | (go_big_quiet_want; go_big_quiet_op; go_big_quiet_on))
        go_big_quiet_want; refine q_load 23 _ ⟨b + 1, 1, none⟩ (arrA (q.addr)) (at_ext b2 1 17 (arrP_ext q)) Try.underlying23 rfl (info23a (q.addr)) rfl rfl ?_; go_big_quiet_on
        simp only [Act.put, List.setIfInBounds_toArray, List.set_cons_zero, List.set_cons_succ]
        repeat (first | go_big_quiet_skip | (go_big_quiet_want; go_big_quiet_op; go_big_quiet_on))
        go_big_quiet_want; go_big_quiet_op; refine ⟨_, fun g => cls (hcall _), ?_⟩; go_big_quiet_on
        repeat (first | go_big_quiet_skip | (go_big_quiet_want; go_big_quiet_op; go_big_quiet_on))
        refine wpQuiet_nil ?_
        intro W1 hg1
        have c1 := hg1.blk b1
        have c2 := hg1.blk b2
        have g1 := g0.trans hg1
        clear b1 b2 g0 hg1
        clear W
        have k17 := (blk_cell c1 17).trans (arrP_17 p)
        have j17 := (blk_cell c2 17).trans (arrP_17 q)
        have G1 := Lib.hid g1
        clear g1 c1 c2
        go_wp2
        go_ret
        exact ⟨rfl, G1.out⟩
    · rw [if_pos hr]
      have HV := Lib.hid hv
      have HV' := Lib.hid hv'
      clear hv hv'
      go_enter Try.func76, Try.ntmps76
      go_upto_region 1 with fail
      have b1 := heap_alloc2_old w (.cells (arrP p) 25) (.cells (arrP q) 25)
      have b2 := heap_alloc2_new w (.cells (arrP p) 25) (.cells (arrP q) 25)
      have g0 := ((G.refl w).alloc (.cells (arrP p) 25)).alloc (.cells (arrP q) 25)
      generalize (w.alloc (.cells (arrP p) 25)).alloc (.cells (arrP q) 25) = W at *
      obtain ⟨b, hb⟩ : ∃ b, w.heap.size = b := ⟨_, rfl⟩
      have hb0 : w.heap.size ≤ b := by omega
      rw [hb] at b1 b2 ⊢
      clear hb
      have k0 := (blk_cell b1 0).trans (arrP_0 p)
      have k17 := (blk_cell b1 17).trans (arrP_17 p)
      have j0 := (blk_cell b2 0).trans (arrP_0 q)
      have j17 := (blk_cell b2 17).trans (arrP_17 q)
      rw [HV.out] at k0
      rw [HV'.out] at j0
      go_upto_region 5 with fail
      clear k0 k17 j0 j17
      refine region_seq ?_
      repeat (first | go_big_quiet_skip | (go_big_quiet_want; go_big_quiet_op; go_big_quiet_on))
      go_big_quiet_want; refine q_load 23 _ ⟨b, 1, none⟩ (arrA (p.addr)) (at_ext b1 1 17 (arrP_ext p)) Try.underlying23 rfl (info23a (p.addr)) rfl rfl ?_; go_big_quiet_on
      simp only [Act.put, List.setIfInBounds_toArray, List.set_cons_zero, List.set_cons_succ]
      repeat (first | go_big_quiet_skip | (go_big_quiet_want; go_big_quiet_op; go_big_quiet_on))
      go_big_quiet_want; refine q_load 23 _ ⟨b + 1, 1, none⟩ (arrA (q.addr)) (at_ext b2 1 17 (arrP_ext q)) Try.underlying23 rfl (info23a (q.addr)) rfl rfl ?_; go_big_quiet_on
      simp only [Act.put, List.setIfInBounds_toArray, List.set_cons_zero, List.set_cons_succ]
      repeat (first | go_big_quiet_skip | (go_big_quiet_want; go_big_quiet_op; go_big_quiet_on))
      go_big_quiet_want; go_big_quiet_op; refine ⟨_, fun g => cls (hcall _), ?_⟩; go_big_quiet_on
      repeat (first | go_big_quiet_skip | (go_big_quiet_want; go_big_quiet_op; go_big_quiet_on))
      refine wpQuiet_nil ?_
      intro W1 hg1
      have c1 := hg1.blk b1
      have c2 := hg1.blk b2
      have g1 := g0.trans hg1
      clear b1 b2 g0 hg1
      clear W
      have k17 := (blk_cell c1 17).trans (arrP_17 p)
      have j17 := (blk_cell c2 17).trans (arrP_17 q)
      have G1 := Lib.hid g1
      clear g1 c1 c2
      go_wp2
      go_ret
      exact ⟨rfl, G1.out⟩
  ·
    have hc : cmpP p q = -1 := by unfold cmpP; simp [hv, hv']
    rw [hc]
    clear hc
    have HV := Lib.hid hv
    have HV' := Lib.hid hv'
    clear hv hv'
    go_enter Try.func76, Try.ntmps76
    go_upto_region 1 with fail
    have b1 := heap_alloc2_old w (.cells (arrP p) 25) (.cells (arrP q) 25)
    have b2 := heap_alloc2_new w (.cells (arrP p) 25) (.cells (arrP q) 25)
    have g0 := ((G.refl w).alloc (.cells (arrP p) 25)).alloc (.cells (arrP q) 25)
    generalize (w.alloc (.cells (arrP p) 25)).alloc (.cells (arrP q) 25) = W at *
    obtain ⟨b, hb⟩ : ∃ b, w.heap.size = b := ⟨_, rfl⟩
    have hb0 : w.heap.size ≤ b := by omega
    rw [hb] at b1 b2 ⊢
    clear hb
    have k0 := (blk_cell b1 0).trans (arrP_0 p)
    have k17 := (blk_cell b1 17).trans (arrP_17 p)
    have j0 := (blk_cell b2 0).trans (arrP_0 q)
    have j17 := (blk_cell b2 17).trans (arrP_17 q)
    rw [HV.out] at k0
    rw [HV'.out] at j0
    go_wp2
    go_ret
    exact ⟨rfl, g0⟩
  ·
    have hc : cmpP p q = 1 := by unfold cmpP; simp [hv, hv']
    rw [hc]
    clear hc
    have HV := Lib.hid hv
    have HV' := Lib.hid hv'
    clear hv hv'
    go_enter Try.func76, Try.ntmps76
    go_upto_region 1 with fail
    have b1 := heap_alloc2_old w (.cells (arrP p) 25) (.cells (arrP q) 25)
    have b2 := heap_alloc2_new w (.cells (arrP p) 25) (.cells (arrP q) 25)
    have g0 := ((G.refl w).alloc (.cells (arrP p) 25)).alloc (.cells (arrP q) 25)
    generalize (w.alloc (.cells (arrP p) 25)).alloc (.cells (arrP q) 25) = W at *
    obtain ⟨b, hb⟩ : ∃ b, w.heap.size = b := ⟨_, rfl⟩
    have hb0 : w.heap.size ≤ b := by omega
    rw [hb] at b1 b2 ⊢
    clear hb
    have k0 := (blk_cell b1 0).trans (arrP_0 p)
    have k17 := (blk_cell b1 17).trans (arrP_17 p)
    have j0 := (blk_cell b2 0).trans (arrP_0 q)
    have j17 := (blk_cell b2 17).trans (arrP_17 q)
    rw [HV.out] at k0
    rw [HV'.out] at j0
    go_wp2
    go_ret
    exact ⟨rfl, g0⟩
  ·
    have hc : cmpP p q = if cmpL p.addr.l q.addr.l ≠ 0 then cmpL p.addr.l q.addr.l else cmpI p.len q.len := by unfold cmpP; simp [hv, hv']
    rw [hc]
    clear hc
    have hcall := fun (W : World) => cmpAddr_any p.addr q.addr W
    generalize cmpL p.addr.l q.addr.l = r at *
    by_cases hr : r = 0
    · rw [if_neg (by simp [hr])]
      subst hr
      rcases cmpI_cases p.len q.len with ⟨h, hc⟩ | ⟨h, hc⟩ | ⟨h, hc⟩
      all_goals
        rw [hc]
        clear hc
        have HV := Lib.hid hv
        have HV' := Lib.hid hv'
        clear hv hv'
        go_enter Try.func76, Try.ntmps76
        go_upto_region 1 with fail
        have b1 := heap_alloc2_old w (.cells (arrP p) 25) (.cells (arrP q) 25)
        have b2 := heap_alloc2_new w (.cells (arrP p) 25) (.cells (arrP q) 25)
        have g0 := ((G.refl w).alloc (.cells (arrP p) 25)).alloc (.cells (arrP q) 25)
        generalize (w.alloc (.cells (arrP p) 25)).alloc (.cells (arrP q) 25) = W at *
        obtain ⟨b, hb⟩ : ∃ b, w.heap.size = b := ⟨_, rfl⟩
        have hb0 : w.heap.size ≤ b := by omega
        rw [hb] at b1 b2 ⊢
        clear hb
        have k0 := (blk_cell b1 0).trans (arrP_0 p)
        have k17 := (blk_cell b1 17).trans (arrP_17 p)
        have j0 := (blk_cell b2 0).trans (arrP_0 q)
        have j17 := (blk_cell b2 17).trans (arrP_17 q)
        rw [HV.out] at k0
        rw [HV'.out] at j0
        go_upto_region 5 with fail
        clear k0 k17 j0 j17
        refine region_seq ?_
        repeat (first | go_big_quiet_skip | (go_big_quiet_want; go_big_quiet_op; go_big_quiet_on))
        go_big_quiet_want; refine q_load 23 _ ⟨b, 1, none⟩ (arrA (p.addr)) (at_ext b1 1 17 (arrP_ext p)) Try.underlying23 rfl (info23a (p.addr)) rfl rfl ?_; go_big_quiet_on
        simp only [Act.put, List.setIfInBounds_toArray, List.set_cons_zero, List.set_cons_succ]
        repeat (first | go_big_quiet_skip | (go_big_quiet_want; go_big_quiet_op; go_big_quiet_on))
        go_big_quiet_want; refine q_load 23 _ ⟨b + 1, 1, none⟩ (arrA (q.addr)) (at_ext b2 1 17 (arrP_ext q)) Try.underlying23 rfl (info23a (q.addr)) rfl rfl ?_; go_big_quiet_on
        simp only [Act.put, List.setIfInBounds_toArray, List.set_cons_zero, List.set_cons_succ]
        repeat (first | go_big_quiet_skip | (go_big_quiet_want; go_big_quiet_op; go_big_quiet_on))
        go_big_quiet_want; go_big_quiet_op; refine ⟨_, fun g => cls (hcall _), ?_⟩; go_big_quiet_on
        repeat (first | go_big_quiet_skip | (go_big_quiet_want; go_big_quiet_op; go_big_quiet_on))
        refine wpQuiet_nil ?_
        intro W1 hg1
        have c1 := hg1.blk b1
        have c2 := hg1.blk b2
        have g1 := g0.trans hg1
        clear b1 b2 g0 hg1
        clear W
        have k17 := (blk_cell c1 17).trans (arrP_17 p)
        have j17 := (blk_cell c2 17).trans (arrP_17 q)
        have G1 := Lib.hid g1
        clear g1 c1 c2
        go_wp2
        go_ret
        exact ⟨rfl, G1.out⟩
    · rw [if_pos hr]
      have HV := Lib.hid hv
      have HV' := Lib.hid hv'
      clear hv hv'
      go_enter Try.func76, Try.ntmps76
      go_upto_region 1 with fail
      have b1 := heap_alloc2_old w (.cells (arrP p) 25) (.cells (arrP q) 25)
      have b2 := heap_alloc2_new w (.cells (arrP p) 25) (.cells (arrP q) 25)
      have g0 := ((G.refl w).alloc (.cells (arrP p) 25)).alloc (.cells (arrP q) 25)
      generalize (w.alloc (.cells (arrP p) 25)).alloc (.cells (arrP q) 25) = W at *
      obtain ⟨b, hb⟩ : ∃ b, w.heap.size = b := ⟨_, rfl⟩
      have hb0 : w.heap.size ≤ b := by omega
      rw [hb] at b1 b2 ⊢
      clear hb
      have k0 := (blk_cell b1 0).trans (arrP_0 p)
      have k17 := (blk_cell b1 17).trans (arrP_17 p)
      have j0 := (blk_cell b2 0).trans (arrP_0 q)
      have j17 := (blk_cell b2 17).trans (arrP_17 q)
      rw [HV.out] at k0
      rw [HV'.out] at j0
      go_upto_region 5 with fail
      clear k0 k17 j0 j17
      refine region_seq ?_
      repeat (first | go_big_quiet_skip | (go_big_quiet_want; go_big_quiet_op; go_big_quiet_on))
      go_big_quiet_want; refine q_load 23 _ ⟨b, 1, none⟩ (arrA (p.addr)) (at_ext b1 1 17 (arrP_ext p)) Try.underlying23 rfl (info23a (p.addr)) rfl rfl ?_; go_big_quiet_on
      simp only [Act.put, List.setIfInBounds_toArray, List.set_cons_zero, List.set_cons_succ]
      repeat (first | go_big_quiet_skip | (go_big_quiet_want; go_big_quiet_op; go_big_quiet_on))
      go_big_quiet_want; refine q_load 23 _ ⟨b + 1, 1, none⟩ (arrA (q.addr)) (at_ext b2 1 17 (arrP_ext q)) Try.underlying23 rfl (info23a (q.addr)) rfl rfl ?_; go_big_quiet_on
      simp only [Act.put, List.setIfInBounds_toArray, List.set_cons_zero, List.set_cons_succ]
      repeat (first | go_big_quiet_skip | (go_big_quiet_want; go_big_quiet_op; go_big_quiet_on))
      go_big_quiet_want; go_big_quiet_op; refine ⟨_, fun g => cls (hcall _), ?_⟩; go_big_quiet_on
      repeat (first | go_big_quiet_skip | (go_big_quiet_want; go_big_quiet_op; go_big_quiet_on))
      refine wpQuiet_nil ?_
      intro W1 hg1
      have c1 := hg1.blk b1
      have c2 := hg1.blk b2
      have g1 := g0.trans hg1
      clear b1 b2 g0 hg1
      clear W
      have k17 := (blk_cell c1 17).trans (arrP_17 p)
      have j17 := (blk_cell c2 17).trans (arrP_17 q)
      have G1 := Lib.hid g1
      clear g1 c1 c2
      go_wp2
      go_ret
      exact ⟨rfl, G1.out⟩

theorem or_any (x y z : Int) (b : Nat) (c : Nat) (w : World) (hx : w.cell? ⟨b, 0, none⟩ = some (.int .i64 x)) (hy : w.cell? ⟨b, 1, none⟩ = some (.int .i64 y)) (hz : w.cell? ⟨b, 2, none⟩ = some (.int .i64 z)) :
    Calls Try.prog 71 #[.slice (some ⟨b, 0, none⟩) 3 c] w fun e w' => e = .returned (.int .i64 (orI x (orI y z))) ∧ w' = w := by
  by_cases h0 : x = 0
  · by_cases h1 : y = 0
    · by_cases h2 : z = 0
      · subst h0 h1 h2
        go_enter Try.func71, Try.ntmps71
        go_wp2
        refine wp_loop_rounds 4 ?_
        repeat any_goals (rw [rounds_succ]; go_wp2)
        go_ret
        exact ⟨rfl, rfl⟩
      · subst h0 h1
        have e : orI 0 (orI 0 z) = z := rfl
        rw [e]
        go_enter Try.func71, Try.ntmps71
        go_wp2
        refine wp_loop_rounds 4 ?_
        repeat any_goals (rw [rounds_succ]; go_wp2)
        go_ret
        exact ⟨rfl, rfl⟩
    · subst h0
      have e : orI 0 (orI y z) = y := by simp [orI, h1]
      rw [e]
      go_enter Try.func71, Try.ntmps71
      go_wp2
      refine wp_loop_rounds 4 ?_
      repeat any_goals (rw [rounds_succ]; go_wp2)
      go_ret
      exact ⟨rfl, rfl⟩
  · have e : orI x (orI y z) = x := by simp [orI, h0]
    rw [e]
    go_enter Try.func71, Try.ntmps71
    go_wp2
    refine wp_loop_rounds 4 ?_
    repeat any_goals (rw [rounds_succ]; go_wp2)
    go_ret
    exact ⟨rfl, rfl⟩

theorem cmpV_any (x y : Vrp) (w : World) : Calls Try.prog 43 #[.agg (arrV x), .agg (arrV y)] w fun e w' => e = .returned (.int .i64 (cmpV x y)) ∧ G w w' := by
  have hc : cmpV x y = orI (cmpP x.p y.p) (orI (cmpI x.max y.max) (cmpI x.as y.as)) := rfl
  rw [hc]
  clear hc
  have h1 := fun W => cmpP_any x.p y.p W
  have h2 := fun W => cmp_int x.max y.max W
  have h3 := fun W => cmp_u32 x.as y.as W
  generalize cmpP x.p y.p = r1 at *
  generalize cmpI x.max y.max = r2 at *
  generalize cmpI x.as y.as = r3 at *
  go_enter Try.func43, Try.ntmps43
  go_upto_region 1 with fail
  have b1 := heap_alloc2_old w (.cells (arrV x) 39) (.cells (arrV y) 39)
  have b2 := heap_alloc2_new w (.cells (arrV x) 39) (.cells (arrV y) 39)
  have g0 := ((G.refl w).alloc (.cells (arrV x) 39)).alloc (.cells (arrV y) 39)
  generalize (w.alloc (.cells (arrV x) 39)).alloc (.cells (arrV y) 39) = W at *
  obtain ⟨b, hb⟩ : ∃ b, w.heap.size = b := ⟨_, rfl⟩
  have hb0 : w.heap.size ≤ b := by omega
  rw [hb] at b1 b2 ⊢
  clear hb
  have k0 := gcell ((blk_cell b1 0).trans (arrV_0 x))
  have k19 := gcell ((blk_cell b1 19).trans (arrV_19 x))
  have j0 := gcell ((blk_cell b2 0).trans (arrV_0 y))
  have j19 := gcell ((blk_cell b2 19).trans (arrV_19 y))
  refine region_tail 15 (by kernel_rfl) (by kernel_rfl) ?_
  simp only [List.take_succ_cons, List.take_zero, List.drop_succ_cons, List.drop_zero]
  repeat (first | go_big_quiet_skip | (go_big_quiet_want; go_big_quiet_op; go_big_quiet_on))
  go_big_quiet_want; refine q_load 25 _ ⟨b, 1, none⟩ (arrP (x.p)) (at_ext b1 1 19 (arrV_ext x)) Try.underlying25 rfl (info25p (x.p)) rfl rfl ?_; go_big_quiet_on
  simp only [Act.put, List.setIfInBounds_toArray, List.set_cons_zero, List.set_cons_succ]
  repeat (first | go_big_quiet_skip | (go_big_quiet_want; go_big_quiet_op; go_big_quiet_on))
  go_big_quiet_want; refine q_load 25 _ ⟨b + 1, 1, none⟩ (arrP (y.p)) (at_ext b2 1 19 (arrV_ext y)) Try.underlying25 rfl (info25p (y.p)) rfl rfl ?_; go_big_quiet_on
  simp only [Act.put, List.setIfInBounds_toArray, List.set_cons_zero, List.set_cons_succ]
  repeat (first | go_big_quiet_skip | (go_big_quiet_want; go_big_quiet_op; go_big_quiet_on))
  go_big_quiet_want; go_big_quiet_op; refine ⟨_, fun g => cls (h1 _), ?_⟩; go_big_quiet_on
  repeat (first | go_big_quiet_skip | (go_big_quiet_want; go_big_quiet_op; go_big_quiet_on))
  go_big_quiet_want; go_big_quiet_op; refine ⟨_, fun g => cls_same (h2 _), ?_⟩; go_big_quiet_on
  repeat (first | go_big_quiet_skip | (go_big_quiet_want; go_big_quiet_op; go_big_quiet_on))
  go_big_quiet_want; go_big_quiet_op; refine ⟨_, fun g => cls_same (h3 _), ?_⟩; go_big_quiet_on
  repeat (first | go_big_quiet_skip | (go_big_quiet_want; go_big_quiet_op; go_big_quiet_on))
  refine wpQuiet_nil ?_
  intro W1 hg1
  have g1 := g0.trans hg1
  clear b1 b2 g0 hg1 k0 k19 j0 j19
  clear W
  have G1 := Lib.hid g1
  clear g1
  have b3 := heap_alloc_new W1 (.cells #[.int .i64 r1, .int .i64 r2, .int .i64 r3] 3)
  have hor := or_any r1 r2 r3 W1.heap.size 3 _ (blk_cell b3 0) (blk_cell b3 1) (blk_cell b3 2)
  clear b3
  go_wp2_with (go_at_call 71; refine hor.mono ?_; rintro e w' ⟨rfl, rfl⟩)
  go_ret
  exact ⟨rfl, G1.out.alloc _⟩

theorem cmpV2_any (x y : Vrp) (w : World) : Calls Try.prog 46 #[.agg (arrV x), .agg (arrV y)] w fun e w' => e = .returned (.int .i64 (cmpV x y)) ∧ G w w' := by
  have hc : cmpV x y = orI (cmpP x.p y.p) (orI (cmpI x.max y.max) (cmpI x.as y.as)) := rfl
  rw [hc]
  clear hc
  have hcall := fun (W : World) => cmpP2_any x.p y.p W
  generalize cmpP x.p y.p = r at *
  by_cases hr : r = 0
  · subst hr
    have e0 : ∀ t, orI 0 t = t := fun t => rfl
    rw [e0]
    clear e0
    rcases cmpI_cases x.max y.max with ⟨h, hc⟩ | ⟨h, hc⟩ | ⟨h, hc⟩
    · rw [hc, show orI (-1) (cmpI x.as y.as) = -1 from rfl]
      clear hc
      go_enter Try.func46, Try.ntmps46
      go_upto_region 1 with fail
      have b1 := heap_alloc2_old w (.cells (arrV x) 39) (.cells (arrV y) 39)
      have b2 := heap_alloc2_new w (.cells (arrV x) 39) (.cells (arrV y) 39)
      have g0 := ((G.refl w).alloc (.cells (arrV x) 39)).alloc (.cells (arrV y) 39)
      generalize (w.alloc (.cells (arrV x) 39)).alloc (.cells (arrV y) 39) = W at *
      obtain ⟨b, hb⟩ : ∃ b, w.heap.size = b := ⟨_, rfl⟩
      have hb0 : w.heap.size ≤ b := by omega
      rw [hb] at b1 b2 ⊢
      clear hb
      refine region_seq ?_
      repeat (first | go_big_quiet_skip | (go_big_quiet_want; go_big_quiet_op; go_big_quiet_on))
      go_big_quiet_want; refine q_load 25 _ ⟨b, 1, none⟩ (arrP (x.p)) (at_ext b1 1 19 (arrV_ext x)) Try.underlying25 rfl (info25p (x.p)) rfl rfl ?_; go_big_quiet_on
      simp only [Act.put, List.setIfInBounds_toArray, List.set_cons_zero, List.set_cons_succ]
      repeat (first | go_big_quiet_skip | (go_big_quiet_want; go_big_quiet_op; go_big_quiet_on))
      go_big_quiet_want; refine q_load 25 _ ⟨b + 1, 1, none⟩ (arrP (y.p)) (at_ext b2 1 19 (arrV_ext y)) Try.underlying25 rfl (info25p (y.p)) rfl rfl ?_; go_big_quiet_on
      simp only [Act.put, List.setIfInBounds_toArray, List.set_cons_zero, List.set_cons_succ]
      repeat (first | go_big_quiet_skip | (go_big_quiet_want; go_big_quiet_op; go_big_quiet_on))
      go_big_quiet_want; go_big_quiet_op; refine ⟨_, fun g => cls (hcall _), ?_⟩; go_big_quiet_on
      repeat (first | go_big_quiet_skip | (go_big_quiet_want; go_big_quiet_op; go_big_quiet_on))
      refine wpQuiet_nil ?_
      intro W1 hg1
      have c1 := hg1.blk b1
      have c2 := hg1.blk b2
      have g1 := g0.trans hg1
      clear b1 b2 g0 hg1
      clear W
      have k0 := (blk_cell c1 0).trans (arrV_0 x)
      have k19 := (blk_cell c1 19).trans (arrV_19 x)
      have j0 := (blk_cell c2 0).trans (arrV_0 y)
      have j19 := (blk_cell c2 19).trans (arrV_19 y)
      have G1 := Lib.hid g1
      clear g1 c1 c2
      go_wp2
      go_ret
      exact ⟨rfl, G1.out⟩
    · rw [hc, show orI 0 (cmpI x.as y.as) = cmpI x.as y.as from rfl]
      clear hc
      rcases cmpI_cases x.as y.as with ⟨h', hc⟩ | ⟨h', hc⟩ | ⟨h', hc⟩
      all_goals
        rw [hc]
        clear hc
        go_enter Try.func46, Try.ntmps46
        go_upto_region 1 with fail
        have b1 := heap_alloc2_old w (.cells (arrV x) 39) (.cells (arrV y) 39)
        have b2 := heap_alloc2_new w (.cells (arrV x) 39) (.cells (arrV y) 39)
        have g0 := ((G.refl w).alloc (.cells (arrV x) 39)).alloc (.cells (arrV y) 39)
        generalize (w.alloc (.cells (arrV x) 39)).alloc (.cells (arrV y) 39) = W at *
        obtain ⟨b, hb⟩ : ∃ b, w.heap.size = b := ⟨_, rfl⟩
        have hb0 : w.heap.size ≤ b := by omega
        rw [hb] at b1 b2 ⊢
        clear hb
        refine region_seq ?_
        repeat (first | go_big_quiet_skip | (go_big_quiet_want; go_big_quiet_op; go_big_quiet_on))
        go_big_quiet_want; refine q_load 25 _ ⟨b, 1, none⟩ (arrP (x.p)) (at_ext b1 1 19 (arrV_ext x)) Try.underlying25 rfl (info25p (x.p)) rfl rfl ?_; go_big_quiet_on
        simp only [Act.put, List.setIfInBounds_toArray, List.set_cons_zero, List.set_cons_succ]
        repeat (first | go_big_quiet_skip | (go_big_quiet_want; go_big_quiet_op; go_big_quiet_on))
        go_big_quiet_want; refine q_load 25 _ ⟨b + 1, 1, none⟩ (arrP (y.p)) (at_ext b2 1 19 (arrV_ext y)) Try.underlying25 rfl (info25p (y.p)) rfl rfl ?_; go_big_quiet_on
        simp only [Act.put, List.setIfInBounds_toArray, List.set_cons_zero, List.set_cons_succ]
        repeat (first | go_big_quiet_skip | (go_big_quiet_want; go_big_quiet_op; go_big_quiet_on))
        go_big_quiet_want; go_big_quiet_op; refine ⟨_, fun g => cls (hcall _), ?_⟩; go_big_quiet_on
        repeat (first | go_big_quiet_skip | (go_big_quiet_want; go_big_quiet_op; go_big_quiet_on))
        refine wpQuiet_nil ?_
        intro W1 hg1
        have c1 := hg1.blk b1
        have c2 := hg1.blk b2
        have g1 := g0.trans hg1
        clear b1 b2 g0 hg1
        clear W
        have k0 := (blk_cell c1 0).trans (arrV_0 x)
        have k19 := (blk_cell c1 19).trans (arrV_19 x)
        have j0 := (blk_cell c2 0).trans (arrV_0 y)
        have j19 := (blk_cell c2 19).trans (arrV_19 y)
        have G1 := Lib.hid g1
        clear g1 c1 c2
        go_wp2
        go_ret
        exact ⟨rfl, G1.out⟩
    · rw [hc, show orI 1 (cmpI x.as y.as) = 1 from rfl]
      clear hc
      go_enter Try.func46, Try.ntmps46
      go_upto_region 1 with fail
      have b1 := heap_alloc2_old w (.cells (arrV x) 39) (.cells (arrV y) 39)
      have b2 := heap_alloc2_new w (.cells (arrV x) 39) (.cells (arrV y) 39)
      have g0 := ((G.refl w).alloc (.cells (arrV x) 39)).alloc (.cells (arrV y) 39)
      generalize (w.alloc (.cells (arrV x) 39)).alloc (.cells (arrV y) 39) = W at *
      obtain ⟨b, hb⟩ : ∃ b, w.heap.size = b := ⟨_, rfl⟩
      have hb0 : w.heap.size ≤ b := by omega
      rw [hb] at b1 b2 ⊢
      clear hb
      refine region_seq ?_
      repeat (first | go_big_quiet_skip | (go_big_quiet_want; go_big_quiet_op; go_big_quiet_on))
      go_big_quiet_want; refine q_load 25 _ ⟨b, 1, none⟩ (arrP (x.p)) (at_ext b1 1 19 (arrV_ext x)) Try.underlying25 rfl (info25p (x.p)) rfl rfl ?_; go_big_quiet_on
      simp only [Act.put, List.setIfInBounds_toArray, List.set_cons_zero, List.set_cons_succ]
      repeat (first | go_big_quiet_skip | (go_big_quiet_want; go_big_quiet_op; go_big_quiet_on))
      go_big_quiet_want; refine q_load 25 _ ⟨b + 1, 1, none⟩ (arrP (y.p)) (at_ext b2 1 19 (arrV_ext y)) Try.underlying25 rfl (info25p (y.p)) rfl rfl ?_; go_big_quiet_on
      simp only [Act.put, List.setIfInBounds_toArray, List.set_cons_zero, List.set_cons_succ]
      repeat (first | go_big_quiet_skip | (go_big_quiet_want; go_big_quiet_op; go_big_quiet_on))
      go_big_quiet_want; go_big_quiet_op; refine ⟨_, fun g => cls (hcall _), ?_⟩; go_big_quiet_on
      repeat (first | go_big_quiet_skip | (go_big_quiet_want; go_big_quiet_op; go_big_quiet_on))
      refine wpQuiet_nil ?_
      intro W1 hg1
      have c1 := hg1.blk b1
      have c2 := hg1.blk b2
      have g1 := g0.trans hg1
      clear b1 b2 g0 hg1
      clear W
      have k0 := (blk_cell c1 0).trans (arrV_0 x)
      have k19 := (blk_cell c1 19).trans (arrV_19 x)
      have j0 := (blk_cell c2 0).trans (arrV_0 y)
      have j19 := (blk_cell c2 19).trans (arrV_19 y)
      have G1 := Lib.hid g1
      clear g1 c1 c2
      go_wp2
      go_ret
      exact ⟨rfl, G1.out⟩
  · have e : orI r (orI (cmpI x.max y.max) (cmpI x.as y.as)) = r := by simp [orI, hr]
    rw [e]
    clear e
    go_enter Try.func46, Try.ntmps46
    go_upto_region 1 with fail
    have b1 := heap_alloc2_old w (.cells (arrV x) 39) (.cells (arrV y) 39)
    have b2 := heap_alloc2_new w (.cells (arrV x) 39) (.cells (arrV y) 39)
    have g0 := ((G.refl w).alloc (.cells (arrV x) 39)).alloc (.cells (arrV y) 39)
    generalize (w.alloc (.cells (arrV x) 39)).alloc (.cells (arrV y) 39) = W at *
    obtain ⟨b, hb⟩ : ∃ b, w.heap.size = b := ⟨_, rfl⟩
    have hb0 : w.heap.size ≤ b := by omega
    rw [hb] at b1 b2 ⊢
    clear hb
    refine region_seq ?_
    repeat (first | go_big_quiet_skip | (go_big_quiet_want; go_big_quiet_op; go_big_quiet_on))
    go_big_quiet_want; refine q_load 25 _ ⟨b, 1, none⟩ (arrP (x.p)) (at_ext b1 1 19 (arrV_ext x)) Try.underlying25 rfl (info25p (x.p)) rfl rfl ?_; go_big_quiet_on
    simp only [Act.put, List.setIfInBounds_toArray, List.set_cons_zero, List.set_cons_succ]
    repeat (first | go_big_quiet_skip | (go_big_quiet_want; go_big_quiet_op; go_big_quiet_on))
    go_big_quiet_want; refine q_load 25 _ ⟨b + 1, 1, none⟩ (arrP (y.p)) (at_ext b2 1 19 (arrV_ext y)) Try.underlying25 rfl (info25p (y.p)) rfl rfl ?_; go_big_quiet_on
    simp only [Act.put, List.setIfInBounds_toArray, List.set_cons_zero, List.set_cons_succ]
    repeat (first | go_big_quiet_skip | (go_big_quiet_want; go_big_quiet_op; go_big_quiet_on))
    go_big_quiet_want; go_big_quiet_op; refine ⟨_, fun g => cls (hcall _), ?_⟩; go_big_quiet_on
    repeat (first | go_big_quiet_skip | (go_big_quiet_want; go_big_quiet_op; go_big_quiet_on))
    refine wpQuiet_nil ?_
    intro W1 hg1
    have c1 := hg1.blk b1
    have c2 := hg1.blk b2
    have g1 := g0.trans hg1
    clear b1 b2 g0 hg1
    clear W
    have k0 := (blk_cell c1 0).trans (arrV_0 x)
    have k19 := (blk_cell c1 19).trans (arrV_19 x)
    have j0 := (blk_cell c2 0).trans (arrV_0 y)
    have j19 := (blk_cell c2 19).trans (arrV_19 y)
    have G1 := Lib.hid g1
    clear g1 c1 c2
    go_wp2
    go_ret
    exact ⟨rfl, G1.out⟩
end Go.Proofs.Ytedgbmibgddnkaa
