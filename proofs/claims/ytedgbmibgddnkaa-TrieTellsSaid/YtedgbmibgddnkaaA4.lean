/- The walks of the functions that tell whether a prefix covers another one. -/
import Derived.Test.YtedgbmibgddnkaaA3
namespace Go.Proofs.Ytedgbmibgddnkaa
open Go.RowKit Ad
set_option linter.unusedSimpArgs false
set_option linter.unusedVariables false
set_option maxRecDepth 100000
set_option maxHeartbeats 1000000
theorem covers_any (p q : Pfx) (w : World) : Calls Try.prog 21 #[.agg (arrP p), .agg (arrP q)] w fun e w' => e = .returned (.bool (covers p q)) ∧ G w w' := by
  have hp := fun W => right_any p W
  have hq := fun W => right_any q W
  cases hpr : p.right with
  | false =>
    have ho : covers p q = false := by unfold covers; rw [hpr]; rfl
    simp only [hpr] at hp
    rw [ho]
    clear ho hpr
    go_enter Try.func21, Try.ntmps21
    go_upto_region 1 with fail
    have b1 := heap_alloc2_old w (.cells (arrP p) 25) (.cells (arrP q) 25)
    have b2 := heap_alloc2_new w (.cells (arrP p) 25) (.cells (arrP q) 25)
    have g0 := ((G.refl w).alloc (.cells (arrP p) 25)).alloc (.cells (arrP q) 25)
    generalize (w.alloc (.cells (arrP p) 25)).alloc (.cells (arrP q) 25) = W at *
    obtain ⟨b, hb⟩ : ∃ b, w.heap.size = b := ⟨_, rfl⟩
    have hb0 : w.heap.size ≤ b := by omega
    rw [hb] at b1 b2 ⊢
    clear hb
    have k0 := gcell ((blk_cell b1 0).trans (arrP_0 p))
    have k17 := gcell ((blk_cell b1 17).trans (arrP_17 p))
    have j0 := gcell ((blk_cell b2 0).trans (arrP_0 q))
    have j17 := gcell ((blk_cell b2 17).trans (arrP_17 q))
    refine region_seq ?_
    repeat (first | go_big_quiet_skip | (go_big_quiet_want; go_big_quiet_op; go_big_quiet_on))
    go_big_quiet_want; refine q_load 25 _ ⟨b, 0, none⟩ (arrP (p)) (at_blk b1) Try.underlying25 rfl (info25p (p)) rfl rfl ?_; go_big_quiet_on
    simp only [Act.put, List.setIfInBounds_toArray, List.set_cons_zero, List.set_cons_succ]
    repeat (first | go_big_quiet_skip | (go_big_quiet_want; go_big_quiet_op; go_big_quiet_on))
    go_big_quiet_want; go_big_quiet_op; refine ⟨_, fun g => cls (hp _), ?_⟩; go_big_quiet_on
    repeat (first | go_big_quiet_skip | (go_big_quiet_want; go_big_quiet_op; go_big_quiet_on))
    refine wpQuiet_nil ?_
    intro W1 hg1
    go_wp2
    go_ret
    exact ⟨rfl, g0.trans hg1⟩
  | true =>
    simp only [hpr] at hp
    cases hqr : q.right with
    | false =>
      have ho : covers p q = false := by unfold covers; rw [hqr]; simp
      simp only [hqr] at hq
      rw [ho]
      clear ho hqr
      go_enter Try.func21, Try.ntmps21
      go_upto_region 1 with fail
      have b1 := heap_alloc2_old w (.cells (arrP p) 25) (.cells (arrP q) 25)
      have b2 := heap_alloc2_new w (.cells (arrP p) 25) (.cells (arrP q) 25)
      have g0 := ((G.refl w).alloc (.cells (arrP p) 25)).alloc (.cells (arrP q) 25)
      generalize (w.alloc (.cells (arrP p) 25)).alloc (.cells (arrP q) 25) = W at *
      obtain ⟨b, hb⟩ : ∃ b, w.heap.size = b := ⟨_, rfl⟩
      have hb0 : w.heap.size ≤ b := by omega
      rw [hb] at b1 b2 ⊢
      clear hb
      have k0 := gcell ((blk_cell b1 0).trans (arrP_0 p))
      have k17 := gcell ((blk_cell b1 17).trans (arrP_17 p))
      have j0 := gcell ((blk_cell b2 0).trans (arrP_0 q))
      have j17 := gcell ((blk_cell b2 17).trans (arrP_17 q))
      refine region_seq ?_
      repeat (first | go_big_quiet_skip | (go_big_quiet_want; go_big_quiet_op; go_big_quiet_on))
      go_big_quiet_want; refine q_load 25 _ ⟨b, 0, none⟩ (arrP (p)) (at_blk b1) Try.underlying25 rfl (info25p (p)) rfl rfl ?_; go_big_quiet_on
      simp only [Act.put, List.setIfInBounds_toArray, List.set_cons_zero, List.set_cons_succ]
      repeat (first | go_big_quiet_skip | (go_big_quiet_want; go_big_quiet_op; go_big_quiet_on))
      go_big_quiet_want; go_big_quiet_op; refine ⟨_, fun g => cls (hp _), ?_⟩; go_big_quiet_on
      repeat (first | go_big_quiet_skip | (go_big_quiet_want; go_big_quiet_op; go_big_quiet_on))
      go_big_quiet_want; refine q_load 25 _ ⟨b + 1, 0, none⟩ (arrP (q)) (at_blk b2) Try.underlying25 rfl (info25p (q)) rfl rfl ?_; go_big_quiet_on
      simp only [Act.put, List.setIfInBounds_toArray, List.set_cons_zero, List.set_cons_succ]
      repeat (first | go_big_quiet_skip | (go_big_quiet_want; go_big_quiet_op; go_big_quiet_on))
      go_big_quiet_want; go_big_quiet_op; refine ⟨_, fun g => cls (hq _), ?_⟩; go_big_quiet_on
      repeat (first | go_big_quiet_skip | (go_big_quiet_want; go_big_quiet_op; go_big_quiet_on))
      refine wpQuiet_nil ?_
      intro W1 hg1
      go_wp2
      go_ret
      exact ⟨rfl, g0.trans hg1⟩
    | true =>
      simp only [hqr] at hq
      have hr := (right_iff p).1 hpr
      obtain ⟨hr0, hr1, hr2⟩ := hr
      have hms := most_le p.v6
      have hp128 : p.len ≤ 128 := by omega
      clear hr2 hr1 hms
      obtain ⟨v, hv⟩ : ∃ v, p.v6 = v := ⟨_, rfl⟩
      obtain ⟨v', hv'⟩ : ∃ v', q.v6 = v' := ⟨_, rfl⟩
      by_cases hl : p.len ≤ q.len
      · cases v <;> cases v'
        ·
          have hcov : covers p q = decide (({ q with len := p.len } : Pfx).cut = p) := by unfold covers; simp [hpr, hqr, hv, hv', hl]
          have Hcov := Lib.hid hcov
          clear hcov
          have HV := Lib.hid hv
          have HV' := Lib.hid hv'
          clear hv hv'
          go_enter Try.func21, Try.ntmps21
          go_upto_region 1 with fail
          have b1 := heap_alloc2_old w (.cells (arrP p) 25) (.cells (arrP q) 25)
          have b2 := heap_alloc2_new w (.cells (arrP p) 25) (.cells (arrP q) 25)
          have g0 := ((G.refl w).alloc (.cells (arrP p) 25)).alloc (.cells (arrP q) 25)
          generalize (w.alloc (.cells (arrP p) 25)).alloc (.cells (arrP q) 25) = W at *
          obtain ⟨b, hb⟩ : ∃ b, w.heap.size = b := ⟨_, rfl⟩
          have hb0 : w.heap.size ≤ b := by omega
          rw [hb] at b1 b2 ⊢
          clear hb
          have k0 := gcell ((blk_cell b1 0).trans (arrP_0 p))
          have k17 := gcell ((blk_cell b1 17).trans (arrP_17 p))
          have j0 := gcell ((blk_cell b2 0).trans (arrP_0 q))
          have j17 := gcell ((blk_cell b2 17).trans (arrP_17 q))
          rw [HV.out] at k0
          rw [HV'.out] at j0
          refine region_seq ?_
          repeat (first | go_big_quiet_skip | (go_big_quiet_want; go_big_quiet_op; go_big_quiet_on))
          go_big_quiet_want; refine q_load 25 _ ⟨b, 0, none⟩ (arrP (p)) (at_blk b1) Try.underlying25 rfl (info25p (p)) rfl rfl ?_; go_big_quiet_on
          simp only [Act.put, List.setIfInBounds_toArray, List.set_cons_zero, List.set_cons_succ]
          repeat (first | go_big_quiet_skip | (go_big_quiet_want; go_big_quiet_op; go_big_quiet_on))
          go_big_quiet_want; go_big_quiet_op; refine ⟨_, fun g => cls (hp _), ?_⟩; go_big_quiet_on
          repeat (first | go_big_quiet_skip | (go_big_quiet_want; go_big_quiet_op; go_big_quiet_on))
          go_big_quiet_want; refine q_load 25 _ ⟨b + 1, 0, none⟩ (arrP (q)) (at_blk b2) Try.underlying25 rfl (info25p (q)) rfl rfl ?_; go_big_quiet_on
          simp only [Act.put, List.setIfInBounds_toArray, List.set_cons_zero, List.set_cons_succ]
          repeat (first | go_big_quiet_skip | (go_big_quiet_want; go_big_quiet_op; go_big_quiet_on))
          go_big_quiet_want; go_big_quiet_op; refine ⟨_, fun g => cls (hq _), ?_⟩; go_big_quiet_on
          repeat (first | go_big_quiet_skip | (go_big_quiet_want; go_big_quiet_op; go_big_quiet_on))
          refine wpQuiet_nil ?_
          intro W1 hg1
          have c1 := hg1.blk b1
          have c2 := hg1.blk b2
          have g1 := g0.trans hg1
          clear b1 b2 g0 hg1 k0 k17 j0 j17
          clear W
          have k17 := (blk_cell c1 17).trans (arrP_17 p)
          have j17 := (blk_cell c2 17).trans (arrP_17 q)
          have f17 := blk_frozen c2 17
          go_upto_region 4 with fail
          have b1 := blk_far c1 (p := ⟨b + 1, 17, none⟩) (by simp) (.int .i64 p.len)
          have b2 := blk_set c2 17 (.int .i64 p.len)
          rw [arrP_setLen] at b2
          have g2 := g1.set (p := ⟨b + 1, 17, none⟩) (by simp; omega) (.int .i64 p.len)
          generalize W1.setCell ⟨b + 1, 17, none⟩ (.int .i64 p.len) = W2 at *
          clear c1 c2 g1 k17 j17 f17
          clear W1
          refine region_all (by kernel_rfl) (by kernel_rfl) ?_
          repeat (first | go_big_quiet_skip | (go_big_quiet_want; go_big_quiet_op; go_big_quiet_on))
          go_big_quiet_want; refine q_load 25 _ ⟨b + 1, 0, none⟩ (arrP ({ q with len := p.len })) (at_blk b2) Try.underlying25 rfl (info25p ({ q with len := p.len })) rfl rfl ?_; go_big_quiet_on
          simp only [Act.put, List.setIfInBounds_toArray, List.set_cons_zero, List.set_cons_succ]
          repeat (first | go_big_quiet_skip | (go_big_quiet_want; go_big_quiet_op; go_big_quiet_on))
          go_big_quiet_want; go_big_quiet_op; refine ⟨_, fun g => cls (cut_any _ _), ?_⟩; go_big_quiet_on
          repeat (first | go_big_quiet_skip | (go_big_quiet_want; go_big_quiet_op; go_big_quiet_on))
          go_big_quiet_want; refine q_load 25 _ ⟨b, 0, none⟩ (arrP (p)) (at_blk b1) Try.underlying25 rfl (info25p (p)) rfl rfl ?_; go_big_quiet_on
          simp only [Act.put, List.setIfInBounds_toArray, List.set_cons_zero, List.set_cons_succ]
          repeat (first | go_big_quiet_skip | (go_big_quiet_want; go_big_quiet_op; go_big_quiet_on))
          refine wpQuiet_nil ?_
          intro W3 hg3
          go_wp2
          go_ret
          exact ⟨by rw [Hcov.out]; rfl, g2.trans hg3⟩
        ·
          have hcov : covers p q = false := by unfold covers; simp [hv, hv']
          rw [hcov]
          clear hcov
          have HV := Lib.hid hv
          have HV' := Lib.hid hv'
          clear hv hv'
          go_enter Try.func21, Try.ntmps21
          go_upto_region 1 with fail
          have b1 := heap_alloc2_old w (.cells (arrP p) 25) (.cells (arrP q) 25)
          have b2 := heap_alloc2_new w (.cells (arrP p) 25) (.cells (arrP q) 25)
          have g0 := ((G.refl w).alloc (.cells (arrP p) 25)).alloc (.cells (arrP q) 25)
          generalize (w.alloc (.cells (arrP p) 25)).alloc (.cells (arrP q) 25) = W at *
          obtain ⟨b, hb⟩ : ∃ b, w.heap.size = b := ⟨_, rfl⟩
          have hb0 : w.heap.size ≤ b := by omega
          rw [hb] at b1 b2 ⊢
          clear hb
          have k0 := gcell ((blk_cell b1 0).trans (arrP_0 p))
          have k17 := gcell ((blk_cell b1 17).trans (arrP_17 p))
          have j0 := gcell ((blk_cell b2 0).trans (arrP_0 q))
          have j17 := gcell ((blk_cell b2 17).trans (arrP_17 q))
          rw [HV.out] at k0
          rw [HV'.out] at j0
          refine region_seq ?_
          repeat (first | go_big_quiet_skip | (go_big_quiet_want; go_big_quiet_op; go_big_quiet_on))
          go_big_quiet_want; refine q_load 25 _ ⟨b, 0, none⟩ (arrP (p)) (at_blk b1) Try.underlying25 rfl (info25p (p)) rfl rfl ?_; go_big_quiet_on
          simp only [Act.put, List.setIfInBounds_toArray, List.set_cons_zero, List.set_cons_succ]
          repeat (first | go_big_quiet_skip | (go_big_quiet_want; go_big_quiet_op; go_big_quiet_on))
          go_big_quiet_want; go_big_quiet_op; refine ⟨_, fun g => cls (hp _), ?_⟩; go_big_quiet_on
          repeat (first | go_big_quiet_skip | (go_big_quiet_want; go_big_quiet_op; go_big_quiet_on))
          go_big_quiet_want; refine q_load 25 _ ⟨b + 1, 0, none⟩ (arrP (q)) (at_blk b2) Try.underlying25 rfl (info25p (q)) rfl rfl ?_; go_big_quiet_on
          simp only [Act.put, List.setIfInBounds_toArray, List.set_cons_zero, List.set_cons_succ]
          repeat (first | go_big_quiet_skip | (go_big_quiet_want; go_big_quiet_op; go_big_quiet_on))
          go_big_quiet_want; go_big_quiet_op; refine ⟨_, fun g => cls (hq _), ?_⟩; go_big_quiet_on
          repeat (first | go_big_quiet_skip | (go_big_quiet_want; go_big_quiet_op; go_big_quiet_on))
          refine wpQuiet_nil ?_
          intro W1 hg1
          go_wp2
          go_ret
          exact ⟨rfl, g0.trans hg1⟩
        ·
          have hcov : covers p q = false := by unfold covers; simp [hv, hv']
          rw [hcov]
          clear hcov
          have HV := Lib.hid hv
          have HV' := Lib.hid hv'
          clear hv hv'
          go_enter Try.func21, Try.ntmps21
          go_upto_region 1 with fail
          have b1 := heap_alloc2_old w (.cells (arrP p) 25) (.cells (arrP q) 25)
          have b2 := heap_alloc2_new w (.cells (arrP p) 25) (.cells (arrP q) 25)
          have g0 := ((G.refl w).alloc (.cells (arrP p) 25)).alloc (.cells (arrP q) 25)
          generalize (w.alloc (.cells (arrP p) 25)).alloc (.cells (arrP q) 25) = W at *
          obtain ⟨b, hb⟩ : ∃ b, w.heap.size = b := ⟨_, rfl⟩
          have hb0 : w.heap.size ≤ b := by omega
          rw [hb] at b1 b2 ⊢
          clear hb
          have k0 := gcell ((blk_cell b1 0).trans (arrP_0 p))
          have k17 := gcell ((blk_cell b1 17).trans (arrP_17 p))
          have j0 := gcell ((blk_cell b2 0).trans (arrP_0 q))
          have j17 := gcell ((blk_cell b2 17).trans (arrP_17 q))
          rw [HV.out] at k0
          rw [HV'.out] at j0
          refine region_seq ?_
          repeat (first | go_big_quiet_skip | (go_big_quiet_want; go_big_quiet_op; go_big_quiet_on))
          go_big_quiet_want; refine q_load 25 _ ⟨b, 0, none⟩ (arrP (p)) (at_blk b1) Try.underlying25 rfl (info25p (p)) rfl rfl ?_; go_big_quiet_on
          simp only [Act.put, List.setIfInBounds_toArray, List.set_cons_zero, List.set_cons_succ]
          repeat (first | go_big_quiet_skip | (go_big_quiet_want; go_big_quiet_op; go_big_quiet_on))
          go_big_quiet_want; go_big_quiet_op; refine ⟨_, fun g => cls (hp _), ?_⟩; go_big_quiet_on
          repeat (first | go_big_quiet_skip | (go_big_quiet_want; go_big_quiet_op; go_big_quiet_on))
          go_big_quiet_want; refine q_load 25 _ ⟨b + 1, 0, none⟩ (arrP (q)) (at_blk b2) Try.underlying25 rfl (info25p (q)) rfl rfl ?_; go_big_quiet_on
          simp only [Act.put, List.setIfInBounds_toArray, List.set_cons_zero, List.set_cons_succ]
          repeat (first | go_big_quiet_skip | (go_big_quiet_want; go_big_quiet_op; go_big_quiet_on))
          go_big_quiet_want; go_big_quiet_op; refine ⟨_, fun g => cls (hq _), ?_⟩; go_big_quiet_on
          repeat (first | go_big_quiet_skip | (go_big_quiet_want; go_big_quiet_op; go_big_quiet_on))
          refine wpQuiet_nil ?_
          intro W1 hg1
          go_wp2
          go_ret
          exact ⟨rfl, g0.trans hg1⟩
        ·
          have hcov : covers p q = decide (({ q with len := p.len } : Pfx).cut = p) := by unfold covers; simp [hpr, hqr, hv, hv', hl]
          have Hcov := Lib.hid hcov
          clear hcov
          have HV := Lib.hid hv
          have HV' := Lib.hid hv'
          clear hv hv'
          go_enter Try.func21, Try.ntmps21
          go_upto_region 1 with fail
          have b1 := heap_alloc2_old w (.cells (arrP p) 25) (.cells (arrP q) 25)
          have b2 := heap_alloc2_new w (.cells (arrP p) 25) (.cells (arrP q) 25)
          have g0 := ((G.refl w).alloc (.cells (arrP p) 25)).alloc (.cells (arrP q) 25)
          generalize (w.alloc (.cells (arrP p) 25)).alloc (.cells (arrP q) 25) = W at *
          obtain ⟨b, hb⟩ : ∃ b, w.heap.size = b := ⟨_, rfl⟩
          have hb0 : w.heap.size ≤ b := by omega
          rw [hb] at b1 b2 ⊢
          clear hb
          have k0 := gcell ((blk_cell b1 0).trans (arrP_0 p))
          have k17 := gcell ((blk_cell b1 17).trans (arrP_17 p))
          have j0 := gcell ((blk_cell b2 0).trans (arrP_0 q))
          have j17 := gcell ((blk_cell b2 17).trans (arrP_17 q))
          rw [HV.out] at k0
          rw [HV'.out] at j0
          refine region_seq ?_
          repeat (first | go_big_quiet_skip | (go_big_quiet_want; go_big_quiet_op; go_big_quiet_on))
          go_big_quiet_want; refine q_load 25 _ ⟨b, 0, none⟩ (arrP (p)) (at_blk b1) Try.underlying25 rfl (info25p (p)) rfl rfl ?_; go_big_quiet_on
          simp only [Act.put, List.setIfInBounds_toArray, List.set_cons_zero, List.set_cons_succ]
          repeat (first | go_big_quiet_skip | (go_big_quiet_want; go_big_quiet_op; go_big_quiet_on))
          go_big_quiet_want; go_big_quiet_op; refine ⟨_, fun g => cls (hp _), ?_⟩; go_big_quiet_on
          repeat (first | go_big_quiet_skip | (go_big_quiet_want; go_big_quiet_op; go_big_quiet_on))
          go_big_quiet_want; refine q_load 25 _ ⟨b + 1, 0, none⟩ (arrP (q)) (at_blk b2) Try.underlying25 rfl (info25p (q)) rfl rfl ?_; go_big_quiet_on
          simp only [Act.put, List.setIfInBounds_toArray, List.set_cons_zero, List.set_cons_succ]
          repeat (first | go_big_quiet_skip | (go_big_quiet_want; go_big_quiet_op; go_big_quiet_on))
          go_big_quiet_want; go_big_quiet_op; refine ⟨_, fun g => cls (hq _), ?_⟩; go_big_quiet_on
          repeat (first | go_big_quiet_skip | (go_big_quiet_want; go_big_quiet_op; go_big_quiet_on))
          refine wpQuiet_nil ?_
          intro W1 hg1
          have c1 := hg1.blk b1
          have c2 := hg1.blk b2
          have g1 := g0.trans hg1
          clear b1 b2 g0 hg1 k0 k17 j0 j17
          clear W
          have k17 := (blk_cell c1 17).trans (arrP_17 p)
          have j17 := (blk_cell c2 17).trans (arrP_17 q)
          have f17 := blk_frozen c2 17
          go_upto_region 4 with fail
          have b1 := blk_far c1 (p := ⟨b + 1, 17, none⟩) (by simp) (.int .i64 p.len)
          have b2 := blk_set c2 17 (.int .i64 p.len)
          rw [arrP_setLen] at b2
          have g2 := g1.set (p := ⟨b + 1, 17, none⟩) (by simp; omega) (.int .i64 p.len)
          generalize W1.setCell ⟨b + 1, 17, none⟩ (.int .i64 p.len) = W2 at *
          clear c1 c2 g1 k17 j17 f17
          clear W1
          refine region_all (by kernel_rfl) (by kernel_rfl) ?_
          repeat (first | go_big_quiet_skip | (go_big_quiet_want; go_big_quiet_op; go_big_quiet_on))
          go_big_quiet_want; refine q_load 25 _ ⟨b + 1, 0, none⟩ (arrP ({ q with len := p.len })) (at_blk b2) Try.underlying25 rfl (info25p ({ q with len := p.len })) rfl rfl ?_; go_big_quiet_on
          simp only [Act.put, List.setIfInBounds_toArray, List.set_cons_zero, List.set_cons_succ]
          repeat (first | go_big_quiet_skip | (go_big_quiet_want; go_big_quiet_op; go_big_quiet_on))
          go_big_quiet_want; go_big_quiet_op; refine ⟨_, fun g => cls (cut_any _ _), ?_⟩; go_big_quiet_on
          repeat (first | go_big_quiet_skip | (go_big_quiet_want; go_big_quiet_op; go_big_quiet_on))
          go_big_quiet_want; refine q_load 25 _ ⟨b, 0, none⟩ (arrP (p)) (at_blk b1) Try.underlying25 rfl (info25p (p)) rfl rfl ?_; go_big_quiet_on
          simp only [Act.put, List.setIfInBounds_toArray, List.set_cons_zero, List.set_cons_succ]
          repeat (first | go_big_quiet_skip | (go_big_quiet_want; go_big_quiet_op; go_big_quiet_on))
          refine wpQuiet_nil ?_
          intro W3 hg3
          go_wp2
          go_ret
          exact ⟨by rw [Hcov.out]; rfl, g2.trans hg3⟩
      · have hcov : covers p q = false := by unfold covers; simp [hl]
        rw [hcov]
        clear hcov
        cases v <;> cases v'
        ·
          have HV := Lib.hid hv
          have HV' := Lib.hid hv'
          clear hv hv'
          go_enter Try.func21, Try.ntmps21
          go_upto_region 1 with fail
          have b1 := heap_alloc2_old w (.cells (arrP p) 25) (.cells (arrP q) 25)
          have b2 := heap_alloc2_new w (.cells (arrP p) 25) (.cells (arrP q) 25)
          have g0 := ((G.refl w).alloc (.cells (arrP p) 25)).alloc (.cells (arrP q) 25)
          generalize (w.alloc (.cells (arrP p) 25)).alloc (.cells (arrP q) 25) = W at *
          obtain ⟨b, hb⟩ : ∃ b, w.heap.size = b := ⟨_, rfl⟩
          have hb0 : w.heap.size ≤ b := by omega
          rw [hb] at b1 b2 ⊢
          clear hb
          have k0 := gcell ((blk_cell b1 0).trans (arrP_0 p))
          have k17 := gcell ((blk_cell b1 17).trans (arrP_17 p))
          have j0 := gcell ((blk_cell b2 0).trans (arrP_0 q))
          have j17 := gcell ((blk_cell b2 17).trans (arrP_17 q))
          rw [HV.out] at k0
          rw [HV'.out] at j0
          refine region_seq ?_
          repeat (first | go_big_quiet_skip | (go_big_quiet_want; go_big_quiet_op; go_big_quiet_on))
          go_big_quiet_want; refine q_load 25 _ ⟨b, 0, none⟩ (arrP (p)) (at_blk b1) Try.underlying25 rfl (info25p (p)) rfl rfl ?_; go_big_quiet_on
          simp only [Act.put, List.setIfInBounds_toArray, List.set_cons_zero, List.set_cons_succ]
          repeat (first | go_big_quiet_skip | (go_big_quiet_want; go_big_quiet_op; go_big_quiet_on))
          go_big_quiet_want; go_big_quiet_op; refine ⟨_, fun g => cls (hp _), ?_⟩; go_big_quiet_on
          repeat (first | go_big_quiet_skip | (go_big_quiet_want; go_big_quiet_op; go_big_quiet_on))
          go_big_quiet_want; refine q_load 25 _ ⟨b + 1, 0, none⟩ (arrP (q)) (at_blk b2) Try.underlying25 rfl (info25p (q)) rfl rfl ?_; go_big_quiet_on
          simp only [Act.put, List.setIfInBounds_toArray, List.set_cons_zero, List.set_cons_succ]
          repeat (first | go_big_quiet_skip | (go_big_quiet_want; go_big_quiet_op; go_big_quiet_on))
          go_big_quiet_want; go_big_quiet_op; refine ⟨_, fun g => cls (hq _), ?_⟩; go_big_quiet_on
          repeat (first | go_big_quiet_skip | (go_big_quiet_want; go_big_quiet_op; go_big_quiet_on))
          refine wpQuiet_nil ?_
          intro W1 hg1
          go_wp2
          go_ret
          exact ⟨rfl, g0.trans hg1⟩
        ·
          have HV := Lib.hid hv
          have HV' := Lib.hid hv'
          clear hv hv'
          go_enter Try.func21, Try.ntmps21
          go_upto_region 1 with fail
          have b1 := heap_alloc2_old w (.cells (arrP p) 25) (.cells (arrP q) 25)
          have b2 := heap_alloc2_new w (.cells (arrP p) 25) (.cells (arrP q) 25)
          have g0 := ((G.refl w).alloc (.cells (arrP p) 25)).alloc (.cells (arrP q) 25)
          generalize (w.alloc (.cells (arrP p) 25)).alloc (.cells (arrP q) 25) = W at *
          obtain ⟨b, hb⟩ : ∃ b, w.heap.size = b := ⟨_, rfl⟩
          have hb0 : w.heap.size ≤ b := by omega
          rw [hb] at b1 b2 ⊢
          clear hb
          have k0 := gcell ((blk_cell b1 0).trans (arrP_0 p))
          have k17 := gcell ((blk_cell b1 17).trans (arrP_17 p))
          have j0 := gcell ((blk_cell b2 0).trans (arrP_0 q))
          have j17 := gcell ((blk_cell b2 17).trans (arrP_17 q))
          rw [HV.out] at k0
          rw [HV'.out] at j0
          refine region_seq ?_
          repeat (first | go_big_quiet_skip | (go_big_quiet_want; go_big_quiet_op; go_big_quiet_on))
          go_big_quiet_want; refine q_load 25 _ ⟨b, 0, none⟩ (arrP (p)) (at_blk b1) Try.underlying25 rfl (info25p (p)) rfl rfl ?_; go_big_quiet_on
          simp only [Act.put, List.setIfInBounds_toArray, List.set_cons_zero, List.set_cons_succ]
          repeat (first | go_big_quiet_skip | (go_big_quiet_want; go_big_quiet_op; go_big_quiet_on))
          go_big_quiet_want; go_big_quiet_op; refine ⟨_, fun g => cls (hp _), ?_⟩; go_big_quiet_on
          repeat (first | go_big_quiet_skip | (go_big_quiet_want; go_big_quiet_op; go_big_quiet_on))
          go_big_quiet_want; refine q_load 25 _ ⟨b + 1, 0, none⟩ (arrP (q)) (at_blk b2) Try.underlying25 rfl (info25p (q)) rfl rfl ?_; go_big_quiet_on
          simp only [Act.put, List.setIfInBounds_toArray, List.set_cons_zero, List.set_cons_succ]
          repeat (first | go_big_quiet_skip | (go_big_quiet_want; go_big_quiet_op; go_big_quiet_on))
          go_big_quiet_want; go_big_quiet_op; refine ⟨_, fun g => cls (hq _), ?_⟩; go_big_quiet_on
          repeat (first | go_big_quiet_skip | (go_big_quiet_want; go_big_quiet_op; go_big_quiet_on))
          refine wpQuiet_nil ?_
          intro W1 hg1
          go_wp2
          go_ret
          exact ⟨rfl, g0.trans hg1⟩
        ·
          have HV := Lib.hid hv
          have HV' := Lib.hid hv'
          clear hv hv'
          go_enter Try.func21, Try.ntmps21
          go_upto_region 1 with fail
          have b1 := heap_alloc2_old w (.cells (arrP p) 25) (.cells (arrP q) 25)
          have b2 := heap_alloc2_new w (.cells (arrP p) 25) (.cells (arrP q) 25)
          have g0 := ((G.refl w).alloc (.cells (arrP p) 25)).alloc (.cells (arrP q) 25)
          generalize (w.alloc (.cells (arrP p) 25)).alloc (.cells (arrP q) 25) = W at *
          obtain ⟨b, hb⟩ : ∃ b, w.heap.size = b := ⟨_, rfl⟩
          have hb0 : w.heap.size ≤ b := by omega
          rw [hb] at b1 b2 ⊢
          clear hb
          have k0 := gcell ((blk_cell b1 0).trans (arrP_0 p))
          have k17 := gcell ((blk_cell b1 17).trans (arrP_17 p))
          have j0 := gcell ((blk_cell b2 0).trans (arrP_0 q))
          have j17 := gcell ((blk_cell b2 17).trans (arrP_17 q))
          rw [HV.out] at k0
          rw [HV'.out] at j0
          refine region_seq ?_
          repeat (first | go_big_quiet_skip | (go_big_quiet_want; go_big_quiet_op; go_big_quiet_on))
          go_big_quiet_want; refine q_load 25 _ ⟨b, 0, none⟩ (arrP (p)) (at_blk b1) Try.underlying25 rfl (info25p (p)) rfl rfl ?_; go_big_quiet_on
          simp only [Act.put, List.setIfInBounds_toArray, List.set_cons_zero, List.set_cons_succ]
          repeat (first | go_big_quiet_skip | (go_big_quiet_want; go_big_quiet_op; go_big_quiet_on))
          go_big_quiet_want; go_big_quiet_op; refine ⟨_, fun g => cls (hp _), ?_⟩; go_big_quiet_on
          repeat (first | go_big_quiet_skip | (go_big_quiet_want; go_big_quiet_op; go_big_quiet_on))
          go_big_quiet_want; refine q_load 25 _ ⟨b + 1, 0, none⟩ (arrP (q)) (at_blk b2) Try.underlying25 rfl (info25p (q)) rfl rfl ?_; go_big_quiet_on
          simp only [Act.put, List.setIfInBounds_toArray, List.set_cons_zero, List.set_cons_succ]
          repeat (first | go_big_quiet_skip | (go_big_quiet_want; go_big_quiet_op; go_big_quiet_on))
          go_big_quiet_want; go_big_quiet_op; refine ⟨_, fun g => cls (hq _), ?_⟩; go_big_quiet_on
          repeat (first | go_big_quiet_skip | (go_big_quiet_want; go_big_quiet_op; go_big_quiet_on))
          refine wpQuiet_nil ?_
          intro W1 hg1
          go_wp2
          go_ret
          exact ⟨rfl, g0.trans hg1⟩
        ·
          have HV := Lib.hid hv
          have HV' := Lib.hid hv'
          clear hv hv'
          go_enter Try.func21, Try.ntmps21
          go_upto_region 1 with fail
          have b1 := heap_alloc2_old w (.cells (arrP p) 25) (.cells (arrP q) 25)
          have b2 := heap_alloc2_new w (.cells (arrP p) 25) (.cells (arrP q) 25)
          have g0 := ((G.refl w).alloc (.cells (arrP p) 25)).alloc (.cells (arrP q) 25)
          generalize (w.alloc (.cells (arrP p) 25)).alloc (.cells (arrP q) 25) = W at *
          obtain ⟨b, hb⟩ : ∃ b, w.heap.size = b := ⟨_, rfl⟩
          have hb0 : w.heap.size ≤ b := by omega
          rw [hb] at b1 b2 ⊢
          clear hb
          have k0 := gcell ((blk_cell b1 0).trans (arrP_0 p))
          have k17 := gcell ((blk_cell b1 17).trans (arrP_17 p))
          have j0 := gcell ((blk_cell b2 0).trans (arrP_0 q))
          have j17 := gcell ((blk_cell b2 17).trans (arrP_17 q))
          rw [HV.out] at k0
          rw [HV'.out] at j0
          refine region_seq ?_
          repeat (first | go_big_quiet_skip | (go_big_quiet_want; go_big_quiet_op; go_big_quiet_on))
          go_big_quiet_want; refine q_load 25 _ ⟨b, 0, none⟩ (arrP (p)) (at_blk b1) Try.underlying25 rfl (info25p (p)) rfl rfl ?_; go_big_quiet_on
          simp only [Act.put, List.setIfInBounds_toArray, List.set_cons_zero, List.set_cons_succ]
          repeat (first | go_big_quiet_skip | (go_big_quiet_want; go_big_quiet_op; go_big_quiet_on))
          go_big_quiet_want; go_big_quiet_op; refine ⟨_, fun g => cls (hp _), ?_⟩; go_big_quiet_on
          repeat (first | go_big_quiet_skip | (go_big_quiet_want; go_big_quiet_op; go_big_quiet_on))
          go_big_quiet_want; refine q_load 25 _ ⟨b + 1, 0, none⟩ (arrP (q)) (at_blk b2) Try.underlying25 rfl (info25p (q)) rfl rfl ?_; go_big_quiet_on
          simp only [Act.put, List.setIfInBounds_toArray, List.set_cons_zero, List.set_cons_succ]
          repeat (first | go_big_quiet_skip | (go_big_quiet_want; go_big_quiet_op; go_big_quiet_on))
          go_big_quiet_want; go_big_quiet_op; refine ⟨_, fun g => cls (hq _), ?_⟩; go_big_quiet_on
          repeat (first | go_big_quiet_skip | (go_big_quiet_want; go_big_quiet_op; go_big_quiet_on))
          refine wpQuiet_nil ?_
          intro W1 hg1
          go_wp2
          go_ret
          exact ⟨rfl, g0.trans hg1⟩
theorem covers_of (p q : Pfx) (hp : p.right = true) (hq : q.right = true) (hv : p.v6 = q.v6) (hl : p.len ≤ q.len) (h : ∀ i : Nat, (i : Int) < p.len → bit p.addr i = bit q.addr i) : covers p q = true := (covers_iff p q).2 ⟨hp, hq, hv, hl, h⟩
theorem not_covers_bit (p q : Pfx) (i : Nat) (hi : (i : Int) < p.len) (h : bit p.addr i ≠ bit q.addr i) : covers p q = false := by
  cases hr : covers p q
  · rfl
  · exact absurd (((covers_iff p q).1 hr).2.2.2.2 i hi) h
theorem covers2_any (p q : Pfx) (w : World) : Calls Try.prog 44 #[.agg (arrP p), .agg (arrP q)] w fun e w' => e = .returned (.bool (covers p q)) ∧ G w w' := by
  have hp := fun W => right2_any p W
  have hq := fun W => right2_any q W
  cases hpr : p.right with
  | false =>
    have ho : covers p q = false := by unfold covers; rw [hpr]; rfl
    simp only [hpr] at hp
    rw [ho]
    clear ho hpr
    go_enter Try.func44, Try.ntmps44
    go_upto_region 1 with fail
    have b1 := heap_alloc2_old w (.cells (arrP p) 25) (.cells (arrP q) 25)
    have b2 := heap_alloc2_new w (.cells (arrP p) 25) (.cells (arrP q) 25)
    have g0 := ((G.refl w).alloc (.cells (arrP p) 25)).alloc (.cells (arrP q) 25)
    generalize (w.alloc (.cells (arrP p) 25)).alloc (.cells (arrP q) 25) = W at *
    obtain ⟨b, hb⟩ : ∃ b, w.heap.size = b := ⟨_, rfl⟩
    have hb0 : w.heap.size ≤ b := by omega
    rw [hb] at b1 b2 ⊢
    clear hb
    have k0 := gcell ((blk_cell b1 0).trans (arrP_0 p))
    have k17 := gcell ((blk_cell b1 17).trans (arrP_17 p))
    have j0 := gcell ((blk_cell b2 0).trans (arrP_0 q))
    have j17 := gcell ((blk_cell b2 17).trans (arrP_17 q))
    refine region_seq ?_
    repeat (first | go_big_quiet_skip | (go_big_quiet_want; go_big_quiet_op; go_big_quiet_on))
    go_big_quiet_want; refine q_load 25 _ ⟨b, 0, none⟩ (arrP (p)) (at_blk b1) Try.underlying25 rfl (info25p (p)) rfl rfl ?_; go_big_quiet_on
    simp only [Act.put, List.setIfInBounds_toArray, List.set_cons_zero, List.set_cons_succ]
    repeat (first | go_big_quiet_skip | (go_big_quiet_want; go_big_quiet_op; go_big_quiet_on))
    go_big_quiet_want; go_big_quiet_op; refine ⟨_, fun g => cls (hp _), ?_⟩; go_big_quiet_on
    repeat (first | go_big_quiet_skip | (go_big_quiet_want; go_big_quiet_op; go_big_quiet_on))
    refine wpQuiet_nil ?_
    intro W1 hg1
    go_wp2
    go_ret
    exact ⟨rfl, g0.trans hg1⟩
  | true =>
    simp only [hpr] at hp
    cases hqr : q.right with
    | false =>
      have ho : covers p q = false := by unfold covers; rw [hqr]; simp
      simp only [hqr] at hq
      rw [ho]
      clear ho hqr
      go_enter Try.func44, Try.ntmps44
      go_upto_region 1 with fail
      have b1 := heap_alloc2_old w (.cells (arrP p) 25) (.cells (arrP q) 25)
      have b2 := heap_alloc2_new w (.cells (arrP p) 25) (.cells (arrP q) 25)
      have g0 := ((G.refl w).alloc (.cells (arrP p) 25)).alloc (.cells (arrP q) 25)
      generalize (w.alloc (.cells (arrP p) 25)).alloc (.cells (arrP q) 25) = W at *
      obtain ⟨b, hb⟩ : ∃ b, w.heap.size = b := ⟨_, rfl⟩
      have hb0 : w.heap.size ≤ b := by omega
      rw [hb] at b1 b2 ⊢
      clear hb
      have k0 := gcell ((blk_cell b1 0).trans (arrP_0 p))
      have k17 := gcell ((blk_cell b1 17).trans (arrP_17 p))
      have j0 := gcell ((blk_cell b2 0).trans (arrP_0 q))
      have j17 := gcell ((blk_cell b2 17).trans (arrP_17 q))
      refine region_seq ?_
      repeat (first | go_big_quiet_skip | (go_big_quiet_want; go_big_quiet_op; go_big_quiet_on))
      go_big_quiet_want; refine q_load 25 _ ⟨b, 0, none⟩ (arrP (p)) (at_blk b1) Try.underlying25 rfl (info25p (p)) rfl rfl ?_; go_big_quiet_on
      simp only [Act.put, List.setIfInBounds_toArray, List.set_cons_zero, List.set_cons_succ]
      repeat (first | go_big_quiet_skip | (go_big_quiet_want; go_big_quiet_op; go_big_quiet_on))
      go_big_quiet_want; go_big_quiet_op; refine ⟨_, fun g => cls (hp _), ?_⟩; go_big_quiet_on
      repeat (first | go_big_quiet_skip | (go_big_quiet_want; go_big_quiet_op; go_big_quiet_on))
      go_big_quiet_want; refine q_load 25 _ ⟨b + 1, 0, none⟩ (arrP (q)) (at_blk b2) Try.underlying25 rfl (info25p (q)) rfl rfl ?_; go_big_quiet_on
      simp only [Act.put, List.setIfInBounds_toArray, List.set_cons_zero, List.set_cons_succ]
      repeat (first | go_big_quiet_skip | (go_big_quiet_want; go_big_quiet_op; go_big_quiet_on))
      go_big_quiet_want; go_big_quiet_op; refine ⟨_, fun g => cls (hq _), ?_⟩; go_big_quiet_on
      repeat (first | go_big_quiet_skip | (go_big_quiet_want; go_big_quiet_op; go_big_quiet_on))
      refine wpQuiet_nil ?_
      intro W1 hg1
      go_wp2
      go_ret
      exact ⟨rfl, g0.trans hg1⟩
    | true =>
      simp only [hqr] at hq
      have hr := (right_iff p).1 hpr
      obtain ⟨hr0, hr1, hr2⟩ := hr
      have hms := most_le p.v6
      have hp128 : p.len ≤ 128 := by omega
      clear hr2 hr1 hms
      obtain ⟨v, hv⟩ : ∃ v, p.v6 = v := ⟨_, rfl⟩
      obtain ⟨v', hv'⟩ : ∃ v', q.v6 = v' := ⟨_, rfl⟩
      by_cases hl : p.len ≤ q.len
      · cases v <;> cases v'
        ·
          have hcov : covers p q = covers p q := by rfl
          have Hcov := Lib.hid hcov
          clear hcov
          have HV := Lib.hid hv
          have HV' := Lib.hid hv'
          clear hv hv'
          go_enter Try.func44, Try.ntmps44
          go_upto_region 1 with fail
          have b1 := heap_alloc2_old w (.cells (arrP p) 25) (.cells (arrP q) 25)
          have b2 := heap_alloc2_new w (.cells (arrP p) 25) (.cells (arrP q) 25)
          have g0 := ((G.refl w).alloc (.cells (arrP p) 25)).alloc (.cells (arrP q) 25)
          generalize (w.alloc (.cells (arrP p) 25)).alloc (.cells (arrP q) 25) = W at *
          obtain ⟨b, hb⟩ : ∃ b, w.heap.size = b := ⟨_, rfl⟩
          have hb0 : w.heap.size ≤ b := by omega
          rw [hb] at b1 b2 ⊢
          clear hb
          have k0 := gcell ((blk_cell b1 0).trans (arrP_0 p))
          have k17 := gcell ((blk_cell b1 17).trans (arrP_17 p))
          have j0 := gcell ((blk_cell b2 0).trans (arrP_0 q))
          have j17 := gcell ((blk_cell b2 17).trans (arrP_17 q))
          rw [HV.out] at k0
          rw [HV'.out] at j0
          refine region_seq ?_
          repeat (first | go_big_quiet_skip | (go_big_quiet_want; go_big_quiet_op; go_big_quiet_on))
          go_big_quiet_want; refine q_load 25 _ ⟨b, 0, none⟩ (arrP (p)) (at_blk b1) Try.underlying25 rfl (info25p (p)) rfl rfl ?_; go_big_quiet_on
          simp only [Act.put, List.setIfInBounds_toArray, List.set_cons_zero, List.set_cons_succ]
          repeat (first | go_big_quiet_skip | (go_big_quiet_want; go_big_quiet_op; go_big_quiet_on))
          go_big_quiet_want; go_big_quiet_op; refine ⟨_, fun g => cls (hp _), ?_⟩; go_big_quiet_on
          repeat (first | go_big_quiet_skip | (go_big_quiet_want; go_big_quiet_op; go_big_quiet_on))
          go_big_quiet_want; refine q_load 25 _ ⟨b + 1, 0, none⟩ (arrP (q)) (at_blk b2) Try.underlying25 rfl (info25p (q)) rfl rfl ?_; go_big_quiet_on
          simp only [Act.put, List.setIfInBounds_toArray, List.set_cons_zero, List.set_cons_succ]
          repeat (first | go_big_quiet_skip | (go_big_quiet_want; go_big_quiet_op; go_big_quiet_on))
          go_big_quiet_want; go_big_quiet_op; refine ⟨_, fun g => cls (hq _), ?_⟩; go_big_quiet_on
          repeat (first | go_big_quiet_skip | (go_big_quiet_want; go_big_quiet_op; go_big_quiet_on))
          refine wpQuiet_nil ?_
          intro W1 hg1
          have c1 := hg1.blk b1
          have c2 := hg1.blk b2
          have g1 := g0.trans hg1
          clear b1 b2 g0 hg1 k0 k17 j0 j17
          clear W
          have Hyes := Lib.hid (covers_of p q hpr hqr (by rw [HV.out, HV'.out]) hl)
          have Hno := Lib.hid (not_covers_bit p q)
          obtain ⟨n, hn⟩ := Int.eq_ofNat_of_zero_le hr0
          have hn128 : n ≤ 128 := by omega
          have Hn := Lib.hid hn
          clear hn
          go_wp2
          go_loopw [5, 28, 29, 30, 31, 32, 33, 34, 35, 36, 37, 38, 39, 40, 41, 42] (fun i _ _ _ _ _ _ _ _ _ _ _ _ _ _ _ wr => ∃ k : Nat, k ≤ n ∧ i = .int .i64 k ∧ wr.heap[b]? = some (.cells (arrP p) 25 (0, 0)) ∧ wr.heap[b + 1]? = some (.cells (arrP q) 25 (0, 0)) ∧ G w wr ∧ Hid (∀ j, j < k → bit p.addr j = bit q.addr j)) (fun i _ _ _ _ _ _ _ _ _ _ _ _ _ _ _ _ => n - (intOf i).toNat)
          case atStart => exact ⟨0, by omega, rfl, c1, c2, g1, Lib.hid (fun j h => by omega)⟩
          case round =>
            obtain ⟨k, hk, rfl, b1, b2, gr, Hk⟩ := hrel
            clear c1 c2 g1
            have k17 := (blk_cell b1 17).trans (arrP_17 p)
            rw [Hn.out] at k17
            by_cases hlt : k < n
            · go_upto_region 6 with fail
              refine region_all (by kernel_rfl) (by kernel_rfl) ?_
              repeat (first | go_big_quiet_skip | (go_big_quiet_want; go_big_quiet_op; go_big_quiet_on))
              go_big_quiet_want; refine q_load 23 _ ⟨b, 1, none⟩ (arrA (p.addr)) (at_ext b1 1 17 (arrP_ext p)) Try.underlying23 rfl (info23a (p.addr)) rfl rfl ?_; go_big_quiet_on
              simp only [Act.put, List.setIfInBounds_toArray, List.set_cons_zero, List.set_cons_succ]
              repeat (first | go_big_quiet_skip | (go_big_quiet_want; go_big_quiet_op; go_big_quiet_on))
              go_big_quiet_want; go_big_quiet_op; refine ⟨_, fun g => cls (rbit_any p.addr k (by omega) _), ?_⟩; go_big_quiet_on
              repeat (first | go_big_quiet_skip | (go_big_quiet_want; go_big_quiet_op; go_big_quiet_on))
              go_big_quiet_want; refine q_load 23 _ ⟨b + 1, 1, none⟩ (arrA (q.addr)) (at_ext b2 1 17 (arrP_ext q)) Try.underlying23 rfl (info23a (q.addr)) rfl rfl ?_; go_big_quiet_on
              simp only [Act.put, List.setIfInBounds_toArray, List.set_cons_zero, List.set_cons_succ]
              repeat (first | go_big_quiet_skip | (go_big_quiet_want; go_big_quiet_op; go_big_quiet_on))
              go_big_quiet_want; go_big_quiet_op; refine ⟨_, fun g => cls (rbit_any q.addr k (by omega) _), ?_⟩; go_big_quiet_on
              repeat (first | go_big_quiet_skip | (go_big_quiet_want; go_big_quiet_op; go_big_quiet_on))
              refine wpQuiet_nil ?_
              intro W1 hg1
              have b3 := hg1.blk b1
              have b4 := hg1.blk b2
              have g3 := gr.trans hg1
              clear b1 b2 gr hg1 k17
              by_cases hb : bit p.addr k = bit q.addr k
              · have B3 := Lib.hid b3
                have B4 := Lib.hid b4
                have G3 := Lib.hid g3
                have HB := Lib.hid hb
                rw [hb]
                clear b3 b4 g3 hb
                go_wp2
                go_roundw
                case rel => exact ⟨k + 1, by omega, by go_num, B3.out, B4.out, G3.out, Lib.hid (fun j h => by
                  by_cases e : j = k
                  · rw [e]; exact HB.out
                  · exact Hk.out j (by omega))⟩
                case measure => simp [intOf]; omega
              · have hf := Hno.out k (by have := Hn.out; omega) hb
                have G3 := Lib.hid g3
                have HF := Lib.hid hf
                have hne : ¬ ((bit p.addr k : Nat) : Int) = ((bit q.addr k : Nat) : Int) := by omega
                clear b3 b4 g3 hf hb
                go_wp2
                go_ret
                exact ⟨by rw [HF.out]; rfl, G3.out⟩
            · obtain rfl : k = n := by omega
              have hf := Hyes.out (fun i hi => Hk.out i (by have := Hn.out; omega))
              have HF := Lib.hid hf
              clear hf
              go_wp2
              go_ret
              exact ⟨by rw [HF.out]; rfl, gr⟩
        ·
          have hcov : covers p q = false := by unfold covers; simp [hv, hv']
          rw [hcov]
          clear hcov
          have HV := Lib.hid hv
          have HV' := Lib.hid hv'
          clear hv hv'
          go_enter Try.func44, Try.ntmps44
          go_upto_region 1 with fail
          have b1 := heap_alloc2_old w (.cells (arrP p) 25) (.cells (arrP q) 25)
          have b2 := heap_alloc2_new w (.cells (arrP p) 25) (.cells (arrP q) 25)
          have g0 := ((G.refl w).alloc (.cells (arrP p) 25)).alloc (.cells (arrP q) 25)
          generalize (w.alloc (.cells (arrP p) 25)).alloc (.cells (arrP q) 25) = W at *
          obtain ⟨b, hb⟩ : ∃ b, w.heap.size = b := ⟨_, rfl⟩
          have hb0 : w.heap.size ≤ b := by omega
          rw [hb] at b1 b2 ⊢
          clear hb
          have k0 := gcell ((blk_cell b1 0).trans (arrP_0 p))
          have k17 := gcell ((blk_cell b1 17).trans (arrP_17 p))
          have j0 := gcell ((blk_cell b2 0).trans (arrP_0 q))
          have j17 := gcell ((blk_cell b2 17).trans (arrP_17 q))
          rw [HV.out] at k0
          rw [HV'.out] at j0
          refine region_seq ?_
          repeat (first | go_big_quiet_skip | (go_big_quiet_want; go_big_quiet_op; go_big_quiet_on))
          go_big_quiet_want; refine q_load 25 _ ⟨b, 0, none⟩ (arrP (p)) (at_blk b1) Try.underlying25 rfl (info25p (p)) rfl rfl ?_; go_big_quiet_on
          simp only [Act.put, List.setIfInBounds_toArray, List.set_cons_zero, List.set_cons_succ]
          repeat (first | go_big_quiet_skip | (go_big_quiet_want; go_big_quiet_op; go_big_quiet_on))
          go_big_quiet_want; go_big_quiet_op; refine ⟨_, fun g => cls (hp _), ?_⟩; go_big_quiet_on
          repeat (first | go_big_quiet_skip | (go_big_quiet_want; go_big_quiet_op; go_big_quiet_on))
          go_big_quiet_want; refine q_load 25 _ ⟨b + 1, 0, none⟩ (arrP (q)) (at_blk b2) Try.underlying25 rfl (info25p (q)) rfl rfl ?_; go_big_quiet_on
          simp only [Act.put, List.setIfInBounds_toArray, List.set_cons_zero, List.set_cons_succ]
          repeat (first | go_big_quiet_skip | (go_big_quiet_want; go_big_quiet_op; go_big_quiet_on))
          go_big_quiet_want; go_big_quiet_op; refine ⟨_, fun g => cls (hq _), ?_⟩; go_big_quiet_on
          repeat (first | go_big_quiet_skip | (go_big_quiet_want; go_big_quiet_op; go_big_quiet_on))
          refine wpQuiet_nil ?_
          intro W1 hg1
          go_wp2
          go_ret
          exact ⟨rfl, g0.trans hg1⟩
        ·
          have hcov : covers p q = false := by unfold covers; simp [hv, hv']
          rw [hcov]
          clear hcov
          have HV := Lib.hid hv
          have HV' := Lib.hid hv'
          clear hv hv'
          go_enter Try.func44, Try.ntmps44
          go_upto_region 1 with fail
          have b1 := heap_alloc2_old w (.cells (arrP p) 25) (.cells (arrP q) 25)
          have b2 := heap_alloc2_new w (.cells (arrP p) 25) (.cells (arrP q) 25)
          have g0 := ((G.refl w).alloc (.cells (arrP p) 25)).alloc (.cells (arrP q) 25)
          generalize (w.alloc (.cells (arrP p) 25)).alloc (.cells (arrP q) 25) = W at *
          obtain ⟨b, hb⟩ : ∃ b, w.heap.size = b := ⟨_, rfl⟩
          have hb0 : w.heap.size ≤ b := by omega
          rw [hb] at b1 b2 ⊢
          clear hb
          have k0 := gcell ((blk_cell b1 0).trans (arrP_0 p))
          have k17 := gcell ((blk_cell b1 17).trans (arrP_17 p))
          have j0 := gcell ((blk_cell b2 0).trans (arrP_0 q))
          have j17 := gcell ((blk_cell b2 17).trans (arrP_17 q))
          rw [HV.out] at k0
          rw [HV'.out] at j0
          refine region_seq ?_
          repeat (first | go_big_quiet_skip | (go_big_quiet_want; go_big_quiet_op; go_big_quiet_on))
          go_big_quiet_want; refine q_load 25 _ ⟨b, 0, none⟩ (arrP (p)) (at_blk b1) Try.underlying25 rfl (info25p (p)) rfl rfl ?_; go_big_quiet_on
          simp only [Act.put, List.setIfInBounds_toArray, List.set_cons_zero, List.set_cons_succ]
          repeat (first | go_big_quiet_skip | (go_big_quiet_want; go_big_quiet_op; go_big_quiet_on))
          go_big_quiet_want; go_big_quiet_op; refine ⟨_, fun g => cls (hp _), ?_⟩; go_big_quiet_on
          repeat (first | go_big_quiet_skip | (go_big_quiet_want; go_big_quiet_op; go_big_quiet_on))
          go_big_quiet_want; refine q_load 25 _ ⟨b + 1, 0, none⟩ (arrP (q)) (at_blk b2) Try.underlying25 rfl (info25p (q)) rfl rfl ?_; go_big_quiet_on
          simp only [Act.put, List.setIfInBounds_toArray, List.set_cons_zero, List.set_cons_succ]
          repeat (first | go_big_quiet_skip | (go_big_quiet_want; go_big_quiet_op; go_big_quiet_on))
          go_big_quiet_want; go_big_quiet_op; refine ⟨_, fun g => cls (hq _), ?_⟩; go_big_quiet_on
          repeat (first | go_big_quiet_skip | (go_big_quiet_want; go_big_quiet_op; go_big_quiet_on))
          refine wpQuiet_nil ?_
          intro W1 hg1
          go_wp2
          go_ret
          exact ⟨rfl, g0.trans hg1⟩
        ·
          have hcov : covers p q = covers p q := by rfl
          have Hcov := Lib.hid hcov
          clear hcov
          have HV := Lib.hid hv
          have HV' := Lib.hid hv'
          clear hv hv'
          go_enter Try.func44, Try.ntmps44
          go_upto_region 1 with fail
          have b1 := heap_alloc2_old w (.cells (arrP p) 25) (.cells (arrP q) 25)
          have b2 := heap_alloc2_new w (.cells (arrP p) 25) (.cells (arrP q) 25)
          have g0 := ((G.refl w).alloc (.cells (arrP p) 25)).alloc (.cells (arrP q) 25)
          generalize (w.alloc (.cells (arrP p) 25)).alloc (.cells (arrP q) 25) = W at *
          obtain ⟨b, hb⟩ : ∃ b, w.heap.size = b := ⟨_, rfl⟩
          have hb0 : w.heap.size ≤ b := by omega
          rw [hb] at b1 b2 ⊢
          clear hb
          have k0 := gcell ((blk_cell b1 0).trans (arrP_0 p))
          have k17 := gcell ((blk_cell b1 17).trans (arrP_17 p))
          have j0 := gcell ((blk_cell b2 0).trans (arrP_0 q))
          have j17 := gcell ((blk_cell b2 17).trans (arrP_17 q))
          rw [HV.out] at k0
          rw [HV'.out] at j0
          refine region_seq ?_
          repeat (first | go_big_quiet_skip | (go_big_quiet_want; go_big_quiet_op; go_big_quiet_on))
          go_big_quiet_want; refine q_load 25 _ ⟨b, 0, none⟩ (arrP (p)) (at_blk b1) Try.underlying25 rfl (info25p (p)) rfl rfl ?_; go_big_quiet_on
          simp only [Act.put, List.setIfInBounds_toArray, List.set_cons_zero, List.set_cons_succ]
          repeat (first | go_big_quiet_skip | (go_big_quiet_want; go_big_quiet_op; go_big_quiet_on))
          go_big_quiet_want; go_big_quiet_op; refine ⟨_, fun g => cls (hp _), ?_⟩; go_big_quiet_on
          repeat (first | go_big_quiet_skip | (go_big_quiet_want; go_big_quiet_op; go_big_quiet_on))
          go_big_quiet_want; refine q_load 25 _ ⟨b + 1, 0, none⟩ (arrP (q)) (at_blk b2) Try.underlying25 rfl (info25p (q)) rfl rfl ?_; go_big_quiet_on
          simp only [Act.put, List.setIfInBounds_toArray, List.set_cons_zero, List.set_cons_succ]
          repeat (first | go_big_quiet_skip | (go_big_quiet_want; go_big_quiet_op; go_big_quiet_on))
          go_big_quiet_want; go_big_quiet_op; refine ⟨_, fun g => cls (hq _), ?_⟩; go_big_quiet_on
          repeat (first | go_big_quiet_skip | (go_big_quiet_want; go_big_quiet_op; go_big_quiet_on))
          refine wpQuiet_nil ?_
          intro W1 hg1
          have c1 := hg1.blk b1
          have c2 := hg1.blk b2
          have g1 := g0.trans hg1
          clear b1 b2 g0 hg1 k0 k17 j0 j17
          clear W
          have Hyes := Lib.hid (covers_of p q hpr hqr (by rw [HV.out, HV'.out]) hl)
          have Hno := Lib.hid (not_covers_bit p q)
          obtain ⟨n, hn⟩ := Int.eq_ofNat_of_zero_le hr0
          have hn128 : n ≤ 128 := by omega
          have Hn := Lib.hid hn
          clear hn
          go_wp2
          go_loopw [5, 28, 29, 30, 31, 32, 33, 34, 35, 36, 37, 38, 39, 40, 41, 42] (fun i _ _ _ _ _ _ _ _ _ _ _ _ _ _ _ wr => ∃ k : Nat, k ≤ n ∧ i = .int .i64 k ∧ wr.heap[b]? = some (.cells (arrP p) 25 (0, 0)) ∧ wr.heap[b + 1]? = some (.cells (arrP q) 25 (0, 0)) ∧ G w wr ∧ Hid (∀ j, j < k → bit p.addr j = bit q.addr j)) (fun i _ _ _ _ _ _ _ _ _ _ _ _ _ _ _ _ => n - (intOf i).toNat)
          case atStart => exact ⟨0, by omega, rfl, c1, c2, g1, Lib.hid (fun j h => by omega)⟩
          case round =>
            obtain ⟨k, hk, rfl, b1, b2, gr, Hk⟩ := hrel
            clear c1 c2 g1
            have k17 := (blk_cell b1 17).trans (arrP_17 p)
            rw [Hn.out] at k17
            by_cases hlt : k < n
            · go_upto_region 6 with fail
              refine region_all (by kernel_rfl) (by kernel_rfl) ?_
              repeat (first | go_big_quiet_skip | (go_big_quiet_want; go_big_quiet_op; go_big_quiet_on))
              go_big_quiet_want; refine q_load 23 _ ⟨b, 1, none⟩ (arrA (p.addr)) (at_ext b1 1 17 (arrP_ext p)) Try.underlying23 rfl (info23a (p.addr)) rfl rfl ?_; go_big_quiet_on
              simp only [Act.put, List.setIfInBounds_toArray, List.set_cons_zero, List.set_cons_succ]
              repeat (first | go_big_quiet_skip | (go_big_quiet_want; go_big_quiet_op; go_big_quiet_on))
              go_big_quiet_want; go_big_quiet_op; refine ⟨_, fun g => cls (rbit_any p.addr k (by omega) _), ?_⟩; go_big_quiet_on
              repeat (first | go_big_quiet_skip | (go_big_quiet_want; go_big_quiet_op; go_big_quiet_on))
              go_big_quiet_want; refine q_load 23 _ ⟨b + 1, 1, none⟩ (arrA (q.addr)) (at_ext b2 1 17 (arrP_ext q)) Try.underlying23 rfl (info23a (q.addr)) rfl rfl ?_; go_big_quiet_on
              simp only [Act.put, List.setIfInBounds_toArray, List.set_cons_zero, List.set_cons_succ]
              repeat (first | go_big_quiet_skip | (go_big_quiet_want; go_big_quiet_op; go_big_quiet_on))
              go_big_quiet_want; go_big_quiet_op; refine ⟨_, fun g => cls (rbit_any q.addr k (by omega) _), ?_⟩; go_big_quiet_on
              repeat (first | go_big_quiet_skip | (go_big_quiet_want; go_big_quiet_op; go_big_quiet_on))
              refine wpQuiet_nil ?_
              intro W1 hg1
              have b3 := hg1.blk b1
              have b4 := hg1.blk b2
              have g3 := gr.trans hg1
              clear b1 b2 gr hg1 k17
              by_cases hb : bit p.addr k = bit q.addr k
              · have B3 := Lib.hid b3
                have B4 := Lib.hid b4
                have G3 := Lib.hid g3
                have HB := Lib.hid hb
                rw [hb]
                clear b3 b4 g3 hb
                go_wp2
                go_roundw
                case rel => exact ⟨k + 1, by omega, by go_num, B3.out, B4.out, G3.out, Lib.hid (fun j h => by
                  by_cases e : j = k
                  · rw [e]; exact HB.out
                  · exact Hk.out j (by omega))⟩
                case measure => simp [intOf]; omega
              · have hf := Hno.out k (by have := Hn.out; omega) hb
                have G3 := Lib.hid g3
                have HF := Lib.hid hf
                have hne : ¬ ((bit p.addr k : Nat) : Int) = ((bit q.addr k : Nat) : Int) := by omega
                clear b3 b4 g3 hf hb
                go_wp2
                go_ret
                exact ⟨by rw [HF.out]; rfl, G3.out⟩
            · obtain rfl : k = n := by omega
              have hf := Hyes.out (fun i hi => Hk.out i (by have := Hn.out; omega))
              have HF := Lib.hid hf
              clear hf
              go_wp2
              go_ret
              exact ⟨by rw [HF.out]; rfl, gr⟩
      · have hcov : covers p q = false := by unfold covers; simp [hl]
        rw [hcov]
        clear hcov
        cases v <;> cases v'
        ·
          have HV := Lib.hid hv
          have HV' := Lib.hid hv'
          clear hv hv'
          go_enter Try.func44, Try.ntmps44
          go_upto_region 1 with fail
          have b1 := heap_alloc2_old w (.cells (arrP p) 25) (.cells (arrP q) 25)
          have b2 := heap_alloc2_new w (.cells (arrP p) 25) (.cells (arrP q) 25)
          have g0 := ((G.refl w).alloc (.cells (arrP p) 25)).alloc (.cells (arrP q) 25)
          generalize (w.alloc (.cells (arrP p) 25)).alloc (.cells (arrP q) 25) = W at *
          obtain ⟨b, hb⟩ : ∃ b, w.heap.size = b := ⟨_, rfl⟩
          have hb0 : w.heap.size ≤ b := by omega
          rw [hb] at b1 b2 ⊢
          clear hb
          have k0 := gcell ((blk_cell b1 0).trans (arrP_0 p))
          have k17 := gcell ((blk_cell b1 17).trans (arrP_17 p))
          have j0 := gcell ((blk_cell b2 0).trans (arrP_0 q))
          have j17 := gcell ((blk_cell b2 17).trans (arrP_17 q))
          rw [HV.out] at k0
          rw [HV'.out] at j0
          refine region_seq ?_
          repeat (first | go_big_quiet_skip | (go_big_quiet_want; go_big_quiet_op; go_big_quiet_on))
          go_big_quiet_want; refine q_load 25 _ ⟨b, 0, none⟩ (arrP (p)) (at_blk b1) Try.underlying25 rfl (info25p (p)) rfl rfl ?_; go_big_quiet_on
          simp only [Act.put, List.setIfInBounds_toArray, List.set_cons_zero, List.set_cons_succ]
          repeat (first | go_big_quiet_skip | (go_big_quiet_want; go_big_quiet_op; go_big_quiet_on))
          go_big_quiet_want; go_big_quiet_op; refine ⟨_, fun g => cls (hp _), ?_⟩; go_big_quiet_on
          repeat (first | go_big_quiet_skip | (go_big_quiet_want; go_big_quiet_op; go_big_quiet_on))
          go_big_quiet_want; refine q_load 25 _ ⟨b + 1, 0, none⟩ (arrP (q)) (at_blk b2) Try.underlying25 rfl (info25p (q)) rfl rfl ?_; go_big_quiet_on
          simp only [Act.put, List.setIfInBounds_toArray, List.set_cons_zero, List.set_cons_succ]
          repeat (first | go_big_quiet_skip | (go_big_quiet_want; go_big_quiet_op; go_big_quiet_on))
          go_big_quiet_want; go_big_quiet_op; refine ⟨_, fun g => cls (hq _), ?_⟩; go_big_quiet_on
          repeat (first | go_big_quiet_skip | (go_big_quiet_want; go_big_quiet_op; go_big_quiet_on))
          refine wpQuiet_nil ?_
          intro W1 hg1
          go_wp2
          go_ret
          exact ⟨rfl, g0.trans hg1⟩
        ·
          have HV := Lib.hid hv
          have HV' := Lib.hid hv'
          clear hv hv'
          go_enter Try.func44, Try.ntmps44
          go_upto_region 1 with fail
          have b1 := heap_alloc2_old w (.cells (arrP p) 25) (.cells (arrP q) 25)
          have b2 := heap_alloc2_new w (.cells (arrP p) 25) (.cells (arrP q) 25)
          have g0 := ((G.refl w).alloc (.cells (arrP p) 25)).alloc (.cells (arrP q) 25)
          generalize (w.alloc (.cells (arrP p) 25)).alloc (.cells (arrP q) 25) = W at *
          obtain ⟨b, hb⟩ : ∃ b, w.heap.size = b := ⟨_, rfl⟩
          have hb0 : w.heap.size ≤ b := by omega
          rw [hb] at b1 b2 ⊢
          clear hb
          have k0 := gcell ((blk_cell b1 0).trans (arrP_0 p))
          have k17 := gcell ((blk_cell b1 17).trans (arrP_17 p))
          have j0 := gcell ((blk_cell b2 0).trans (arrP_0 q))
          have j17 := gcell ((blk_cell b2 17).trans (arrP_17 q))
          rw [HV.out] at k0
          rw [HV'.out] at j0
          refine region_seq ?_
          repeat (first | go_big_quiet_skip | (go_big_quiet_want; go_big_quiet_op; go_big_quiet_on))
          go_big_quiet_want; refine q_load 25 _ ⟨b, 0, none⟩ (arrP (p)) (at_blk b1) Try.underlying25 rfl (info25p (p)) rfl rfl ?_; go_big_quiet_on
          simp only [Act.put, List.setIfInBounds_toArray, List.set_cons_zero, List.set_cons_succ]
          repeat (first | go_big_quiet_skip | (go_big_quiet_want; go_big_quiet_op; go_big_quiet_on))
          go_big_quiet_want; go_big_quiet_op; refine ⟨_, fun g => cls (hp _), ?_⟩; go_big_quiet_on
          repeat (first | go_big_quiet_skip | (go_big_quiet_want; go_big_quiet_op; go_big_quiet_on))
          go_big_quiet_want; refine q_load 25 _ ⟨b + 1, 0, none⟩ (arrP (q)) (at_blk b2) Try.underlying25 rfl (info25p (q)) rfl rfl ?_; go_big_quiet_on
          simp only [Act.put, List.setIfInBounds_toArray, List.set_cons_zero, List.set_cons_succ]
          repeat (first | go_big_quiet_skip | (go_big_quiet_want; go_big_quiet_op; go_big_quiet_on))
          go_big_quiet_want; go_big_quiet_op; refine ⟨_, fun g => cls (hq _), ?_⟩; go_big_quiet_on
          repeat (first | go_big_quiet_skip | (go_big_quiet_want; go_big_quiet_op; go_big_quiet_on))
          refine wpQuiet_nil ?_
          intro W1 hg1
          go_wp2
          go_ret
          exact ⟨rfl, g0.trans hg1⟩
        ·
          have HV := Lib.hid hv
          have HV' := Lib.hid hv'
          clear hv hv'
          go_enter Try.func44, Try.ntmps44
          go_upto_region 1 with fail
          have b1 := heap_alloc2_old w (.cells (arrP p) 25) (.cells (arrP q) 25)
          have b2 := heap_alloc2_new w (.cells (arrP p) 25) (.cells (arrP q) 25)
          have g0 := ((G.refl w).alloc (.cells (arrP p) 25)).alloc (.cells (arrP q) 25)
          generalize (w.alloc (.cells (arrP p) 25)).alloc (.cells (arrP q) 25) = W at *
          obtain ⟨b, hb⟩ : ∃ b, w.heap.size = b := ⟨_, rfl⟩
          have hb0 : w.heap.size ≤ b := by omega
          rw [hb] at b1 b2 ⊢
          clear hb
          have k0 := gcell ((blk_cell b1 0).trans (arrP_0 p))
          have k17 := gcell ((blk_cell b1 17).trans (arrP_17 p))
          have j0 := gcell ((blk_cell b2 0).trans (arrP_0 q))
          have j17 := gcell ((blk_cell b2 17).trans (arrP_17 q))
          rw [HV.out] at k0
          rw [HV'.out] at j0
          refine region_seq ?_
          repeat (first | go_big_quiet_skip | (go_big_quiet_want; go_big_quiet_op; go_big_quiet_on))
          go_big_quiet_want; refine q_load 25 _ ⟨b, 0, none⟩ (arrP (p)) (at_blk b1) Try.underlying25 rfl (info25p (p)) rfl rfl ?_; go_big_quiet_on
          simp only [Act.put, List.setIfInBounds_toArray, List.set_cons_zero, List.set_cons_succ]
          repeat (first | go_big_quiet_skip | (go_big_quiet_want; go_big_quiet_op; go_big_quiet_on))
          go_big_quiet_want; go_big_quiet_op; refine ⟨_, fun g => cls (hp _), ?_⟩; go_big_quiet_on
          repeat (first | go_big_quiet_skip | (go_big_quiet_want; go_big_quiet_op; go_big_quiet_on))
          go_big_quiet_want; refine q_load 25 _ ⟨b + 1, 0, none⟩ (arrP (q)) (at_blk b2) Try.underlying25 rfl (info25p (q)) rfl rfl ?_; go_big_quiet_on
          simp only [Act.put, List.setIfInBounds_toArray, List.set_cons_zero, List.set_cons_succ]
          repeat (first | go_big_quiet_skip | (go_big_quiet_want; go_big_quiet_op; go_big_quiet_on))
          go_big_quiet_want; go_big_quiet_op; refine ⟨_, fun g => cls (hq _), ?_⟩; go_big_quiet_on
          repeat (first | go_big_quiet_skip | (go_big_quiet_want; go_big_quiet_op; go_big_quiet_on))
          refine wpQuiet_nil ?_
          intro W1 hg1
          go_wp2
          go_ret
          exact ⟨rfl, g0.trans hg1⟩
        ·
          have HV := Lib.hid hv
          have HV' := Lib.hid hv'
          clear hv hv'
          go_enter Try.func44, Try.ntmps44
          go_upto_region 1 with fail
          have b1 := heap_alloc2_old w (.cells (arrP p) 25) (.cells (arrP q) 25)
          have b2 := heap_alloc2_new w (.cells (arrP p) 25) (.cells (arrP q) 25)
          have g0 := ((G.refl w).alloc (.cells (arrP p) 25)).alloc (.cells (arrP q) 25)
          generalize (w.alloc (.cells (arrP p) 25)).alloc (.cells (arrP q) 25) = W at *
          obtain ⟨b, hb⟩ : ∃ b, w.heap.size = b := ⟨_, rfl⟩
          have hb0 : w.heap.size ≤ b := by omega
          rw [hb] at b1 b2 ⊢
          clear hb
          have k0 := gcell ((blk_cell b1 0).trans (arrP_0 p))
          have k17 := gcell ((blk_cell b1 17).trans (arrP_17 p))
          have j0 := gcell ((blk_cell b2 0).trans (arrP_0 q))
          have j17 := gcell ((blk_cell b2 17).trans (arrP_17 q))
          rw [HV.out] at k0
          rw [HV'.out] at j0
          refine region_seq ?_
          repeat (first | go_big_quiet_skip | (go_big_quiet_want; go_big_quiet_op; go_big_quiet_on))
          go_big_quiet_want; refine q_load 25 _ ⟨b, 0, none⟩ (arrP (p)) (at_blk b1) Try.underlying25 rfl (info25p (p)) rfl rfl ?_; go_big_quiet_on
          simp only [Act.put, List.setIfInBounds_toArray, List.set_cons_zero, List.set_cons_succ]
          repeat (first | go_big_quiet_skip | (go_big_quiet_want; go_big_quiet_op; go_big_quiet_on))
          go_big_quiet_want; go_big_quiet_op; refine ⟨_, fun g => cls (hp _), ?_⟩; go_big_quiet_on
          repeat (first | go_big_quiet_skip | (go_big_quiet_want; go_big_quiet_op; go_big_quiet_on))
          go_big_quiet_want; refine q_load 25 _ ⟨b + 1, 0, none⟩ (arrP (q)) (at_blk b2) Try.underlying25 rfl (info25p (q)) rfl rfl ?_; go_big_quiet_on
          simp only [Act.put, List.setIfInBounds_toArray, List.set_cons_zero, List.set_cons_succ]
          repeat (first | go_big_quiet_skip | (go_big_quiet_want; go_big_quiet_op; go_big_quiet_on))
          go_big_quiet_want; go_big_quiet_op; refine ⟨_, fun g => cls (hq _), ?_⟩; go_big_quiet_on
          repeat (first | go_big_quiet_skip | (go_big_quiet_want; go_big_quiet_op; go_big_quiet_on))
          refine wpQuiet_nil ?_
          intro W1 hg1
          go_wp2
          go_ret
          exact ⟨rfl, g0.trans hg1⟩
end Go.Proofs.Ytedgbmibgddnkaa
