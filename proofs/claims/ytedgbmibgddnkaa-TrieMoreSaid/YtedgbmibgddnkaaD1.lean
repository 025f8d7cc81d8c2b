/- The law: one more. -/
import Derived.Test.YtedgbmibgddnkaaX
import Derived.Test.YtedgbmibgddnkaaT3
import Derived.Test.YtedgbmibgddnkaaV
namespace Go.Proofs.Ytedgbmibgddnkaa
open Go.RowKit Ad
set_option linter.unusedSimpArgs false
set_option linter.unusedVariables false
set_option maxRecDepth 100000
set_option maxHeartbeats 4000000
theorem trieMore_any (A : Option Addr) (c : Nat) (L : List Vrp) (v : Vrp) (p : Pfx) (w : World) (hL : RdV w A L) (hl : L.length ≤ maxLen) :
    Calls Try.prog 4 #[.slice A L.length c, .agg (arrV v), .agg (arrP p)] w fun e w' => e = .returned (.bool true) ∧ G w w' := by
  obtain ⟨n, hn⟩ : ∃ n, L.length = n := ⟨_, rfl⟩
  have Hn := Lib.hid hn
  have HL := Lib.hid hL
  rw [hn] at hl ⊢
  simp only [maxLen] at hl
  clear hn hL
  go_enter Try.func4, Try.ntmps4
  go_upto_region 1 with fail
  have b1 := heap_alloc2_old w (.cells (arrV v) 39) (.cells (arrP p) 25)
  have b2 := heap_alloc2_new w (.cells (arrV v) 39) (.cells (arrP p) 25)
  have g0 := ((G.refl w).alloc (.cells (arrV v) 39)).alloc (.cells (arrP p) 25)
  obtain ⟨b, hb⟩ : ∃ b, w.heap.size = b := ⟨_, rfl⟩
  rw [hb] at b1 b2 ⊢
  clear hb
  generalize (w.alloc (.cells (arrV v) 39)).alloc (.cells (arrP p) 25) = W at *
  refine region_seq ?_
  go_big_quiet_want; go_big_quiet_op; refine ⟨_, fun g => cls (awake_any _), ?_⟩; go_big_quiet_on
  repeat (first | go_big_quiet_skip | (go_big_quiet_want; go_big_quiet_op; go_big_quiet_on))
  refine wpQuiet_nil ?_
  intro W1 hg1
  have c1 := hg1.blk b1
  have c2 := hg1.blk b2
  have g1 := g0.trans hg1
  clear b1 b2 g0 hg1
  clear W
  by_cases hlen : 200 < n
  · have G1 := Lib.hid g1
    clear g1 c1 c2
    go_wp2
    go_ret
    exact ⟨rfl, G1.out⟩
  · have hnew := new_any A L c W1 (HL.out.grow g1) (by have := Hn.out; omega)
    rw [Hn.out] at hnew
    have G1 := Lib.hid g1
    have C1 := Lib.hid c1
    have C2 := Lib.hid c2
    clear g1 c1 c2
    go_upto_region 5 with (go_at_call 12; refine hnew.mono ?_; rintro e w' ⟨bt, rfl, hT, hg⟩; clear hnew; have HT := Lib.hid hT; have G2 := Lib.hid (G1.out.trans hg); have D1 := Lib.hid (hg.blk C1.out); have D2 := Lib.hid (hg.blk C2.out); clear hT hg G1 C1 C2)
    rename_i Qp hh K5 a5
    have key : ∀ (x20 x22 x24 x25 : Value) (bt2 base2 : Nat) (W6 : World), G w' W6 → TrieIs W6 base2 bt2 (trieL (L ++ [v])) → Exit.then K5 Qp .normal { tmps := #[.slice A n c, .agg (arrV v), .agg (arrP p), undef, .pointer (some ⟨b, 0, none⟩), .pointer (some ⟨b + 1, 0, none⟩), .bool false, .bool true, .pointer (some ⟨bt, 0, none⟩), .pointer (some ⟨bt2, 0, none⟩), undef, undef, undef, .bool true, .slice A n c, .int .i64 n, .bool (decide (200 < (n : Int))), undef, .slice A n c, .pointer (some ⟨bt, 0, none⟩), x20, .slice A n c, x22, .agg (arrV v), x24, x25, .pointer (some ⟨bt2, 0, none⟩), undef, undef, undef, undef, undef, undef, undef, undef, undef, undef, undef, undef, undef, undef, undef, undef, undef, undef, undef, undef, undef, undef, undef, undef, undef, undef, undef, undef, undef, undef, undef, undef, undef, undef, undef, undef, undef, undef, undef, undef, undef, undef, undef, undef, undef, undef, undef, undef, undef, undef, undef, undef, undef, undef, undef, undef, undef, undef, undef, undef, undef, undef, undef, undef, undef, undef, undef, undef], defers := [] } W6 := by
      intro x20 x22 x24 x25 bt2 base2 W6 hg6 hT6
      dsimp only
      have HT6 := Lib.hid hT6
      have HA6 := Lib.hid (HT.out.grow hg6)
      have c2 := hg6.blk D2.out
      have G6 := Lib.hid (G2.out.trans hg6)
      have hstep := trieL_snoc L v
      obtain ⟨X, hX⟩ : ∃ X, trieL L = X := ⟨_, rfl⟩
      obtain ⟨Y, hY⟩ : ∃ Y, trieL (L ++ [v]) = Y := ⟨_, rfl⟩
      rw [hX, hY] at hstep
      rw [hX] at HA6
      rw [hY] at HT6
      have hmem : ∀ x ∈ X, x ∈ Y := by rw [hstep]; exact step_mem X v
      have HM := Lib.hid hmem
      have HStep := Lib.hid hstep
      have HXL := Lib.hid (show X.length ≤ 200 by have := trieL_length L []; have := Hn.out; rw [← hX]; unfold trieL; simp only [List.length_nil] at *; omega)
      have HYL := Lib.hid (show Y.length ≤ X.length + 1 by rw [hstep]; exact step_length X v)
      clear hT6 hg6 HT D1 D2 G2 hstep hX hY hmem HL Hn
      generalize W1.heap.size = base1 at *
      clear w' W1
      go_wp2
      go_loopw [10, 11, 12, 33, 34, 35, 36, 37, 38, 39, 40, 41, 42, 43, 44, 45, 46, 47, 48, 49, 50, 51, 52, 53, 54, 55, 56, 57, 58, 59, 60, 61, 62, 63, 64, 65, 66, 67, 68, 69, 70, 71, 72, 73] (fun i _ _ _ _ _ _ _ _ _ _ _ _ _ _ _ _ _ _ _ _ _ _ _ _ _ _ _ _ _ _ _ _ _ _ _ _ _ _ _ _ _ _ _ wr => ∃ k : Nat, k ≤ 4 ∧ i = .int .u32 k ∧ wr.heap[b + 1]? = some (.cells (arrP p) 25 (0, 0)) ∧ Hid (G w wr ∧ TrieIs wr base1 bt X ∧ TrieIs wr base2 bt2 Y)) (fun i _ _ _ _ _ _ _ _ _ _ _ _ _ _ _ _ _ _ _ _ _ _ _ _ _ _ _ _ _ _ _ _ _ _ _ _ _ _ _ _ _ _ _ _ => 4 - (intOf i).toNat)
      case atStart => exact ⟨0, by omega, rfl, c2, Lib.hid ⟨G6.out, HA6.out, HT6.out⟩⟩
      case round =>
        clear c2 G6 HA6 HT6
        clear W6
        obtain ⟨k, hk, rfl, c2, Hrel⟩ := hrel
        by_cases hlt : k < 4
        · have hA := fun W (h : G wr W) => tanswer_any base1 bt X p k W (Hrel.out.2.1.grow h)
          have hB := fun W (h : G wr W) => tanswer_any base2 bt2 Y p k W (Hrel.out.2.2.grow h)
          have f2 : answerL X p k = 2 → answerL Y p k = 2 := fun h => more_2 HM.out h
          have f0 : answerL Y p k = 0 → answerL X p k = 0 := fun h => more_0 HM.out h
          have fz : (k : Int) = 0 → answerL Y p k ≠ 2 := fun h => by rw [h]; exact zero_not2 Y p
          have fr : p.right = false → answerL Y p k = 0 := fun h => wrong_0 Y _ h
          have hx := answerL_cases X p k
          have hy := answerL_cases Y p k
          have hright := fun W => right_any p W
          generalize answerL X p k = x at *
          generalize answerL Y p k = y at *
          obtain ⟨r, hr⟩ : ∃ r, p.right = r := ⟨_, rfl⟩
          rw [hr] at fr hright
          clear hr
          have hcase : (r = false ∧ x = 0 ∧ y = 0) ∨ (r = true ∧ ((x = 0 ∧ y = 0) ∨ (x = 0 ∧ y = 1) ∨ (x = 1 ∧ y = 1) ∨ (¬ (k : Int) = 0 ∧ x = 0 ∧ y = 2) ∨ (¬ (k : Int) = 0 ∧ x = 1 ∧ y = 2) ∨ (¬ (k : Int) = 0 ∧ x = 2 ∧ y = 2))) := by
            cases r
            · exact .inl ⟨rfl, f0 (fr rfl), fr rfl⟩
            · refine .inr ⟨rfl, ?_⟩
              by_cases hk0 : (k : Int) = 0
              · have := fz hk0
                rcases hx with h | h | h <;> rcases hy with h' | h' | h' <;> simp_all
              · rcases hx with h | h | h <;> rcases hy with h' | h' | h' <;> simp_all
          clear f2 f0 fz fr hx hy
          go_upto_region 11 with fail
          refine region_seq ?_
          repeat (first | go_big_quiet_skip | (go_big_quiet_want; go_big_quiet_op; go_big_quiet_on))
          go_big_quiet_want; refine q_load 25 _ ⟨b + 1, 0, none⟩ (arrP (p)) (at_blk c2) Try.underlying25 rfl (info25p (p)) rfl rfl ?_; go_big_quiet_on
          simp only [Act.put, List.setIfInBounds_toArray, List.set_cons_zero, List.set_cons_succ]
          repeat (first | go_big_quiet_skip | (go_big_quiet_want; go_big_quiet_op; go_big_quiet_on))
          go_big_quiet_want; go_big_quiet_op; refine ⟨_, fun g => cls (hA _ (G.of wr g)), ?_⟩; go_big_quiet_on
          repeat (first | go_big_quiet_skip | (go_big_quiet_want; go_big_quiet_op; go_big_quiet_on))
          refine wpQuiet_nil ?_
          intro W1 hg1
          have c3 := hg1.blk c2
          have hB1 := fun W (h : G W1 W) => hB W (hg1.trans h)
          have Hg1 := Lib.hid hg1
          clear c2 hA hB hg1
          go_upto_region 12 with fail
          refine region_seq ?_
          repeat (first | go_big_quiet_skip | (go_big_quiet_want; go_big_quiet_op; go_big_quiet_on))
          go_big_quiet_want; refine q_load 25 _ ⟨b + 1, 0, none⟩ (arrP (p)) (at_blk c3) Try.underlying25 rfl (info25p (p)) rfl rfl ?_; go_big_quiet_on
          simp only [Act.put, List.setIfInBounds_toArray, List.set_cons_zero, List.set_cons_succ]
          repeat (first | go_big_quiet_skip | (go_big_quiet_want; go_big_quiet_op; go_big_quiet_on))
          go_big_quiet_want; go_big_quiet_op; refine ⟨_, fun g => cls (hB1 _ (G.of W1 g)), ?_⟩; go_big_quiet_on
          repeat (first | go_big_quiet_skip | (go_big_quiet_want; go_big_quiet_op; go_big_quiet_on))
          refine wpQuiet_nil ?_
          intro W2 hg2
          have c4 := hg2.blk c3
          have Hg2 := Lib.hid (Hg1.out.trans hg2)
          clear c3 hB1 hg2 Hg1
          clear W1
          go_upto_region 13 with fail
          rcases hcase with ⟨rfl, rfl, rfl⟩ | ⟨rfl, ⟨rfl, rfl⟩ | ⟨rfl, rfl⟩ | ⟨rfl, rfl⟩ | ⟨hk1, rfl, rfl⟩ | ⟨hk1, rfl, rfl⟩ | ⟨hk1, rfl, rfl⟩⟩
          all_goals (go_upto_region 15 with fail)
          all_goals
            refine region_seq ?_
            go_big_quiet_want; refine q_load 25 _ ⟨b + 1, 0, none⟩ (arrP (p)) (at_blk c4) Try.underlying25 rfl (info25p (p)) rfl rfl ?_; go_big_quiet_on
            simp only [Act.put, List.setIfInBounds_toArray, List.set_cons_zero, List.set_cons_succ]
            go_big_quiet_want; go_big_quiet_op; refine ⟨_, fun g => cls (hright _), ?_⟩; go_big_quiet_on
            repeat (first | go_big_quiet_skip | (go_big_quiet_want; go_big_quiet_op; go_big_quiet_on))
            refine wpQuiet_nil ?_
            intro W3 hg3
            have c5 := hg3.blk c4
            have Hg3 := Lib.hid (Hg2.out.trans hg3)
            have C5 := Lib.hid c5
            clear c4 c5 hright hg3 Hg2
            clear W2
            go_wp2
            go_roundw
            case rel => exact ⟨k + 1, by omega, by go_num, C5.out, Lib.hid ⟨Hrel.out.1.trans Hg3.out, Hrel.out.2.1.grow Hg3.out, Hrel.out.2.2.grow Hg3.out⟩⟩
            case measure => simp [intOf]; omega
        · obtain rfl : k = 4 := by omega
          obtain ⟨hgr, htA, htB⟩ := Hrel.out
          have q1 := fun W (h : G wr W) => len_any base1 bt X W (htA.grow h)
          have q2 := fun W (h : G wr W) => len_any base2 bt2 Y W (htB.grow h)
          have q3 := fun W (h : G wr W) => tcovers_any base1 bt X p W (htA.grow h) (by have := HXL.out; omega)
          have q4 := fun W (h : G wr W) => tcovers_any base2 bt2 Y p W (htB.grow h) (by have := HXL.out; have := HYL.out; omega)
          have hc1 : (coversL Y p).length ≤ (coversL X p).length + 1 := by rw [coversL_length, coversL_length, HStep.out]; exact wayL_step X v p
          have hc2 : (coversL X p).length ≤ 200000 := by rw [coversL_length]; have := wayL_length X p; have := HXL.out; omega
          have hx2 := HXL.out
          have hy2 := HYL.out
          generalize (coversL Y p).length = cy at *
          generalize (coversL X p).length = cx at *
          have Hgr := Lib.hid hgr
          clear Hrel htA htB hgr
          go_upto_region 17 with fail
          generalize X.length = nx at *
          generalize Y.length = ny at *
          have hy3 : (ny : Int) ≤ nx + 1 := by omega
          have hc3 : (cy : Int) ≤ cx + 1 := by omega
          have hS : G wr wr.drew := (G.refl wr).drew
          refine region_q (G wr) 22 (.q [0, 1, 2, 4] (.one 3 (.one 5 (.q [6, 7, 8, 9, 10, 11, 14, 15] (.one 12 (.q [13] (.one 16 (.q [17, 18, 19, 20, 21] .nil)))))))) (by kernel_rfl) (by kernel_rfl) (by decide) (by kernel_rfl) (fun _ _ d _ _ h => by cases d <;> exact h) ?_
          refine wpTq_qG hS ?_
          change wpQuiet _ _ _ _ [_, _, _, _] _
          repeat (first | go_big_quiet_skip | (go_big_quiet_want; go_big_quiet_op; go_big_quiet_on))
          refine wpQuiet_nil ?_
          generalize wr.drew = V0 at *
          refine wpTq_one (o := ⟨_, _, _, _, _, _⟩) rfl (fun _ => hS) (by rfl) (fun K hK => ?_)
          refine wp_callF #[.pointer (some ⟨bt2, 0, none⟩)] Try.func18 (by kernel_rfl) rfl rfl rfl (q2 V0 hS) ?_
          rintro e V1 ⟨rfl, rfl⟩
          refine ⟨_, rfl, hK _ _ (fun _ => hS) ?_⟩
          clear hK
          clear K
          simp only [Act.put, List.setIfInBounds_toArray, List.set_cons_zero, List.set_cons_succ]
          refine wpTq_one (o := ⟨_, _, _, _, _, _⟩) rfl (fun _ => hS) (by rfl) (fun K hK => ?_)
          refine wp_callF #[.pointer (some ⟨bt, 0, none⟩)] Try.func18 (by kernel_rfl) rfl rfl rfl (q1 V1 hS) ?_
          rintro e V2 ⟨rfl, rfl⟩
          refine ⟨_, rfl, hK _ _ (fun _ => hS) ?_⟩
          clear hK
          clear K
          simp only [Act.put, List.setIfInBounds_toArray, List.set_cons_zero, List.set_cons_succ]
          refine wpTq_qG hS ?_
          change wpQuiet _ _ _ _ [_, _, _, _, _, _, _, _] _
          repeat (first | go_big_quiet_skip | (go_big_quiet_want; go_big_quiet_op; go_big_quiet_on))
          go_big_quiet_want; refine q_load 25 _ ⟨b + 1, 0, none⟩ (arrP (p)) (at_blk c2) Try.underlying25 rfl (info25p (p)) rfl rfl ?_; go_big_quiet_on
          simp only [Act.put, List.setIfInBounds_toArray, List.set_cons_zero, List.set_cons_succ]
          repeat (first | go_big_quiet_skip | (go_big_quiet_want; go_big_quiet_op; go_big_quiet_on))
          go_big_quiet_want; refine q_load 25 _ ⟨b + 1, 0, none⟩ (arrP (p)) (at_blk c2) Try.underlying25 rfl (info25p (p)) rfl rfl ?_; go_big_quiet_on
          simp only [Act.put, List.setIfInBounds_toArray, List.set_cons_zero, List.set_cons_succ]
          refine wpQuiet_nil ?_
          refine wpTq_one (o := ⟨_, _, _, _, _, _⟩) rfl (fun _ => hS) (by rfl) (fun K hK => ?_)
          refine wp_callF #[.pointer (some ⟨bt2, 0, none⟩), .agg (arrP p)] Try.func14 (by kernel_rfl) rfl rfl rfl (q4 V2 hS) ?_
          rintro e V3 ⟨A3, c3, rfl, hr3, hg3⟩
          refine ⟨_, rfl, hK _ _ (fun _ => hS.trans hg3) ?_⟩
          clear hK hr3
          clear K
          have hS3 := hS.trans hg3
          simp only [Act.put, List.setIfInBounds_toArray, List.set_cons_zero, List.set_cons_succ]
          refine wpTq_qG hS3 ?_
          change wpQuiet _ _ _ _ [_] _
          repeat (first | go_big_quiet_skip | (go_big_quiet_want; go_big_quiet_op; go_big_quiet_on))
          refine wpQuiet_nil ?_
          refine wpTq_one (o := ⟨_, _, _, _, _, _⟩) rfl (fun _ => hS3) (by rfl) (fun K hK => ?_)
          refine wp_callF #[.pointer (some ⟨bt, 0, none⟩), .agg (arrP p)] Try.func14 (by kernel_rfl) rfl rfl rfl (q3 V3 hS3) ?_
          rintro e V4 ⟨A4, c4, rfl, hr4, hg4⟩
          refine ⟨_, rfl, hK _ _ (fun _ => hS3.trans hg4) ?_⟩
          clear hK hr4
          clear K
          have hS4 := hS3.trans hg4
          simp only [Act.put, List.setIfInBounds_toArray, List.set_cons_zero, List.set_cons_succ]
          refine wpTq_qG hS4 ?_
          change wpQuiet _ _ _ _ [_, _, _, _, _] _
          repeat (first | go_big_quiet_skip | (go_big_quiet_want; go_big_quiet_op; go_big_quiet_on))
          refine wpQuiet_nil ?_
          refine wpTq_nil ?_
          have hfin := Lib.hid (Hgr.out.trans hS4)
          clear hS hS3 hS4 hg3 hg4 q1 q2 q3 q4 Hgr c2
          go_wp2
          go_ret
          exact ⟨rfl, hfin.out⟩
    have HL5 := Lib.hid (HL.out.grow G2.out)
    have hS : G w' w'.drew := (G.refl w').drew
    refine region_q (G w') 8 (.q [1, 3] (.two 0 (.two 2 (.one 4 (.one 5 (.one 6 (.q [7] .nil)))) 4 (.one 2 (.one 5 (.one 6 (.q [7] .nil))))) 4 (.one 0 (.one 2 (.one 5 (.one 6 (.q [7] .nil))))))) (by kernel_rfl) (by kernel_rfl) (by decide) (by kernel_rfl) (fun _ _ d _ _ h => by cases d <;> exact h) ?_
    refine wpTq_qG hS ?_
    change wpQuiet _ _ _ _ [_, _] _
    repeat (first | go_big_quiet_skip | (go_big_quiet_want; go_big_quiet_op; go_big_quiet_on))
    go_big_quiet_want; refine q_load 39 _ ⟨b, 0, none⟩ (arrV (v)) (at_blk D1.out) Try.underlying39 rfl (info39v (v)) rfl rfl ?_; go_big_quiet_on
    simp only [Act.put, List.setIfInBounds_toArray, List.set_cons_zero, List.set_cons_succ]
    refine wpQuiet_nil ?_
    generalize w'.drew = V0 at *
    refine wpTq_two ?_ ?_
    ·
      refine wpTq_one (o := ⟨_, _, _, _, _, _⟩) rfl (fun _ => hS) (by rfl) (fun K hK => ?_)
      refine wp_build0V rfl (hK _ _ (fun _ => hS.alloc _) ?_)
      clear hK
      clear K
      have own := own_none (k := 20) (enc := encV) hS.below.size (heap_alloc_new V0 (.cells #[] 39))
      have gg := (G.refl V0).alloc (.cells #[] 39)
      have z0 := heap_alloc_new V0 (.cells #[] 39)
      try replace b4 := gg.blk b4
      replace hS := hS.alloc (.cells #[] 39)
      generalize (V0).heap.size = nb0 at *
      generalize (V0).alloc (.cells #[] 39) = V1 at *
      clear gg
      clear V0
      simp only [Act.put, List.setIfInBounds_toArray, List.set_cons_zero, List.set_cons_succ]
      refine wpTq_two ?_ ?_
      ·
        refine wpTq_one (o := ⟨_, _, _, _, _, _⟩) rfl (fun _ => hS) (by rfl) (fun K hK => ?_)
        refine wp_appV _ _ w'.heap.size _ [] L A c own (HL5.out.grow hS) hS.below.size (by have := Hn.out; simp only [List.length_nil]; omega) rfl rfl (by rw [Hn.out]; rfl) ?_
        intro sv V2 ho hf hn
        refine hK _ _ (fun _ => F.gtrans hS hf (fun i hi => (own.block hi).1)) ?_
        clear hK
        clear K
        try replace b4 := hf.blk b4 (fun e => by
          simp only [Value.ownBlock, Option.some.injEq] at e
          subst e
          have e2 := z0.symm.trans b4
          simp only [Option.some.injEq, Obj.cells.injEq] at e2
          have e3 := arrV_size v
          rw [← e2.1] at e3
          simp at e3)
        replace hS := F.gtrans hS hf (fun i hi => (own.block hi).1)
        rw [List.nil_append] at ho
        clear own hf hn z0
        clear V1
        simp only [Act.put, List.setIfInBounds_toArray, List.set_cons_zero, List.set_cons_succ]
        refine wpTq_one (o := ⟨_, _, _, _, _, _⟩) rfl (fun _ => hS) (by rfl) (fun K hK => ?_)
        refine wp_build1V _ v rfl rfl (hK _ _ (fun _ => hS.alloc _) ?_)
        clear hK
        clear K
        have b4 := heap_alloc_new V2 (.cells (arrV v) 39)
        have gg := (G.refl V2).alloc (.cells (arrV v) 39)
        try replace own := own.grow gg
        try replace ho := ho.grow gg
        replace hS := hS.alloc (.cells (arrV v) 39)
        try replace z0 := gg.blk z0
        obtain ⟨nb4, hnb4⟩ : ∃ nb4, (V2).heap.size = nb4 := ⟨_, rfl⟩
        rw [hnb4] at b4 ⊢
        clear hnb4
        generalize (V2).alloc (.cells (arrV v) 39) = V3 at *
        clear gg
        clear V2
        simp only [Act.put, List.setIfInBounds_toArray, List.set_cons_zero, List.set_cons_succ]
        refine wpTq_one (o := ⟨_, _, _, _, _, _⟩) rfl (fun _ => hS) (by rfl) (fun K hK => ?_)
        refine wp_appV _ _ w'.heap.size _ L [v] (some ⟨nb4, 0, none⟩) 1 ho (rd_one b4) hS.below.size (by have := Hn.out; simp only [List.length_singleton]; omega) rfl rfl rfl ?_
        intro sv2 V4 ho2 hf hn
        refine hK _ _ (fun _ => F.gtrans hS hf (fun i hi => (ho.block hi).1)) ?_
        clear hK
        clear K
        replace hS := F.gtrans hS hf (fun i hi => (ho.block hi).1)
        clear hf hn ho b4
        clear V3
        simp only [Act.put, List.setIfInBounds_toArray, List.set_cons_zero, List.set_cons_succ]
        obtain ⟨A2, c2, hsv, hA2, _, _⟩ := ho2.at encV_length
        refine wpTq_one (o := ⟨_, _, _, _, _, _⟩) rfl (fun _ => hS) (by rfl) (fun K hK => ?_)
        refine wp_callF #[.slice A2 (L ++ [v]).length c2] Try.func12 (by kernel_rfl) rfl rfl (by rw [← hsv]; rfl) (new_any A2 (L ++ [v]) c2 V4 hA2 (by have := Hn.out; simp only [List.length_append, List.length_singleton]; omega)) ?_
        rintro e V5 ⟨bt2, rfl, hT2, hg⟩
        refine ⟨_, rfl, hK _ _ (fun _ => hS.trans hg) ?_⟩
        clear hK
        clear K
        simp only [Act.put, List.setIfInBounds_toArray, List.set_cons_zero, List.set_cons_succ]
        refine wpTq_qG (hS.trans hg) ?_
        change wpQuiet _ _ _ _ [_] _
        repeat (first | go_big_quiet_skip | (go_big_quiet_want; go_big_quiet_op; go_big_quiet_on))
        refine wpQuiet_nil ?_
        refine wpTq_nil ?_
        exact key _ _ _ _ _ _ V5 (hS.trans hg) hT2
      ·
        refine wpTq_one (o := ⟨_, _, _, _, _, _⟩) rfl (fun _ => hS) (by rfl) (fun K hK => ?_)
        refine wp_build1V _ v rfl rfl (hK _ _ (fun _ => hS.alloc _) ?_)
        clear hK
        clear K
        have b4 := heap_alloc_new V1 (.cells (arrV v) 39)
        have gg := (G.refl V1).alloc (.cells (arrV v) 39)
        try replace own := own.grow gg
        try replace ho := ho.grow gg
        replace hS := hS.alloc (.cells (arrV v) 39)
        try replace z0 := gg.blk z0
        obtain ⟨nb4, hnb4⟩ : ∃ nb4, (V1).heap.size = nb4 := ⟨_, rfl⟩
        rw [hnb4] at b4 ⊢
        clear hnb4
        generalize (V1).alloc (.cells (arrV v) 39) = V2 at *
        clear gg
        clear V1
        simp only [Act.put, List.setIfInBounds_toArray, List.set_cons_zero, List.set_cons_succ]
        refine wpTq_one (o := ⟨_, _, _, _, _, _⟩) rfl (fun _ => hS) (by rfl) (fun K hK => ?_)
        refine wp_appV _ _ w'.heap.size _ [] L A c own (HL5.out.grow hS) hS.below.size (by have := Hn.out; simp only [List.length_nil]; omega) rfl rfl (by rw [Hn.out]; rfl) ?_
        intro sv V3 ho hf hn
        refine hK _ _ (fun _ => F.gtrans hS hf (fun i hi => (own.block hi).1)) ?_
        clear hK
        clear K
        try replace b4 := hf.blk b4 (fun e => by
          simp only [Value.ownBlock, Option.some.injEq] at e
          subst e
          have e2 := z0.symm.trans b4
          simp only [Option.some.injEq, Obj.cells.injEq] at e2
          have e3 := arrV_size v
          rw [← e2.1] at e3
          simp at e3)
        replace hS := F.gtrans hS hf (fun i hi => (own.block hi).1)
        rw [List.nil_append] at ho
        clear own hf hn z0
        clear V2
        simp only [Act.put, List.setIfInBounds_toArray, List.set_cons_zero, List.set_cons_succ]
        refine wpTq_one (o := ⟨_, _, _, _, _, _⟩) rfl (fun _ => hS) (by rfl) (fun K hK => ?_)
        refine wp_appV _ _ w'.heap.size _ L [v] (some ⟨nb4, 0, none⟩) 1 ho (rd_one b4) hS.below.size (by have := Hn.out; simp only [List.length_singleton]; omega) rfl rfl rfl ?_
        intro sv2 V4 ho2 hf hn
        refine hK _ _ (fun _ => F.gtrans hS hf (fun i hi => (ho.block hi).1)) ?_
        clear hK
        clear K
        replace hS := F.gtrans hS hf (fun i hi => (ho.block hi).1)
        clear hf hn ho b4
        clear V3
        simp only [Act.put, List.setIfInBounds_toArray, List.set_cons_zero, List.set_cons_succ]
        obtain ⟨A2, c2, hsv, hA2, _, _⟩ := ho2.at encV_length
        refine wpTq_one (o := ⟨_, _, _, _, _, _⟩) rfl (fun _ => hS) (by rfl) (fun K hK => ?_)
        refine wp_callF #[.slice A2 (L ++ [v]).length c2] Try.func12 (by kernel_rfl) rfl rfl (by rw [← hsv]; rfl) (new_any A2 (L ++ [v]) c2 V4 hA2 (by have := Hn.out; simp only [List.length_append, List.length_singleton]; omega)) ?_
        rintro e V5 ⟨bt2, rfl, hT2, hg⟩
        refine ⟨_, rfl, hK _ _ (fun _ => hS.trans hg) ?_⟩
        clear hK
        clear K
        simp only [Act.put, List.setIfInBounds_toArray, List.set_cons_zero, List.set_cons_succ]
        refine wpTq_qG (hS.trans hg) ?_
        change wpQuiet _ _ _ _ [_] _
        repeat (first | go_big_quiet_skip | (go_big_quiet_want; go_big_quiet_op; go_big_quiet_on))
        refine wpQuiet_nil ?_
        refine wpTq_nil ?_
        exact key _ _ _ _ _ _ V5 (hS.trans hg) hT2
    ·
      refine wpTq_one (o := ⟨_, _, _, _, _, _⟩) rfl (fun _ => hS) (by rfl) (fun K hK => ?_)
      refine wp_build1V _ v rfl rfl (hK _ _ (fun _ => hS.alloc _) ?_)
      clear hK
      clear K
      have b4 := heap_alloc_new V0 (.cells (arrV v) 39)
      have gg := (G.refl V0).alloc (.cells (arrV v) 39)
      try replace own := own.grow gg
      try replace ho := ho.grow gg
      replace hS := hS.alloc (.cells (arrV v) 39)
      try replace z0 := gg.blk z0
      obtain ⟨nb4, hnb4⟩ : ∃ nb4, (V0).heap.size = nb4 := ⟨_, rfl⟩
      rw [hnb4] at b4 ⊢
      clear hnb4
      generalize (V0).alloc (.cells (arrV v) 39) = V1 at *
      clear gg
      clear V0
      simp only [Act.put, List.setIfInBounds_toArray, List.set_cons_zero, List.set_cons_succ]
      refine wpTq_one (o := ⟨_, _, _, _, _, _⟩) rfl (fun _ => hS) (by rfl) (fun K hK => ?_)
      refine wp_build0V rfl (hK _ _ (fun _ => hS.alloc _) ?_)
      clear hK
      clear K
      have own := own_none (k := 20) (enc := encV) hS.below.size (heap_alloc_new V1 (.cells #[] 39))
      have gg := (G.refl V1).alloc (.cells #[] 39)
      have z0 := heap_alloc_new V1 (.cells #[] 39)
      try replace b4 := gg.blk b4
      replace hS := hS.alloc (.cells #[] 39)
      generalize (V1).heap.size = nb0 at *
      generalize (V1).alloc (.cells #[] 39) = V2 at *
      clear gg
      clear V1
      simp only [Act.put, List.setIfInBounds_toArray, List.set_cons_zero, List.set_cons_succ]
      refine wpTq_one (o := ⟨_, _, _, _, _, _⟩) rfl (fun _ => hS) (by rfl) (fun K hK => ?_)
      refine wp_appV _ _ w'.heap.size _ [] L A c own (HL5.out.grow hS) hS.below.size (by have := Hn.out; simp only [List.length_nil]; omega) rfl rfl (by rw [Hn.out]; rfl) ?_
      intro sv V3 ho hf hn
      refine hK _ _ (fun _ => F.gtrans hS hf (fun i hi => (own.block hi).1)) ?_
      clear hK
      clear K
      try replace b4 := hf.blk b4 (fun e => by
        simp only [Value.ownBlock, Option.some.injEq] at e
        subst e
        have e2 := z0.symm.trans b4
        simp only [Option.some.injEq, Obj.cells.injEq] at e2
        have e3 := arrV_size v
        rw [← e2.1] at e3
        simp at e3)
      replace hS := F.gtrans hS hf (fun i hi => (own.block hi).1)
      rw [List.nil_append] at ho
      clear own hf hn z0
      clear V2
      simp only [Act.put, List.setIfInBounds_toArray, List.set_cons_zero, List.set_cons_succ]
      refine wpTq_one (o := ⟨_, _, _, _, _, _⟩) rfl (fun _ => hS) (by rfl) (fun K hK => ?_)
      refine wp_appV _ _ w'.heap.size _ L [v] (some ⟨nb4, 0, none⟩) 1 ho (rd_one b4) hS.below.size (by have := Hn.out; simp only [List.length_singleton]; omega) rfl rfl rfl ?_
      intro sv2 V4 ho2 hf hn
      refine hK _ _ (fun _ => F.gtrans hS hf (fun i hi => (ho.block hi).1)) ?_
      clear hK
      clear K
      replace hS := F.gtrans hS hf (fun i hi => (ho.block hi).1)
      clear hf hn ho b4
      clear V3
      simp only [Act.put, List.setIfInBounds_toArray, List.set_cons_zero, List.set_cons_succ]
      obtain ⟨A2, c2, hsv, hA2, _, _⟩ := ho2.at encV_length
      refine wpTq_one (o := ⟨_, _, _, _, _, _⟩) rfl (fun _ => hS) (by rfl) (fun K hK => ?_)
      refine wp_callF #[.slice A2 (L ++ [v]).length c2] Try.func12 (by kernel_rfl) rfl rfl (by rw [← hsv]; rfl) (new_any A2 (L ++ [v]) c2 V4 hA2 (by have := Hn.out; simp only [List.length_append, List.length_singleton]; omega)) ?_
      rintro e V5 ⟨bt2, rfl, hT2, hg⟩
      refine ⟨_, rfl, hK _ _ (fun _ => hS.trans hg) ?_⟩
      clear hK
      clear K
      simp only [Act.put, List.setIfInBounds_toArray, List.set_cons_zero, List.set_cons_succ]
      refine wpTq_qG (hS.trans hg) ?_
      change wpQuiet _ _ _ _ [_] _
      repeat (first | go_big_quiet_skip | (go_big_quiet_want; go_big_quiet_op; go_big_quiet_on))
      refine wpQuiet_nil ?_
      refine wpTq_nil ?_
      exact key _ _ _ _ _ _ V5 (hS.trans hg) hT2
end Go.Proofs.Ytedgbmibgddnkaa
