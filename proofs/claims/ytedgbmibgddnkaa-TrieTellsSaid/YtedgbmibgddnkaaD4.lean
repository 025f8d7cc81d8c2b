/- The law: what a list has that covers a prefix, and what it answers. -/
import Derived.Test.YtedgbmibgddnkaaE2
import Derived.Test.YtedgbmibgddnkaaP6
namespace Go.Proofs.Ytedgbmibgddnkaa
open Go.RowKit Ad
set_option linter.unusedSimpArgs false
set_option linter.unusedVariables false
set_option maxRecDepth 100000
set_option maxHeartbeats 4000000
theorem trieTells_any (A : Option Addr) (c : Nat) (L : List Vrp) (p : Pfx) (u : Int) (w : World) (hL : RdV w A L) (hl : L.length ≤ maxLen) (has : ∀ v ∈ L, 0 ≤ v.as ∧ v.as < 4294967296) :
    Calls Try.prog 3 #[.slice A L.length c, .agg (arrP p), .int .u32 u] w fun e w' => e = .returned (.bool true) ∧ G w w' := by
  obtain ⟨n, hn⟩ : ∃ n, L.length = n := ⟨_, rfl⟩
  have hnew := fun W (h : G w W) => new_wide A L c W (hL.grow h) hl has
  have hXl : (trieL L).length ≤ n := by have := trieL_length L []; rw [← hn]; unfold trieL; simp only [List.length_nil] at this; omega
  have Hn := Lib.hid hn
  have HL := Lib.hid hL
  rw [hn] at hl hnew ⊢
  simp only [maxLen] at hl
  clear hn hL has
  go_enter Try.func3, Try.ntmps3
  go_upto_region 1 with fail
  have b1 := heap_alloc_new w (.cells (arrP p) 25)
  have g0 := (G.refl w).alloc (.cells (arrP p) 25)
  obtain ⟨b, hb⟩ : ∃ b, w.heap.size = b := ⟨_, rfl⟩
  rw [hb] at b1 ⊢
  clear hb
  generalize w.alloc (.cells (arrP p) 25) = W at *
  refine region_seq ?_
  go_big_quiet_want; go_big_quiet_op; refine ⟨_, fun g => cls (awake_any _), ?_⟩; go_big_quiet_on
  repeat (first | go_big_quiet_skip | (go_big_quiet_want; go_big_quiet_op; go_big_quiet_on))
  refine wpQuiet_nil ?_
  intro W1 hg1
  have C1 := Lib.hid (hg1.blk b1)
  have hnew1 := hnew W1 (g0.trans hg1)
  have G1 := Lib.hid (g0.trans hg1)
  clear b1 g0 hg1 hnew
  clear W
  by_cases hlen : 200 < n
  · go_wp2_with (go_at_call 12; refine hnew1.mono ?_; rintro e w' ⟨bt, rfl, hT, hg⟩; clear hnew1; have G2 := Lib.hid (G1.out.trans hg); clear hT hg G1 C1)
    go_ret
    exact ⟨rfl, G2.out⟩
  have hle200 : decide ((200 : Int) < n) = false := by simp; omega
  go_upto_region 5 with (go_at_call 12; refine hnew1.mono ?_; rintro e w' ⟨bt, rfl, hT, hg⟩; clear hnew1; have HT := Lib.hid hT; have G2 := Lib.hid (G1.out.trans hg); have D1 := Lib.hid (hg.blk C1.out); clear hT hg G1 C1)
  have hT := HT.out
  have c1 := D1.out
  obtain ⟨xl, hxl⟩ : ∃ xl, (trieL L).length = xl := ⟨_, rfl⟩
  have hcl : (refC L p).length ≤ maxLen := by rw [← refC_is, coversL_length]; have := wayL_length (trieL L) p; simp only [maxLen]; omega
  have q1 := fun W (h : G w' W) => len_any _ bt (trieL L) W (hT.grow h)
  have q3 := fun W (h : G w' W) => tcovers_any _ bt (trieL L) p W (hT.grow h) (by omega)
  have q4 := fun W (h : G w' W) => refCovers_any A c L p W (HL.out.grow (G2.out.trans h)) (by have := Hn.out; omega)
  have q5 := fun W (h : G w' W) => tanswer_any _ bt (trieL L) p u W (hT.grow h)
  have q6 := fun W (h : G w' W) => refAnswer_any A c L p u W (HL.out.grow (G2.out.trans h)) (by have := Hn.out; omega)
  have q8 := fun W (h : G w' W) => row_any A c L W (HL.out.grow (G2.out.trans h)) (by have := Hn.out; omega)
  rw [refA_is] at q5
  rw [refC_is] at q3
  rw [← row_length] at q8
  rw [hxl] at q1 q8
  rw [Hn.out] at q4 q6 q8
  generalize refA (refC L p) p u = r at *
  generalize rowL L = RL at *
  generalize refC L p = C at *
  obtain ⟨lc, hlc⟩ : ∃ lc, C.length = lc := ⟨_, rfl⟩
  have q7 := fun A B c d W hA hB => same_any A B C C c d W hA hB hcl hcl
  rw [decide_eq_true rfl] at q7
  rw [hlc] at q3 q4 q7
  clear hlc hcl hT HT D1 hXl hxl
  have hS : G w' w'.drew := (G.refl w').drew
  refine region_q (G w') 8 (.q [0, 1, 3, 4] (.one 2 (.one 5 (.one 6 (.q [7] .nil))))) (by kernel_rfl) (by kernel_rfl) (by decide) (by kernel_rfl) (fun _ _ d _ _ h => by cases d <;> exact h) ?_
  refine wpTq_qG hS ?_
  change wpQuiet _ _ _ _ [_, _, _, _] _
  repeat (first | go_big_quiet_skip | (go_big_quiet_want; go_big_quiet_op; go_big_quiet_on))
  go_big_quiet_want; refine q_load 25 _ ⟨b, 0, none⟩ (arrP (p)) (at_blk c1) Try.underlying25 rfl (info25p (p)) rfl rfl ?_; go_big_quiet_on
  try simp only [Act.put, List.setIfInBounds_toArray, List.set_cons_zero, List.set_cons_succ]
  repeat (first | go_big_quiet_skip | (go_big_quiet_want; go_big_quiet_op; go_big_quiet_on))
  go_big_quiet_want; refine q_load 25 _ ⟨b, 0, none⟩ (arrP (p)) (at_blk c1) Try.underlying25 rfl (info25p (p)) rfl rfl ?_; go_big_quiet_on
  try simp only [Act.put, List.setIfInBounds_toArray, List.set_cons_zero, List.set_cons_succ]
  refine wpQuiet_nil ?_
  generalize w'.drew = V0 at *
  refine wpTq_one (o := ⟨_, _, _, _, _, _⟩) rfl (fun _ => hS) (by rfl) (fun K hK => ?_)
  refine wp_callF #[.pointer (some ⟨bt, 0, none⟩), .agg (arrP p)] Try.func14 (by kernel_rfl) rfl rfl rfl (q3 V0 hS) ?_
  rintro e V1 ⟨A3, c3, rfl, hr3, hg3⟩
  refine ⟨_, rfl, hK _ _ (fun _ => hS.trans hg3) ?_⟩
  clear hK
  clear K
  replace hS := hS.trans hg3
  simp only [Act.put, List.setIfInBounds_toArray, List.set_cons_zero, List.set_cons_succ]
  clear hg3
  refine wpTq_one (o := ⟨_, _, _, _, _, _⟩) rfl (fun _ => hS) (by rfl) (fun K hK => ?_)
  refine wp_callF #[.slice A n c, .agg (arrP p)] Try.func15 (by kernel_rfl) rfl rfl rfl (q4 V1 hS) ?_
  rintro e V2 ⟨A4, c4, rfl, hr4, hg4⟩
  refine ⟨_, rfl, hK _ _ (fun _ => hS.trans hg4) ?_⟩
  clear hK
  clear K
  replace hS := hS.trans hg4
  simp only [Act.put, List.setIfInBounds_toArray, List.set_cons_zero, List.set_cons_succ]
  replace hr3 := hr3.grow hg4
  clear hg4
  refine wpTq_one (o := ⟨_, _, _, _, _, _⟩) rfl (fun _ => hS) (by rfl) (fun K hK => ?_)
  refine wp_callF #[.slice A3 lc c3, .slice A4 lc c4] Try.func13 (by kernel_rfl) rfl rfl rfl (q7 A3 A4 c3 c4 V2 hr3 hr4) ?_
  rintro e V3 ⟨rfl, hg5⟩
  refine ⟨_, rfl, hK _ _ (fun _ => hS.trans hg5) ?_⟩
  clear hK
  clear K
  replace hS := hS.trans hg5
  simp only [Act.put, List.setIfInBounds_toArray, List.set_cons_zero, List.set_cons_succ]
  clear hg5 hr3 hr4
  clear V2 V1 V0
  refine wpTq_qG hS ?_
  change wpQuiet _ _ _ _ [_] _
  repeat (first | go_big_quiet_skip | (go_big_quiet_want; go_big_quiet_op; go_big_quiet_on))
  refine wpQuiet_nil ?_
  refine wpTq_nil ?_
  have c7 := hS.blk c1
  have p1 := fun W (h : G V3 W) => q1 W (hS.trans h)
  have p5 := fun W (h : G V3 W) => q5 W (hS.trans h)
  have p6 := fun W (h : G V3 W) => q6 W (hS.trans h)
  have p8 := fun W (h : G V3 W) => q8 W (hS.trans h)
  have G7 := Lib.hid (G2.out.trans hS)
  clear q1 q3 q4 q5 q6 q7 q8 hS G2 c1 HL
  clear w'
  go_upto_region 6 with fail
  have hS : G V3 V3.drew := (G.refl V3).drew
  refine region_q (G V3) 24 (.q [0, 1, 2, 3, 4, 5, 6, 7, 9, 10, 11] (.one 8 (.one 12 (.q [13, 14, 15, 16, 18] (.one 17 (.one 19 (.q [20, 21, 22, 23] .nil))))))) (by kernel_rfl) (by kernel_rfl) (by decide) (by kernel_rfl) (fun _ _ d _ _ h => by cases d <;> exact h) ?_
  refine wpTq_qG hS ?_
  change wpQuiet _ _ _ _ [_, _, _, _, _, _, _, _, _, _, _] _
  repeat (first | go_big_quiet_skip | (go_big_quiet_want; go_big_quiet_op; go_big_quiet_on))
  go_big_quiet_want; refine q_load 25 _ ⟨b, 0, none⟩ (arrP (p)) (at_blk c7) Try.underlying25 rfl (info25p (p)) rfl rfl ?_; go_big_quiet_on
  try simp only [Act.put, List.setIfInBounds_toArray, List.set_cons_zero, List.set_cons_succ]
  repeat (first | go_big_quiet_skip | (go_big_quiet_want; go_big_quiet_op; go_big_quiet_on))
  go_big_quiet_want; refine q_load 25 _ ⟨b, 0, none⟩ (arrP (p)) (at_blk c7) Try.underlying25 rfl (info25p (p)) rfl rfl ?_; go_big_quiet_on
  try simp only [Act.put, List.setIfInBounds_toArray, List.set_cons_zero, List.set_cons_succ]
  repeat (first | go_big_quiet_skip | (go_big_quiet_want; go_big_quiet_op; go_big_quiet_on))
  refine wpQuiet_nil ?_
  generalize V3.drew = V0 at *
  refine wpTq_one (o := ⟨_, _, _, _, _, _⟩) rfl (fun _ => hS) (by rfl) (fun K hK => ?_)
  refine wp_callF #[.pointer (some ⟨bt, 0, none⟩), .agg (arrP p), .int .u32 u] Try.func16 (by kernel_rfl) rfl rfl rfl (p5 V0 hS) ?_
  rintro e V1 ⟨rfl, hg4⟩
  refine ⟨_, rfl, hK _ _ (fun _ => hS.trans hg4) ?_⟩
  clear hK
  clear K
  replace hS := hS.trans hg4
  simp only [Act.put, List.setIfInBounds_toArray, List.set_cons_zero, List.set_cons_succ]
  clear hg4
  refine wpTq_one (o := ⟨_, _, _, _, _, _⟩) rfl (fun _ => hS) (by rfl) (fun K hK => ?_)
  refine wp_callF #[.slice A n c, .agg (arrP p), .int .u32 u] Try.func17 (by kernel_rfl) rfl rfl rfl (p6 V1 hS) ?_
  rintro e V2 ⟨rfl, hg5⟩
  refine ⟨_, rfl, hK _ _ (fun _ => hS.trans hg5) ?_⟩
  clear hK
  clear K
  replace hS := hS.trans hg5
  simp only [Act.put, List.setIfInBounds_toArray, List.set_cons_zero, List.set_cons_succ]
  clear hg5
  refine wpTq_qG hS ?_
  change wpQuiet _ _ _ _ [_, _, _, _, _] _
  repeat (first | go_big_quiet_skip | (go_big_quiet_want; go_big_quiet_op; go_big_quiet_on))
  refine wpQuiet_nil ?_
  refine wpTq_one (o := ⟨_, _, _, _, _, _⟩) rfl (fun _ => hS) (by rfl) (fun K hK => ?_)
  refine wp_callF #[.pointer (some ⟨bt, 0, none⟩)] Try.func18 (by kernel_rfl) rfl rfl rfl (p1 V2 hS) ?_
  rintro e V4 ⟨rfl, rfl⟩
  refine ⟨_, rfl, hK _ _ (fun _ => hS) ?_⟩
  clear hK
  clear K
  simp only [Act.put, List.setIfInBounds_toArray, List.set_cons_zero, List.set_cons_succ]
  refine wpTq_one (o := ⟨_, _, _, _, _, _⟩) rfl (fun _ => hS) (by rfl) (fun K hK => ?_)
  refine wp_callF #[.slice A n c] Try.func19 (by kernel_rfl) rfl rfl rfl (p8 V4 hS) ?_
  rintro e V5 ⟨A9, c9, rfl, _, hg9⟩
  refine ⟨_, rfl, hK _ _ (fun _ => hS.trans hg9) ?_⟩
  clear hK
  clear K
  replace hS := hS.trans hg9
  simp only [Act.put, List.setIfInBounds_toArray, List.set_cons_zero, List.set_cons_succ]
  clear hg9
  refine wpTq_qG hS ?_
  change wpQuiet _ _ _ _ [_, _, _, _] _
  repeat (first | go_big_quiet_skip | (go_big_quiet_want; go_big_quiet_op; go_big_quiet_on))
  refine wpQuiet_nil ?_
  refine wpTq_nil ?_
  have hfin := Lib.hid (G7.out.trans hS)
  clear hS p1 p5 p6 p8 G7 c7
  go_wp2
  go_ret
  exact ⟨rfl, hfin.out⟩
end Go.Proofs.Ytedgbmibgddnkaa
