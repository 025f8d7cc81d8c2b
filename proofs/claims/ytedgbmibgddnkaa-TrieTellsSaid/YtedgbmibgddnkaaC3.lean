/- The sample is as it should be. -/
import Derived.Test.YtedgbmibgddnkaaC1
import Derived.Test.YtedgbmibgddnkaaC2
namespace Go.Proofs.Ytedgbmibgddnkaa
open Go.RowKit Ad
set_option linter.unusedSimpArgs false
set_option linter.unusedVariables false
set_option maxRecDepth 100000
set_option maxHeartbeats 2000000
def p16 : Pfx := ⟨false, ⟨[10, 1, 0, 0, 0, 0, 0, 0, 0, 0, 0, 0, 0, 0, 0, 0], rfl⟩, 16⟩
theorem ten_list : trieL [tenV 7] = [tenV 7] := by kernel_rfl
theorem ten_7 : answerL [tenV 7] p16 7 = 2 := by kernel_rfl
theorem ten_8 : answerL [tenV 7] p16 8 = 1 := by kernel_rfl
theorem ten_0 : answerL [tenV 7] default 7 = 0 := by kernel_rfl
theorem sortL_length (L : List Vrp) : (sortL L).length = L.length := by simp [sortL]
theorem ten_c : (coversL [tenV 7] p16).length = 1 := by
  unfold coversL
  rw [sortL_length]
  kernel_rfl
def Zp1 : Array Value := arrP default
theorem info25z : ∃ i, Try.prog.info? 25 = some i ∧ i.zero = some (.agg Zp1) := by
  have h : (Try.prog.info? 25).map (fun i => i.zero) = some (some (.agg Zp1)) := by kernel_rfl
  cases hi : Try.prog.info? 25 with
  | none => rw [hi] at h; cases h
  | some i => rw [hi] at h; exact ⟨i, rfl, by simpa using h⟩
theorem awake_any (w : World) : Calls Try.prog 11 #[] w fun e w' => e = .returned (.bool true) ∧ G w w' := by
  have h7 := fun base bt W (h : TrieIs W base bt [tenV 7]) => tanswer_any base bt [tenV 7] p16 7 W h
  have h8 := fun base bt W (h : TrieIs W base bt [tenV 7]) => tanswer_any base bt [tenV 7] p16 8 W h
  have h0 := fun base bt W (h : TrieIs W base bt [tenV 7]) => tanswer_any base bt [tenV 7] default 7 W h
  have hc := fun base bt W (h : TrieIs W base bt [tenV 7]) => tcovers_any base bt [tenV 7] p16 W h (by simp)
  rw [ten_7] at h7
  rw [ten_8] at h8
  rw [ten_0] at h0
  rw [ten_c] at hc
  go_enter Try.func11, Try.ntmps11
  go_upto_region 1 with fail
  refine region_head 1 ?_
  simp only [List.take_succ_cons, List.take_zero, List.drop_succ_cons, List.drop_zero]
  go_big_quiet_want; go_big_quiet_op; refine ⟨_, fun g => cls (ten_any 7 _), ?_⟩; go_big_quiet_on
  refine wpQuiet_nil ?_
  intro W hg
  refine wl_build1V _ (tenV 7) rfl rfl rfl ?_
  have b1 := heap_alloc_new W (.cells (arrV (tenV 7)) 39)
  have g1 := hg.alloc (.cells (arrV (tenV 7)) 39)
  have hs1 := hg.below.size
  generalize W.heap.size = b at *
  generalize W.alloc (.cells (arrV (tenV 7)) 39) = W1 at *
  clear hg
  clear W
  simp only [Act.put, List.setIfInBounds_toArray, List.set_cons_zero, List.set_cons_succ]
  have hnew := new_any (some ⟨b, 0, none⟩) [tenV 7] 1 W1 (rd_one b1) (by simp)
  rw [ten_list] at hnew
  rw [show [tenV 7].length = 1 from rfl] at hnew
  have G1 := Lib.hid g1
  clear g1 b1 hs1
  have e16 : arrP p16 = #[.bool false, .int .u8 10, .int .u8 1, .int .u8 0, .int .u8 0, .int .u8 0, .int .u8 0, .int .u8 0, .int .u8 0, .int .u8 0, .int .u8 0, .int .u8 0, .int .u8 0, .int .u8 0, .int .u8 0, .int .u8 0, .int .u8 0, .int .i64 16] := rfl
  have i1 := info25p p16
  have i2 : Zp1.size = (arrP p16).size := by rw [arrP_size]; exact arrP_size _
  have i3 := arrP_one p16
  go_upto_region 4 with (go_at_call 12; refine hnew.mono ?_; rintro e w' ⟨bt, rfl, hT, hg⟩; clear hnew; have HT := Lib.hid hT; have G2 := Lib.hid (G1.out.trans hg); clear hT hg G1)
  rename_i w2 bt
  refine region_head 2 ?_
  simp only [List.take_succ_cons, List.take_zero, List.drop_succ_cons, List.drop_zero]
  repeat (first | go_big_quiet_skip | (go_big_quiet_want; go_big_quiet_op; go_big_quiet_on))
  refine wpQuiet_nil ?_
  intro W4 hg4
  rw [← e16]
  have HT4 := Lib.hid (HT.out.grow hg4)
  have G4 := Lib.hid (G2.out.trans hg4)
  clear HT G2 hg4
  refine wl_alloc (T := 25) (Z := Zp1) info25z rfl rfl ?_
  have b2 := heap_alloc_new W4 (.cells Zp1 25)
  simp only [Act.put, List.setIfInBounds_toArray, List.set_cons_zero, List.set_cons_succ]
  refine wl_store 25 _ _ W4.heap.size 0 (arrP p16) Zp1 25 b2 (by omega) i1 i3 rfl rfl rfl rfl ?_
  rw [splA_all _ _ i2]
  have b3 := row_set (D := arrP p16) b2
  have g3 := ((G.refl W4).alloc (.cells Zp1 25)).row (b := W4.heap.size) (Nat.le_refl _) (arrP p16)
  have HT5 := Lib.hid (HT4.out.grow g3)
  have G5 := Lib.hid (G4.out.trans g3)
  clear HT4 G4 g3 b2 i1 i2 i3
  generalize W4.heap.size = nb at *
  generalize (W4.alloc (.cells Zp1 25)).setRow nb (arrP p16) = W5 at *
  clear W4
  refine wpList_nil ?_
  simp only [Act.put, List.setIfInBounds_toArray, List.set_cons_zero, List.set_cons_succ]
  clear e16
  go_upto_region 5 with fail
  have q7 := fun g => h7 _ _ _ (HT5.out.grow (G.of W5 g))
  have q8 := fun g => h8 _ _ _ (HT5.out.grow (G.of W5 g))
  have q0 := fun g => h0 _ _ _ (HT5.out.grow (G.of W5 g))
  clear h7 h8 h0
  have ez : arrP default = #[.bool false, .int .u8 0, .int .u8 0, .int .u8 0, .int .u8 0, .int .u8 0, .int .u8 0, .int .u8 0, .int .u8 0, .int .u8 0, .int .u8 0, .int .u8 0, .int .u8 0, .int .u8 0, .int .u8 0, .int .u8 0, .int .u8 0, .int .i64 0] := rfl
  have EZ := Lib.hid ez
  clear ez
  refine region_head 19 ?_
  simp only [List.take_succ_cons, List.take_zero, List.drop_succ_cons, List.drop_zero]
  repeat (first | go_big_quiet_skip | (go_big_quiet_want; go_big_quiet_op; go_big_quiet_on))
  go_big_quiet_want; refine q_load 25 _ ⟨nb, 0, none⟩ (arrP (p16)) (at_blk b3) Try.underlying25 rfl (info25p (p16)) rfl rfl ?_; go_big_quiet_on
  simp only [Act.put, List.setIfInBounds_toArray, List.set_cons_zero, List.set_cons_succ]
  go_big_quiet_want; go_big_quiet_op; refine ⟨_, fun g => cls (q7 g), ?_⟩; go_big_quiet_on
  repeat (first | go_big_quiet_skip | (go_big_quiet_want; go_big_quiet_op; go_big_quiet_on))
  go_big_quiet_want; refine q_load 25 _ ⟨nb, 0, none⟩ (arrP (p16)) (at_blk b3) Try.underlying25 rfl (info25p (p16)) rfl rfl ?_; go_big_quiet_on
  simp only [Act.put, List.setIfInBounds_toArray, List.set_cons_zero, List.set_cons_succ]
  go_big_quiet_want; go_big_quiet_op; refine ⟨_, fun g => cls (q8 g), ?_⟩; go_big_quiet_on
  repeat (first | go_big_quiet_skip | (go_big_quiet_want; go_big_quiet_op; go_big_quiet_on))
  rw [← EZ.out]
  go_big_quiet_want; go_big_quiet_op; refine ⟨_, fun g => cls (q0 g), ?_⟩; go_big_quiet_on
  repeat (first | go_big_quiet_skip | (go_big_quiet_want; go_big_quiet_op; go_big_quiet_on))
  go_big_quiet_want; refine q_load 25 _ ⟨nb, 0, none⟩ (arrP (p16)) (at_blk b3) Try.underlying25 rfl (info25p (p16)) rfl rfl ?_; go_big_quiet_on
  simp only [Act.put, List.setIfInBounds_toArray, List.set_cons_zero, List.set_cons_succ]
  refine wpQuiet_nil ?_
  intro W6 hg6
  have hcc := hc _ _ _ (HT5.out.grow hg6)
  have G6 := Lib.hid (G5.out.trans hg6)
  clear b3 G5 HT5 hg6 hc q7 q8 q0
  go_wp2_with (go_at_call 14; refine hcc.mono ?_; rintro e w' ⟨A, c, rfl, hr, hg⟩; clear hcc; have G7 := Lib.hid (G6.out.trans hg); clear hr hg G6)
  go_ret
  exact ⟨rfl, G7.out⟩
end Go.Proofs.Ytedgbmibgddnkaa
