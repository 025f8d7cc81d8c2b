import Derived.Test.YtedgbmibgddnkaaL
namespace Go.Proofs.Ytedgbmibgddnkaa
open Go.RowKit Ad
set_option linter.unusedSimpArgs false
set_option linter.unusedVariables false

theorem most_any (b : Bool) (w : World) : Calls Try.prog 77 #[.bool b] w fun e w' => e = .returned (.int .i64 (most b)) ∧ w' = w := by
  cases b
  all_goals
    go_enter Try.func77, Try.ntmps77
    go_wp2
    go_ret
    exact ⟨rfl, rfl⟩

theorem mask_any (n : Int) (w : World) : Calls Try.prog 78 #[.int .i64 n] w fun e w' => e = .returned (.int .u8 (mask n).toNat) ∧ w' = w := by
  by_cases h0 : n ≤ 0
  · go_enter Try.func78, Try.ntmps78
    go_wp2
    go_ret
    exact ⟨by simp [mask, h0], rfl⟩
  · by_cases h8 : 8 ≤ n
    · have e : mask n = 255 := by unfold mask; rw [if_neg h0, if_pos h8]
      rw [e]
      go_enter Try.func78, Try.ntmps78
      go_wp2
      go_ret
      exact ⟨rfl, rfl⟩
    · obtain ⟨m, rfl⟩ := Int.eq_ofNat_of_zero_le (show 0 ≤ n by omega)
      have hm : m = 1 ∨ m = 2 ∨ m = 3 ∨ m = 4 ∨ m = 5 ∨ m = 6 ∨ m = 7 := by omega
      rcases hm with rfl | rfl | rfl | rfl | rfl | rfl | rfl
      all_goals
        go_enter Try.func78, Try.ntmps78
        go_wp2
        go_ret
        exact ⟨rfl, rfl⟩


def Zp : Array Value := arrP default
set_option maxRecDepth 100000 in
theorem cut_any (p : Pfx) (w : World) : Calls Try.prog 47 #[.agg (arrP p)] w fun e w' => e = .returned (.agg (arrP p.cut)) ∧ G w w' := by
  go_enter Try.func47, Try.ntmps47
  go_wp2
  obtain ⟨W, hW⟩ : ∃ W, (w.alloc (.cells (arrP p) 25)).alloc (.cells Zp 25) = W := ⟨_, rfl⟩
  have g0 : G w W := by rw [← hW]; exact ((G.refl w).alloc _).alloc _
  have b1 : W.heap[w.heap.size]? = some (.cells (arrP p) 25 (0, 0)) := by rw [← hW]; exact heap_alloc2_old _ _ _
  have b2 : W.heap[w.heap.size + 1]? = some (.cells Zp 25 (0, 0)) := by rw [← hW]; exact heap_alloc2_new _ _ _
  obtain ⟨b, hb⟩ : ∃ b, w.heap.size = b := ⟨_, rfl⟩
  change Code.wp _ _ _ _ ((w.alloc (.cells (arrP p) 25)).alloc (.cells Zp 25))
  rw [hW]
  rw [hb] at b1 b2
  have hb0 : w.heap.size ≤ b := by omega
  rw [hb]
  clear hW hb
  have c17 := (blk_cell b1 17).trans (arrP_17 p)
  have c0 := (blk_cell b1 0).trans (arrP_0 p)
  have f17 := blk_frozen b1 17
  have k17 := gcell c17
  have k0 := gcell c0
  refine region_tail 8 (by kernel_rfl) (by kernel_rfl) ?_
  simp only [List.take_succ_cons, List.take_zero, List.drop_succ_cons, List.drop_zero]
  repeat (first | go_big_quiet_skip | (go_big_quiet_want; go_big_quiet_op; go_big_quiet_on))
  go_big_quiet_want; go_big_quiet_op; refine ⟨_, fun g => cls_same (most_any _ _), ?_⟩; go_big_quiet_on
  repeat (first | go_big_quiet_skip | (go_big_quiet_want; go_big_quiet_op; go_big_quiet_on))
  have hclip : (if most p.v6 < if p.len < 0 then 0 else p.len then most p.v6 else if p.len < 0 then 0 else p.len) = clip p.v6 p.len := by
    have := most_le p.v6
    unfold clip
    split <;> split <;> omega
  rw [hclip]
  generalize (if p.len < 0 then 0 else p.len) = x6
  have hc1 : 0 ≤ clip p.v6 p.len ∧ clip p.v6 p.len ≤ 128 := by have := most_le p.v6; unfold clip; omega
  obtain ⟨hc0, hc1⟩ := hc1
  have hcut : (⟨p.v6, p.addr.cut (clip p.v6 p.len), clip p.v6 p.len⟩ : Pfx) = p.cut := rfl
  have Hcut := Lib.hid hcut
  clear hcut hclip
  generalize clip p.v6 p.len = n at *
  refine wpQuiet_nil ?_
  intro W1 hg1
  have b1' := hg1.blk b1
  have b2' := hg1.blk b2
  have g1 := g0.trans hg1
  clear c17 c0 f17 k17 k0 b1 b2 g0 hg1 W
  have c17 := (blk_cell b1' 17).trans (arrP_17 p)
  have f17 := blk_frozen b1' 17
  go_wp2
  have b1 : (W1.setCell ⟨b, 17, none⟩ (.int .i64 n)).heap[b]? = some (.cells (arrP ⟨p.v6, p.addr, n⟩) 25 (0, 0)) := by rw [heap_setCell_same _ _ _ _ _ _ b1', arrP_setLen]
  have b2 : (W1.setCell ⟨b, 17, none⟩ (.int .i64 n)).heap[b + 1]? = some (.cells Zp 25 (0, 0)) := by rw [heap_setCell_other _ _ _ _ (by simp)]; exact b2'
  have g2 : G w (W1.setCell ⟨b, 17, none⟩ (.int .i64 n)) := g1.set hb0 _
  generalize W1.setCell ⟨b, 17, none⟩ (.int .i64 n) = W2 at *
  clear c17 f17 b1' b2' g1 W1
  go_loopw [3, 12, 14, 15, 16, 17, 18, 19, 20, 21, 22, 23, 24, 25, 26, 27, 28] (fun _ i _ _ _ _ _ _ _ _ _ _ _ _ _ _ _ wr => ∃ k : Nat, k ≤ 16 ∧ i = .int .i64 k ∧ wr.heap[b]? = some (.cells (arrP ⟨p.v6, p.addr.cutTo n k, n⟩) 25 (0, 0)) ∧ wr.heap[b + 1]? = some (.cells Zp 25 (0, 0)) ∧ G w wr) (fun _ i _ _ _ _ _ _ _ _ _ _ _ _ _ _ _ _ => 16 - (intOf i).toNat)
  case atStart => exact ⟨0, by omega, rfl, by rw [Ad.Adr.cutTo_zero]; exact b1, b2, g2⟩
  case round =>
    obtain ⟨k, hk, rfl, b1, b2, gr⟩ := hrel
    clear g2
    by_cases hlt : k < 16
    · go_wp2
      have c17 := gcell ((blk_cell b1 17).trans (arrP_17 _))
      have ck := gcell ((blk_cell b1 (1 + k)).trans (arrP_byte _ k hlt))
      rw [Ad.Adr.cutTo_getD n k hlt] at ck
      have hstep := Ad.Adr.cutTo_succ n k hlt p.addr
      generalize p.addr.l.getD k 0 = x at ck hstep
      have Hstep := Lib.hid hstep
      clear hstep
      refine region_tail 13 (by kernel_rfl) (by kernel_rfl) ?_
      simp only [List.take_succ_cons, List.take_zero, List.drop_succ_cons, List.drop_zero]
      repeat (first | go_big_quiet_skip | (go_big_quiet_want; go_big_quiet_op; go_big_quiet_on))
      go_big_quiet_want; go_big_quiet_op; refine ⟨_, fun g => cls_same (mask_any _ _), ?_⟩; go_big_quiet_on
      repeat (first | go_big_quiet_skip | (go_big_quiet_want; go_big_quiet_op; go_big_quiet_on))
      rw [bits_and_u8]
      refine wpQuiet_nil ?_
      intro W1 hg1
      have b1' := hg1.blk b1
      have b2' := hg1.blk b2
      have g1 := gr.trans hg1
      clear c17 ck b1 b2 gr hg1
      have ck := (blk_cell b1' (1 + k)).trans (arrP_byte _ k hlt)
      have fk := blk_frozen b1' (1 + k)
      have b3 := blk_set b1' (1 + k) (.int .u8 ((x &&& mask (n - 8 * (k : Int))).toNat : Int))
      rw [arrP_set _ _ hlt, Hstep.out] at b3
      have b4 := blk_far b2' (p := ⟨b, 1 + k, none⟩) (by simp) (.int .u8 ((x &&& mask (n - 8 * (k : Int))).toNat : Int))
      have g3 := g1.set (p := ⟨b, 1 + k, none⟩) hb0 (.int .u8 ((x &&& mask (n - 8 * (k : Int))).toNat : Int))
      have B3 := Lib.hid b3
      have B4 := Lib.hid b4
      have G3 := Lib.hid g3
      clear b3 b4 g3 b1' b2' g1
      go_wp2
      go_roundw
      case rel => exact ⟨k + 1, by omega, by go_num, B3.out, B4.out, G3.out⟩
      case measure => simp [intOf]; omega
    · obtain rfl : k = 16 := by omega
      rw [Ad.Adr.cutTo_all, Hcut.out] at b1
      have b5 := row_set (D := arrP p.cut) b2
      have g5 := gr.row (b := b + 1) (by omega) (arrP p.cut)
      have i1 := info25p p.cut
      have i2 : Zp.size = (arrP p.cut).size := by rw [arrP_size]; exact arrP_size _
      have i3 := arrP_one p.cut
      generalize hq : p.cut = q at *
      have Hq := Lib.hid hq
      clear hq
      go_wp2_with (first
        | (with_reducible refine wpList_load_row rfl 25 _ rfl b rfl 25 (arrP q) (0, 0) _ b1 Try.underlying25 rfl i1 ?_)
        | (with_reducible refine wpList_store_row rfl 25 _ _ rfl (b + 1) (arrP q) rfl rfl 25 Zp b2 i1 i2 i3 ?_))
      refine bodyPost_ret (results_cell_row rfl _ _ (b + 1) 25 (arrP q) (0, 0) _ rfl b5 Try.underlying25 rfl i1) rfl ⟨?_, g5⟩
      rw [Hq.out]

theorem right_any (p : Pfx) (w : World) : Calls Try.prog 20 #[.agg (arrP p)] w fun e w' => e = .returned (.bool p.right) ∧ G w w' := by
  go_enter Try.func20, Try.ntmps20
  go_wp2
  have b1 := heap_alloc_new w (.cells (arrP p) 25)
  have g0 := (G.refl w).alloc (.cells (arrP p) 25)
  generalize w.alloc (.cells (arrP p) 25) = W at *
  generalize w.heap.size = b at *
  refine region_all (by kernel_rfl) (by kernel_rfl) ?_
  repeat (first | go_big_quiet_skip | (go_big_quiet_want; go_big_quiet_op; go_big_quiet_on))
  go_big_quiet_want; refine q_load 25 _ ⟨b, 0, none⟩ (arrP p) (at_blk b1) Try.underlying25 rfl (info25p p) rfl rfl ?_; go_big_quiet_on
  simp only [Act.put, List.setIfInBounds_toArray, List.set_cons_zero, List.set_cons_succ]
  repeat (first | go_big_quiet_skip | (go_big_quiet_want; go_big_quiet_op; go_big_quiet_on))
  go_big_quiet_want; go_big_quiet_op; refine ⟨_, fun g => cls (cut_any _ _), ?_⟩; go_big_quiet_on
  repeat (first | go_big_quiet_skip | (go_big_quiet_want; go_big_quiet_op; go_big_quiet_on))
  go_big_quiet_want; refine q_load 25 _ ⟨b, 0, none⟩ (arrP p) (at_blk b1) Try.underlying25 rfl (info25p p) rfl rfl ?_; go_big_quiet_on
  simp only [Act.put, List.setIfInBounds_toArray, List.set_cons_zero, List.set_cons_succ]
  repeat (first | go_big_quiet_skip | (go_big_quiet_want; go_big_quiet_op; go_big_quiet_on))
  refine wpQuiet_nil ?_
  intro W1 hg1
  go_wp2
  go_ret
  exact ⟨rfl, g0.trans hg1⟩
end Go.Proofs.Ytedgbmibgddnkaa
