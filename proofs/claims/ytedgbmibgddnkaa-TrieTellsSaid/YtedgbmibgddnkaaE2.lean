/- What the document has that covers a prefix, and what it answers. -/
import Derived.Test.YtedgbmibgddnkaaE1
namespace Go.Proofs.Ytedgbmibgddnkaa
open Go.RowKit Ad
set_option linter.unusedSimpArgs false
set_option linter.unusedVariables false
set_option maxRecDepth 100000
set_option maxHeartbeats 4000000
def fil (R : List Vrp) (p : Pfx) (i : Nat) : List Vrp := (R.take i).filter fun v => covers v.p p
theorem fil_all (R : List Vrp) (p : Pfx) (i : Nat) (h : R.length ≤ i) : fil R p i = R.filter fun v => covers v.p p := by unfold fil; rw [List.take_of_length_le h]
theorem fil_yes {R : List Vrp} {p : Pfx} {i : Nat} {x : Vrp} (hx : R[i]? = some x) (h : covers x.p p = true) : fil R p (i + 1) = fil R p i ++ [x] := by
  unfold fil
  obtain ⟨hl, rfl⟩ := List.getElem?_eq_some_iff.1 hx
  rw [List.take_succ_eq_append_getElem hl, List.filter_append]
  simp [h]
theorem fil_no {R : List Vrp} {p : Pfx} {i : Nat} {x : Vrp} (hx : R[i]? = some x) (h : covers x.p p = false) : fil R p (i + 1) = fil R p i := by
  unfold fil
  obtain ⟨hl, rfl⟩ := List.getElem?_eq_some_iff.1 hx
  rw [List.take_succ_eq_append_getElem hl, List.filter_append]
  simp [h]
theorem fil_length (R : List Vrp) (p : Pfx) (i : Nat) : (fil R p i).length ≤ i := by
  unfold fil
  have h1 := List.length_filter_le (fun v : Vrp => covers v.p p) (R.take i)
  simp only [List.length_take] at h1
  omega
theorem at_p {w : World} {ad : Addr} {v : Vrp} (h : At w ad (arrV v)) : At w ⟨ad.block, ad.off + 1, none⟩ (arrP v.p) := by
  have := h.sub 1 19 (arrV_ext v)
  rwa [show ad.add 1 = ⟨ad.block, ad.off + 1, none⟩ from Addr.add_succ' _ 0] at this
theorem refCovers_any (A : Option Addr) (c : Nat) (L : List Vrp) (p : Pfx) (w : World) (hL : RdV w A L) (hl : L.length ≤ 1000) :
    Calls Try.prog 15 #[.slice A L.length c, .agg (arrP p)] w fun e w' => ∃ A' c', e = .returned (.slice A' (refC L p).length c') ∧ RdV w' A' (refC L p) ∧ G w w' := by
  have hrow := fun W (h : G w W) => row_any A c L W (hL.grow h) hl
  rw [show refC L p = (rowL L).filter fun v => covers v.p p from rfl]
  have hRl : (rowL L).length ≤ 1000 := by
    have := rowFold_length L []
    simp only [List.length_nil] at this
    unfold rowL
    omega
  obtain ⟨R, hR⟩ : ∃ R, rowL L = R := ⟨_, rfl⟩
  rw [hR] at hRl
  simp only [hR] at hrow ⊢
  clear hR
  obtain ⟨m, hm⟩ : ∃ m, R.length = m := ⟨_, rfl⟩
  rw [hm] at hRl
  simp only [hm] at hrow
  have Hm := Lib.hid hm
  clear hm hL hl
  go_enter Try.func15, Try.ntmps15
  go_upto_region 1 with fail
  have b1 := heap_alloc_new w (.cells (arrP p) 25)
  have g0 := (G.refl w).alloc (.cells (arrP p) 25)
  obtain ⟨b, hb⟩ : ∃ b, w.heap.size = b := ⟨_, rfl⟩
  have hb0 : w.heap.size ≤ b := by omega
  rw [hb] at b1 ⊢
  generalize w.alloc (.cells (arrP p) 25) = W at *
  have hrow1 := hrow W g0
  have G0 := Lib.hid g0
  have B1 := Lib.hid b1
  clear hrow g0 b1
  go_wp2_with (go_at_call 19; refine hrow1.mono ?_; rintro e w' ⟨A1, c1, rfl, hr, hg⟩; clear hrow1; have HR := Lib.hid hr; have G1 := Lib.hid (G0.out.trans hg); have B2 := Lib.hid (hg.blk B1.out); clear hr hg G0 B1)
  go_loopw [6, 7, 10, 11, 12, 13, 14, 15, 16, 17, 18, 19, 20, 21, 22, 23, 24, 25, 26, 27, 28, 29] (fun ov i _ _ _ _ _ _ _ _ _ _ _ _ _ _ _ _ _ _ _ _ wr => ∃ k : Nat, k ≤ m ∧ i = .int .i64 k ∧ Hid (G w' wr ∧ OwnV wr w'.heap.size ov (fil R p k))) (fun ov i _ _ _ _ _ _ _ _ _ _ _ _ _ _ _ _ _ _ _ _ _ => m - (intOf i).toNat)
  case atStart => exact ⟨0, by omega, rfl, Lib.hid ⟨G.refl _, Own.nil _ _ _⟩⟩
  case round =>
    obtain ⟨k, hk, rfl, Hrel⟩ := hrel
    obtain ⟨hgr, hown⟩ := Hrel.out
    clear Hrel
    by_cases hlt : k < m
    · obtain ⟨x, hx⟩ : ∃ x, R[k]? = some x := ⟨_, List.getElem?_eq_getElem (by have := Hm.out; omega)⟩
      obtain ⟨ad, rfl, hax⟩ := HR.out k x hx
      have ax := hax.grow hgr
      have ap := at_p ax
      have bp := hgr.blk B2.out
      have hlen := fil_length R p k
      have hc := fun W => covers2_any x.p p W
      have Hx := Lib.hid hx
      have Hgr := Lib.hid hgr
      have Hown := Lib.hid hown
      obtain ⟨d, hd⟩ : ∃ d, covers x.p p = d := ⟨_, rfl⟩
      rw [hd] at hc
      have Hd := Lib.hid hd
      clear hx hgr hown hax hd
      cases d
      · go_upto_region 6 with fail
        refine region_all (by kernel_rfl) (by kernel_rfl) ?_
        repeat (first | go_big_quiet_skip | (go_big_quiet_want; go_big_quiet_op; go_big_quiet_on))
        go_big_quiet_want; refine q_load 25 _ ⟨(ad.add (k * 20)).block, (ad.add (k * 20)).off + 1, none⟩ (arrP (x.p)) ap Try.underlying25 rfl (info25p (x.p)) rfl rfl ?_; go_big_quiet_on
        try simp only [Act.put, List.setIfInBounds_toArray, List.set_cons_zero, List.set_cons_succ]
        go_big_quiet_want; refine q_load 25 _ ⟨b, 0, none⟩ (arrP (p)) (at_blk bp) Try.underlying25 rfl (info25p (p)) rfl rfl ?_; go_big_quiet_on
        try simp only [Act.put, List.setIfInBounds_toArray, List.set_cons_zero, List.set_cons_succ]
        go_big_quiet_want; go_big_quiet_op; refine ⟨_, fun g => cls (hc _), ?_⟩; go_big_quiet_on
        refine wpQuiet_nil ?_
        intro W2 hg2
        have Hg2 := Lib.hid hg2
        clear ax ap bp hg2 hc
        go_wp2
        go_roundw
        case rel => exact ⟨k + 1, by omega, by go_num, Lib.hid ⟨Hgr.out.trans Hg2.out, by rw [fil_no Hx.out Hd.out]; exact Hown.out.grow Hg2.out⟩⟩
        case measure => simp [intOf]; omega
      · go_upto_region 6 with fail
        refine region_all (by kernel_rfl) (by kernel_rfl) ?_
        repeat (first | go_big_quiet_skip | (go_big_quiet_want; go_big_quiet_op; go_big_quiet_on))
        go_big_quiet_want; refine q_load 25 _ ⟨(ad.add (k * 20)).block, (ad.add (k * 20)).off + 1, none⟩ (arrP (x.p)) ap Try.underlying25 rfl (info25p (x.p)) rfl rfl ?_; go_big_quiet_on
        try simp only [Act.put, List.setIfInBounds_toArray, List.set_cons_zero, List.set_cons_succ]
        go_big_quiet_want; refine q_load 25 _ ⟨b, 0, none⟩ (arrP (p)) (at_blk bp) Try.underlying25 rfl (info25p (p)) rfl rfl ?_; go_big_quiet_on
        try simp only [Act.put, List.setIfInBounds_toArray, List.set_cons_zero, List.set_cons_succ]
        go_big_quiet_want; go_big_quiet_op; refine ⟨_, fun g => cls (hc _), ?_⟩; go_big_quiet_on
        refine wpQuiet_nil ?_
        intro W2 hg2
        replace ax := ax.grow hg2
        have hown2 := Hown.out.grow hg2
        have Hg2 := Lib.hid (Hgr.out.trans hg2)
        clear ap bp hg2 hc Hown Hgr
        go_upto_region 7 with fail
        refine region_head 5 ?_
        simp only [List.take_succ_cons, List.take_zero, List.drop_succ_cons, List.drop_zero]
        repeat (first | go_big_quiet_skip | (go_big_quiet_want; go_big_quiet_op; go_big_quiet_on))
        go_big_quiet_want; refine q_load 39 _ (ad.add (k * 20)) (arrV (x)) ax Try.underlying39 rfl (info39v (x)) rfl rfl ?_; go_big_quiet_on
        try simp only [Act.put, List.setIfInBounds_toArray, List.set_cons_zero, List.set_cons_succ]
        refine wpQuiet_nil ?_
        intro W3 hg3
        replace hown2 := hown2.grow hg3
        have Hg3 := Lib.hid (Hg2.out.trans hg3)
        clear ax hg3 Hg2
        refine wl_build1V _ x rfl rfl rfl ?_
        have b4 := heap_alloc_new W3 (.cells (arrV x) 39)
        have gg := (G.refl W3).alloc (.cells (arrV x) 39)
        have hd := fun e => Nat.ne_of_lt (hown2.block (g := W3.heap.size) e).2 rfl
        replace hown2 := hown2.grow gg
        have Hg4 := Lib.hid (Hg3.out.trans gg)
        obtain ⟨nb4, hnb4⟩ : ∃ nb4, W3.heap.size = nb4 := ⟨_, rfl⟩
        rw [hnb4] at b4 hd ⊢
        clear hnb4
        generalize W3.alloc (.cells (arrV x) 39) = W4 at *
        clear gg Hg3
        clear W3
        simp only [Act.put, List.setIfInBounds_toArray, List.set_cons_zero, List.set_cons_succ]
        refine wl_appV _ _ w'.heap.size _ (fil R p k) [x] (some ⟨nb4, 0, none⟩) 1 hown2 (rd_one b4) Hg4.out.below.size (by simp only [List.length_singleton]; omega) rfl rfl rfl rfl ?_
        intro sv W5 ho hf hn
        have Hg5 := Lib.hid (F.gtrans Hg4.out hf (fun i hi => (hown2.block hi).1))
        have Hown5 := Lib.hid ho
        clear hown2 b4 hd Hg4 ho hf hn
        simp only [Act.put, List.setIfInBounds_toArray, List.set_cons_zero, List.set_cons_succ]
        go_wp2
        go_roundw
        case rel => exact ⟨k + 1, by omega, by go_num, Lib.hid ⟨Hg5.out, by rw [fil_yes Hx.out Hd.out]; exact Hown5.out⟩⟩
        case measure => simp [intOf]; omega
    · obtain rfl : k = m := by omega
      rw [fil_all R p k (by have := Hm.out; omega)] at hown
      obtain ⟨A2, c2, hv, hA2, _, _⟩ := hown.at encV_length
      subst hv
      have HA2 := Lib.hid hA2
      have Hgr := Lib.hid (G1.out.trans hgr)
      clear hA2 hown hgr
      go_wp2
      go_ret
      exact ⟨A2, c2, rfl, HA2.out, Hgr.out⟩

theorem good_parts (p : Pfx) (n : Int) (x : Vrp) : good p n x = (decide (x.as = n) && decide (p.len ≤ x.max) && decide (n ≠ 0)) := by
  unfold good
  cases decide (x.as = n) <;> cases decide (p.len ≤ x.max) <;> cases decide (n ≠ 0) <;> rfl
theorem any_take {C : List Vrp} {f : Vrp → Bool} {i : Nat} {x : Vrp} (hx : C[i]? = some x) (h : (C.take i).any f = false) (hf : f x = false) : (C.take (i + 1)).any f = false := by
  obtain ⟨hl, rfl⟩ := List.getElem?_eq_some_iff.1 hx
  rw [List.take_succ_eq_append_getElem hl, List.any_append, h]
  simp [hf]
theorem any_at {C : List Vrp} {f : Vrp → Bool} {i : Nat} {x : Vrp} (hx : C[i]? = some x) (hf : f x = true) : C.any f = true :=
  List.any_eq_true.2 ⟨x, List.mem_of_getElem? hx, hf⟩
theorem refAnswer_any (A : Option Addr) (c : Nat) (L : List Vrp) (p : Pfx) (n : Int) (w : World) (hL : RdV w A L) (hl : L.length ≤ 1000) :
    Calls Try.prog 17 #[.slice A L.length c, .agg (arrP p), .int .u32 n] w fun e w' => e = .returned (.int .i64 (refA (refC L p) p n)) ∧ G w w' := by
  have hcov := fun W (h : G w W) => refCovers_any A c L p W (hL.grow h) hl
  have hRl : (refC L p).length ≤ 1000 := by
    have := rowFold_length L []
    have h2 := List.length_filter_le (fun v : Vrp => covers v.p p) (rowL L)
    simp only [List.length_nil] at this
    unfold refC
    unfold rowL at h2 ⊢
    omega
  obtain ⟨C, hC⟩ : ∃ C, refC L p = C := ⟨_, rfl⟩
  rw [hC] at hRl hcov ⊢
  clear hC
  obtain ⟨m, hm⟩ : ∃ m, C.length = m := ⟨_, rfl⟩
  rw [hm] at hRl hcov
  have Hm := Lib.hid hm
  have h2 : C.any (good p n) = true → refA C p n = 2 := fun h => by unfold refA; rw [if_pos h]
  have h1 : C.any (good p n) = false → 0 < m → refA C p n = 1 := fun h h' => by unfold refA; rw [h, hm]; simp [h']
  have h0 : C.any (good p n) = false → m = 0 → refA C p n = 0 := fun h h' => by unfold refA; rw [h, hm]; simp [h']
  have H0 := Lib.hid h0
  have H1 := Lib.hid h1
  have H2 := Lib.hid h2
  have HGood := Lib.hid (good_parts p n)
  generalize refA C p n = r at *
  clear hm hL hl h0 h1 h2
  go_enter Try.func17, Try.ntmps17
  go_upto_region 1 with fail
  have b1 := heap_alloc_new w (.cells (arrP p) 25)
  have g0 := (G.refl w).alloc (.cells (arrP p) 25)
  obtain ⟨b, hb⟩ : ∃ b, w.heap.size = b := ⟨_, rfl⟩
  have hb0 : w.heap.size ≤ b := by omega
  rw [hb] at b1 ⊢
  clear hb
  generalize w.alloc (.cells (arrP p) 25) = W at *
  refine region_head 2 ?_
  simp only [List.take_succ_cons, List.take_zero, List.drop_succ_cons, List.drop_zero]
  repeat (first | go_big_quiet_skip | (go_big_quiet_want; go_big_quiet_op; go_big_quiet_on))
  go_big_quiet_want; refine q_load 25 _ ⟨b, 0, none⟩ (arrP (p)) (at_blk b1) Try.underlying25 rfl (info25p (p)) rfl rfl ?_; go_big_quiet_on
  try simp only [Act.put, List.setIfInBounds_toArray, List.set_cons_zero, List.set_cons_succ]
  refine wpQuiet_nil ?_
  intro W1 hg1
  have hcov1 := hcov W1 (g0.trans hg1)
  have G1 := Lib.hid (g0.trans hg1)
  have B1 := Lib.hid (hg1.blk b1)
  clear hcov g0 hg1 b1
  go_wp2_with (go_at_call 15; refine hcov1.mono ?_; rintro e w' ⟨A1, c1, rfl, hr, hg⟩; clear hcov1; have HR := Lib.hid hr; have G2 := Lib.hid (G1.out.trans hg); have B2 := Lib.hid (hg.blk B1.out); clear hr hg G1 B1)
  go_loopw [8, 12, 13, 14, 15, 16, 17, 18, 19, 20, 21, 22, 23, 24, 25, 26, 27, 28, 29, 30, 31, 32, 33, 34, 35, 36, 37, 38] (fun i _ _ _ _ _ _ _ _ _ _ _ _ _ _ _ _ _ _ _ _ _ _ _ _ _ _ _ wr => ∃ k : Nat, k ≤ m ∧ i = .int .i64 k ∧ Hid (G w' wr ∧ (C.take k).any (good p n) = false)) (fun i _ _ _ _ _ _ _ _ _ _ _ _ _ _ _ _ _ _ _ _ _ _ _ _ _ _ _ _ => m - (intOf i).toNat)
  case atStart => exact ⟨0, by omega, rfl, Lib.hid ⟨G.refl _, by simp⟩⟩
  case round =>
    obtain ⟨k, hk, rfl, Hrel⟩ := hrel
    have Hgr := Lib.hid Hrel.out.1
    by_cases hlt : k < m
    · obtain ⟨x, hx⟩ : ∃ x, C[k]? = some x := ⟨_, List.getElem?_eq_getElem (by have := Hm.out; omega)⟩
      obtain ⟨ad, rfl, hax⟩ := HR.out k x hx
      have ax := hax.grow Hgr.out
      have bp := Hgr.out.blk B2.out
      have k0 := gcell (by have := ax.one 0 (arrV_0 x); rwa [Addr.add_zero'] at this)
      have k18 := gcell (by have := ax.one 19 (arrV_19 x); rwa [show (ad.add (k * 20)).add 19 = ⟨(ad.add (k * 20)).block, (ad.add (k * 20)).off + 19, none⟩ from Addr.add_succ' _ 18] at this)
      have kp := gcell ((blk_cell bp 17).trans (arrP_17 p))
      have Hx := Lib.hid hx
      have hgood := HGood.out x
      clear hx hax ax bp
      by_cases c1 : x.as = n
      · by_cases c2 : p.len ≤ x.max
        · by_cases c3 : n = 0
          · have HG := Lib.hid (show good p n x = false by rw [hgood, c3]; simp)
            clear hgood
            subst c3
            simp only [c1] at k0
            go_upto_region 5 with fail
            refine region_all (by kernel_rfl) (by kernel_rfl) ?_
            repeat (first | go_big_quiet_skip | (go_big_quiet_want; go_big_quiet_op; go_big_quiet_on))
            refine wpQuiet_nil ?_
            intro W2 hg2
            have Hg2 := Lib.hid (Hgr.out.trans hg2)
            clear k0 k18 kp hg2
            go_wp2
            go_roundw
            case rel => exact ⟨k + 1, by omega, by go_num, Lib.hid ⟨Hg2.out, any_take Hx.out Hrel.out.2 HG.out⟩⟩
            case measure => simp [intOf]; omega
          · have HG := Lib.hid (show good p n x = true by rw [hgood]; simp [c1, c2, c3])
            have hE := H2.out (any_at Hx.out HG.out)
            subst hE
            clear hgood
            simp only [c1] at k0
            clear c1
            go_upto_region 5 with fail
            refine region_all (by kernel_rfl) (by kernel_rfl) ?_
            repeat (first | go_big_quiet_skip | (go_big_quiet_want; go_big_quiet_op; go_big_quiet_on))
            refine wpQuiet_nil ?_
            intro W2 hg2
            have Hg2 := Lib.hid (Hgr.out.trans hg2)
            clear k0 k18 kp hg2
            go_wp2
            go_ret
            exact ⟨rfl, G2.out.trans Hg2.out⟩
        · have HG := Lib.hid (show good p n x = false by rw [hgood]; simp [c2])
          clear hgood
          simp only [c1] at k0
          clear c1
          go_upto_region 5 with fail
          refine region_all (by kernel_rfl) (by kernel_rfl) ?_
          repeat (first | go_big_quiet_skip | (go_big_quiet_want; go_big_quiet_op; go_big_quiet_on))
          refine wpQuiet_nil ?_
          intro W2 hg2
          have Hg2 := Lib.hid (Hgr.out.trans hg2)
          clear k0 k18 kp hg2
          go_wp2
          go_roundw
          case rel => exact ⟨k + 1, by omega, by go_num, Lib.hid ⟨Hg2.out, any_take Hx.out Hrel.out.2 HG.out⟩⟩
          case measure => simp [intOf]; omega
      · have HG := Lib.hid (show good p n x = false by rw [hgood]; simp [c1])
        have c1b : (x.as == n) = false := by simp [c1]
        clear hgood
        go_upto_region 5 with fail
        refine region_all (by kernel_rfl) (by kernel_rfl) ?_
        repeat (first | go_big_quiet_skip | (go_big_quiet_want; go_big_quiet_op; go_big_quiet_on))
        refine wpQuiet_nil ?_
        intro W2 hg2
        have Hg2 := Lib.hid (Hgr.out.trans hg2)
        clear k0 k18 kp hg2
        go_wp2
        go_roundw
        case rel => exact ⟨k + 1, by omega, by go_num, Lib.hid ⟨Hg2.out, any_take Hx.out Hrel.out.2 HG.out⟩⟩
        case measure => simp [intOf]; omega
    · obtain rfl : k = m := by omega
      have hany := Hrel.out.2
      rw [List.take_of_length_le (by have := Hm.out; omega)] at hany
      have Hany := Lib.hid hany
      clear hany Hrel
      by_cases hz : 0 < k
      · have hE := H1.out Hany.out hz
        subst hE
        go_wp2
        go_ret
        exact ⟨rfl, G2.out.trans Hgr.out⟩
      · obtain rfl : k = 0 := by omega
        have hE := H0.out Hany.out rfl
        subst hE
        go_wp2
        go_ret
        exact ⟨rfl, G2.out.trans Hgr.out⟩
end Go.Proofs.Ytedgbmibgddnkaa
