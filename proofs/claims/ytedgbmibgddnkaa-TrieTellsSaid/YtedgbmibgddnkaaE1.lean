/- The document's row of a list. -/
import Derived.Test.YtedgbmibgddnkaaE0
import Derived.Test.YtedgbmibgddnkaaX3
namespace Go.Proofs.Ytedgbmibgddnkaa
open Go.RowKit Ad
set_option linter.unusedSimpArgs false
set_option linter.unusedVariables false
set_option maxRecDepth 100000
set_option maxHeartbeats 4000000
theorem rowStep_no {R : List Vrp} {x : Vrp} (h : Ad.one x = false) : rowStep R x = R := by unfold rowStep; simp [h]
theorem rowStep_same {R : List Vrp} {x : Vrp} {j : Nat} (hat : atOf R x = j) (h : R[j]? = some x) : rowStep R x = R := by unfold rowStep; simp [hat, h]
theorem rowStep_ins {R : List Vrp} {x : Vrp} {j : Nat} (ho : Ad.one x = true) (hat : atOf R x = j) (h : R[j]? ≠ some x) : rowStep R x = R.take j ++ [x] ++ R.drop j := by
  unfold rowStep
  rw [hat, ho]
  simp [h]
theorem row_any (A : Option Addr) (c : Nat) (L : List Vrp) (w : World) (hL : RdV w A L) (hl : L.length ≤ 1000) :
    Calls Try.prog 19 #[.slice A L.length c] w fun e w' => ∃ A' c', e = .returned (.slice A' (rowL L).length c') ∧ RdV w' A' (rowL L) ∧ G w w' := by
  obtain ⟨n, hn⟩ : ∃ n, L.length = n := ⟨_, rfl⟩
  have Hn := Lib.hid hn
  have HL := Lib.hid hL
  rw [hn] at hl ⊢
  clear hn hL
  go_enter Try.func19, Try.ntmps19
  go_wp2
  go_loopw [3, 4, 5, 6, 7, 8, 9, 10, 11, 12, 13, 14, 15, 16, 17, 18, 19, 20, 21, 22, 23, 24, 25, 26, 27, 28, 29, 30, 31, 32, 33, 34, 35, 36, 37, 38, 39, 40, 41, 42, 43, 44, 45, 46, 47, 48, 49, 50, 51, 52, 53, 54, 55, 56, 57, 58, 59, 60, 61, 62, 63, 64, 65, 66, 67] (fun ov i _ _ _ _ _ _ _ _ _ _ _ _ _ _ _ _ _ _ _ _ _ _ _ _ _ _ _ _ _ _ _ _ _ _ _ _ _ _ _ _ _ _ _ _ _ _ _ _ _ _ _ _ _ _ _ _ _ _ _ _ _ _ _ wr => ∃ k : Nat, k ≤ n ∧ i = .int .i64 k ∧ Hid (G w wr ∧ OwnV wr w.heap.size ov (rowL (L.take k)))) (fun ov i _ _ _ _ _ _ _ _ _ _ _ _ _ _ _ _ _ _ _ _ _ _ _ _ _ _ _ _ _ _ _ _ _ _ _ _ _ _ _ _ _ _ _ _ _ _ _ _ _ _ _ _ _ _ _ _ _ _ _ _ _ _ _ _ => n - (intOf i).toNat)
  case atStart => exact ⟨0, by omega, rfl, Lib.hid ⟨G.refl _, Own.nil _ _ _⟩⟩
  case round =>
    obtain ⟨k, hk, rfl, Hrel⟩ := hrel
    obtain ⟨hgr, hown⟩ := Hrel.out
    clear Hrel
    by_cases hlt : k < n
    · obtain ⟨x, hx⟩ : ∃ x, L[k]? = some x := ⟨_, List.getElem?_eq_getElem (by have := Hn.out; omega)⟩
      obtain ⟨bd, rfl, hbx⟩ := HL.out k x hx
      have hstep := rowL_take L k x hx
      have hRl : (rowL (L.take k)).length ≤ 1000 := by
        have := rowFold_length (L.take k) []
        simp only [List.length_nil, List.length_take] at this
        unfold rowL
        omega
      obtain ⟨R, hR⟩ : ∃ R, rowL (L.take k) = R := ⟨_, rfl⟩
      rw [hR] at hown hRl hstep
      obtain ⟨Ao, co, rfl, hRd, _, _⟩ := hown.at encV_length
      have hcap : R.length ≤ co := by
        rcases hown.2 with ⟨hh, h0⟩ | ⟨g, cap, cur, hh, _, _, hc, _⟩
        · omega
        · injection hh with _ _ h3; omega
      obtain ⟨m, hm⟩ : ∃ m, R.length = m := ⟨_, rfl⟩
      have HOwn := Lib.hid hown
      rw [hm] at hcap hRl ⊢
      have Hm := Lib.hid hm
      have HStep := Lib.hid hstep
      have HRd := Lib.hid hRd
      have Hgr := Lib.hid hgr
      have Hbx := Lib.hid hbx
      clear hown hR hm hstep hRd hx hgr hbx
      generalize wr = Wo at *
      go_wp2
      go_loopw [5, 12, 13, 14, 15, 16, 17, 18, 19, 20, 21, 22, 23, 24, 25, 26, 27, 28, 29] (fun at_ _ _ _ _ _ _ _ _ _ _ _ _ _ _ _ _ _ _ wr => ∃ j : Nat, j ≤ m ∧ at_ = .int .i64 j ∧ Hid ((∀ i, i < j → ∀ y, R[i]? = some y → cmpV y x = -1) ∧ G Wo wr)) (fun at_ _ _ _ _ _ _ _ _ _ _ _ _ _ _ _ _ _ _ _ => m - (intOf at_).toNat)
      case atStart => exact ⟨0, by omega, rfl, Lib.hid ⟨fun i hi => by omega, G.refl _⟩⟩
      case round =>
        obtain ⟨j, hj, rfl, Hrel⟩ := hrel
        have hg := Hrel.out.2
        have ax := Hbx.out.grow (Hgr.out.trans hg)
        have hone := fun W => one2_any x W
        by_cases hlj : j < m
        · obtain ⟨y, hy⟩ : ∃ y, R[j]? = some y := ⟨_, List.getElem?_eq_getElem (by have := Hm.out; omega)⟩
          obtain ⟨ad, hAo, hay⟩ := HRd.out j y hy
          subst hAo
          have Hy := Lib.hid hy
          have ay := hay.grow hg
          obtain ⟨r, hr⟩ : ∃ r, cmpV y x = r := ⟨_, rfl⟩
          have hc := fun W => cmpV2_any y x W
          rw [hr] at hc
          have Hr := Lib.hid hr
          have Hg := Lib.hid hg
          clear hy hay hr hg
          by_cases hneg : r < 0
          · go_upto_region 6 with fail
            refine region_all (by kernel_rfl) (by kernel_rfl) ?_
            repeat (first | go_big_quiet_skip | (go_big_quiet_want; go_big_quiet_op; go_big_quiet_on))
            go_big_quiet_want; refine q_load 39 _ (ad.add (j * 20)) (arrV (y)) ay Try.underlying39 rfl (info39v (y)) rfl rfl ?_; go_big_quiet_on
            try simp only [Act.put, List.setIfInBounds_toArray, List.set_cons_zero, List.set_cons_succ]
            repeat (first | go_big_quiet_skip | (go_big_quiet_want; go_big_quiet_op; go_big_quiet_on))
            go_big_quiet_want; refine q_load 39 _ (bd.add (k * 20)) (arrV (x)) ax Try.underlying39 rfl (info39v (x)) rfl rfl ?_; go_big_quiet_on
            try simp only [Act.put, List.setIfInBounds_toArray, List.set_cons_zero, List.set_cons_succ]
            go_big_quiet_want; go_big_quiet_op; refine ⟨_, fun g => cls (hc _), ?_⟩; go_big_quiet_on
            repeat (first | go_big_quiet_skip | (go_big_quiet_want; go_big_quiet_op; go_big_quiet_on))
            refine wpQuiet_nil ?_
            intro W2 hg2
            have G2 := Lib.hid (Hg.out.trans hg2)
            clear ay ax hg2 hc hone
            go_wp2
            go_roundw
            case rel => exact ⟨j + 1, by omega, by go_num, Lib.hid ⟨fun i hi z hz => by
              by_cases e : i = j
              · subst e
                have := Hy.out.symm.trans hz
                simp at this
                subst this
                exact cmpV_neg.1 (by rw [Hr.out]; exact hneg)
              · exact Hrel.out.1 i (by omega) z hz, G2.out⟩⟩
            case measure => simp [intOf]; omega
          · have Hat := Lib.hid (show atOf R x = j from atOf_eq Hrel.out.1 (by have := Hm.out; omega) (fun z hz => by
              have := Hy.out.symm.trans hz
              simp at this
              subst this
              rw [Hr.out]; exact hneg))
            go_upto_region 6 with fail
            refine region_all (by kernel_rfl) (by kernel_rfl) ?_
            repeat (first | go_big_quiet_skip | (go_big_quiet_want; go_big_quiet_op; go_big_quiet_on))
            go_big_quiet_want; refine q_load 39 _ (ad.add (j * 20)) (arrV (y)) ay Try.underlying39 rfl (info39v (y)) rfl rfl ?_; go_big_quiet_on
            try simp only [Act.put, List.setIfInBounds_toArray, List.set_cons_zero, List.set_cons_succ]
            repeat (first | go_big_quiet_skip | (go_big_quiet_want; go_big_quiet_op; go_big_quiet_on))
            go_big_quiet_want; refine q_load 39 _ (bd.add (k * 20)) (arrV (x)) ax Try.underlying39 rfl (info39v (x)) rfl rfl ?_; go_big_quiet_on
            try simp only [Act.put, List.setIfInBounds_toArray, List.set_cons_zero, List.set_cons_succ]
            go_big_quiet_want; go_big_quiet_op; refine ⟨_, fun g => cls (hc _), ?_⟩; go_big_quiet_on
            repeat (first | go_big_quiet_skip | (go_big_quiet_want; go_big_quiet_op; go_big_quiet_on))
            refine wpQuiet_nil ?_
            intro W2 hg2
            have Hg2 := Lib.hid (Hg.out.trans hg2)
            replace ax := ax.grow hg2
            replace ay := ay.grow hg2
            clear hg2 hc Hg Hrel
            obtain ⟨o, ho⟩ : ∃ o, Ad.one x = o := ⟨_, rfl⟩
            rw [ho] at hone
            have Ho := Lib.hid ho
            clear ho
            cases o
            · go_upto_region 8 with fail
              refine region_all (by kernel_rfl) (by kernel_rfl) ?_
              repeat (first | go_big_quiet_skip | (go_big_quiet_want; go_big_quiet_op; go_big_quiet_on))
              go_big_quiet_want; refine q_load 39 _ (bd.add (k * 20)) (arrV (x)) ax Try.underlying39 rfl (info39v (x)) rfl rfl ?_; go_big_quiet_on
              try simp only [Act.put, List.setIfInBounds_toArray, List.set_cons_zero, List.set_cons_succ]
              go_big_quiet_want; go_big_quiet_op; refine ⟨_, fun g => cls (hone _), ?_⟩; go_big_quiet_on
              repeat (first | go_big_quiet_skip | (go_big_quiet_want; go_big_quiet_op; go_big_quiet_on))
              refine wpQuiet_nil ?_
              intro W3 hg3
              have Hg3 := Lib.hid (Hg2.out.trans hg3)
              clear ax ay hg3 hone
              go_wp2
              go_roundw
              case rel => exact ⟨k + 1, by omega, by go_num, Lib.hid ⟨Hgr.out.trans Hg3.out, by rw [HStep.out, rowStep_no Ho.out, ← Hm.out]; exact HOwn.out.grow Hg3.out⟩⟩
              case measure => simp [intOf]; omega
            · by_cases hyx : y = x
              · subst hyx
                go_upto_region 8 with fail
                refine region_all (by kernel_rfl) (by kernel_rfl) ?_
                repeat (first | go_big_quiet_skip | (go_big_quiet_want; go_big_quiet_op; go_big_quiet_on))
                go_big_quiet_want; refine q_load 39 _ (bd.add (k * 20)) (arrV (y)) ax Try.underlying39 rfl (info39v (y)) rfl rfl ?_; go_big_quiet_on
                try simp only [Act.put, List.setIfInBounds_toArray, List.set_cons_zero, List.set_cons_succ]
                go_big_quiet_want; go_big_quiet_op; refine ⟨_, fun g => cls (hone _), ?_⟩; go_big_quiet_on
                repeat (first | go_big_quiet_skip | (go_big_quiet_want; go_big_quiet_op; go_big_quiet_on))
                go_big_quiet_want; refine q_load 39 _ (ad.add (j * 20)) (arrV (y)) ay Try.underlying39 rfl (info39v (y)) rfl rfl ?_; go_big_quiet_on
                try simp only [Act.put, List.setIfInBounds_toArray, List.set_cons_zero, List.set_cons_succ]
                repeat (first | go_big_quiet_skip | (go_big_quiet_want; go_big_quiet_op; go_big_quiet_on))
                go_big_quiet_want; refine q_load 39 _ (bd.add (k * 20)) (arrV (y)) ax Try.underlying39 rfl (info39v (y)) rfl rfl ?_; go_big_quiet_on
                try simp only [Act.put, List.setIfInBounds_toArray, List.set_cons_zero, List.set_cons_succ]
                repeat (first | go_big_quiet_skip | (go_big_quiet_want; go_big_quiet_op; go_big_quiet_on))
                refine wpQuiet_nil ?_
                intro W3 hg3
                have Hg3 := Lib.hid (Hg2.out.trans hg3)
                clear ax ay hg3 hone
                try simp only [decide_true]
                go_wp2
                go_roundw
                case rel => exact ⟨k + 1, by omega, by go_num, Lib.hid ⟨Hgr.out.trans Hg3.out, by rw [HStep.out, rowStep_same Hat.out Hy.out, ← Hm.out]; exact HOwn.out.grow Hg3.out⟩⟩
                case measure => simp [intOf]; omega
              · go_upto_region 8 with fail
                refine region_all (by kernel_rfl) (by kernel_rfl) ?_
                repeat (first | go_big_quiet_skip | (go_big_quiet_want; go_big_quiet_op; go_big_quiet_on))
                go_big_quiet_want; refine q_load 39 _ (bd.add (k * 20)) (arrV (x)) ax Try.underlying39 rfl (info39v (x)) rfl rfl ?_; go_big_quiet_on
                try simp only [Act.put, List.setIfInBounds_toArray, List.set_cons_zero, List.set_cons_succ]
                go_big_quiet_want; go_big_quiet_op; refine ⟨_, fun g => cls (hone _), ?_⟩; go_big_quiet_on
                repeat (first | go_big_quiet_skip | (go_big_quiet_want; go_big_quiet_op; go_big_quiet_on))
                go_big_quiet_want; refine q_load 39 _ (ad.add (j * 20)) (arrV (y)) ay Try.underlying39 rfl (info39v (y)) rfl rfl ?_; go_big_quiet_on
                try simp only [Act.put, List.setIfInBounds_toArray, List.set_cons_zero, List.set_cons_succ]
                repeat (first | go_big_quiet_skip | (go_big_quiet_want; go_big_quiet_op; go_big_quiet_on))
                go_big_quiet_want; refine q_load 39 _ (bd.add (k * 20)) (arrV (x)) ax Try.underlying39 rfl (info39v (x)) rfl rfl ?_; go_big_quiet_on
                try simp only [Act.put, List.setIfInBounds_toArray, List.set_cons_zero, List.set_cons_succ]
                repeat (first | go_big_quiet_skip | (go_big_quiet_want; go_big_quiet_op; go_big_quiet_on))
                refine wpQuiet_nil ?_
                intro Wc hg3
                have HG := Lib.hid (Hgr.out.trans (Hg2.out.trans hg3))
                have HR := Lib.hid (HRd.out.grow (Hg2.out.trans hg3))
                replace ax := ax.grow hg3
                have hst := HStep.out
                rw [rowStep_ins Ho.out Hat.out (by rw [Hy.out]; simpa using hyx)] at hst
                clear HStep
                have HStep := Lib.hid hst
                clear ay hg3 hone hst HOwn HRd
                try simp only [hyx, decide_false]
                obtain ⟨Ao, hAo⟩ : ∃ Ao, some ad = Ao := ⟨_, rfl⟩
                rw [hAo] at HR ⊢
                clear hAo
                go_upto_region 9 with fail
                have hS : G Wc Wc.drew := (G.refl Wc).drew
                refine region_q (G Wc) 16 (.q [1, 2, 3, 5, 6, 7, 8, 11, 12, 13] (.two 0 (.two 4 (.one 9 (.one 10 (.one 14 (.q [15] .nil)))) 9 (.one 4 (.one 10 (.one 14 (.q [15] .nil))))) 9 (.one 0 (.one 4 (.one 10 (.one 14 (.q [15] .nil))))))) (by kernel_rfl) (by kernel_rfl) (by decide) (by kernel_rfl) (fun _ _ d _ _ h => by cases d <;> exact h) ?_
                refine wpTq_qG hS ?_
                change wpQuiet _ _ _ _ [_, _, _, _, _, _, _, _, _, _] _
                iterate 2 (first | go_big_quiet_skip | (go_big_quiet_want; go_big_quiet_op; go_big_quiet_on))
                go_big_quiet_want; refine q_sl_hi 22 39 20 _ _ (Ao) (m) (co) (j) (by omega) Try.underlying22 Try.sizeOf39 rfl rfl rfl ?_; go_big_quiet_on
                try simp only [Act.put, List.setIfInBounds_toArray, List.set_cons_zero, List.set_cons_succ]
                iterate 3 (first | go_big_quiet_skip | (go_big_quiet_want; go_big_quiet_op; go_big_quiet_on))
                go_big_quiet_want; refine q_load 39 _ (bd.add (k * 20)) (arrV (x)) ax Try.underlying39 rfl (info39v (x)) rfl rfl ?_; go_big_quiet_on
                try simp only [Act.put, List.setIfInBounds_toArray, List.set_cons_zero, List.set_cons_succ]
                iterate 2 (first | go_big_quiet_skip | (go_big_quiet_want; go_big_quiet_op; go_big_quiet_on))
                go_big_quiet_want; refine q_sl_lo 22 39 20 _ _ (Ao) (m) (co) (j) (by omega) Try.underlying22 Try.sizeOf39 rfl rfl rfl ?_; go_big_quiet_on
                try simp only [Act.put, List.setIfInBounds_toArray, List.set_cons_zero, List.set_cons_succ]
                refine wpQuiet_nil ?_
                clear ax
                generalize Wc.drew = V0 at *
                refine wpTq_two ?_ ?_
                ·
                  refine wpTq_one (o := ⟨_, _, _, _, _, _⟩) rfl (fun _ => hS) (by rfl) (fun K hK => ?_)
                  refine wp_build0V rfl (hK _ _ (fun _ => hS.alloc _) ?_)
                  clear hK
                  clear K
                  have own := own_none (k := 20) (enc := encV) hS.below.size (heap_alloc_new V0 (.cells #[] 39))
                  have gg := (G.refl V0).alloc (.cells #[] 39)
                  try have hd : ¬ (Value.slice (some ⟨(V0).heap.size, 0, none⟩) 0 0).ownBlock = some nb4 := (by simp only [Value.ownBlock, Option.some.injEq]; have := heap_lt b4; omega)
                  try replace b4 := gg.blk b4
                  replace hS := hS.alloc (.cells #[] 39)
                  generalize (V0).heap.size = nb0 at *
                  generalize (V0).alloc (.cells #[] 39) = V1 at *
                  clear gg
                  clear V0
                  simp only [Act.put, List.setIfInBounds_toArray, List.set_cons_zero, List.set_cons_succ]
                  refine wpTq_two ?_ ?_
                  ·
                    refine wpTq_one (o := ⟨_, _, _, _, _, _⟩) rfl (fun _ => hS) (by rfl) (fun K hK => ?_)
                    have hlen : (R.take j).length = j := by have := Hm.out; simp only [List.length_drop, List.length_take, List.length_singleton] <;> omega
                    refine wp_appV _ _ Wc.heap.size _ ([]) (R.take j) (Ao) (co) own ((HR.out.grow hS).take j) hS.below.size (by have := Hm.out; simp only [List.length_nil, List.length_drop, List.length_take, List.length_append, List.length_singleton]; omega) rfl rfl (by rw [hlen]; rfl) ?_
                    clear hlen
                    intro sv V2 ho hf hn
                    refine hK _ _ (fun _ => F.gtrans hS hf (fun i hi => (own.block hi).1)) ?_
                    clear hK
                    clear K
                    try have hd2 : ¬ sv.ownBlock = some nb4 := fun e => hn.elim (fun h => hd (h ▸ e)) (fun ⟨g, h1, h2⟩ => by rw [h1] at e; injection e with e; have := heap_lt b4; omega)
                    try replace b4 := hf.blk b4 hd
                    replace hS := F.gtrans hS hf (fun i hi => (own.block hi).1)
                    try clear hd
                    try (have hd := hd2; clear hd2)
                    clear own hf hn
                    have own := ho
                    clear ho
                    clear V1
                    simp only [Act.put, List.setIfInBounds_toArray, List.set_cons_zero, List.set_cons_succ]
                    rw [List.nil_append] at own
                    refine wpTq_one (o := ⟨_, _, _, _, _, _⟩) rfl (fun _ => hS) (by rfl) (fun K hK => ?_)
                    refine wp_build1V _ x rfl rfl (hK _ _ (fun _ => hS.alloc _) ?_)
                    clear hK
                    clear K
                    have b4 := heap_alloc_new V2 (.cells (arrV x) 39)
                    have gg := (G.refl V2).alloc (.cells (arrV x) 39)
                    try have hd := fun e => Nat.ne_of_lt (own.block (g := (V2).heap.size) e).2 rfl
                    try replace own := own.grow gg
                    replace hS := hS.alloc (.cells (arrV x) 39)
                    obtain ⟨nb4, hnb4⟩ : ∃ nb4, (V2).heap.size = nb4 := ⟨_, rfl⟩
                    rw [hnb4] at b4 ⊢
                    try rw [hnb4] at hd
                    clear hnb4
                    generalize (V2).alloc (.cells (arrV x) 39) = V3 at *
                    clear gg
                    clear V2
                    simp only [Act.put, List.setIfInBounds_toArray, List.set_cons_zero, List.set_cons_succ]
                    refine wpTq_one (o := ⟨_, _, _, _, _, _⟩) rfl (fun _ => hS) (by rfl) (fun K hK => ?_)
                    have hlen : ([x]).length = 1 := by have := Hm.out; simp only [List.length_drop, List.length_take, List.length_singleton] <;> omega
                    refine wp_appV _ _ Wc.heap.size _ (R.take j) ([x]) (some ⟨nb4, 0, none⟩) (1) own (rd_one b4) hS.below.size (by have := Hm.out; simp only [List.length_nil, List.length_drop, List.length_take, List.length_append, List.length_singleton]; omega) rfl rfl (by rw [hlen]; rfl) ?_
                    clear hlen
                    intro sv V4 ho hf hn
                    refine hK _ _ (fun _ => F.gtrans hS hf (fun i hi => (own.block hi).1)) ?_
                    clear hK
                    clear K
                    try have hd2 : ¬ sv.ownBlock = some nb4 := fun e => hn.elim (fun h => hd (h ▸ e)) (fun ⟨g, h1, h2⟩ => by rw [h1] at e; injection e with e; have := heap_lt b4; omega)
                    try replace b4 := hf.blk b4 hd
                    replace hS := F.gtrans hS hf (fun i hi => (own.block hi).1)
                    try clear hd
                    try (have hd := hd2; clear hd2)
                    clear own hf hn
                    have own := ho
                    clear ho
                    clear V3
                    simp only [Act.put, List.setIfInBounds_toArray, List.set_cons_zero, List.set_cons_succ]
                    clear b4 hd
                    refine wpTq_one (o := ⟨_, _, _, _, _, _⟩) rfl (fun _ => hS) (by rfl) (fun K hK => ?_)
                    have hlen : (R.drop j).length = m - j := by have := Hm.out; simp only [List.length_drop, List.length_take, List.length_singleton] <;> omega
                    refine wp_appV _ _ Wc.heap.size _ (R.take j ++ [x]) (R.drop j) (sliA Ao j co 20) (co - j) own ((HR.out.grow hS).sli (by have := Hm.out; omega)) hS.below.size (by have := Hm.out; simp only [List.length_nil, List.length_drop, List.length_take, List.length_append, List.length_singleton]; omega) rfl rfl (by rw [hlen]; rfl) ?_
                    clear hlen
                    intro sv V5 ho hf hn
                    refine hK _ _ (fun _ => F.gtrans hS hf (fun i hi => (own.block hi).1)) ?_
                    clear hK
                    clear K
                    try have hd2 : ¬ sv.ownBlock = some nb4 := fun e => hn.elim (fun h => hd (h ▸ e)) (fun ⟨g, h1, h2⟩ => by rw [h1] at e; injection e with e; have := heap_lt b4; omega)
                    try replace b4 := hf.blk b4 hd
                    replace hS := F.gtrans hS hf (fun i hi => (own.block hi).1)
                    try clear hd
                    try (have hd := hd2; clear hd2)
                    clear own hf hn
                    have own := ho
                    clear ho
                    clear V4
                    simp only [Act.put, List.setIfInBounds_toArray, List.set_cons_zero, List.set_cons_succ]
                    refine wpTq_qG hS ?_
                    change wpQuiet _ _ _ _ [_] _
                    repeat (first | go_big_quiet_skip | (go_big_quiet_want; go_big_quiet_op; go_big_quiet_on))
                    refine wpQuiet_nil ?_
                    refine wpTq_nil ?_
                    have own := Lib.hid (own.base (HG.out.below.size))
                    have hS := Lib.hid (HG.out.trans hS)
                    go_wp2
                    go_roundw
                    case rel => exact ⟨k + 1, by omega, by go_num, Lib.hid ⟨hS.out, by rw [HStep.out]; exact own.out⟩⟩
                    case measure => simp [intOf]; omega
                  ·
                    refine wpTq_one (o := ⟨_, _, _, _, _, _⟩) rfl (fun _ => hS) (by rfl) (fun K hK => ?_)
                    refine wp_build1V _ x rfl rfl (hK _ _ (fun _ => hS.alloc _) ?_)
                    clear hK
                    clear K
                    have b4 := heap_alloc_new V1 (.cells (arrV x) 39)
                    have gg := (G.refl V1).alloc (.cells (arrV x) 39)
                    try have hd := fun e => Nat.ne_of_lt (own.block (g := (V1).heap.size) e).2 rfl
                    try replace own := own.grow gg
                    replace hS := hS.alloc (.cells (arrV x) 39)
                    obtain ⟨nb4, hnb4⟩ : ∃ nb4, (V1).heap.size = nb4 := ⟨_, rfl⟩
                    rw [hnb4] at b4 ⊢
                    try rw [hnb4] at hd
                    clear hnb4
                    generalize (V1).alloc (.cells (arrV x) 39) = V2 at *
                    clear gg
                    clear V1
                    simp only [Act.put, List.setIfInBounds_toArray, List.set_cons_zero, List.set_cons_succ]
                    refine wpTq_one (o := ⟨_, _, _, _, _, _⟩) rfl (fun _ => hS) (by rfl) (fun K hK => ?_)
                    have hlen : (R.take j).length = j := by have := Hm.out; simp only [List.length_drop, List.length_take, List.length_singleton] <;> omega
                    refine wp_appV _ _ Wc.heap.size _ ([]) (R.take j) (Ao) (co) own ((HR.out.grow hS).take j) hS.below.size (by have := Hm.out; simp only [List.length_nil, List.length_drop, List.length_take, List.length_append, List.length_singleton]; omega) rfl rfl (by rw [hlen]; rfl) ?_
                    clear hlen
                    intro sv V3 ho hf hn
                    refine hK _ _ (fun _ => F.gtrans hS hf (fun i hi => (own.block hi).1)) ?_
                    clear hK
                    clear K
                    try have hd2 : ¬ sv.ownBlock = some nb4 := fun e => hn.elim (fun h => hd (h ▸ e)) (fun ⟨g, h1, h2⟩ => by rw [h1] at e; injection e with e; have := heap_lt b4; omega)
                    try replace b4 := hf.blk b4 hd
                    replace hS := F.gtrans hS hf (fun i hi => (own.block hi).1)
                    try clear hd
                    try (have hd := hd2; clear hd2)
                    clear own hf hn
                    have own := ho
                    clear ho
                    clear V2
                    simp only [Act.put, List.setIfInBounds_toArray, List.set_cons_zero, List.set_cons_succ]
                    rw [List.nil_append] at own
                    refine wpTq_one (o := ⟨_, _, _, _, _, _⟩) rfl (fun _ => hS) (by rfl) (fun K hK => ?_)
                    have hlen : ([x]).length = 1 := by have := Hm.out; simp only [List.length_drop, List.length_take, List.length_singleton] <;> omega
                    refine wp_appV _ _ Wc.heap.size _ (R.take j) ([x]) (some ⟨nb4, 0, none⟩) (1) own (rd_one b4) hS.below.size (by have := Hm.out; simp only [List.length_nil, List.length_drop, List.length_take, List.length_append, List.length_singleton]; omega) rfl rfl (by rw [hlen]; rfl) ?_
                    clear hlen
                    intro sv V4 ho hf hn
                    refine hK _ _ (fun _ => F.gtrans hS hf (fun i hi => (own.block hi).1)) ?_
                    clear hK
                    clear K
                    try have hd2 : ¬ sv.ownBlock = some nb4 := fun e => hn.elim (fun h => hd (h ▸ e)) (fun ⟨g, h1, h2⟩ => by rw [h1] at e; injection e with e; have := heap_lt b4; omega)
                    try replace b4 := hf.blk b4 hd
                    replace hS := F.gtrans hS hf (fun i hi => (own.block hi).1)
                    try clear hd
                    try (have hd := hd2; clear hd2)
                    clear own hf hn
                    have own := ho
                    clear ho
                    clear V3
                    simp only [Act.put, List.setIfInBounds_toArray, List.set_cons_zero, List.set_cons_succ]
                    clear b4 hd
                    refine wpTq_one (o := ⟨_, _, _, _, _, _⟩) rfl (fun _ => hS) (by rfl) (fun K hK => ?_)
                    have hlen : (R.drop j).length = m - j := by have := Hm.out; simp only [List.length_drop, List.length_take, List.length_singleton] <;> omega
                    refine wp_appV _ _ Wc.heap.size _ (R.take j ++ [x]) (R.drop j) (sliA Ao j co 20) (co - j) own ((HR.out.grow hS).sli (by have := Hm.out; omega)) hS.below.size (by have := Hm.out; simp only [List.length_nil, List.length_drop, List.length_take, List.length_append, List.length_singleton]; omega) rfl rfl (by rw [hlen]; rfl) ?_
                    clear hlen
                    intro sv V5 ho hf hn
                    refine hK _ _ (fun _ => F.gtrans hS hf (fun i hi => (own.block hi).1)) ?_
                    clear hK
                    clear K
                    try have hd2 : ¬ sv.ownBlock = some nb4 := fun e => hn.elim (fun h => hd (h ▸ e)) (fun ⟨g, h1, h2⟩ => by rw [h1] at e; injection e with e; have := heap_lt b4; omega)
                    try replace b4 := hf.blk b4 hd
                    replace hS := F.gtrans hS hf (fun i hi => (own.block hi).1)
                    try clear hd
                    try (have hd := hd2; clear hd2)
                    clear own hf hn
                    have own := ho
                    clear ho
                    clear V4
                    simp only [Act.put, List.setIfInBounds_toArray, List.set_cons_zero, List.set_cons_succ]
                    refine wpTq_qG hS ?_
                    change wpQuiet _ _ _ _ [_] _
                    repeat (first | go_big_quiet_skip | (go_big_quiet_want; go_big_quiet_op; go_big_quiet_on))
                    refine wpQuiet_nil ?_
                    refine wpTq_nil ?_
                    have own := Lib.hid (own.base (HG.out.below.size))
                    have hS := Lib.hid (HG.out.trans hS)
                    go_wp2
                    go_roundw
                    case rel => exact ⟨k + 1, by omega, by go_num, Lib.hid ⟨hS.out, by rw [HStep.out]; exact own.out⟩⟩
                    case measure => simp [intOf]; omega
                ·
                  refine wpTq_one (o := ⟨_, _, _, _, _, _⟩) rfl (fun _ => hS) (by rfl) (fun K hK => ?_)
                  refine wp_build1V _ x rfl rfl (hK _ _ (fun _ => hS.alloc _) ?_)
                  clear hK
                  clear K
                  have b4 := heap_alloc_new V0 (.cells (arrV x) 39)
                  have gg := (G.refl V0).alloc (.cells (arrV x) 39)
                  try have hd := fun e => Nat.ne_of_lt (own.block (g := (V0).heap.size) e).2 rfl
                  try replace own := own.grow gg
                  replace hS := hS.alloc (.cells (arrV x) 39)
                  obtain ⟨nb4, hnb4⟩ : ∃ nb4, (V0).heap.size = nb4 := ⟨_, rfl⟩
                  rw [hnb4] at b4 ⊢
                  try rw [hnb4] at hd
                  clear hnb4
                  generalize (V0).alloc (.cells (arrV x) 39) = V1 at *
                  clear gg
                  clear V0
                  simp only [Act.put, List.setIfInBounds_toArray, List.set_cons_zero, List.set_cons_succ]
                  refine wpTq_one (o := ⟨_, _, _, _, _, _⟩) rfl (fun _ => hS) (by rfl) (fun K hK => ?_)
                  refine wp_build0V rfl (hK _ _ (fun _ => hS.alloc _) ?_)
                  clear hK
                  clear K
                  have own := own_none (k := 20) (enc := encV) hS.below.size (heap_alloc_new V1 (.cells #[] 39))
                  have gg := (G.refl V1).alloc (.cells #[] 39)
                  try have hd : ¬ (Value.slice (some ⟨(V1).heap.size, 0, none⟩) 0 0).ownBlock = some nb4 := (by simp only [Value.ownBlock, Option.some.injEq]; have := heap_lt b4; omega)
                  try replace b4 := gg.blk b4
                  replace hS := hS.alloc (.cells #[] 39)
                  generalize (V1).heap.size = nb0 at *
                  generalize (V1).alloc (.cells #[] 39) = V2 at *
                  clear gg
                  clear V1
                  simp only [Act.put, List.setIfInBounds_toArray, List.set_cons_zero, List.set_cons_succ]
                  refine wpTq_one (o := ⟨_, _, _, _, _, _⟩) rfl (fun _ => hS) (by rfl) (fun K hK => ?_)
                  have hlen : (R.take j).length = j := by have := Hm.out; simp only [List.length_drop, List.length_take, List.length_singleton] <;> omega
                  refine wp_appV _ _ Wc.heap.size _ ([]) (R.take j) (Ao) (co) own ((HR.out.grow hS).take j) hS.below.size (by have := Hm.out; simp only [List.length_nil, List.length_drop, List.length_take, List.length_append, List.length_singleton]; omega) rfl rfl (by rw [hlen]; rfl) ?_
                  clear hlen
                  intro sv V3 ho hf hn
                  refine hK _ _ (fun _ => F.gtrans hS hf (fun i hi => (own.block hi).1)) ?_
                  clear hK
                  clear K
                  try have hd2 : ¬ sv.ownBlock = some nb4 := fun e => hn.elim (fun h => hd (h ▸ e)) (fun ⟨g, h1, h2⟩ => by rw [h1] at e; injection e with e; have := heap_lt b4; omega)
                  try replace b4 := hf.blk b4 hd
                  replace hS := F.gtrans hS hf (fun i hi => (own.block hi).1)
                  try clear hd
                  try (have hd := hd2; clear hd2)
                  clear own hf hn
                  have own := ho
                  clear ho
                  clear V2
                  simp only [Act.put, List.setIfInBounds_toArray, List.set_cons_zero, List.set_cons_succ]
                  rw [List.nil_append] at own
                  refine wpTq_one (o := ⟨_, _, _, _, _, _⟩) rfl (fun _ => hS) (by rfl) (fun K hK => ?_)
                  have hlen : ([x]).length = 1 := by have := Hm.out; simp only [List.length_drop, List.length_take, List.length_singleton] <;> omega
                  refine wp_appV _ _ Wc.heap.size _ (R.take j) ([x]) (some ⟨nb4, 0, none⟩) (1) own (rd_one b4) hS.below.size (by have := Hm.out; simp only [List.length_nil, List.length_drop, List.length_take, List.length_append, List.length_singleton]; omega) rfl rfl (by rw [hlen]; rfl) ?_
                  clear hlen
                  intro sv V4 ho hf hn
                  refine hK _ _ (fun _ => F.gtrans hS hf (fun i hi => (own.block hi).1)) ?_
                  clear hK
                  clear K
                  try have hd2 : ¬ sv.ownBlock = some nb4 := fun e => hn.elim (fun h => hd (h ▸ e)) (fun ⟨g, h1, h2⟩ => by rw [h1] at e; injection e with e; have := heap_lt b4; omega)
                  try replace b4 := hf.blk b4 hd
                  replace hS := F.gtrans hS hf (fun i hi => (own.block hi).1)
                  try clear hd
                  try (have hd := hd2; clear hd2)
                  clear own hf hn
                  have own := ho
                  clear ho
                  clear V3
                  simp only [Act.put, List.setIfInBounds_toArray, List.set_cons_zero, List.set_cons_succ]
                  clear b4 hd
                  refine wpTq_one (o := ⟨_, _, _, _, _, _⟩) rfl (fun _ => hS) (by rfl) (fun K hK => ?_)
                  have hlen : (R.drop j).length = m - j := by have := Hm.out; simp only [List.length_drop, List.length_take, List.length_singleton] <;> omega
                  refine wp_appV _ _ Wc.heap.size _ (R.take j ++ [x]) (R.drop j) (sliA Ao j co 20) (co - j) own ((HR.out.grow hS).sli (by have := Hm.out; omega)) hS.below.size (by have := Hm.out; simp only [List.length_nil, List.length_drop, List.length_take, List.length_append, List.length_singleton]; omega) rfl rfl (by rw [hlen]; rfl) ?_
                  clear hlen
                  intro sv V5 ho hf hn
                  refine hK _ _ (fun _ => F.gtrans hS hf (fun i hi => (own.block hi).1)) ?_
                  clear hK
                  clear K
                  try have hd2 : ¬ sv.ownBlock = some nb4 := fun e => hn.elim (fun h => hd (h ▸ e)) (fun ⟨g, h1, h2⟩ => by rw [h1] at e; injection e with e; have := heap_lt b4; omega)
                  try replace b4 := hf.blk b4 hd
                  replace hS := F.gtrans hS hf (fun i hi => (own.block hi).1)
                  try clear hd
                  try (have hd := hd2; clear hd2)
                  clear own hf hn
                  have own := ho
                  clear ho
                  clear V4
                  simp only [Act.put, List.setIfInBounds_toArray, List.set_cons_zero, List.set_cons_succ]
                  refine wpTq_qG hS ?_
                  change wpQuiet _ _ _ _ [_] _
                  repeat (first | go_big_quiet_skip | (go_big_quiet_want; go_big_quiet_op; go_big_quiet_on))
                  refine wpQuiet_nil ?_
                  refine wpTq_nil ?_
                  have own := Lib.hid (own.base (HG.out.below.size))
                  have hS := Lib.hid (HG.out.trans hS)
                  go_wp2
                  go_roundw
                  case rel => exact ⟨k + 1, by omega, by go_num, Lib.hid ⟨hS.out, by rw [HStep.out]; exact own.out⟩⟩
                  case measure => simp [intOf]; omega
        · obtain rfl : j = m := by omega
          have Hat := Lib.hid (show atOf R x = j from atOf_eq Hrel.out.1 (by have := Hm.out; omega) (fun z hz => by
              have := (List.getElem?_eq_some_iff.1 hz).1
              have := Hm.out; omega))
          have Hg := Lib.hid hg
          clear hg
          go_upto_region 6 with fail
          refine region_all (by kernel_rfl) (by kernel_rfl) ?_
          repeat (first | go_big_quiet_skip | (go_big_quiet_want; go_big_quiet_op; go_big_quiet_on))
          refine wpQuiet_nil ?_
          intro W2 hg2
          have Hg2 := Lib.hid (Hg.out.trans hg2)
          replace ax := ax.grow hg2
          clear hg2 Hg Hrel
          obtain ⟨o, ho⟩ : ∃ o, Ad.one x = o := ⟨_, rfl⟩
          rw [ho] at hone
          have Ho := Lib.hid ho
          clear ho
          cases o
          · go_upto_region 8 with fail
            refine region_all (by kernel_rfl) (by kernel_rfl) ?_
            repeat (first | go_big_quiet_skip | (go_big_quiet_want; go_big_quiet_op; go_big_quiet_on))
            go_big_quiet_want; refine q_load 39 _ (bd.add (k * 20)) (arrV (x)) ax Try.underlying39 rfl (info39v (x)) rfl rfl ?_; go_big_quiet_on
            try simp only [Act.put, List.setIfInBounds_toArray, List.set_cons_zero, List.set_cons_succ]
            go_big_quiet_want; go_big_quiet_op; refine ⟨_, fun g => cls (hone _), ?_⟩; go_big_quiet_on
            repeat (first | go_big_quiet_skip | (go_big_quiet_want; go_big_quiet_op; go_big_quiet_on))
            refine wpQuiet_nil ?_
            intro W3 hg3
            have Hg3 := Lib.hid (Hg2.out.trans hg3)
            clear ax hg3 hone
            go_wp2
            go_roundw
            case rel => exact ⟨k + 1, by omega, by go_num, Lib.hid ⟨Hgr.out.trans Hg3.out, by rw [HStep.out, rowStep_no Ho.out, ← Hm.out]; exact HOwn.out.grow Hg3.out⟩⟩
            case measure => simp [intOf]; omega
          · go_upto_region 8 with fail
            refine region_all (by kernel_rfl) (by kernel_rfl) ?_
            repeat (first | go_big_quiet_skip | (go_big_quiet_want; go_big_quiet_op; go_big_quiet_on))
            go_big_quiet_want; refine q_load 39 _ (bd.add (k * 20)) (arrV (x)) ax Try.underlying39 rfl (info39v (x)) rfl rfl ?_; go_big_quiet_on
            try simp only [Act.put, List.setIfInBounds_toArray, List.set_cons_zero, List.set_cons_succ]
            go_big_quiet_want; go_big_quiet_op; refine ⟨_, fun g => cls (hone _), ?_⟩; go_big_quiet_on
            repeat (first | go_big_quiet_skip | (go_big_quiet_want; go_big_quiet_op; go_big_quiet_on))
            refine wpQuiet_nil ?_
            intro Wc hg3
            have HG := Lib.hid (Hgr.out.trans (Hg2.out.trans hg3))
            have HR := Lib.hid (HRd.out.grow (Hg2.out.trans hg3))
            replace ax := ax.grow hg3
            have hst := HStep.out
            rw [rowStep_ins Ho.out Hat.out (by rw [List.getElem?_eq_none (by have := Hm.out; omega)]; simp)] at hst
            clear HStep
            have HStep := Lib.hid hst
            clear hg3 hone hst HOwn HRd
            go_upto_region 9 with fail
            have hS : G Wc Wc.drew := (G.refl Wc).drew
            refine region_q (G Wc) 16 (.q [1, 2, 3, 5, 6, 7, 8, 11, 12, 13] (.two 0 (.two 4 (.one 9 (.one 10 (.one 14 (.q [15] .nil)))) 9 (.one 4 (.one 10 (.one 14 (.q [15] .nil))))) 9 (.one 0 (.one 4 (.one 10 (.one 14 (.q [15] .nil))))))) (by kernel_rfl) (by kernel_rfl) (by decide) (by kernel_rfl) (fun _ _ d _ _ h => by cases d <;> exact h) ?_
            refine wpTq_qG hS ?_
            change wpQuiet _ _ _ _ [_, _, _, _, _, _, _, _, _, _] _
            iterate 2 (first | go_big_quiet_skip | (go_big_quiet_want; go_big_quiet_op; go_big_quiet_on))
            go_big_quiet_want; refine q_sl_hi 22 39 20 _ _ (Ao) (j) (co) (j) (by omega) Try.underlying22 Try.sizeOf39 rfl rfl rfl ?_; go_big_quiet_on
            try simp only [Act.put, List.setIfInBounds_toArray, List.set_cons_zero, List.set_cons_succ]
            iterate 3 (first | go_big_quiet_skip | (go_big_quiet_want; go_big_quiet_op; go_big_quiet_on))
            go_big_quiet_want; refine q_load 39 _ (bd.add (k * 20)) (arrV (x)) ax Try.underlying39 rfl (info39v (x)) rfl rfl ?_; go_big_quiet_on
            try simp only [Act.put, List.setIfInBounds_toArray, List.set_cons_zero, List.set_cons_succ]
            iterate 2 (first | go_big_quiet_skip | (go_big_quiet_want; go_big_quiet_op; go_big_quiet_on))
            go_big_quiet_want; refine q_sl_lo 22 39 20 _ _ (Ao) (j) (co) (j) (by omega) Try.underlying22 Try.sizeOf39 rfl rfl rfl ?_; go_big_quiet_on
            try simp only [Act.put, List.setIfInBounds_toArray, List.set_cons_zero, List.set_cons_succ]
            refine wpQuiet_nil ?_
            clear ax
            generalize Wc.drew = V0 at *
            refine wpTq_two ?_ ?_
            ·
              refine wpTq_one (o := ⟨_, _, _, _, _, _⟩) rfl (fun _ => hS) (by rfl) (fun K hK => ?_)
              refine wp_build0V rfl (hK _ _ (fun _ => hS.alloc _) ?_)
              clear hK
              clear K
              have own := own_none (k := 20) (enc := encV) hS.below.size (heap_alloc_new V0 (.cells #[] 39))
              have gg := (G.refl V0).alloc (.cells #[] 39)
              try have hd : ¬ (Value.slice (some ⟨(V0).heap.size, 0, none⟩) 0 0).ownBlock = some nb4 := (by simp only [Value.ownBlock, Option.some.injEq]; have := heap_lt b4; omega)
              try replace b4 := gg.blk b4
              replace hS := hS.alloc (.cells #[] 39)
              generalize (V0).heap.size = nb0 at *
              generalize (V0).alloc (.cells #[] 39) = V1 at *
              clear gg
              clear V0
              simp only [Act.put, List.setIfInBounds_toArray, List.set_cons_zero, List.set_cons_succ]
              refine wpTq_two ?_ ?_
              ·
                refine wpTq_one (o := ⟨_, _, _, _, _, _⟩) rfl (fun _ => hS) (by rfl) (fun K hK => ?_)
                have hlen : (R.take j).length = j := by have := Hm.out; simp only [List.length_drop, List.length_take, List.length_singleton] <;> omega
                refine wp_appV _ _ Wc.heap.size _ ([]) (R.take j) (Ao) (co) own ((HR.out.grow hS).take j) hS.below.size (by have := Hm.out; simp only [List.length_nil, List.length_drop, List.length_take, List.length_append, List.length_singleton]; omega) rfl rfl (by rw [hlen]; rfl) ?_
                clear hlen
                intro sv V2 ho hf hn
                refine hK _ _ (fun _ => F.gtrans hS hf (fun i hi => (own.block hi).1)) ?_
                clear hK
                clear K
                try have hd2 : ¬ sv.ownBlock = some nb4 := fun e => hn.elim (fun h => hd (h ▸ e)) (fun ⟨g, h1, h2⟩ => by rw [h1] at e; injection e with e; have := heap_lt b4; omega)
                try replace b4 := hf.blk b4 hd
                replace hS := F.gtrans hS hf (fun i hi => (own.block hi).1)
                try clear hd
                try (have hd := hd2; clear hd2)
                clear own hf hn
                have own := ho
                clear ho
                clear V1
                simp only [Act.put, List.setIfInBounds_toArray, List.set_cons_zero, List.set_cons_succ]
                rw [List.nil_append] at own
                refine wpTq_one (o := ⟨_, _, _, _, _, _⟩) rfl (fun _ => hS) (by rfl) (fun K hK => ?_)
                refine wp_build1V _ x rfl rfl (hK _ _ (fun _ => hS.alloc _) ?_)
                clear hK
                clear K
                have b4 := heap_alloc_new V2 (.cells (arrV x) 39)
                have gg := (G.refl V2).alloc (.cells (arrV x) 39)
                try have hd := fun e => Nat.ne_of_lt (own.block (g := (V2).heap.size) e).2 rfl
                try replace own := own.grow gg
                replace hS := hS.alloc (.cells (arrV x) 39)
                obtain ⟨nb4, hnb4⟩ : ∃ nb4, (V2).heap.size = nb4 := ⟨_, rfl⟩
                rw [hnb4] at b4 ⊢
                try rw [hnb4] at hd
                clear hnb4
                generalize (V2).alloc (.cells (arrV x) 39) = V3 at *
                clear gg
                clear V2
                simp only [Act.put, List.setIfInBounds_toArray, List.set_cons_zero, List.set_cons_succ]
                refine wpTq_one (o := ⟨_, _, _, _, _, _⟩) rfl (fun _ => hS) (by rfl) (fun K hK => ?_)
                have hlen : ([x]).length = 1 := by have := Hm.out; simp only [List.length_drop, List.length_take, List.length_singleton] <;> omega
                refine wp_appV _ _ Wc.heap.size _ (R.take j) ([x]) (some ⟨nb4, 0, none⟩) (1) own (rd_one b4) hS.below.size (by have := Hm.out; simp only [List.length_nil, List.length_drop, List.length_take, List.length_append, List.length_singleton]; omega) rfl rfl (by rw [hlen]; rfl) ?_
                clear hlen
                intro sv V4 ho hf hn
                refine hK _ _ (fun _ => F.gtrans hS hf (fun i hi => (own.block hi).1)) ?_
                clear hK
                clear K
                try have hd2 : ¬ sv.ownBlock = some nb4 := fun e => hn.elim (fun h => hd (h ▸ e)) (fun ⟨g, h1, h2⟩ => by rw [h1] at e; injection e with e; have := heap_lt b4; omega)
                try replace b4 := hf.blk b4 hd
                replace hS := F.gtrans hS hf (fun i hi => (own.block hi).1)
                try clear hd
                try (have hd := hd2; clear hd2)
                clear own hf hn
                have own := ho
                clear ho
                clear V3
                simp only [Act.put, List.setIfInBounds_toArray, List.set_cons_zero, List.set_cons_succ]
                clear b4 hd
                refine wpTq_one (o := ⟨_, _, _, _, _, _⟩) rfl (fun _ => hS) (by rfl) (fun K hK => ?_)
                have hlen : (R.drop j).length = j - j := by have := Hm.out; simp only [List.length_drop, List.length_take, List.length_singleton] <;> omega
                refine wp_appV _ _ Wc.heap.size _ (R.take j ++ [x]) (R.drop j) (sliA Ao j co 20) (co - j) own ((HR.out.grow hS).sli (by have := Hm.out; omega)) hS.below.size (by have := Hm.out; simp only [List.length_nil, List.length_drop, List.length_take, List.length_append, List.length_singleton]; omega) rfl rfl (by rw [hlen]; rfl) ?_
                clear hlen
                intro sv V5 ho hf hn
                refine hK _ _ (fun _ => F.gtrans hS hf (fun i hi => (own.block hi).1)) ?_
                clear hK
                clear K
                try have hd2 : ¬ sv.ownBlock = some nb4 := fun e => hn.elim (fun h => hd (h ▸ e)) (fun ⟨g, h1, h2⟩ => by rw [h1] at e; injection e with e; have := heap_lt b4; omega)
                try replace b4 := hf.blk b4 hd
                replace hS := F.gtrans hS hf (fun i hi => (own.block hi).1)
                try clear hd
                try (have hd := hd2; clear hd2)
                clear own hf hn
                have own := ho
                clear ho
                clear V4
                simp only [Act.put, List.setIfInBounds_toArray, List.set_cons_zero, List.set_cons_succ]
                refine wpTq_qG hS ?_
                change wpQuiet _ _ _ _ [_] _
                repeat (first | go_big_quiet_skip | (go_big_quiet_want; go_big_quiet_op; go_big_quiet_on))
                refine wpQuiet_nil ?_
                refine wpTq_nil ?_
                have own := Lib.hid (own.base (HG.out.below.size))
                have hS := Lib.hid (HG.out.trans hS)
                go_wp2
                go_roundw
                case rel => exact ⟨k + 1, by omega, by go_num, Lib.hid ⟨hS.out, by rw [HStep.out]; exact own.out⟩⟩
                case measure => simp [intOf]; omega
              ·
                refine wpTq_one (o := ⟨_, _, _, _, _, _⟩) rfl (fun _ => hS) (by rfl) (fun K hK => ?_)
                refine wp_build1V _ x rfl rfl (hK _ _ (fun _ => hS.alloc _) ?_)
                clear hK
                clear K
                have b4 := heap_alloc_new V1 (.cells (arrV x) 39)
                have gg := (G.refl V1).alloc (.cells (arrV x) 39)
                try have hd := fun e => Nat.ne_of_lt (own.block (g := (V1).heap.size) e).2 rfl
                try replace own := own.grow gg
                replace hS := hS.alloc (.cells (arrV x) 39)
                obtain ⟨nb4, hnb4⟩ : ∃ nb4, (V1).heap.size = nb4 := ⟨_, rfl⟩
                rw [hnb4] at b4 ⊢
                try rw [hnb4] at hd
                clear hnb4
                generalize (V1).alloc (.cells (arrV x) 39) = V2 at *
                clear gg
                clear V1
                simp only [Act.put, List.setIfInBounds_toArray, List.set_cons_zero, List.set_cons_succ]
                refine wpTq_one (o := ⟨_, _, _, _, _, _⟩) rfl (fun _ => hS) (by rfl) (fun K hK => ?_)
                have hlen : (R.take j).length = j := by have := Hm.out; simp only [List.length_drop, List.length_take, List.length_singleton] <;> omega
                refine wp_appV _ _ Wc.heap.size _ ([]) (R.take j) (Ao) (co) own ((HR.out.grow hS).take j) hS.below.size (by have := Hm.out; simp only [List.length_nil, List.length_drop, List.length_take, List.length_append, List.length_singleton]; omega) rfl rfl (by rw [hlen]; rfl) ?_
                clear hlen
                intro sv V3 ho hf hn
                refine hK _ _ (fun _ => F.gtrans hS hf (fun i hi => (own.block hi).1)) ?_
                clear hK
                clear K
                try have hd2 : ¬ sv.ownBlock = some nb4 := fun e => hn.elim (fun h => hd (h ▸ e)) (fun ⟨g, h1, h2⟩ => by rw [h1] at e; injection e with e; have := heap_lt b4; omega)
                try replace b4 := hf.blk b4 hd
                replace hS := F.gtrans hS hf (fun i hi => (own.block hi).1)
                try clear hd
                try (have hd := hd2; clear hd2)
                clear own hf hn
                have own := ho
                clear ho
                clear V2
                simp only [Act.put, List.setIfInBounds_toArray, List.set_cons_zero, List.set_cons_succ]
                rw [List.nil_append] at own
                refine wpTq_one (o := ⟨_, _, _, _, _, _⟩) rfl (fun _ => hS) (by rfl) (fun K hK => ?_)
                have hlen : ([x]).length = 1 := by have := Hm.out; simp only [List.length_drop, List.length_take, List.length_singleton] <;> omega
                refine wp_appV _ _ Wc.heap.size _ (R.take j) ([x]) (some ⟨nb4, 0, none⟩) (1) own (rd_one b4) hS.below.size (by have := Hm.out; simp only [List.length_nil, List.length_drop, List.length_take, List.length_append, List.length_singleton]; omega) rfl rfl (by rw [hlen]; rfl) ?_
                clear hlen
                intro sv V4 ho hf hn
                refine hK _ _ (fun _ => F.gtrans hS hf (fun i hi => (own.block hi).1)) ?_
                clear hK
                clear K
                try have hd2 : ¬ sv.ownBlock = some nb4 := fun e => hn.elim (fun h => hd (h ▸ e)) (fun ⟨g, h1, h2⟩ => by rw [h1] at e; injection e with e; have := heap_lt b4; omega)
                try replace b4 := hf.blk b4 hd
                replace hS := F.gtrans hS hf (fun i hi => (own.block hi).1)
                try clear hd
                try (have hd := hd2; clear hd2)
                clear own hf hn
                have own := ho
                clear ho
                clear V3
                simp only [Act.put, List.setIfInBounds_toArray, List.set_cons_zero, List.set_cons_succ]
                clear b4 hd
                refine wpTq_one (o := ⟨_, _, _, _, _, _⟩) rfl (fun _ => hS) (by rfl) (fun K hK => ?_)
                have hlen : (R.drop j).length = j - j := by have := Hm.out; simp only [List.length_drop, List.length_take, List.length_singleton] <;> omega
                refine wp_appV _ _ Wc.heap.size _ (R.take j ++ [x]) (R.drop j) (sliA Ao j co 20) (co - j) own ((HR.out.grow hS).sli (by have := Hm.out; omega)) hS.below.size (by have := Hm.out; simp only [List.length_nil, List.length_drop, List.length_take, List.length_append, List.length_singleton]; omega) rfl rfl (by rw [hlen]; rfl) ?_
                clear hlen
                intro sv V5 ho hf hn
                refine hK _ _ (fun _ => F.gtrans hS hf (fun i hi => (own.block hi).1)) ?_
                clear hK
                clear K
                try have hd2 : ¬ sv.ownBlock = some nb4 := fun e => hn.elim (fun h => hd (h ▸ e)) (fun ⟨g, h1, h2⟩ => by rw [h1] at e; injection e with e; have := heap_lt b4; omega)
                try replace b4 := hf.blk b4 hd
                replace hS := F.gtrans hS hf (fun i hi => (own.block hi).1)
                try clear hd
                try (have hd := hd2; clear hd2)
                clear own hf hn
                have own := ho
                clear ho
                clear V4
                simp only [Act.put, List.setIfInBounds_toArray, List.set_cons_zero, List.set_cons_succ]
                refine wpTq_qG hS ?_
                change wpQuiet _ _ _ _ [_] _
                repeat (first | go_big_quiet_skip | (go_big_quiet_want; go_big_quiet_op; go_big_quiet_on))
                refine wpQuiet_nil ?_
                refine wpTq_nil ?_
                have own := Lib.hid (own.base (HG.out.below.size))
                have hS := Lib.hid (HG.out.trans hS)
                go_wp2
                go_roundw
                case rel => exact ⟨k + 1, by omega, by go_num, Lib.hid ⟨hS.out, by rw [HStep.out]; exact own.out⟩⟩
                case measure => simp [intOf]; omega
            ·
              refine wpTq_one (o := ⟨_, _, _, _, _, _⟩) rfl (fun _ => hS) (by rfl) (fun K hK => ?_)
              refine wp_build1V _ x rfl rfl (hK _ _ (fun _ => hS.alloc _) ?_)
              clear hK
              clear K
              have b4 := heap_alloc_new V0 (.cells (arrV x) 39)
              have gg := (G.refl V0).alloc (.cells (arrV x) 39)
              try have hd := fun e => Nat.ne_of_lt (own.block (g := (V0).heap.size) e).2 rfl
              try replace own := own.grow gg
              replace hS := hS.alloc (.cells (arrV x) 39)
              obtain ⟨nb4, hnb4⟩ : ∃ nb4, (V0).heap.size = nb4 := ⟨_, rfl⟩
              rw [hnb4] at b4 ⊢
              try rw [hnb4] at hd
              clear hnb4
              generalize (V0).alloc (.cells (arrV x) 39) = V1 at *
              clear gg
              clear V0
              simp only [Act.put, List.setIfInBounds_toArray, List.set_cons_zero, List.set_cons_succ]
              refine wpTq_one (o := ⟨_, _, _, _, _, _⟩) rfl (fun _ => hS) (by rfl) (fun K hK => ?_)
              refine wp_build0V rfl (hK _ _ (fun _ => hS.alloc _) ?_)
              clear hK
              clear K
              have own := own_none (k := 20) (enc := encV) hS.below.size (heap_alloc_new V1 (.cells #[] 39))
              have gg := (G.refl V1).alloc (.cells #[] 39)
              try have hd : ¬ (Value.slice (some ⟨(V1).heap.size, 0, none⟩) 0 0).ownBlock = some nb4 := (by simp only [Value.ownBlock, Option.some.injEq]; have := heap_lt b4; omega)
              try replace b4 := gg.blk b4
              replace hS := hS.alloc (.cells #[] 39)
              generalize (V1).heap.size = nb0 at *
              generalize (V1).alloc (.cells #[] 39) = V2 at *
              clear gg
              clear V1
              simp only [Act.put, List.setIfInBounds_toArray, List.set_cons_zero, List.set_cons_succ]
              refine wpTq_one (o := ⟨_, _, _, _, _, _⟩) rfl (fun _ => hS) (by rfl) (fun K hK => ?_)
              have hlen : (R.take j).length = j := by have := Hm.out; simp only [List.length_drop, List.length_take, List.length_singleton] <;> omega
              refine wp_appV _ _ Wc.heap.size _ ([]) (R.take j) (Ao) (co) own ((HR.out.grow hS).take j) hS.below.size (by have := Hm.out; simp only [List.length_nil, List.length_drop, List.length_take, List.length_append, List.length_singleton]; omega) rfl rfl (by rw [hlen]; rfl) ?_
              clear hlen
              intro sv V3 ho hf hn
              refine hK _ _ (fun _ => F.gtrans hS hf (fun i hi => (own.block hi).1)) ?_
              clear hK
              clear K
              try have hd2 : ¬ sv.ownBlock = some nb4 := fun e => hn.elim (fun h => hd (h ▸ e)) (fun ⟨g, h1, h2⟩ => by rw [h1] at e; injection e with e; have := heap_lt b4; omega)
              try replace b4 := hf.blk b4 hd
              replace hS := F.gtrans hS hf (fun i hi => (own.block hi).1)
              try clear hd
              try (have hd := hd2; clear hd2)
              clear own hf hn
              have own := ho
              clear ho
              clear V2
              simp only [Act.put, List.setIfInBounds_toArray, List.set_cons_zero, List.set_cons_succ]
              rw [List.nil_append] at own
              refine wpTq_one (o := ⟨_, _, _, _, _, _⟩) rfl (fun _ => hS) (by rfl) (fun K hK => ?_)
              have hlen : ([x]).length = 1 := by have := Hm.out; simp only [List.length_drop, List.length_take, List.length_singleton] <;> omega
              refine wp_appV _ _ Wc.heap.size _ (R.take j) ([x]) (some ⟨nb4, 0, none⟩) (1) own (rd_one b4) hS.below.size (by have := Hm.out; simp only [List.length_nil, List.length_drop, List.length_take, List.length_append, List.length_singleton]; omega) rfl rfl (by rw [hlen]; rfl) ?_
              clear hlen
              intro sv V4 ho hf hn
              refine hK _ _ (fun _ => F.gtrans hS hf (fun i hi => (own.block hi).1)) ?_
              clear hK
              clear K
              try have hd2 : ¬ sv.ownBlock = some nb4 := fun e => hn.elim (fun h => hd (h ▸ e)) (fun ⟨g, h1, h2⟩ => by rw [h1] at e; injection e with e; have := heap_lt b4; omega)
              try replace b4 := hf.blk b4 hd
              replace hS := F.gtrans hS hf (fun i hi => (own.block hi).1)
              try clear hd
              try (have hd := hd2; clear hd2)
              clear own hf hn
              have own := ho
              clear ho
              clear V3
              simp only [Act.put, List.setIfInBounds_toArray, List.set_cons_zero, List.set_cons_succ]
              clear b4 hd
              refine wpTq_one (o := ⟨_, _, _, _, _, _⟩) rfl (fun _ => hS) (by rfl) (fun K hK => ?_)
              have hlen : (R.drop j).length = j - j := by have := Hm.out; simp only [List.length_drop, List.length_take, List.length_singleton] <;> omega
              refine wp_appV _ _ Wc.heap.size _ (R.take j ++ [x]) (R.drop j) (sliA Ao j co 20) (co - j) own ((HR.out.grow hS).sli (by have := Hm.out; omega)) hS.below.size (by have := Hm.out; simp only [List.length_nil, List.length_drop, List.length_take, List.length_append, List.length_singleton]; omega) rfl rfl (by rw [hlen]; rfl) ?_
              clear hlen
              intro sv V5 ho hf hn
              refine hK _ _ (fun _ => F.gtrans hS hf (fun i hi => (own.block hi).1)) ?_
              clear hK
              clear K
              try have hd2 : ¬ sv.ownBlock = some nb4 := fun e => hn.elim (fun h => hd (h ▸ e)) (fun ⟨g, h1, h2⟩ => by rw [h1] at e; injection e with e; have := heap_lt b4; omega)
              try replace b4 := hf.blk b4 hd
              replace hS := F.gtrans hS hf (fun i hi => (own.block hi).1)
              try clear hd
              try (have hd := hd2; clear hd2)
              clear own hf hn
              have own := ho
              clear ho
              clear V4
              simp only [Act.put, List.setIfInBounds_toArray, List.set_cons_zero, List.set_cons_succ]
              refine wpTq_qG hS ?_
              change wpQuiet _ _ _ _ [_] _
              repeat (first | go_big_quiet_skip | (go_big_quiet_want; go_big_quiet_op; go_big_quiet_on))
              refine wpQuiet_nil ?_
              refine wpTq_nil ?_
              have own := Lib.hid (own.base (HG.out.below.size))
              have hS := Lib.hid (HG.out.trans hS)
              go_wp2
              go_roundw
              case rel => exact ⟨k + 1, by omega, by go_num, Lib.hid ⟨hS.out, by rw [HStep.out]; exact own.out⟩⟩
              case measure => simp [intOf]; omega
    · obtain rfl : k = n := by omega
      have HF := Lib.hid (show OwnV wr w.heap.size u3 (rowL L) by
        have := hown
        rwa [List.take_of_length_le (by have := Hn.out; omega)] at this)
      have Hgr := Lib.hid hgr
      clear hown hgr
      obtain ⟨A2, c2, hv, hA2, _, _⟩ := HF.out.at encV_length
      subst hv
      have HA2 := Lib.hid hA2
      clear hA2 HF
      go_wp2
      go_ret
      exact ⟨A2, c2, rfl, HA2.out, Hgr.out⟩
end Go.Proofs.Ytedgbmibgddnkaa
