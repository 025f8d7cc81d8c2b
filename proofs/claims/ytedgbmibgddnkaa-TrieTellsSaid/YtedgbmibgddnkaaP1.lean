/- The walk that puts one to its branch. -/
import Derived.Test.YtedgbmibgddnkaaP
import Derived.Test.YtedgbmibgddnkaaB2
import Derived.Test.YtedgbmibgddnkaaN
import Derived.Test.YtedgbmibgddnkaaT2
namespace Go.Proofs.Ytedgbmibgddnkaa
open Go.RowKit Ad
set_option linter.unusedSimpArgs false
set_option linter.unusedVariables false
set_option maxRecDepth 100000
set_option maxHeartbeats 1000000
theorem put_any (base bt : Nat) (L : List Vrp) (v : Vrp) (w : World) (hT : TrieIs w base bt L) (hbase : base ≤ w.heap.size) (hv : 0 ≤ v.p.len ∧ v.p.len ≤ 128) (hbytes : (L.length + 1) * 48 ≤ 140737488355328) :
    Calls Try.prog 38 #[.pointer (some ⟨bt, 0, none⟩), .agg (arrV v)] w fun e w' => e = .returned undef ∧ TrieIs w' base bt (ins L v) ∧ F (fun i => base ≤ i) w w' := by
  obtain ⟨n, hn⟩ := Int.eq_ofNat_of_zero_le hv.1
  have hn128 : n ≤ 128 := by omega
  have Hn := Lib.hid hn
  clear hn hv
  have hcont := fun A c W hL hl => contains_any A (here L v.p.v6 (vpath v)) c v W hL hl
  obtain ⟨d, hd⟩ : ∃ d, decide (v ∈ here L v.p.v6 (vpath v)) = d := ⟨_, rfl⟩
  have hd' : d = decide (v ∈ L) := by rw [← hd]; simp [mem_here]
  rw [hd] at hcont
  clear hd
  have Hd := Lib.hid hd'
  clear hd'
  have HB := Lib.hid hbytes
  clear hbytes
  obtain ⟨κ, hκ⟩ : ∃ κ, v.p.v6 = κ := ⟨_, rfl⟩
  have Hκ := Lib.hid hκ
  have hfam := fun W => family_any v.p W
  have hlit : (if v.p.v6 = true then (1 : Int) else 0) = if κ then 1 else 0 := by rw [hκ]
  rw [hlit] at hfam
  clear hκ hlit
  obtain ⟨βx, σx, hTx⟩ := hT
  obtain ⟨r, hr⟩ := hTx.root κ
  cases κ
  ·
    rw [if_neg (by simp)] at hfam
    go_enter Try.func38, Try.ntmps38
    go_upto_region 1 with fail
    have bx := heap_alloc_new w (.cells (arrV v) 39)
    have g0 := (G.refl w).alloc (.cells (arrV v) 39)
    obtain ⟨b, hb⟩ : ∃ b, w.heap.size = b := ⟨_, rfl⟩
    have hb0 : base ≤ b := by omega
    have hnr : ¬ RowOf βx σx b := fun hh => by have := (hTx.row_lt hh).2; omega
    have Hnr := Lib.hid hnr
    clear hnr
    rw [hb] at bx ⊢
    clear hb
    generalize w.alloc (.cells (arrV v) 39) = W at *
    replace hTx := hTx.keep (g0.f fun _ => False) (fun _ _ _ hh => hh)
    have k0 := gcell ((blk_cell hTx.top 0).trans rfl)
    rw [hr] at k0
    have HT := Lib.hid hTx
    have Hr := Lib.hid hr
    clear hTx hr
    refine region_all (by kernel_rfl) (by kernel_rfl) ?_
    repeat (first | go_big_quiet_skip | (go_big_quiet_want; go_big_quiet_op; go_big_quiet_on))
    go_big_quiet_want; refine q_load 25 _ ⟨b, 1, none⟩ (arrP (v.p)) (at_ext bx 1 19 (arrV_ext v)) Try.underlying25 rfl (info25p (v.p)) rfl rfl ?_; go_big_quiet_on
    simp only [Act.put, List.setIfInBounds_toArray, List.set_cons_zero, List.set_cons_succ]
    repeat (first | go_big_quiet_skip | (go_big_quiet_want; go_big_quiet_op; go_big_quiet_on))
    go_big_quiet_want; go_big_quiet_op; refine ⟨_, fun g => cls (hfam _), ?_⟩; go_big_quiet_on
    repeat (first | go_big_quiet_skip | (go_big_quiet_want; go_big_quiet_op; go_big_quiet_on))
    refine wpQuiet_nil ?_
    intro W1 hg1
    have c1 := hg1.blk bx
    have g1 := g0.trans hg1
    have HT1 := Lib.hid (HT.out.keep (hg1.f fun _ => False) (fun _ _ _ hh => hh))
    clear bx g0 hg1 k0 HT
    clear W
    have k18 := (blk_cell c1 18).trans (arrV_18 v)
    rw [Hn.out] at k18
    have e0 : ptr (some r) = .pointer (some ⟨r, 0, none⟩) := rfl
    rw [e0]
    clear e0
    go_wp2
    clear k18
    go_loopw [4, 5, 6, 18, 19, 20, 21, 22, 23, 24, 25, 26, 27, 28, 29, 30, 31, 32, 33, 34, 35, 36, 37, 38, 39, 40] (fun pb _ _ i _ _ _ _ _ _ _ _ _ _ _ _ _ _ _ _ _ _ _ _ _ _ wr => ∃ k q : Nat, k ≤ n ∧ i = .int .i64 k ∧ pb = .pointer (some ⟨q, 0, none⟩) ∧ wr.heap[b]? = some (.cells (arrV v) 39 (0, 0)) ∧ Hid (F (fun i => base ≤ i) w wr ∧ ∃ β σ, TB wr base bt β σ L ∧ β v.p.v6 (pathOf v.p.addr k) = some q ∧ ¬ RowOf β σ b)) (fun pb _ _ i _ _ _ _ _ _ _ _ _ _ _ _ _ _ _ _ _ _ _ _ _ _ _ => n - (intOf i).toNat)
    case atStart => exact ⟨0, r, by omega, rfl, rfl, c1, Lib.hid ⟨g1.f _, _, _, HT1.out, by rw [Hκ.out]; exact Hr.out, Hnr.out⟩⟩
    case round =>
      clear c1 g1 HT1 Hr Hnr
      obtain ⟨k, q, hk, rfl, rfl, c1, Hrel⟩ := hrel
      obtain ⟨hf, β, σ, hT, hq, hnr⟩ := Hrel.out
      have Hnr := Lib.hid hnr
      clear Hrel hnr
      by_cases hlt : k < n
      · have hsucc := pathOf_succ v.p.addr k
        have hbit := fun W => tbit_any v.p k (by omega) W
        have hx := bit_lt v.p.addr k
        generalize bit v.p.addr k = x at *
        have HF := Lib.hid hf
        have HT := Lib.hid hT
        have Hq := Lib.hid hq
        have Hs := Lib.hid hsucc
        clear hf hT hq hsucc
        go_upto_region 5 with fail
        refine region_all (by kernel_rfl) (by kernel_rfl) ?_
        repeat (first | go_big_quiet_skip | (go_big_quiet_want; go_big_quiet_op; go_big_quiet_on))
        go_big_quiet_want; refine q_load 25 _ ⟨b, 1, none⟩ (arrP (v.p)) (at_ext c1 1 19 (arrV_ext v)) Try.underlying25 rfl (info25p (v.p)) rfl rfl ?_; go_big_quiet_on
        simp only [Act.put, List.setIfInBounds_toArray, List.set_cons_zero, List.set_cons_succ]
        repeat (first | go_big_quiet_skip | (go_big_quiet_want; go_big_quiet_op; go_big_quiet_on))
        go_big_quiet_want; go_big_quiet_op; refine ⟨_, fun g => cls (hbit _), ?_⟩; go_big_quiet_on
        repeat (first | go_big_quiet_skip | (go_big_quiet_want; go_big_quiet_op; go_big_quiet_on))
        refine wpQuiet_nil ?_
        intro W2 hg2
        have c2 := hg2.blk c1
        have T2 := HT.out.keep (hg2.f fun _ => False) (fun _ _ _ hh => hh)
        have F2 := HF.out.trans (hg2.f fun i => base ≤ i) (fun _ hh => .inl hh)
        obtain ⟨hq0, hq1, hq2⟩ := T2.node _ _ _ Hq.out
        have k1 : W2.cell? ⟨q, 1 + x, none⟩ = some (ptr (β v.p.v6 (pathOf v.p.addr k ++ [x]))) := by
          rw [blk_cell hq1]
          have : x = 0 ∨ x = 1 := by omega
          rcases this with rfl | rfl <;> rfl
        have f1 := blk_frozen hq1 (1 + x)
        have HF2 := Lib.hid F2
        have HT2 := Lib.hid T2
        have Hq1 := Lib.hid hq1
        have HC2 := Lib.hid c2
        clear T2 F2 hq1 hq2 c1 HT HF hg2 c2 hcont hfam hbit
        clear wr
        obtain ⟨o, ho⟩ : ∃ o, β v.p.v6 (pathOf v.p.addr k ++ [x]) = o := ⟨_, rfl⟩
        rw [ho] at k1
        cases o with
        | some q' =>
          rw [show ptr (some q') = .pointer (some ⟨q', 0, none⟩) from rfl] at k1
          have Ho := Lib.hid ho
          clear ho f1
          go_wp2
          go_roundw
          case rel => exact ⟨k + 1, q', by omega, by go_num, rfl, HC2.out, Lib.hid ⟨HF2.out, _, _, HT2.out, by rw [Hs.out]; exact Ho.out, Hnr.out⟩⟩
          case measure => simp [intOf]; omega
        | none =>
          rw [show ptr none = .pointer none from rfl] at k1
          have Ho := Lib.hid ho
          clear ho
          have hq2 := (heap_alloc_old W2 (.cells #[.slice none 0 0, .pointer none, .pointer none] 67) (heap_lt Hq1.out)).trans Hq1.out
          have hn2 := heap_alloc_new W2 (.cells #[.slice none 0 0, .pointer none, .pointer none] 67)
          have k2 := (blk_cell hq2 (1 + x)).trans ((blk_cell Hq1.out (1 + x)).symm.trans k1)
          have f2 := blk_frozen hq2 (1 + x)
          have Hq2 := Lib.hid hq2
          have Hn2 := Lib.hid hn2
          clear hq2 hn2
          go_wp2
          go_roundw
          case rel =>
            obtain ⟨⟨β3, σ3, hT3, hT4, hT5⟩, hF3⟩ := HT2.out.sprout_set Hq.out hx Ho.out (Nat.le_trans hbase HF2.out.size)
            exact ⟨k + 1, _, by omega, by go_num, rfl, hF3.blk HC2.out (fun e => by subst e; have := HC2.out.symm.trans Hq1.out; simp at this), Lib.hid ⟨HF2.out.trans hF3 (fun i hi => .inl (hi ▸ hq0)), β3, σ3, hT3, by rw [Hs.out]; exact hT4, fun hh => Hnr.out (hT5 _ hh)⟩⟩
          case measure => simp [intOf]; omega
      · obtain rfl : k = n := by omega
        have hvp : vpath v = pathOf v.p.addr k := by unfold vpath; rw [Hn.out]; rfl
        rw [← hvp] at hq
        obtain ⟨hq0, hq1, hq2⟩ := hT.node _ _ _ hq
        obtain ⟨A, c, hs, hA, hA1, hA2⟩ := hq2.at encV_length
        rw [hs] at hq1
        have hcall := fun (W : World) (hg : G wr W) => hcont A c W (hA.grow hg) hq2.len
        have k0 := gcell ((blk_cell hq1 0).trans rfl)
        have HF := Lib.hid hf
        have HT := Lib.hid hT
        have Hq := Lib.hid hq
        have Hq1 := Lib.hid hq1
        have HA := Lib.hid hA
        have Hs := Lib.hid hs
        clear hf hT hq hq1 hq2 hcont hfam hvp hA hs
        go_upto_region 10 with fail
        refine region_all (by kernel_rfl) (by kernel_rfl) ?_
        repeat (first | go_big_quiet_skip | (go_big_quiet_want; go_big_quiet_op; go_big_quiet_on))
        go_big_quiet_want; refine q_load 39 _ ⟨b, 0, none⟩ (arrV (v)) (at_blk c1) Try.underlying39 rfl (info39v (v)) rfl rfl ?_; go_big_quiet_on
        simp only [Act.put, List.setIfInBounds_toArray, List.set_cons_zero, List.set_cons_succ]
        repeat (first | go_big_quiet_skip | (go_big_quiet_want; go_big_quiet_op; go_big_quiet_on))
        go_big_quiet_want; go_big_quiet_op; refine ⟨_, fun g => cls (hcall _ (G.of wr g)), ?_⟩; go_big_quiet_on
        repeat (first | go_big_quiet_skip | (go_big_quiet_want; go_big_quiet_op; go_big_quiet_on))
        refine wpQuiet_nil ?_
        intro W1 hg1
        cases d
        · have T1 := HT.out.keep (hg1.f fun _ => False) (fun _ _ _ hh => hh)
          have F1 := HF.out.trans (hg1.f fun i => base ≤ i) (fun _ hh => .inl hh)
          have c2 := hg1.blk c1
          have HT1 := Lib.hid T1
          have HF1 := Lib.hid F1
          have Hq2 := Lib.hid (hg1.blk Hq1.out)
          clear T1 F1 c1 hcall HT HF Hq1 k0 hg1 HA
          clear wr
          go_upto_region 11 with fail
          have hown := (HT1.out.node _ _ _ Hq.out).2.2
          rw [Hs.out] at hown
          obtain ⟨S, hS⟩ : ∃ S : World → Prop, S = fun w' => F (fun i => (Value.slice A (here L v.p.v6 (vpath v)).length c).ownBlock = some i) W1 w' := ⟨_, rfl⟩
          have hqn : ¬ (Value.slice A (here L v.p.v6 (vpath v)).length c).ownBlock = some q := fun e => by
            obtain ⟨cur, hc⟩ := hown.ty e
            have := Hq2.out.symm.trans hc
            simp at this
          have hbn : ¬ (Value.slice A (here L v.p.v6 (vpath v)).length c).ownBlock = some b := fun e => Hnr.out ⟨v.p.v6, vpath v, by rw [Hq.out]; simp, by rw [Hs.out]; exact e⟩
          have ab : ∀ w', S w' → At w' ⟨b, 0, none⟩ (arrV v) := fun w' hw' => by subst hS; exact at_blk (F.blk hw' c2 hbn)
          have k0 := scell (S := S) (p := ⟨q, 0, none⟩) fun w' hw' => by subst hS; exact ((blk_cell (hw'.blk Hq2.out hqn) 0).trans rfl)
          refine region_MS S 10 [0, 1, 2, 3, 4, 5] (.one 6 (.one 7 (.one 8 (.one 9 (.one 10 .nil))))) 5 (by kernel_rfl) (by kernel_rfl) (by kernel_rfl) (by decide) (by kernel_rfl) (by kernel_rfl) (fun _ _ d _ _ h => by cases d <;> exact h) ?_ ?_
          · subst hS; exact ((G.refl W1).drew).f _
          have ne : Nonempty (Cl S) := ⟨⟨W1, by subst hS; exact F.refl _ _⟩⟩
          have HS := Lib.hid hS
          clear hS
          change wpQuiet _ _ _ _ [_, _, _, _, _, _] _
          repeat (first | go_big_quiet_skip | (go_big_quiet_want; go_big_quiet_op; go_big_quiet_on))
          go_big_quiet_want; refine q_loadS 39 _ ⟨b, 0, none⟩ (arrV (v)) ab Try.underlying39 rfl (info39v (v)) rfl rfl ?_; go_big_quiet_on
          simp only [Act.put, List.setIfInBounds_toArray, List.set_cons_zero, List.set_cons_succ]
          repeat (first | go_big_quiet_skip | (go_big_quiet_want; go_big_quiet_op; go_big_quiet_on))
          refine wpQuiet_nil ?_
          have hg2 := (G.refl W1).drew
          have hT2 := HT1.out.keep (hg2.f fun _ => False) (fun _ _ _ hh => hh)
          have hF2 := HF1.out.trans (hg2.f fun i => base ≤ i) (fun _ hh => .inl hh)
          have hq2 := hg2.blk Hq2.out
          have hS2 : S W1.drew := by have hS := HS.out; subst hS; exact hg2.f _
          clear c2 hg2 HT1 HF1 Hq2 k0
          generalize W1.drew = W2 at *
          refine wpTrM_one (o := ⟨_, _, _, _, _, _⟩) rfl (fun _ => hS2) (fun K hK => ?_)
          rw [if_pos (by rfl)]
          refine wp_build1V _ v rfl rfl (hK _ _ (fun _ => ?_) ?_)
          · have hS := HS.out; subst hS; exact hS2.trans (F.alloc (fun _ => False) W2 _) (fun _ hh => hh.elim)
          clear hK
          clear K
          have b3 := heap_alloc_new W2 (.cells (arrV v) 39)
          have hq3 := (heap_alloc_old W2 (.cells (arrV v) 39) (heap_lt hq2)).trans hq2
          have hT3 := hT2.keep (F.alloc (fun _ => False) W2 (.cells (arrV v) 39)) (fun _ _ _ hh => hh)
          have hF3 := hF2.trans (F.alloc (fun i => base ≤ i) W2 (.cells (arrV v) 39)) (fun _ hh => .inl hh)
          have hS3 : S (W2.alloc (.cells (arrV v) 39)) := by have hS := HS.out; subst hS; exact hS2.trans (F.alloc (fun _ => False) W2 _) (fun _ hh => hh.elim)
          generalize W2.heap.size = nb at *
          generalize W2.alloc (.cells (arrV v) 39) = W3 at *
          clear hT2 hF2 hq2 hS2
          clear W2
          simp only [Act.put, List.setIfInBounds_toArray, List.set_cons_zero, List.set_cons_succ]
          have hown := (hT3.node _ _ _ Hq.out).2.2
          rw [Hs.out] at hown
          refine wpTrM_one (o := ⟨_, _, _, _, _, _⟩) rfl (fun _ => hS3) (fun K hK => ?_)
          rw [if_pos (by rfl)]
          refine wp_appV _ _ base _ _ [v] (some ⟨nb, 0, none⟩) 1 hown (rd_one b3) (Nat.le_trans hbase hF3.size) ?_ rfl rfl rfl ?_
          · have hle : (here L v.p.v6 (vpath v)).length ≤ L.length := List.length_filter_le _ _
            have := HB.out
            simp only [List.length_singleton]
            omega
          intro nv W4 ho4 hf4 hn4
          obtain ⟨A4, c4, hnv⟩ := ho4.form
          generalize (here L v.p.v6 (vpath v) ++ [v]).length = n4 at hnv
          have hS4 : S W4 := by have hS := HS.out; subst hS; exact hS3.trans hf4 (fun _ hh => .inl hh)
          refine hK _ _ (fun _ => hS4) ?_
          clear hK
          clear K
          simp only [Act.put, List.setIfInBounds_toArray, List.set_cons_zero, List.set_cons_succ]
          refine wpTrM_q (o := ⟨_, _, _, _, _, _⟩) rfl (fun _ => hS4) (by rfl) ?_
          go_big_quiet_op
          refine wpTrM_q (o := ⟨_, _, _, _, _, _⟩) rfl (fun _ => hS4) (by rfl) ?_
          go_big_quiet_op
          refine wpTrM_last (o := ⟨_, _, _, _, _, _⟩) rfl (by decide) ?_
          have hqn' : ¬ (Value.slice A (here L v.p.v6 (vpath v)).length c).ownBlock = some q := hqn
          have hbt : ¬ (Value.slice A (here L v.p.v6 (vpath v)).length c).ownBlock = some bt := fun e => by
            obtain ⟨cur, hc⟩ := hown.ty e
            have := hT3.top.symm.trans hc
            simp at this
          have hqb : q ≠ bt := fun e => by
            subst e
            have := hT3.top.symm.trans hq3
            simp at this
          have hq4 := hf4.blk hq3 hqn
          have ht4 := hf4.blk hT3.top hbt
          have hl : L.length < 140737488355328 := by have := HB.out; omega
          have hq5 := blk_set hq4 0 nv
          have ht5 := blk_far ht4 (p := ⟨q, 0, none⟩) (Ne.symm hqb) nv
          have hq6 := blk_far hq5 (p := ⟨bt, 2, none⟩) hqb (.int .i64 (L.length + 1))
          have ht6 := blk_set ht5 2 (.int .i64 (L.length + 1))
          have hF56 : F (fun i => i = q ∨ i = bt) W4 ((W4.setCell ⟨q, 0, none⟩ nv).setCell ⟨bt, 2, none⟩ (.int .i64 (L.length + 1))) :=
            (F.setc W4 (m := fun i => i = q ∨ i = bt) (p := ⟨q, 0, none⟩) (.inl rfl) nv).trans (F.setc _ (m := fun i => i = q ∨ i = bt) (p := ⟨bt, 2, none⟩) (.inr rfl) _) (fun _ h => .inl h)
          have hF6 : F (fun i => i = q ∨ i = bt ∨ (Value.slice A (here L v.p.v6 (vpath v)).length c).ownBlock = some i) W3 ((W4.setCell ⟨q, 0, none⟩ nv).setCell ⟨bt, 2, none⟩ (.int .i64 (L.length + 1))) :=
            (hf4.mono (m' := fun i => i = q ∨ i = bt ∨ (Value.slice A (here L v.p.v6 (vpath v)).length c).ownBlock = some i) fun i _ h => .inr (.inr h)).trans hF56 fun i h => h.elim (fun h => .inl (.inl h)) (fun h => .inl (.inr (.inl h)))
          have ho6 : OwnV ((W4.setCell ⟨q, 0, none⟩ nv).setCell ⟨bt, 2, none⟩ (.int .i64 (L.length + 1))) base nv (here L v.p.v6 (vpath v) ++ [v]) := ho4.keep hF56 fun g hg hh => by
            obtain ⟨cur, hc⟩ := ho4.ty hg
            rcases hh with rfl | rfl
            · have := hq4.symm.trans hc; simp at this
            · have := ht4.symm.trans hc; simp at this
          have hbase3 : base ≤ W3.heap.size := Nat.le_trans hbase hF3.size
          have hnin : v ∉ L := fun h => by have := Hd.out; simp [h] at this
          have hfin : TrieIs ((W4.setCell ⟨q, 0, none⟩ nv).setCell ⟨bt, 2, none⟩ (.int .i64 (L.length + 1))) base bt (ins L v) := by
            rw [show ins L v = L ++ [v] by unfold ins; rw [if_neg hnin]]
            refine hT3.more Hq.out hnin (by rw [Hs.out]; exact hF6) (by rw [hq6]; rfl) (by rw [ht6]; rfl) ho6 (by rw [Hs.out]; exact hn4)
          have hFin : F (fun i => base ≤ i) w ((W4.setCell ⟨q, 0, none⟩ nv).setCell ⟨bt, 2, none⟩ (.int .i64 (L.length + 1))) :=
            hF3.trans hF6 fun i h => .inl (by
              rcases h with rfl | rfl | h
              · exact hq0
              · exact hT3.lo
              · exact (hown.block h).1)
          have k4 := (blk_cell hq4 0).trans rfl
          have f4 := blk_frozen hq4 0
          have k5 := (blk_cell ht5 2).trans rfl
          have f5 := blk_frozen ht5 2
          have HFin := Lib.hid hFin
          have Hfin := Lib.hid hfin
          subst hnv
          clear hFin hfin hF6 hF56 ho6 ht6 hq6 ht5 hq5 ht4 hq4 hn4 hf4 ho4 b3 hS3 hF3 hT3 hq3 hS4 ab ne hown hnin hqb hbt
          go_wp2
          refine bodyPost_end (results_none rfl _ _ _) rfl ?_
          exact ⟨rfl, Hfin.out, HFin.out⟩
        · have hin : v ∈ L := by have := Hd.out; simpa using this.symm
          have hins : ins L v = L := by unfold ins; rw [if_pos hin]
          have hT1 : TrieIs W1 base bt (ins L v) := by rw [hins]; exact ⟨β, σ, HT.out.keep (hg1.f fun _ => False) (fun _ _ _ hh => hh)⟩
          have hF1 := HF.out.trans (hg1.f fun i => base ≤ i) (fun _ hh => .inl hh)
          have HT1 := Lib.hid hT1
          have HF1 := Lib.hid hF1
          clear hT1 hF1 hins hin c1 hcall HT HF Hq1 k0 hg1 HA
          go_wp2
          refine bodyPost_ret (results_none rfl _ _ _) rfl ?_
          exact ⟨rfl, HT1.out, HF1.out⟩
  ·
    rw [if_pos (by simp)] at hfam
    go_enter Try.func38, Try.ntmps38
    go_upto_region 1 with fail
    have bx := heap_alloc_new w (.cells (arrV v) 39)
    have g0 := (G.refl w).alloc (.cells (arrV v) 39)
    obtain ⟨b, hb⟩ : ∃ b, w.heap.size = b := ⟨_, rfl⟩
    have hb0 : base ≤ b := by omega
    have hnr : ¬ RowOf βx σx b := fun hh => by have := (hTx.row_lt hh).2; omega
    have Hnr := Lib.hid hnr
    clear hnr
    rw [hb] at bx ⊢
    clear hb
    generalize w.alloc (.cells (arrV v) 39) = W at *
    replace hTx := hTx.keep (g0.f fun _ => False) (fun _ _ _ hh => hh)
    have k0 := gcell ((blk_cell hTx.top 1).trans rfl)
    rw [hr] at k0
    have HT := Lib.hid hTx
    have Hr := Lib.hid hr
    clear hTx hr
    refine region_all (by kernel_rfl) (by kernel_rfl) ?_
    repeat (first | go_big_quiet_skip | (go_big_quiet_want; go_big_quiet_op; go_big_quiet_on))
    go_big_quiet_want; refine q_load 25 _ ⟨b, 1, none⟩ (arrP (v.p)) (at_ext bx 1 19 (arrV_ext v)) Try.underlying25 rfl (info25p (v.p)) rfl rfl ?_; go_big_quiet_on
    simp only [Act.put, List.setIfInBounds_toArray, List.set_cons_zero, List.set_cons_succ]
    repeat (first | go_big_quiet_skip | (go_big_quiet_want; go_big_quiet_op; go_big_quiet_on))
    go_big_quiet_want; go_big_quiet_op; refine ⟨_, fun g => cls (hfam _), ?_⟩; go_big_quiet_on
    repeat (first | go_big_quiet_skip | (go_big_quiet_want; go_big_quiet_op; go_big_quiet_on))
    refine wpQuiet_nil ?_
    intro W1 hg1
    have c1 := hg1.blk bx
    have g1 := g0.trans hg1
    have HT1 := Lib.hid (HT.out.keep (hg1.f fun _ => False) (fun _ _ _ hh => hh))
    clear bx g0 hg1 k0 HT
    clear W
    have k18 := (blk_cell c1 18).trans (arrV_18 v)
    rw [Hn.out] at k18
    have e0 : ptr (some r) = .pointer (some ⟨r, 0, none⟩) := rfl
    rw [e0]
    clear e0
    go_wp2
    clear k18
    go_loopw [4, 5, 6, 18, 19, 20, 21, 22, 23, 24, 25, 26, 27, 28, 29, 30, 31, 32, 33, 34, 35, 36, 37, 38, 39, 40] (fun pb _ _ i _ _ _ _ _ _ _ _ _ _ _ _ _ _ _ _ _ _ _ _ _ _ wr => ∃ k q : Nat, k ≤ n ∧ i = .int .i64 k ∧ pb = .pointer (some ⟨q, 0, none⟩) ∧ wr.heap[b]? = some (.cells (arrV v) 39 (0, 0)) ∧ Hid (F (fun i => base ≤ i) w wr ∧ ∃ β σ, TB wr base bt β σ L ∧ β v.p.v6 (pathOf v.p.addr k) = some q ∧ ¬ RowOf β σ b)) (fun pb _ _ i _ _ _ _ _ _ _ _ _ _ _ _ _ _ _ _ _ _ _ _ _ _ _ => n - (intOf i).toNat)
    case atStart => exact ⟨0, r, by omega, rfl, rfl, c1, Lib.hid ⟨g1.f _, _, _, HT1.out, by rw [Hκ.out]; exact Hr.out, Hnr.out⟩⟩
    case round =>
      clear c1 g1 HT1 Hr Hnr
      obtain ⟨k, q, hk, rfl, rfl, c1, Hrel⟩ := hrel
      obtain ⟨hf, β, σ, hT, hq, hnr⟩ := Hrel.out
      have Hnr := Lib.hid hnr
      clear Hrel hnr
      by_cases hlt : k < n
      · have hsucc := pathOf_succ v.p.addr k
        have hbit := fun W => tbit_any v.p k (by omega) W
        have hx := bit_lt v.p.addr k
        generalize bit v.p.addr k = x at *
        have HF := Lib.hid hf
        have HT := Lib.hid hT
        have Hq := Lib.hid hq
        have Hs := Lib.hid hsucc
        clear hf hT hq hsucc
        go_upto_region 5 with fail
        refine region_all (by kernel_rfl) (by kernel_rfl) ?_
        repeat (first | go_big_quiet_skip | (go_big_quiet_want; go_big_quiet_op; go_big_quiet_on))
        go_big_quiet_want; refine q_load 25 _ ⟨b, 1, none⟩ (arrP (v.p)) (at_ext c1 1 19 (arrV_ext v)) Try.underlying25 rfl (info25p (v.p)) rfl rfl ?_; go_big_quiet_on
        simp only [Act.put, List.setIfInBounds_toArray, List.set_cons_zero, List.set_cons_succ]
        repeat (first | go_big_quiet_skip | (go_big_quiet_want; go_big_quiet_op; go_big_quiet_on))
        go_big_quiet_want; go_big_quiet_op; refine ⟨_, fun g => cls (hbit _), ?_⟩; go_big_quiet_on
        repeat (first | go_big_quiet_skip | (go_big_quiet_want; go_big_quiet_op; go_big_quiet_on))
        refine wpQuiet_nil ?_
        intro W2 hg2
        have c2 := hg2.blk c1
        have T2 := HT.out.keep (hg2.f fun _ => False) (fun _ _ _ hh => hh)
        have F2 := HF.out.trans (hg2.f fun i => base ≤ i) (fun _ hh => .inl hh)
        obtain ⟨hq0, hq1, hq2⟩ := T2.node _ _ _ Hq.out
        have k1 : W2.cell? ⟨q, 1 + x, none⟩ = some (ptr (β v.p.v6 (pathOf v.p.addr k ++ [x]))) := by
          rw [blk_cell hq1]
          have : x = 0 ∨ x = 1 := by omega
          rcases this with rfl | rfl <;> rfl
        have f1 := blk_frozen hq1 (1 + x)
        have HF2 := Lib.hid F2
        have HT2 := Lib.hid T2
        have Hq1 := Lib.hid hq1
        have HC2 := Lib.hid c2
        clear T2 F2 hq1 hq2 c1 HT HF hg2 c2 hcont hfam hbit
        clear wr
        obtain ⟨o, ho⟩ : ∃ o, β v.p.v6 (pathOf v.p.addr k ++ [x]) = o := ⟨_, rfl⟩
        rw [ho] at k1
        cases o with
        | some q' =>
          rw [show ptr (some q') = .pointer (some ⟨q', 0, none⟩) from rfl] at k1
          have Ho := Lib.hid ho
          clear ho f1
          go_wp2
          go_roundw
          case rel => exact ⟨k + 1, q', by omega, by go_num, rfl, HC2.out, Lib.hid ⟨HF2.out, _, _, HT2.out, by rw [Hs.out]; exact Ho.out, Hnr.out⟩⟩
          case measure => simp [intOf]; omega
        | none =>
          rw [show ptr none = .pointer none from rfl] at k1
          have Ho := Lib.hid ho
          clear ho
          have hq2 := (heap_alloc_old W2 (.cells #[.slice none 0 0, .pointer none, .pointer none] 67) (heap_lt Hq1.out)).trans Hq1.out
          have hn2 := heap_alloc_new W2 (.cells #[.slice none 0 0, .pointer none, .pointer none] 67)
          have k2 := (blk_cell hq2 (1 + x)).trans ((blk_cell Hq1.out (1 + x)).symm.trans k1)
          have f2 := blk_frozen hq2 (1 + x)
          have Hq2 := Lib.hid hq2
          have Hn2 := Lib.hid hn2
          clear hq2 hn2
          go_wp2
          go_roundw
          case rel =>
            obtain ⟨⟨β3, σ3, hT3, hT4, hT5⟩, hF3⟩ := HT2.out.sprout_set Hq.out hx Ho.out (Nat.le_trans hbase HF2.out.size)
            exact ⟨k + 1, _, by omega, by go_num, rfl, hF3.blk HC2.out (fun e => by subst e; have := HC2.out.symm.trans Hq1.out; simp at this), Lib.hid ⟨HF2.out.trans hF3 (fun i hi => .inl (hi ▸ hq0)), β3, σ3, hT3, by rw [Hs.out]; exact hT4, fun hh => Hnr.out (hT5 _ hh)⟩⟩
          case measure => simp [intOf]; omega
      · obtain rfl : k = n := by omega
        have hvp : vpath v = pathOf v.p.addr k := by unfold vpath; rw [Hn.out]; rfl
        rw [← hvp] at hq
        obtain ⟨hq0, hq1, hq2⟩ := hT.node _ _ _ hq
        obtain ⟨A, c, hs, hA, hA1, hA2⟩ := hq2.at encV_length
        rw [hs] at hq1
        have hcall := fun (W : World) (hg : G wr W) => hcont A c W (hA.grow hg) hq2.len
        have k0 := gcell ((blk_cell hq1 0).trans rfl)
        have HF := Lib.hid hf
        have HT := Lib.hid hT
        have Hq := Lib.hid hq
        have Hq1 := Lib.hid hq1
        have HA := Lib.hid hA
        have Hs := Lib.hid hs
        clear hf hT hq hq1 hq2 hcont hfam hvp hA hs
        go_upto_region 10 with fail
        refine region_all (by kernel_rfl) (by kernel_rfl) ?_
        repeat (first | go_big_quiet_skip | (go_big_quiet_want; go_big_quiet_op; go_big_quiet_on))
        go_big_quiet_want; refine q_load 39 _ ⟨b, 0, none⟩ (arrV (v)) (at_blk c1) Try.underlying39 rfl (info39v (v)) rfl rfl ?_; go_big_quiet_on
        simp only [Act.put, List.setIfInBounds_toArray, List.set_cons_zero, List.set_cons_succ]
        repeat (first | go_big_quiet_skip | (go_big_quiet_want; go_big_quiet_op; go_big_quiet_on))
        go_big_quiet_want; go_big_quiet_op; refine ⟨_, fun g => cls (hcall _ (G.of wr g)), ?_⟩; go_big_quiet_on
        repeat (first | go_big_quiet_skip | (go_big_quiet_want; go_big_quiet_op; go_big_quiet_on))
        refine wpQuiet_nil ?_
        intro W1 hg1
        cases d
        · have T1 := HT.out.keep (hg1.f fun _ => False) (fun _ _ _ hh => hh)
          have F1 := HF.out.trans (hg1.f fun i => base ≤ i) (fun _ hh => .inl hh)
          have c2 := hg1.blk c1
          have HT1 := Lib.hid T1
          have HF1 := Lib.hid F1
          have Hq2 := Lib.hid (hg1.blk Hq1.out)
          clear T1 F1 c1 hcall HT HF Hq1 k0 hg1 HA
          clear wr
          go_upto_region 11 with fail
          have hown := (HT1.out.node _ _ _ Hq.out).2.2
          rw [Hs.out] at hown
          obtain ⟨S, hS⟩ : ∃ S : World → Prop, S = fun w' => F (fun i => (Value.slice A (here L v.p.v6 (vpath v)).length c).ownBlock = some i) W1 w' := ⟨_, rfl⟩
          have hqn : ¬ (Value.slice A (here L v.p.v6 (vpath v)).length c).ownBlock = some q := fun e => by
            obtain ⟨cur, hc⟩ := hown.ty e
            have := Hq2.out.symm.trans hc
            simp at this
          have hbn : ¬ (Value.slice A (here L v.p.v6 (vpath v)).length c).ownBlock = some b := fun e => Hnr.out ⟨v.p.v6, vpath v, by rw [Hq.out]; simp, by rw [Hs.out]; exact e⟩
          have ab : ∀ w', S w' → At w' ⟨b, 0, none⟩ (arrV v) := fun w' hw' => by subst hS; exact at_blk (F.blk hw' c2 hbn)
          have k0 := scell (S := S) (p := ⟨q, 0, none⟩) fun w' hw' => by subst hS; exact ((blk_cell (hw'.blk Hq2.out hqn) 0).trans rfl)
          refine region_MS S 10 [0, 1, 2, 3, 4, 5] (.one 6 (.one 7 (.one 8 (.one 9 (.one 10 .nil))))) 5 (by kernel_rfl) (by kernel_rfl) (by kernel_rfl) (by decide) (by kernel_rfl) (by kernel_rfl) (fun _ _ d _ _ h => by cases d <;> exact h) ?_ ?_
          · subst hS; exact ((G.refl W1).drew).f _
          have ne : Nonempty (Cl S) := ⟨⟨W1, by subst hS; exact F.refl _ _⟩⟩
          have HS := Lib.hid hS
          clear hS
          change wpQuiet _ _ _ _ [_, _, _, _, _, _] _
          repeat (first | go_big_quiet_skip | (go_big_quiet_want; go_big_quiet_op; go_big_quiet_on))
          go_big_quiet_want; refine q_loadS 39 _ ⟨b, 0, none⟩ (arrV (v)) ab Try.underlying39 rfl (info39v (v)) rfl rfl ?_; go_big_quiet_on
          simp only [Act.put, List.setIfInBounds_toArray, List.set_cons_zero, List.set_cons_succ]
          repeat (first | go_big_quiet_skip | (go_big_quiet_want; go_big_quiet_op; go_big_quiet_on))
          refine wpQuiet_nil ?_
          have hg2 := (G.refl W1).drew
          have hT2 := HT1.out.keep (hg2.f fun _ => False) (fun _ _ _ hh => hh)
          have hF2 := HF1.out.trans (hg2.f fun i => base ≤ i) (fun _ hh => .inl hh)
          have hq2 := hg2.blk Hq2.out
          have hS2 : S W1.drew := by have hS := HS.out; subst hS; exact hg2.f _
          clear c2 hg2 HT1 HF1 Hq2 k0
          generalize W1.drew = W2 at *
          refine wpTrM_one (o := ⟨_, _, _, _, _, _⟩) rfl (fun _ => hS2) (fun K hK => ?_)
          rw [if_pos (by rfl)]
          refine wp_build1V _ v rfl rfl (hK _ _ (fun _ => ?_) ?_)
          · have hS := HS.out; subst hS; exact hS2.trans (F.alloc (fun _ => False) W2 _) (fun _ hh => hh.elim)
          clear hK
          clear K
          have b3 := heap_alloc_new W2 (.cells (arrV v) 39)
          have hq3 := (heap_alloc_old W2 (.cells (arrV v) 39) (heap_lt hq2)).trans hq2
          have hT3 := hT2.keep (F.alloc (fun _ => False) W2 (.cells (arrV v) 39)) (fun _ _ _ hh => hh)
          have hF3 := hF2.trans (F.alloc (fun i => base ≤ i) W2 (.cells (arrV v) 39)) (fun _ hh => .inl hh)
          have hS3 : S (W2.alloc (.cells (arrV v) 39)) := by have hS := HS.out; subst hS; exact hS2.trans (F.alloc (fun _ => False) W2 _) (fun _ hh => hh.elim)
          generalize W2.heap.size = nb at *
          generalize W2.alloc (.cells (arrV v) 39) = W3 at *
          clear hT2 hF2 hq2 hS2
          clear W2
          simp only [Act.put, List.setIfInBounds_toArray, List.set_cons_zero, List.set_cons_succ]
          have hown := (hT3.node _ _ _ Hq.out).2.2
          rw [Hs.out] at hown
          refine wpTrM_one (o := ⟨_, _, _, _, _, _⟩) rfl (fun _ => hS3) (fun K hK => ?_)
          rw [if_pos (by rfl)]
          refine wp_appV _ _ base _ _ [v] (some ⟨nb, 0, none⟩) 1 hown (rd_one b3) (Nat.le_trans hbase hF3.size) ?_ rfl rfl rfl ?_
          · have hle : (here L v.p.v6 (vpath v)).length ≤ L.length := List.length_filter_le _ _
            have := HB.out
            simp only [List.length_singleton]
            omega
          intro nv W4 ho4 hf4 hn4
          obtain ⟨A4, c4, hnv⟩ := ho4.form
          generalize (here L v.p.v6 (vpath v) ++ [v]).length = n4 at hnv
          have hS4 : S W4 := by have hS := HS.out; subst hS; exact hS3.trans hf4 (fun _ hh => .inl hh)
          refine hK _ _ (fun _ => hS4) ?_
          clear hK
          clear K
          simp only [Act.put, List.setIfInBounds_toArray, List.set_cons_zero, List.set_cons_succ]
          refine wpTrM_q (o := ⟨_, _, _, _, _, _⟩) rfl (fun _ => hS4) (by rfl) ?_
          go_big_quiet_op
          refine wpTrM_q (o := ⟨_, _, _, _, _, _⟩) rfl (fun _ => hS4) (by rfl) ?_
          go_big_quiet_op
          refine wpTrM_last (o := ⟨_, _, _, _, _, _⟩) rfl (by decide) ?_
          have hqn' : ¬ (Value.slice A (here L v.p.v6 (vpath v)).length c).ownBlock = some q := hqn
          have hbt : ¬ (Value.slice A (here L v.p.v6 (vpath v)).length c).ownBlock = some bt := fun e => by
            obtain ⟨cur, hc⟩ := hown.ty e
            have := hT3.top.symm.trans hc
            simp at this
          have hqb : q ≠ bt := fun e => by
            subst e
            have := hT3.top.symm.trans hq3
            simp at this
          have hq4 := hf4.blk hq3 hqn
          have ht4 := hf4.blk hT3.top hbt
          have hl : L.length < 140737488355328 := by have := HB.out; omega
          have hq5 := blk_set hq4 0 nv
          have ht5 := blk_far ht4 (p := ⟨q, 0, none⟩) (Ne.symm hqb) nv
          have hq6 := blk_far hq5 (p := ⟨bt, 2, none⟩) hqb (.int .i64 (L.length + 1))
          have ht6 := blk_set ht5 2 (.int .i64 (L.length + 1))
          have hF56 : F (fun i => i = q ∨ i = bt) W4 ((W4.setCell ⟨q, 0, none⟩ nv).setCell ⟨bt, 2, none⟩ (.int .i64 (L.length + 1))) :=
            (F.setc W4 (m := fun i => i = q ∨ i = bt) (p := ⟨q, 0, none⟩) (.inl rfl) nv).trans (F.setc _ (m := fun i => i = q ∨ i = bt) (p := ⟨bt, 2, none⟩) (.inr rfl) _) (fun _ h => .inl h)
          have hF6 : F (fun i => i = q ∨ i = bt ∨ (Value.slice A (here L v.p.v6 (vpath v)).length c).ownBlock = some i) W3 ((W4.setCell ⟨q, 0, none⟩ nv).setCell ⟨bt, 2, none⟩ (.int .i64 (L.length + 1))) :=
            (hf4.mono (m' := fun i => i = q ∨ i = bt ∨ (Value.slice A (here L v.p.v6 (vpath v)).length c).ownBlock = some i) fun i _ h => .inr (.inr h)).trans hF56 fun i h => h.elim (fun h => .inl (.inl h)) (fun h => .inl (.inr (.inl h)))
          have ho6 : OwnV ((W4.setCell ⟨q, 0, none⟩ nv).setCell ⟨bt, 2, none⟩ (.int .i64 (L.length + 1))) base nv (here L v.p.v6 (vpath v) ++ [v]) := ho4.keep hF56 fun g hg hh => by
            obtain ⟨cur, hc⟩ := ho4.ty hg
            rcases hh with rfl | rfl
            · have := hq4.symm.trans hc; simp at this
            · have := ht4.symm.trans hc; simp at this
          have hbase3 : base ≤ W3.heap.size := Nat.le_trans hbase hF3.size
          have hnin : v ∉ L := fun h => by have := Hd.out; simp [h] at this
          have hfin : TrieIs ((W4.setCell ⟨q, 0, none⟩ nv).setCell ⟨bt, 2, none⟩ (.int .i64 (L.length + 1))) base bt (ins L v) := by
            rw [show ins L v = L ++ [v] by unfold ins; rw [if_neg hnin]]
            refine hT3.more Hq.out hnin (by rw [Hs.out]; exact hF6) (by rw [hq6]; rfl) (by rw [ht6]; rfl) ho6 (by rw [Hs.out]; exact hn4)
          have hFin : F (fun i => base ≤ i) w ((W4.setCell ⟨q, 0, none⟩ nv).setCell ⟨bt, 2, none⟩ (.int .i64 (L.length + 1))) :=
            hF3.trans hF6 fun i h => .inl (by
              rcases h with rfl | rfl | h
              · exact hq0
              · exact hT3.lo
              · exact (hown.block h).1)
          have k4 := (blk_cell hq4 0).trans rfl
          have f4 := blk_frozen hq4 0
          have k5 := (blk_cell ht5 2).trans rfl
          have f5 := blk_frozen ht5 2
          have HFin := Lib.hid hFin
          have Hfin := Lib.hid hfin
          subst hnv
          clear hFin hfin hF6 hF56 ho6 ht6 hq6 ht5 hq5 ht4 hq4 hn4 hf4 ho4 b3 hS3 hF3 hT3 hq3 hS4 ab ne hown hnin hqb hbt
          go_wp2
          refine bodyPost_end (results_none rfl _ _ _) rfl ?_
          exact ⟨rfl, Hfin.out, HFin.out⟩
        · have hin : v ∈ L := by have := Hd.out; simpa using this.symm
          have hins : ins L v = L := by unfold ins; rw [if_pos hin]
          have hT1 : TrieIs W1 base bt (ins L v) := by rw [hins]; exact ⟨β, σ, HT.out.keep (hg1.f fun _ => False) (fun _ _ _ hh => hh)⟩
          have hF1 := HF.out.trans (hg1.f fun i => base ≤ i) (fun _ hh => .inl hh)
          have HT1 := Lib.hid hT1
          have HF1 := Lib.hid hF1
          clear hT1 hF1 hins hin c1 hcall HT HF Hq1 k0 hg1 HA
          go_wp2
          refine bodyPost_ret (results_none rfl _ _ _) rfl ?_
          exact ⟨rfl, HT1.out, HF1.out⟩
end Go.Proofs.Ytedgbmibgddnkaa
