/- The same for the closure that answers. -/
import Derived.Test.YtedgbmibgddnkaaP2
import Derived.Test.YtedgbmibgddnkaaY
namespace Go.Proofs.Ytedgbmibgddnkaa
open Go.RowKit Ad
set_option linter.unusedSimpArgs false
set_option linter.unusedVariables false
set_option maxRecDepth 100000
set_option maxHeartbeats 2000000
section
variable {α : Type}
theorem way_answer (base bt : Nat) (L : List Vrp) (p : Pfx) (w0 w : World) (cap cap2 cap3 : Value) (go : α → Vrp → Bool) (nxt : α → Vrp → α) (J : α → (Nat → Prop) → World → Prop) (acc : α) (m : Nat → Prop)
    (hT : TrieIs w0 base bt L) (hG : G w0 w) (hm : ∀ i, m i → w0.heap.size ≤ i ∧ i < w.heap.size) (hJ : J acc m w)
    (hJg : ∀ acc m W W', J acc m W → G W W' → J acc m W')
    (B : α → List Vrp → Prop) (hB0 : B acc (wayL L p)) (hB : ∀ acc x l, B acc (x :: l) → go acc x = true → B (nxt acc x) l)
    (hcl : ∀ acc m W x l, B acc (x :: l) → J acc m W → Calls Try.prog 45 #[.agg (arrV x), cap, cap2, cap3] W fun e w' => e = .returned (.bool (go acc x)) ∧ ∃ m', J (nxt acc x) m' w' ∧ F m W w' ∧ (∀ i, m' i → m i ∨ W.heap.size ≤ i)) :
    Calls Try.prog 39 #[.pointer (some ⟨bt, 0, none⟩), .agg (arrP p), .func (.func 45) #[] #[cap, cap2, cap3]] w fun e w' => e = .returned undef ∧ ∃ m', J (runTo go nxt acc (wayL L p)) m' w' ∧ F m w w' ∧ (∀ i, m' i → m i ∨ w.heap.size ≤ i) := by
  obtain ⟨fin, hfin⟩ : ∃ fin, runTo go nxt acc (wayL L p) = fin := ⟨_, rfl⟩
  rw [hfin]
  have Hfin0 := Lib.hid (show p.right = false → fin = acc by
    intro h; rw [← hfin]; unfold wayL; rw [if_neg (by simp [h])]; rfl)
  have Hfin1 := Lib.hid (show p.right = true → Rn go nxt B fin acc (restL L p.v6 p.addr p.len.toNat 0) by
    intro h
    have e : wayL L p = restL L p.v6 p.addr p.len.toNat 0 := by unfold wayL; rw [if_pos h]
    rw [← e]; exact ⟨hfin, hB0⟩)
  clear hfin
  have hright := fun W => right_any p W
  obtain ⟨d, hd⟩ : ∃ d, p.right = d := ⟨_, rfl⟩
  rw [hd] at hright
  have Hd := Lib.hid hd
  clear hd
  obtain ⟨κ, hκ⟩ : ∃ κ, p.v6 = κ := ⟨_, rfl⟩
  have Hκ := Lib.hid hκ
  have hfam := fun W => family_any p W
  have hlit : (if p.v6 = true then (1 : Int) else 0) = if κ then 1 else 0 := by rw [hκ]
  rw [hlit] at hfam
  clear hκ hlit
  obtain ⟨β, σ, hTx⟩ := hT
  obtain ⟨r, hr⟩ := hTx.root κ
  cases κ
  ·
    rw [if_neg (by simp)] at hfam
    go_enter Try.func39, Try.ntmps39
    go_upto_region 1 with fail
    have bx := heap_alloc_new w (.cells (arrP p) 25)
    have gx := (G.refl w).alloc (.cells (arrP p) 25)
    have hJx := hJg acc m w (w.alloc (.cells (arrP p) 25)) hJ gx
    obtain ⟨b, hb⟩ : ∃ b, w.heap.size = b := ⟨_, rfl⟩
    have hmb : ¬ m b := fun h => by have := (hm b h).2; omega
    have Hmb := Lib.hid hmb
    clear hmb
    rw [hb] at bx ⊢
    clear hb
    generalize w.alloc (.cells (arrP p) 25) = W at *
    refine region_seq ?_
    go_big_quiet_want; refine q_load 25 _ ⟨b, 0, none⟩ (arrP (p)) (at_blk bx) Try.underlying25 rfl (info25p (p)) rfl rfl ?_; go_big_quiet_on
    simp only [Act.put, List.setIfInBounds_toArray, List.set_cons_zero, List.set_cons_succ]
    go_big_quiet_want; go_big_quiet_op; refine ⟨_, fun g => cls (hright _), ?_⟩; go_big_quiet_on
    repeat (first | go_big_quiet_skip | (go_big_quiet_want; go_big_quiet_op; go_big_quiet_on))
    refine wpQuiet_nil ?_
    intro W1 hg1
    have c1 := hg1.blk bx
    have g1 := gx.trans hg1
    have hJ1 := hJg acc m W W1 hJx hg1
    clear bx gx hJx hg1
    clear W
    cases d
    · have hfin := (Hfin0.out Hd.out).symm
      subst hfin
      have HJ1 := Lib.hid hJ1
      have HF1 := Lib.hid (g1.f m)
      clear hJ1 g1 c1
      go_wp2
      refine bodyPost_ret (results_none rfl _ _ _) rfl ?_
      exact ⟨rfl, m, HJ1.out, HF1.out, fun i h => .inl h⟩
    · simp only [Bool.not_true]
      obtain ⟨n, hn⟩ := Int.eq_ofNat_of_zero_le ((right_iff p).1 Hd.out).1
      have hn128 : n ≤ 128 := by have := ((right_iff p).1 Hd.out).2.1; have := most_le p.v6; omega
      have Hn := Lib.hid hn
      have k17 := (blk_cell c1 17).trans (arrP_17 p)
      rw [hn] at k17
      clear hn
      have hf1 := Hfin1.out Hd.out
      rw [show restL L p.v6 p.addr p.len.toNat 0 = restL L p.v6 p.addr n 0 by rw [Hn.out]; rfl] at hf1
      have hG01 := hG.trans g1
      have hT1 := hTx.keep (hG01.f fun _ => False) (fun _ _ _ hh => hh)
      have k0 := gcell ((blk_cell hT1.top 0).trans rfl)
      rw [hr] at k0
      have HJ1 := Lib.hid hJ1
      have HG1 := Lib.hid g1
      have HG01 := Lib.hid hG01
      have HT := Lib.hid hTx
      have Hr := Lib.hid hr
      have Hf1 := Lib.hid hf1
      clear hJ1 g1 hG01 hT1 hr hTx hf1 k17
      go_upto_region 2 with fail
      refine region_all (by kernel_rfl) (by kernel_rfl) ?_
      repeat (first | go_big_quiet_skip | (go_big_quiet_want; go_big_quiet_op; go_big_quiet_on))
      go_big_quiet_want; refine q_load 25 _ ⟨b, 0, none⟩ (arrP (p)) (at_blk c1) Try.underlying25 rfl (info25p (p)) rfl rfl ?_; go_big_quiet_on
      simp only [Act.put, List.setIfInBounds_toArray, List.set_cons_zero, List.set_cons_succ]
      go_big_quiet_want; go_big_quiet_op; refine ⟨_, fun g => cls (hfam _), ?_⟩; go_big_quiet_on
      repeat (first | go_big_quiet_skip | (go_big_quiet_want; go_big_quiet_op; go_big_quiet_on))
      refine wpQuiet_nil ?_
      intro W2 hg2
      have c2 := hg2.blk c1
      have HJ2 := Lib.hid (hJg acc m W1 W2 HJ1.out hg2)
      have HG2 := Lib.hid (HG1.out.trans hg2)
      have HG02 := Lib.hid (HG01.out.trans hg2)
      clear c1 k0 HJ1 HG1 HG01 hg2
      clear W1
      have hb2 := heap_lt c2
      have Hb2 := Lib.hid hb2
      clear hb2
      go_wp2
      go_loopw [6, 7, 9, 20, 21, 22, 23, 24, 25, 26, 27, 28, 29, 30, 31, 32, 33, 34, 35, 36, 37, 38, 39, 40, 41, 42, 43, 44, 45, 46, 47, 48, 49] (fun pb i _ _ _ _ _ _ _ _ _ _ _ _ _ _ _ _ _ _ _ _ _ _ _ _ _ _ _ _ _ _ _ wr => ∃ (k : Nat) (o : Option Nat), k ≤ n ∧ i = .int .i64 k ∧ pb = ptr o ∧ wr.heap[b]? = some (.cells (arrP p) 25 (0, 0)) ∧ Hid (o = β p.v6 (pathOf p.addr k)) ∧ Hid (∃ acc m', J acc m' wr ∧ F m W2 wr ∧ (∀ i, m' i → m i ∨ W2.heap.size ≤ i) ∧ Rn go nxt B fin acc (restL L p.v6 p.addr n k))) (fun pb i _ _ _ _ _ _ _ _ _ _ _ _ _ _ _ _ _ _ _ _ _ _ _ _ _ _ _ _ _ _ _ _ => n - (intOf i).toNat)
      case atStart => exact ⟨0, some r, by omega, rfl, rfl, c2, Lib.hid (by rw [Hκ.out]; exact Hr.out.symm), Lib.hid ⟨acc, m, HJ2.out, F.refl _ _, fun i h => .inl h, Hf1.out⟩⟩
      case round =>
        clear c2 HJ2 Hf1 Hr hJ
        obtain ⟨k, o, hk, rfl, rfl, c3, Ho, Hrel⟩ := hrel
        obtain ⟨acc, m', hJ3, hF3, hm3, hfin⟩ := Hrel.out
        have Hf3 := Lib.hid hfin
        clear Hrel hfin
        have hm2 := hm
        have hG3 : G w0 wr := F.gtrans HG02.out hF3 (fun i h => (hm i h).1)
        have hT3 := HT.out.keep (hG3.f fun _ => False) (fun _ _ _ hh => hh)
        have HJ3 := Lib.hid hJ3
        have HF3 := Lib.hid hF3
        have HG3 := Lib.hid hG3
        have Hm3 := Lib.hid hm3
        have HT3 := Lib.hid hT3
        clear hJ3 hF3 hG3 hm3 hT3
        cases o with
        | none =>
          have hend : fin = acc := by
            have := Hf3.out
            rw [restL_gone HT3.out _ _ _ _ Ho.out.symm] at this
            exact this.nil.symm
          subst hend
          rw [show ptr none = .pointer none from rfl]
          have HF := Lib.hid ((HG2.out.f m).trans HF3.out (fun i h => .inl h))
          clear HF3
          have Hm := Lib.hid (show ∀ i, m' i → m i ∨ w.heap.size ≤ i from fun i h => (Hm3.out i h).imp id fun h => Nat.le_trans HG2.out.below.size h)
          go_wp2
          refine bodyPost_end (results_none rfl _ _ _) rfl ?_
          exact ⟨rfl, m', HJ3.out, HF.out, Hm.out⟩
        | some q =>
          rw [show ptr (some q) = .pointer (some ⟨q, 0, none⟩) from rfl]
          obtain ⟨hq0, hq1, hq9⟩ := HT3.out.node _ _ _ Ho.out.symm
          obtain ⟨hq7, hq8, hq2⟩ := HT.out.node _ _ _ Ho.out.symm
          obtain ⟨A, c, hs, hA, hA1, hA2⟩ := hq2.at encV_length
          rw [hs] at hq1
          have hlen := hq2.len
          have hrest := restL_step L p.v6 p.addr n k hk
          obtain ⟨H, hH⟩ : ∃ H, here L p.v6 (pathOf p.addr k) = H := ⟨_, rfl⟩
          rw [hH] at hq1 hA hlen hrest
          have k1 := (blk_cell hq1 0).trans rfl
          obtain ⟨h, hh⟩ : ∃ h, H.length = h := ⟨_, rfl⟩
          rw [hh] at k1 hlen
          have hlen' : h ≤ 9223372036854775807 := hlen
          clear hlen
          have Hh := Lib.hid hh
          have HA := Lib.hid hA
          have Hrest := Lib.hid hrest
          have Hq := Lib.hid hq1
          clear hq0 hq1 hq2 hq7 hq8 hq9 hs hA hA1 hA2 hH hrest hh hm2
          go_wp2
          clear k1
          generalize wr = Wo at *
          go_loopw [9, 29, 30, 31, 32, 33, 34, 35, 36, 37] (fun _ j _ _ _ _ _ _ _ _ wr => ∃ (j' : Nat), j' ≤ h ∧ j = .int .i64 j' ∧ wr.heap[b]? = some (.cells (arrP p) 25 (0, 0)) ∧ Hid (∃ acc m', J acc m' wr ∧ F m W2 wr ∧ (∀ i, m' i → m i ∨ W2.heap.size ≤ i) ∧ Rn go nxt B fin acc (H.drop j' ++ restL L p.v6 p.addr n (k + 1)))) (fun _ j _ _ _ _ _ _ _ _ _ => h - (intOf j).toNat)
          case atStart => exact ⟨0, by omega, rfl, c3, Lib.hid ⟨acc, m', HJ3.out, HF3.out, Hm3.out, by rw [List.drop_zero, ← Hrest.out]; exact Hf3.out⟩⟩
          case round =>
            clear c3 HJ3 HF3 Hm3 Hf3 HG3 HT3 Hq
            clear Wo
            obtain ⟨j, hj, rfl, c3, Hrel⟩ := hrel
            obtain ⟨acc, m', hJ3, hF3, hm3, hfin⟩ := Hrel.out
            clear Hrel
            have hG3 : G w0 wr := F.gtrans HG02.out hF3 (fun i h => (hm i h).1)
            have hmb : ¬ m' b := fun h => (hm3 b h).elim Hmb.out (fun h => by have := Hb2.out; omega)
            have Hmb' := Lib.hid hmb
            clear hmb
            by_cases hlt : j < h
            · obtain ⟨x, hx⟩ : ∃ x, H[j]? = some x := ⟨_, List.getElem?_eq_getElem (by have := Hh.out; omega)⟩
              obtain ⟨ad, rfl, ha⟩ := HA.out j x hx
              replace ha := ha.grow hG3
              have hdrop : H.drop j = x :: H.drop (j + 1) := by
                obtain ⟨hl, e⟩ := List.getElem?_eq_some_iff.1 hx
                rw [← e]; exact List.drop_eq_getElem_cons hl
              rw [hdrop, List.cons_append] at hfin
              obtain ⟨d, hd⟩ : ∃ d, go acc x = d := ⟨_, rfl⟩
              have hcl1 := fun W => hcl acc m' W x _ hfin.2
              rw [hd] at hcl1
              have hfin2 : (d = true → Rn go nxt B fin (nxt acc x) (H.drop (j + 1) ++ restL L p.v6 p.addr n (k + 1))) ∧ (d = false → nxt acc x = fin) :=
                ⟨fun e => hfin.go hB (hd.trans e), fun e => hfin.stop (hd.trans e)⟩
              have HJ3 := Lib.hid hJ3
              have HF3 := Lib.hid hF3
              have Hm3 := Lib.hid hm3
              have Hfin := Lib.hid hfin2
              clear hx hdrop hfin hd hfin2 hJ3 hF3 hm3 hG3
              go_upto_region 8 with fail
              refine region_head 2 ?_
              simp only [List.take_succ_cons, List.take_zero, List.drop_succ_cons, List.drop_zero]
              repeat (first | go_big_quiet_skip | (go_big_quiet_want; go_big_quiet_op; go_big_quiet_on))
              go_big_quiet_want; refine q_load 39 _ (ad.add (j * 20)) (arrV (x)) ha Try.underlying39 rfl (info39v (x)) rfl rfl ?_; go_big_quiet_on
              simp only [Act.put, List.setIfInBounds_toArray, List.set_cons_zero, List.set_cons_succ]
              refine wpQuiet_nil ?_
              intro W4 hg4
              refine wl_alloc (T := 39) (Z := Zv) info39z rfl rfl ?_
              have b2 := heap_alloc_new W4 (.cells Zv 39)
              have i2 : Zv.size = (arrV x).size := by rw [arrV_size]; exact arrV_size _
              simp only [Act.put, List.setIfInBounds_toArray, List.set_cons_zero, List.set_cons_succ]
              refine wl_store 39 _ _ W4.heap.size 0 (arrV x) Zv 39 b2 (by omega) (info39v x) (arrV_one x) rfl rfl rfl rfl ?_
              rw [splA_all _ _ i2]
              have b3 := row_set (D := arrV x) b2
              have g3 := ((G.refl W4).alloc (.cells Zv 39)).row (b := W4.heap.size) (Nat.le_refl _) (arrV x)
              replace g3 := hg4.trans g3
              have c4 := g3.blk c3
              obtain ⟨nb, hnb⟩ : ∃ nb, W4.heap.size = nb := ⟨_, rfl⟩
              rw [hnb] at b3 g3 c4 ⊢
              generalize (W4.alloc (.cells Zv 39)).setRow nb (arrV x) = W5 at *
              clear hnb b2 i2 hg4 c3 ha
              clear W4
              refine wpList_nil ?_
              simp only [Act.put, List.setIfInBounds_toArray, List.set_cons_zero, List.set_cons_succ]
              go_upto_region 9 with fail
              refine region_head 2 ?_
              simp only [List.take_succ_cons, List.take_zero, List.drop_succ_cons, List.drop_zero]
              repeat (first | go_big_quiet_skip | (go_big_quiet_want; go_big_quiet_op; go_big_quiet_on))
              go_big_quiet_want; refine q_load 39 _ ⟨nb, 0, none⟩ (arrV (x)) (at_blk b3) Try.underlying39 rfl (info39v (x)) rfl rfl ?_; go_big_quiet_on
              simp only [Act.put, List.setIfInBounds_toArray, List.set_cons_zero, List.set_cons_succ]
              refine wpQuiet_nil ?_
              intro W6 hg6
              have c6 := hg6.blk c4
              have hJ6 := hJg _ _ _ _ HJ3.out (g3.trans hg6)
              have hF6 := HF3.out.trans ((g3.trans hg6).f m) (fun i h => .inl h)
              have hcl2 := hcl1 W6 hJ6
              have HF6 := Lib.hid hF6
              have HC6 := Lib.hid c6
              clear b3 c4 hg6 g3 HJ3 HF3 hJ6 hF6 c6 hcl1
              clear W5 wr
              cases d
              · go_wp2_with (go_at_call 45; refine hcl2.mono ?_; rintro e w' ⟨rfl, m5, hJ5, hF5, hm5⟩; clear hcl2; have HJ5 := Lib.hid hJ5; have HF5 := Lib.hid hF5; have Hm5 := Lib.hid hm5; clear hJ5 hF5 hm5)
                refine bodyPost_ret (results_none rfl _ _ _) rfl ?_
                have hend : nxt acc x = fin := Hfin.out.2 trivial
                rw [← hend]
                have hF8 : F m w w' := ((HG2.out.f m).trans HF6.out (fun i h => .inl h)).trans HF5.out (fun i h => (Hm3.out i h).imp id fun h => Nat.le_trans HG2.out.below.size h)
                exact ⟨rfl, m5, HJ5.out, hF8, fun i h => (Hm5.out i h).elim (fun h => (Hm3.out i h).imp id fun h => Nat.le_trans HG2.out.below.size h) (fun h => .inr (Nat.le_trans (Nat.le_trans HG2.out.below.size HF6.out.size) h))⟩
              · go_wp2_with (go_at_call 45; refine hcl2.mono ?_; rintro e w' ⟨rfl, m5, hJ5, hF5, hm5⟩; clear hcl2; have HJ5 := Lib.hid hJ5; have HF5 := Lib.hid hF5; have Hm5 := Lib.hid hm5; clear hJ5 hF5 hm5)
                go_roundw
                case rel => exact ⟨j + 1, by omega, by go_num, HF5.out.blk HC6.out Hmb'.out, Lib.hid ⟨nxt acc x, m5, HJ5.out, HF6.out.trans HF5.out (fun i h => Hm3.out i h), fun i h => (Hm5.out i h).elim (fun h => Hm3.out i h) (fun h => .inr (Nat.le_trans HF6.out.size h)), Hfin.out.1 trivial⟩⟩
                case measure => simp [intOf]; omega
            · obtain rfl : j = h := by omega
              rw [List.drop_of_length_le (by have := Hh.out; omega), List.nil_append] at hfin
              have HJ3 := Lib.hid hJ3
              have HF3 := Lib.hid hF3
              have Hm3 := Lib.hid hm3
              have HG3 := Lib.hid hG3
              have Hfin := Lib.hid hfin
              clear hfin hJ3 hF3 hm3 hG3
              have k17 := (blk_cell c3 17).trans (arrP_17 p)
              rw [Hn.out] at k17
              by_cases hkn : k = n
              · subst hkn
                have hend : acc = fin := by have := Hfin.out; rw [restL_end] at this; exact this.nil
                have Hend := Lib.hid hend
                clear hend
                go_wp2
                refine bodyPost_ret (results_none rfl _ _ _) rfl ?_
                rw [← Hend.out]
                have hF8 : F m w wr := (HG2.out.f m).trans HF3.out (fun i h => .inl h)
                exact ⟨rfl, m', HJ3.out, hF8, fun i h => (Hm3.out i h).imp id fun h => Nat.le_trans HG2.out.below.size h⟩
              · have hsucc := pathOf_succ p.addr k
                have hbit := fun W => tbit_any p k (by omega) W
                have hx := bit_lt p.addr k
                generalize bit p.addr k = x at *
                have hT3 := HT.out.keep (HG3.out.f fun _ => False) (fun _ _ _ hh => hh)
                obtain ⟨hq0, hq1, hq2⟩ := hT3.node _ _ _ Ho.out.symm
                have k1 : ∀ g, (grw wr g).cell? ⟨q, 1 + x, none⟩ = some (ptr (β p.v6 (pathOf p.addr k ++ [x]))) := by
                  refine gcell ?_
                  rw [blk_cell hq1]
                  have : x = 0 ∨ x = 1 := by omega
                  rcases this with rfl | rfl <;> rfl
                rw [← hsucc] at k1
                obtain ⟨o, ho⟩ : ∃ o, β p.v6 (pathOf p.addr (k + 1)) = o := ⟨_, rfl⟩
                rw [ho] at k1
                have Ho2 := Lib.hid ho.symm
                have hkn' : ¬ ((k : Int) = n) := by omega
                clear hsucc hT3 hq0 hq1 hq2 ho
                go_upto_region 12 with fail
                refine region_all (by kernel_rfl) (by kernel_rfl) ?_
                repeat (first | go_big_quiet_skip | (go_big_quiet_want; go_big_quiet_op; go_big_quiet_on))
                go_big_quiet_want; refine q_load 25 _ ⟨b, 0, none⟩ (arrP (p)) (at_blk c3) Try.underlying25 rfl (info25p (p)) rfl rfl ?_; go_big_quiet_on
                simp only [Act.put, List.setIfInBounds_toArray, List.set_cons_zero, List.set_cons_succ]
                repeat (first | go_big_quiet_skip | (go_big_quiet_want; go_big_quiet_op; go_big_quiet_on))
                go_big_quiet_want; go_big_quiet_op; refine ⟨_, fun g => cls (hbit _), ?_⟩; go_big_quiet_on
                repeat (first | go_big_quiet_skip | (go_big_quiet_want; go_big_quiet_op; go_big_quiet_on))
                refine wpQuiet_nil ?_
                intro W6 hg6
                have c6 := hg6.blk c3
                have HJ6 := Lib.hid (hJg _ _ _ _ HJ3.out hg6)
                have HF6 := Lib.hid (HF3.out.trans (hg6.f m) (fun i h => .inl h))
                have HC6 := Lib.hid c6
                clear c3 k1 hg6 HJ3 HF3 c6 k17 hbit
                go_wp2
                go_roundw
                case rel => exact ⟨k + 1, o, by omega, by go_num, rfl, HC6.out, Ho2, Lib.hid ⟨acc, m', HJ6.out, HF6.out, Hm3.out, Hfin.out⟩⟩
                case measure => simp [intOf]; omega
  ·
    rw [if_pos (by simp)] at hfam
    go_enter Try.func39, Try.ntmps39
    go_upto_region 1 with fail
    have bx := heap_alloc_new w (.cells (arrP p) 25)
    have gx := (G.refl w).alloc (.cells (arrP p) 25)
    have hJx := hJg acc m w (w.alloc (.cells (arrP p) 25)) hJ gx
    obtain ⟨b, hb⟩ : ∃ b, w.heap.size = b := ⟨_, rfl⟩
    have hmb : ¬ m b := fun h => by have := (hm b h).2; omega
    have Hmb := Lib.hid hmb
    clear hmb
    rw [hb] at bx ⊢
    clear hb
    generalize w.alloc (.cells (arrP p) 25) = W at *
    refine region_seq ?_
    go_big_quiet_want; refine q_load 25 _ ⟨b, 0, none⟩ (arrP (p)) (at_blk bx) Try.underlying25 rfl (info25p (p)) rfl rfl ?_; go_big_quiet_on
    simp only [Act.put, List.setIfInBounds_toArray, List.set_cons_zero, List.set_cons_succ]
    go_big_quiet_want; go_big_quiet_op; refine ⟨_, fun g => cls (hright _), ?_⟩; go_big_quiet_on
    repeat (first | go_big_quiet_skip | (go_big_quiet_want; go_big_quiet_op; go_big_quiet_on))
    refine wpQuiet_nil ?_
    intro W1 hg1
    have c1 := hg1.blk bx
    have g1 := gx.trans hg1
    have hJ1 := hJg acc m W W1 hJx hg1
    clear bx gx hJx hg1
    clear W
    cases d
    · have hfin := (Hfin0.out Hd.out).symm
      subst hfin
      have HJ1 := Lib.hid hJ1
      have HF1 := Lib.hid (g1.f m)
      clear hJ1 g1 c1
      go_wp2
      refine bodyPost_ret (results_none rfl _ _ _) rfl ?_
      exact ⟨rfl, m, HJ1.out, HF1.out, fun i h => .inl h⟩
    · simp only [Bool.not_true]
      obtain ⟨n, hn⟩ := Int.eq_ofNat_of_zero_le ((right_iff p).1 Hd.out).1
      have hn128 : n ≤ 128 := by have := ((right_iff p).1 Hd.out).2.1; have := most_le p.v6; omega
      have Hn := Lib.hid hn
      have k17 := (blk_cell c1 17).trans (arrP_17 p)
      rw [hn] at k17
      clear hn
      have hf1 := Hfin1.out Hd.out
      rw [show restL L p.v6 p.addr p.len.toNat 0 = restL L p.v6 p.addr n 0 by rw [Hn.out]; rfl] at hf1
      have hG01 := hG.trans g1
      have hT1 := hTx.keep (hG01.f fun _ => False) (fun _ _ _ hh => hh)
      have k0 := gcell ((blk_cell hT1.top 1).trans rfl)
      rw [hr] at k0
      have HJ1 := Lib.hid hJ1
      have HG1 := Lib.hid g1
      have HG01 := Lib.hid hG01
      have HT := Lib.hid hTx
      have Hr := Lib.hid hr
      have Hf1 := Lib.hid hf1
      clear hJ1 g1 hG01 hT1 hr hTx hf1 k17
      go_upto_region 2 with fail
      refine region_all (by kernel_rfl) (by kernel_rfl) ?_
      repeat (first | go_big_quiet_skip | (go_big_quiet_want; go_big_quiet_op; go_big_quiet_on))
      go_big_quiet_want; refine q_load 25 _ ⟨b, 0, none⟩ (arrP (p)) (at_blk c1) Try.underlying25 rfl (info25p (p)) rfl rfl ?_; go_big_quiet_on
      simp only [Act.put, List.setIfInBounds_toArray, List.set_cons_zero, List.set_cons_succ]
      go_big_quiet_want; go_big_quiet_op; refine ⟨_, fun g => cls (hfam _), ?_⟩; go_big_quiet_on
      repeat (first | go_big_quiet_skip | (go_big_quiet_want; go_big_quiet_op; go_big_quiet_on))
      refine wpQuiet_nil ?_
      intro W2 hg2
      have c2 := hg2.blk c1
      have HJ2 := Lib.hid (hJg acc m W1 W2 HJ1.out hg2)
      have HG2 := Lib.hid (HG1.out.trans hg2)
      have HG02 := Lib.hid (HG01.out.trans hg2)
      clear c1 k0 HJ1 HG1 HG01 hg2
      clear W1
      have hb2 := heap_lt c2
      have Hb2 := Lib.hid hb2
      clear hb2
      go_wp2
      go_loopw [6, 7, 9, 20, 21, 22, 23, 24, 25, 26, 27, 28, 29, 30, 31, 32, 33, 34, 35, 36, 37, 38, 39, 40, 41, 42, 43, 44, 45, 46, 47, 48, 49] (fun pb i _ _ _ _ _ _ _ _ _ _ _ _ _ _ _ _ _ _ _ _ _ _ _ _ _ _ _ _ _ _ _ wr => ∃ (k : Nat) (o : Option Nat), k ≤ n ∧ i = .int .i64 k ∧ pb = ptr o ∧ wr.heap[b]? = some (.cells (arrP p) 25 (0, 0)) ∧ Hid (o = β p.v6 (pathOf p.addr k)) ∧ Hid (∃ acc m', J acc m' wr ∧ F m W2 wr ∧ (∀ i, m' i → m i ∨ W2.heap.size ≤ i) ∧ Rn go nxt B fin acc (restL L p.v6 p.addr n k))) (fun pb i _ _ _ _ _ _ _ _ _ _ _ _ _ _ _ _ _ _ _ _ _ _ _ _ _ _ _ _ _ _ _ _ => n - (intOf i).toNat)
      case atStart => exact ⟨0, some r, by omega, rfl, rfl, c2, Lib.hid (by rw [Hκ.out]; exact Hr.out.symm), Lib.hid ⟨acc, m, HJ2.out, F.refl _ _, fun i h => .inl h, Hf1.out⟩⟩
      case round =>
        clear c2 HJ2 Hf1 Hr hJ
        obtain ⟨k, o, hk, rfl, rfl, c3, Ho, Hrel⟩ := hrel
        obtain ⟨acc, m', hJ3, hF3, hm3, hfin⟩ := Hrel.out
        have Hf3 := Lib.hid hfin
        clear Hrel hfin
        have hm2 := hm
        have hG3 : G w0 wr := F.gtrans HG02.out hF3 (fun i h => (hm i h).1)
        have hT3 := HT.out.keep (hG3.f fun _ => False) (fun _ _ _ hh => hh)
        have HJ3 := Lib.hid hJ3
        have HF3 := Lib.hid hF3
        have HG3 := Lib.hid hG3
        have Hm3 := Lib.hid hm3
        have HT3 := Lib.hid hT3
        clear hJ3 hF3 hG3 hm3 hT3
        cases o with
        | none =>
          have hend : fin = acc := by
            have := Hf3.out
            rw [restL_gone HT3.out _ _ _ _ Ho.out.symm] at this
            exact this.nil.symm
          subst hend
          rw [show ptr none = .pointer none from rfl]
          have HF := Lib.hid ((HG2.out.f m).trans HF3.out (fun i h => .inl h))
          clear HF3
          have Hm := Lib.hid (show ∀ i, m' i → m i ∨ w.heap.size ≤ i from fun i h => (Hm3.out i h).imp id fun h => Nat.le_trans HG2.out.below.size h)
          go_wp2
          refine bodyPost_end (results_none rfl _ _ _) rfl ?_
          exact ⟨rfl, m', HJ3.out, HF.out, Hm.out⟩
        | some q =>
          rw [show ptr (some q) = .pointer (some ⟨q, 0, none⟩) from rfl]
          obtain ⟨hq0, hq1, hq9⟩ := HT3.out.node _ _ _ Ho.out.symm
          obtain ⟨hq7, hq8, hq2⟩ := HT.out.node _ _ _ Ho.out.symm
          obtain ⟨A, c, hs, hA, hA1, hA2⟩ := hq2.at encV_length
          rw [hs] at hq1
          have hlen := hq2.len
          have hrest := restL_step L p.v6 p.addr n k hk
          obtain ⟨H, hH⟩ : ∃ H, here L p.v6 (pathOf p.addr k) = H := ⟨_, rfl⟩
          rw [hH] at hq1 hA hlen hrest
          have k1 := (blk_cell hq1 0).trans rfl
          obtain ⟨h, hh⟩ : ∃ h, H.length = h := ⟨_, rfl⟩
          rw [hh] at k1 hlen
          have hlen' : h ≤ 9223372036854775807 := hlen
          clear hlen
          have Hh := Lib.hid hh
          have HA := Lib.hid hA
          have Hrest := Lib.hid hrest
          have Hq := Lib.hid hq1
          clear hq0 hq1 hq2 hq7 hq8 hq9 hs hA hA1 hA2 hH hrest hh hm2
          go_wp2
          clear k1
          generalize wr = Wo at *
          go_loopw [9, 29, 30, 31, 32, 33, 34, 35, 36, 37] (fun _ j _ _ _ _ _ _ _ _ wr => ∃ (j' : Nat), j' ≤ h ∧ j = .int .i64 j' ∧ wr.heap[b]? = some (.cells (arrP p) 25 (0, 0)) ∧ Hid (∃ acc m', J acc m' wr ∧ F m W2 wr ∧ (∀ i, m' i → m i ∨ W2.heap.size ≤ i) ∧ Rn go nxt B fin acc (H.drop j' ++ restL L p.v6 p.addr n (k + 1)))) (fun _ j _ _ _ _ _ _ _ _ _ => h - (intOf j).toNat)
          case atStart => exact ⟨0, by omega, rfl, c3, Lib.hid ⟨acc, m', HJ3.out, HF3.out, Hm3.out, by rw [List.drop_zero, ← Hrest.out]; exact Hf3.out⟩⟩
          case round =>
            clear c3 HJ3 HF3 Hm3 Hf3 HG3 HT3 Hq
            clear Wo
            obtain ⟨j, hj, rfl, c3, Hrel⟩ := hrel
            obtain ⟨acc, m', hJ3, hF3, hm3, hfin⟩ := Hrel.out
            clear Hrel
            have hG3 : G w0 wr := F.gtrans HG02.out hF3 (fun i h => (hm i h).1)
            have hmb : ¬ m' b := fun h => (hm3 b h).elim Hmb.out (fun h => by have := Hb2.out; omega)
            have Hmb' := Lib.hid hmb
            clear hmb
            by_cases hlt : j < h
            · obtain ⟨x, hx⟩ : ∃ x, H[j]? = some x := ⟨_, List.getElem?_eq_getElem (by have := Hh.out; omega)⟩
              obtain ⟨ad, rfl, ha⟩ := HA.out j x hx
              replace ha := ha.grow hG3
              have hdrop : H.drop j = x :: H.drop (j + 1) := by
                obtain ⟨hl, e⟩ := List.getElem?_eq_some_iff.1 hx
                rw [← e]; exact List.drop_eq_getElem_cons hl
              rw [hdrop, List.cons_append] at hfin
              obtain ⟨d, hd⟩ : ∃ d, go acc x = d := ⟨_, rfl⟩
              have hcl1 := fun W => hcl acc m' W x _ hfin.2
              rw [hd] at hcl1
              have hfin2 : (d = true → Rn go nxt B fin (nxt acc x) (H.drop (j + 1) ++ restL L p.v6 p.addr n (k + 1))) ∧ (d = false → nxt acc x = fin) :=
                ⟨fun e => hfin.go hB (hd.trans e), fun e => hfin.stop (hd.trans e)⟩
              have HJ3 := Lib.hid hJ3
              have HF3 := Lib.hid hF3
              have Hm3 := Lib.hid hm3
              have Hfin := Lib.hid hfin2
              clear hx hdrop hfin hd hfin2 hJ3 hF3 hm3 hG3
              go_upto_region 8 with fail
              refine region_head 2 ?_
              simp only [List.take_succ_cons, List.take_zero, List.drop_succ_cons, List.drop_zero]
              repeat (first | go_big_quiet_skip | (go_big_quiet_want; go_big_quiet_op; go_big_quiet_on))
              go_big_quiet_want; refine q_load 39 _ (ad.add (j * 20)) (arrV (x)) ha Try.underlying39 rfl (info39v (x)) rfl rfl ?_; go_big_quiet_on
              simp only [Act.put, List.setIfInBounds_toArray, List.set_cons_zero, List.set_cons_succ]
              refine wpQuiet_nil ?_
              intro W4 hg4
              refine wl_alloc (T := 39) (Z := Zv) info39z rfl rfl ?_
              have b2 := heap_alloc_new W4 (.cells Zv 39)
              have i2 : Zv.size = (arrV x).size := by rw [arrV_size]; exact arrV_size _
              simp only [Act.put, List.setIfInBounds_toArray, List.set_cons_zero, List.set_cons_succ]
              refine wl_store 39 _ _ W4.heap.size 0 (arrV x) Zv 39 b2 (by omega) (info39v x) (arrV_one x) rfl rfl rfl rfl ?_
              rw [splA_all _ _ i2]
              have b3 := row_set (D := arrV x) b2
              have g3 := ((G.refl W4).alloc (.cells Zv 39)).row (b := W4.heap.size) (Nat.le_refl _) (arrV x)
              replace g3 := hg4.trans g3
              have c4 := g3.blk c3
              obtain ⟨nb, hnb⟩ : ∃ nb, W4.heap.size = nb := ⟨_, rfl⟩
              rw [hnb] at b3 g3 c4 ⊢
              generalize (W4.alloc (.cells Zv 39)).setRow nb (arrV x) = W5 at *
              clear hnb b2 i2 hg4 c3 ha
              clear W4
              refine wpList_nil ?_
              simp only [Act.put, List.setIfInBounds_toArray, List.set_cons_zero, List.set_cons_succ]
              go_upto_region 9 with fail
              refine region_head 2 ?_
              simp only [List.take_succ_cons, List.take_zero, List.drop_succ_cons, List.drop_zero]
              repeat (first | go_big_quiet_skip | (go_big_quiet_want; go_big_quiet_op; go_big_quiet_on))
              go_big_quiet_want; refine q_load 39 _ ⟨nb, 0, none⟩ (arrV (x)) (at_blk b3) Try.underlying39 rfl (info39v (x)) rfl rfl ?_; go_big_quiet_on
              simp only [Act.put, List.setIfInBounds_toArray, List.set_cons_zero, List.set_cons_succ]
              refine wpQuiet_nil ?_
              intro W6 hg6
              have c6 := hg6.blk c4
              have hJ6 := hJg _ _ _ _ HJ3.out (g3.trans hg6)
              have hF6 := HF3.out.trans ((g3.trans hg6).f m) (fun i h => .inl h)
              have hcl2 := hcl1 W6 hJ6
              have HF6 := Lib.hid hF6
              have HC6 := Lib.hid c6
              clear b3 c4 hg6 g3 HJ3 HF3 hJ6 hF6 c6 hcl1
              clear W5 wr
              cases d
              · go_wp2_with (go_at_call 45; refine hcl2.mono ?_; rintro e w' ⟨rfl, m5, hJ5, hF5, hm5⟩; clear hcl2; have HJ5 := Lib.hid hJ5; have HF5 := Lib.hid hF5; have Hm5 := Lib.hid hm5; clear hJ5 hF5 hm5)
                refine bodyPost_ret (results_none rfl _ _ _) rfl ?_
                have hend : nxt acc x = fin := Hfin.out.2 trivial
                rw [← hend]
                have hF8 : F m w w' := ((HG2.out.f m).trans HF6.out (fun i h => .inl h)).trans HF5.out (fun i h => (Hm3.out i h).imp id fun h => Nat.le_trans HG2.out.below.size h)
                exact ⟨rfl, m5, HJ5.out, hF8, fun i h => (Hm5.out i h).elim (fun h => (Hm3.out i h).imp id fun h => Nat.le_trans HG2.out.below.size h) (fun h => .inr (Nat.le_trans (Nat.le_trans HG2.out.below.size HF6.out.size) h))⟩
              · go_wp2_with (go_at_call 45; refine hcl2.mono ?_; rintro e w' ⟨rfl, m5, hJ5, hF5, hm5⟩; clear hcl2; have HJ5 := Lib.hid hJ5; have HF5 := Lib.hid hF5; have Hm5 := Lib.hid hm5; clear hJ5 hF5 hm5)
                go_roundw
                case rel => exact ⟨j + 1, by omega, by go_num, HF5.out.blk HC6.out Hmb'.out, Lib.hid ⟨nxt acc x, m5, HJ5.out, HF6.out.trans HF5.out (fun i h => Hm3.out i h), fun i h => (Hm5.out i h).elim (fun h => Hm3.out i h) (fun h => .inr (Nat.le_trans HF6.out.size h)), Hfin.out.1 trivial⟩⟩
                case measure => simp [intOf]; omega
            · obtain rfl : j = h := by omega
              rw [List.drop_of_length_le (by have := Hh.out; omega), List.nil_append] at hfin
              have HJ3 := Lib.hid hJ3
              have HF3 := Lib.hid hF3
              have Hm3 := Lib.hid hm3
              have HG3 := Lib.hid hG3
              have Hfin := Lib.hid hfin
              clear hfin hJ3 hF3 hm3 hG3
              have k17 := (blk_cell c3 17).trans (arrP_17 p)
              rw [Hn.out] at k17
              by_cases hkn : k = n
              · subst hkn
                have hend : acc = fin := by have := Hfin.out; rw [restL_end] at this; exact this.nil
                have Hend := Lib.hid hend
                clear hend
                go_wp2
                refine bodyPost_ret (results_none rfl _ _ _) rfl ?_
                rw [← Hend.out]
                have hF8 : F m w wr := (HG2.out.f m).trans HF3.out (fun i h => .inl h)
                exact ⟨rfl, m', HJ3.out, hF8, fun i h => (Hm3.out i h).imp id fun h => Nat.le_trans HG2.out.below.size h⟩
              · have hsucc := pathOf_succ p.addr k
                have hbit := fun W => tbit_any p k (by omega) W
                have hx := bit_lt p.addr k
                generalize bit p.addr k = x at *
                have hT3 := HT.out.keep (HG3.out.f fun _ => False) (fun _ _ _ hh => hh)
                obtain ⟨hq0, hq1, hq2⟩ := hT3.node _ _ _ Ho.out.symm
                have k1 : ∀ g, (grw wr g).cell? ⟨q, 1 + x, none⟩ = some (ptr (β p.v6 (pathOf p.addr k ++ [x]))) := by
                  refine gcell ?_
                  rw [blk_cell hq1]
                  have : x = 0 ∨ x = 1 := by omega
                  rcases this with rfl | rfl <;> rfl
                rw [← hsucc] at k1
                obtain ⟨o, ho⟩ : ∃ o, β p.v6 (pathOf p.addr (k + 1)) = o := ⟨_, rfl⟩
                rw [ho] at k1
                have Ho2 := Lib.hid ho.symm
                have hkn' : ¬ ((k : Int) = n) := by omega
                clear hsucc hT3 hq0 hq1 hq2 ho
                go_upto_region 12 with fail
                refine region_all (by kernel_rfl) (by kernel_rfl) ?_
                repeat (first | go_big_quiet_skip | (go_big_quiet_want; go_big_quiet_op; go_big_quiet_on))
                go_big_quiet_want; refine q_load 25 _ ⟨b, 0, none⟩ (arrP (p)) (at_blk c3) Try.underlying25 rfl (info25p (p)) rfl rfl ?_; go_big_quiet_on
                simp only [Act.put, List.setIfInBounds_toArray, List.set_cons_zero, List.set_cons_succ]
                repeat (first | go_big_quiet_skip | (go_big_quiet_want; go_big_quiet_op; go_big_quiet_on))
                go_big_quiet_want; go_big_quiet_op; refine ⟨_, fun g => cls (hbit _), ?_⟩; go_big_quiet_on
                repeat (first | go_big_quiet_skip | (go_big_quiet_want; go_big_quiet_op; go_big_quiet_on))
                refine wpQuiet_nil ?_
                intro W6 hg6
                have c6 := hg6.blk c3
                have HJ6 := Lib.hid (hJg _ _ _ _ HJ3.out hg6)
                have HF6 := Lib.hid (HF3.out.trans (hg6.f m) (fun i h => .inl h))
                have HC6 := Lib.hid c6
                clear c3 k1 hg6 HJ3 HF3 c6 k17 hbit
                go_wp2
                go_roundw
                case rel => exact ⟨k + 1, o, by omega, by go_num, rfl, HC6.out, Ho2, Lib.hid ⟨acc, m', HJ6.out, HF6.out, Hm3.out, Hfin.out⟩⟩
                case measure => simp [intOf]; omega
end
end Go.Proofs.Ytedgbmibgddnkaa
