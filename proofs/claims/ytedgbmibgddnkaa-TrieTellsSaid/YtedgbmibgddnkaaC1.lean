/- The closure that gathers; those that cover, in a row; how many there are. -/
import Derived.Test.YtedgbmibgddnkaaP3
import Derived.Test.YtedgbmibgddnkaaO2
namespace Go.Proofs.Ytedgbmibgddnkaa
open Go.RowKit Ad
set_option linter.unusedSimpArgs false
set_option linter.unusedVariables false
set_option maxRecDepth 100000
set_option maxHeartbeats 2000000
/-- What the closure has gathered. -/
def J40 (base oc : Nat) (acc : List Vrp) (m : Nat → Prop) (w : World) : Prop := ∃ sv, w.heap[oc]? = some (.cells #[sv] 22 (0, 0)) ∧ OwnV w base sv acc ∧ base ≤ oc ∧ base ≤ w.heap.size ∧ m = fun i => i = oc ∨ sv.ownBlock = some i
theorem J40.grow {base oc : Nat} (acc : List Vrp) (m : Nat → Prop) (W W' : World) (h : J40 base oc acc m W) (hg : G W W') : J40 base oc acc m W' := by
  obtain ⟨sv, h1, h2, h3, h4, h5⟩ := h
  exact ⟨sv, hg.blk h1, h2.grow hg, h3, Nat.le_trans h4 hg.below.size, h5⟩
theorem clos40 (base oc : Nat) (acc : List Vrp) (m : Nat → Prop) (W : World) (x : Vrp) (hl : acc.length < 1000000) (hJ : J40 base oc acc m W) :
    Calls Try.prog 40 #[.agg (arrV x), .pointer (some ⟨oc, 0, none⟩)] W fun e w' => e = .returned (.bool true) ∧ ∃ m', J40 base oc (acc ++ [x]) m' w' ∧ F m W w' ∧ (∀ i, m' i → m i ∨ W.heap.size ≤ i) := by
  obtain ⟨sv, h1, h2, h3, h4, rfl⟩ := hJ
  go_enter Try.func40, Try.ntmps40
  go_upto_region 1 with fail
  have bx := heap_alloc_new W (.cells (arrV x) 39)
  have gx := (G.refl W).alloc (.cells (arrV x) 39)
  have ho := gx.blk h1
  obtain ⟨b, hb⟩ : ∃ b, W.heap.size = b := ⟨_, rfl⟩
  rw [hb] at bx ⊢
  generalize W.alloc (.cells (arrV x) 39) = W1 at *
  have k0 := gcell ((blk_cell ho 0).trans rfl)
  refine region_head 2 ?_
  simp only [List.take_succ_cons, List.take_zero, List.drop_succ_cons, List.drop_zero]
  repeat (first | go_big_quiet_skip | (go_big_quiet_want; go_big_quiet_op; go_big_quiet_on))
  go_big_quiet_want; refine q_load 39 _ ⟨b, 0, none⟩ (arrV (x)) (at_blk bx) Try.underlying39 rfl (info39v (x)) rfl rfl ?_; go_big_quiet_on
  simp only [Act.put, List.setIfInBounds_toArray, List.set_cons_zero, List.set_cons_succ]
  refine wpQuiet_nil ?_
  intro W2 hg2
  have g2 := gx.trans hg2
  have ho2 := hg2.blk ho
  have hw2 := h2.grow g2
  clear bx gx ho hg2 k0
  clear W1
  refine wl_build1V _ x rfl rfl rfl ?_
  have b3 := heap_alloc_new W2 (.cells (arrV x) 39)
  have g3 := g2.alloc (.cells (arrV x) 39)
  have hw3 := hw2.grow ((G.refl W2).alloc (.cells (arrV x) 39))
  have ho3 := ((G.refl W2).alloc (.cells (arrV x) 39)).blk ho2
  generalize W2.heap.size = nb at *
  generalize W2.alloc (.cells (arrV x) 39) = W3 at *
  clear g2 ho2 hw2
  clear W2
  simp only [Act.put, List.setIfInBounds_toArray, List.set_cons_zero, List.set_cons_succ]
  refine wl_appV _ _ base _ _ [x] (some ⟨nb, 0, none⟩) 1 hw3 (rd_one b3) (Nat.le_trans h4 g3.below.size) (by simp only [List.length_singleton]; omega) rfl rfl rfl rfl ?_
  intro nv W4 ho4 hf4 hn4
  simp only [Act.put, List.setIfInBounds_toArray, List.set_cons_zero, List.set_cons_succ]
  obtain ⟨A4, c4, hnv⟩ := ho4.form
  generalize (acc ++ [x]).length = n4 at hnv
  have hne : ¬ sv.ownBlock = some oc := fun e => by
    obtain ⟨cur, hc⟩ := hw3.ty e
    have := ho3.symm.trans hc
    simp at this
  have ho5 := hf4.blk ho3 hne
  have hne5 : ¬ nv.ownBlock = some oc := fun e => by
    obtain ⟨cur, hc⟩ := ho4.ty e
    have := ho5.symm.trans hc
    simp at this
  have f5 := F.setc (m := fun i => i = oc) W4 (p := ⟨oc, 0, none⟩) rfl nv
  have hw6 := ho4.keep f5 fun g hg hh => hne5 (hh ▸ hg)
  have ho6 := blk_set ho5 0 nv
  have hF := ((g3.f (fun i => i = oc ∨ sv.ownBlock = some i)).trans (hf4.mono (m' := fun i => i = oc ∨ sv.ownBlock = some i) fun i _ h => .inr h) (fun i h => .inl h)).trans (f5.mono (m' := fun i => i = oc ∨ sv.ownBlock = some i) fun i _ h => .inl h) (fun i h => .inl h)
  have hsz : base ≤ (W4.setCell ⟨oc, 0, none⟩ nv).heap.size := Nat.le_trans h4 hF.size
  have hfin : ∃ m', J40 base oc (acc ++ [x]) m' (W4.setCell ⟨oc, 0, none⟩ nv) ∧ F (fun i => i = oc ∨ sv.ownBlock = some i) W (W4.setCell ⟨oc, 0, none⟩ nv) ∧ (∀ i, m' i → (i = oc ∨ sv.ownBlock = some i) ∨ W.heap.size ≤ i) := by
    refine ⟨fun i => i = oc ∨ nv.ownBlock = some i, ⟨nv, by rw [ho6]; rfl, hw6, h3, hsz, rfl⟩, hF, fun i h => ?_⟩
    rcases h with h | h
    · exact .inl (.inl h)
    · rcases hn4 with e | ⟨g, e, hg⟩
      · exact .inl (.inr (e ▸ h))
      · refine .inr ?_
        rw [e] at h
        injection h with h
        have := g3.below.size
        omega
  subst hnv
  have Hfin := Lib.hid hfin
  have k5 := (blk_cell ho5 0).trans rfl
  have f6 := blk_frozen ho5 0
  clear hfin hF hsz ho6 hw6 f5 hne5 ho5 hne hn4 hf4 ho4 ho3 hw3 g3 b3 h1 h2 h3 h4
  go_wp2
  go_ret
  exact ⟨rfl, Hfin.out⟩

theorem len_any (base bt : Nat) (L : List Vrp) (w : World) (hT : TrieIs w base bt L) : Calls Try.prog 18 #[.pointer (some ⟨bt, 0, none⟩)] w fun e w' => e = .returned (.int .i64 L.length) ∧ w' = w := by
  obtain ⟨β, σ, h⟩ := hT
  have k := (blk_cell h.top 2).trans rfl
  clear h
  go_enter Try.func18, Try.ntmps18
  go_wp2
  go_ret
  exact ⟨rfl, rfl⟩

def coversL (L : List Vrp) (p : Pfx) : List Vrp := sortL (wayL L p)
theorem restL_length (L : List Vrp) (κ : Bool) (a : Adr) (n : Nat) : ∀ (j k : Nat), n + 1 - k = j → (restL L κ a n k).length ≤ j * L.length
  | 0, k, e => by unfold restL; rw [e]; simp
  | j + 1, k, e => by
    rw [restL_step L κ a n k (by omega), List.length_append, Nat.add_mul, Nat.one_mul]
    have h1 := restL_length L κ a n j (k + 1) (by omega)
    have h2 : (here L κ (pathOf a k)).length ≤ L.length := List.length_filter_le _ _
    omega
theorem wayL_length (L : List Vrp) (p : Pfx) : (wayL L p).length ≤ 129 * L.length := by
  unfold wayL
  split
  · rename_i h
    have h1 := (right_iff p).1 h
    have h2 := most_le p.v6
    refine Nat.le_trans (restL_length L _ _ _ _ 0 rfl) (Nat.mul_le_mul_right _ (by omega))
  · simp
theorem runTo_all : ∀ (l acc : List Vrp), runTo (fun _ _ => true) (fun acc x => acc ++ [x]) acc l = acc ++ l
  | [], acc => by simp [runTo]
  | x :: l, acc => by
    unfold runTo
    rw [if_pos rfl, runTo_all l (acc ++ [x])]
    simp
theorem tcovers_any (base bt : Nat) (L : List Vrp) (p : Pfx) (w : World) (hT : TrieIs w base bt L) (hl : L.length ≤ 1000) :
    Calls Try.prog 14 #[.pointer (some ⟨bt, 0, none⟩), .agg (arrP p)] w fun e w' => ∃ A c, e = .returned (.slice A (coversL L p).length c) ∧ RdV w' A (coversL L p) ∧ G w w' := by
  have hlen := wayL_length L p
  rw [show coversL L p = sortL (wayL L p) from rfl]
  obtain ⟨X, hX⟩ : ∃ X, wayL L p = X := ⟨_, rfl⟩
  rw [hX] at hlen ⊢
  go_enter Try.func14, Try.ntmps14
  go_upto_region 2 with fail
  have b1 := heap_alloc2_old w (.cells (arrP p) 25) (.cells #[.slice none 0 0] 22)
  have b2 := heap_alloc2_new w (.cells (arrP p) 25) (.cells #[.slice none 0 0] 22)
  have g0 := ((G.refl w).alloc (.cells (arrP p) 25)).alloc (.cells #[.slice none 0 0] 22)
  obtain ⟨b, hb⟩ : ∃ b, w.heap.size = b := ⟨_, rfl⟩
  have hb0 : w.heap.size ≤ b := by omega
  have hs0 : ((w.alloc (.cells (arrP p) 25)).alloc (.cells #[.slice none 0 0] 22)).heap.size = b + 2 := by simp [hb]
  rw [hb] at b1 b2 ⊢
  generalize (w.alloc (.cells (arrP p) 25)).alloc (.cells #[.slice none 0 0] 22) = W at *
  refine region_head 2 ?_
  simp only [List.take_succ_cons, List.take_zero, List.drop_succ_cons, List.drop_zero]
  repeat (first | go_big_quiet_skip | (go_big_quiet_want; go_big_quiet_op; go_big_quiet_on))
  go_big_quiet_want; refine q_load 25 _ ⟨b, 0, none⟩ (arrP (p)) (at_blk b1) Try.underlying25 rfl (info25p (p)) rfl rfl ?_; go_big_quiet_on
  simp only [Act.put, List.setIfInBounds_toArray, List.set_cons_zero, List.set_cons_succ]
  refine wpQuiet_nil ?_
  intro W1 hg1
  have g1 := g0.trans hg1
  have c2 := hg1.blk b2
  have hs1 := hg1.below.size
  have hJ : J40 b (b + 1) [] (fun i => i = b + 1 ∨ (none : Option Nat) = some i) W1 := ⟨.slice none 0 0, c2, Own.nil _ _ _, by omega, by omega, rfl⟩
  clear b1 b2 g0 hg1 c2
  have hway := way_covers base bt L p w W1 (.pointer (some ⟨b + 1, 0, none⟩)) (fun _ _ => true) (fun acc x => acc ++ [x]) (J40 b (b + 1)) [] _ hT g1
    (fun i hi => by rcases hi with rfl | hi; · omega
                    · cases hi) hJ J40.grow (fun acc l => acc.length + l.length ≤ 200000) (by rw [hX]; simp only [List.length_nil]; omega)
    (fun acc x l h _ => by simp only [List.length_append, List.length_singleton, List.length_cons, List.length_nil] at h ⊢; omega)
    (fun acc m W x l hB hJ => clos40 b (b + 1) acc m W x (by simp only [List.length_cons] at hB; omega) hJ)
  rw [runTo_all, List.nil_append, hX] at hway
  have hl2 : X.length < 4611686018427387904 := by omega
  have hsort := fun v W (h : OwnV W b v X) => sortV_any b v X W h hl2
  clear hJ hT hl hlen hl2
  have HXX := Lib.hid hX
  clear hX
  have G1 := Lib.hid g1
  have HS := Lib.hid hs0
  have HS1 := Lib.hid hs1
  have Hb := Lib.hid hb
  clear g1 hs0 hs1 hb hb0
  go_wp2_with (first
    | (go_at_call 39; refine hway.mono ?_; rintro e w' ⟨rfl, m', ⟨sv, h1, h2, h3, h4, rfl⟩, hF, hm⟩; clear hway; have k1 := (blk_cell h1 0).trans rfl; have hso := hsort sv w' h2; clear hsort; have H1 := Lib.hid h1; have H2 := Lib.hid h2; have HF := Lib.hid hF; have Hm := Lib.hid hm; clear h1 h2 hF hm)
    | (go_at_call 41; refine hso.mono ?_; rintro e w' ⟨rfl, h5, h6⟩; clear hso; have h7 := h6.blk H1.out (fun e => by obtain ⟨cur, hc⟩ := H2.out.ty e; have := H1.out.symm.trans hc; simp at this); have k2 := (blk_cell h7 0).trans rfl; have H5 := Lib.hid h5; have H6 := Lib.hid h6; clear h5 h6 h7))
  go_ret
  obtain ⟨A, c, hs, hA, _, _⟩ := H5.out.at encV_length
  refine ⟨A, c, by rw [← hs]; rfl, hA, ?_⟩
  refine F.gtrans (F.gtrans G1.out HF.out ?_) H6.out ?_
  · rintro i (rfl | hi)
    · have := Hb.out; omega
    · cases hi
  · intro i hi
    have := (H2.out.block hi).1
    have := Hb.out
    omega
end Go.Proofs.Ytedgbmibgddnkaa
