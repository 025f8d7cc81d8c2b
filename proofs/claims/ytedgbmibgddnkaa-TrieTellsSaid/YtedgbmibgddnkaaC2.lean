/- The closure that answers; what a trie answers. -/
import Derived.Test.YtedgbmibgddnkaaP4
import Derived.Test.YtedgbmibgddnkaaA6
namespace Go.Proofs.Ytedgbmibgddnkaa
open Go.RowKit Ad
set_option linter.unusedSimpArgs false
set_option linter.unusedVariables false
set_option maxRecDepth 100000
set_option maxHeartbeats 2000000
/-- One that lets an AS tell a prefix. -/
def good (p : Pfx) (n : Int) (x : Vrp) : Bool := decide (x.as = n) && decide (n ≠ 0) && decide (p.len ≤ x.max)
def J45 (p : Pfx) (n : Int) (oc ac pc : Nat) (acc : Int) (m : Nat → Prop) (w : World) : Prop :=
  w.heap[oc]? = some (.cells #[.int .i64 acc] 3 (0, 0)) ∧ w.heap[ac]? = some (.cells #[.int .u32 n] 26 (0, 0)) ∧ w.heap[pc]? = some (.cells (arrP p) 25 (0, 0)) ∧ m = fun i => i = oc
theorem J45.grow {p : Pfx} {n : Int} {oc ac pc : Nat} (acc : Int) (m : Nat → Prop) (W W' : World) (h : J45 p n oc ac pc acc m W) (hg : G W W') : J45 p n oc ac pc acc m W' := by
  obtain ⟨h1, h2, h3, h4⟩ := h
  exact ⟨hg.blk h1, hg.blk h2, hg.blk h3, h4⟩
theorem clos45 (p : Pfx) (n : Int) (oc ac pc : Nat) (acc : Int) (m : Nat → Prop) (W : World) (x : Vrp) (hJ : J45 p n oc ac pc acc m W) :
    Calls Try.prog 45 #[.agg (arrV x), .pointer (some ⟨oc, 0, none⟩), .pointer (some ⟨ac, 0, none⟩), .pointer (some ⟨pc, 0, none⟩)] W fun e w' => e = .returned (.bool (!good p n x)) ∧ ∃ m', J45 p n oc ac pc (if good p n x then 2 else 1) m' w' ∧ F m W w' ∧ (∀ i, m' i → m i ∨ W.heap.size ≤ i) := by
  obtain ⟨h1, h2, h3, rfl⟩ := hJ
  obtain ⟨d, hd⟩ : ∃ d, good p n x = d := ⟨_, rfl⟩
  rw [hd]
  cases d
  · rw [if_neg (by simp)]
    have hd2 : ¬ (x.as = n ∧ n ≠ 0 ∧ p.len ≤ x.max) := by
      intro ⟨a, b, c⟩; unfold good at hd; simp [a, b, c] at hd
    clear hd
    have key : ∀ (W1 : World), W1.heap[oc]? = some (.cells #[.int .i64 1] 3 (0, 0)) → W1.heap[ac]? = some (.cells #[.int .u32 n] 26 (0, 0)) → W1.heap[pc]? = some (.cells (arrP p) 25 (0, 0)) → F (fun i => i = oc) W W1 →
        ∃ m', J45 p n oc ac pc 1 m' W1 ∧ F (fun i => i = oc) W W1 ∧ (∀ i, m' i → i = oc ∨ W.heap.size ≤ i) := fun W1 a b c d => ⟨_, ⟨a, b, c, rfl⟩, d, fun i h => .inl h⟩
    have Key := Lib.hid key
    clear key
    have Hd := Lib.hid hd2
    clear hd2
    go_enter Try.func45, Try.ntmps45
    go_upto_region 1 with fail
    have bx := heap_alloc_new W (.cells (arrV x) 39)
    have gx := (G.refl W).alloc (.cells (arrV x) 39)
    have q1 := gx.blk h1
    have q2 := gx.blk h2
    have q3 := gx.blk h3
    obtain ⟨b, hb⟩ : ∃ b, W.heap.size = b := ⟨_, rfl⟩
    rw [hb] at bx ⊢
    clear hb
    generalize W.alloc (.cells (arrV x) 39) = W1 at *
    have hne1 : ac ≠ oc := fun e => by subst e; have := q1.symm.trans q2; simp at this
    have hne2 : pc ≠ oc := fun e => by subst e; have := q1.symm.trans q3; simp at this
    have hne3 : b ≠ oc := fun e => by subst e; have := q1.symm.trans bx; simp at this
    have r1 := blk_set q1 0 (.int .i64 1)
    have r2 := blk_far q2 (p := ⟨oc, 0, none⟩) hne1 (.int .i64 1)
    have r3 := blk_far q3 (p := ⟨oc, 0, none⟩) hne2 (.int .i64 1)
    have r4 := blk_far bx (p := ⟨oc, 0, none⟩) hne3 (.int .i64 1)
    have f5 := gx.f (fun i => i = oc) |>.trans (F.setc (m := fun i => i = oc) W1 (p := ⟨oc, 0, none⟩) rfl (.int .i64 1)) (fun i h => .inl h)
    have k1 := (blk_cell q1 0).trans rfl
    have fr1 := blk_frozen q1 0
    have l0 := (blk_cell r4 0).trans (arrV_0 x)
    have l19 := (blk_cell r4 19).trans (arrV_19 x)
    have l1 := (blk_cell r1 0).trans rfl
    have fl1 := blk_frozen r1 0
    have l2 := (blk_cell r2 0).trans rfl
    have l17 := (blk_cell r3 17).trans (arrP_17 p)
    have Hfin := Lib.hid (Key.out _ r1 r2 r3 f5)
    clear r1 r2 r3 r4 f5 q1 q2 q3 bx gx Key h1 h2 h3
    by_cases c1 : x.as = n
    · by_cases c2 : n = 0
      · subst c2
        rw [c1] at l0
        go_wp2
        go_ret
        exact ⟨rfl, Hfin.out⟩
      · have c3 : ¬ p.len ≤ x.max := fun c => Hd.out ⟨c1, c2, c⟩
        rw [c1] at l0
        go_wp2
        go_ret
        exact ⟨rfl, Hfin.out⟩
    · go_wp2
      go_ret
      exact ⟨rfl, Hfin.out⟩
  · rw [if_pos rfl]
    have hd2 : (x.as = n ∧ n ≠ 0) ∧ p.len ≤ x.max := by
      unfold good at hd; simpa using hd
    clear hd
    obtain ⟨⟨c1, c2⟩, c3⟩ := hd2
    have key : ∀ (W1 : World), W1.heap[oc]? = some (.cells #[.int .i64 2] 3 (0, 0)) → W1.heap[ac]? = some (.cells #[.int .u32 n] 26 (0, 0)) → W1.heap[pc]? = some (.cells (arrP p) 25 (0, 0)) → F (fun i => i = oc) W W1 →
        ∃ m', J45 p n oc ac pc 2 m' W1 ∧ F (fun i => i = oc) W W1 ∧ (∀ i, m' i → i = oc ∨ W.heap.size ≤ i) := fun W1 a b c d => ⟨_, ⟨a, b, c, rfl⟩, d, fun i h => .inl h⟩
    have Key := Lib.hid key
    clear key
    have C1 := Lib.hid c1
    clear c1
    go_enter Try.func45, Try.ntmps45
    go_upto_region 1 with fail
    have bx := heap_alloc_new W (.cells (arrV x) 39)
    have gx := (G.refl W).alloc (.cells (arrV x) 39)
    have q1 := gx.blk h1
    have q2 := gx.blk h2
    have q3 := gx.blk h3
    obtain ⟨b, hb⟩ : ∃ b, W.heap.size = b := ⟨_, rfl⟩
    rw [hb] at bx ⊢
    clear hb
    generalize W.alloc (.cells (arrV x) 39) = W1 at *
    have hne1 : ac ≠ oc := fun e => by subst e; have := q1.symm.trans q2; simp at this
    have hne2 : pc ≠ oc := fun e => by subst e; have := q1.symm.trans q3; simp at this
    have hne3 : b ≠ oc := fun e => by subst e; have := q1.symm.trans bx; simp at this
    have r1 := blk_set q1 0 (.int .i64 1)
    have r2 := blk_far q2 (p := ⟨oc, 0, none⟩) hne1 (.int .i64 1)
    have r3 := blk_far q3 (p := ⟨oc, 0, none⟩) hne2 (.int .i64 1)
    have r4 := blk_far bx (p := ⟨oc, 0, none⟩) hne3 (.int .i64 1)
    have f5 := gx.f (fun i => i = oc) |>.trans (F.setc (m := fun i => i = oc) W1 (p := ⟨oc, 0, none⟩) rfl (.int .i64 1)) (fun i h => .inl h)
    have k1 := (blk_cell q1 0).trans rfl
    have fr1 := blk_frozen q1 0
    have l0 := (blk_cell r4 0).trans (arrV_0 x)
    have l19 := (blk_cell r4 19).trans (arrV_19 x)
    have l1 := (blk_cell r1 0).trans rfl
    have fl1 := blk_frozen r1 0
    have l2 := (blk_cell r2 0).trans rfl
    have l17 := (blk_cell r3 17).trans (arrP_17 p)
    have s1 := blk_set r1 0 (.int .i64 2)
    have s2 := blk_far r2 (p := ⟨oc, 0, none⟩) hne1 (.int .i64 2)
    have s3 := blk_far r3 (p := ⟨oc, 0, none⟩) hne2 (.int .i64 2)
    have f6 := f5.trans (F.setc (m := fun i => i = oc) (W1.setCell ⟨oc, 0, none⟩ (.int .i64 1)) (p := ⟨oc, 0, none⟩) rfl (.int .i64 2)) (fun i h => .inl h)
    have s0 := (blk_cell s1 0).trans rfl
    have Hfin := Lib.hid (Key.out _ s1 s2 s3 f6)
    clear r1 r2 r3 r4 f5 q1 q2 q3 bx gx Key h1 h2 h3 s1 s2 s3 f6
    rw [C1.out] at l0
    go_wp2
    go_ret
    exact ⟨rfl, Hfin.out⟩

/-- What a trie answers. -/
def answerL (L : List Vrp) (p : Pfx) (n : Int) : Int := if (wayL L p).any (good p n) then 2 else if (wayL L p).isEmpty then 0 else 1
theorem runTo_ans (p : Pfx) (n : Int) : ∀ (l : List Vrp) (acc : Int), runTo (fun _ x => !good p n x) (fun _ x => if good p n x then 2 else 1) acc l = if l.any (good p n) then 2 else if l.isEmpty then acc else 1
  | [], acc => by simp [runTo]
  | x :: l, acc => by
    unfold runTo
    cases hg : good p n x
    · simp only [Bool.not_false, if_true]
      rw [runTo_ans p n l]
      simp only [List.any_cons, hg, Bool.false_or, List.isEmpty_cons]
      cases l.any (good p n) <;> simp
    · simp [hg]
theorem tanswer_any (base bt : Nat) (L : List Vrp) (p : Pfx) (n : Int) (w : World) (hT : TrieIs w base bt L) :
    Calls Try.prog 16 #[.pointer (some ⟨bt, 0, none⟩), .agg (arrP p), .int .u32 n] w fun e w' => e = .returned (.int .i64 (answerL L p n)) ∧ G w w' := by
  have hrun := runTo_ans p n (wayL L p) 0
  rw [show (if (wayL L p).any (good p n) then 2 else if (wayL L p).isEmpty then (0 : Int) else 1) = answerL L p n from rfl] at hrun
  obtain ⟨r, hr⟩ : ∃ r, answerL L p n = r := ⟨_, rfl⟩
  rw [hr] at hrun ⊢
  clear hr
  go_enter Try.func16, Try.ntmps16
  go_upto_region 1 with fail
  have b1 := heap_alloc2_old w (.cells (arrP p) 25) (.cells #[.int .u32 n] 26)
  have b2 := heap_alloc2_new w (.cells (arrP p) 25) (.cells #[.int .u32 n] 26)
  have g0 := ((G.refl w).alloc (.cells (arrP p) 25)).alloc (.cells #[.int .u32 n] 26)
  obtain ⟨b, hb⟩ : ∃ b, w.heap.size = b := ⟨_, rfl⟩
  have hb0 : w.heap.size ≤ b := by omega
  have hs0 : ((w.alloc (.cells (arrP p) 25)).alloc (.cells #[.int .u32 n] 26)).heap.size = b + 2 := by simp [hb]
  rw [hb] at b1 b2 ⊢
  generalize (w.alloc (.cells (arrP p) 25)).alloc (.cells #[.int .u32 n] 26) = W at *
  have b3 := heap_alloc_new W (.cells #[.int .i64 0] 3)
  have g3 := (G.refl W).alloc (.cells #[.int .i64 0] 3)
  have d1 := g3.blk b1
  have d2 := g3.blk b2
  have g5 := g0.trans g3
  rw [hs0] at b3
  have hs5 := heap_lt b3
  go_upto_region 2 with fail
  generalize W.alloc (.cells #[.int .i64 0] 3) = W1 at *
  clear b1 b2 g0 g3 hs0
  clear W
  refine region_head 2 ?_
  simp only [List.take_succ_cons, List.take_zero, List.drop_succ_cons, List.drop_zero]
  repeat (first | go_big_quiet_skip | (go_big_quiet_want; go_big_quiet_op; go_big_quiet_on))
  go_big_quiet_want; refine q_load 25 _ ⟨b, 0, none⟩ (arrP (p)) (at_blk d1) Try.underlying25 rfl (info25p (p)) rfl rfl ?_; go_big_quiet_on
  simp only [Act.put, List.setIfInBounds_toArray, List.set_cons_zero, List.set_cons_succ]
  refine wpQuiet_nil ?_
  intro W2 hg2
  have g6 := g5.trans hg2
  have hJ : J45 p n (b + 2) (b + 1) b 0 (fun i => i = b + 2) W2 := ⟨hg2.blk b3, hg2.blk d2, hg2.blk d1, rfl⟩
  have hs6 := hg2.below.size
  have hway := way_answer base bt L p w W2 (.pointer (some ⟨b + 2, 0, none⟩)) (.pointer (some ⟨b + 1, 0, none⟩)) (.pointer (some ⟨b, 0, none⟩)) (fun _ x => !good p n x) (fun _ x => if good p n x then 2 else 1) (J45 p n (b + 2) (b + 1) b) 0 _ hT g6
    (fun i hi => by subst hi; omega) hJ J45.grow (fun _ _ => True) trivial (fun _ _ _ _ _ => trivial)
    (fun acc m W x l _ hJ => clos45 p n _ _ _ acc m W x hJ)
  rw [hrun] at hway
  have G6 := Lib.hid g6
  have Hb := Lib.hid hb0
  clear g6 hJ hs6 hg2 b3 d1 d2 g5 hs5 hb hb0 hT hrun
  go_wp2_with (go_at_call 39; refine hway.mono ?_; rintro e w' ⟨rfl, m', ⟨h1, h2, h3, rfl⟩, hF, hm⟩; clear hway; have k1 := (blk_cell h1 0).trans rfl; have HF := Lib.hid hF; clear h1 h2 h3 hF hm)
  go_ret
  exact ⟨rfl, F.gtrans G6.out HF.out (fun i hi => by have := Hb.out; omega)⟩
end Go.Proofs.Ytedgbmibgddnkaa
