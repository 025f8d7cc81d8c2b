/- The law: the order does not matter. -/
import Derived.Test.YtedgbmibgddnkaaX2
import Derived.Test.YtedgbmibgddnkaaT3
import Derived.Test.YtedgbmibgddnkaaV
namespace Go.Proofs.Ytedgbmibgddnkaa
open Go.RowKit Ad
set_option linter.unusedSimpArgs false
set_option linter.unusedVariables false
set_option maxRecDepth 100000
set_option maxHeartbeats 4000000
theorem Rd.drop {α : Type} {enc : α → List Value} {k : Nat} {w : World} {ad : Addr} {L : List α} (h : Rd enc k w (some ad) L) (j : Nat) : Rd enc k w (some (ad.add (j * k))) (L.drop j) := fun i x hx => by
  rw [List.getElem?_drop] at hx
  obtain ⟨a2, e, ha⟩ := h _ x hx
  cases e
  refine ⟨_, rfl, ?_⟩
  rw [add_add', ← Nat.add_mul]
  exact ha
theorem Rd.take {α : Type} {enc : α → List Value} {k : Nat} {w : World} {A : Option Addr} {L : List α} (h : Rd enc k w A L) (j : Nat) : Rd enc k w A (L.take j) := fun i x hx => by
  rw [List.getElem?_take] at hx
  split at hx
  · exact h i x hx
  · cases hx
theorem trieOrder_any (A : Option Addr) (c : Nat) (L : List Vrp) (p : Pfx) (turn : Int) (w : World) (hL : RdV w A L) (hl : L.length ≤ maxLen) (hcap : L.length ≤ c) (hw : (Lit.int .i64 turn).wf = true) :
    Calls Try.prog 5 #[.slice A L.length c, .agg (arrP p), .int .i64 turn] w fun e w' => e = .returned (.bool true) ∧ G w w' := by
  obtain ⟨n, hn⟩ : ∃ n, L.length = n := ⟨_, rfl⟩
  have Hn := Lib.hid hn
  have HL := Lib.hid hL
  rw [hn] at hl hcap ⊢
  simp only [maxLen] at hl
  clear hn hL
  go_enter Try.func5, Try.ntmps5
  go_upto_region 1 with fail
  have b1 := heap_alloc_new w (.cells (arrP p) 25)
  have g0 := (G.refl w).alloc (.cells (arrP p) 25)
  obtain ⟨b, hb⟩ : ∃ b, w.heap.size = b := ⟨_, rfl⟩
  rw [hb] at b1 ⊢
  clear hb
  generalize w.alloc (.cells (arrP p) 25) = W at *
  refine region_seq ?_
  go_big_quiet_want; go_big_quiet_op; refine ⟨_, fun g => cls (awake_any _), ?_⟩; go_big_quiet_on
  repeat (first | go_big_quiet_skip | (go_big_quiet_want; go_big_quiet_op; go_big_quiet_on))
  refine wpQuiet_nil ?_
  intro W1 hg1
  have c1 := hg1.blk b1
  have g1 := g0.trans hg1
  clear b1 g0 hg1
  clear W
  by_cases h0 : n = 0
  · subst h0
    have G1 := Lib.hid g1
    clear g1 c1
    go_wp2
    go_ret
    exact ⟨rfl, G1.out⟩
  by_cases hlen : 150 < n
  · have G1 := Lib.hid g1
    clear g1 c1
    go_wp2
    go_ret
    exact ⟨rfl, G1.out⟩
  by_cases hneg : turn < 0
  · have G1 := Lib.hid g1
    clear g1 c1
    go_wp2
    go_ret
    exact ⟨rfl, G1.out⟩
  obtain ⟨tn, rfl⟩ := Int.eq_ofNat_of_zero_le (show 0 ≤ turn by omega)
  have hmod : Int.tmod (tn : Int) (n : Int) = ((tn % n : Nat) : Int) := rfl
  have hkn : tn % n < n := Nat.mod_lt _ (by omega)
  obtain ⟨k, hk⟩ : ∃ k, tn % n = k := ⟨_, rfl⟩
  rw [hk] at hmod hkn
  clear hk
  have hne0 : ((n : Int) == 0) = false := by simp; omega
  have hle150 : decide ((150 : Int) < n) = false := by simp; omega
  have hnew := fun W (h : G w W) => new_any A L c W (HL.out.grow h) (by have := Hn.out; omega)
  rw [Hn.out] at hnew
  have G1 := Lib.hid g1
  have C1 := Lib.hid c1
  clear g1 c1
  have hnew1 := hnew W1 G1.out
  go_upto_region 6 with (go_at_call 12; refine hnew1.mono ?_; rintro e w' ⟨bt, rfl, hT, hg⟩; clear hnew1; have HT := Lib.hid hT; have G2 := Lib.hid (G1.out.trans hg); have D1 := Lib.hid (hg.blk C1.out); clear hT hg G1 C1)
  rename_i Qp K6 a6
  obtain ⟨v, hv⟩ : ∃ v, L[k]? = some v := ⟨_, List.getElem?_eq_getElem (by have := Hn.out; omega)⟩
  obtain ⟨ad, rfl, hav⟩ := HL.out k v hv
  have Hv := Lib.hid hv
  clear hv
  have av := hav.grow G2.out
  have key : ∀ (x32 x36 x40 x45 x46 : Value) (bt2 base2 : Nat) (W6 : World), G w' W6 → TrieIs W6 base2 bt2 (trieL (turned L k v)) → Exit.then K6 Qp .normal { tmps := #[.slice (some ad) n c, .agg (arrP p), .int .i64 tn, undef, .pointer (some ⟨b, 0, none⟩), undef, .bool false, .bool true, .int .i64 k, .pointer (some ⟨bt, 0, none⟩), .pointer (some ⟨bt2, 0, none⟩), undef, .bool true, .slice (some ad) n c, .int .i64 n, .bool false, .bool false, .slice (some ad) n c, .int .i64 n, .bool false, .bool false, .bool false, .int .i64 tn, .bool false, .bool false, undef, .int .i64 tn, .slice (some ad) n c, .int .i64 n, .int .i64 k, .slice (some ad) n c, .pointer (some ⟨bt, 0, none⟩), x32, .slice (some ad) n c, .int .i64 k, .slice (some (ad.add (k * 20))) (n - k) (c - k), x36, .slice (some ad) n c, .int .i64 k, .slice (some ad) k c, x40, .slice (some ad) n c, .int .i64 k, .pointer (some (ad.add (k * 20))), .agg (arrV v), x45, x46, .pointer (some ⟨bt2, 0, none⟩), undef, undef, undef, undef, undef, undef, undef, undef, undef, undef, undef, undef, undef, undef, undef, undef, undef, undef, undef, undef, undef, undef, undef, undef, undef, undef, undef, undef, undef, undef, undef, undef, undef], defers := [] } W6 := by
    intro x32 x36 x40 x45 x46 bt2 base2 W6 hg6 hT6
    dsimp only
    obtain ⟨X, hX⟩ : ∃ X, trieL L = X := ⟨_, rfl⟩
    obtain ⟨Y, hY⟩ : ∃ Y, trieL (turned L k v) = Y := ⟨_, rfl⟩
    have hmem : ∀ x, x ∈ X ↔ x ∈ Y := by rw [← hX, ← hY]; exact mem_trieL_same (mem_turned Hv.out)
    have hXn : X.Nodup := by rw [← hX]; exact trieL_nodup L
    have hYn : Y.Nodup := by rw [← hY]; exact trieL_nodup _
    have hXl : X.length ≤ 150 := by have := trieL_length L []; have := Hn.out; rw [← hX]; unfold trieL; simp only [List.length_nil] at *; omega
    have hlenXY := length_same hXn hYn hmem
    have hcov := covers_same hXn hYn hmem p
    have hans := answer_same hmem p 1
    have hT1 := HT.out.grow hg6
    rw [hX] at hT1
    rw [hY] at hT6
    have c6 := hg6.blk D1.out
    have g6 := G2.out.trans hg6
    have q1 := fun W (h : G W6 W) => len_any _ bt X W (hT1.grow h)
    have q2 := fun W (h : G W6 W) => len_any base2 bt2 Y W (hT6.grow h)
    have q3 := fun W (h : G W6 W) => tcovers_any _ bt X p W (hT1.grow h) (by omega)
    have q4 := fun W (h : G W6 W) => tcovers_any base2 bt2 Y p W (hT6.grow h) (by omega)
    have q5 := fun W (h : G W6 W) => tanswer_any _ bt X p 1 W (hT1.grow h)
    have q6 := fun W (h : G W6 W) => tanswer_any base2 bt2 Y p 1 W (hT6.grow h)
    have hcl : (coversL X p).length ≤ maxLen := by rw [coversL_length]; have := wayL_length X p; simp only [maxLen]; omega
    rw [← hlenXY] at q2
    rw [← hcov] at q4
    rw [← hans] at q6
    generalize coversL X p = C at *
    generalize answerL X p 1 = r at *
    generalize X.length = m at *
    obtain ⟨lc, hlc⟩ : ∃ lc, C.length = lc := ⟨_, rfl⟩
    have q7 := fun A B c d W hA hB => same_any A B C C c d W hA hB hcl hcl
    rw [decide_eq_true rfl] at q7
    rw [hlc] at q3 q4 q7
    clear hX hY hmem hXn hYn hlenXY hcov hans hT1 hT6 hcl hlc hg6 HT D1 HL Hn hav av G2 hnew
    clear w'
    go_upto_region 9 with fail
    have hS : G W6 W6.drew := (G.refl W6).drew
    refine region_q (G W6) 8 (.q [0, 1, 3, 4] (.one 2 (.one 5 (.one 6 (.q [7] .nil))))) (by kernel_rfl) (by kernel_rfl) (by decide) (by kernel_rfl) (fun _ _ d _ _ h => by cases d <;> exact h) ?_
    refine wpTq_qG hS ?_
    change wpQuiet _ _ _ _ [_, _, _, _] _
    repeat (first | go_big_quiet_skip | (go_big_quiet_want; go_big_quiet_op; go_big_quiet_on))
    go_big_quiet_want; refine q_load 25 _ ⟨b, 0, none⟩ (arrP (p)) (at_blk c6) Try.underlying25 rfl (info25p (p)) rfl rfl ?_; go_big_quiet_on
    simp only [Act.put, List.setIfInBounds_toArray, List.set_cons_zero, List.set_cons_succ]
    repeat (first | go_big_quiet_skip | (go_big_quiet_want; go_big_quiet_op; go_big_quiet_on))
    go_big_quiet_want; refine q_load 25 _ ⟨b, 0, none⟩ (arrP (p)) (at_blk c6) Try.underlying25 rfl (info25p (p)) rfl rfl ?_; go_big_quiet_on
    simp only [Act.put, List.setIfInBounds_toArray, List.set_cons_zero, List.set_cons_succ]
    refine wpQuiet_nil ?_
    generalize W6.drew = V0 at *
    refine wpTq_one (o := ⟨_, _, _, _, _, _⟩) rfl (fun _ => hS) (by rfl) (fun K hK => ?_)
    refine wp_callF #[.pointer (some ⟨bt, 0, none⟩), .agg (arrP p)] Try.func14 (by kernel_rfl) rfl rfl rfl (q3 V0 hS) ?_
    rintro e V1 ⟨A3, c3, rfl, hr3, hg3⟩
    refine ⟨_, rfl, hK _ _ (fun _ => hS.trans hg3) ?_⟩
    clear hK
    clear K
    replace hS := hS.trans hg3
    clear hg3
    clear V0
    simp only [Act.put, List.setIfInBounds_toArray, List.set_cons_zero, List.set_cons_succ]
    refine wpTq_one (o := ⟨_, _, _, _, _, _⟩) rfl (fun _ => hS) (by rfl) (fun K hK => ?_)
    refine wp_callF #[.pointer (some ⟨bt2, 0, none⟩), .agg (arrP p)] Try.func14 (by kernel_rfl) rfl rfl rfl (q4 V1 hS) ?_
    rintro e V2 ⟨A4, c4, rfl, hr4, hg4⟩
    refine ⟨_, rfl, hK _ _ (fun _ => hS.trans hg4) ?_⟩
    clear hK
    clear K
    replace hS := hS.trans hg4
    replace hr3 := hr3.grow hg4
    clear hg4
    clear V1
    simp only [Act.put, List.setIfInBounds_toArray, List.set_cons_zero, List.set_cons_succ]
    refine wpTq_one (o := ⟨_, _, _, _, _, _⟩) rfl (fun _ => hS) (by rfl) (fun K hK => ?_)
    refine wp_callF #[.slice A3 lc c3, .slice A4 lc c4] Try.func13 (by kernel_rfl) rfl rfl rfl (q7 A3 A4 c3 c4 V2 hr3 hr4) ?_
    rintro e V3 ⟨rfl, hg5⟩
    refine ⟨_, rfl, hK _ _ (fun _ => hS.trans hg5) ?_⟩
    clear hK
    clear K
    replace hS := hS.trans hg5
    clear hg5 hr3 hr4
    clear V2
    simp only [Act.put, List.setIfInBounds_toArray, List.set_cons_zero, List.set_cons_succ]
    refine wpTq_qG hS ?_
    change wpQuiet _ _ _ _ [_] _
    repeat (first | go_big_quiet_skip | (go_big_quiet_want; go_big_quiet_op; go_big_quiet_on))
    refine wpQuiet_nil ?_
    refine wpTq_nil ?_
    have c7 := hS.blk c6
    have p1 := fun W (h : G V3 W) => q1 W (hS.trans h)
    have p2 := fun W (h : G V3 W) => q2 W (hS.trans h)
    have p5 := fun W (h : G V3 W) => q5 W (hS.trans h)
    have p6 := fun W (h : G V3 W) => q6 W (hS.trans h)
    have G7 := Lib.hid (g6.trans hS)
    clear q1 q2 q3 q4 q5 q6 q7 hS g6 c6
    clear W6
    go_upto_region 10 with fail
    have hS : G V3 V3.drew := (G.refl V3).drew
    refine region_q (G V3) 21 (.q [0, 1, 2, 3, 4, 5, 7] (.one 6 (.one 8 (.q [9, 10, 11, 12, 13, 15, 16] (.one 14 (.one 17 (.q [18, 19, 20] .nil))))))) (by kernel_rfl) (by kernel_rfl) (by decide) (by kernel_rfl) (fun _ _ d _ _ h => by cases d <;> exact h) ?_
    refine wpTq_qG hS ?_
    change wpQuiet _ _ _ _ [_, _, _, _, _, _, _] _
    repeat (first | go_big_quiet_skip | (go_big_quiet_want; go_big_quiet_op; go_big_quiet_on))
    refine wpQuiet_nil ?_
    generalize V3.drew = V0 at *
    refine wpTq_one (o := ⟨_, _, _, _, _, _⟩) rfl (fun _ => hS) (by rfl) (fun K hK => ?_)
    refine wp_callF #[.pointer (some ⟨bt, 0, none⟩)] Try.func18 (by kernel_rfl) rfl rfl rfl (p1 V0 hS) ?_
    rintro e V1 ⟨rfl, rfl⟩
    refine ⟨_, rfl, hK _ _ (fun _ => hS) ?_⟩
    clear hK
    clear K
    simp only [Act.put, List.setIfInBounds_toArray, List.set_cons_zero, List.set_cons_succ]
    refine wpTq_one (o := ⟨_, _, _, _, _, _⟩) rfl (fun _ => hS) (by rfl) (fun K hK => ?_)
    refine wp_callF #[.pointer (some ⟨bt2, 0, none⟩)] Try.func18 (by kernel_rfl) rfl rfl rfl (p2 V1 hS) ?_
    rintro e V2 ⟨rfl, rfl⟩
    refine ⟨_, rfl, hK _ _ (fun _ => hS) ?_⟩
    clear hK
    clear K
    simp only [Act.put, List.setIfInBounds_toArray, List.set_cons_zero, List.set_cons_succ]
    refine wpTq_qG hS ?_
    change wpQuiet _ _ _ _ [_, _, _, _, _, _, _] _
    repeat (first | go_big_quiet_skip | (go_big_quiet_want; go_big_quiet_op; go_big_quiet_on))
    go_big_quiet_want; refine q_load 25 _ ⟨b, 0, none⟩ (arrP (p)) (at_blk c7) Try.underlying25 rfl (info25p (p)) rfl rfl ?_; go_big_quiet_on
    simp only [Act.put, List.setIfInBounds_toArray, List.set_cons_zero, List.set_cons_succ]
    repeat (first | go_big_quiet_skip | (go_big_quiet_want; go_big_quiet_op; go_big_quiet_on))
    go_big_quiet_want; refine q_load 25 _ ⟨b, 0, none⟩ (arrP (p)) (at_blk c7) Try.underlying25 rfl (info25p (p)) rfl rfl ?_; go_big_quiet_on
    simp only [Act.put, List.setIfInBounds_toArray, List.set_cons_zero, List.set_cons_succ]
    refine wpQuiet_nil ?_
    refine wpTq_one (o := ⟨_, _, _, _, _, _⟩) rfl (fun _ => hS) (by rfl) (fun K hK => ?_)
    refine wp_callF #[.pointer (some ⟨bt, 0, none⟩), .agg (arrP p), .int .u32 1] Try.func16 (by kernel_rfl) rfl rfl rfl (p5 V2 hS) ?_
    rintro e V4 ⟨rfl, hg4⟩
    refine ⟨_, rfl, hK _ _ (fun _ => hS.trans hg4) ?_⟩
    clear hK
    clear K
    replace hS := hS.trans hg4
    simp only [Act.put, List.setIfInBounds_toArray, List.set_cons_zero, List.set_cons_succ]
    refine wpTq_one (o := ⟨_, _, _, _, _, _⟩) rfl (fun _ => hS) (by rfl) (fun K hK => ?_)
    refine wp_callF #[.pointer (some ⟨bt2, 0, none⟩), .agg (arrP p), .int .u32 1] Try.func16 (by kernel_rfl) rfl rfl rfl (p6 V4 hS) ?_
    rintro e V5 ⟨rfl, hg5⟩
    refine ⟨_, rfl, hK _ _ (fun _ => hS.trans hg5) ?_⟩
    clear hK
    clear K
    replace hS := hS.trans hg5
    simp only [Act.put, List.setIfInBounds_toArray, List.set_cons_zero, List.set_cons_succ]
    refine wpTq_qG hS ?_
    change wpQuiet _ _ _ _ [_, _, _] _
    repeat (first | go_big_quiet_skip | (go_big_quiet_want; go_big_quiet_op; go_big_quiet_on))
    refine wpQuiet_nil ?_
    refine wpTq_nil ?_
    have hfin := Lib.hid (G7.out.trans hS)
    clear hS hg4 hg5 p1 p2 p5 p6 G7 c7
    go_wp2
    go_ret
    exact ⟨rfl, hfin.out⟩
  have HL6 := Lib.hid (HL.out.grow G2.out)
  have hS : G w' w'.drew := (G.refl w').drew
  have hkc : k ≤ c := by omega
  have hck : (c = k) = False := by simp; omega
  refine region_q (G w') 17 (.q [1, 2, 3, 5, 6, 7, 9, 10, 11, 12] (.two 0 (.two 4 (.two 8 (.one 13 (.one 14 (.one 15 (.q [16] .nil)))) 13 (.one 8 (.one 14 (.one 15 (.q [16] .nil))))) 13 (.one 4 (.one 8 (.one 14 (.one 15 (.q [16] .nil)))))) 13 (.one 0 (.one 4 (.one 8 (.one 14 (.one 15 (.q [16] .nil)))))))) (by kernel_rfl) (by kernel_rfl) (by decide) (by kernel_rfl) (fun _ _ d _ _ h => by cases d <;> exact h) ?_
  refine wpTq_qG hS ?_
  change wpQuiet _ _ _ _ [_, _, _, _, _, _, _, _, _, _] _
  repeat (first | go_big_quiet_skip | (go_big_quiet_want; go_big_quiet_op; go_big_quiet_on))
  go_big_quiet_want; refine q_load 39 _ (ad.add (k * 20)) (arrV (v)) av Try.underlying39 rfl (info39v (v)) rfl rfl ?_; go_big_quiet_on
  simp only [Act.put, List.setIfInBounds_toArray, List.set_cons_zero, List.set_cons_succ]
  refine wpQuiet_nil ?_
  generalize w'.drew = V0 at *
  refine wpTq_two ?_ ?_
  ·
    refine wpTq_one (o := ⟨_, _, _, _, _, _⟩) rfl (fun _ => hS) (by rfl) (fun K hK => ?_)
    refine wp_build0V rfl (hK _ _ (fun _ => hS.alloc _) ?_)
    clear hK
    clear K
    have own := own_none (k := 20) (enc := encV) hS.below.size (heap_alloc_new V0 (.cells #[] 39))
    have gg := (G.refl V0).alloc (.cells #[] 39)
    try have hd : ¬ (Value.slice (some ⟨(V0).heap.size, 0, none⟩) 0 0).ownBlock = some nb4 := (by simp only [Value.ownBlock, Option.some.injEq]; have := heap_lt b4; omega)
    try replace b4 := gg.blk b4
    replace hS := hS.alloc (.cells #[] 39)
    generalize (V0).heap.size = nb0 at *
    generalize (V0).alloc (.cells #[] 39) = V1 at *
    clear gg
    clear V0
    simp only [Act.put, List.setIfInBounds_toArray, List.set_cons_zero, List.set_cons_succ]
    refine wpTq_two ?_ ?_
    ·
      refine wpTq_one (o := ⟨_, _, _, _, _, _⟩) rfl (fun _ => hS) (by rfl) (fun K hK => ?_)
      have hlen : (L.drop k).length = n - k := by have := Hn.out; simp only [List.length_drop, List.length_take, List.length_singleton] <;> omega
      refine wp_appV _ _ w'.heap.size _ ([]) (L.drop k) (some (ad.add (k * 20))) (c - k) own ((HL6.out.drop k).grow hS) hS.below.size (by have := Hn.out; simp only [List.length_nil, List.length_drop, List.length_take, List.length_append, List.length_singleton]; omega) rfl rfl (by rw [hlen]; rfl) ?_
      clear hlen
      intro sv V2 ho hf hn
      refine hK _ _ (fun _ => F.gtrans hS hf (fun i hi => (own.block hi).1)) ?_
      clear hK
      clear K
      try have hd2 : ¬ sv.ownBlock = some nb4 := fun e => hn.elim (fun h => hd (h ▸ e)) (fun ⟨g, h1, h2⟩ => by rw [h1] at e; injection e with e; have := heap_lt b4; omega)
      try replace b4 := hf.blk b4 hd
      replace hS := F.gtrans hS hf (fun i hi => (own.block hi).1)
      try clear hd
      try (have hd := hd2; clear hd2)
      clear own hf hn
      have own := ho
      clear ho
      clear V1
      simp only [Act.put, List.setIfInBounds_toArray, List.set_cons_zero, List.set_cons_succ]
      rw [List.nil_append] at own
      refine wpTq_two ?_ ?_
      ·
        refine wpTq_one (o := ⟨_, _, _, _, _, _⟩) rfl (fun _ => hS) (by rfl) (fun K hK => ?_)
        have hlen : (L.take k).length = k := by have := Hn.out; simp only [List.length_drop, List.length_take, List.length_singleton] <;> omega
        refine wp_appV _ _ w'.heap.size _ (L.drop k) (L.take k) (some ad) (c) own ((HL6.out.take k).grow hS) hS.below.size (by have := Hn.out; simp only [List.length_nil, List.length_drop, List.length_take, List.length_append, List.length_singleton]; omega) rfl rfl (by rw [hlen]; rfl) ?_
        clear hlen
        intro sv V3 ho hf hn
        refine hK _ _ (fun _ => F.gtrans hS hf (fun i hi => (own.block hi).1)) ?_
        clear hK
        clear K
        try have hd2 : ¬ sv.ownBlock = some nb4 := fun e => hn.elim (fun h => hd (h ▸ e)) (fun ⟨g, h1, h2⟩ => by rw [h1] at e; injection e with e; have := heap_lt b4; omega)
        try replace b4 := hf.blk b4 hd
        replace hS := F.gtrans hS hf (fun i hi => (own.block hi).1)
        try clear hd
        try (have hd := hd2; clear hd2)
        clear own hf hn
        have own := ho
        clear ho
        clear V2
        simp only [Act.put, List.setIfInBounds_toArray, List.set_cons_zero, List.set_cons_succ]
        refine wpTq_one (o := ⟨_, _, _, _, _, _⟩) rfl (fun _ => hS) (by rfl) (fun K hK => ?_)
        refine wp_build1V _ v rfl rfl (hK _ _ (fun _ => hS.alloc _) ?_)
        clear hK
        clear K
        have b4 := heap_alloc_new V3 (.cells (arrV v) 39)
        have gg := (G.refl V3).alloc (.cells (arrV v) 39)
        try have hd := fun e => Nat.ne_of_lt (own.block (g := (V3).heap.size) e).2 rfl
        try replace own := own.grow gg
        replace hS := hS.alloc (.cells (arrV v) 39)
        obtain ⟨nb4, hnb4⟩ : ∃ nb4, (V3).heap.size = nb4 := ⟨_, rfl⟩
        rw [hnb4] at b4 ⊢
        try rw [hnb4] at hd
        clear hnb4
        generalize (V3).alloc (.cells (arrV v) 39) = V4 at *
        clear gg
        clear V3
        simp only [Act.put, List.setIfInBounds_toArray, List.set_cons_zero, List.set_cons_succ]
        refine wpTq_one (o := ⟨_, _, _, _, _, _⟩) rfl (fun _ => hS) (by rfl) (fun K hK => ?_)
        have hlen : ([v]).length = 1 := by have := Hn.out; simp only [List.length_drop, List.length_take, List.length_singleton] <;> omega
        refine wp_appV _ _ w'.heap.size _ (L.drop k ++ L.take k) ([v]) (some ⟨nb4, 0, none⟩) (1) own (rd_one b4) hS.below.size (by have := Hn.out; simp only [List.length_nil, List.length_drop, List.length_take, List.length_append, List.length_singleton]; omega) rfl rfl (by rw [hlen]; rfl) ?_
        clear hlen
        intro sv V5 ho hf hn
        refine hK _ _ (fun _ => F.gtrans hS hf (fun i hi => (own.block hi).1)) ?_
        clear hK
        clear K
        try have hd2 : ¬ sv.ownBlock = some nb4 := fun e => hn.elim (fun h => hd (h ▸ e)) (fun ⟨g, h1, h2⟩ => by rw [h1] at e; injection e with e; have := heap_lt b4; omega)
        try replace b4 := hf.blk b4 hd
        replace hS := F.gtrans hS hf (fun i hi => (own.block hi).1)
        try clear hd
        try (have hd := hd2; clear hd2)
        clear own hf hn
        have own := ho
        clear ho
        clear V4
        simp only [Act.put, List.setIfInBounds_toArray, List.set_cons_zero, List.set_cons_succ]
        obtain ⟨A2, c2, hsv, hA2, _, _⟩ := own.at encV_length
        refine wpTq_one (o := ⟨_, _, _, _, _, _⟩) rfl (fun _ => hS) (by rfl) (fun K hK => ?_)
        refine wp_callF #[.slice A2 (L.drop k ++ L.take k ++ [v]).length c2] Try.func12 (by kernel_rfl) rfl rfl (by rw [← hsv]; rfl) (new_any A2 (L.drop k ++ L.take k ++ [v]) c2 V5 hA2 (by have := Hn.out; simp only [List.length_append, List.length_singleton, List.length_drop, List.length_take]; omega)) ?_
        rintro e V6 ⟨bt2, rfl, hT2, hg⟩
        refine ⟨_, rfl, hK _ _ (fun _ => hS.trans hg) ?_⟩
        clear hK
        clear K
        simp only [Act.put, List.setIfInBounds_toArray, List.set_cons_zero, List.set_cons_succ]
        refine wpTq_qG (hS.trans hg) ?_
        change wpQuiet _ _ _ _ [_] _
        repeat (first | go_big_quiet_skip | (go_big_quiet_want; go_big_quiet_op; go_big_quiet_on))
        refine wpQuiet_nil ?_
        refine wpTq_nil ?_
        exact key _ _ _ _ _ _ _ V6 (hS.trans hg) hT2
      ·
        refine wpTq_one (o := ⟨_, _, _, _, _, _⟩) rfl (fun _ => hS) (by rfl) (fun K hK => ?_)
        refine wp_build1V _ v rfl rfl (hK _ _ (fun _ => hS.alloc _) ?_)
        clear hK
        clear K
        have b4 := heap_alloc_new V2 (.cells (arrV v) 39)
        have gg := (G.refl V2).alloc (.cells (arrV v) 39)
        try have hd := fun e => Nat.ne_of_lt (own.block (g := (V2).heap.size) e).2 rfl
        try replace own := own.grow gg
        replace hS := hS.alloc (.cells (arrV v) 39)
        obtain ⟨nb4, hnb4⟩ : ∃ nb4, (V2).heap.size = nb4 := ⟨_, rfl⟩
        rw [hnb4] at b4 ⊢
        try rw [hnb4] at hd
        clear hnb4
        generalize (V2).alloc (.cells (arrV v) 39) = V3 at *
        clear gg
        clear V2
        simp only [Act.put, List.setIfInBounds_toArray, List.set_cons_zero, List.set_cons_succ]
        refine wpTq_one (o := ⟨_, _, _, _, _, _⟩) rfl (fun _ => hS) (by rfl) (fun K hK => ?_)
        have hlen : (L.take k).length = k := by have := Hn.out; simp only [List.length_drop, List.length_take, List.length_singleton] <;> omega
        refine wp_appV _ _ w'.heap.size _ (L.drop k) (L.take k) (some ad) (c) own ((HL6.out.take k).grow hS) hS.below.size (by have := Hn.out; simp only [List.length_nil, List.length_drop, List.length_take, List.length_append, List.length_singleton]; omega) rfl rfl (by rw [hlen]; rfl) ?_
        clear hlen
        intro sv V4 ho hf hn
        refine hK _ _ (fun _ => F.gtrans hS hf (fun i hi => (own.block hi).1)) ?_
        clear hK
        clear K
        try have hd2 : ¬ sv.ownBlock = some nb4 := fun e => hn.elim (fun h => hd (h ▸ e)) (fun ⟨g, h1, h2⟩ => by rw [h1] at e; injection e with e; have := heap_lt b4; omega)
        try replace b4 := hf.blk b4 hd
        replace hS := F.gtrans hS hf (fun i hi => (own.block hi).1)
        try clear hd
        try (have hd := hd2; clear hd2)
        clear own hf hn
        have own := ho
        clear ho
        clear V3
        simp only [Act.put, List.setIfInBounds_toArray, List.set_cons_zero, List.set_cons_succ]
        refine wpTq_one (o := ⟨_, _, _, _, _, _⟩) rfl (fun _ => hS) (by rfl) (fun K hK => ?_)
        have hlen : ([v]).length = 1 := by have := Hn.out; simp only [List.length_drop, List.length_take, List.length_singleton] <;> omega
        refine wp_appV _ _ w'.heap.size _ (L.drop k ++ L.take k) ([v]) (some ⟨nb4, 0, none⟩) (1) own (rd_one b4) hS.below.size (by have := Hn.out; simp only [List.length_nil, List.length_drop, List.length_take, List.length_append, List.length_singleton]; omega) rfl rfl (by rw [hlen]; rfl) ?_
        clear hlen
        intro sv V5 ho hf hn
        refine hK _ _ (fun _ => F.gtrans hS hf (fun i hi => (own.block hi).1)) ?_
        clear hK
        clear K
        try have hd2 : ¬ sv.ownBlock = some nb4 := fun e => hn.elim (fun h => hd (h ▸ e)) (fun ⟨g, h1, h2⟩ => by rw [h1] at e; injection e with e; have := heap_lt b4; omega)
        try replace b4 := hf.blk b4 hd
        replace hS := F.gtrans hS hf (fun i hi => (own.block hi).1)
        try clear hd
        try (have hd := hd2; clear hd2)
        clear own hf hn
        have own := ho
        clear ho
        clear V4
        simp only [Act.put, List.setIfInBounds_toArray, List.set_cons_zero, List.set_cons_succ]
        obtain ⟨A2, c2, hsv, hA2, _, _⟩ := own.at encV_length
        refine wpTq_one (o := ⟨_, _, _, _, _, _⟩) rfl (fun _ => hS) (by rfl) (fun K hK => ?_)
        refine wp_callF #[.slice A2 (L.drop k ++ L.take k ++ [v]).length c2] Try.func12 (by kernel_rfl) rfl rfl (by rw [← hsv]; rfl) (new_any A2 (L.drop k ++ L.take k ++ [v]) c2 V5 hA2 (by have := Hn.out; simp only [List.length_append, List.length_singleton, List.length_drop, List.length_take]; omega)) ?_
        rintro e V6 ⟨bt2, rfl, hT2, hg⟩
        refine ⟨_, rfl, hK _ _ (fun _ => hS.trans hg) ?_⟩
        clear hK
        clear K
        simp only [Act.put, List.setIfInBounds_toArray, List.set_cons_zero, List.set_cons_succ]
        refine wpTq_qG (hS.trans hg) ?_
        change wpQuiet _ _ _ _ [_] _
        repeat (first | go_big_quiet_skip | (go_big_quiet_want; go_big_quiet_op; go_big_quiet_on))
        refine wpQuiet_nil ?_
        refine wpTq_nil ?_
        exact key _ _ _ _ _ _ _ V6 (hS.trans hg) hT2
    ·
      refine wpTq_one (o := ⟨_, _, _, _, _, _⟩) rfl (fun _ => hS) (by rfl) (fun K hK => ?_)
      refine wp_build1V _ v rfl rfl (hK _ _ (fun _ => hS.alloc _) ?_)
      clear hK
      clear K
      have b4 := heap_alloc_new V1 (.cells (arrV v) 39)
      have gg := (G.refl V1).alloc (.cells (arrV v) 39)
      try have hd := fun e => Nat.ne_of_lt (own.block (g := (V1).heap.size) e).2 rfl
      try replace own := own.grow gg
      replace hS := hS.alloc (.cells (arrV v) 39)
      obtain ⟨nb4, hnb4⟩ : ∃ nb4, (V1).heap.size = nb4 := ⟨_, rfl⟩
      rw [hnb4] at b4 ⊢
      try rw [hnb4] at hd
      clear hnb4
      generalize (V1).alloc (.cells (arrV v) 39) = V2 at *
      clear gg
      clear V1
      simp only [Act.put, List.setIfInBounds_toArray, List.set_cons_zero, List.set_cons_succ]
      refine wpTq_one (o := ⟨_, _, _, _, _, _⟩) rfl (fun _ => hS) (by rfl) (fun K hK => ?_)
      have hlen : (L.drop k).length = n - k := by have := Hn.out; simp only [List.length_drop, List.length_take, List.length_singleton] <;> omega
      refine wp_appV _ _ w'.heap.size _ ([]) (L.drop k) (some (ad.add (k * 20))) (c - k) own ((HL6.out.drop k).grow hS) hS.below.size (by have := Hn.out; simp only [List.length_nil, List.length_drop, List.length_take, List.length_append, List.length_singleton]; omega) rfl rfl (by rw [hlen]; rfl) ?_
      clear hlen
      intro sv V3 ho hf hn
      refine hK _ _ (fun _ => F.gtrans hS hf (fun i hi => (own.block hi).1)) ?_
      clear hK
      clear K
      try have hd2 : ¬ sv.ownBlock = some nb4 := fun e => hn.elim (fun h => hd (h ▸ e)) (fun ⟨g, h1, h2⟩ => by rw [h1] at e; injection e with e; have := heap_lt b4; omega)
      try replace b4 := hf.blk b4 hd
      replace hS := F.gtrans hS hf (fun i hi => (own.block hi).1)
      try clear hd
      try (have hd := hd2; clear hd2)
      clear own hf hn
      have own := ho
      clear ho
      clear V2
      simp only [Act.put, List.setIfInBounds_toArray, List.set_cons_zero, List.set_cons_succ]
      rw [List.nil_append] at own
      refine wpTq_one (o := ⟨_, _, _, _, _, _⟩) rfl (fun _ => hS) (by rfl) (fun K hK => ?_)
      have hlen : (L.take k).length = k := by have := Hn.out; simp only [List.length_drop, List.length_take, List.length_singleton] <;> omega
      refine wp_appV _ _ w'.heap.size _ (L.drop k) (L.take k) (some ad) (c) own ((HL6.out.take k).grow hS) hS.below.size (by have := Hn.out; simp only [List.length_nil, List.length_drop, List.length_take, List.length_append, List.length_singleton]; omega) rfl rfl (by rw [hlen]; rfl) ?_
      clear hlen
      intro sv V4 ho hf hn
      refine hK _ _ (fun _ => F.gtrans hS hf (fun i hi => (own.block hi).1)) ?_
      clear hK
      clear K
      try have hd2 : ¬ sv.ownBlock = some nb4 := fun e => hn.elim (fun h => hd (h ▸ e)) (fun ⟨g, h1, h2⟩ => by rw [h1] at e; injection e with e; have := heap_lt b4; omega)
      try replace b4 := hf.blk b4 hd
      replace hS := F.gtrans hS hf (fun i hi => (own.block hi).1)
      try clear hd
      try (have hd := hd2; clear hd2)
      clear own hf hn
      have own := ho
      clear ho
      clear V3
      simp only [Act.put, List.setIfInBounds_toArray, List.set_cons_zero, List.set_cons_succ]
      refine wpTq_one (o := ⟨_, _, _, _, _, _⟩) rfl (fun _ => hS) (by rfl) (fun K hK => ?_)
      have hlen : ([v]).length = 1 := by have := Hn.out; simp only [List.length_drop, List.length_take, List.length_singleton] <;> omega
      refine wp_appV _ _ w'.heap.size _ (L.drop k ++ L.take k) ([v]) (some ⟨nb4, 0, none⟩) (1) own (rd_one b4) hS.below.size (by have := Hn.out; simp only [List.length_nil, List.length_drop, List.length_take, List.length_append, List.length_singleton]; omega) rfl rfl (by rw [hlen]; rfl) ?_
      clear hlen
      intro sv V5 ho hf hn
      refine hK _ _ (fun _ => F.gtrans hS hf (fun i hi => (own.block hi).1)) ?_
      clear hK
      clear K
      try have hd2 : ¬ sv.ownBlock = some nb4 := fun e => hn.elim (fun h => hd (h ▸ e)) (fun ⟨g, h1, h2⟩ => by rw [h1] at e; injection e with e; have := heap_lt b4; omega)
      try replace b4 := hf.blk b4 hd
      replace hS := F.gtrans hS hf (fun i hi => (own.block hi).1)
      try clear hd
      try (have hd := hd2; clear hd2)
      clear own hf hn
      have own := ho
      clear ho
      clear V4
      simp only [Act.put, List.setIfInBounds_toArray, List.set_cons_zero, List.set_cons_succ]
      obtain ⟨A2, c2, hsv, hA2, _, _⟩ := own.at encV_length
      refine wpTq_one (o := ⟨_, _, _, _, _, _⟩) rfl (fun _ => hS) (by rfl) (fun K hK => ?_)
      refine wp_callF #[.slice A2 (L.drop k ++ L.take k ++ [v]).length c2] Try.func12 (by kernel_rfl) rfl rfl (by rw [← hsv]; rfl) (new_any A2 (L.drop k ++ L.take k ++ [v]) c2 V5 hA2 (by have := Hn.out; simp only [List.length_append, List.length_singleton, List.length_drop, List.length_take]; omega)) ?_
      rintro e V6 ⟨bt2, rfl, hT2, hg⟩
      refine ⟨_, rfl, hK _ _ (fun _ => hS.trans hg) ?_⟩
      clear hK
      clear K
      simp only [Act.put, List.setIfInBounds_toArray, List.set_cons_zero, List.set_cons_succ]
      refine wpTq_qG (hS.trans hg) ?_
      change wpQuiet _ _ _ _ [_] _
      repeat (first | go_big_quiet_skip | (go_big_quiet_want; go_big_quiet_op; go_big_quiet_on))
      refine wpQuiet_nil ?_
      refine wpTq_nil ?_
      exact key _ _ _ _ _ _ _ V6 (hS.trans hg) hT2
  ·
    refine wpTq_one (o := ⟨_, _, _, _, _, _⟩) rfl (fun _ => hS) (by rfl) (fun K hK => ?_)
    refine wp_build1V _ v rfl rfl (hK _ _ (fun _ => hS.alloc _) ?_)
    clear hK
    clear K
    have b4 := heap_alloc_new V0 (.cells (arrV v) 39)
    have gg := (G.refl V0).alloc (.cells (arrV v) 39)
    try have hd := fun e => Nat.ne_of_lt (own.block (g := (V0).heap.size) e).2 rfl
    try replace own := own.grow gg
    replace hS := hS.alloc (.cells (arrV v) 39)
    obtain ⟨nb4, hnb4⟩ : ∃ nb4, (V0).heap.size = nb4 := ⟨_, rfl⟩
    rw [hnb4] at b4 ⊢
    try rw [hnb4] at hd
    clear hnb4
    generalize (V0).alloc (.cells (arrV v) 39) = V1 at *
    clear gg
    clear V0
    simp only [Act.put, List.setIfInBounds_toArray, List.set_cons_zero, List.set_cons_succ]
    refine wpTq_one (o := ⟨_, _, _, _, _, _⟩) rfl (fun _ => hS) (by rfl) (fun K hK => ?_)
    refine wp_build0V rfl (hK _ _ (fun _ => hS.alloc _) ?_)
    clear hK
    clear K
    have own := own_none (k := 20) (enc := encV) hS.below.size (heap_alloc_new V1 (.cells #[] 39))
    have gg := (G.refl V1).alloc (.cells #[] 39)
    try have hd : ¬ (Value.slice (some ⟨(V1).heap.size, 0, none⟩) 0 0).ownBlock = some nb4 := (by simp only [Value.ownBlock, Option.some.injEq]; have := heap_lt b4; omega)
    try replace b4 := gg.blk b4
    replace hS := hS.alloc (.cells #[] 39)
    generalize (V1).heap.size = nb0 at *
    generalize (V1).alloc (.cells #[] 39) = V2 at *
    clear gg
    clear V1
    simp only [Act.put, List.setIfInBounds_toArray, List.set_cons_zero, List.set_cons_succ]
    refine wpTq_one (o := ⟨_, _, _, _, _, _⟩) rfl (fun _ => hS) (by rfl) (fun K hK => ?_)
    have hlen : (L.drop k).length = n - k := by have := Hn.out; simp only [List.length_drop, List.length_take, List.length_singleton] <;> omega
    refine wp_appV _ _ w'.heap.size _ ([]) (L.drop k) (some (ad.add (k * 20))) (c - k) own ((HL6.out.drop k).grow hS) hS.below.size (by have := Hn.out; simp only [List.length_nil, List.length_drop, List.length_take, List.length_append, List.length_singleton]; omega) rfl rfl (by rw [hlen]; rfl) ?_
    clear hlen
    intro sv V3 ho hf hn
    refine hK _ _ (fun _ => F.gtrans hS hf (fun i hi => (own.block hi).1)) ?_
    clear hK
    clear K
    try have hd2 : ¬ sv.ownBlock = some nb4 := fun e => hn.elim (fun h => hd (h ▸ e)) (fun ⟨g, h1, h2⟩ => by rw [h1] at e; injection e with e; have := heap_lt b4; omega)
    try replace b4 := hf.blk b4 hd
    replace hS := F.gtrans hS hf (fun i hi => (own.block hi).1)
    try clear hd
    try (have hd := hd2; clear hd2)
    clear own hf hn
    have own := ho
    clear ho
    clear V2
    simp only [Act.put, List.setIfInBounds_toArray, List.set_cons_zero, List.set_cons_succ]
    rw [List.nil_append] at own
    refine wpTq_one (o := ⟨_, _, _, _, _, _⟩) rfl (fun _ => hS) (by rfl) (fun K hK => ?_)
    have hlen : (L.take k).length = k := by have := Hn.out; simp only [List.length_drop, List.length_take, List.length_singleton] <;> omega
    refine wp_appV _ _ w'.heap.size _ (L.drop k) (L.take k) (some ad) (c) own ((HL6.out.take k).grow hS) hS.below.size (by have := Hn.out; simp only [List.length_nil, List.length_drop, List.length_take, List.length_append, List.length_singleton]; omega) rfl rfl (by rw [hlen]; rfl) ?_
    clear hlen
    intro sv V4 ho hf hn
    refine hK _ _ (fun _ => F.gtrans hS hf (fun i hi => (own.block hi).1)) ?_
    clear hK
    clear K
    try have hd2 : ¬ sv.ownBlock = some nb4 := fun e => hn.elim (fun h => hd (h ▸ e)) (fun ⟨g, h1, h2⟩ => by rw [h1] at e; injection e with e; have := heap_lt b4; omega)
    try replace b4 := hf.blk b4 hd
    replace hS := F.gtrans hS hf (fun i hi => (own.block hi).1)
    try clear hd
    try (have hd := hd2; clear hd2)
    clear own hf hn
    have own := ho
    clear ho
    clear V3
    simp only [Act.put, List.setIfInBounds_toArray, List.set_cons_zero, List.set_cons_succ]
    refine wpTq_one (o := ⟨_, _, _, _, _, _⟩) rfl (fun _ => hS) (by rfl) (fun K hK => ?_)
    have hlen : ([v]).length = 1 := by have := Hn.out; simp only [List.length_drop, List.length_take, List.length_singleton] <;> omega
    refine wp_appV _ _ w'.heap.size _ (L.drop k ++ L.take k) ([v]) (some ⟨nb4, 0, none⟩) (1) own (rd_one b4) hS.below.size (by have := Hn.out; simp only [List.length_nil, List.length_drop, List.length_take, List.length_append, List.length_singleton]; omega) rfl rfl (by rw [hlen]; rfl) ?_
    clear hlen
    intro sv V5 ho hf hn
    refine hK _ _ (fun _ => F.gtrans hS hf (fun i hi => (own.block hi).1)) ?_
    clear hK
    clear K
    try have hd2 : ¬ sv.ownBlock = some nb4 := fun e => hn.elim (fun h => hd (h ▸ e)) (fun ⟨g, h1, h2⟩ => by rw [h1] at e; injection e with e; have := heap_lt b4; omega)
    try replace b4 := hf.blk b4 hd
    replace hS := F.gtrans hS hf (fun i hi => (own.block hi).1)
    try clear hd
    try (have hd := hd2; clear hd2)
    clear own hf hn
    have own := ho
    clear ho
    clear V4
    simp only [Act.put, List.setIfInBounds_toArray, List.set_cons_zero, List.set_cons_succ]
    obtain ⟨A2, c2, hsv, hA2, _, _⟩ := own.at encV_length
    refine wpTq_one (o := ⟨_, _, _, _, _, _⟩) rfl (fun _ => hS) (by rfl) (fun K hK => ?_)
    refine wp_callF #[.slice A2 (L.drop k ++ L.take k ++ [v]).length c2] Try.func12 (by kernel_rfl) rfl rfl (by rw [← hsv]; rfl) (new_any A2 (L.drop k ++ L.take k ++ [v]) c2 V5 hA2 (by have := Hn.out; simp only [List.length_append, List.length_singleton, List.length_drop, List.length_take]; omega)) ?_
    rintro e V6 ⟨bt2, rfl, hT2, hg⟩
    refine ⟨_, rfl, hK _ _ (fun _ => hS.trans hg) ?_⟩
    clear hK
    clear K
    simp only [Act.put, List.setIfInBounds_toArray, List.set_cons_zero, List.set_cons_succ]
    refine wpTq_qG (hS.trans hg) ?_
    change wpQuiet _ _ _ _ [_] _
    repeat (first | go_big_quiet_skip | (go_big_quiet_want; go_big_quiet_op; go_big_quiet_on))
    refine wpQuiet_nil ?_
    refine wpTq_nil ?_
    exact key _ _ _ _ _ _ _ V6 (hS.trans hg) hT2
end Go.Proofs.Ytedgbmibgddnkaa
