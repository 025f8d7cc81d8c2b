/- The same walk for lists of any length. -/
import Derived.Test.YtedgbmibgddnkaaX2
import Derived.Test.YtedgbmibgddnkaaP5
import Derived.Test.YtedgbmibgddnkaaN2
import Derived.Test.YtedgbmibgddnkaaA4
namespace Go.Proofs.Ytedgbmibgddnkaa
open Go.RowKit Ad
set_option linter.unusedSimpArgs false
set_option linter.unusedVariables false
set_option maxRecDepth 100000
set_option maxHeartbeats 1000000
theorem few_nats : ∀ (N : Nat) (l : List Nat), l.Nodup → (∀ x ∈ l, x < N) → l.length ≤ N
  | 0, l, _, h => by
    cases l with
    | nil => simp
    | cons x l => exact absurd (h x (by simp)) (by omega)
  | N + 1, l, hn, h => by
    have h1 := few_nats N (l.erase N) (hn.erase N) (fun x hx => by
      have h2 := (hn.mem_erase_iff).1 hx
      have := h x h2.2
      omega)
    have h3 : l.length ≤ (l.erase N).length + 1 := by
      rw [List.length_erase]
      split <;> omega
    omega
theorem few_vrps (L : List Vrp) (κ : Bool) (π : List Nat) (hn : L.Nodup) (h1 : ∀ v ∈ L, Ad.one v = true) (has : ∀ v ∈ L, 0 ≤ v.as ∧ v.as < 4294967296) : (here L κ π).length ≤ 4294967296 * 129 := by
  have hinj : ∀ v ∈ here L κ π, ∀ u ∈ here L κ π, v.as.toNat * 129 + v.max.toNat = u.as.toNat * 129 + u.max.toNat → v = u := by
    intro v hv u hu he
    obtain ⟨a1, a2, a3⟩ := mem_here.1 hv
    obtain ⟨b1, b2, b3⟩ := mem_here.1 hu
    have o1 := h1 v a1
    have o2 := h1 u b1
    unfold Ad.one at o1 o2
    simp only [Bool.and_eq_true, decide_eq_true_eq] at o1 o2
    have r1 := (right_iff v.p).1 o1.1.1
    have r2 := (right_iff u.p).1 o2.1.1
    have m1 := most_le v.p.v6
    have m2 := most_le u.p.v6
    have s1 := has v a1
    have s2 := has u b1
    have e1 : v.max = u.max := by omega
    have e2 : v.as = u.as := by omega
    have e3 : v.p.len = u.p.len := by
      have := congrArg List.length (a3.trans b3.symm)
      simp only [vpath, pathOf_length] at this
      omega
    have e4 : v.p.addr = u.p.addr := by
      apply Adr.ext_bits
      intro i hi
      by_cases hl : (i : Int) < v.p.len
      · have e := congrArg (fun l => l[i]?) (a3.trans b3.symm)
        simp only [vpath, pathOf, List.getElem?_map, List.getElem?_range (show i < v.p.len.toNat by omega), List.getElem?_range (show i < u.p.len.toNat by omega), Option.map_some, Option.some.injEq] at e
        exact e
      · rw [r1.2.2 i hi (by omega), r2.2.2 i hi (by omega)]
    have e5 : v.p.v6 = u.p.v6 := a2.trans b2.symm
    obtain ⟨va, ⟨v6, vad, vl⟩, vm⟩ := v
    obtain ⟨ua, ⟨u6, uad, ul⟩, um⟩ := u
    simp only at e1 e2 e3 e4 e5
    subst e1 e2 e3 e4 e5
    rfl
  have hm : ((here L κ π).map fun v => v.as.toNat * 129 + v.max.toNat).Nodup := by
    have hd := here_nodup hn κ π
    rw [List.Nodup, List.pairwise_map]
    refine List.Pairwise.imp_of_mem ?_ hd
    intro a b ha hb hne he
    exact hne (hinj a ha b hb he)
  have := few_nats (4294967296 * 129) _ hm (by
    intro x hx
    obtain ⟨v, hv, rfl⟩ := List.mem_map.1 hx
    obtain ⟨a1, a2, a3⟩ := mem_here.1 hv
    have o1 := h1 v a1
    unfold Ad.one at o1
    simp only [Bool.and_eq_true, decide_eq_true_eq] at o1
    have m1 := most_le v.p.v6
    have s1 := has v a1
    omega)
  simpa using this
theorem here_few {L : List Vrp} (has : ∀ v ∈ L, 0 ≤ v.as ∧ v.as < 4294967296) (k : Nat) (x : Vrp) : ((here (trieL (L.take k)) x.p.v6 (vpath x)).length + 1) * 48 ≤ 140737488355328 := by
  have := few_vrps (trieL (L.take k)) x.p.v6 (vpath x) (trieL_nodup _) (trieL_one _) (fun v hv => has v (List.mem_of_mem_take (mem_trieL.1 hv).1))
  omega
theorem new_wide (A : Option Addr) (L : List Vrp) (c : Nat) (w : World) (hL : RdV w A L) (hbytes : L.length ≤ maxLen) (has : ∀ v ∈ L, 0 ≤ v.as ∧ v.as < 4294967296) :
    Calls Try.prog 12 #[.slice A L.length c] w fun e w' => ∃ bt, e = .returned (.pointer (some ⟨bt, 0, none⟩)) ∧ TrieIs w' w.heap.size bt (trieL L) ∧ G w w' := by
  obtain ⟨n, hn⟩ : ∃ n, L.length = n := ⟨_, rfl⟩
  have Hn := Lib.hid hn
  have HL := Lib.hid hL
  rw [hn] at hbytes ⊢
  clear hn hL
  simp only [maxLen] at hbytes
  have HAS := Lib.hid has
  clear has
  go_enter Try.func12, Try.ntmps12
  go_wp2
  have hT := trie_start w
  have g0 := (((G.refl w).alloc (.cells #[.slice none 0 0, .pointer none, .pointer none] 67)).alloc (.cells #[.slice none 0 0, .pointer none, .pointer none] 67)).alloc (.cells #[.pointer (some ⟨w.heap.size, 0, none⟩), .pointer (some ⟨w.heap.size + 1, 0, none⟩), .int .i64 0] 69)
  obtain ⟨bt, hbt⟩ : ∃ bt, w.heap.size + 1 + 1 = bt := ⟨_, rfl⟩
  rw [hbt] at hT ⊢
  generalize w.heap.size + 1 = r2 at *
  generalize (((w.alloc (.cells #[.slice none 0 0, .pointer none, .pointer none] 67)).alloc (.cells #[.slice none 0 0, .pointer none, .pointer none] 67)).alloc (.cells #[.pointer (some ⟨w.heap.size, 0, none⟩), .pointer (some ⟨r2, 0, none⟩), .int .i64 0] 69)) = W at *
  have HT := Lib.hid hT
  clear hT
  go_loopw [5, 15, 16, 17, 18, 19, 20, 21, 22, 23, 24] (fun _ i _ _ _ _ _ _ _ _ _ wr => ∃ k : Nat, k ≤ n ∧ i = .int .i64 k ∧ G w wr ∧ Hid (TrieIs wr w.heap.size bt (trieL (L.take k)))) (fun _ i _ _ _ _ _ _ _ _ _ _ => n - (intOf i).toNat)
  case atStart => exact ⟨0, by omega, rfl, g0, HT⟩
  case round =>
    clear g0 HT
    obtain ⟨k, hk, rfl, gr, HT⟩ := hrel
    by_cases hlt : k < n
    · obtain ⟨x, hx⟩ : ∃ x, L[k]? = some x := ⟨_, List.getElem?_eq_getElem (by have := Hn.out; omega)⟩
      obtain ⟨ad, rfl, ha⟩ := HL.out k x hx
      replace ha := ha.grow gr
      have HX := Lib.hid (trieL_take L k x hx)
      have HB := Lib.hid (show (trieL (L.take k)).length ≤ k by
        refine Nat.le_trans (trieL_length _ []) ?_
        simp only [List.length_nil, List.length_take]
        omega)
      clear hx
      go_upto_region 4 with fail
      refine region_head 2 ?_
      simp only [List.take_succ_cons, List.take_zero, List.drop_succ_cons, List.drop_zero]
      repeat (first | go_big_quiet_skip | (go_big_quiet_want; go_big_quiet_op; go_big_quiet_on))
      go_big_quiet_want; refine q_load 39 _ (ad.add (k * 20)) (arrV (x)) ha Try.underlying39 rfl (info39v (x)) rfl rfl ?_; go_big_quiet_on
      simp only [Act.put, List.setIfInBounds_toArray, List.set_cons_zero, List.set_cons_succ]
      refine wpQuiet_nil ?_
      intro W1 hg1
      have hT1 := HT.out.grow hg1
      have g1 := gr.trans hg1
      clear HT ha gr hg1
      refine wl_alloc (T := 39) (Z := Zv) info39z rfl rfl ?_
      have b2 := heap_alloc_new W1 (.cells Zv 39)
      have i2 : Zv.size = (arrV x).size := by rw [arrV_size]; exact arrV_size _
      simp only [Act.put, List.setIfInBounds_toArray, List.set_cons_zero, List.set_cons_succ]
      refine wl_store 39 _ _ W1.heap.size 0 (arrV x) Zv 39 b2 (by omega) (info39v x) (arrV_one x) rfl rfl rfl rfl ?_
      rw [splA_all _ _ i2]
      have b3 := row_set (D := arrV x) b2
      have g3 := ((G.refl W1).alloc (.cells Zv 39)).row (b := W1.heap.size) (Nat.le_refl _) (arrV x)
      have hb0 := g1.below.size
      have T3 := Lib.hid (hT1.grow g3)
      replace g3 := g1.trans g3
      obtain ⟨b, hb⟩ : ∃ b, W1.heap.size = b := ⟨_, rfl⟩
      rw [hb] at b3 g3 T3 hb0 ⊢
      generalize (W1.alloc (.cells Zv 39)).setRow b (arrV x) = W3 at *
      clear hb b2 i2 g1 hT1
      clear W1
      refine wpList_nil ?_
      simp only [Act.put, List.setIfInBounds_toArray, List.set_cons_zero, List.set_cons_succ]
      go_upto_region 5 with fail
      have h1 := fun W => one_any x W
      have HX2 := HX.out
      unfold step at HX2
      obtain ⟨d, hd⟩ : ∃ d, Ad.one x = d := ⟨_, rfl⟩
      rw [hd] at HX2 h1
      have Hd := Lib.hid hd
      clear hd HX
      refine region_seq ?_
      go_big_quiet_want; refine q_load 39 _ ⟨b, 0, none⟩ (arrV (x)) (at_blk b3) Try.underlying39 rfl (info39v (x)) rfl rfl ?_; go_big_quiet_on
      simp only [Act.put, List.setIfInBounds_toArray, List.set_cons_zero, List.set_cons_succ]
      go_big_quiet_want; go_big_quiet_op; refine ⟨_, fun g => cls (h1 _), ?_⟩; go_big_quiet_on
      refine wpQuiet_nil ?_
      intro W4 hg4
      have g4 := g3.trans hg4
      have b4 := hg4.blk b3
      have T4 := Lib.hid (T3.out.grow hg4)
      clear g3 b3 T3 hg4 h1
      clear W3
      cases d
      · rw [if_neg (by simp)] at HX2
        have HX := Lib.hid HX2
        clear HX2
        go_wp2
        go_roundw
        case rel => exact ⟨k + 1, by omega, by go_num, g4, Lib.hid (by rw [HX.out]; exact T4.out)⟩
        case measure => simp [intOf]; omega
      · rw [if_pos rfl] at HX2
        have HX := Lib.hid HX2
        clear HX2
        go_upto_region 6 with fail
        refine region_head 2 ?_
        simp only [List.take_succ_cons, List.take_zero, List.drop_succ_cons, List.drop_zero]
        repeat (first | go_big_quiet_skip | (go_big_quiet_want; go_big_quiet_op; go_big_quiet_on))
        go_big_quiet_want; refine q_load 39 _ ⟨b, 0, none⟩ (arrV (x)) (at_blk b4) Try.underlying39 rfl (info39v (x)) rfl rfl ?_; go_big_quiet_on
        simp only [Act.put, List.setIfInBounds_toArray, List.set_cons_zero, List.set_cons_succ]
        refine wpQuiet_nil ?_
        intro W5 hg5
        have g5 := g4.trans hg5
        have T5 := T4.out.grow hg5
        clear g4 b4 T4 hg5
        have hput := put_wide w.heap.size bt (trieL (L.take k)) x W5 T5 g5.below.size (one_len Hd.out) (here_few HAS.out k x) (by have := HB.out; omega)
        have G5 := Lib.hid g5
        clear T5 g5
        go_wp2_with (go_at_call 38; refine hput.mono ?_; rintro e w' ⟨rfl, hT6, hF6⟩; clear hput; have T6 := Lib.hid hT6; have G6 := Lib.hid (F.gtrans G5.out hF6 (fun i h => h)); clear hT6 hF6 G5)
        go_roundw
        case rel => exact ⟨k + 1, by omega, by go_num, G6.out, Lib.hid (by rw [HX.out]; exact T6.out)⟩
        case measure => simp [intOf]; omega
    · obtain rfl : k = n := by omega
      have HT2 := Lib.hid (show TrieIs wr w.heap.size bt (trieL L) by
        have := HT.out
        rwa [List.take_of_length_le (by have := Hn.out; omega)] at this)
      clear HT
      go_wp2
      go_ret
      exact ⟨bt, rfl, HT2.out, gr⟩
end Go.Proofs.Ytedgbmibgddnkaa
