/- The walk that makes a trie of a list. -/
import Derived.Test.YtedgbmibgddnkaaP1
import Derived.Test.YtedgbmibgddnkaaN2
import Derived.Test.YtedgbmibgddnkaaA4
namespace Go.Proofs.Ytedgbmibgddnkaa
open Go.RowKit Ad
set_option linter.unusedSimpArgs false
set_option linter.unusedVariables false
set_option maxRecDepth 100000
set_option maxHeartbeats 1000000
def step (acc : List Vrp) (v : Vrp) : List Vrp := if one v then ins acc v else acc
/-- What a trie of a list has. -/
def trieL (L : List Vrp) : List Vrp := L.foldl step []
theorem ins_length (L : List Vrp) (v : Vrp) : (ins L v).length ≤ L.length + 1 := by unfold ins; split <;> simp
theorem trieL_length : ∀ (L acc : List Vrp), (L.foldl step acc).length ≤ acc.length + L.length
  | [], acc => by simp
  | v :: L, acc => by
    refine Nat.le_trans (trieL_length L (step acc v)) ?_
    have : (step acc v).length ≤ acc.length + 1 := by
      unfold step
      split
      · exact ins_length _ _
      · omega
    simp only [List.length_cons]
    omega
theorem trieL_take (L : List Vrp) (k : Nat) (x : Vrp) (hx : L[k]? = some x) : trieL (L.take (k + 1)) = step (trieL (L.take k)) x := by
  unfold trieL
  obtain ⟨hlt, rfl⟩ := List.getElem?_eq_some_iff.1 hx
  rw [List.take_succ_eq_append_getElem hlt, List.foldl_append]
  rfl
theorem one_len {v : Vrp} (h : one v = true) : 0 ≤ v.p.len ∧ v.p.len ≤ 128 := by
  unfold one at h
  simp only [Bool.and_eq_true] at h
  have h1 := (right_iff v.p).1 h.1.1
  have := most_le v.p.v6
  omega
theorem trie_start (w : World) : TrieIs (((w.alloc (.cells #[.slice none 0 0, .pointer none, .pointer none] 67)).alloc (.cells #[.slice none 0 0, .pointer none, .pointer none] 67)).alloc (.cells #[.pointer (some ⟨w.heap.size, 0, none⟩), .pointer (some ⟨w.heap.size + 1, 0, none⟩), .int .i64 0] 69)) w.heap.size (w.heap.size + 1 + 1) [] := by
  have hs : ∀ (w : World) (o : Obj), (w.alloc o).heap.size = w.heap.size + 1 := by intro w o; simp
  have h1 : (((w.alloc (.cells #[.slice none 0 0, .pointer none, .pointer none] 67)).alloc (.cells #[.slice none 0 0, .pointer none, .pointer none] 67)).alloc (.cells #[.pointer (some ⟨w.heap.size, 0, none⟩), .pointer (some ⟨w.heap.size + 1, 0, none⟩), .int .i64 0] 69)).heap[w.heap.size]? = some (.cells #[.slice none 0 0, .pointer none, .pointer none] 67 (0, 0)) := by
    rw [heap_alloc_old _ _ (by rw [hs, hs]; omega), heap_alloc_old _ _ (by rw [hs]; omega)]
    exact heap_alloc_new _ _
  have h2 : (((w.alloc (.cells #[.slice none 0 0, .pointer none, .pointer none] 67)).alloc (.cells #[.slice none 0 0, .pointer none, .pointer none] 67)).alloc (.cells #[.pointer (some ⟨w.heap.size, 0, none⟩), .pointer (some ⟨w.heap.size + 1, 0, none⟩), .int .i64 0] 69)).heap[w.heap.size + 1]? = some (.cells #[.slice none 0 0, .pointer none, .pointer none] 67 (0, 0)) := by
    rw [heap_alloc_old _ _ (by rw [hs, hs]; omega), ← hs w (.cells #[.slice none 0 0, .pointer none, .pointer none] 67)]
    exact heap_alloc_new _ _
  have h3 := heap_alloc_new ((w.alloc (.cells #[.slice none 0 0, .pointer none, .pointer none] 67)).alloc (.cells #[.slice none 0 0, .pointer none, .pointer none] 67)) (.cells #[.pointer (some ⟨w.heap.size, 0, none⟩), .pointer (some ⟨w.heap.size + 1, 0, none⟩), .int .i64 0] 69)
  rw [hs, hs] at h3
  have hp : ∀ (π : List Nat) (x : Nat), (π ++ [x] = []) = False := fun π x => by simp
  refine ⟨fun κ π => if π = [] then some (if κ then w.heap.size + 1 else w.heap.size) else none, fun _ _ => .slice none 0 0, ⟨h3, by omega, fun κ => ⟨_, rfl⟩, ?_, ?_, ?_, ?_⟩⟩
  · intro κ π b hb
    by_cases e : π = []
    · subst e
      simp at hb
      subst hb
      refine ⟨by split <;> omega, ?_, World.ownsRow_nil ..⟩
      simp only [hp, if_false]
      cases κ
      · exact h1
      · exact h2
    · simp [e] at hb
  · intro κ π κ' π' b h h'
    by_cases e : π = [] <;> by_cases e' : π' = []
    · subst e; subst e'
      simp at h h'
      rw [← h'] at h
      refine ⟨?_, rfl⟩
      cases κ <;> cases κ' <;> simp at h ⊢
    · simp [e'] at h'
    · simp [e] at h
    · simp [e] at h
  · intro κ π κ' π' g _ _ h
    simp [Value.ownBlock] at h
  · intro κ π h
    exact ⟨rfl, fun x => by simp⟩
theorem info39z : ∃ i, Try.prog.info? 39 = some i ∧ i.zero = some (.agg Zv) := by
  obtain ⟨i, h1, h2, _⟩ := info39'
  exact ⟨i, h1, h2⟩
theorem trieL_nil : trieL [] = [] := rfl

theorem new_any (A : Option Addr) (L : List Vrp) (c : Nat) (w : World) (hL : RdV w A L) (hbytes : L.length * 48 ≤ 140737488355328) :
    Calls Try.prog 12 #[.slice A L.length c] w fun e w' => ∃ bt, e = .returned (.pointer (some ⟨bt, 0, none⟩)) ∧ TrieIs w' w.heap.size bt (trieL L) ∧ G w w' := by
  obtain ⟨n, hn⟩ : ∃ n, L.length = n := ⟨_, rfl⟩
  have Hn := Lib.hid hn
  have HL := Lib.hid hL
  rw [hn] at hbytes ⊢
  clear hn hL
  have hl : n ≤ 9223372036854775806 := by omega
  go_enter Try.func12, Try.ntmps12
  go_wp2
  have hT := trie_start w
  have g0 := (((G.refl w).alloc (.cells #[.slice none 0 0, .pointer none, .pointer none] 67)).alloc (.cells #[.slice none 0 0, .pointer none, .pointer none] 67)).alloc (.cells #[.pointer (some ⟨w.heap.size, 0, none⟩), .pointer (some ⟨w.heap.size + 1, 0, none⟩), .int .i64 0] 69)
  obtain ⟨bt, hbt⟩ : ∃ bt, w.heap.size + 1 + 1 = bt := ⟨_, rfl⟩
  rw [hbt] at hT ⊢
  generalize w.heap.size + 1 = r2 at *
  generalize (((w.alloc (.cells #[.slice none 0 0, .pointer none, .pointer none] 67)).alloc (.cells #[.slice none 0 0, .pointer none, .pointer none] 67)).alloc (.cells #[.pointer (some ⟨w.heap.size, 0, none⟩), .pointer (some ⟨r2, 0, none⟩), .int .i64 0] 69)) = W at *
  have HT := Lib.hid hT
  clear hT
  go_loopw [5, 15, 16, 17, 18, 19, 20, 21, 22, 23, 24] (fun _ i _ _ _ _ _ _ _ _ _ wr => ∃ k : Nat, k ≤ n ∧ i = .int .i64 k ∧ G w wr ∧ Hid (TrieIs wr w.heap.size bt (trieL (L.take k)))) (fun _ i _ _ _ _ _ _ _ _ _ _ => n - (intOf i).toNat)
  case atStart => exact ⟨0, by omega, rfl, g0, HT⟩
  case round =>
    clear g0 HT
    obtain ⟨k, hk, rfl, gr, HT⟩ := hrel
    by_cases hlt : k < n
    · obtain ⟨x, hx⟩ : ∃ x, L[k]? = some x := ⟨_, List.getElem?_eq_getElem (by have := Hn.out; omega)⟩
      obtain ⟨ad, rfl, ha⟩ := HL.out k x hx
      replace ha := ha.grow gr
      have HX := Lib.hid (trieL_take L k x hx)
      have HB := Lib.hid (show (trieL (L.take k)).length ≤ k by
        refine Nat.le_trans (trieL_length _ []) ?_
        simp only [List.length_nil, List.length_take]
        omega)
      clear hx
      go_upto_region 4 with fail
      refine region_head 2 ?_
      simp only [List.take_succ_cons, List.take_zero, List.drop_succ_cons, List.drop_zero]
      repeat (first | go_big_quiet_skip | (go_big_quiet_want; go_big_quiet_op; go_big_quiet_on))
      go_big_quiet_want; refine q_load 39 _ (ad.add (k * 20)) (arrV (x)) ha Try.underlying39 rfl (info39v (x)) rfl rfl ?_; go_big_quiet_on
      simp only [Act.put, List.setIfInBounds_toArray, List.set_cons_zero, List.set_cons_succ]
      refine wpQuiet_nil ?_
      intro W1 hg1
      have hT1 := HT.out.grow hg1
      have g1 := gr.trans hg1
      clear HT ha gr hg1
      refine wl_alloc (T := 39) (Z := Zv) info39z rfl rfl ?_
      have b2 := heap_alloc_new W1 (.cells Zv 39)
      have i2 : Zv.size = (arrV x).size := by rw [arrV_size]; exact arrV_size _
      simp only [Act.put, List.setIfInBounds_toArray, List.set_cons_zero, List.set_cons_succ]
      refine wl_store 39 _ _ W1.heap.size 0 (arrV x) Zv 39 b2 (by omega) (info39v x) (arrV_one x) rfl rfl rfl rfl ?_
      rw [splA_all _ _ i2]
      have b3 := row_set (D := arrV x) b2
      have g3 := ((G.refl W1).alloc (.cells Zv 39)).row (b := W1.heap.size) (Nat.le_refl _) (arrV x)
      have hb0 := g1.below.size
      have T3 := Lib.hid (hT1.grow g3)
      replace g3 := g1.trans g3
      obtain ⟨b, hb⟩ : ∃ b, W1.heap.size = b := ⟨_, rfl⟩
      rw [hb] at b3 g3 T3 hb0 ⊢
      generalize (W1.alloc (.cells Zv 39)).setRow b (arrV x) = W3 at *
      clear hb b2 i2 g1 hT1
      clear W1
      refine wpList_nil ?_
      simp only [Act.put, List.setIfInBounds_toArray, List.set_cons_zero, List.set_cons_succ]
      go_upto_region 5 with fail
      have h1 := fun W => one_any x W
      have HX2 := HX.out
      unfold step at HX2
      obtain ⟨d, hd⟩ : ∃ d, one x = d := ⟨_, rfl⟩
      rw [hd] at HX2 h1
      have Hd := Lib.hid hd
      clear hd HX
      refine region_seq ?_
      go_big_quiet_want; refine q_load 39 _ ⟨b, 0, none⟩ (arrV (x)) (at_blk b3) Try.underlying39 rfl (info39v (x)) rfl rfl ?_; go_big_quiet_on
      simp only [Act.put, List.setIfInBounds_toArray, List.set_cons_zero, List.set_cons_succ]
      go_big_quiet_want; go_big_quiet_op; refine ⟨_, fun g => cls (h1 _), ?_⟩; go_big_quiet_on
      refine wpQuiet_nil ?_
      intro W4 hg4
      have g4 := g3.trans hg4
      have b4 := hg4.blk b3
      have T4 := Lib.hid (T3.out.grow hg4)
      clear g3 b3 T3 hg4 h1
      clear W3
      cases d
      · rw [if_neg (by simp)] at HX2
        have HX := Lib.hid HX2
        clear HX2
        go_wp2
        go_roundw
        case rel => exact ⟨k + 1, by omega, by go_num, g4, Lib.hid (by rw [HX.out]; exact T4.out)⟩
        case measure => simp [intOf]; omega
      · rw [if_pos rfl] at HX2
        have HX := Lib.hid HX2
        clear HX2
        go_upto_region 6 with fail
        refine region_head 2 ?_
        simp only [List.take_succ_cons, List.take_zero, List.drop_succ_cons, List.drop_zero]
        repeat (first | go_big_quiet_skip | (go_big_quiet_want; go_big_quiet_op; go_big_quiet_on))
        go_big_quiet_want; refine q_load 39 _ ⟨b, 0, none⟩ (arrV (x)) (at_blk b4) Try.underlying39 rfl (info39v (x)) rfl rfl ?_; go_big_quiet_on
        simp only [Act.put, List.setIfInBounds_toArray, List.set_cons_zero, List.set_cons_succ]
        refine wpQuiet_nil ?_
        intro W5 hg5
        have g5 := g4.trans hg5
        have T5 := T4.out.grow hg5
        clear g4 b4 T4 hg5
        have hput := put_any w.heap.size bt (trieL (L.take k)) x W5 T5 g5.below.size (one_len Hd.out) (by have := HB.out; omega)
        have G5 := Lib.hid g5
        clear T5 g5
        go_wp2_with (go_at_call 38; refine hput.mono ?_; rintro e w' ⟨rfl, hT6, hF6⟩; clear hput; have T6 := Lib.hid hT6; have G6 := Lib.hid (F.gtrans G5.out hF6 (fun i h => h)); clear hT6 hF6 G5)
        go_roundw
        case rel => exact ⟨k + 1, by omega, by go_num, G6.out, Lib.hid (by rw [HX.out]; exact T6.out)⟩
        case measure => simp [intOf]; omega
    · obtain rfl : k = n := by omega
      have HT2 := Lib.hid (show TrieIs wr w.heap.size bt (trieL L) by
        have := HT.out
        rwa [List.take_of_length_le (by have := Hn.out; omega)] at this)
      clear HT
      go_wp2
      go_ret
      exact ⟨bt, rfl, HT2.out, gr⟩
end Go.Proofs.Ytedgbmibgddnkaa
