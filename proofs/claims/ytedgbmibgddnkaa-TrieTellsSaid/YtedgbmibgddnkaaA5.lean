/- The walks of the functions that order addresses, prefixes, and what an AS may tell. -/
import Derived.Test.YtedgbmibgddnkaaA2
import Derived.Deep.CutBlock
namespace Go.Proofs.Ytedgbmibgddnkaa
open Go.RowKit Ad
set_option linter.unusedSimpArgs false
set_option linter.unusedVariables false
set_option maxRecDepth 100000
set_option maxHeartbeats 1000000

theorem cmpL_diff : ∀ (k : Nat) (l m : List UInt8), k < l.length → k < m.length → (∀ j, j < k → l.getD j 0 = m.getD j 0) → l.getD k 0 ≠ m.getD k 0 → cmpL l m = if l.getD k 0 < m.getD k 0 then -1 else 1
  | 0, a :: l, b :: m, _, _, _, hne => by
    simp only [List.getD_cons_zero] at hne ⊢
    unfold cmpL
    by_cases h : a < b
    · rw [if_pos h, if_pos h]
    · rw [if_neg h, if_neg h, if_pos]
      rw [UInt8.lt_iff_toNat_lt] at *
      have : a.toNat ≠ b.toNat := fun h => hne (UInt8.toNat_inj.1 h)
      omega
  | k + 1, a :: l, b :: m, hl, hm, hj, hne => by
    have e : a = b := hj 0 (by omega)
    subst e
    unfold cmpL
    rw [if_neg (u8_lt_irrefl a), if_neg (u8_lt_irrefl a)]
    exact cmpL_diff k l m (by simpa using hl) (by simpa using hm) (fun j h => hj (j + 1) (by omega)) hne
  | _, [], _, hl, _, _, _ => by simp at hl
  | _, _ :: _, [], _, hm, _, _ => by simp at hm

theorem cmpL_pre : ∀ (l m : List UInt8), (∀ j, j < min l.length m.length → l.getD j 0 = m.getD j 0) → cmpL l m = if l.length < m.length then -1 else if m.length < l.length then 1 else 0
  | [], [], _ => rfl
  | [], _ :: _, _ => by simp [cmpL]
  | _ :: _, [], _ => by simp [cmpL]
  | a :: l, b :: m, h => by
    have e : a = b := h 0 (by simp)
    subst e
    unfold cmpL
    rw [if_neg (u8_lt_irrefl a), if_neg (u8_lt_irrefl a), cmpL_pre l m (fun j hj => h (j + 1) (by simp; omega))]
    simp

theorem get_ba (l : List UInt8) (i : Nat) (h : i < l.length) : (⟨l.toArray⟩ : ByteArray)[i]! = l.getD i 0 := by
  have : i < (⟨l.toArray⟩ : ByteArray).size := by simpa [ByteArray.size] using h
  rw [getElem!_pos (⟨l.toArray⟩ : ByteArray) i this, List.getD_eq_getElem?_getD, List.getElem?_eq_getElem h]
  rfl

theorem ext_cmp (l m : List UInt8) : Extern.BytealgCompare.cmp ⟨l.toArray⟩ ⟨m.toArray⟩ = cmpL l m := by
  have sl : (⟨l.toArray⟩ : ByteArray).size = l.length := by simp [ByteArray.size]
  have sm : (⟨m.toArray⟩ : ByteArray).size = m.length := by simp [ByteArray.size]
  unfold Extern.BytealgCompare.cmp
  rw [sl, sm]
  split
  · rename_i i hi
    have h1 := List.find?_some hi
    have h2 : i < min l.length m.length := by have := List.mem_of_find?_eq_some hi; simpa using this
    have h3 : ∀ j, j < i → l.getD j 0 = m.getD j 0 := by
      intro j hj
      have := List.find?_eq_some_iff_append.1 hi
      obtain ⟨_, xs, zs, hab, hall⟩ := this
      have hlen : xs.length = i := by
        have h4 : (List.range (min l.length m.length))[xs.length]? = some i := by rw [hab]; simp
        have h5 := List.getElem?_eq_some_iff.1 h4
        obtain ⟨h6, h7⟩ := h5
        simpa using h7
      have hjas : j ∈ xs := by
        have h4 : (List.range (min l.length m.length))[j]? = some j := by rw [List.getElem?_range (by omega)]
        rw [hab, List.getElem?_append_left (by omega)] at h4
        exact List.mem_of_getElem? h4
      have := hall j hjas
      rw [get_ba l j (by omega), get_ba m j (by omega)] at this
      simpa using this
    rw [get_ba l i (by omega), get_ba m i (by omega)] at h1 ⊢
    rw [cmpL_diff i l m (by omega) (by omega) h3 (by simpa using h1)]
  · rename_i hn
    have h3 : ∀ j, j < min l.length m.length → l.getD j 0 = m.getD j 0 := by
      intro j hj
      have := List.find?_eq_none.1 hn j (by simpa using hj)
      rw [get_ba l j (by omega), get_ba m j (by omega)] at this
      simpa using this
    rw [cmpL_pre l m h3]

theorem add_add' (a : Addr) (i j : Nat) : (a.add i).add j = a.add (i + j) := by
  unfold Addr.add
  by_cases hi : i = 0 <;> by_cases hj : j = 0 <;> simp [hi, hj, Nat.add_assoc]

theorem run_loadBytes {P : Program} (w : World) : ∀ (l : List UInt8) (a : Addr) (acc : ByteArray), (∀ j, j < l.length → w.cell? (a.add j) = some (.int .u8 ((l.getD j 0).toNat : Int))) →
    (Extern.Bytes.loadBytes a l.length acc).run P w = .ok ⟨acc.data ++ l.toArray⟩ w
  | [], a, acc, _ => by simp [Extern.Bytes.loadBytes]
  | x :: l, a, acc, h => by
    have h0 : w.cell? a = some (.int .u8 (x.toNat : Int)) := by
      have := h 0 (by simp)
      simpa [Addr.add] using this
    have ih := run_loadBytes (P := P) w l (a.add 1) (acc.push x) (fun j hj => by
      rw [add_add', Nat.add_comm 1 j]
      exact h (j + 1) (by simpa using hj))
    simp only [List.length_cons, Extern.Bytes.loadBytes, Sem.run_bind]
    have hl : (load a).run P w = .ok (.int .u8 (x.toNat : Int)) w := by simp [load, Sem.run, h0]
    rw [hl, Result.andThen_ok]
    have hx : (x.toNat : Int).toNat.toUInt8 = x := by simp
    simp only [hx, ih]
    simp

theorem run_bytesOf {P : Program} (w : World) (l : List UInt8) (a : Addr) (c : Nat) (h : At w a (encL l).toArray) : (Extern.Bytes.bytesOf (.slice (some a) l.length c)).run P w = .ok ⟨l.toArray⟩ w := by
  have := run_loadBytes (P := P) w l a .empty (fun j hj => h j _ (by simpa using encL_get l j hj))
  simpa [Extern.Bytes.bytesOf] using this

theorem run_bcmp (w : World) (l m : List UInt8) (a b : Addr) (c d : Nat) (ha : At w a (encL l).toArray) (hb : At w b (encL m).toArray) :
    (callFunc 107 #[.slice (some a) l.length c, .slice (some b) m.length d]).run Try.prog w = .ok (.value (.int .i64 (cmpL l m))) w := by
  rw [run_callFunc_extern Try.func107 (by kernel_rfl) (by kernel_rfl) (by kernel_rfl) (e := Extern.BytealgCompare.compare) (by kernel_rfl)]
  have : (Extern.BytealgCompare.compare #[.slice (some a) l.length c, .slice (some b) m.length d]).run Try.prog w = .ok (.int .i64 (cmpL l m)) w := by
    change Sem.run Try.prog (do pure (goInt (Extern.BytealgCompare.cmp (← Extern.Bytes.bytesOf (.slice (some a) l.length c)) (← Extern.Bytes.bytesOf (.slice (some b) m.length d))))) w = _
    simp only [Sem.run_bind, run_bytesOf w l a c ha, run_bytesOf w m b d hb, Result.andThen_ok, Sem.run_pure, ext_cmp, goInt]
  rw [this]
  rfl

theorem bcmp_any (l m : List UInt8) (a b : Addr) (c d : Nat) (w : World) (ha : At w a (encL l).toArray) (hb : At w b (encL m).toArray) :
    Calls Try.prog 82 #[.slice (some a) l.length c, .slice (some b) m.length d] w fun e w' => e = .returned (.int .i64 (cmpL l m)) ∧ w' = w := by
  have hr := run_bcmp w l m a b c d ha hb
  generalize cmpL l m = r at *
  generalize l.length = n at *
  generalize m.length = k at *
  clear ha hb
  go_enter Try.func82, Try.ntmps82
  go_wp2_with fail
  go_ret
  exact ⟨rfl, rfl⟩

/-- Two addresses, in slices of 16 bytes. -/
theorem bcmpA_any (x y : Adr) (a b : Addr) (c d : Nat) (w : World) (ha : At w a (arrA x)) (hb : At w b (arrA y)) :
    Calls Try.prog 82 #[.slice (some a) 16 c, .slice (some b) 16 d] w fun e w' => e = .returned (.int .i64 (cmpL x.l y.l)) ∧ w' = w := by
  have := bcmp_any x.l y.l a b c d w ha hb
  rwa [x.h, y.h] at this

theorem cmpA_lt (x y : Adr) (k : Nat) (hk : k < 16) (hj : ∀ j, j < k → x.l.getD j 0 = y.l.getD j 0) (h : ((x.l.getD k 0).toNat : Int) < ((y.l.getD k 0).toNat : Int)) : cmpL x.l y.l = -1 := by
  have h' : x.l.getD k 0 < y.l.getD k 0 := by rw [UInt8.lt_iff_toNat_lt]; omega
  rw [cmpL_diff k _ _ (by rw [x.h]; exact hk) (by rw [y.h]; exact hk) hj (fun e => by rw [e] at h; omega), if_pos h']
theorem cmpA_gt (x y : Adr) (k : Nat) (hk : k < 16) (hj : ∀ j, j < k → x.l.getD j 0 = y.l.getD j 0) (h : ((y.l.getD k 0).toNat : Int) < ((x.l.getD k 0).toNat : Int)) : cmpL x.l y.l = 1 := by
  have h' : ¬ x.l.getD k 0 < y.l.getD k 0 := by rw [UInt8.lt_iff_toNat_lt]; omega
  rw [cmpL_diff k _ _ (by rw [x.h]; exact hk) (by rw [y.h]; exact hk) hj (fun e => by rw [e] at h; omega), if_neg h']
theorem cmpA_eq (x y : Adr) (hj : ∀ j, j < 16 → x.l.getD j 0 = y.l.getD j 0) : cmpL x.l y.l = 0 := by
  rw [cmpL_pre _ _ (fun j h => hj j (by rw [x.h] at h; omega)), x.h, y.h]; rfl

theorem cmpAddr_any (x y : Adr) (w : World) : Calls Try.prog 33 #[.agg (arrA x), .agg (arrA y)] w fun e w' => e = .returned (.int .i64 (cmpL x.l y.l)) ∧ G w w' := by
  have Hlt := Lib.hid (cmpA_lt x y)
  have Hgt := Lib.hid (cmpA_gt x y)
  have Heq := Lib.hid (cmpA_eq x y)
  go_enter Try.func33, Try.ntmps33
  go_upto_block 0 with fail
  have b1 := heap_alloc2_old w (.cells (arrA x) 23) (.cells (arrA y) 23)
  have b2 := heap_alloc2_new w (.cells (arrA x) 23) (.cells (arrA y) 23)
  have g0 := ((G.refl w).alloc (.cells (arrA x) 23)).alloc (.cells (arrA y) 23)
  generalize (w.alloc (.cells (arrA x) 23)).alloc (.cells (arrA y) 23) = W at *
  obtain ⟨b, hb⟩ : ∃ b, w.heap.size = b := ⟨_, rfl⟩
  have hb0 : w.heap.size ≤ b := by omega
  rw [hb] at b1 b2 ⊢
  clear hb
  go_wp2
  go_loopw [5, 6, 7, 8, 9, 10, 11, 12, 13, 14, 15, 16, 17, 18, 19, 20, 21, 22, 23] (fun i _ _ _ _ _ _ _ _ _ _ _ _ _ _ _ _ _ _ wr => ∃ k : Nat, k ≤ 16 ∧ i = .int .i64 k ∧ wr.heap[b]? = some (.cells (arrA x) 23 (0, 0)) ∧ wr.heap[b + 1]? = some (.cells (arrA y) 23 (0, 0)) ∧ G w wr ∧ Hid (∀ j, j < k → x.l.getD j 0 = y.l.getD j 0)) (fun i _ _ _ _ _ _ _ _ _ _ _ _ _ _ _ _ _ _ _ => 16 - (intOf i).toNat)
  case atStart => exact ⟨0, by omega, rfl, b1, b2, g0, Lib.hid (fun j h => by omega)⟩
  case round =>
    obtain ⟨k, hk, rfl, b1, b2, gr, Hk⟩ := hrel
    clear g0
    by_cases hlt : k < 16
    · go_upto_region 4 with fail
      have ck := gcell ((blk_cell b1 k).trans (arrA_byte x k hlt))
      have dk := gcell ((blk_cell b2 k).trans (arrA_byte y k hlt))
      have Lt := Lib.hid (Hlt.out k hlt Hk.out)
      have Gt := Lib.hid (Hgt.out k hlt Hk.out)
      have Ne := Lib.hid (show ((x.l.getD k 0).toNat : Int) = ((y.l.getD k 0).toNat : Int) → x.l.getD k 0 = y.l.getD k 0 from fun h => UInt8.toNat_inj.1 (by omega))
      generalize hx : x.l.getD k 0 = c at *
      generalize hy : y.l.getD k 0 = d at *
      have HX := Lib.hid hx
      have HY := Lib.hid hy
      clear hx hy
      refine region_all (by kernel_rfl) (by kernel_rfl) ?_
      repeat (first | go_big_quiet_skip | (go_big_quiet_want; go_big_quiet_op; go_big_quiet_on))
      refine wpQuiet_nil ?_
      intro W1 hg1
      have b3 := hg1.blk b1
      have b4 := hg1.blk b2
      have g3 := gr.trans hg1
      clear b1 b2 gr hg1 ck dk
      by_cases h1 : (c.toNat : Int) < (d.toNat : Int)
      · have G3 := Lib.hid g3
        have HF := Lib.hid (Lt.out h1)
        clear b3 b4 g3
        go_wp2
        go_ret
        exact ⟨by rw [HF.out]; rfl, G3.out⟩
      · go_upto_region 6 with fail
        have ck := gcell ((blk_cell b3 k).trans (arrA_byte x k hlt))
        have dk := gcell ((blk_cell b4 k).trans (arrA_byte y k hlt))
        rw [HX.out] at ck
        rw [HY.out] at dk
        refine region_all (by kernel_rfl) (by kernel_rfl) ?_
        repeat (first | go_big_quiet_skip | (go_big_quiet_want; go_big_quiet_op; go_big_quiet_on))
        refine wpQuiet_nil ?_
        intro W2 hg2
        have b5 := hg2.blk b3
        have b6 := hg2.blk b4
        have g5 := g3.trans hg2
        clear b3 b4 g3 hg2 ck dk
        by_cases h2 : (d.toNat : Int) < (c.toNat : Int)
        · have G3 := Lib.hid g5
          have HF := Lib.hid (Gt.out h2)
          clear b5 b6 g5
          go_wp2
          go_ret
          exact ⟨by rw [HF.out]; rfl, G3.out⟩
        · have he := Ne.out (by omega)
          have HE := Lib.hid he
          have B5 := Lib.hid b5
          have B6 := Lib.hid b6
          have G5 := Lib.hid g5
          clear b5 b6 g5 he
          go_wp2
          go_roundw
          case rel => exact ⟨k + 1, by omega, by go_num, B5.out, B6.out, G5.out, Lib.hid (fun j h => by
            by_cases e : j = k
            · rw [e, HX.out, HY.out]; exact HE.out
            · exact Hk.out j (by omega))⟩
          case measure => simp [intOf]; omega
    · obtain rfl : k = 16 := by omega
      have hf := Heq.out Hk.out
      have HF := Lib.hid hf
      clear hf
      go_wp2
      go_ret
      exact ⟨by rw [HF.out]; rfl, gr⟩
end Go.Proofs.Ytedgbmibgddnkaa
