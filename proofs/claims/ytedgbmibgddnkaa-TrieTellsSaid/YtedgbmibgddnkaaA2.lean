/- The walks of small functions over prefixes: how long they are, which bit, which may be, how they are ordered. -/
import Derived.Test.YtedgbmibgddnkaaA1
namespace Go.Proofs.Ytedgbmibgddnkaa
open Go.RowKit Ad
set_option linter.unusedSimpArgs false
set_option linter.unusedVariables false
set_option maxRecDepth 100000
theorem rmost_any (b : Bool) (w : World) : Calls Try.prog 65 #[.bool b] w fun e w' => e = .returned (.int .i64 (most b)) ∧ w' = w := by
  cases b
  all_goals
    go_enter Try.func65, Try.ntmps65
    go_wp2
    go_ret
    exact ⟨rfl, rfl⟩
theorem most2_any (b : Bool) (w : World) : Calls Try.prog 49 #[.bool b] w fun e w' => e = .returned (.int .i64 (most b)) ∧ w' = w := by
  cases b
  all_goals
    go_enter Try.func49, Try.ntmps49
    go_wp2
    go_ret
    exact ⟨rfl, rfl⟩
theorem family_any (p : Pfx) (w : World) : Calls Try.prog 66 #[.agg (arrP p)] w fun e w' => e = .returned (.int .i64 (if p.v6 then 1 else 0)) ∧ G w w' := by
  cases hv : p.v6
  all_goals
    have c0 : ∀ W : World, W.heap[w.heap.size]? = some (.cells (arrP p) 25 (0, 0)) → W.cell? ⟨w.heap.size, 0, none⟩ = some (.bool p.v6) := fun W h => (blk_cell h 0).trans (arrP_0 p)
    have c1 := c0 _ (heap_alloc_new w (.cells (arrP p) 25))
    rw [hv] at c1
    clear c0
    go_enter Try.func66, Try.ntmps66
    go_wp2
    go_ret
    exact ⟨rfl, (G.refl w).alloc _⟩

theorem bits_and_1 (a : Nat) (ha : a < 9223372036854775808) : bits .and .i64 (a : Int) 1 = ((a % 2 : Nat) : Int) := by
  have e : ∀ a : Nat, a < 9223372036854775808 → (BitVec.ofInt 64 (a : Int)).toNat = a := fun a ha => by rw [BitVec.ofInt_natCast, BitVec.toNat_ofNat]; exact Nat.mod_eq_of_lt (by omega)
  show IntKind.i64.wrap ((BitVec.ofInt 64 (a : Int) &&& BitVec.ofInt 64 ((1 : Nat) : Int)).toNat : Int) = _
  rw [BitVec.toNat_and, e _ ha, e 1 (by omega), IntKind.wrap_i64, Nat.and_one_is_mod]
  omega

theorem byte_div (x : UInt8) (k : Nat) : x.toNat / 2 ^ k ≤ 255 := by
  have := x.toNat_lt
  exact Nat.le_trans (Nat.div_le_self _ _) (by omega)
theorem bit_i64 (x : UInt8) (k : Nat) : bits .and .i64 (wrap64 ((x.toNat : Int) / 2 ^ k)) 1 = ((x.toNat / 2 ^ k % 2 : Nat) : Int) := by
  have h := byte_div x k
  have e : ((x.toNat : Int) / 2 ^ k) = ((x.toNat / 2 ^ k : Nat) : Int) := by simp
  rw [e]
  generalize x.toNat / 2 ^ k = a at *
  rw [show wrap64 (a : Int) = (a : Int) from by unfold wrap64; omega, bits_and_1 _ (by omega)]

theorem tbit_any (p : Pfx) (i : Nat) (hi : i < 128) (w : World) : Calls Try.prog 67 #[.agg (arrP p), .int .i64 i] w fun e w' => e = .returned (.int .i64 (bit p.addr i)) ∧ G w w' := by
  have h8 : i / 8 < 16 := by omega
  have c0 := (blk_cell (heap_alloc_new w (.cells (arrP p) 25)) (1 + i / 8)).trans (arrP_byte p (i / 8) h8)
  have hb : bit p.addr i = (p.addr.l.getD (i / 8) 0).toNat / 2 ^ (7 - i % 8) % 2 := rfl
  generalize p.addr.l.getD (i / 8) 0 = x at *
  rw [hb]
  clear hb
  go_enter Try.func67, Try.ntmps67
  go_wp2
  go_ret
  exact ⟨by rw [bit_i64]; rfl, (G.refl w).alloc _⟩

theorem rbit_any (a : Adr) (i : Nat) (hi : i < 128) (w : World) : Calls Try.prog 75 #[.agg (arrA a), .int .i64 i] w fun e w' => e = .returned (.int .u8 (bit a i)) ∧ G w w' := by
  have h8 : i / 8 < 16 := by omega
  have c0 := (blk_cell (heap_alloc_new w (.cells (arrA a) 23)) (i / 8)).trans (arrA_byte a (i / 8) h8)
  have hb : bit a i = (a.l.getD (i / 8) 0).toNat / 2 ^ (7 - i % 8) % 2 := rfl
  generalize a.l.getD (i / 8) 0 = x at *
  rw [hb]
  clear hb
  go_enter Try.func75, Try.ntmps75
  go_wp2
  go_ret
  refine ⟨?_, (G.refl w).alloc _⟩
  simp
  exact Int.tmod_eq_emod_of_nonneg (Int.ediv_nonneg (by omega) (Int.le_of_lt (Int.pow_pos (by omega))))
theorem nan_int (x : Int) (w : World) : Calls Try.prog 97 #[.int .i64 x] w fun e w' => e = .returned (.bool false) ∧ w' = w := by
  go_enter Try.func97, Try.ntmps97
  go_wp2
  go_ret
  exact ⟨by simp, rfl⟩
theorem cmp_int (x y : Int) (w : World) : Calls Try.prog 73 #[.int .i64 x, .int .i64 y] w fun e w' => e = .returned (.int .i64 (cmpI x y)) ∧ w' = w := by
  rcases cmpI_cases x y with ⟨h, hc⟩ | ⟨h, hc⟩ | ⟨h, hc⟩
  all_goals
    rw [hc]
    clear hc
    try subst h
    go_enter Try.func73, Try.ntmps73
    go_wp2_with (go_at_call 97; refine (nan_int _ _).mono ?_; rintro e w' ⟨rfl, rfl⟩)
    go_ret
    exact ⟨rfl, rfl⟩
theorem nan_u32 (x : Int) (w : World) : Calls Try.prog 98 #[.int .u32 x] w fun e w' => e = .returned (.bool false) ∧ w' = w := by
  go_enter Try.func98, Try.ntmps98
  go_wp2
  go_ret
  exact ⟨by simp, rfl⟩
theorem cmp_u32 (x y : Int) (w : World) : Calls Try.prog 74 #[.int .u32 x, .int .u32 y] w fun e w' => e = .returned (.int .i64 (cmpI x y)) ∧ w' = w := by
  rcases cmpI_cases x y with ⟨h, hc⟩ | ⟨h, hc⟩ | ⟨h, hc⟩
  all_goals
    rw [hc]
    clear hc
    try subst h
    go_enter Try.func74, Try.ntmps74
    go_wp2_with (go_at_call 98; refine (nan_u32 _ _).mono ?_; rintro e w' ⟨rfl, rfl⟩)
    go_ret
    exact ⟨rfl, rfl⟩
end Go.Proofs.Ytedgbmibgddnkaa
