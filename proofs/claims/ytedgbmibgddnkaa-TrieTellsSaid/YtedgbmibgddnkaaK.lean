/- The words that this seat's walks use: how addresses, prefixes, spans and what an AS may tell lie in cells; what a call may leave behind. -/
import Derived.Test.YtedgbmibgddnkaaProg
import Derived.Test.YtedgbmibgddnkaaM
import Derived.WalkKit
import Derived.Outline
import Derived.Lib.Hide
import Derived.StillTailTactics
import Derived.Deep.QuietTactic
import Derived.BigQuiet
import Derived.Laws.Rows
import Derived.Sort.Grow
set_option linter.unusedSimpArgs false
set_option linter.unusedVariables false
namespace Go.Proofs.Ytedgbmibgddnkaa
open Go.RowKit Ad

/-! ### Cells -/
def u8v (b : UInt8) : Value := .int .u8 (b.toNat : Int)
def encL (l : List UInt8) : List Value := l.map u8v
def encP (p : Pfx) : List Value := .bool p.v6 :: (encL p.addr.l ++ [.int .i64 p.len])
def encV (v : Vrp) : List Value := .int .u32 v.as :: (encP v.p ++ [.int .i64 v.max])
def arrP (p : Pfx) : Array Value := (encP p).toArray

theorem encL_length (l : List UInt8) : (encL l).length = l.length := by simp [encL]
theorem encP_length (p : Pfx) : (encP p).length = 18 := by simp [encP, encL_length, p.addr.h]
theorem encV_length (v : Vrp) : (encV v).length = 20 := by simp [encV, encP_length]
theorem arrP_size (p : Pfx) : (arrP p).size = 18 := by simp [arrP, encP_length]

theorem encL_get (l : List UInt8) (i : Nat) (hi : i < l.length) : (encL l)[i]? = some (.int .u8 ((l.getD i 0).toNat : Int)) := by
  simp [encL, u8v, hi, List.getD_eq_getElem?_getD]
theorem encL_set (l : List UInt8) (i : Nat) (x : UInt8) : (encL l).set i (u8v x) = encL (l.set i x) := by simp [encL, List.map_set]

theorem arrP_0 (p : Pfx) : (arrP p)[0]? = some (.bool p.v6) := by simp [arrP, encP]
theorem arrP_17 (p : Pfx) : (arrP p)[17]? = some (.int .i64 p.len) := by
  have h : (encL p.addr.l).length = 16 := by rw [encL_length, p.addr.h]
  simp [arrP, encP, h]
theorem arrP_byte (p : Pfx) (i : Nat) (hi : i < 16) : (arrP p)[1 + i]? = some (.int .u8 ((p.addr.l.getD i 0).toNat : Int)) := by
  have h : (encL p.addr.l).length = 16 := by rw [encL_length, p.addr.h]
  rw [Nat.add_comm, ← encL_get _ _ (by rw [p.addr.h]; exact hi)]
  simp [arrP, encP, List.getElem?_append, h, hi]


theorem arrP_set (p : Pfx) (i : Nat) (hi : i < 16) (x : UInt8) : (arrP p).setIfInBounds (1 + i) (.int .u8 (x.toNat : Int)) = arrP { p with addr := p.addr.set i x } := by
  have h : (encL p.addr.l).length = 16 := by rw [encL_length, p.addr.h]
  have e : (encP p).set (1 + i) (u8v x) = encP { p with addr := p.addr.set i x } := by
    unfold encP
    rw [Nat.add_comm, List.set_cons_succ, List.set_append_left _ _ (by omega), encL_set]
    rfl
  unfold arrP
  rw [← e]
  simp [u8v]
theorem arrP_setLen (p : Pfx) (n : Int) : (arrP p).setIfInBounds 17 (.int .i64 n) = arrP { p with len := n } := by
  have h : (encL p.addr.l).length = 16 := by rw [encL_length, p.addr.h]
  have e : (encP p).set 17 (.int .i64 n) = encP { p with len := n } := by
    unfold encP
    rw [List.set_cons_succ, List.set_append_right _ _ (by omega), h]
    rfl
  unfold arrP
  rw [← e]
  simp

theorem arrP_one (p : Pfx) : (arrP p).all (·.oneCell') = true := by
  simp [arrP, encP, encL, u8v, Value.oneCell']

theorem bits_and_u8 (x y : UInt8) : bits .and .u8 (x.toNat : Int) (y.toNat : Int) = ((x &&& y).toNat : Int) := by
  have hx := x.toNat_lt
  have hy := y.toNat_lt
  have e : ∀ a : Nat, a < 256 → (BitVec.ofInt 8 (a : Int)).toNat = a := fun a ha => by rw [BitVec.ofInt_natCast, BitVec.toNat_ofNat]; exact Nat.mod_eq_of_lt ha
  show IntKind.u8.wrap ((BitVec.ofInt 8 (x.toNat : Int) &&& BitVec.ofInt 8 (y.toNat : Int)).toNat : Int) = _
  rw [BitVec.toNat_and, e _ hx, e _ hy, IntKind.wrap_u8, UInt8.toNat_and]
  have : x.toNat &&& y.toNat < 2 ^ 8 := Nat.and_lt_two_pow _ (by omega)
  omega

theorem blk_cell {w : World} {b : Nat} {C : Array Value} {T : TypeId} {fr : Nat × Nat} (h : w.heap[b]? = some (.cells C T fr)) (i : Nat) : w.cell? ⟨b, i, none⟩ = C[i]? := cell_of_row w b i C T fr h
theorem blk_frozen {w : World} {b : Nat} {C : Array Value} {T : TypeId} (h : w.heap[b]? = some (.cells C T (0, 0))) (i : Nat) : w.frozen? ⟨b, i, none⟩ = false := by simp [World.frozen?, h]
theorem blk_set {w : World} {b : Nat} {C : Array Value} {T : TypeId} (h : w.heap[b]? = some (.cells C T (0, 0))) (i : Nat) (v : Value) : (w.setCell ⟨b, i, none⟩ v).heap[b]? = some (.cells (C.setIfInBounds i v) T (0, 0)) := heap_setCell_same _ _ _ _ _ _ h
theorem blk_far {w : World} {b : Nat} {o : Obj} (h : w.heap[b]? = some o) {p : Addr} (hp : b ≠ p.block) (v : Value) : (w.setCell p v).heap[b]? = some o := (heap_setCell_other _ _ _ _ hp).trans h

theorem info25 : (Try.prog.info? 25).map (·.size) = some 18 := by kernel_rfl
theorem info25p (p : Pfx) : (Try.prog.info? 25).map (·.size) = some (arrP p).size := by rw [arrP_size]; exact info25
theorem row_set {w : World} {b : Nat} {C D : Array Value} {T : TypeId} (h : w.heap[b]? = some (.cells C T (0, 0))) : (w.setRow b D).heap[b]? = some (.cells D T (0, 0)) := setRow_heap w b C D T (0, 0) h

/-! ### Two more structs -/
def arrV (v : Vrp) : Array Value := (encV v).toArray
def encS (s : Spn) : List Value := .bool s.v6 :: (encL s.lo.l ++ encL s.hi.l)
def arrS (s : Spn) : Array Value := (encS s).toArray
def arrA (a : Adr) : Array Value := (encL a.l).toArray
theorem encS_length (s : Spn) : (encS s).length = 33 := by simp [encS, encL_length, s.lo.h, s.hi.h]
theorem arrV_size (v : Vrp) : (arrV v).size = 20 := by simp [arrV, encV_length]
theorem arrS_size (s : Spn) : (arrS s).size = 33 := by simp [arrS, encS_length]
theorem arrA_size (a : Adr) : (arrA a).size = 16 := by simp [arrA, encL_length, a.h]
theorem arrA_byte (a : Adr) (i : Nat) (hi : i < 16) : (arrA a)[i]? = some (.int .u8 ((a.l.getD i 0).toNat : Int)) := by
  rw [← encL_get _ _ (by rw [a.h]; exact hi)]; simp [arrA]
theorem arrA_set (a : Adr) (i : Nat) (x : UInt8) : (arrA a).setIfInBounds i (.int .u8 (x.toNat : Int)) = arrA (a.set i x) := by
  show _ = (encL (a.l.set i x)).toArray
  rw [← encL_set]; simp [arrA, u8v]
theorem arrV_0 (v : Vrp) : (arrV v)[0]? = some (.int .u32 v.as) := by simp [arrV, encV]
theorem arrV_1 (v : Vrp) : (arrV v)[1]? = some (.bool v.p.v6) := by simp [arrV, encV, encP]
theorem arrV_18 (v : Vrp) : (arrV v)[18]? = some (.int .i64 v.p.len) := by
  have h : (encL v.p.addr.l).length = 16 := by rw [encL_length, v.p.addr.h]
  simp [arrV, encV, encP, h]
theorem arrV_19 (v : Vrp) : (arrV v)[19]? = some (.int .i64 v.max) := by
  have h : (encL v.p.addr.l).length = 16 := by rw [encL_length, v.p.addr.h]
  simp [arrV, encV, encP, h]
theorem arrV_ext (v : Vrp) : (arrV v).extract 1 19 = arrP v.p := by
  have h := encP_length v.p
  simp [arrV, encV, arrP, h]
theorem arrP_ext (p : Pfx) : (arrP p).extract 1 17 = arrA p.addr := by
  have h : (encL p.addr.l).length = 16 := by rw [encL_length, p.addr.h]
  simp [arrP, arrA, encP, h]
theorem arrS_0 (s : Spn) : (arrS s)[0]? = some (.bool s.v6) := by simp [arrS, encS]
theorem arrS_lo (s : Spn) : (arrS s).extract 1 17 = arrA s.lo := by
  have h : (encL s.lo.l).length = 16 := by rw [encL_length, s.lo.h]
  simp [arrS, arrA, encS, h]
theorem arrS_hi (s : Spn) : (arrS s).extract 17 33 = arrA s.hi := by
  have h : (encL s.lo.l).length = 16 := by rw [encL_length, s.lo.h]
  have h' : (encL s.hi.l).length = 16 := by rw [encL_length, s.hi.h]
  simp [arrS, arrA, encS, h, h', List.drop_append]
  rw [List.take_of_length_le (by omega)]
theorem arrV_one (v : Vrp) : (arrV v).all (·.oneCell') = true := by
  simp [arrV, encV, encP, encL, u8v, Value.oneCell']
theorem arrS_one (s : Spn) : (arrS s).all (·.oneCell') = true := by
  simp [arrS, encS, encL, u8v, Value.oneCell']
theorem arrA_one (a : Adr) : (arrA a).all (·.oneCell') = true := by
  simp [arrA, encL, u8v, Value.oneCell']
theorem info39 : (Try.prog.info? 39).map (·.size) = some 20 := by kernel_rfl
theorem info52 : (Try.prog.info? 52).map (·.size) = some 33 := by kernel_rfl
theorem info23 : (Try.prog.info? 23).map (·.size) = some 16 := by kernel_rfl
theorem info39v (v : Vrp) : (Try.prog.info? 39).map (·.size) = some (arrV v).size := by rw [arrV_size]; exact info39
theorem info52s (s : Spn) : (Try.prog.info? 52).map (·.size) = some (arrS s).size := by rw [arrS_size]; exact info52
theorem info23a (a : Adr) : (Try.prog.info? 23).map (·.size) = some (arrA a).size := by rw [arrA_size]; exact info23

/-! ### What a call may leave behind: new blocks, draws -/
structure G (w w' : World) : Prop where
  below : Below w.heap.size w w'
  drawn : w.drawn ≤ w'.drawn

theorem G.refl (w : World) : G w w := ⟨Below.refl _ _, Nat.le_refl _⟩
theorem G.trans {a b c : World} (h : G a b) (k : G b c) : G a c := ⟨h.below.trans (k.below.mono h.below.size), Nat.le_trans h.drawn k.drawn⟩
theorem G.alloc {a w : World} (h : G a w) (o : Obj) : G a (w.alloc o) := ⟨h.below.alloc h.below.size o, h.drawn⟩
theorem G.drew {a w : World} (h : G a w) : G a w.drew := ⟨h.below.drew, Nat.le_succ_of_le h.drawn⟩
theorem G.set {a w : World} (h : G a w) {p : Addr} (hp : a.heap.size ≤ p.block) (u : Value) : G a (w.setCell p u) := ⟨h.below.setCell hp u, h.drawn⟩
theorem G.row {a w : World} (h : G a w) {b : Nat} (hb : a.heap.size ≤ b) (cs : Array Value) : G a (w.setRow b cs) :=
  ⟨h.below.trans ⟨rfl, rfl, rfl, by simp, fun k hk => by simp only [World.setRow, Array.getElem?_modify]; rw [if_neg (by omega)]⟩, h.drawn⟩
theorem G.cell {a w : World} (h : G a w) {p : Addr} {v : Value} (hc : a.cell? p = some v) : w.cell? p = some v := by
  rw [h.below.cell (World.block_lt_of_cell? a p hc)]; exact hc
theorem G.blk {a w : World} (h : G a w) {b : Nat} {o : Obj} (hb : a.heap[b]? = some o) : w.heap[b]? = some o := by
  have hlt : b < a.heap.size := (Array.getElem?_eq_some_iff.1 hb).1
  rw [h.below.block b hlt]; exact hb
end Go.Proofs.Ytedgbmibgddnkaa
