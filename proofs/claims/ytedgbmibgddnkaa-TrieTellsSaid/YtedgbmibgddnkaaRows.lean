/-
  No cell of these rows narrows 'for every input' (looked for: loops, veiled, ifaces, maps, wideKeys, modest, calm, conditions, laid).
  DERIVED. THE GIVEN ROWS OF THIS SEAT. 8 by the template 'for every input the law returns true; each argument reads behind the call as it read before'; 0 by the template 'total and deterministic' (their statements: YtedgbmibgddnkaaTotals.lean).
  GIVEN WITH THE SEED: the statements are not yours to turn. If you find one false, say at which input.
  Laid BY PROGRAM, IN A SANDBOX (cutbox-rows.mjs): the forced cells as the released guide's own fill.sh prints them over the translation 32381081d04c2f8b… (all of the seat's roots in one cut). By AI agents, Wed Nov 11 2026. No macro, syntax, notation, axiom, sorry.
-/
import Derived.Test.YtedgbmibgddnkaaChecked
import GoSem.Claim
import GoSem.ClaimJoined
import GoSem.ClaimMapViews
import Derived.JoinedTies
import Derived.KernelRfl
namespace Go.Proofs.Ytedgbmibgddnkaa
/- THE CELL 'sum', in the pinned program and in every row, IS THE sha256 OF THE DUMP (.gsa) THAT YtedgbmibgddnkaaProg.lean LOADS. Nothing in Lean hashes anything: it is a label: what it is worth is what the hold of that sum in a sandbox is worth. -/
noncomputable def Try.pinned : Pinned := { name := "ytedgbmibgddnkaa", sum := "32381081d04c2f8b21364c3be89a9fc781bd88c2daf9749376b4f3f2ec6fea08", checked := Try.checked }
namespace Rows
def none {H : Type} : Left H := { results := [], args := [] }

/-- 'lanyardlaw24.TrieTells': WHATEVER THE INPUT: true; the input reads as it did. -/
def trieTellsSpec : ChangeSpec := { name := "trieTells", fn := fun _ => fun
  | [d1, d2, d3] => { results := [.lit (.bool true)], args := [d1, d2, d3] }
  | _ => none }
def trieTellsRow : OpenClaim := { program := "ytedgbmibgddnkaa", sum := "32381081d04c2f8b21364c3be89a9fc781bd88c2daf9749376b4f3f2ec6fea08", func := "lanyard/lanyardlaw24.TrieTells", spec := "trieTells", inPlace := ["internal/bytealg.Compare"], unfollowed := true, recurses := true, apart := false }
def TrieTellsSaid : Prop := trieTellsRow.holds Try.pinned (OpenSpec.ofChange trieTellsSpec)

/-- ITS FALSE NEIGHBOUR: 'it returns false'. Refute it at one input. -/
def trieTellsWrong : ChangeSpec := { name := "trieTells", fn := fun _ => fun
  | [d1, d2, d3] => { results := [.lit (.bool false)], args := [d1, d2, d3] }
  | _ => none }
def TrieTellsWrongFalsely : Prop := trieTellsRow.holds Try.pinned (OpenSpec.ofChange trieTellsWrong)

/-- 'lanyardlaw24.TrieMore': WHATEVER THE INPUT: true; the input reads as it did. -/
def trieMoreSpec : ChangeSpec := { name := "trieMore", fn := fun _ => fun
  | [d1, d2, d3] => { results := [.lit (.bool true)], args := [d1, d2, d3] }
  | _ => none }
def trieMoreRow : OpenClaim := { program := "ytedgbmibgddnkaa", sum := "32381081d04c2f8b21364c3be89a9fc781bd88c2daf9749376b4f3f2ec6fea08", func := "lanyard/lanyardlaw24.TrieMore", spec := "trieMore", inPlace := ["internal/bytealg.Compare"], unfollowed := true, recurses := true, apart := false }
def TrieMoreSaid : Prop := trieMoreRow.holds Try.pinned (OpenSpec.ofChange trieMoreSpec)

/-- ITS FALSE NEIGHBOUR: 'it returns false'. Refute it at one input. -/
def trieMoreWrong : ChangeSpec := { name := "trieMore", fn := fun _ => fun
  | [d1, d2, d3] => { results := [.lit (.bool false)], args := [d1, d2, d3] }
  | _ => none }
def TrieMoreWrongFalsely : Prop := trieMoreRow.holds Try.pinned (OpenSpec.ofChange trieMoreWrong)

/-- 'lanyardlaw24.TrieOrder': WHATEVER THE INPUT: true; the input reads as it did. -/
def trieOrderSpec : ChangeSpec := { name := "trieOrder", fn := fun _ => fun
  | [d1, d2, d3] => { results := [.lit (.bool true)], args := [d1, d2, d3] }
  | _ => none }
def trieOrderRow : OpenClaim := { program := "ytedgbmibgddnkaa", sum := "32381081d04c2f8b21364c3be89a9fc781bd88c2daf9749376b4f3f2ec6fea08", func := "lanyard/lanyardlaw24.TrieOrder", spec := "trieOrder", inPlace := ["internal/bytealg.Compare"], unfollowed := true, recurses := true, apart := false }
def TrieOrderSaid : Prop := trieOrderRow.holds Try.pinned (OpenSpec.ofChange trieOrderSpec)

/-- ITS FALSE NEIGHBOUR: 'it returns false'. Refute it at one input. -/
def trieOrderWrong : ChangeSpec := { name := "trieOrder", fn := fun _ => fun
  | [d1, d2, d3] => { results := [.lit (.bool false)], args := [d1, d2, d3] }
  | _ => none }
def TrieOrderWrongFalsely : Prop := trieOrderRow.holds Try.pinned (OpenSpec.ofChange trieOrderWrong)

/-- 'lanyardlaw24.TrieEach': WHATEVER THE INPUT: true; the input reads as it did. -/
def trieEachSpec : ChangeSpec := { name := "trieEach", fn := fun _ => fun
  | [d] => { results := [.lit (.bool true)], args := [d] }
  | _ => none }
def trieEachRow : OpenClaim := { program := "ytedgbmibgddnkaa", sum := "32381081d04c2f8b21364c3be89a9fc781bd88c2daf9749376b4f3f2ec6fea08", func := "lanyard/lanyardlaw24.TrieEach", spec := "trieEach", inPlace := ["internal/bytealg.Compare"], unfollowed := true, recurses := true, apart := false }
def TrieEachSaid : Prop := trieEachRow.holds Try.pinned (OpenSpec.ofChange trieEachSpec)

/-- ITS FALSE NEIGHBOUR: 'it returns false'. Refute it at one input. -/
def trieEachWrong : ChangeSpec := { name := "trieEach", fn := fun _ => fun
  | [d] => { results := [.lit (.bool false)], args := [d] }
  | _ => none }
def TrieEachWrongFalsely : Prop := trieEachRow.holds Try.pinned (OpenSpec.ofChange trieEachWrong)

/-- 'lanyardlaw11.SpanJoins': WHATEVER THE INPUT: true; the input reads as it did. -/
def spanJoinsSpec : ChangeSpec := { name := "spanJoins", fn := fun _ => fun
  | [d1, d2] => { results := [.lit (.bool true)], args := [d1, d2] }
  | _ => none }
def spanJoinsRow : OpenClaim := { program := "ytedgbmibgddnkaa", sum := "32381081d04c2f8b21364c3be89a9fc781bd88c2daf9749376b4f3f2ec6fea08", func := "lanyard/lanyardlaw11.SpanJoins", spec := "spanJoins", inPlace := ["internal/bytealg.Compare"], unfollowed := true, recurses := true, apart := false }
def SpanJoinsSaid : Prop := spanJoinsRow.holds Try.pinned (OpenSpec.ofChange spanJoinsSpec)

/-- ITS FALSE NEIGHBOUR: 'it returns false'. Refute it at one input. -/
def spanJoinsWrong : ChangeSpec := { name := "spanJoins", fn := fun _ => fun
  | [d1, d2] => { results := [.lit (.bool false)], args := [d1, d2] }
  | _ => none }
def SpanJoinsWrongFalsely : Prop := spanJoinsRow.holds Try.pinned (OpenSpec.ofChange spanJoinsWrong)

/-- 'lanyardlaw11.SpanRow': WHATEVER THE INPUT: true; the input reads as it did. -/
def spanRowSpec : ChangeSpec := { name := "spanRow", fn := fun _ => fun
  | [d] => { results := [.lit (.bool true)], args := [d] }
  | _ => none }
def spanRowRow : OpenClaim := { program := "ytedgbmibgddnkaa", sum := "32381081d04c2f8b21364c3be89a9fc781bd88c2daf9749376b4f3f2ec6fea08", func := "lanyard/lanyardlaw11.SpanRow", spec := "spanRow", inPlace := ["internal/bytealg.Compare"], unfollowed := true, recurses := true, apart := false }
def SpanRowSaid : Prop := spanRowRow.holds Try.pinned (OpenSpec.ofChange spanRowSpec)

/-- ITS FALSE NEIGHBOUR: 'it returns false'. Refute it at one input. -/
def spanRowWrong : ChangeSpec := { name := "spanRow", fn := fun _ => fun
  | [d] => { results := [.lit (.bool false)], args := [d] }
  | _ => none }
def SpanRowWrongFalsely : Prop := spanRowRow.holds Try.pinned (OpenSpec.ofChange spanRowWrong)

/-- 'lanyardlaw11.SpanGoes': WHATEVER THE INPUT: true; the input reads as it did. -/
def spanGoesSpec : ChangeSpec := { name := "spanGoes", fn := fun _ => fun
  | [d1, d2, d3] => { results := [.lit (.bool true)], args := [d1, d2, d3] }
  | _ => none }
def spanGoesRow : OpenClaim := { program := "ytedgbmibgddnkaa", sum := "32381081d04c2f8b21364c3be89a9fc781bd88c2daf9749376b4f3f2ec6fea08", func := "lanyard/lanyardlaw11.SpanGoes", spec := "spanGoes", inPlace := ["internal/bytealg.Compare"], unfollowed := true, recurses := true, apart := false }
def SpanGoesSaid : Prop := spanGoesRow.holds Try.pinned (OpenSpec.ofChange spanGoesSpec)

/-- ITS FALSE NEIGHBOUR: 'it returns false'. Refute it at one input. -/
def spanGoesWrong : ChangeSpec := { name := "spanGoes", fn := fun _ => fun
  | [d1, d2, d3] => { results := [.lit (.bool false)], args := [d1, d2, d3] }
  | _ => none }
def SpanGoesWrongFalsely : Prop := spanGoesRow.holds Try.pinned (OpenSpec.ofChange spanGoesWrong)

/-- 'lanyardlaw11.SpanCovers': WHATEVER THE INPUT: true; the input reads as it did. -/
def spanCoversSpec : ChangeSpec := { name := "spanCovers", fn := fun _ => fun
  | [d1, d2] => { results := [.lit (.bool true)], args := [d1, d2] }
  | _ => none }
def spanCoversRow : OpenClaim := { program := "ytedgbmibgddnkaa", sum := "32381081d04c2f8b21364c3be89a9fc781bd88c2daf9749376b4f3f2ec6fea08", func := "lanyard/lanyardlaw11.SpanCovers", spec := "spanCovers", inPlace := ["internal/bytealg.Compare"], unfollowed := true, recurses := true, apart := false }
def SpanCoversSaid : Prop := spanCoversRow.holds Try.pinned (OpenSpec.ofChange spanCoversSpec)

/-- ITS FALSE NEIGHBOUR: 'it returns false'. Refute it at one input. -/
def spanCoversWrong : ChangeSpec := { name := "spanCovers", fn := fun _ => fun
  | [d1, d2] => { results := [.lit (.bool false)], args := [d1, d2] }
  | _ => none }
def SpanCoversWrongFalsely : Prop := spanCoversRow.holds Try.pinned (OpenSpec.ofChange spanCoversWrong)

/- THE SECOND FORM. 'bulk': how many values and letters a reading holds, each counted each time it is reached (what is shared counts as often as it is met; a slice's spare places count too). A statement '..UptoSaid' is the law's where the arguments, and the package variables that the reading takes, are together of bulk at most 1048576: NARROWER than '..Said'. Prove '..Said' where nothing that the law and all that it calls make is longer than what came in: it says more and counts as full. Else prove '..UptoSaid'. A law counts once. -/
mutual
def uptoBulk {H : Type} : DataW H → Nat
  | .lit (.string bytes) => bytes.length + 1
  | .lit _ => 1
  | .nil => 1
  | .ptr d => uptoBulk d + 1
  | .slice elems spare => uptoBulkAll elems + uptoBulkAll spare + 1
  | .agg parts => uptoBulkAll parts + 1
  | .iface _ d => uptoBulk d + 1
  | .map entries => uptoBulkEntries entries + 1
  | .held _ => 1
def uptoBulkAll {H : Type} : List (DataW H) → Nat
  | [] => 0
  | d :: r => uptoBulk d + uptoBulkAll r
def uptoBulkEntries {H : Type} : List (Lit × DataW H) → Nat
  | [] => 0
  | x :: r => uptoBulkEntry x + uptoBulkEntries r
def uptoBulkEntry {H : Type} : Lit × DataW H → Nat
  | (.string bytes, d) => bytes.length + uptoBulk d + 1
  | (_, d) => uptoBulk d + 1
 end
def uptoSmall : (H : Type) → List (DataW H) → Bool := fun _ ds => decide (uptoBulkAll ds ≤ 1048576)
def OpenSpec.upto (s : _root_.Go.ChangeSpec) : _root_.Go.OpenSpec := { _root_.Go.OpenSpec.ofChange s with cond := some uptoSmall }

/-- 'lanyardlaw24.TrieTells', WHERE WHAT IT READS IS OF BULK AT MOST 1048576: true; the input reads as it did. -/
def trieTellsUptoRow : OpenClaim := { program := "ytedgbmibgddnkaa", sum := "32381081d04c2f8b21364c3be89a9fc781bd88c2daf9749376b4f3f2ec6fea08", func := "lanyard/lanyardlaw24.TrieTells", spec := "trieTells", inPlace := ["internal/bytealg.Compare"], unfollowed := true, recurses := true, apart := false, narrowed := true }
def TrieTellsUptoSaid : Prop := trieTellsUptoRow.holds Try.pinned (OpenSpec.upto trieTellsSpec)

/-- 'lanyardlaw24.TrieMore', WHERE WHAT IT READS IS OF BULK AT MOST 1048576: true; the input reads as it did. -/
def trieMoreUptoRow : OpenClaim := { program := "ytedgbmibgddnkaa", sum := "32381081d04c2f8b21364c3be89a9fc781bd88c2daf9749376b4f3f2ec6fea08", func := "lanyard/lanyardlaw24.TrieMore", spec := "trieMore", inPlace := ["internal/bytealg.Compare"], unfollowed := true, recurses := true, apart := false, narrowed := true }
def TrieMoreUptoSaid : Prop := trieMoreUptoRow.holds Try.pinned (OpenSpec.upto trieMoreSpec)

/-- 'lanyardlaw24.TrieOrder', WHERE WHAT IT READS IS OF BULK AT MOST 1048576: true; the input reads as it did. -/
def trieOrderUptoRow : OpenClaim := { program := "ytedgbmibgddnkaa", sum := "32381081d04c2f8b21364c3be89a9fc781bd88c2daf9749376b4f3f2ec6fea08", func := "lanyard/lanyardlaw24.TrieOrder", spec := "trieOrder", inPlace := ["internal/bytealg.Compare"], unfollowed := true, recurses := true, apart := false, narrowed := true }
def TrieOrderUptoSaid : Prop := trieOrderUptoRow.holds Try.pinned (OpenSpec.upto trieOrderSpec)

/-- 'lanyardlaw24.TrieEach', WHERE WHAT IT READS IS OF BULK AT MOST 1048576: true; the input reads as it did. -/
def trieEachUptoRow : OpenClaim := { program := "ytedgbmibgddnkaa", sum := "32381081d04c2f8b21364c3be89a9fc781bd88c2daf9749376b4f3f2ec6fea08", func := "lanyard/lanyardlaw24.TrieEach", spec := "trieEach", inPlace := ["internal/bytealg.Compare"], unfollowed := true, recurses := true, apart := false, narrowed := true }
def TrieEachUptoSaid : Prop := trieEachUptoRow.holds Try.pinned (OpenSpec.upto trieEachSpec)

/-- 'lanyardlaw11.SpanJoins', WHERE WHAT IT READS IS OF BULK AT MOST 1048576: true; the input reads as it did. -/
def spanJoinsUptoRow : OpenClaim := { program := "ytedgbmibgddnkaa", sum := "32381081d04c2f8b21364c3be89a9fc781bd88c2daf9749376b4f3f2ec6fea08", func := "lanyard/lanyardlaw11.SpanJoins", spec := "spanJoins", inPlace := ["internal/bytealg.Compare"], unfollowed := true, recurses := true, apart := false, narrowed := true }
def SpanJoinsUptoSaid : Prop := spanJoinsUptoRow.holds Try.pinned (OpenSpec.upto spanJoinsSpec)

/-- 'lanyardlaw11.SpanRow', WHERE WHAT IT READS IS OF BULK AT MOST 1048576: true; the input reads as it did. -/
def spanRowUptoRow : OpenClaim := { program := "ytedgbmibgddnkaa", sum := "32381081d04c2f8b21364c3be89a9fc781bd88c2daf9749376b4f3f2ec6fea08", func := "lanyard/lanyardlaw11.SpanRow", spec := "spanRow", inPlace := ["internal/bytealg.Compare"], unfollowed := true, recurses := true, apart := false, narrowed := true }
def SpanRowUptoSaid : Prop := spanRowUptoRow.holds Try.pinned (OpenSpec.upto spanRowSpec)

/-- 'lanyardlaw11.SpanGoes', WHERE WHAT IT READS IS OF BULK AT MOST 1048576: true; the input reads as it did. -/
def spanGoesUptoRow : OpenClaim := { program := "ytedgbmibgddnkaa", sum := "32381081d04c2f8b21364c3be89a9fc781bd88c2daf9749376b4f3f2ec6fea08", func := "lanyard/lanyardlaw11.SpanGoes", spec := "spanGoes", inPlace := ["internal/bytealg.Compare"], unfollowed := true, recurses := true, apart := false, narrowed := true }
def SpanGoesUptoSaid : Prop := spanGoesUptoRow.holds Try.pinned (OpenSpec.upto spanGoesSpec)

/-- 'lanyardlaw11.SpanCovers', WHERE WHAT IT READS IS OF BULK AT MOST 1048576: true; the input reads as it did. -/
def spanCoversUptoRow : OpenClaim := { program := "ytedgbmibgddnkaa", sum := "32381081d04c2f8b21364c3be89a9fc781bd88c2daf9749376b4f3f2ec6fea08", func := "lanyard/lanyardlaw11.SpanCovers", spec := "spanCovers", inPlace := ["internal/bytealg.Compare"], unfollowed := true, recurses := true, apart := false, narrowed := true }
def SpanCoversUptoSaid : Prop := spanCoversUptoRow.holds Try.pinned (OpenSpec.upto spanCoversSpec)

end Rows
end Go.Proofs.Ytedgbmibgddnkaa
