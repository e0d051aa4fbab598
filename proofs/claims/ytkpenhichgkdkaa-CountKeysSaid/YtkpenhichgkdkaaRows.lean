/-
  No cell of these rows narrows 'for every input' (looked for: loops, veiled, ifaces, maps, wideKeys, modest, calm, conditions, laid).
  DERIVED. THE GIVEN ROWS OF THIS SEAT. 6 by the template 'for every input the law returns true; each argument reads behind the call as it read before'; 0 by the template 'total and deterministic' (their statements: YtkpenhichgkdkaaTotals.lean).
  GIVEN WITH THE SEED: the statements are not yours to turn. If you find one false, say at which input.
  Laid BY PROGRAM, IN A SANDBOX (cutbox-rows.mjs): the forced cells as the released guide's own fill.sh prints them over the translation 7f8985ee66d7d1a2… (all of the seat's roots in one cut). By AI agents, Wed Nov 11 2026. No macro, syntax, notation, axiom, sorry.
-/
import Derived.Test.YtkpenhichgkdkaaChecked
import GoSem.Claim
import GoSem.ClaimJoined
import GoSem.ClaimMapViews
import Derived.JoinedTies
import Derived.KernelRfl
namespace Go.Proofs.Ytkpenhichgkdkaa
/- THE CELL 'sum', in the pinned program and in every row, IS THE sha256 OF THE DUMP (.gsa) THAT YtkpenhichgkdkaaProg.lean LOADS. Nothing in Lean hashes anything: it is a label: what it is worth is what the hold of that sum in a sandbox is worth. -/
noncomputable def Try.pinned : Pinned := { name := "ytkpenhichgkdkaa", sum := "7f8985ee66d7d1a20d46247f7cc49dfa77176e7cfb4377b4a4b546e03fda62ae", checked := Try.checked }
namespace Rows
def none {H : Type} : Left H := { results := [], args := [] }

/-- 'detentlaw04.CountPlays': WHATEVER THE INPUT: true; the input reads as it did. -/
def countPlaysSpec : ChangeSpec := { name := "countPlays", fn := fun _ => fun
  | [d1, d2, d3] => { results := [.lit (.bool true)], args := [d1, d2, d3] }
  | _ => none }
def countPlaysRow : OpenClaim := { program := "ytkpenhichgkdkaa", sum := "7f8985ee66d7d1a20d46247f7cc49dfa77176e7cfb4377b4a4b546e03fda62ae", func := "detent/detentlaw04.CountPlays", spec := "countPlays", apart := false }
def CountPlaysSaid : Prop := countPlaysRow.holds Try.pinned (OpenSpec.ofChange countPlaysSpec)

/-- ITS FALSE NEIGHBOUR: 'it returns false'. Refute it at one input. -/
def countPlaysWrong : ChangeSpec := { name := "countPlays", fn := fun _ => fun
  | [d1, d2, d3] => { results := [.lit (.bool false)], args := [d1, d2, d3] }
  | _ => none }
def CountPlaysWrongFalsely : Prop := countPlaysRow.holds Try.pinned (OpenSpec.ofChange countPlaysWrong)

/-- 'detentlaw04.CountSticks': WHATEVER THE INPUT: true; the input reads as it did. -/
def countSticksSpec : ChangeSpec := { name := "countSticks", fn := fun _ => fun
  | [d1, d2] => { results := [.lit (.bool true)], args := [d1, d2] }
  | _ => none }
def countSticksRow : OpenClaim := { program := "ytkpenhichgkdkaa", sum := "7f8985ee66d7d1a20d46247f7cc49dfa77176e7cfb4377b4a4b546e03fda62ae", func := "detent/detentlaw04.CountSticks", spec := "countSticks", apart := false }
def CountSticksSaid : Prop := countSticksRow.holds Try.pinned (OpenSpec.ofChange countSticksSpec)

/-- ITS FALSE NEIGHBOUR: 'it returns false'. Refute it at one input. -/
def countSticksWrong : ChangeSpec := { name := "countSticks", fn := fun _ => fun
  | [d1, d2] => { results := [.lit (.bool false)], args := [d1, d2] }
  | _ => none }
def CountSticksWrongFalsely : Prop := countSticksRow.holds Try.pinned (OpenSpec.ofChange countSticksWrong)

/-- 'detentlaw04.CountBalance': WHATEVER THE INPUT: true; the input reads as it did. -/
def countBalanceSpec : ChangeSpec := { name := "countBalance", fn := fun _ => fun
  | [d1, d2] => { results := [.lit (.bool true)], args := [d1, d2] }
  | _ => none }
def countBalanceRow : OpenClaim := { program := "ytkpenhichgkdkaa", sum := "7f8985ee66d7d1a20d46247f7cc49dfa77176e7cfb4377b4a4b546e03fda62ae", func := "detent/detentlaw04.CountBalance", spec := "countBalance", apart := false }
def CountBalanceSaid : Prop := countBalanceRow.holds Try.pinned (OpenSpec.ofChange countBalanceSpec)

/-- ITS FALSE NEIGHBOUR: 'it returns false'. Refute it at one input. -/
def countBalanceWrong : ChangeSpec := { name := "countBalance", fn := fun _ => fun
  | [d1, d2] => { results := [.lit (.bool false)], args := [d1, d2] }
  | _ => none }
def CountBalanceWrongFalsely : Prop := countBalanceRow.holds Try.pinned (OpenSpec.ofChange countBalanceWrong)

/-- 'detentlaw04.CountNames': WHATEVER THE INPUT: true; the input reads as it did. -/
def countNamesSpec : ChangeSpec := { name := "countNames", fn := fun _ => fun
  | [d1, d2] => { results := [.lit (.bool true)], args := [d1, d2] }
  | _ => none }
def countNamesRow : OpenClaim := { program := "ytkpenhichgkdkaa", sum := "7f8985ee66d7d1a20d46247f7cc49dfa77176e7cfb4377b4a4b546e03fda62ae", func := "detent/detentlaw04.CountNames", spec := "countNames", recurses := true, apart := false }
def CountNamesSaid : Prop := countNamesRow.holds Try.pinned (OpenSpec.ofChange countNamesSpec)

/-- ITS FALSE NEIGHBOUR: 'it returns false'. Refute it at one input. -/
def countNamesWrong : ChangeSpec := { name := "countNames", fn := fun _ => fun
  | [d1, d2] => { results := [.lit (.bool false)], args := [d1, d2] }
  | _ => none }
def CountNamesWrongFalsely : Prop := countNamesRow.holds Try.pinned (OpenSpec.ofChange countNamesWrong)

/-- 'detentlaw04.CountNil': WHATEVER THE INPUT: true; the input reads as it did. -/
def countNilSpec : ChangeSpec := { name := "countNil", fn := fun _ => fun
  | [d] => { results := [.lit (.bool true)], args := [d] }
  | _ => none }
def countNilRow : OpenClaim := { program := "ytkpenhichgkdkaa", sum := "7f8985ee66d7d1a20d46247f7cc49dfa77176e7cfb4377b4a4b546e03fda62ae", func := "detent/detentlaw04.CountNil", spec := "countNil", recurses := true, apart := false }
def CountNilSaid : Prop := countNilRow.holds Try.pinned (OpenSpec.ofChange countNilSpec)

/-- ITS FALSE NEIGHBOUR: 'it returns false'. Refute it at one input. -/
def countNilWrong : ChangeSpec := { name := "countNil", fn := fun _ => fun
  | [d] => { results := [.lit (.bool false)], args := [d] }
  | _ => none }
def CountNilWrongFalsely : Prop := countNilRow.holds Try.pinned (OpenSpec.ofChange countNilWrong)

/-- 'detentlaw04.CountKeys': WHATEVER THE INPUT: true; the input reads as it did. -/
def countKeysSpec : ChangeSpec := { name := "countKeys", fn := fun _ => fun
  | [d1, d2, d3] => { results := [.lit (.bool true)], args := [d1, d2, d3] }
  | _ => none }
def countKeysRow : OpenClaim := { program := "ytkpenhichgkdkaa", sum := "7f8985ee66d7d1a20d46247f7cc49dfa77176e7cfb4377b4a4b546e03fda62ae", func := "detent/detentlaw04.CountKeys", spec := "countKeys", recurses := true, apart := false }
def CountKeysSaid : Prop := countKeysRow.holds Try.pinned (OpenSpec.ofChange countKeysSpec)

/-- ITS FALSE NEIGHBOUR: 'it returns false'. Refute it at one input. -/
def countKeysWrong : ChangeSpec := { name := "countKeys", fn := fun _ => fun
  | [d1, d2, d3] => { results := [.lit (.bool false)], args := [d1, d2, d3] }
  | _ => none }
def CountKeysWrongFalsely : Prop := countKeysRow.holds Try.pinned (OpenSpec.ofChange countKeysWrong)

/- THE SECOND FORM. 'bulk': how many values and letters a reading holds, each counted each time it is reached (what is shared counts as often as it is met; a slice's spare places count too). A statement '..UptoSaid' is the law's where the arguments, and the package variables that the reading takes, are together of bulk at most 1048576: NARROWER than '..Said'. Prove '..Said' where nothing that the law and all that it calls make is longer than what came in: it says more and counts as full. Else prove '..UptoSaid'. A law counts once. -/
mutual
def uptoBulk {H : Type} : DataW H → Nat
  | .lit (.string bytes) => bytes.length + 1
  | .lit _ => 1
  | .nil => 1
  | .ptr d => uptoBulk d + 1
  | .slice elems spare => uptoBulkAll elems + uptoBulkAll spare + 1
  | .agg parts => uptoBulkAll parts + 1
  | .iface _ d => uptoBulk d + 1
  | .map entries => uptoBulkEntries entries + 1
  | .held _ => 1
def uptoBulkAll {H : Type} : List (DataW H) → Nat
  | [] => 0
  | d :: r => uptoBulk d + uptoBulkAll r
def uptoBulkEntries {H : Type} : List (Lit × DataW H) → Nat
  | [] => 0
  | x :: r => uptoBulkEntry x + uptoBulkEntries r
def uptoBulkEntry {H : Type} : Lit × DataW H → Nat
  | (.string bytes, d) => bytes.length + uptoBulk d + 1
  | (_, d) => uptoBulk d + 1
 end
def uptoSmall : (H : Type) → List (DataW H) → Bool := fun _ ds => decide (uptoBulkAll ds ≤ 1048576)
def OpenSpec.upto (s : _root_.Go.ChangeSpec) : _root_.Go.OpenSpec := { _root_.Go.OpenSpec.ofChange s with cond := some uptoSmall }

/-- 'detentlaw04.CountPlays', WHERE WHAT IT READS IS OF BULK AT MOST 1048576: true; the input reads as it did. -/
def countPlaysUptoRow : OpenClaim := { program := "ytkpenhichgkdkaa", sum := "7f8985ee66d7d1a20d46247f7cc49dfa77176e7cfb4377b4a4b546e03fda62ae", func := "detent/detentlaw04.CountPlays", spec := "countPlays", apart := false, narrowed := true }
def CountPlaysUptoSaid : Prop := countPlaysUptoRow.holds Try.pinned (OpenSpec.upto countPlaysSpec)

/-- 'detentlaw04.CountSticks', WHERE WHAT IT READS IS OF BULK AT MOST 1048576: true; the input reads as it did. -/
def countSticksUptoRow : OpenClaim := { program := "ytkpenhichgkdkaa", sum := "7f8985ee66d7d1a20d46247f7cc49dfa77176e7cfb4377b4a4b546e03fda62ae", func := "detent/detentlaw04.CountSticks", spec := "countSticks", apart := false, narrowed := true }
def CountSticksUptoSaid : Prop := countSticksUptoRow.holds Try.pinned (OpenSpec.upto countSticksSpec)

/-- 'detentlaw04.CountBalance', WHERE WHAT IT READS IS OF BULK AT MOST 1048576: true; the input reads as it did. -/
def countBalanceUptoRow : OpenClaim := { program := "ytkpenhichgkdkaa", sum := "7f8985ee66d7d1a20d46247f7cc49dfa77176e7cfb4377b4a4b546e03fda62ae", func := "detent/detentlaw04.CountBalance", spec := "countBalance", apart := false, narrowed := true }
def CountBalanceUptoSaid : Prop := countBalanceUptoRow.holds Try.pinned (OpenSpec.upto countBalanceSpec)

/-- 'detentlaw04.CountNames', WHERE WHAT IT READS IS OF BULK AT MOST 1048576: true; the input reads as it did. -/
def countNamesUptoRow : OpenClaim := { program := "ytkpenhichgkdkaa", sum := "7f8985ee66d7d1a20d46247f7cc49dfa77176e7cfb4377b4a4b546e03fda62ae", func := "detent/detentlaw04.CountNames", spec := "countNames", recurses := true, apart := false, narrowed := true }
def CountNamesUptoSaid : Prop := countNamesUptoRow.holds Try.pinned (OpenSpec.upto countNamesSpec)

/-- 'detentlaw04.CountNil', WHERE WHAT IT READS IS OF BULK AT MOST 1048576: true; the input reads as it did. -/
def countNilUptoRow : OpenClaim := { program := "ytkpenhichgkdkaa", sum := "7f8985ee66d7d1a20d46247f7cc49dfa77176e7cfb4377b4a4b546e03fda62ae", func := "detent/detentlaw04.CountNil", spec := "countNil", recurses := true, apart := false, narrowed := true }
def CountNilUptoSaid : Prop := countNilUptoRow.holds Try.pinned (OpenSpec.upto countNilSpec)

/-- 'detentlaw04.CountKeys', WHERE WHAT IT READS IS OF BULK AT MOST 1048576: true; the input reads as it did. -/
def countKeysUptoRow : OpenClaim := { program := "ytkpenhichgkdkaa", sum := "7f8985ee66d7d1a20d46247f7cc49dfa77176e7cfb4377b4a4b546e03fda62ae", func := "detent/detentlaw04.CountKeys", spec := "countKeys", recurses := true, apart := false, narrowed := true }
def CountKeysUptoSaid : Prop := countKeysUptoRow.holds Try.pinned (OpenSpec.upto countKeysSpec)

end Rows
end Go.Proofs.Ytkpenhichgkdkaa
