/-
  No cell of these rows narrows 'for every input' (looked for: loops, veiled, ifaces, maps, wideKeys, modest, calm, conditions, laid).
  DERIVED. THE GIVEN ROWS OF THIS SEAT. 5 by the template 'for every input the law returns true; each argument reads behind the call as it read before'; 0 by the template 'total and deterministic' (their statements: YtljecfgfbebjiaaTotals.lean).
  GIVEN WITH THE SEED: the statements are not yours to turn. If you find one false, say at which input.
  Laid BY PROGRAM, IN A SANDBOX (cutbox-rows.mjs): the forced cells as the released guide's own fill.sh prints them over the translation a88d4d37515a7c6d… (all of the seat's roots in one cut). By AI agents, Wed Nov 11 2026. No macro, syntax, notation, axiom, sorry.
-/
import Derived.Test.YtljecfgfbebjiaaChecked
import GoSem.Claim
import GoSem.ClaimJoined
import GoSem.ClaimMapViews
import Derived.JoinedTies
import Derived.KernelRfl
namespace Go.Proofs.Ytljecfgfbebjiaa
/- THE CELL 'sum', in the pinned program and in every row, IS THE sha256 OF THE DUMP (.gsa) THAT YtljecfgfbebjiaaProg.lean LOADS. Nothing in Lean hashes anything: it is a label: what it is worth is what the hold of that sum in a sandbox is worth. -/
noncomputable def Try.pinned : Pinned := { name := "ytljecfgfbebjiaa", sum := "a88d4d37515a7c6d5283c7d695f35e1b6b712d5e2dfe096aca085d7ecb6ced37", checked := Try.checked }
namespace Rows
def none {H : Type} : Left H := { results := [], args := [] }

/-- 'footwaylaw16.TreeNear': WHATEVER THE INPUT: true; the input reads as it did. -/
def treeNearSpec : ChangeSpec := { name := "treeNear", fn := fun _ => fun
  | [d1, d2, d3] => { results := [.lit (.bool true)], args := [d1, d2, d3] }
  | _ => none }
def treeNearRow : OpenClaim := { program := "ytljecfgfbebjiaa", sum := "a88d4d37515a7c6d5283c7d695f35e1b6b712d5e2dfe096aca085d7ecb6ced37", func := "footway/footwaylaw16.TreeNear", spec := "treeNear", unfollowed := true, recurses := true, apart := false }
def TreeNearSaid : Prop := treeNearRow.holds Try.pinned (OpenSpec.ofChange treeNearSpec)

/-- ITS FALSE NEIGHBOUR: 'it returns false'. Refute it at one input. -/
def treeNearWrong : ChangeSpec := { name := "treeNear", fn := fun _ => fun
  | [d1, d2, d3] => { results := [.lit (.bool false)], args := [d1, d2, d3] }
  | _ => none }
def TreeNearWrongFalsely : Prop := treeNearRow.holds Try.pinned (OpenSpec.ofChange treeNearWrong)

/-- 'footwaylaw16.TreeRoots': WHATEVER THE INPUT: true; the input reads as it did. -/
def treeRootsSpec : ChangeSpec := { name := "treeRoots", fn := fun _ => fun
  | [d] => { results := [.lit (.bool true)], args := [d] }
  | _ => none }
def treeRootsRow : OpenClaim := { program := "ytljecfgfbebjiaa", sum := "a88d4d37515a7c6d5283c7d695f35e1b6b712d5e2dfe096aca085d7ecb6ced37", func := "footway/footwaylaw16.TreeRoots", spec := "treeRoots", unfollowed := true, recurses := true, apart := false }
def TreeRootsSaid : Prop := treeRootsRow.holds Try.pinned (OpenSpec.ofChange treeRootsSpec)

/-- ITS FALSE NEIGHBOUR: 'it returns false'. Refute it at one input. -/
def treeRootsWrong : ChangeSpec := { name := "treeRoots", fn := fun _ => fun
  | [d] => { results := [.lit (.bool false)], args := [d] }
  | _ => none }
def TreeRootsWrongFalsely : Prop := treeRootsRow.holds Try.pinned (OpenSpec.ofChange treeRootsWrong)

/-- 'footwaylaw16.TreeTells': WHATEVER THE INPUT: true; the input reads as it did. -/
def treeTellsSpec : ChangeSpec := { name := "treeTells", fn := fun _ => fun
  | [d1, d2, d3] => { results := [.lit (.bool true)], args := [d1, d2, d3] }
  | _ => none }
def treeTellsRow : OpenClaim := { program := "ytljecfgfbebjiaa", sum := "a88d4d37515a7c6d5283c7d695f35e1b6b712d5e2dfe096aca085d7ecb6ced37", func := "footway/footwaylaw16.TreeTells", spec := "treeTells", unfollowed := true, recurses := true, apart := false }
def TreeTellsSaid : Prop := treeTellsRow.holds Try.pinned (OpenSpec.ofChange treeTellsSpec)

/-- ITS FALSE NEIGHBOUR: 'it returns false'. Refute it at one input. -/
def treeTellsWrong : ChangeSpec := { name := "treeTells", fn := fun _ => fun
  | [d1, d2, d3] => { results := [.lit (.bool false)], args := [d1, d2, d3] }
  | _ => none }
def TreeTellsWrongFalsely : Prop := treeTellsRow.holds Try.pinned (OpenSpec.ofChange treeTellsWrong)

/-- 'footwaylaw16.TreeSpans': WHATEVER THE INPUT: true; the input reads as it did. -/
def treeSpansSpec : ChangeSpec := { name := "treeSpans", fn := fun _ => fun
  | [d] => { results := [.lit (.bool true)], args := [d] }
  | _ => none }
def treeSpansRow : OpenClaim := { program := "ytljecfgfbebjiaa", sum := "a88d4d37515a7c6d5283c7d695f35e1b6b712d5e2dfe096aca085d7ecb6ced37", func := "footway/footwaylaw16.TreeSpans", spec := "treeSpans", unfollowed := true, recurses := true, apart := false }
def TreeSpansSaid : Prop := treeSpansRow.holds Try.pinned (OpenSpec.ofChange treeSpansSpec)

/-- ITS FALSE NEIGHBOUR: 'it returns false'. Refute it at one input. -/
def treeSpansWrong : ChangeSpec := { name := "treeSpans", fn := fun _ => fun
  | [d] => { results := [.lit (.bool false)], args := [d] }
  | _ => none }
def TreeSpansWrongFalsely : Prop := treeSpansRow.holds Try.pinned (OpenSpec.ofChange treeSpansWrong)

/-- 'footwaylaw17.FloodTree': WHATEVER THE INPUT: true; the input reads as it did. -/
def floodTreeSpec : ChangeSpec := { name := "floodTree", fn := fun _ => fun
  | [d1, d2, d3, d4] => { results := [.lit (.bool true)], args := [d1, d2, d3, d4] }
  | _ => none }
def floodTreeRow : OpenClaim := { program := "ytljecfgfbebjiaa", sum := "a88d4d37515a7c6d5283c7d695f35e1b6b712d5e2dfe096aca085d7ecb6ced37", func := "footway/footwaylaw17.FloodTree", spec := "floodTree", unfollowed := true, recurses := true, apart := false }
def FloodTreeSaid : Prop := floodTreeRow.holds Try.pinned (OpenSpec.ofChange floodTreeSpec)

/-- ITS FALSE NEIGHBOUR: 'it returns false'. Refute it at one input. -/
def floodTreeWrong : ChangeSpec := { name := "floodTree", fn := fun _ => fun
  | [d1, d2, d3, d4] => { results := [.lit (.bool false)], args := [d1, d2, d3, d4] }
  | _ => none }
def FloodTreeWrongFalsely : Prop := floodTreeRow.holds Try.pinned (OpenSpec.ofChange floodTreeWrong)

/- THE SECOND FORM. 'bulk': how many values and letters a reading holds, each counted each time it is reached (what is shared counts as often as it is met; a slice's spare places count too). A statement '..UptoSaid' is the law's where the arguments, and the package variables that the reading takes, are together of bulk at most 1048576: NARROWER than '..Said'. Prove '..Said' where nothing that the law and all that it calls make is longer than what came in: it says more and counts as full. Else prove '..UptoSaid'. A law counts once. -/
mutual
def uptoBulk {H : Type} : DataW H → Nat
  | .lit (.string bytes) => bytes.length + 1
  | .lit _ => 1
  | .nil => 1
  | .ptr d => uptoBulk d + 1
  | .slice elems spare => uptoBulkAll elems + uptoBulkAll spare + 1
  | .agg parts => uptoBulkAll parts + 1
  | .iface _ d => uptoBulk d + 1
  | .map entries => uptoBulkEntries entries + 1
  | .held _ => 1
def uptoBulkAll {H : Type} : List (DataW H) → Nat
  | [] => 0
  | d :: r => uptoBulk d + uptoBulkAll r
def uptoBulkEntries {H : Type} : List (Lit × DataW H) → Nat
  | [] => 0
  | x :: r => uptoBulkEntry x + uptoBulkEntries r
def uptoBulkEntry {H : Type} : Lit × DataW H → Nat
  | (.string bytes, d) => bytes.length + uptoBulk d + 1
  | (_, d) => uptoBulk d + 1
 end
def uptoSmall : (H : Type) → List (DataW H) → Bool := fun _ ds => decide (uptoBulkAll ds ≤ 1048576)
def OpenSpec.upto (s : _root_.Go.ChangeSpec) : _root_.Go.OpenSpec := { _root_.Go.OpenSpec.ofChange s with cond := some uptoSmall }

/-- 'footwaylaw16.TreeNear', WHERE WHAT IT READS IS OF BULK AT MOST 1048576: true; the input reads as it did. -/
def treeNearUptoRow : OpenClaim := { program := "ytljecfgfbebjiaa", sum := "a88d4d37515a7c6d5283c7d695f35e1b6b712d5e2dfe096aca085d7ecb6ced37", func := "footway/footwaylaw16.TreeNear", spec := "treeNear", unfollowed := true, recurses := true, apart := false, narrowed := true }
def TreeNearUptoSaid : Prop := treeNearUptoRow.holds Try.pinned (OpenSpec.upto treeNearSpec)

/-- 'footwaylaw16.TreeRoots', WHERE WHAT IT READS IS OF BULK AT MOST 1048576: true; the input reads as it did. -/
def treeRootsUptoRow : OpenClaim := { program := "ytljecfgfbebjiaa", sum := "a88d4d37515a7c6d5283c7d695f35e1b6b712d5e2dfe096aca085d7ecb6ced37", func := "footway/footwaylaw16.TreeRoots", spec := "treeRoots", unfollowed := true, recurses := true, apart := false, narrowed := true }
def TreeRootsUptoSaid : Prop := treeRootsUptoRow.holds Try.pinned (OpenSpec.upto treeRootsSpec)

/-- 'footwaylaw16.TreeTells', WHERE WHAT IT READS IS OF BULK AT MOST 1048576: true; the input reads as it did. -/
def treeTellsUptoRow : OpenClaim := { program := "ytljecfgfbebjiaa", sum := "a88d4d37515a7c6d5283c7d695f35e1b6b712d5e2dfe096aca085d7ecb6ced37", func := "footway/footwaylaw16.TreeTells", spec := "treeTells", unfollowed := true, recurses := true, apart := false, narrowed := true }
def TreeTellsUptoSaid : Prop := treeTellsUptoRow.holds Try.pinned (OpenSpec.upto treeTellsSpec)

/-- 'footwaylaw16.TreeSpans', WHERE WHAT IT READS IS OF BULK AT MOST 1048576: true; the input reads as it did. -/
def treeSpansUptoRow : OpenClaim := { program := "ytljecfgfbebjiaa", sum := "a88d4d37515a7c6d5283c7d695f35e1b6b712d5e2dfe096aca085d7ecb6ced37", func := "footway/footwaylaw16.TreeSpans", spec := "treeSpans", unfollowed := true, recurses := true, apart := false, narrowed := true }
def TreeSpansUptoSaid : Prop := treeSpansUptoRow.holds Try.pinned (OpenSpec.upto treeSpansSpec)

/-- 'footwaylaw17.FloodTree', WHERE WHAT IT READS IS OF BULK AT MOST 1048576: true; the input reads as it did. -/
def floodTreeUptoRow : OpenClaim := { program := "ytljecfgfbebjiaa", sum := "a88d4d37515a7c6d5283c7d695f35e1b6b712d5e2dfe096aca085d7ecb6ced37", func := "footway/footwaylaw17.FloodTree", spec := "floodTree", unfollowed := true, recurses := true, apart := false, narrowed := true }
def FloodTreeUptoSaid : Prop := floodTreeUptoRow.holds Try.pinned (OpenSpec.upto floodTreeSpec)

end Rows
end Go.Proofs.Ytljecfgfbebjiaa
