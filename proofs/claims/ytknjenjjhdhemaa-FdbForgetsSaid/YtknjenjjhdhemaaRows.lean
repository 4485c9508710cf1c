/-
  No cell of these rows narrows 'for every input' (looked for: loops, veiled, ifaces, maps, wideKeys, modest, calm, conditions, laid).
  DERIVED. THE GIVEN ROWS OF THIS SEAT. 5 by the template 'for every input the law returns true; each argument reads behind the call as it read before'; 0 by the template 'total and deterministic' (their statements: YtknjenjjhdhemaaTotals.lean).
  GIVEN WITH THE SEED: the statements are not yours to turn. If you find one false, say at which input.
  Laid BY PROGRAM, IN A SANDBOX (cutbox-rows.mjs): the forced cells as the released guide's own fill.sh prints them over the translation dea606f70c3312a5… (all of the seat's roots in one cut). By AI agents, Wed Nov 11 2026. No macro, syntax, notation, axiom, sorry.
-/
import Derived.Test.YtknjenjjhdhemaaChecked
import GoSem.Claim
import GoSem.ClaimJoined
import GoSem.ClaimMapViews
import Derived.JoinedTies
import Derived.KernelRfl
namespace Go.Proofs.Ytknjenjjhdhemaa
/- THE CELL 'sum', in the pinned program and in every row, IS THE sha256 OF THE DUMP (.gsa) THAT YtknjenjjhdhemaaProg.lean LOADS. Nothing in Lean hashes anything: it is a label: what it is worth is what the hold of that sum in a sandbox is worth. -/
noncomputable def Try.pinned : Pinned := { name := "ytknjenjjhdhemaa", sum := "dea606f70c3312a5c36b3096d44c6591f01e4ab79188fdb292e180a7035b6288", checked := Try.checked }
namespace Rows
def none {H : Type} : Left H := { results := [], args := [] }

/-- 'footwaylaw05.WheelArms': WHATEVER THE INPUT: true; the input reads as it did. -/
def wheelArmsSpec : ChangeSpec := { name := "wheelArms", fn := fun _ => fun
  | [d1, d2, d3] => { results := [.lit (.bool true)], args := [d1, d2, d3] }
  | _ => none }
def wheelArmsRow : OpenClaim := { program := "ytknjenjjhdhemaa", sum := "dea606f70c3312a5c36b3096d44c6591f01e4ab79188fdb292e180a7035b6288", func := "footway/footwaylaw05.WheelArms", spec := "wheelArms", unfollowed := true, recurses := true, plainKeys := false, apart := false }
def WheelArmsSaid : Prop := wheelArmsRow.holds Try.pinned (OpenSpec.ofChange wheelArmsSpec)

/-- ITS FALSE NEIGHBOUR: 'it returns false'. Refute it at one input. -/
def wheelArmsWrong : ChangeSpec := { name := "wheelArms", fn := fun _ => fun
  | [d1, d2, d3] => { results := [.lit (.bool false)], args := [d1, d2, d3] }
  | _ => none }
def WheelArmsWrongFalsely : Prop := wheelArmsRow.holds Try.pinned (OpenSpec.ofChange wheelArmsWrong)

/-- 'footwaylaw05.WheelTells': WHATEVER THE INPUT: true; the input reads as it did. -/
def wheelTellsSpec : ChangeSpec := { name := "wheelTells", fn := fun _ => fun
  | [d1, d2, d3, d4] => { results := [.lit (.bool true)], args := [d1, d2, d3, d4] }
  | _ => none }
def wheelTellsRow : OpenClaim := { program := "ytknjenjjhdhemaa", sum := "dea606f70c3312a5c36b3096d44c6591f01e4ab79188fdb292e180a7035b6288", func := "footway/footwaylaw05.WheelTells", spec := "wheelTells", unfollowed := true, recurses := true, plainKeys := false, apart := false }
def WheelTellsSaid : Prop := wheelTellsRow.holds Try.pinned (OpenSpec.ofChange wheelTellsSpec)

/-- ITS FALSE NEIGHBOUR: 'it returns false'. Refute it at one input. -/
def wheelTellsWrong : ChangeSpec := { name := "wheelTells", fn := fun _ => fun
  | [d1, d2, d3, d4] => { results := [.lit (.bool false)], args := [d1, d2, d3, d4] }
  | _ => none }
def WheelTellsWrongFalsely : Prop := wheelTellsRow.holds Try.pinned (OpenSpec.ofChange wheelTellsWrong)

/-- 'footwaylaw20.JudgeTells': WHATEVER THE INPUT: true; the input reads as it did. -/
def judgeTellsSpec : ChangeSpec := { name := "judgeTells", fn := fun _ => fun
  | [d1, d2, d3, d4, d5, d6] => { results := [.lit (.bool true)], args := [d1, d2, d3, d4, d5, d6] }
  | _ => none }
def judgeTellsRow : OpenClaim := { program := "ytknjenjjhdhemaa", sum := "dea606f70c3312a5c36b3096d44c6591f01e4ab79188fdb292e180a7035b6288", func := "footway/footwaylaw20.JudgeTells", spec := "judgeTells", unfollowed := true, recurses := true, plainKeys := false, apart := false }
def JudgeTellsSaid : Prop := judgeTellsRow.holds Try.pinned (OpenSpec.ofChange judgeTellsSpec)

/-- ITS FALSE NEIGHBOUR: 'it returns false'. Refute it at one input. -/
def judgeTellsWrong : ChangeSpec := { name := "judgeTells", fn := fun _ => fun
  | [d1, d2, d3, d4, d5, d6] => { results := [.lit (.bool false)], args := [d1, d2, d3, d4, d5, d6] }
  | _ => none }
def JudgeTellsWrongFalsely : Prop := judgeTellsRow.holds Try.pinned (OpenSpec.ofChange judgeTellsWrong)

/-- 'footwaylaw08.FdbFlushes': WHATEVER THE INPUT: true; the input reads as it did. -/
def fdbFlushesSpec : ChangeSpec := { name := "fdbFlushes", fn := fun _ => fun
  | [d1, d2, d3, d4] => { results := [.lit (.bool true)], args := [d1, d2, d3, d4] }
  | _ => none }
def fdbFlushesRow : OpenClaim := { program := "ytknjenjjhdhemaa", sum := "dea606f70c3312a5c36b3096d44c6591f01e4ab79188fdb292e180a7035b6288", func := "footway/footwaylaw08.FdbFlushes", spec := "fdbFlushes", unfollowed := true, recurses := true, plainKeys := false, apart := false }
def FdbFlushesSaid : Prop := fdbFlushesRow.holds Try.pinned (OpenSpec.ofChange fdbFlushesSpec)

/-- ITS FALSE NEIGHBOUR: 'it returns false'. Refute it at one input. -/
def fdbFlushesWrong : ChangeSpec := { name := "fdbFlushes", fn := fun _ => fun
  | [d1, d2, d3, d4] => { results := [.lit (.bool false)], args := [d1, d2, d3, d4] }
  | _ => none }
def FdbFlushesWrongFalsely : Prop := fdbFlushesRow.holds Try.pinned (OpenSpec.ofChange fdbFlushesWrong)

/-- 'footwaylaw08.FdbForgets': WHATEVER THE INPUT: true; the input reads as it did. -/
def fdbForgetsSpec : ChangeSpec := { name := "fdbForgets", fn := fun _ => fun
  | [d1, d2, d3, d4] => { results := [.lit (.bool true)], args := [d1, d2, d3, d4] }
  | _ => none }
def fdbForgetsRow : OpenClaim := { program := "ytknjenjjhdhemaa", sum := "dea606f70c3312a5c36b3096d44c6591f01e4ab79188fdb292e180a7035b6288", func := "footway/footwaylaw08.FdbForgets", spec := "fdbForgets", unfollowed := true, recurses := true, plainKeys := false, apart := false }
def FdbForgetsSaid : Prop := fdbForgetsRow.holds Try.pinned (OpenSpec.ofChange fdbForgetsSpec)

/-- ITS FALSE NEIGHBOUR: 'it returns false'. Refute it at one input. -/
def fdbForgetsWrong : ChangeSpec := { name := "fdbForgets", fn := fun _ => fun
  | [d1, d2, d3, d4] => { results := [.lit (.bool false)], args := [d1, d2, d3, d4] }
  | _ => none }
def FdbForgetsWrongFalsely : Prop := fdbForgetsRow.holds Try.pinned (OpenSpec.ofChange fdbForgetsWrong)

/- THE SECOND FORM. 'bulk': how many values and letters a reading holds, each counted each time it is reached (what is shared counts as often as it is met; a slice's spare places count too). A statement '..UptoSaid' is the law's where the arguments, and the package variables that the reading takes, are together of bulk at most 1048576: NARROWER than '..Said'. Prove '..Said' where nothing that the law and all that it calls make is longer than what came in: it says more and counts as full. Else prove '..UptoSaid'. A law counts once. -/
mutual
def uptoBulk {H : Type} : DataW H → Nat
  | .lit (.string bytes) => bytes.length + 1
  | .lit _ => 1
  | .nil => 1
  | .ptr d => uptoBulk d + 1
  | .slice elems spare => uptoBulkAll elems + uptoBulkAll spare + 1
  | .agg parts => uptoBulkAll parts + 1
  | .iface _ d => uptoBulk d + 1
  | .map entries => uptoBulkEntries entries + 1
  | .held _ => 1
def uptoBulkAll {H : Type} : List (DataW H) → Nat
  | [] => 0
  | d :: r => uptoBulk d + uptoBulkAll r
def uptoBulkEntries {H : Type} : List (Lit × DataW H) → Nat
  | [] => 0
  | x :: r => uptoBulkEntry x + uptoBulkEntries r
def uptoBulkEntry {H : Type} : Lit × DataW H → Nat
  | (.string bytes, d) => bytes.length + uptoBulk d + 1
  | (_, d) => uptoBulk d + 1
 end
def uptoSmall : (H : Type) → List (DataW H) → Bool := fun _ ds => decide (uptoBulkAll ds ≤ 1048576)
def OpenSpec.upto (s : _root_.Go.ChangeSpec) : _root_.Go.OpenSpec := { _root_.Go.OpenSpec.ofChange s with cond := some uptoSmall }

/-- 'footwaylaw05.WheelArms', WHERE WHAT IT READS IS OF BULK AT MOST 1048576: true; the input reads as it did. -/
def wheelArmsUptoRow : OpenClaim := { program := "ytknjenjjhdhemaa", sum := "dea606f70c3312a5c36b3096d44c6591f01e4ab79188fdb292e180a7035b6288", func := "footway/footwaylaw05.WheelArms", spec := "wheelArms", unfollowed := true, recurses := true, plainKeys := false, apart := false, narrowed := true }
def WheelArmsUptoSaid : Prop := wheelArmsUptoRow.holds Try.pinned (OpenSpec.upto wheelArmsSpec)

/-- 'footwaylaw05.WheelTells', WHERE WHAT IT READS IS OF BULK AT MOST 1048576: true; the input reads as it did. -/
def wheelTellsUptoRow : OpenClaim := { program := "ytknjenjjhdhemaa", sum := "dea606f70c3312a5c36b3096d44c6591f01e4ab79188fdb292e180a7035b6288", func := "footway/footwaylaw05.WheelTells", spec := "wheelTells", unfollowed := true, recurses := true, plainKeys := false, apart := false, narrowed := true }
def WheelTellsUptoSaid : Prop := wheelTellsUptoRow.holds Try.pinned (OpenSpec.upto wheelTellsSpec)

/-- 'footwaylaw20.JudgeTells', WHERE WHAT IT READS IS OF BULK AT MOST 1048576: true; the input reads as it did. -/
def judgeTellsUptoRow : OpenClaim := { program := "ytknjenjjhdhemaa", sum := "dea606f70c3312a5c36b3096d44c6591f01e4ab79188fdb292e180a7035b6288", func := "footway/footwaylaw20.JudgeTells", spec := "judgeTells", unfollowed := true, recurses := true, plainKeys := false, apart := false, narrowed := true }
def JudgeTellsUptoSaid : Prop := judgeTellsUptoRow.holds Try.pinned (OpenSpec.upto judgeTellsSpec)

/-- 'footwaylaw08.FdbFlushes', WHERE WHAT IT READS IS OF BULK AT MOST 1048576: true; the input reads as it did. -/
def fdbFlushesUptoRow : OpenClaim := { program := "ytknjenjjhdhemaa", sum := "dea606f70c3312a5c36b3096d44c6591f01e4ab79188fdb292e180a7035b6288", func := "footway/footwaylaw08.FdbFlushes", spec := "fdbFlushes", unfollowed := true, recurses := true, plainKeys := false, apart := false, narrowed := true }
def FdbFlushesUptoSaid : Prop := fdbFlushesUptoRow.holds Try.pinned (OpenSpec.upto fdbFlushesSpec)

/-- 'footwaylaw08.FdbForgets', WHERE WHAT IT READS IS OF BULK AT MOST 1048576: true; the input reads as it did. -/
def fdbForgetsUptoRow : OpenClaim := { program := "ytknjenjjhdhemaa", sum := "dea606f70c3312a5c36b3096d44c6591f01e4ab79188fdb292e180a7035b6288", func := "footway/footwaylaw08.FdbForgets", spec := "fdbForgets", unfollowed := true, recurses := true, plainKeys := false, apart := false, narrowed := true }
def FdbForgetsUptoSaid : Prop := fdbForgetsUptoRow.holds Try.pinned (OpenSpec.upto fdbForgetsSpec)

end Rows
end Go.Proofs.Ytknjenjjhdhemaa
