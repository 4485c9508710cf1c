/-
  No cell of these rows narrows 'for every input' (looked for: loops, veiled, ifaces, maps, wideKeys, modest, calm, conditions, laid).
  DERIVED. THE GIVEN ROWS OF THIS SEAT. 6 by the template 'for every input the law returns true; each argument reads behind the call as it read before'; 0 by the template 'total and deterministic' (their statements: YtbpgcejajdeafaaTotals.lean).
  GIVEN WITH THE SEED: the statements are not yours to turn. If you find one false, say at which input.
  Laid BY PROGRAM, IN A SANDBOX (cutbox-rows.mjs): the forced cells as the released guide's own fill.sh prints them over the translation 1cbfb1186bef5717… (all of the seat's roots in one cut). By AI agents, Wed Nov 11 2026. No macro, syntax, notation, axiom, sorry.
-/
import Derived.Test.YtbpgcejajdeafaaChecked
import GoSem.Claim
import GoSem.ClaimJoined
import GoSem.ClaimMapViews
import Derived.JoinedTies
import Derived.KernelRfl
namespace Go.Proofs.Ytbpgcejajdeafaa
/- THE CELL 'sum', in the pinned program and in every row, IS THE sha256 OF THE DUMP (.gsa) THAT YtbpgcejajdeafaaProg.lean LOADS. Nothing in Lean hashes anything: it is a label: what it is worth is what the hold of that sum in a sandbox is worth. -/
noncomputable def Try.pinned : Pinned := { name := "ytbpgcejajdeafaa", sum := "1cbfb1186bef571744884b9ff12422687015d43aea428a4a5b9f20312bf70ff2", checked := Try.checked }
namespace Rows
def none {H : Type} : Left H := { results := [], args := [] }

/-- 'footwaylaw20.JudgeCounts': WHATEVER THE INPUT: true; the input reads as it did. -/
def judgeCountsSpec : ChangeSpec := { name := "judgeCounts", fn := fun _ => fun
  | [d1, d2] => { results := [.lit (.bool true)], args := [d1, d2] }
  | _ => none }
def judgeCountsRow : OpenClaim := { program := "ytbpgcejajdeafaa", sum := "1cbfb1186bef571744884b9ff12422687015d43aea428a4a5b9f20312bf70ff2", func := "footway/footwaylaw20.JudgeCounts", spec := "judgeCounts", unfollowed := true, recurses := true, plainKeys := false, apart := false }
def JudgeCountsSaid : Prop := judgeCountsRow.holds Try.pinned (OpenSpec.ofChange judgeCountsSpec)

/-- ITS FALSE NEIGHBOUR: 'it returns false'. Refute it at one input. -/
def judgeCountsWrong : ChangeSpec := { name := "judgeCounts", fn := fun _ => fun
  | [d1, d2] => { results := [.lit (.bool false)], args := [d1, d2] }
  | _ => none }
def JudgeCountsWrongFalsely : Prop := judgeCountsRow.holds Try.pinned (OpenSpec.ofChange judgeCountsWrong)

/-- 'footwaylaw05.WheelSteps': WHATEVER THE INPUT: true; the input reads as it did. -/
def wheelStepsSpec : ChangeSpec := { name := "wheelSteps", fn := fun _ => fun
  | [d1, d2, d3] => { results := [.lit (.bool true)], args := [d1, d2, d3] }
  | _ => none }
def wheelStepsRow : OpenClaim := { program := "ytbpgcejajdeafaa", sum := "1cbfb1186bef571744884b9ff12422687015d43aea428a4a5b9f20312bf70ff2", func := "footway/footwaylaw05.WheelSteps", spec := "wheelSteps", unfollowed := true, recurses := true, plainKeys := false, apart := false }
def WheelStepsSaid : Prop := wheelStepsRow.holds Try.pinned (OpenSpec.ofChange wheelStepsSpec)

/-- ITS FALSE NEIGHBOUR: 'it returns false'. Refute it at one input. -/
def wheelStepsWrong : ChangeSpec := { name := "wheelSteps", fn := fun _ => fun
  | [d1, d2, d3] => { results := [.lit (.bool false)], args := [d1, d2, d3] }
  | _ => none }
def WheelStepsWrongFalsely : Prop := wheelStepsRow.holds Try.pinned (OpenSpec.ofChange wheelStepsWrong)

/-- 'footwaylaw05.WheelNext': WHATEVER THE INPUT: true; the input reads as it did. -/
def wheelNextSpec : ChangeSpec := { name := "wheelNext", fn := fun _ => fun
  | [d] => { results := [.lit (.bool true)], args := [d] }
  | _ => none }
def wheelNextRow : OpenClaim := { program := "ytbpgcejajdeafaa", sum := "1cbfb1186bef571744884b9ff12422687015d43aea428a4a5b9f20312bf70ff2", func := "footway/footwaylaw05.WheelNext", spec := "wheelNext", unfollowed := true, recurses := true, plainKeys := false, apart := false }
def WheelNextSaid : Prop := wheelNextRow.holds Try.pinned (OpenSpec.ofChange wheelNextSpec)

/-- ITS FALSE NEIGHBOUR: 'it returns false'. Refute it at one input. -/
def wheelNextWrong : ChangeSpec := { name := "wheelNext", fn := fun _ => fun
  | [d] => { results := [.lit (.bool false)], args := [d] }
  | _ => none }
def WheelNextWrongFalsely : Prop := wheelNextRow.holds Try.pinned (OpenSpec.ofChange wheelNextWrong)

/-- 'footwaylaw20.JudgeSums': WHATEVER THE INPUT: true; the input reads as it did. -/
def judgeSumsSpec : ChangeSpec := { name := "judgeSums", fn := fun _ => fun
  | [d1, d2, d3, d4] => { results := [.lit (.bool true)], args := [d1, d2, d3, d4] }
  | _ => none }
def judgeSumsRow : OpenClaim := { program := "ytbpgcejajdeafaa", sum := "1cbfb1186bef571744884b9ff12422687015d43aea428a4a5b9f20312bf70ff2", func := "footway/footwaylaw20.JudgeSums", spec := "judgeSums", unfollowed := true, recurses := true, plainKeys := false, apart := false }
def JudgeSumsSaid : Prop := judgeSumsRow.holds Try.pinned (OpenSpec.ofChange judgeSumsSpec)

/-- ITS FALSE NEIGHBOUR: 'it returns false'. Refute it at one input. -/
def judgeSumsWrong : ChangeSpec := { name := "judgeSums", fn := fun _ => fun
  | [d1, d2, d3, d4] => { results := [.lit (.bool false)], args := [d1, d2, d3, d4] }
  | _ => none }
def JudgeSumsWrongFalsely : Prop := judgeSumsRow.holds Try.pinned (OpenSpec.ofChange judgeSumsWrong)

/-- 'footwaylaw05.WheelArms': WHATEVER THE INPUT: true; the input reads as it did. -/
def wheelArmsSpec : ChangeSpec := { name := "wheelArms", fn := fun _ => fun
  | [d1, d2, d3] => { results := [.lit (.bool true)], args := [d1, d2, d3] }
  | _ => none }
def wheelArmsRow : OpenClaim := { program := "ytbpgcejajdeafaa", sum := "1cbfb1186bef571744884b9ff12422687015d43aea428a4a5b9f20312bf70ff2", func := "footway/footwaylaw05.WheelArms", spec := "wheelArms", unfollowed := true, recurses := true, plainKeys := false, apart := false }
def WheelArmsSaid : Prop := wheelArmsRow.holds Try.pinned (OpenSpec.ofChange wheelArmsSpec)

/-- ITS FALSE NEIGHBOUR: 'it returns false'. Refute it at one input. -/
def wheelArmsWrong : ChangeSpec := { name := "wheelArms", fn := fun _ => fun
  | [d1, d2, d3] => { results := [.lit (.bool false)], args := [d1, d2, d3] }
  | _ => none }
def WheelArmsWrongFalsely : Prop := wheelArmsRow.holds Try.pinned (OpenSpec.ofChange wheelArmsWrong)

/-- 'footwaylaw05.WheelTells': WHATEVER THE INPUT: true; the input reads as it did. -/
def wheelTellsSpec : ChangeSpec := { name := "wheelTells", fn := fun _ => fun
  | [d1, d2, d3, d4] => { results := [.lit (.bool true)], args := [d1, d2, d3, d4] }
  | _ => none }
def wheelTellsRow : OpenClaim := { program := "ytbpgcejajdeafaa", sum := "1cbfb1186bef571744884b9ff12422687015d43aea428a4a5b9f20312bf70ff2", func := "footway/footwaylaw05.WheelTells", spec := "wheelTells", unfollowed := true, recurses := true, plainKeys := false, apart := false }
def WheelTellsSaid : Prop := wheelTellsRow.holds Try.pinned (OpenSpec.ofChange wheelTellsSpec)

/-- ITS FALSE NEIGHBOUR: 'it returns false'. Refute it at one input. -/
def wheelTellsWrong : ChangeSpec := { name := "wheelTells", fn := fun _ => fun
  | [d1, d2, d3, d4] => { results := [.lit (.bool false)], args := [d1, d2, d3, d4] }
  | _ => none }
def WheelTellsWrongFalsely : Prop := wheelTellsRow.holds Try.pinned (OpenSpec.ofChange wheelTellsWrong)

/- THE SECOND FORM. 'bulk': how many values and letters a reading holds, each counted each time it is reached (what is shared counts as often as it is met; a slice's spare places count too). A statement '..UptoSaid' is the law's where the arguments, and the package variables that the reading takes, are together of bulk at most 1048576: NARROWER than '..Said'. Prove '..Said' where nothing that the law and all that it calls make is longer than what came in: it says more and counts as full. Else prove '..UptoSaid'. A law counts once. -/
mutual
def uptoBulk {H : Type} : DataW H → Nat
  | .lit (.string bytes) => bytes.length + 1
  | .lit _ => 1
  | .nil => 1
  | .ptr d => uptoBulk d + 1
  | .slice elems spare => uptoBulkAll elems + uptoBulkAll spare + 1
  | .agg parts => uptoBulkAll parts + 1
  | .iface _ d => uptoBulk d + 1
  | .map entries => uptoBulkEntries entries + 1
  | .held _ => 1
def uptoBulkAll {H : Type} : List (DataW H) → Nat
  | [] => 0
  | d :: r => uptoBulk d + uptoBulkAll r
def uptoBulkEntries {H : Type} : List (Lit × DataW H) → Nat
  | [] => 0
  | x :: r => uptoBulkEntry x + uptoBulkEntries r
def uptoBulkEntry {H : Type} : Lit × DataW H → Nat
  | (.string bytes, d) => bytes.length + uptoBulk d + 1
  | (_, d) => uptoBulk d + 1
 end
def uptoSmall : (H : Type) → List (DataW H) → Bool := fun _ ds => decide (uptoBulkAll ds ≤ 1048576)
def OpenSpec.upto (s : _root_.Go.ChangeSpec) : _root_.Go.OpenSpec := { _root_.Go.OpenSpec.ofChange s with cond := some uptoSmall }

/-- 'footwaylaw20.JudgeCounts', WHERE WHAT IT READS IS OF BULK AT MOST 1048576: true; the input reads as it did. -/
def judgeCountsUptoRow : OpenClaim := { program := "ytbpgcejajdeafaa", sum := "1cbfb1186bef571744884b9ff12422687015d43aea428a4a5b9f20312bf70ff2", func := "footway/footwaylaw20.JudgeCounts", spec := "judgeCounts", unfollowed := true, recurses := true, plainKeys := false, apart := false, narrowed := true }
def JudgeCountsUptoSaid : Prop := judgeCountsUptoRow.holds Try.pinned (OpenSpec.upto judgeCountsSpec)

/-- 'footwaylaw05.WheelSteps', WHERE WHAT IT READS IS OF BULK AT MOST 1048576: true; the input reads as it did. -/
def wheelStepsUptoRow : OpenClaim := { program := "ytbpgcejajdeafaa", sum := "1cbfb1186bef571744884b9ff12422687015d43aea428a4a5b9f20312bf70ff2", func := "footway/footwaylaw05.WheelSteps", spec := "wheelSteps", unfollowed := true, recurses := true, plainKeys := false, apart := false, narrowed := true }
def WheelStepsUptoSaid : Prop := wheelStepsUptoRow.holds Try.pinned (OpenSpec.upto wheelStepsSpec)

/-- 'footwaylaw05.WheelNext', WHERE WHAT IT READS IS OF BULK AT MOST 1048576: true; the input reads as it did. -/
def wheelNextUptoRow : OpenClaim := { program := "ytbpgcejajdeafaa", sum := "1cbfb1186bef571744884b9ff12422687015d43aea428a4a5b9f20312bf70ff2", func := "footway/footwaylaw05.WheelNext", spec := "wheelNext", unfollowed := true, recurses := true, plainKeys := false, apart := false, narrowed := true }
def WheelNextUptoSaid : Prop := wheelNextUptoRow.holds Try.pinned (OpenSpec.upto wheelNextSpec)

/-- 'footwaylaw20.JudgeSums', WHERE WHAT IT READS IS OF BULK AT MOST 1048576: true; the input reads as it did. -/
def judgeSumsUptoRow : OpenClaim := { program := "ytbpgcejajdeafaa", sum := "1cbfb1186bef571744884b9ff12422687015d43aea428a4a5b9f20312bf70ff2", func := "footway/footwaylaw20.JudgeSums", spec := "judgeSums", unfollowed := true, recurses := true, plainKeys := false, apart := false, narrowed := true }
def JudgeSumsUptoSaid : Prop := judgeSumsUptoRow.holds Try.pinned (OpenSpec.upto judgeSumsSpec)

/-- 'footwaylaw05.WheelArms', WHERE WHAT IT READS IS OF BULK AT MOST 1048576: true; the input reads as it did. -/
def wheelArmsUptoRow : OpenClaim := { program := "ytbpgcejajdeafaa", sum := "1cbfb1186bef571744884b9ff12422687015d43aea428a4a5b9f20312bf70ff2", func := "footway/footwaylaw05.WheelArms", spec := "wheelArms", unfollowed := true, recurses := true, plainKeys := false, apart := false, narrowed := true }
def WheelArmsUptoSaid : Prop := wheelArmsUptoRow.holds Try.pinned (OpenSpec.upto wheelArmsSpec)

/-- 'footwaylaw05.WheelTells', WHERE WHAT IT READS IS OF BULK AT MOST 1048576: true; the input reads as it did. -/
def wheelTellsUptoRow : OpenClaim := { program := "ytbpgcejajdeafaa", sum := "1cbfb1186bef571744884b9ff12422687015d43aea428a4a5b9f20312bf70ff2", func := "footway/footwaylaw05.WheelTells", spec := "wheelTells", unfollowed := true, recurses := true, plainKeys := false, apart := false, narrowed := true }
def WheelTellsUptoSaid : Prop := wheelTellsUptoRow.holds Try.pinned (OpenSpec.upto wheelTellsSpec)

end Rows
end Go.Proofs.Ytbpgcejajdeafaa
