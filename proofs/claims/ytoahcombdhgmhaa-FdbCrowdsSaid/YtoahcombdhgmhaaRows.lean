/-
  No cell of these rows narrows 'for every input' (looked for: loops, veiled, ifaces, maps, wideKeys, modest, calm, conditions, laid).
  DERIVED. THE GIVEN ROWS OF THIS SEAT. 22 by the template 'for every input the law returns true; each argument reads behind the call as it read before'; 0 by the template 'total and deterministic' (their statements: YtoahcombdhgmhaaTotals.lean).
  GIVEN WITH THE SEED: the statements are not yours to turn. If you find one false, say at which input.
  Laid BY PROGRAM, IN A SANDBOX (cutbox-rows.mjs): the forced cells as the released guide's own fill.sh prints them over the translation 22527eaa1d820e68… (all of the seat's roots in one cut). By AI agents, Wed Nov 11 2026. No macro, syntax, notation, axiom, sorry.
-/
import Derived.Test.YtoahcombdhgmhaaChecked
import GoSem.Claim
import GoSem.ClaimJoined
import GoSem.ClaimMapViews
import Derived.JoinedTies
import Derived.KernelRfl
namespace Go.Proofs.Ytoahcombdhgmhaa
/- THE CELL 'sum', in the pinned program and in every row, IS THE sha256 OF THE DUMP (.gsa) THAT YtoahcombdhgmhaaProg.lean LOADS. Nothing in Lean hashes anything: it is a label: what it is worth is what the hold of that sum in a sandbox is worth. -/
noncomputable def Try.pinned : Pinned := { name := "ytoahcombdhgmhaa", sum := "22527eaa1d820e68b626a137013495039e888cd62ed2091df7126c6e8f6b2eb4", checked := Try.checked }
namespace Rows
def none {H : Type} : Left H := { results := [], args := [] }

/-- 'footwaylaw08.FdbLearns': WHATEVER THE INPUT: true; the input reads as it did. -/
def fdbLearnsSpec : ChangeSpec := { name := "fdbLearns", fn := fun _ => fun
  | [d1, d2, d3, d4, d5, d6, d7] => { results := [.lit (.bool true)], args := [d1, d2, d3, d4, d5, d6, d7] }
  | _ => none }
def fdbLearnsRow : OpenClaim := { program := "ytoahcombdhgmhaa", sum := "22527eaa1d820e68b626a137013495039e888cd62ed2091df7126c6e8f6b2eb4", func := "footway/footwaylaw08.FdbLearns", spec := "fdbLearns", unfollowed := true, recurses := true, plainKeys := false, apart := false }
def FdbLearnsSaid : Prop := fdbLearnsRow.holds Try.pinned (OpenSpec.ofChange fdbLearnsSpec)

/-- ITS FALSE NEIGHBOUR: 'it returns false'. Refute it at one input. -/
def fdbLearnsWrong : ChangeSpec := { name := "fdbLearns", fn := fun _ => fun
  | [d1, d2, d3, d4, d5, d6, d7] => { results := [.lit (.bool false)], args := [d1, d2, d3, d4, d5, d6, d7] }
  | _ => none }
def FdbLearnsWrongFalsely : Prop := fdbLearnsRow.holds Try.pinned (OpenSpec.ofChange fdbLearnsWrong)

/-- 'footwaylaw08.FdbCrowds': WHATEVER THE INPUT: true; the input reads as it did. -/
def fdbCrowdsSpec : ChangeSpec := { name := "fdbCrowds", fn := fun _ => fun
  | [d1, d2, d3, d4, d5, d6] => { results := [.lit (.bool true)], args := [d1, d2, d3, d4, d5, d6] }
  | _ => none }
def fdbCrowdsRow : OpenClaim := { program := "ytoahcombdhgmhaa", sum := "22527eaa1d820e68b626a137013495039e888cd62ed2091df7126c6e8f6b2eb4", func := "footway/footwaylaw08.FdbCrowds", spec := "fdbCrowds", unfollowed := true, recurses := true, plainKeys := false, apart := false }
def FdbCrowdsSaid : Prop := fdbCrowdsRow.holds Try.pinned (OpenSpec.ofChange fdbCrowdsSpec)

/-- ITS FALSE NEIGHBOUR: 'it returns false'. Refute it at one input. -/
def fdbCrowdsWrong : ChangeSpec := { name := "fdbCrowds", fn := fun _ => fun
  | [d1, d2, d3, d4, d5, d6] => { results := [.lit (.bool false)], args := [d1, d2, d3, d4, d5, d6] }
  | _ => none }
def FdbCrowdsWrongFalsely : Prop := fdbCrowdsRow.holds Try.pinned (OpenSpec.ofChange fdbCrowdsWrong)

/-- 'footwaylaw16.TreeNear': WHATEVER THE INPUT: true; the input reads as it did. -/
def treeNearSpec : ChangeSpec := { name := "treeNear", fn := fun _ => fun
  | [d1, d2, d3] => { results := [.lit (.bool true)], args := [d1, d2, d3] }
  | _ => none }
def treeNearRow : OpenClaim := { program := "ytoahcombdhgmhaa", sum := "22527eaa1d820e68b626a137013495039e888cd62ed2091df7126c6e8f6b2eb4", func := "footway/footwaylaw16.TreeNear", spec := "treeNear", unfollowed := true, recurses := true, plainKeys := false, apart := false }
def TreeNearSaid : Prop := treeNearRow.holds Try.pinned (OpenSpec.ofChange treeNearSpec)

/-- ITS FALSE NEIGHBOUR: 'it returns false'. Refute it at one input. -/
def treeNearWrong : ChangeSpec := { name := "treeNear", fn := fun _ => fun
  | [d1, d2, d3] => { results := [.lit (.bool false)], args := [d1, d2, d3] }
  | _ => none }
def TreeNearWrongFalsely : Prop := treeNearRow.holds Try.pinned (OpenSpec.ofChange treeNearWrong)

/-- 'footwaylaw16.TreeRoots': WHATEVER THE INPUT: true; the input reads as it did. -/
def treeRootsSpec : ChangeSpec := { name := "treeRoots", fn := fun _ => fun
  | [d] => { results := [.lit (.bool true)], args := [d] }
  | _ => none }
def treeRootsRow : OpenClaim := { program := "ytoahcombdhgmhaa", sum := "22527eaa1d820e68b626a137013495039e888cd62ed2091df7126c6e8f6b2eb4", func := "footway/footwaylaw16.TreeRoots", spec := "treeRoots", unfollowed := true, recurses := true, plainKeys := false, apart := false }
def TreeRootsSaid : Prop := treeRootsRow.holds Try.pinned (OpenSpec.ofChange treeRootsSpec)

/-- ITS FALSE NEIGHBOUR: 'it returns false'. Refute it at one input. -/
def treeRootsWrong : ChangeSpec := { name := "treeRoots", fn := fun _ => fun
  | [d] => { results := [.lit (.bool false)], args := [d] }
  | _ => none }
def TreeRootsWrongFalsely : Prop := treeRootsRow.holds Try.pinned (OpenSpec.ofChange treeRootsWrong)

/-- 'footwaylaw16.TreeTells': WHATEVER THE INPUT: true; the input reads as it did. -/
def treeTellsSpec : ChangeSpec := { name := "treeTells", fn := fun _ => fun
  | [d1, d2, d3] => { results := [.lit (.bool true)], args := [d1, d2, d3] }
  | _ => none }
def treeTellsRow : OpenClaim := { program := "ytoahcombdhgmhaa", sum := "22527eaa1d820e68b626a137013495039e888cd62ed2091df7126c6e8f6b2eb4", func := "footway/footwaylaw16.TreeTells", spec := "treeTells", unfollowed := true, recurses := true, plainKeys := false, apart := false }
def TreeTellsSaid : Prop := treeTellsRow.holds Try.pinned (OpenSpec.ofChange treeTellsSpec)

/-- ITS FALSE NEIGHBOUR: 'it returns false'. Refute it at one input. -/
def treeTellsWrong : ChangeSpec := { name := "treeTells", fn := fun _ => fun
  | [d1, d2, d3] => { results := [.lit (.bool false)], args := [d1, d2, d3] }
  | _ => none }
def TreeTellsWrongFalsely : Prop := treeTellsRow.holds Try.pinned (OpenSpec.ofChange treeTellsWrong)

/-- 'footwaylaw12.StpHears': WHATEVER THE INPUT: true; the input reads as it did. -/
def stpHearsSpec : ChangeSpec := { name := "stpHears", fn := fun _ => fun
  | [d1, d2, d3, d4, d5, d6, d7] => { results := [.lit (.bool true)], args := [d1, d2, d3, d4, d5, d6, d7] }
  | _ => none }
def stpHearsRow : OpenClaim := { program := "ytoahcombdhgmhaa", sum := "22527eaa1d820e68b626a137013495039e888cd62ed2091df7126c6e8f6b2eb4", func := "footway/footwaylaw12.StpHears", spec := "stpHears", unfollowed := true, recurses := true, plainKeys := false, apart := false }
def StpHearsSaid : Prop := stpHearsRow.holds Try.pinned (OpenSpec.ofChange stpHearsSpec)

/-- ITS FALSE NEIGHBOUR: 'it returns false'. Refute it at one input. -/
def stpHearsWrong : ChangeSpec := { name := "stpHears", fn := fun _ => fun
  | [d1, d2, d3, d4, d5, d6, d7] => { results := [.lit (.bool false)], args := [d1, d2, d3, d4, d5, d6, d7] }
  | _ => none }
def StpHearsWrongFalsely : Prop := stpHearsRow.holds Try.pinned (OpenSpec.ofChange stpHearsWrong)

/-- 'footwaylaw12.StpTicks': WHATEVER THE INPUT: true; the input reads as it did. -/
def stpTicksSpec : ChangeSpec := { name := "stpTicks", fn := fun _ => fun
  | [d1, d2, d3] => { results := [.lit (.bool true)], args := [d1, d2, d3] }
  | _ => none }
def stpTicksRow : OpenClaim := { program := "ytoahcombdhgmhaa", sum := "22527eaa1d820e68b626a137013495039e888cd62ed2091df7126c6e8f6b2eb4", func := "footway/footwaylaw12.StpTicks", spec := "stpTicks", unfollowed := true, recurses := true, plainKeys := false, apart := false }
def StpTicksSaid : Prop := stpTicksRow.holds Try.pinned (OpenSpec.ofChange stpTicksSpec)

/-- ITS FALSE NEIGHBOUR: 'it returns false'. Refute it at one input. -/
def stpTicksWrong : ChangeSpec := { name := "stpTicks", fn := fun _ => fun
  | [d1, d2, d3] => { results := [.lit (.bool false)], args := [d1, d2, d3] }
  | _ => none }
def StpTicksWrongFalsely : Prop := stpTicksRow.holds Try.pinned (OpenSpec.ofChange stpTicksWrong)

/-- 'footwaylaw12.StpAges': WHATEVER THE INPUT: true; the input reads as it did. -/
def stpAgesSpec : ChangeSpec := { name := "stpAges", fn := fun _ => fun
  | [d1, d2, d3, d4, d5] => { results := [.lit (.bool true)], args := [d1, d2, d3, d4, d5] }
  | _ => none }
def stpAgesRow : OpenClaim := { program := "ytoahcombdhgmhaa", sum := "22527eaa1d820e68b626a137013495039e888cd62ed2091df7126c6e8f6b2eb4", func := "footway/footwaylaw12.StpAges", spec := "stpAges", unfollowed := true, recurses := true, plainKeys := false, apart := false }
def StpAgesSaid : Prop := stpAgesRow.holds Try.pinned (OpenSpec.ofChange stpAgesSpec)

/-- ITS FALSE NEIGHBOUR: 'it returns false'. Refute it at one input. -/
def stpAgesWrong : ChangeSpec := { name := "stpAges", fn := fun _ => fun
  | [d1, d2, d3, d4, d5] => { results := [.lit (.bool false)], args := [d1, d2, d3, d4, d5] }
  | _ => none }
def StpAgesWrongFalsely : Prop := stpAgesRow.holds Try.pinned (OpenSpec.ofChange stpAgesWrong)

/-- 'footwaylaw15.LanLoops': WHATEVER THE INPUT: true; the input reads as it did. -/
def lanLoopsSpec : ChangeSpec := { name := "lanLoops", fn := fun _ => fun
  | [d1, d2, d3] => { results := [.lit (.bool true)], args := [d1, d2, d3] }
  | _ => none }
def lanLoopsRow : OpenClaim := { program := "ytoahcombdhgmhaa", sum := "22527eaa1d820e68b626a137013495039e888cd62ed2091df7126c6e8f6b2eb4", func := "footway/footwaylaw15.LanLoops", spec := "lanLoops", unfollowed := true, recurses := true, plainKeys := false, apart := false }
def LanLoopsSaid : Prop := lanLoopsRow.holds Try.pinned (OpenSpec.ofChange lanLoopsSpec)

/-- ITS FALSE NEIGHBOUR: 'it returns false'. Refute it at one input. -/
def lanLoopsWrong : ChangeSpec := { name := "lanLoops", fn := fun _ => fun
  | [d1, d2, d3] => { results := [.lit (.bool false)], args := [d1, d2, d3] }
  | _ => none }
def LanLoopsWrongFalsely : Prop := lanLoopsRow.holds Try.pinned (OpenSpec.ofChange lanLoopsWrong)

/-- 'footwaylaw15.LanParts': WHATEVER THE INPUT: true; the input reads as it did. -/
def lanPartsSpec : ChangeSpec := { name := "lanParts", fn := fun _ => fun
  | [d1, d2, d3] => { results := [.lit (.bool true)], args := [d1, d2, d3] }
  | _ => none }
def lanPartsRow : OpenClaim := { program := "ytoahcombdhgmhaa", sum := "22527eaa1d820e68b626a137013495039e888cd62ed2091df7126c6e8f6b2eb4", func := "footway/footwaylaw15.LanParts", spec := "lanParts", unfollowed := true, recurses := true, plainKeys := false, apart := false }
def LanPartsSaid : Prop := lanPartsRow.holds Try.pinned (OpenSpec.ofChange lanPartsSpec)

/-- ITS FALSE NEIGHBOUR: 'it returns false'. Refute it at one input. -/
def lanPartsWrong : ChangeSpec := { name := "lanParts", fn := fun _ => fun
  | [d1, d2, d3] => { results := [.lit (.bool false)], args := [d1, d2, d3] }
  | _ => none }
def LanPartsWrongFalsely : Prop := lanPartsRow.holds Try.pinned (OpenSpec.ofChange lanPartsWrong)

/-- 'footwaylaw05.WheelArms': WHATEVER THE INPUT: true; the input reads as it did. -/
def wheelArmsSpec : ChangeSpec := { name := "wheelArms", fn := fun _ => fun
  | [d1, d2, d3] => { results := [.lit (.bool true)], args := [d1, d2, d3] }
  | _ => none }
def wheelArmsRow : OpenClaim := { program := "ytoahcombdhgmhaa", sum := "22527eaa1d820e68b626a137013495039e888cd62ed2091df7126c6e8f6b2eb4", func := "footway/footwaylaw05.WheelArms", spec := "wheelArms", unfollowed := true, recurses := true, plainKeys := false, apart := false }
def WheelArmsSaid : Prop := wheelArmsRow.holds Try.pinned (OpenSpec.ofChange wheelArmsSpec)

/-- ITS FALSE NEIGHBOUR: 'it returns false'. Refute it at one input. -/
def wheelArmsWrong : ChangeSpec := { name := "wheelArms", fn := fun _ => fun
  | [d1, d2, d3] => { results := [.lit (.bool false)], args := [d1, d2, d3] }
  | _ => none }
def WheelArmsWrongFalsely : Prop := wheelArmsRow.holds Try.pinned (OpenSpec.ofChange wheelArmsWrong)

/-- 'footwaylaw05.WheelTells': WHATEVER THE INPUT: true; the input reads as it did. -/
def wheelTellsSpec : ChangeSpec := { name := "wheelTells", fn := fun _ => fun
  | [d1, d2, d3, d4] => { results := [.lit (.bool true)], args := [d1, d2, d3, d4] }
  | _ => none }
def wheelTellsRow : OpenClaim := { program := "ytoahcombdhgmhaa", sum := "22527eaa1d820e68b626a137013495039e888cd62ed2091df7126c6e8f6b2eb4", func := "footway/footwaylaw05.WheelTells", spec := "wheelTells", unfollowed := true, recurses := true, plainKeys := false, apart := false }
def WheelTellsSaid : Prop := wheelTellsRow.holds Try.pinned (OpenSpec.ofChange wheelTellsSpec)

/-- ITS FALSE NEIGHBOUR: 'it returns false'. Refute it at one input. -/
def wheelTellsWrong : ChangeSpec := { name := "wheelTells", fn := fun _ => fun
  | [d1, d2, d3, d4] => { results := [.lit (.bool false)], args := [d1, d2, d3, d4] }
  | _ => none }
def WheelTellsWrongFalsely : Prop := wheelTellsRow.holds Try.pinned (OpenSpec.ofChange wheelTellsWrong)

/-- 'footwaylaw15.LanStations': WHATEVER THE INPUT: true; the input reads as it did. -/
def lanStationsSpec : ChangeSpec := { name := "lanStations", fn := fun _ => fun
  | [d1, d2, d3] => { results := [.lit (.bool true)], args := [d1, d2, d3] }
  | _ => none }
def lanStationsRow : OpenClaim := { program := "ytoahcombdhgmhaa", sum := "22527eaa1d820e68b626a137013495039e888cd62ed2091df7126c6e8f6b2eb4", func := "footway/footwaylaw15.LanStations", spec := "lanStations", unfollowed := true, recurses := true, plainKeys := false, apart := false }
def LanStationsSaid : Prop := lanStationsRow.holds Try.pinned (OpenSpec.ofChange lanStationsSpec)

/-- ITS FALSE NEIGHBOUR: 'it returns false'. Refute it at one input. -/
def lanStationsWrong : ChangeSpec := { name := "lanStations", fn := fun _ => fun
  | [d1, d2, d3] => { results := [.lit (.bool false)], args := [d1, d2, d3] }
  | _ => none }
def LanStationsWrongFalsely : Prop := lanStationsRow.holds Try.pinned (OpenSpec.ofChange lanStationsWrong)

/-- 'footwaylaw15.LanTells': WHATEVER THE INPUT: true; the input reads as it did. -/
def lanTellsSpec : ChangeSpec := { name := "lanTells", fn := fun _ => fun
  | [d1, d2] => { results := [.lit (.bool true)], args := [d1, d2] }
  | _ => none }
def lanTellsRow : OpenClaim := { program := "ytoahcombdhgmhaa", sum := "22527eaa1d820e68b626a137013495039e888cd62ed2091df7126c6e8f6b2eb4", func := "footway/footwaylaw15.LanTells", spec := "lanTells", unfollowed := true, recurses := true, plainKeys := false, apart := false }
def LanTellsSaid : Prop := lanTellsRow.holds Try.pinned (OpenSpec.ofChange lanTellsSpec)

/-- ITS FALSE NEIGHBOUR: 'it returns false'. Refute it at one input. -/
def lanTellsWrong : ChangeSpec := { name := "lanTells", fn := fun _ => fun
  | [d1, d2] => { results := [.lit (.bool false)], args := [d1, d2] }
  | _ => none }
def LanTellsWrongFalsely : Prop := lanTellsRow.holds Try.pinned (OpenSpec.ofChange lanTellsWrong)

/-- 'footwaylaw17.FloodMore': WHATEVER THE INPUT: true; the input reads as it did. -/
def floodMoreSpec : ChangeSpec := { name := "floodMore", fn := fun _ => fun
  | [d1, d2, d3, d4, d5] => { results := [.lit (.bool true)], args := [d1, d2, d3, d4, d5] }
  | _ => none }
def floodMoreRow : OpenClaim := { program := "ytoahcombdhgmhaa", sum := "22527eaa1d820e68b626a137013495039e888cd62ed2091df7126c6e8f6b2eb4", func := "footway/footwaylaw17.FloodMore", spec := "floodMore", unfollowed := true, recurses := true, plainKeys := false, apart := false }
def FloodMoreSaid : Prop := floodMoreRow.holds Try.pinned (OpenSpec.ofChange floodMoreSpec)

/-- ITS FALSE NEIGHBOUR: 'it returns false'. Refute it at one input. -/
def floodMoreWrong : ChangeSpec := { name := "floodMore", fn := fun _ => fun
  | [d1, d2, d3, d4, d5] => { results := [.lit (.bool false)], args := [d1, d2, d3, d4, d5] }
  | _ => none }
def FloodMoreWrongFalsely : Prop := floodMoreRow.holds Try.pinned (OpenSpec.ofChange floodMoreWrong)

/-- 'footwaylaw17.FloodTells': WHATEVER THE INPUT: true; the input reads as it did. -/
def floodTellsSpec : ChangeSpec := { name := "floodTells", fn := fun _ => fun
  | [d1, d2, d3, d4] => { results := [.lit (.bool true)], args := [d1, d2, d3, d4] }
  | _ => none }
def floodTellsRow : OpenClaim := { program := "ytoahcombdhgmhaa", sum := "22527eaa1d820e68b626a137013495039e888cd62ed2091df7126c6e8f6b2eb4", func := "footway/footwaylaw17.FloodTells", spec := "floodTells", unfollowed := true, recurses := true, plainKeys := false, apart := false }
def FloodTellsSaid : Prop := floodTellsRow.holds Try.pinned (OpenSpec.ofChange floodTellsSpec)

/-- ITS FALSE NEIGHBOUR: 'it returns false'. Refute it at one input. -/
def floodTellsWrong : ChangeSpec := { name := "floodTells", fn := fun _ => fun
  | [d1, d2, d3, d4] => { results := [.lit (.bool false)], args := [d1, d2, d3, d4] }
  | _ => none }
def FloodTellsWrongFalsely : Prop := floodTellsRow.holds Try.pinned (OpenSpec.ofChange floodTellsWrong)

/-- 'footwaylaw17.FloodBoth': WHATEVER THE INPUT: true; the input reads as it did. -/
def floodBothSpec : ChangeSpec := { name := "floodBoth", fn := fun _ => fun
  | [d1, d2, d3, d4] => { results := [.lit (.bool true)], args := [d1, d2, d3, d4] }
  | _ => none }
def floodBothRow : OpenClaim := { program := "ytoahcombdhgmhaa", sum := "22527eaa1d820e68b626a137013495039e888cd62ed2091df7126c6e8f6b2eb4", func := "footway/footwaylaw17.FloodBoth", spec := "floodBoth", unfollowed := true, recurses := true, plainKeys := false, apart := false }
def FloodBothSaid : Prop := floodBothRow.holds Try.pinned (OpenSpec.ofChange floodBothSpec)

/-- ITS FALSE NEIGHBOUR: 'it returns false'. Refute it at one input. -/
def floodBothWrong : ChangeSpec := { name := "floodBoth", fn := fun _ => fun
  | [d1, d2, d3, d4] => { results := [.lit (.bool false)], args := [d1, d2, d3, d4] }
  | _ => none }
def FloodBothWrongFalsely : Prop := floodBothRow.holds Try.pinned (OpenSpec.ofChange floodBothWrong)

/-- 'footwaylaw20.JudgeTells': WHATEVER THE INPUT: true; the input reads as it did. -/
def judgeTellsSpec : ChangeSpec := { name := "judgeTells", fn := fun _ => fun
  | [d1, d2, d3, d4, d5, d6] => { results := [.lit (.bool true)], args := [d1, d2, d3, d4, d5, d6] }
  | _ => none }
def judgeTellsRow : OpenClaim := { program := "ytoahcombdhgmhaa", sum := "22527eaa1d820e68b626a137013495039e888cd62ed2091df7126c6e8f6b2eb4", func := "footway/footwaylaw20.JudgeTells", spec := "judgeTells", unfollowed := true, recurses := true, plainKeys := false, apart := false }
def JudgeTellsSaid : Prop := judgeTellsRow.holds Try.pinned (OpenSpec.ofChange judgeTellsSpec)

/-- ITS FALSE NEIGHBOUR: 'it returns false'. Refute it at one input. -/
def judgeTellsWrong : ChangeSpec := { name := "judgeTells", fn := fun _ => fun
  | [d1, d2, d3, d4, d5, d6] => { results := [.lit (.bool false)], args := [d1, d2, d3, d4, d5, d6] }
  | _ => none }
def JudgeTellsWrongFalsely : Prop := judgeTellsRow.holds Try.pinned (OpenSpec.ofChange judgeTellsWrong)

/-- 'footwaylaw08.FdbFlushes': WHATEVER THE INPUT: true; the input reads as it did. -/
def fdbFlushesSpec : ChangeSpec := { name := "fdbFlushes", fn := fun _ => fun
  | [d1, d2, d3, d4] => { results := [.lit (.bool true)], args := [d1, d2, d3, d4] }
  | _ => none }
def fdbFlushesRow : OpenClaim := { program := "ytoahcombdhgmhaa", sum := "22527eaa1d820e68b626a137013495039e888cd62ed2091df7126c6e8f6b2eb4", func := "footway/footwaylaw08.FdbFlushes", spec := "fdbFlushes", unfollowed := true, recurses := true, plainKeys := false, apart := false }
def FdbFlushesSaid : Prop := fdbFlushesRow.holds Try.pinned (OpenSpec.ofChange fdbFlushesSpec)

/-- ITS FALSE NEIGHBOUR: 'it returns false'. Refute it at one input. -/
def fdbFlushesWrong : ChangeSpec := { name := "fdbFlushes", fn := fun _ => fun
  | [d1, d2, d3, d4] => { results := [.lit (.bool false)], args := [d1, d2, d3, d4] }
  | _ => none }
def FdbFlushesWrongFalsely : Prop := fdbFlushesRow.holds Try.pinned (OpenSpec.ofChange fdbFlushesWrong)

/-- 'footwaylaw16.TreeSpans': WHATEVER THE INPUT: true; the input reads as it did. -/
def treeSpansSpec : ChangeSpec := { name := "treeSpans", fn := fun _ => fun
  | [d] => { results := [.lit (.bool true)], args := [d] }
  | _ => none }
def treeSpansRow : OpenClaim := { program := "ytoahcombdhgmhaa", sum := "22527eaa1d820e68b626a137013495039e888cd62ed2091df7126c6e8f6b2eb4", func := "footway/footwaylaw16.TreeSpans", spec := "treeSpans", unfollowed := true, recurses := true, plainKeys := false, apart := false }
def TreeSpansSaid : Prop := treeSpansRow.holds Try.pinned (OpenSpec.ofChange treeSpansSpec)

/-- ITS FALSE NEIGHBOUR: 'it returns false'. Refute it at one input. -/
def treeSpansWrong : ChangeSpec := { name := "treeSpans", fn := fun _ => fun
  | [d] => { results := [.lit (.bool false)], args := [d] }
  | _ => none }
def TreeSpansWrongFalsely : Prop := treeSpansRow.holds Try.pinned (OpenSpec.ofChange treeSpansWrong)

/-- 'footwaylaw08.FdbForgets': WHATEVER THE INPUT: true; the input reads as it did. -/
def fdbForgetsSpec : ChangeSpec := { name := "fdbForgets", fn := fun _ => fun
  | [d1, d2, d3, d4] => { results := [.lit (.bool true)], args := [d1, d2, d3, d4] }
  | _ => none }
def fdbForgetsRow : OpenClaim := { program := "ytoahcombdhgmhaa", sum := "22527eaa1d820e68b626a137013495039e888cd62ed2091df7126c6e8f6b2eb4", func := "footway/footwaylaw08.FdbForgets", spec := "fdbForgets", unfollowed := true, recurses := true, plainKeys := false, apart := false }
def FdbForgetsSaid : Prop := fdbForgetsRow.holds Try.pinned (OpenSpec.ofChange fdbForgetsSpec)

/-- ITS FALSE NEIGHBOUR: 'it returns false'. Refute it at one input. -/
def fdbForgetsWrong : ChangeSpec := { name := "fdbForgets", fn := fun _ => fun
  | [d1, d2, d3, d4] => { results := [.lit (.bool false)], args := [d1, d2, d3, d4] }
  | _ => none }
def FdbForgetsWrongFalsely : Prop := fdbForgetsRow.holds Try.pinned (OpenSpec.ofChange fdbForgetsWrong)

/-- 'footwaylaw17.FloodTree': WHATEVER THE INPUT: true; the input reads as it did. -/
def floodTreeSpec : ChangeSpec := { name := "floodTree", fn := fun _ => fun
  | [d1, d2, d3, d4] => { results := [.lit (.bool true)], args := [d1, d2, d3, d4] }
  | _ => none }
def floodTreeRow : OpenClaim := { program := "ytoahcombdhgmhaa", sum := "22527eaa1d820e68b626a137013495039e888cd62ed2091df7126c6e8f6b2eb4", func := "footway/footwaylaw17.FloodTree", spec := "floodTree", unfollowed := true, recurses := true, plainKeys := false, apart := false }
def FloodTreeSaid : Prop := floodTreeRow.holds Try.pinned (OpenSpec.ofChange floodTreeSpec)

/-- ITS FALSE NEIGHBOUR: 'it returns false'. Refute it at one input. -/
def floodTreeWrong : ChangeSpec := { name := "floodTree", fn := fun _ => fun
  | [d1, d2, d3, d4] => { results := [.lit (.bool false)], args := [d1, d2, d3, d4] }
  | _ => none }
def FloodTreeWrongFalsely : Prop := floodTreeRow.holds Try.pinned (OpenSpec.ofChange floodTreeWrong)

/- THE SECOND FORM. 'bulk': how many values and letters a reading holds, each counted each time it is reached (what is shared counts as often as it is met; a slice's spare places count too). A statement '..UptoSaid' is the law's where the arguments, and the package variables that the reading takes, are together of bulk at most 1048576: NARROWER than '..Said'. Prove '..Said' where nothing that the law and all that it calls make is longer than what came in: it says more and counts as full. Else prove '..UptoSaid'. A law counts once. -/
mutual
def uptoBulk {H : Type} : DataW H → Nat
  | .lit (.string bytes) => bytes.length + 1
  | .lit _ => 1
  | .nil => 1
  | .ptr d => uptoBulk d + 1
  | .slice elems spare => uptoBulkAll elems + uptoBulkAll spare + 1
  | .agg parts => uptoBulkAll parts + 1
  | .iface _ d => uptoBulk d + 1
  | .map entries => uptoBulkEntries entries + 1
  | .held _ => 1
def uptoBulkAll {H : Type} : List (DataW H) → Nat
  | [] => 0
  | d :: r => uptoBulk d + uptoBulkAll r
def uptoBulkEntries {H : Type} : List (Lit × DataW H) → Nat
  | [] => 0
  | x :: r => uptoBulkEntry x + uptoBulkEntries r
def uptoBulkEntry {H : Type} : Lit × DataW H → Nat
  | (.string bytes, d) => bytes.length + uptoBulk d + 1
  | (_, d) => uptoBulk d + 1
 end
def uptoSmall : (H : Type) → List (DataW H) → Bool := fun _ ds => decide (uptoBulkAll ds ≤ 1048576)
def OpenSpec.upto (s : _root_.Go.ChangeSpec) : _root_.Go.OpenSpec := { _root_.Go.OpenSpec.ofChange s with cond := some uptoSmall }

/-- 'footwaylaw08.FdbLearns', WHERE WHAT IT READS IS OF BULK AT MOST 1048576: true; the input reads as it did. -/
def fdbLearnsUptoRow : OpenClaim := { program := "ytoahcombdhgmhaa", sum := "22527eaa1d820e68b626a137013495039e888cd62ed2091df7126c6e8f6b2eb4", func := "footway/footwaylaw08.FdbLearns", spec := "fdbLearns", unfollowed := true, recurses := true, plainKeys := false, apart := false, narrowed := true }
def FdbLearnsUptoSaid : Prop := fdbLearnsUptoRow.holds Try.pinned (OpenSpec.upto fdbLearnsSpec)

/-- 'footwaylaw08.FdbCrowds', WHERE WHAT IT READS IS OF BULK AT MOST 1048576: true; the input reads as it did. -/
def fdbCrowdsUptoRow : OpenClaim := { program := "ytoahcombdhgmhaa", sum := "22527eaa1d820e68b626a137013495039e888cd62ed2091df7126c6e8f6b2eb4", func := "footway/footwaylaw08.FdbCrowds", spec := "fdbCrowds", unfollowed := true, recurses := true, plainKeys := false, apart := false, narrowed := true }
def FdbCrowdsUptoSaid : Prop := fdbCrowdsUptoRow.holds Try.pinned (OpenSpec.upto fdbCrowdsSpec)

/-- 'footwaylaw16.TreeNear', WHERE WHAT IT READS IS OF BULK AT MOST 1048576: true; the input reads as it did. -/
def treeNearUptoRow : OpenClaim := { program := "ytoahcombdhgmhaa", sum := "22527eaa1d820e68b626a137013495039e888cd62ed2091df7126c6e8f6b2eb4", func := "footway/footwaylaw16.TreeNear", spec := "treeNear", unfollowed := true, recurses := true, plainKeys := false, apart := false, narrowed := true }
def TreeNearUptoSaid : Prop := treeNearUptoRow.holds Try.pinned (OpenSpec.upto treeNearSpec)

/-- 'footwaylaw16.TreeRoots', WHERE WHAT IT READS IS OF BULK AT MOST 1048576: true; the input reads as it did. -/
def treeRootsUptoRow : OpenClaim := { program := "ytoahcombdhgmhaa", sum := "22527eaa1d820e68b626a137013495039e888cd62ed2091df7126c6e8f6b2eb4", func := "footway/footwaylaw16.TreeRoots", spec := "treeRoots", unfollowed := true, recurses := true, plainKeys := false, apart := false, narrowed := true }
def TreeRootsUptoSaid : Prop := treeRootsUptoRow.holds Try.pinned (OpenSpec.upto treeRootsSpec)

/-- 'footwaylaw16.TreeTells', WHERE WHAT IT READS IS OF BULK AT MOST 1048576: true; the input reads as it did. -/
def treeTellsUptoRow : OpenClaim := { program := "ytoahcombdhgmhaa", sum := "22527eaa1d820e68b626a137013495039e888cd62ed2091df7126c6e8f6b2eb4", func := "footway/footwaylaw16.TreeTells", spec := "treeTells", unfollowed := true, recurses := true, plainKeys := false, apart := false, narrowed := true }
def TreeTellsUptoSaid : Prop := treeTellsUptoRow.holds Try.pinned (OpenSpec.upto treeTellsSpec)

/-- 'footwaylaw12.StpHears', WHERE WHAT IT READS IS OF BULK AT MOST 1048576: true; the input reads as it did. -/
def stpHearsUptoRow : OpenClaim := { program := "ytoahcombdhgmhaa", sum := "22527eaa1d820e68b626a137013495039e888cd62ed2091df7126c6e8f6b2eb4", func := "footway/footwaylaw12.StpHears", spec := "stpHears", unfollowed := true, recurses := true, plainKeys := false, apart := false, narrowed := true }
def StpHearsUptoSaid : Prop := stpHearsUptoRow.holds Try.pinned (OpenSpec.upto stpHearsSpec)

/-- 'footwaylaw12.StpTicks', WHERE WHAT IT READS IS OF BULK AT MOST 1048576: true; the input reads as it did. -/
def stpTicksUptoRow : OpenClaim := { program := "ytoahcombdhgmhaa", sum := "22527eaa1d820e68b626a137013495039e888cd62ed2091df7126c6e8f6b2eb4", func := "footway/footwaylaw12.StpTicks", spec := "stpTicks", unfollowed := true, recurses := true, plainKeys := false, apart := false, narrowed := true }
def StpTicksUptoSaid : Prop := stpTicksUptoRow.holds Try.pinned (OpenSpec.upto stpTicksSpec)

/-- 'footwaylaw12.StpAges', WHERE WHAT IT READS IS OF BULK AT MOST 1048576: true; the input reads as it did. -/
def stpAgesUptoRow : OpenClaim := { program := "ytoahcombdhgmhaa", sum := "22527eaa1d820e68b626a137013495039e888cd62ed2091df7126c6e8f6b2eb4", func := "footway/footwaylaw12.StpAges", spec := "stpAges", unfollowed := true, recurses := true, plainKeys := false, apart := false, narrowed := true }
def StpAgesUptoSaid : Prop := stpAgesUptoRow.holds Try.pinned (OpenSpec.upto stpAgesSpec)

/-- 'footwaylaw15.LanLoops', WHERE WHAT IT READS IS OF BULK AT MOST 1048576: true; the input reads as it did. -/
def lanLoopsUptoRow : OpenClaim := { program := "ytoahcombdhgmhaa", sum := "22527eaa1d820e68b626a137013495039e888cd62ed2091df7126c6e8f6b2eb4", func := "footway/footwaylaw15.LanLoops", spec := "lanLoops", unfollowed := true, recurses := true, plainKeys := false, apart := false, narrowed := true }
def LanLoopsUptoSaid : Prop := lanLoopsUptoRow.holds Try.pinned (OpenSpec.upto lanLoopsSpec)

/-- 'footwaylaw15.LanParts', WHERE WHAT IT READS IS OF BULK AT MOST 1048576: true; the input reads as it did. -/
def lanPartsUptoRow : OpenClaim := { program := "ytoahcombdhgmhaa", sum := "22527eaa1d820e68b626a137013495039e888cd62ed2091df7126c6e8f6b2eb4", func := "footway/footwaylaw15.LanParts", spec := "lanParts", unfollowed := true, recurses := true, plainKeys := false, apart := false, narrowed := true }
def LanPartsUptoSaid : Prop := lanPartsUptoRow.holds Try.pinned (OpenSpec.upto lanPartsSpec)

/-- 'footwaylaw05.WheelArms', WHERE WHAT IT READS IS OF BULK AT MOST 1048576: true; the input reads as it did. -/
def wheelArmsUptoRow : OpenClaim := { program := "ytoahcombdhgmhaa", sum := "22527eaa1d820e68b626a137013495039e888cd62ed2091df7126c6e8f6b2eb4", func := "footway/footwaylaw05.WheelArms", spec := "wheelArms", unfollowed := true, recurses := true, plainKeys := false, apart := false, narrowed := true }
def WheelArmsUptoSaid : Prop := wheelArmsUptoRow.holds Try.pinned (OpenSpec.upto wheelArmsSpec)

/-- 'footwaylaw05.WheelTells', WHERE WHAT IT READS IS OF BULK AT MOST 1048576: true; the input reads as it did. -/
def wheelTellsUptoRow : OpenClaim := { program := "ytoahcombdhgmhaa", sum := "22527eaa1d820e68b626a137013495039e888cd62ed2091df7126c6e8f6b2eb4", func := "footway/footwaylaw05.WheelTells", spec := "wheelTells", unfollowed := true, recurses := true, plainKeys := false, apart := false, narrowed := true }
def WheelTellsUptoSaid : Prop := wheelTellsUptoRow.holds Try.pinned (OpenSpec.upto wheelTellsSpec)

/-- 'footwaylaw15.LanStations', WHERE WHAT IT READS IS OF BULK AT MOST 1048576: true; the input reads as it did. -/
def lanStationsUptoRow : OpenClaim := { program := "ytoahcombdhgmhaa", sum := "22527eaa1d820e68b626a137013495039e888cd62ed2091df7126c6e8f6b2eb4", func := "footway/footwaylaw15.LanStations", spec := "lanStations", unfollowed := true, recurses := true, plainKeys := false, apart := false, narrowed := true }
def LanStationsUptoSaid : Prop := lanStationsUptoRow.holds Try.pinned (OpenSpec.upto lanStationsSpec)

/-- 'footwaylaw15.LanTells', WHERE WHAT IT READS IS OF BULK AT MOST 1048576: true; the input reads as it did. -/
def lanTellsUptoRow : OpenClaim := { program := "ytoahcombdhgmhaa", sum := "22527eaa1d820e68b626a137013495039e888cd62ed2091df7126c6e8f6b2eb4", func := "footway/footwaylaw15.LanTells", spec := "lanTells", unfollowed := true, recurses := true, plainKeys := false, apart := false, narrowed := true }
def LanTellsUptoSaid : Prop := lanTellsUptoRow.holds Try.pinned (OpenSpec.upto lanTellsSpec)

/-- 'footwaylaw17.FloodMore', WHERE WHAT IT READS IS OF BULK AT MOST 1048576: true; the input reads as it did. -/
def floodMoreUptoRow : OpenClaim := { program := "ytoahcombdhgmhaa", sum := "22527eaa1d820e68b626a137013495039e888cd62ed2091df7126c6e8f6b2eb4", func := "footway/footwaylaw17.FloodMore", spec := "floodMore", unfollowed := true, recurses := true, plainKeys := false, apart := false, narrowed := true }
def FloodMoreUptoSaid : Prop := floodMoreUptoRow.holds Try.pinned (OpenSpec.upto floodMoreSpec)

/-- 'footwaylaw17.FloodTells', WHERE WHAT IT READS IS OF BULK AT MOST 1048576: true; the input reads as it did. -/
def floodTellsUptoRow : OpenClaim := { program := "ytoahcombdhgmhaa", sum := "22527eaa1d820e68b626a137013495039e888cd62ed2091df7126c6e8f6b2eb4", func := "footway/footwaylaw17.FloodTells", spec := "floodTells", unfollowed := true, recurses := true, plainKeys := false, apart := false, narrowed := true }
def FloodTellsUptoSaid : Prop := floodTellsUptoRow.holds Try.pinned (OpenSpec.upto floodTellsSpec)

/-- 'footwaylaw17.FloodBoth', WHERE WHAT IT READS IS OF BULK AT MOST 1048576: true; the input reads as it did. -/
def floodBothUptoRow : OpenClaim := { program := "ytoahcombdhgmhaa", sum := "22527eaa1d820e68b626a137013495039e888cd62ed2091df7126c6e8f6b2eb4", func := "footway/footwaylaw17.FloodBoth", spec := "floodBoth", unfollowed := true, recurses := true, plainKeys := false, apart := false, narrowed := true }
def FloodBothUptoSaid : Prop := floodBothUptoRow.holds Try.pinned (OpenSpec.upto floodBothSpec)

/-- 'footwaylaw20.JudgeTells', WHERE WHAT IT READS IS OF BULK AT MOST 1048576: true; the input reads as it did. -/
def judgeTellsUptoRow : OpenClaim := { program := "ytoahcombdhgmhaa", sum := "22527eaa1d820e68b626a137013495039e888cd62ed2091df7126c6e8f6b2eb4", func := "footway/footwaylaw20.JudgeTells", spec := "judgeTells", unfollowed := true, recurses := true, plainKeys := false, apart := false, narrowed := true }
def JudgeTellsUptoSaid : Prop := judgeTellsUptoRow.holds Try.pinned (OpenSpec.upto judgeTellsSpec)

/-- 'footwaylaw08.FdbFlushes', WHERE WHAT IT READS IS OF BULK AT MOST 1048576: true; the input reads as it did. -/
def fdbFlushesUptoRow : OpenClaim := { program := "ytoahcombdhgmhaa", sum := "22527eaa1d820e68b626a137013495039e888cd62ed2091df7126c6e8f6b2eb4", func := "footway/footwaylaw08.FdbFlushes", spec := "fdbFlushes", unfollowed := true, recurses := true, plainKeys := false, apart := false, narrowed := true }
def FdbFlushesUptoSaid : Prop := fdbFlushesUptoRow.holds Try.pinned (OpenSpec.upto fdbFlushesSpec)

/-- 'footwaylaw16.TreeSpans', WHERE WHAT IT READS IS OF BULK AT MOST 1048576: true; the input reads as it did. -/
def treeSpansUptoRow : OpenClaim := { program := "ytoahcombdhgmhaa", sum := "22527eaa1d820e68b626a137013495039e888cd62ed2091df7126c6e8f6b2eb4", func := "footway/footwaylaw16.TreeSpans", spec := "treeSpans", unfollowed := true, recurses := true, plainKeys := false, apart := false, narrowed := true }
def TreeSpansUptoSaid : Prop := treeSpansUptoRow.holds Try.pinned (OpenSpec.upto treeSpansSpec)

/-- 'footwaylaw08.FdbForgets', WHERE WHAT IT READS IS OF BULK AT MOST 1048576: true; the input reads as it did. -/
def fdbForgetsUptoRow : OpenClaim := { program := "ytoahcombdhgmhaa", sum := "22527eaa1d820e68b626a137013495039e888cd62ed2091df7126c6e8f6b2eb4", func := "footway/footwaylaw08.FdbForgets", spec := "fdbForgets", unfollowed := true, recurses := true, plainKeys := false, apart := false, narrowed := true }
def FdbForgetsUptoSaid : Prop := fdbForgetsUptoRow.holds Try.pinned (OpenSpec.upto fdbForgetsSpec)

/-- 'footwaylaw17.FloodTree', WHERE WHAT IT READS IS OF BULK AT MOST 1048576: true; the input reads as it did. -/
def floodTreeUptoRow : OpenClaim := { program := "ytoahcombdhgmhaa", sum := "22527eaa1d820e68b626a137013495039e888cd62ed2091df7126c6e8f6b2eb4", func := "footway/footwaylaw17.FloodTree", spec := "floodTree", unfollowed := true, recurses := true, plainKeys := false, apart := false, narrowed := true }
def FloodTreeUptoSaid : Prop := floodTreeUptoRow.holds Try.pinned (OpenSpec.upto floodTreeSpec)

end Rows
end Go.Proofs.Ytoahcombdhgmhaa
