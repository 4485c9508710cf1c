/-
  No cell of these rows narrows 'for every input' (looked for: loops, veiled, ifaces, maps, wideKeys, modest, calm, conditions, laid).
  DERIVED. THE GIVEN ROWS OF THIS SEAT. 11 by the template 'for every input the law returns true; each argument reads behind the call as it read before'; 0 by the template 'total and deterministic' (their statements: YtammhcpnhejapaaTotals.lean).
  GIVEN WITH THE SEED: the statements are not yours to turn. If you find one false, say at which input.
  Laid BY PROGRAM, IN A SANDBOX (cutbox-rows.mjs): the forced cells as the released guide's own fill.sh prints them over the translation da0f5943a026776f… (all of the seat's roots in one cut). By AI agents, Wed Nov 11 2026. No macro, syntax, notation, axiom, sorry.
-/
import Derived.Test.YtammhcpnhejapaaChecked
import GoSem.Claim
import GoSem.ClaimJoined
import GoSem.ClaimMapViews
import Derived.JoinedTies
import Derived.KernelRfl
namespace Go.Proofs.Ytammhcpnhejapaa
/- THE CELL 'sum', in the pinned program and in every row, IS THE sha256 OF THE DUMP (.gsa) THAT YtammhcpnhejapaaProg.lean LOADS. Nothing in Lean hashes anything: it is a label: what it is worth is what the hold of that sum in a sandbox is worth. -/
noncomputable def Try.pinned : Pinned := { name := "ytammhcpnhejapaa", sum := "da0f5943a026776f5fb94523341d8e7da0640b98dad066fed6177ece89ccfff5", checked := Try.checked }
namespace Rows
def none {H : Type} : Left H := { results := [], args := [] }

/-- 'footwaylaw04.VecOrder': WHATEVER THE INPUT: true; the input reads as it did. -/
def vecOrderSpec : ChangeSpec := { name := "vecOrder", fn := fun _ => fun
  | [d1, d2, d3] => { results := [.lit (.bool true)], args := [d1, d2, d3] }
  | _ => none }
def vecOrderRow : OpenClaim := { program := "ytammhcpnhejapaa", sum := "da0f5943a026776f5fb94523341d8e7da0640b98dad066fed6177ece89ccfff5", func := "footway/footwaylaw04.VecOrder", spec := "vecOrder", unfollowed := true, recurses := true, apart := false }
def VecOrderSaid : Prop := vecOrderRow.holds Try.pinned (OpenSpec.ofChange vecOrderSpec)

/-- ITS FALSE NEIGHBOUR: 'it returns false'. Refute it at one input. -/
def vecOrderWrong : ChangeSpec := { name := "vecOrder", fn := fun _ => fun
  | [d1, d2, d3] => { results := [.lit (.bool false)], args := [d1, d2, d3] }
  | _ => none }
def VecOrderWrongFalsely : Prop := vecOrderRow.holds Try.pinned (OpenSpec.ofChange vecOrderWrong)

/-- 'footwaylaw04.VecFar': WHATEVER THE INPUT: true; the input reads as it did. -/
def vecFarSpec : ChangeSpec := { name := "vecFar", fn := fun _ => fun
  | [d1, d2, d3, d4] => { results := [.lit (.bool true)], args := [d1, d2, d3, d4] }
  | _ => none }
def vecFarRow : OpenClaim := { program := "ytammhcpnhejapaa", sum := "da0f5943a026776f5fb94523341d8e7da0640b98dad066fed6177ece89ccfff5", func := "footway/footwaylaw04.VecFar", spec := "vecFar", unfollowed := true, recurses := true, apart := false }
def VecFarSaid : Prop := vecFarRow.holds Try.pinned (OpenSpec.ofChange vecFarSpec)

/-- ITS FALSE NEIGHBOUR: 'it returns false'. Refute it at one input. -/
def vecFarWrong : ChangeSpec := { name := "vecFar", fn := fun _ => fun
  | [d1, d2, d3, d4] => { results := [.lit (.bool false)], args := [d1, d2, d3, d4] }
  | _ => none }
def VecFarWrongFalsely : Prop := vecFarRow.holds Try.pinned (OpenSpec.ofChange vecFarWrong)

/-- 'footwaylaw10.PortOff': WHATEVER THE INPUT: true; the input reads as it did. -/
def portOffSpec : ChangeSpec := { name := "portOff", fn := fun _ => fun
  | [d1, d2] => { results := [.lit (.bool true)], args := [d1, d2] }
  | _ => none }
def portOffRow : OpenClaim := { program := "ytammhcpnhejapaa", sum := "da0f5943a026776f5fb94523341d8e7da0640b98dad066fed6177ece89ccfff5", func := "footway/footwaylaw10.PortOff", spec := "portOff", apart := false }
def PortOffSaid : Prop := portOffRow.holds Try.pinned (OpenSpec.ofChange portOffSpec)

/-- ITS FALSE NEIGHBOUR: 'it returns false'. Refute it at one input. -/
def portOffWrong : ChangeSpec := { name := "portOff", fn := fun _ => fun
  | [d1, d2] => { results := [.lit (.bool false)], args := [d1, d2] }
  | _ => none }
def PortOffWrongFalsely : Prop := portOffRow.holds Try.pinned (OpenSpec.ofChange portOffWrong)

/-- 'footwaylaw10.PortTells': WHATEVER THE INPUT: true; the input reads as it did. -/
def portTellsSpec : ChangeSpec := { name := "portTells", fn := fun _ => fun
  | [d1, d2, d3] => { results := [.lit (.bool true)], args := [d1, d2, d3] }
  | _ => none }
def portTellsRow : OpenClaim := { program := "ytammhcpnhejapaa", sum := "da0f5943a026776f5fb94523341d8e7da0640b98dad066fed6177ece89ccfff5", func := "footway/footwaylaw10.PortTells", spec := "portTells", apart := false }
def PortTellsSaid : Prop := portTellsRow.holds Try.pinned (OpenSpec.ofChange portTellsSpec)

/-- ITS FALSE NEIGHBOUR: 'it returns false'. Refute it at one input. -/
def portTellsWrong : ChangeSpec := { name := "portTells", fn := fun _ => fun
  | [d1, d2, d3] => { results := [.lit (.bool false)], args := [d1, d2, d3] }
  | _ => none }
def PortTellsWrongFalsely : Prop := portTellsRow.holds Try.pinned (OpenSpec.ofChange portTellsWrong)

/-- 'footwaylaw10.PortWaits': WHATEVER THE INPUT: true; the input reads as it did. -/
def portWaitsSpec : ChangeSpec := { name := "portWaits", fn := fun _ => fun
  | [d1, d2] => { results := [.lit (.bool true)], args := [d1, d2] }
  | _ => none }
def portWaitsRow : OpenClaim := { program := "ytammhcpnhejapaa", sum := "da0f5943a026776f5fb94523341d8e7da0640b98dad066fed6177ece89ccfff5", func := "footway/footwaylaw10.PortWaits", spec := "portWaits", apart := false }
def PortWaitsSaid : Prop := portWaitsRow.holds Try.pinned (OpenSpec.ofChange portWaitsSpec)

/-- ITS FALSE NEIGHBOUR: 'it returns false'. Refute it at one input. -/
def portWaitsWrong : ChangeSpec := { name := "portWaits", fn := fun _ => fun
  | [d1, d2] => { results := [.lit (.bool false)], args := [d1, d2] }
  | _ => none }
def PortWaitsWrongFalsely : Prop := portWaitsRow.holds Try.pinned (OpenSpec.ofChange portWaitsWrong)

/-- 'footwaylaw11.RoleBetter': WHATEVER THE INPUT: true; the input reads as it did. -/
def roleBetterSpec : ChangeSpec := { name := "roleBetter", fn := fun _ => fun
  | [d1, d2, d3] => { results := [.lit (.bool true)], args := [d1, d2, d3] }
  | _ => none }
def roleBetterRow : OpenClaim := { program := "ytammhcpnhejapaa", sum := "da0f5943a026776f5fb94523341d8e7da0640b98dad066fed6177ece89ccfff5", func := "footway/footwaylaw11.RoleBetter", spec := "roleBetter", unfollowed := true, recurses := true, apart := false }
def RoleBetterSaid : Prop := roleBetterRow.holds Try.pinned (OpenSpec.ofChange roleBetterSpec)

/-- ITS FALSE NEIGHBOUR: 'it returns false'. Refute it at one input. -/
def roleBetterWrong : ChangeSpec := { name := "roleBetter", fn := fun _ => fun
  | [d1, d2, d3] => { results := [.lit (.bool false)], args := [d1, d2, d3] }
  | _ => none }
def RoleBetterWrongFalsely : Prop := roleBetterRow.holds Try.pinned (OpenSpec.ofChange roleBetterWrong)

/-- 'footwaylaw11.RoleRoot': WHATEVER THE INPUT: true; the input reads as it did. -/
def roleRootSpec : ChangeSpec := { name := "roleRoot", fn := fun _ => fun
  | [d] => { results := [.lit (.bool true)], args := [d] }
  | _ => none }
def roleRootRow : OpenClaim := { program := "ytammhcpnhejapaa", sum := "da0f5943a026776f5fb94523341d8e7da0640b98dad066fed6177ece89ccfff5", func := "footway/footwaylaw11.RoleRoot", spec := "roleRoot", unfollowed := true, recurses := true, apart := false }
def RoleRootSaid : Prop := roleRootRow.holds Try.pinned (OpenSpec.ofChange roleRootSpec)

/-- ITS FALSE NEIGHBOUR: 'it returns false'. Refute it at one input. -/
def roleRootWrong : ChangeSpec := { name := "roleRoot", fn := fun _ => fun
  | [d] => { results := [.lit (.bool false)], args := [d] }
  | _ => none }
def RoleRootWrongFalsely : Prop := roleRootRow.holds Try.pinned (OpenSpec.ofChange roleRootWrong)

/-- 'footwaylaw11.RoleTold': WHATEVER THE INPUT: true; the input reads as it did. -/
def roleToldSpec : ChangeSpec := { name := "roleTold", fn := fun _ => fun
  | [d1, d2] => { results := [.lit (.bool true)], args := [d1, d2] }
  | _ => none }
def roleToldRow : OpenClaim := { program := "ytammhcpnhejapaa", sum := "da0f5943a026776f5fb94523341d8e7da0640b98dad066fed6177ece89ccfff5", func := "footway/footwaylaw11.RoleTold", spec := "roleTold", unfollowed := true, recurses := true, apart := false }
def RoleToldSaid : Prop := roleToldRow.holds Try.pinned (OpenSpec.ofChange roleToldSpec)

/-- ITS FALSE NEIGHBOUR: 'it returns false'. Refute it at one input. -/
def roleToldWrong : ChangeSpec := { name := "roleTold", fn := fun _ => fun
  | [d1, d2] => { results := [.lit (.bool false)], args := [d1, d2] }
  | _ => none }
def RoleToldWrongFalsely : Prop := roleToldRow.holds Try.pinned (OpenSpec.ofChange roleToldWrong)

/-- 'footwaylaw11.RoleTells': WHATEVER THE INPUT: true; the input reads as it did. -/
def roleTellsSpec : ChangeSpec := { name := "roleTells", fn := fun _ => fun
  | [d1, d2, d3] => { results := [.lit (.bool true)], args := [d1, d2, d3] }
  | _ => none }
def roleTellsRow : OpenClaim := { program := "ytammhcpnhejapaa", sum := "da0f5943a026776f5fb94523341d8e7da0640b98dad066fed6177ece89ccfff5", func := "footway/footwaylaw11.RoleTells", spec := "roleTells", unfollowed := true, recurses := true, apart := false }
def RoleTellsSaid : Prop := roleTellsRow.holds Try.pinned (OpenSpec.ofChange roleTellsSpec)

/-- ITS FALSE NEIGHBOUR: 'it returns false'. Refute it at one input. -/
def roleTellsWrong : ChangeSpec := { name := "roleTells", fn := fun _ => fun
  | [d1, d2, d3] => { results := [.lit (.bool false)], args := [d1, d2, d3] }
  | _ => none }
def RoleTellsWrongFalsely : Prop := roleTellsRow.holds Try.pinned (OpenSpec.ofChange roleTellsWrong)

/-- 'footwaylaw04.VecBest': WHATEVER THE INPUT: true; the input reads as it did. -/
def vecBestSpec : ChangeSpec := { name := "vecBest", fn := fun _ => fun
  | [d] => { results := [.lit (.bool true)], args := [d] }
  | _ => none }
def vecBestRow : OpenClaim := { program := "ytammhcpnhejapaa", sum := "da0f5943a026776f5fb94523341d8e7da0640b98dad066fed6177ece89ccfff5", func := "footway/footwaylaw04.VecBest", spec := "vecBest", unfollowed := true, recurses := true, apart := false }
def VecBestSaid : Prop := vecBestRow.holds Try.pinned (OpenSpec.ofChange vecBestSpec)

/-- ITS FALSE NEIGHBOUR: 'it returns false'. Refute it at one input. -/
def vecBestWrong : ChangeSpec := { name := "vecBest", fn := fun _ => fun
  | [d] => { results := [.lit (.bool false)], args := [d] }
  | _ => none }
def VecBestWrongFalsely : Prop := vecBestRow.holds Try.pinned (OpenSpec.ofChange vecBestWrong)

/-- 'footwaylaw04.VecTells': WHATEVER THE INPUT: true; the input reads as it did. -/
def vecTellsSpec : ChangeSpec := { name := "vecTells", fn := fun _ => fun
  | [d1, d2, d3, d4] => { results := [.lit (.bool true)], args := [d1, d2, d3, d4] }
  | _ => none }
def vecTellsRow : OpenClaim := { program := "ytammhcpnhejapaa", sum := "da0f5943a026776f5fb94523341d8e7da0640b98dad066fed6177ece89ccfff5", func := "footway/footwaylaw04.VecTells", spec := "vecTells", unfollowed := true, recurses := true, apart := false }
def VecTellsSaid : Prop := vecTellsRow.holds Try.pinned (OpenSpec.ofChange vecTellsSpec)

/-- ITS FALSE NEIGHBOUR: 'it returns false'. Refute it at one input. -/
def vecTellsWrong : ChangeSpec := { name := "vecTells", fn := fun _ => fun
  | [d1, d2, d3, d4] => { results := [.lit (.bool false)], args := [d1, d2, d3, d4] }
  | _ => none }
def VecTellsWrongFalsely : Prop := vecTellsRow.holds Try.pinned (OpenSpec.ofChange vecTellsWrong)

/- THE SECOND FORM. 'bulk': how many values and letters a reading holds, each counted each time it is reached (what is shared counts as often as it is met; a slice's spare places count too). A statement '..UptoSaid' is the law's where the arguments, and the package variables that the reading takes, are together of bulk at most 1048576: NARROWER than '..Said'. Prove '..Said' where nothing that the law and all that it calls make is longer than what came in: it says more and counts as full. Else prove '..UptoSaid'. A law counts once. -/
mutual
def uptoBulk {H : Type} : DataW H → Nat
  | .lit (.string bytes) => bytes.length + 1
  | .lit _ => 1
  | .nil => 1
  | .ptr d => uptoBulk d + 1
  | .slice elems spare => uptoBulkAll elems + uptoBulkAll spare + 1
  | .agg parts => uptoBulkAll parts + 1
  | .iface _ d => uptoBulk d + 1
  | .map entries => uptoBulkEntries entries + 1
  | .held _ => 1
def uptoBulkAll {H : Type} : List (DataW H) → Nat
  | [] => 0
  | d :: r => uptoBulk d + uptoBulkAll r
def uptoBulkEntries {H : Type} : List (Lit × DataW H) → Nat
  | [] => 0
  | x :: r => uptoBulkEntry x + uptoBulkEntries r
def uptoBulkEntry {H : Type} : Lit × DataW H → Nat
  | (.string bytes, d) => bytes.length + uptoBulk d + 1
  | (_, d) => uptoBulk d + 1
 end
def uptoSmall : (H : Type) → List (DataW H) → Bool := fun _ ds => decide (uptoBulkAll ds ≤ 1048576)
def OpenSpec.upto (s : _root_.Go.ChangeSpec) : _root_.Go.OpenSpec := { _root_.Go.OpenSpec.ofChange s with cond := some uptoSmall }

/-- 'footwaylaw04.VecOrder', WHERE WHAT IT READS IS OF BULK AT MOST 1048576: true; the input reads as it did. -/
def vecOrderUptoRow : OpenClaim := { program := "ytammhcpnhejapaa", sum := "da0f5943a026776f5fb94523341d8e7da0640b98dad066fed6177ece89ccfff5", func := "footway/footwaylaw04.VecOrder", spec := "vecOrder", unfollowed := true, recurses := true, apart := false, narrowed := true }
def VecOrderUptoSaid : Prop := vecOrderUptoRow.holds Try.pinned (OpenSpec.upto vecOrderSpec)

/-- 'footwaylaw04.VecFar', WHERE WHAT IT READS IS OF BULK AT MOST 1048576: true; the input reads as it did. -/
def vecFarUptoRow : OpenClaim := { program := "ytammhcpnhejapaa", sum := "da0f5943a026776f5fb94523341d8e7da0640b98dad066fed6177ece89ccfff5", func := "footway/footwaylaw04.VecFar", spec := "vecFar", unfollowed := true, recurses := true, apart := false, narrowed := true }
def VecFarUptoSaid : Prop := vecFarUptoRow.holds Try.pinned (OpenSpec.upto vecFarSpec)

/-- 'footwaylaw10.PortOff', WHERE WHAT IT READS IS OF BULK AT MOST 1048576: true; the input reads as it did. -/
def portOffUptoRow : OpenClaim := { program := "ytammhcpnhejapaa", sum := "da0f5943a026776f5fb94523341d8e7da0640b98dad066fed6177ece89ccfff5", func := "footway/footwaylaw10.PortOff", spec := "portOff", apart := false, narrowed := true }
def PortOffUptoSaid : Prop := portOffUptoRow.holds Try.pinned (OpenSpec.upto portOffSpec)

/-- 'footwaylaw10.PortTells', WHERE WHAT IT READS IS OF BULK AT MOST 1048576: true; the input reads as it did. -/
def portTellsUptoRow : OpenClaim := { program := "ytammhcpnhejapaa", sum := "da0f5943a026776f5fb94523341d8e7da0640b98dad066fed6177ece89ccfff5", func := "footway/footwaylaw10.PortTells", spec := "portTells", apart := false, narrowed := true }
def PortTellsUptoSaid : Prop := portTellsUptoRow.holds Try.pinned (OpenSpec.upto portTellsSpec)

/-- 'footwaylaw10.PortWaits', WHERE WHAT IT READS IS OF BULK AT MOST 1048576: true; the input reads as it did. -/
def portWaitsUptoRow : OpenClaim := { program := "ytammhcpnhejapaa", sum := "da0f5943a026776f5fb94523341d8e7da0640b98dad066fed6177ece89ccfff5", func := "footway/footwaylaw10.PortWaits", spec := "portWaits", apart := false, narrowed := true }
def PortWaitsUptoSaid : Prop := portWaitsUptoRow.holds Try.pinned (OpenSpec.upto portWaitsSpec)

/-- 'footwaylaw11.RoleBetter', WHERE WHAT IT READS IS OF BULK AT MOST 1048576: true; the input reads as it did. -/
def roleBetterUptoRow : OpenClaim := { program := "ytammhcpnhejapaa", sum := "da0f5943a026776f5fb94523341d8e7da0640b98dad066fed6177ece89ccfff5", func := "footway/footwaylaw11.RoleBetter", spec := "roleBetter", unfollowed := true, recurses := true, apart := false, narrowed := true }
def RoleBetterUptoSaid : Prop := roleBetterUptoRow.holds Try.pinned (OpenSpec.upto roleBetterSpec)

/-- 'footwaylaw11.RoleRoot', WHERE WHAT IT READS IS OF BULK AT MOST 1048576: true; the input reads as it did. -/
def roleRootUptoRow : OpenClaim := { program := "ytammhcpnhejapaa", sum := "da0f5943a026776f5fb94523341d8e7da0640b98dad066fed6177ece89ccfff5", func := "footway/footwaylaw11.RoleRoot", spec := "roleRoot", unfollowed := true, recurses := true, apart := false, narrowed := true }
def RoleRootUptoSaid : Prop := roleRootUptoRow.holds Try.pinned (OpenSpec.upto roleRootSpec)

/-- 'footwaylaw11.RoleTold', WHERE WHAT IT READS IS OF BULK AT MOST 1048576: true; the input reads as it did. -/
def roleToldUptoRow : OpenClaim := { program := "ytammhcpnhejapaa", sum := "da0f5943a026776f5fb94523341d8e7da0640b98dad066fed6177ece89ccfff5", func := "footway/footwaylaw11.RoleTold", spec := "roleTold", unfollowed := true, recurses := true, apart := false, narrowed := true }
def RoleToldUptoSaid : Prop := roleToldUptoRow.holds Try.pinned (OpenSpec.upto roleToldSpec)

/-- 'footwaylaw11.RoleTells', WHERE WHAT IT READS IS OF BULK AT MOST 1048576: true; the input reads as it did. -/
def roleTellsUptoRow : OpenClaim := { program := "ytammhcpnhejapaa", sum := "da0f5943a026776f5fb94523341d8e7da0640b98dad066fed6177ece89ccfff5", func := "footway/footwaylaw11.RoleTells", spec := "roleTells", unfollowed := true, recurses := true, apart := false, narrowed := true }
def RoleTellsUptoSaid : Prop := roleTellsUptoRow.holds Try.pinned (OpenSpec.upto roleTellsSpec)

/-- 'footwaylaw04.VecBest', WHERE WHAT IT READS IS OF BULK AT MOST 1048576: true; the input reads as it did. -/
def vecBestUptoRow : OpenClaim := { program := "ytammhcpnhejapaa", sum := "da0f5943a026776f5fb94523341d8e7da0640b98dad066fed6177ece89ccfff5", func := "footway/footwaylaw04.VecBest", spec := "vecBest", unfollowed := true, recurses := true, apart := false, narrowed := true }
def VecBestUptoSaid : Prop := vecBestUptoRow.holds Try.pinned (OpenSpec.upto vecBestSpec)

/-- 'footwaylaw04.VecTells', WHERE WHAT IT READS IS OF BULK AT MOST 1048576: true; the input reads as it did. -/
def vecTellsUptoRow : OpenClaim := { program := "ytammhcpnhejapaa", sum := "da0f5943a026776f5fb94523341d8e7da0640b98dad066fed6177ece89ccfff5", func := "footway/footwaylaw04.VecTells", spec := "vecTells", unfollowed := true, recurses := true, apart := false, narrowed := true }
def VecTellsUptoSaid : Prop := vecTellsUptoRow.holds Try.pinned (OpenSpec.upto vecTellsSpec)

end Rows
end Go.Proofs.Ytammhcpnhejapaa
