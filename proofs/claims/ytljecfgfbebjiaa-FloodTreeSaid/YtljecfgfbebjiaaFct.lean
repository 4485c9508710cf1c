/- Facts of the whole program, which each row leans on. -/
import Derived.Test.YtljecfgfbebjiaaRows
import Derived.WalkKit
import Derived.ProofKit
import Derived.JoinedOf
set_option maxRecDepth 100000
namespace Go.Proofs.Ytljecfgfbebjiaa
open Go
theorem and2 {a b : Bool} (h : a = true) (k : b = true) : (a && b) = true := by rw [h, k]; rfl
theorem fq1 : (behindMainWord (wordsSigns Try.pinned.checked.prog.initOrder.toList)).head? = some "cut".toList := by kernel_rfl
theorem fq2 : Try.pinned.checked.prog.laysLater = false := by kernel_rfl
theorem fq3 : Try.pinned.checked.prog.bearsReflect = false := by kernel_rfl
theorem fq4 : Try.pinned.checked.prog.doorRows = [] := by kernel_rfl
theorem enterOf {P : Program} (h1 : (behindMainWord (wordsSigns P.initOrder.toList)).head? = some "cut".toList) (h2 : P.laysLater = false) (h3 : P.bearsReflect = false) (h4 : P.doorRows = []) : P.mayEnter = true := by
  unfold Program.mayEnter Program.doorFits
  rw [h2, h3, h4]
  generalize behindMainWord (wordsSigns P.initOrder.toList) = l at h1
  cases l with
  | nil => cases h1
  | cons c r =>
    obtain rfl : c = "cut".toList := Option.some.inj h1
    rfl
theorem fk1 : (laidOutB Try.pinned.checked.prog) = true := by kernel_rfl
theorem fk2 : (mapsRowed Try.pinned.checked.prog) = true := by kernel_rfl
theorem fk6 : ((Try.pinned.checked.prog.stops == [])) = true := by kernel_rfl
theorem fk8 : ((Try.pinned.checked.prog.stopKnobs == [])) = true := by kernel_rfl
theorem fk24 : (Try.pinned.checked.prog.stopsHeard) = true := by kernel_rfl
theorem fk25 : (Try.pinned.checked.prog.mayEnter) = true := enterOf fq1 fq2 fq3 fq4
end Go.Proofs.Ytljecfgfbebjiaa
