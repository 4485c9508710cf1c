/- The contract of footwaylaw11.alive. -/
import Derived.Test.YtammhcpnhejapaaTyl
set_option linter.unusedVariables false
set_option linter.unusedSimpArgs false
open Go Go.RX Go.Proofs
namespace Go.RX
set_option maxRecDepth 10000
set_option maxHeartbeats 2000000
attribute [local irreducible] CallW CallP LoopW W
def sA : Slf := ⟨5, [10], [true], [⟨true, 1, 0, 1, 0, 0⟩]⟩
theorem sA_ok : sOk sA = true := by decide
theorem sA_at : atI (rp sA) = 0 := by decide
theorem sA_tl : tlV sA (rp sA) 0 = ⟨1, 10, 5, 0⟩ := by decide
theorem c29 : CallP Try.prog 29 [] (.bool true) := by
  have h28 := c28 sA sA_ok
  rw [sA_at, sA_tl] at h28
  refine .intro (by first | (simp [NLs, NL]; done) | (simp [NLs, NL, nlx]; done)) (.intro TT_ok Try.func29 rfl rfl [0, 1, 2, 3] rfl ?_)
  conv => whnf
  repeat' first
    | with_reducible rfl
    | with_reducible exact True.intro
    | assumption
    | (refine CallP.use (h28) ?_; conv => whnf)
    | (refine ⟨_, fun _ => h28, ?_⟩; conv => whnf)
    | exact absurd (show false = true from h) Bool.false_ne_true
    | exact absurd (show true = false from h) (fun e => Bool.noConfusion e)
    | exact (congrArg Bool.not h)
    | (refine ⟨_, ⟨by first | assumption | decide | omega, by first | assumption | rfl⟩, ?_⟩; conv => whnf)
    | (refine ⟨_, fun _ => ⟨by first | assumption | decide | omega, by first | assumption | rfl⟩, ?_⟩; conv => whnf)
    | exact (rfl : (_ : Nat) = _)
    | exact (rfl : (_ : LV) = _)
    | (refine ⟨fun h => ?_, fun h => ?_⟩ <;> conv => whnf)
    | (refine ⟨?_, ?_⟩ <;> conv => whnf)
    | (intro h; conv => whnf)
  rfl
end Go.RX

