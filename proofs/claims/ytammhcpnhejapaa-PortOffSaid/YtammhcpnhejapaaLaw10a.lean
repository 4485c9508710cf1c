/- The contract of footwaylaw10.PortOff. -/
import Derived.Test.YtammhcpnhejapaaTyc
set_option linter.unusedVariables false
open Go Go.RX Go.Proofs
namespace Go.RX
set_option maxRecDepth 10000
set_option maxHeartbeats 1000000
attribute [local irreducible] CallW CallP LoopW W
theorem c5 (s l d : Int) : CallP Try.prog 5 [stL s l, I d] (.bool true) := by
  refine .intro (by simp [NLs, NL]) (.intro TT_ok Try.func5 rfl rfl [0, 1, 2, 4, 5, 6, 7, 8, 9, 10, 11, 12, 13, 14, 15, 16, 30] rfl ?_)
  conv => whnf
  repeat' first
    | with_reducible rfl
    | with_reducible exact True.intro
    | assumption
    | (refine CallP.use (c17 _ _ _ _) ?_; conv => whnf)
    | (refine ⟨_, fun _ => c17 _ _ _ _, ?_⟩; conv => whnf)
    | (refine CallP.use (c19 _ _ _) ?_; conv => whnf)
    | (refine ⟨_, fun _ => c19 _ _ _, ?_⟩; conv => whnf)
    | (refine CallP.use (c18) ?_; conv => whnf)
    | (refine ⟨_, fun _ => c18, ?_⟩; conv => whnf)
    | (refine CallP.use (c20 _ _) ?_; conv => whnf)
    | (refine ⟨_, fun _ => c20 _ _, ?_⟩; conv => whnf)
    | exact absurd (show false = true from h) Bool.false_ne_true
    | exact absurd (show true = false from h) (fun e => Bool.noConfusion e)
    | exact (congrArg Bool.not h)
    | (refine ⟨_, ⟨by first | assumption | decide | omega, by first | assumption | rfl⟩, ?_⟩; conv => whnf)
    | exact (rfl : (_ : Nat) = _)
    | (refine ⟨fun h => ?_, fun h => ?_⟩ <;> conv => whnf)
    | (refine ⟨?_, ?_⟩ <;> conv => whnf)
    | (intro h; conv => whnf)
  all_goals
    by_cases hp : PR s l d
    · have hp0 : PR 0 0 d := by unfold PR at *; omega
      have hp' := hp
      unfold PR at hp'
      have w1 := w64_small (x := 2 * d) (by omega) (by omega)
      simp only [w64] at w1
      by_cases s0 : s = 0
      · have h1 : PR 1 d d := by unfold PR at *; omega
        have h2 : l = 0 := by omega
        subst h2 s0
        simp_all [pE, rS, rL, lN] <;> omega
      · simp_all [pE, rS, rL, lN] <;> omega
    · simp_all [pE, rS, rL, lN]
end Go.RX

