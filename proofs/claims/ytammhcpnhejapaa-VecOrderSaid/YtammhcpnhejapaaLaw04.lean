/- The contract of footwaylaw04.VecOrder: it answers true at all vecs. -/
import Derived.Test.YtammhcpnhejapaaPl04
set_option linter.unusedVariables false
open Go Go.RX Go.Proofs
namespace Go.RX
set_option maxRecDepth 10000
set_option maxHeartbeats 1000000
attribute [local irreducible] CallW CallP LoopW W
theorem c3 (r c b p r' c' b' p' r2 c2 b2 p2 : Int) : CallP Try.prog 3 [oneL r c b p, oneL r' c' b' p', oneL r2 c2 b2 p2] (.bool true) := by
  refine .intro (by simp [NLs, NL]) (.intro TT_ok Try.func3 rfl rfl [0, 1, 2, 3, 4, 5, 6, 7, 8, 9, 10, 11, 12, 13, 14, 28, 66] rfl ?_)
  conv => whnf
  repeat' first
    | with_reducible rfl
    | with_reducible exact True.intro
    | assumption
    | (refine CallP.use (c14 _ _ _ _ _ _ _ _) ?_; conv => whnf)
    | (refine ⟨_, fun _ => c14 _ _ _ _ _ _ _ _, ?_⟩; conv => whnf)
    | (refine CallP.use (c15) ?_; conv => whnf)
    | (refine ⟨_, fun _ => c15, ?_⟩; conv => whnf)
    | exact absurd (show false = true from h) Bool.false_ne_true
    | exact absurd (show true = false from h) (fun e => Bool.noConfusion e)
    | exact (congrArg Bool.not h)
    | (refine ⟨_, ⟨by first | assumption | decide | omega, by first | assumption | rfl⟩, ?_⟩; conv => whnf)
    | exact (rfl : (_ : Nat) = _)
    | (refine ⟨fun h => ?_, fun h => ?_⟩ <;> conv => whnf)
    | (refine ⟨?_, ?_⟩ <;> conv => whnf)
    | (intro h; conv => whnf)
  all_goals
    have A1 := @vBet_asym r c b p r' c' b' p'
    have A2 := @vBet_total r c b p r' c' b' p'
    have A3 := @vBet_trans r c b p r' c' b' p' r2 c2 b2 p2
    have A4 := @vErr_trans r c b p r' c' b' p' r2 c2 b2 p2
    have A5 := @vBet_off r c b p r' c' b' p'
    have A6 := @vBet_off r' c' b' p' r c b p
    have A7 := vErr_comm r c b p r' c' b' p'
    by_cases hq : r = r' ∧ c = c' ∧ b = b' ∧ p = p'
    · obtain ⟨rfl, rfl, rfl, rfl⟩ := hq
      simp_all [vBet_irrefl]
    · by_cases h3 : vErr r' c' b' p' r2 c2 b2 p2 = 0 <;> cases h4 : vBet r' c' b' p' r2 c2 b2 p2 <;> cases h1 : vBet r c b p r' c' b' p' <;> cases h2 : vBet r' c' b' p' r c b p <;> simp_all
end Go.RX

