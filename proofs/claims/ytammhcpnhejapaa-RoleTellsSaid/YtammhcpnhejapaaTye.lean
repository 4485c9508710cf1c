/- Contracts of the functions of package role. -/
import Derived.Test.YtammhcpnhejapaaPl04
import Derived.Test.YtammhcpnhejapaaRXu
set_option linter.unusedVariables false
set_option linter.unusedSimpArgs false
open Go Go.RX Go.Proofs
namespace Go.RX
set_option maxRecDepth 10000
set_option maxHeartbeats 1000000
attribute [local irreducible] CallW CallP LoopW W
theorem hmix1 : Try.prog.follows .mixedOrders = true := by kernel_rfl
theorem c56 (n lo hi : Int) : CallP Try.prog 56 [I n, I lo, I hi] (.bool (decide (lo ≤ n) && decide (n ≤ hi))) := by
  refine .intro (by simp [NLs, NL]) (.intro TT_ok Try.func56 rfl rfl [0, 1, 2, 6] rfl ?_)
  conv => whnf
  repeat' first
    | with_reducible rfl
    | with_reducible exact True.intro
    | assumption
    | exact absurd (show false = true from h) Bool.false_ne_true
    | exact absurd (show true = false from h) (fun e => Bool.noConfusion e)
    | exact (congrArg Bool.not h)
    | (refine ⟨_, ⟨by first | assumption | decide | omega, by first | assumption | rfl⟩, ?_⟩; conv => whnf)
    | exact (rfl : (_ : Nat) = _)
    | (refine ⟨fun h => ?_, fun h => ?_⟩ <;> conv => whnf)
    | (refine ⟨?_, ?_⟩ <;> conv => whnf)
    | (intro h; conv => whnf)
  cases decide (lo ≤ n) <;> rfl
abbrev infL (q : Bool) (r c b p a : Int) : LV := .agg [.bool q, I r, I c, I b, I p, I a]
def iRight (q : Bool) (r c b p a : Int) (up : Bool) : Bool :=
  if q = true ∧ up = true then vRight r c b p && (decide (0 ≤ a) && decide (a ≤ 255)) else decide (q = false ∧ r = 0 ∧ c = 0 ∧ b = 0 ∧ p = 0 ∧ a = 0)
theorem c57 (q : Bool) (r c b p a : Int) (up : Bool) : CallP Try.prog 57 [infL q r c b p a, .bool up] (.bool (iRight q r c b p a up)) := by
  refine .intro (by simp [NLs, NL]) (.intro TT_ok Try.func57 rfl rfl [0, 1, 2, 4, 11] rfl ?_)
  conv => whnf
  repeat' first
    | with_reducible rfl
    | with_reducible exact True.intro
    | assumption
    | (refine CallP.use (c30 _ _ _ _) ?_; conv => whnf)
    | (refine ⟨_, fun _ => c30 _ _ _ _, ?_⟩; conv => whnf)
    | (refine CallP.use (c56 _ _ _) ?_; conv => whnf)
    | (refine ⟨_, fun _ => c56 _ _ _, ?_⟩; conv => whnf)
    | exact absurd (show false = true from h) Bool.false_ne_true
    | exact absurd (show true = false from h) (fun e => Bool.noConfusion e)
    | exact (congrArg Bool.not h)
    | (refine ⟨_, ⟨by first | assumption | decide | omega, by first | assumption | rfl⟩, ?_⟩; conv => whnf)
    | exact (rfl : (_ : Nat) = _)
    | (refine ⟨fun h => ?_, fun h => ?_⟩ <;> conv => whnf)
    | (refine ⟨?_, ?_⟩ <;> conv => whnf)
    | (intro h; conv => whnf)
  all_goals (revert h; cases q <;> cases up <;> simp [iRight, Bool.and_assoc])
end Go.RX

