/- The contract of footwaylaw10.PortTells. -/
import Derived.Test.YtammhcpnhejapaaTyd
set_option linter.unusedVariables false
set_option linter.unusedSimpArgs false
open Go Go.RX Go.Proofs
namespace Go.RX
set_option maxRecDepth 10000
set_option maxHeartbeats 1000000
attribute [local irreducible] CallW CallP LoopW W
theorem ref_same {s l d : Int} (h : PR s l d) (a : Bool) : tS s l d = xS s l d ∧ tL s l d = xL s l d ∧ rS s l d a = qS s a ∧ rL s l d a = qL s l d a := by
  have h' := h
  unfold PR at h'
  have w1 := w64_small (x := l - 1) (by omega) (by omega)
  have r1 : tS s l d = xS s l d := by
    simp only [tS, xS, h, if_true]
    rcases h' with ⟨rfl | rfl, _⟩ | ⟨rfl | rfl, _⟩ <;> simp <;> (try split) <;> omega
  have r2 : tL s l d = xL s l d := by
    simp only [tL, xL, h, if_true, w1]
    rcases h' with ⟨rfl | rfl, _⟩ | ⟨rfl | rfl, _⟩ <;> simp <;> (try split) <;> omega
  refine ⟨r1, r2, ?_, ?_⟩
  · simp only [rS, qS, h, true_and]
  · simp only [rL, qL, h, true_and]
theorem c6 (s l d : Int) (a : Bool) : CallP Try.prog 6 [stL s l, I d, .bool a] (.bool true) := by
  refine .intro (by simp [NLs, NL]) (.intro TT_ok Try.func6 rfl rfl [0, 1, 2, 3, 6, 7, 8, 9, 10, 11, 12, 13, 14, 68, 72] rfl ?_)
  conv => whnf
  repeat' first
    | with_reducible rfl
    | with_reducible exact True.intro
    | assumption
    | (refine CallP.use (c17 _ _ _ _) ?_; conv => whnf)
    | (refine ⟨_, fun _ => c17 _ _ _ _, ?_⟩; conv => whnf)
    | (refine CallP.use (c21 _ _ _) ?_; conv => whnf)
    | (refine ⟨_, fun _ => c21 _ _ _, ?_⟩; conv => whnf)
    | (refine CallP.use (c19 _ _ _) ?_; conv => whnf)
    | (refine ⟨_, fun _ => c19 _ _ _, ?_⟩; conv => whnf)
    | (refine CallP.use (c20 _ _) ?_; conv => whnf)
    | (refine ⟨_, fun _ => c20 _ _, ?_⟩; conv => whnf)
    | (refine CallP.use (c22 _ _ _) ?_; conv => whnf)
    | (refine ⟨_, fun _ => c22 _ _ _, ?_⟩; conv => whnf)
    | (refine CallP.use (c23 _ _ _) ?_; conv => whnf)
    | (refine ⟨_, fun _ => c23 _ _ _, ?_⟩; conv => whnf)
    | (refine CallP.use (c18) ?_; conv => whnf)
    | (refine ⟨_, fun _ => c18, ?_⟩; conv => whnf)
    | (refine CallP.use (c24 _ _ _ _) ?_; conv => whnf)
    | (refine ⟨_, fun _ => c24 _ _ _ _, ?_⟩; conv => whnf)
    | (refine CallP.use (c25 _ _ _) ?_; conv => whnf)
    | (refine ⟨_, fun _ => c25 _ _ _, ?_⟩; conv => whnf)
    | (refine CallP.use (c26 _ _ _ (by simpa [pRight] using h)) ?_; conv => whnf)
    | (refine ⟨_, fun _ => c26 _ _ _ (by simpa [pRight] using h), ?_⟩; conv => whnf)
    | (refine W.drawn TT_ok hmix rfl ?_; conv => whnf)
    | exact absurd (show false = true from h) Bool.false_ne_true
    | exact absurd (show true = false from h) (fun e => Bool.noConfusion e)
    | exact (congrArg Bool.not h)
    | (refine ⟨_, ⟨by first | assumption | decide | omega, by first | assumption | rfl⟩, ?_⟩; conv => whnf)
    | exact (rfl : (_ : Nat) = _)
    | (refine ⟨fun h => ?_, fun h => ?_⟩ <;> conv => whnf)
    | (refine ⟨?_, ?_⟩ <;> conv => whnf)
    | (intro h; conv => whnf)
  all_goals
    by_cases hp : PR s l d
    · obtain ⟨e1, e2, e3, e4⟩ := ref_same hp a
      by_cases s2 : s = 2 <;> by_cases s3 : s = 3 <;> simp_all [pRight, pE]
    · by_cases s2 : s = 2 <;> by_cases s3 : s = 3 <;> simp_all [pRight, pE, rS, rL, tS, tL, lN]
end Go.RX

