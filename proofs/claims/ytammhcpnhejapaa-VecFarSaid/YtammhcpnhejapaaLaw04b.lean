import Derived.Test.YtammhcpnhejapaaPl04b
set_option linter.unusedVariables false
open Go Go.RX Go.Proofs
namespace Go.RX
set_option maxRecDepth 10000
set_option maxHeartbeats 1000000
attribute [local irreducible] CallW CallP LoopW W
theorem c4 (r c b p r' c' b' p' m n : Int) : CallP Try.prog 4 [oneL r c b p, oneL r' c' b' p', I m, I n] (.bool true) := by
  refine .intro (by simp [NLs, NL]) (.intro TT_ok Try.func4 rfl rfl [0, 1, 2, 3, 4, 5, 8, 9, 10, 11, 12, 13, 14, 15, 16, 17, 18, 19, 20, 21, 22, 38, 113, 131] rfl ?_)
  conv => whnf
  repeat' first
    | with_reducible rfl
    | with_reducible exact True.intro
    | assumption
    | (refine CallP.use (c14 _ _ _ _ _ _ _ _) ?_; conv => whnf)
    | (refine ⟨_, fun _ => c14 _ _ _ _ _ _ _ _, ?_⟩; conv => whnf)
    | (refine CallP.use (c15) ?_; conv => whnf)
    | (refine ⟨_, fun _ => c15, ?_⟩; conv => whnf)
    | (refine CallP.use (c16 _ _ _ _ _) ?_; conv => whnf)
    | (refine ⟨_, fun _ => c16 _ _ _ _ _, ?_⟩; conv => whnf)
    | exact absurd (show false = true from h) Bool.false_ne_true
    | exact absurd (show true = false from h) (fun e => Bool.noConfusion e)
    | exact (congrArg Bool.not h)
    | (refine ⟨_, ⟨by first | assumption | decide | omega, by first | assumption | rfl⟩, ?_⟩; conv => whnf)
    | exact (rfl : (_ : Nat) = _)
    | (refine ⟨fun h => ?_, fun h => ?_⟩ <;> conv => whnf)
    | (refine ⟨?_, ?_⟩ <;> conv => whnf)
    | (intro h; conv => whnf)
  all_goals have K1 := near_bound m
  all_goals have K2 := near_bound n
  all_goals generalize IntKind.i64.wrap ((IntKind.u64.wrap m).tmod 1073741824) = k at *
  all_goals generalize IntKind.i64.wrap ((IntKind.u64.wrap n).tmod 1073741824) = q at *
  all_goals by_cases he : fErr r c b p k = 0
  all_goals try (have L1 := fErr_one he; simp_all; done)
  all_goals
    have M := far_main he K1 K2
    have N := @far_b r c b p k r' c' b' p' he K1
    obtain ⟨M1, M2, M3, M4, M5, M6, M7⟩ := M
    obtain ⟨N1, N2⟩ := N
    have M8 := fK_eq he
    have M9 := fK_eq M3
    have M10 := fK_eq M4
    have M11 : ¬ fCost r c b p k < c := by omega
    by_cases hv : vErr r c b p r' c' b' p' = 0
    · have N3 := N1.1 hv
      have N4 := fK_eq N3
      obtain ⟨N5, N6⟩ := N2 hv
      clear N2
      generalize fCost r' c' b' p' k = u at *
      cases hb1 : vBet r c b p r' c' b' p' <;> cases hb2 : vBet r' u b' p' r (fCost r c b p k) b p <;> simp_all
    · have N3 := vErr_one hv
      have N4 := fErr_one (fun h => hv (N1.2 h))
      simp_all

end Go.RX

