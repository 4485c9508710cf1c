/- Contracts of the functions of package port, and of the document's own. -/
import Derived.Test.YtammhcpnhejapaaPl04
import Derived.Test.YtammhcpnhejapaaRXs
set_option linter.unusedVariables false
open Go Go.RX Go.Proofs
namespace Go.RX
set_option maxRecDepth 10000
set_option maxHeartbeats 1000000
attribute [local irreducible] CallW CallP LoopW W
theorem hmix : Try.prog.follows .mixedOrders = true := by kernel_rfl
abbrev stL (s l : Int) : LV := .agg [I s, I l]
def PR (s l d : Int) : Prop := (s = 1 ∨ s = 2) ∧ (1 ≤ d ∧ d ≤ 30) ∧ 1 ≤ l ∧ l ≤ d ∨ (s = 0 ∨ s = 3) ∧ (1 ≤ d ∧ d ≤ 30) ∧ l = 0
instance (s l d : Int) : Decidable (PR s l d) := by unfold PR; infer_instance
def pRight (s l d : Int) : Bool := decide (PR s l d)
theorem c22 (s l d : Int) : CallP Try.prog 22 [stL s l, I d] (.bool (pRight s l d)) := by
  refine .intro (by simp [NLs, NL]) (.intro TT_ok Try.func22 rfl rfl [0, 1, 2, 4, 5, 7, 8, 11] rfl ?_)
  conv => whnf
  repeat' first
    | with_reducible rfl
    | with_reducible exact True.intro
    | assumption
    | exact absurd (show false = true from h) Bool.false_ne_true
    | exact absurd (show true = false from h) (fun e => Bool.noConfusion e)
    | exact (congrArg Bool.not h)
    | (refine ⟨_, ⟨by first | assumption | decide | omega, by first | assumption | rfl⟩, ?_⟩; conv => whnf)
    | exact (rfl : (_ : Nat) = _)
    | (refine ⟨fun h => ?_, fun h => ?_⟩ <;> conv => whnf)
    | (refine ⟨?_, ?_⟩ <;> conv => whnf)
    | (intro h; conv => whnf)
  all_goals
    simp only [decide_eq_true_eq, decide_eq_false_iff_not] at *
    rw [Bool.eq_iff_iff]
    simp only [pRight, Bool.cond_false_right, Bool.and_eq_true, decide_eq_true_eq, Bool.false_eq_true]
    unfold PR
    have m1 : (1 < d ∧ mn d 1 = 1) ∨ (¬ 1 < d ∧ mn d 1 = d) := by unfold mn; split <;> simp_all
    have m2 : mn 0 1 = 0 := by decide
    first | omega | (simp_all; done)
theorem c20 (s l : Int) : CallP Try.prog 20 [stL s l] (.tup [.bool (decide (s = 2 ∨ s = 3)), .bool (decide (s = 3))]) := by
  refine .intro (by simp [NLs, NL]) (.intro TT_ok Try.func20 rfl rfl [0, 1, 2, 3] rfl ?_)
  conv => whnf
  repeat' first
    | with_reducible rfl
    | with_reducible exact True.intro
    | assumption
    | (refine W.drawn TT_ok hmix rfl ?_; conv => whnf)
    | exact absurd (show false = true from h) Bool.false_ne_true
    | exact absurd (show true = false from h) (fun e => Bool.noConfusion e)
    | exact (congrArg Bool.not h)
    | (refine ⟨_, ⟨by first | assumption | decide | omega, by first | assumption | rfl⟩, ?_⟩; conv => whnf)
    | exact (rfl : (_ : Nat) = _)
    | (refine ⟨fun h => ?_, fun h => ?_⟩ <;> conv => whnf)
    | (refine ⟨?_, ?_⟩ <;> conv => whnf)
    | (intro h; conv => whnf)
  all_goals (rw [Bool.eq_iff_iff]; simp)
def rS (s l d : Int) (a : Bool) : Int := if PR s l d ∧ a = true then (if s = 0 then 1 else s) else 0
def rL (s l d : Int) (a : Bool) : Int := if PR s l d ∧ a = true then (if s = 0 then d else l) else 0
def pE (s l d : Int) : Int := if PR s l d then 0 else 1
theorem c17 (s l d : Int) (a : Bool) : CallP Try.prog 17 [stL s l, I d, .bool a] (.tup [stL (rS s l d a) (rL s l d a), I (pE s l d)]) := by
  refine .intro (by simp [NLs, NL]) (.intro TT_ok Try.func17 rfl rfl [0, 1, 2, 3, 6, 7, 8, 14, 18] rfl ?_)
  conv => whnf
  repeat' first
    | with_reducible rfl
    | with_reducible exact True.intro
    | assumption
    | (refine CallP.use (c22 _ _ _) ?_; conv => whnf)
    | (refine ⟨_, fun _ => c22 _ _ _, ?_⟩; conv => whnf)
    | exact absurd (show false = true from h) Bool.false_ne_true
    | exact absurd (show true = false from h) (fun e => Bool.noConfusion e)
    | exact (congrArg Bool.not h)
    | (refine ⟨_, ⟨by first | assumption | decide | omega, by first | assumption | rfl⟩, ?_⟩; conv => whnf)
    | exact (rfl : (_ : Nat) = _)
    | (refine ⟨fun h => ?_, fun h => ?_⟩ <;> conv => whnf)
    | (refine ⟨?_, ?_⟩ <;> conv => whnf)
    | (intro h; conv => whnf)
  all_goals (simp_all [pRight, rS, rL, pE]; done)
def tS (s l d : Int) : Int := if PR s l d then (if 1 < l then s else if s = 1 then 2 else if s = 2 then 3 else s) else 0
def tL (s l d : Int) : Int := if PR s l d then (if 1 < l then l - 1 else if s = 1 then d else if s = 2 then 0 else l) else 0
theorem c21 (s l d : Int) : CallP Try.prog 21 [stL s l, I d] (.tup [stL (tS s l d) (tL s l d), I (pE s l d)]) := by
  refine .intro (by simp [NLs, NL]) (.intro TT_ok Try.func21 rfl rfl [0, 1, 2, 4, 5, 9, 11, 19, 25] rfl ?_)
  conv => whnf
  repeat' first
    | with_reducible rfl
    | with_reducible exact True.intro
    | assumption
    | (refine CallP.use (c22 _ _ _) ?_; conv => whnf)
    | (refine ⟨_, fun _ => c22 _ _ _, ?_⟩; conv => whnf)
    | exact absurd (show false = true from h) Bool.false_ne_true
    | exact absurd (show true = false from h) (fun e => Bool.noConfusion e)
    | exact (congrArg Bool.not h)
    | (refine ⟨_, ⟨by first | assumption | decide | omega, by first | assumption | rfl⟩, ?_⟩; conv => whnf)
    | exact (rfl : (_ : Nat) = _)
    | (refine ⟨fun h => ?_, fun h => ?_⟩ <;> conv => whnf)
    | (refine ⟨?_, ?_⟩ <;> conv => whnf)
    | (intro h; conv => whnf)
  all_goals
    by_cases hp : PR s l d
    · have hp' := hp
      unfold PR at hp'
      have w1 := w64_small (x := l - 1) (by omega) (by omega)
      simp only [w64] at w1
      simp_all [pRight, tS, tL, pE] <;> omega
    · simp_all [pRight, tS, tL, pE]
def lN (s l d : Int) : Int := if PR s l d then (if s = 0 then d + d else if s = 1 then d else 0) + l else 0
theorem c19 (s l d : Int) : CallP Try.prog 19 [stL s l, I d] (.tup [I (lN s l d), I (pE s l d)]) := by
  refine .intro (by simp [NLs, NL]) (.intro TT_ok Try.func19 rfl rfl [0, 1, 2, 4, 5, 6, 10, 12, 13, 15] rfl ?_)
  conv => whnf
  repeat' first
    | with_reducible rfl
    | with_reducible exact True.intro
    | assumption
    | (refine CallP.use (c22 _ _ _) ?_; conv => whnf)
    | (refine ⟨_, fun _ => c22 _ _ _, ?_⟩; conv => whnf)
    | exact absurd (show false = true from h) Bool.false_ne_true
    | exact absurd (show true = false from h) (fun e => Bool.noConfusion e)
    | exact (congrArg Bool.not h)
    | (refine ⟨_, ⟨by first | assumption | decide | omega, by first | assumption | rfl⟩, ?_⟩; conv => whnf)
    | exact (rfl : (_ : Nat) = _)
    | (refine ⟨fun h => ?_, fun h => ?_⟩ <;> conv => whnf)
    | (refine ⟨?_, ?_⟩ <;> conv => whnf)
    | (intro h; conv => whnf)
  all_goals
    by_cases hp : PR s l d
    · have hp' := hp
      unfold PR at hp'
      have w1 := w64_small (x := d + d) (by omega) (by omega)
      have w2 := w64_small (x := d + d + l) (by omega) (by omega)
      have w3 := w64_small (x := d) (by omega) (by omega)
      have w4 := w64_small (x := d + l) (by omega) (by omega)
      have w5 := w64_small (x := l) (by omega) (by omega)
      simp only [w64] at w1 w2 w3 w4 w5
      simp_all [pRight, lN, pE]
    · simp_all [pRight, lN, pE]
theorem c18 : CallP Try.prog 18 [] (.bool true) := by
  refine .intro (by simp [NLs, NL]) (.intro TT_ok Try.func18 rfl rfl [0, 1, 2, 3, 4] rfl ?_)
  conv => whnf
  repeat' first
    | with_reducible rfl
    | with_reducible exact True.intro
    | assumption
    | (refine CallP.use (c17 _ _ _ _) ?_; conv => whnf)
    | (refine ⟨_, fun _ => c17 _ _ _ _, ?_⟩; conv => whnf)
    | (refine CallP.use (c19 _ _ _) ?_; conv => whnf)
    | (refine ⟨_, fun _ => c19 _ _ _, ?_⟩; conv => whnf)
    | exact absurd (show false = true from h) Bool.false_ne_true
    | exact absurd (show true = false from h) (fun e => Bool.noConfusion e)
    | exact (congrArg Bool.not h)
    | (refine ⟨_, ⟨by first | assumption | decide | omega, by first | assumption | rfl⟩, ?_⟩; conv => whnf)
    | exact (rfl : (_ : Nat) = _)
    | (refine ⟨fun h => ?_, fun h => ?_⟩ <;> conv => whnf)
    | (refine ⟨?_, ?_⟩ <;> conv => whnf)
    | (intro h; conv => whnf)
  all_goals decide
end Go.RX

