/- Contracts of the functions of package vec. -/
import Derived.Test.YtogomcndhipoeaaTya
import Derived.Test.YtogomcndhipoeaaRXz
set_option linter.unusedVariables false
set_option linter.unusedSimpArgs false
open Go Go.RX Go.Proofs
namespace Go.RX
abbrev I (x : Int) : LV := .int .i64 x
set_option maxRecDepth 10000
set_option maxHeartbeats 1000000
theorem hmix1 : Try.prog.follows .mixedOrders = true := by kernel_rfl
attribute [local irreducible] CallW CallP LoopW W
abbrev inB (a n : Int) : Bool := decide (0 ≤ a) && decide (a ≤ n)
theorem c25 (a n : Int) : CallP Try.prog 25 [I a, I n] (.bool (inB a n)) := by
  refine .intro (by first | (simp [NLs, NL]; done) | (simp [NLs, NL, nlx]; done)) (.intro TT_ok Try.func25 rfl rfl [0, 1, 4] rfl ?_)
  conv => whnf
  repeat' first
    | with_reducible rfl
    | with_reducible exact True.intro
    | with_reducible assumption
    | assumption
    | exact absurd (show false = true from h) Bool.false_ne_true
    | exact absurd (show true = false from h) (fun e => Bool.noConfusion e)
    | exact (congrArg Bool.not h)
    | (refine ⟨_, ⟨by first | assumption | decide | omega, by first | assumption | rfl⟩, ?_⟩; conv => whnf)
    | (refine ⟨_, fun _ => ⟨by first | assumption | decide | omega, by first | assumption | rfl⟩, ?_⟩; conv => whnf)
    | exact (rfl : (_ : Nat) = _)
    | exact (rfl : (_ : LV) = _)
    | (refine ⟨fun h => ?_, fun h => ?_⟩ <;> conv => whnf)
    | (refine ⟨?_, ?_⟩ <;> conv => whnf)
    | (intro h; conv => whnf)
    | (refine gand ?_ h; assumption)
  unfold inB; cases decide (0 ≤ a) <;> rfl
abbrev vecL (r c b p : Int) : LV := .agg [I r, I c, I b, I p]
def vRight (r c b p : Int) : Bool := inB r 65535 && inB b 65535 && inB c 2147483647 && inB p 7
theorem c11 (r c b p : Int) : CallP Try.prog 11 [vecL r c b p] (.bool (vRight r c b p)) := by
  refine .intro (by first | (simp [NLs, NL]; done) | (simp [NLs, NL, nlx]; done)) (.intro TT_ok Try.func11 rfl rfl [0, 1, 2] rfl ?_)
  conv => whnf
  repeat' first
    | with_reducible rfl
    | with_reducible exact True.intro
    | with_reducible assumption
    | (refine CallP.use (c25 _ _) ?_; conv => whnf)
    | (refine ⟨_, _, CallP.at (c25 _ _), ?_⟩; conv => whnf)
    | (refine ⟨_, fun _ => c25 _ _, ?_⟩; conv => whnf)
    | assumption
    | exact absurd (show false = true from h) Bool.false_ne_true
    | exact absurd (show true = false from h) (fun e => Bool.noConfusion e)
    | exact (congrArg Bool.not h)
    | (refine ⟨_, ⟨by first | assumption | decide | omega, by first | assumption | rfl⟩, ?_⟩; conv => whnf)
    | (refine ⟨_, fun _ => ⟨by first | assumption | decide | omega, by first | assumption | rfl⟩, ?_⟩; conv => whnf)
    | exact (rfl : (_ : Nat) = _)
    | exact (rfl : (_ : LV) = _)
    | (refine ⟨fun h => ?_, fun h => ?_⟩ <;> conv => whnf)
    | (refine ⟨?_, ?_⟩ <;> conv => whnf)
    | (intro h; conv => whnf)
    | (refine gand ?_ h; assumption)
  unfold vRight
  cases inB r 65535 <;> cases inB b 65535 <;> cases inB c 2147483647 <;> rfl
def orL : List Int → Int
  | [] => 0
  | a :: r => if a = 0 then orL r else a
theorem c29 (a b c d : Int) : CallP Try.prog 29 [.ro 1 [[I a], [I b], [I c], [I d]]] (I (orL [a, b, c, d])) := by
  refine .intro (by first | (simp [NLs, NL]; done) | (simp [NLs, NL, nlx]; done)) (.intro TT_ok Try.func29 rfl rfl [0, 2, 3, 5, 6, 7, 8, 9, 14] rfl ?_)
  conv => whnf
  repeat' first
    | with_reducible rfl
    | with_reducible exact True.intro
    | with_reducible assumption
    | assumption
    | exact absurd (show false = true from h) Bool.false_ne_true
    | exact absurd (show true = false from h) (fun e => Bool.noConfusion e)
    | exact (congrArg Bool.not h)
    | (refine ⟨_, ⟨by first | assumption | decide | omega, by first | assumption | rfl⟩, ?_⟩; conv => whnf)
    | (refine ⟨_, fun _ => ⟨by first | assumption | decide | omega, by first | assumption | rfl⟩, ?_⟩; conv => whnf)
    | exact (rfl : (_ : Nat) = _)
    | exact (rfl : (_ : LV) = _)
    | (refine LoopW.round TT_ok [0, 2, 3, 5, 6, 7, 8, 9, 14] ?_; conv => whnf)
    | (refine ⟨fun h => ?_, fun h => ?_⟩ <;> conv => whnf)
    | (refine ⟨?_, ?_⟩ <;> conv => whnf)
    | (intro h; conv => whnf)
    | (refine gand ?_ h; assumption)
  all_goals simp_all [orL]
abbrev oneL (r c b p : Int) : LV := .agg [I r, I c, I b, I p]
abbrev w64 (x : Int) : Int := IntKind.i64.wrap x
def rankL (r c b p r' c' b' p' : Int) : Int := orL [w64 (r - r'), w64 (c - c'), w64 (b - b'), w64 (p - p')]
theorem c24 (r c b p r' c' b' p' : Int) : CallP Try.prog 24 [oneL r c b p, oneL r' c' b' p'] (I (rankL r c b p r' c' b' p')) := by
  refine .intro (by first | (simp [NLs, NL]; done) | (simp [NLs, NL, nlx]; done)) (.intro TT_ok Try.func24 rfl rfl [0, 1, 2, 3, 4, 7] rfl ?_)
  conv => whnf
  repeat' first
    | with_reducible rfl
    | with_reducible exact True.intro
    | with_reducible assumption
    | (refine CallP.use (c29 _ _ _ _) ?_; conv => whnf)
    | (refine ⟨_, _, CallP.at (c29 _ _ _ _), ?_⟩; conv => whnf)
    | (refine ⟨_, fun _ => c29 _ _ _ _, ?_⟩; conv => whnf)
    | assumption
    | exact absurd (show false = true from h) Bool.false_ne_true
    | exact absurd (show true = false from h) (fun e => Bool.noConfusion e)
    | exact (congrArg Bool.not h)
    | (refine ⟨_, ⟨by first | assumption | decide | omega, by first | assumption | rfl⟩, ?_⟩; conv => whnf)
    | (refine ⟨_, fun _ => ⟨by first | assumption | decide | omega, by first | assumption | rfl⟩, ?_⟩; conv => whnf)
    | exact (rfl : (_ : Nat) = _)
    | exact (rfl : (_ : LV) = _)
    | (refine ⟨fun h => ?_, fun h => ?_⟩ <;> conv => whnf)
    | (refine ⟨?_, ?_⟩ <;> conv => whnf)
    | (intro h; conv => whnf)
    | (refine gand ?_ h; assumption)
  · simp only [Bool.and_eq_true, decide_eq_true_eq] at h
    obtain ⟨⟨rfl, rfl, rfl, rfl, _⟩, _⟩ := h
    simp only [rankL, Int.sub_self]; rfl
  · rfl
theorem m24 : MethodIs Try.prog 45 "footway/vec.rank" 24 := fun v w => by kernel_rfl
theorem c20 (r c b p r' c' b' p' : Int) : CallP Try.prog 20 [.iface 45 (oneL r c b p), oneL r' c' b' p'] (.bool (decide (rankL r c b p r' c' b' p' < 0))) := by
  refine .intro (by first | (simp [NLs, NL]; done) | (simp [NLs, NL, nlx]; done)) (.intro TT_ok Try.func20 rfl rfl [0, 1, 3, 4] rfl ?_)
  conv => whnf
  repeat' first
    | with_reducible rfl
    | with_reducible exact True.intro
    | with_reducible assumption
    | (refine ⟨_, m24, CallP.use (c24 _ _ _ _ _ _ _ _) ?_⟩; conv => whnf)
    | (refine ⟨_, _, fun _ => ⟨m24, c24 _ _ _ _ _ _ _ _⟩, ?_⟩; conv => whnf)
    | assumption
    | exact absurd (show false = true from h) Bool.false_ne_true
    | exact absurd (show true = false from h) (fun e => Bool.noConfusion e)
    | exact (congrArg Bool.not h)
    | (refine ⟨_, ⟨by first | assumption | decide | omega, by first | assumption | rfl⟩, ?_⟩; conv => whnf)
    | (refine ⟨_, fun _ => ⟨by first | assumption | decide | omega, by first | assumption | rfl⟩, ?_⟩; conv => whnf)
    | exact (rfl : (_ : Nat) = _)
    | exact (rfl : (_ : LV) = _)
    | (refine ⟨fun h => ?_, fun h => ?_⟩ <;> conv => whnf)
    | (refine ⟨?_, ?_⟩ <;> conv => whnf)
    | (intro h; conv => whnf)
    | (refine gand ?_ h; assumption)
def vBet (r c b p r' c' b' p' : Int) : Bool := vRight r c b p && vRight r' c' b' p' && decide (rankL r c b p r' c' b' p' < 0)
def vErr (r c b p r' c' b' p' : Int) : Int := bif vRight r c b p && vRight r' c' b' p' then 0 else 1
theorem c9 (r c b p r' c' b' p' : Int) : CallP Try.prog 9 [oneL r c b p, oneL r' c' b' p'] (.tup [.bool (vBet r c b p r' c' b' p'), I (vErr r c b p r' c' b' p')]) := by
  refine .intro (by first | (simp [NLs, NL]; done) | (simp [NLs, NL, nlx]; done)) (.intro TT_ok Try.func9 rfl rfl [0, 1, 2, 3, 4, 5, 13] rfl ?_)
  conv => whnf
  repeat' first
    | with_reducible rfl
    | with_reducible exact True.intro
    | with_reducible assumption
    | (refine CallP.use (c11 _ _ _ _) ?_; conv => whnf)
    | (refine ⟨_, _, CallP.at (c11 _ _ _ _), ?_⟩; conv => whnf)
    | (refine ⟨_, fun _ => c11 _ _ _ _, ?_⟩; conv => whnf)
    | (refine CallP.use (c20 _ _ _ _ _ _ _ _) ?_; conv => whnf)
    | (refine ⟨_, _, CallP.at (c20 _ _ _ _ _ _ _ _), ?_⟩; conv => whnf)
    | (refine ⟨_, fun _ => c20 _ _ _ _ _ _ _ _, ?_⟩; conv => whnf)
    | assumption
    | exact absurd (show false = true from h) Bool.false_ne_true
    | exact absurd (show true = false from h) (fun e => Bool.noConfusion e)
    | exact (congrArg Bool.not h)
    | (refine ⟨_, ⟨by first | assumption | decide | omega, by first | assumption | rfl⟩, ?_⟩; conv => whnf)
    | (refine ⟨_, fun _ => ⟨by first | assumption | decide | omega, by first | assumption | rfl⟩, ?_⟩; conv => whnf)
    | exact (rfl : (_ : Nat) = _)
    | exact (rfl : (_ : LV) = _)
    | (refine ⟨fun h => ?_, fun h => ?_⟩ <;> conv => whnf)
    | (refine ⟨?_, ?_⟩ <;> conv => whnf)
    | (intro h; conv => whnf)
    | (refine gand ?_ h; assumption)
  all_goals (revert h; simp only [vBet, vErr]; cases vRight r c b p <;> cases vRight r' c' b' p' <;> simp)
def fRight (r c b p n : Int) : Bool := vRight r c b p && inB n 2147483647
def fCost (r c b p n : Int) : Int := bif fRight r c b p n then mn (w64 (c + n)) 2147483647 else 0
def fErr (r c b p n : Int) : Int := bif fRight r c b p n then 0 else 1
def fK (r c b p n x : Int) : Int := bif fRight r c b p n then x else 0
theorem c10 (r c b p n : Int) : CallP Try.prog 10 [oneL r c b p, I n] (.tup [oneL (fK r c b p n r) (fCost r c b p n) (fK r c b p n b) (fK r c b p n p), I (fErr r c b p n)]) := by
  refine .intro (by first | (simp [NLs, NL]; done) | (simp [NLs, NL, nlx]; done)) (.intro TT_ok Try.func10 rfl rfl [0, 1, 2, 4, 5, 13] rfl ?_)
  conv => whnf
  repeat' first
    | with_reducible rfl
    | with_reducible exact True.intro
    | with_reducible assumption
    | (refine CallP.use (c11 _ _ _ _) ?_; conv => whnf)
    | (refine ⟨_, _, CallP.at (c11 _ _ _ _), ?_⟩; conv => whnf)
    | (refine ⟨_, fun _ => c11 _ _ _ _, ?_⟩; conv => whnf)
    | (refine CallP.use (c25 _ _) ?_; conv => whnf)
    | (refine ⟨_, _, CallP.at (c25 _ _), ?_⟩; conv => whnf)
    | (refine ⟨_, fun _ => c25 _ _, ?_⟩; conv => whnf)
    | assumption
    | exact absurd (show false = true from h) Bool.false_ne_true
    | exact absurd (show true = false from h) (fun e => Bool.noConfusion e)
    | exact (congrArg Bool.not h)
    | (refine ⟨_, ⟨by first | assumption | decide | omega, by first | assumption | rfl⟩, ?_⟩; conv => whnf)
    | (refine ⟨_, fun _ => ⟨by first | assumption | decide | omega, by first | assumption | rfl⟩, ?_⟩; conv => whnf)
    | exact (rfl : (_ : Nat) = _)
    | exact (rfl : (_ : LV) = _)
    | (refine ⟨fun h => ?_, fun h => ?_⟩ <;> conv => whnf)
    | (refine ⟨?_, ?_⟩ <;> conv => whnf)
    | (intro h; conv => whnf)
    | (refine gand ?_ h; assumption)
  all_goals (revert h; simp only [fK, fCost, fErr, fRight]; cases vRight r c b p <;> cases inB n 2147483647 <;> simp)
theorem c8 : CallP Try.prog 8 [] (.bool true) := by
  refine .intro (by first | (simp [NLs, NL]; done) | (simp [NLs, NL, nlx]; done)) (.intro TT_ok Try.func8 rfl rfl [0, 1, 2] rfl ?_)
  conv => whnf
  repeat' first
    | with_reducible rfl
    | with_reducible exact True.intro
    | with_reducible assumption
    | (refine CallP.use (c9 _ _ _ _ _ _ _ _) ?_; conv => whnf)
    | (refine ⟨_, _, CallP.at (c9 _ _ _ _ _ _ _ _), ?_⟩; conv => whnf)
    | (refine ⟨_, fun _ => c9 _ _ _ _ _ _ _ _, ?_⟩; conv => whnf)
    | assumption
    | exact absurd (show false = true from h) Bool.false_ne_true
    | exact absurd (show true = false from h) (fun e => Bool.noConfusion e)
    | exact (congrArg Bool.not h)
    | (refine ⟨_, ⟨by first | assumption | decide | omega, by first | assumption | rfl⟩, ?_⟩; conv => whnf)
    | (refine ⟨_, fun _ => ⟨by first | assumption | decide | omega, by first | assumption | rfl⟩, ?_⟩; conv => whnf)
    | exact (rfl : (_ : Nat) = _)
    | exact (rfl : (_ : LV) = _)
    | (refine ⟨fun h => ?_, fun h => ?_⟩ <;> conv => whnf)
    | (refine ⟨?_, ?_⟩ <;> conv => whnf)
    | (intro h; conv => whnf)
    | (refine gand ?_ h; assumption)
  decide
end Go.RX

