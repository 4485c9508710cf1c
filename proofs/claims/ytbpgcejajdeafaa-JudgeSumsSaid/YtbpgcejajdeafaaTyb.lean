/- Contracts of package wheel. -/
import Derived.Test.YtbpgcejajdeafaaTya
import Derived.Test.YtbpgcejajdeafaaRXx
set_option linter.unusedVariables false
set_option linter.unusedSimpArgs false
open Go Go.RX Go.Proofs
namespace Go.RX
set_option maxRecDepth 10000
set_option maxHeartbeats 1000000
attribute [local irreducible] CallW CallP LoopW W
abbrev I (x : Int) : LV := .int .i64 x
abbrev w64 (x : Int) : Int := IntKind.i64.wrap x
theorem w64_small {x : Int} (h : -9223372036854775808 ≤ x) (h' : x ≤ 9223372036854775807) : w64 x = x := by
  have hm : x % 18446744073709551616 = if 0 ≤ x then x else x + 18446744073709551616 := by split <;> omega
  unfold w64 IntKind.wrap
  simp only [IntKind.bits, IntKind.signed, Bool.true_and, ge_iff_le, decide_eq_true_eq, Int.reducePow, hm, Nat.reduceSub]
  split <;> split <;> omega
theorem w64_nat {k : Nat} (h : k ≤ 1000000) : IntKind.i64.wrap ((k : Int) + 1) = ((k + 1 : Nat) : Int) := by
  rw [show ((k : Int) + 1) = ((k + 1 : Nat) : Int) by omega]
  exact w64_small (by omega) (by omega)
theorem hmix1 : Try.prog.follows .mixedOrders = true := by kernel_rfl
/-- A timer: its ID, and when it is due. -/
structure Tm where
  id : Int
  at_ : Int
  deriving DecidableEq
abbrev Tm.cells (t : Tm) : List LV := [I t.id, I t.at_]
abbrev tL (t : Tm) : LV := .agg [I t.id, I t.at_]
abbrev tmsL (l : List Tm) : LV := .ro 2 (l.map Tm.cells)
abbrev intsL (l : List Int) : LV := .ro 1 (l.map fun x => [I x])
theorem mn_nat (n k : Nat) : mn (n : Int) (k : Int) = ((min n k : Nat) : Int) := by
  unfold mn
  split <;> omega
theorem mn_low (n k : Nat) : (mn (n : Int) (k : Int) - 0).NonNeg := by
  show (0 : Int) ≤ mn n k
  rw [mn_nat]; omega
theorem mn_top (n k : Nat) : ((n : Int) - mn (n : Int) (k : Int)).NonNeg := by
  show mn (n : Int) k ≤ n
  rw [mn_nat]; omega
theorem take_mn {α β : Type} (l : List α) (f : α → β) (k : Nat) : List.take (mn ((l.map f).length : Int) (k : Int)).toNat (l.map f) = (l.take k).map f := by
  rw [mn_nat, Int.toNat_natCast, Nat.min_comm, ← List.take_eq_take_min, List.map_take]
theorem c13 (l : List Tm) : CallP Try.prog 13 [tmsL l] (tmsL (l.take 70)) := by
  refine .intro (by first | (simp [NLs, NL]; done) | (simp [NLs, NL, nlx]; done)) (.intro TT_ok Try.func13 rfl rfl [0, 2] rfl ?_)
  conv => whnf
  repeat' first
    | with_reducible rfl
    | with_reducible exact True.intro
    | with_reducible assumption
    | assumption
    | exact absurd (show false = true from h) Bool.false_ne_true
    | exact absurd (show true = false from h) (fun e => Bool.noConfusion e)
    | exact (congrArg Bool.not h)
    | (refine ⟨_, ⟨by first | assumption | decide | omega, by first | assumption | rfl⟩, ?_⟩; conv => whnf)
    | (refine ⟨_, fun _ => ⟨by first | assumption | decide | omega, by first | assumption | rfl⟩, ?_⟩; conv => whnf)
    | exact (rfl : (_ : Nat) = _)
    | exact (rfl : (_ : LV) = _)
    | (refine ⟨fun h => ?_, fun h => ?_⟩ <;> conv => whnf)
    | (refine ⟨?_, ?_⟩ <;> conv => whnf)
    | (intro h; conv => whnf)
    | (refine gand ?_ h; assumption)
  all_goals first | exact mn_low _ 70 | exact mn_top _ 70 | exact take_mn _ _ 70
def tOk (t : Tm) : Bool := bif bif decide (0 ≤ t.id) then decide (0 ≤ t.at_) else false then decide (t.at_ ≤ 1099511627776) else false
theorem c34 (t : Tm) : CallP Try.prog 34 [tL t] (.bool (tOk t)) := by
  refine .intro (by first | (simp [NLs, NL]; done) | (simp [NLs, NL, nlx]; done)) (.intro TT_ok Try.func34 rfl rfl [0, 1, 2] rfl ?_)
  conv => whnf
  repeat' first
    | with_reducible rfl
    | with_reducible exact True.intro
    | with_reducible assumption
    | assumption
    | exact absurd (show false = true from h) Bool.false_ne_true
    | exact absurd (show true = false from h) (fun e => Bool.noConfusion e)
    | exact (congrArg Bool.not h)
    | (refine ⟨_, ⟨by first | assumption | decide | omega, by first | assumption | rfl⟩, ?_⟩; conv => whnf)
    | (refine ⟨_, fun _ => ⟨by first | assumption | decide | omega, by first | assumption | rfl⟩, ?_⟩; conv => whnf)
    | exact (rfl : (_ : Nat) = _)
    | exact (rfl : (_ : LV) = _)
    | (refine ⟨fun h => ?_, fun h => ?_⟩ <;> conv => whnf)
    | (refine ⟨?_, ?_⟩ <;> conv => whnf)
    | (intro h; conv => whnf)
    | (refine gand ?_ h; assumption)
  rfl
theorem c55 (x : Int) : CallP Try.prog 55 [I x] (.bool false) := by
  refine .intro (by first | (simp [NLs, NL]; done) | (simp [NLs, NL, nlx]; done)) (.intro TT_ok Try.func55 rfl rfl [0, 2] rfl ?_)
  conv => whnf
  repeat' first
    | with_reducible rfl
    | with_reducible exact True.intro
    | with_reducible assumption
    | assumption
    | exact absurd (show false = true from h) Bool.false_ne_true
    | exact absurd (show true = false from h) (fun e => Bool.noConfusion e)
    | exact (congrArg Bool.not h)
    | (refine ⟨_, ⟨by first | assumption | decide | omega, by first | assumption | rfl⟩, ?_⟩; conv => whnf)
    | (refine ⟨_, fun _ => ⟨by first | assumption | decide | omega, by first | assumption | rfl⟩, ?_⟩; conv => whnf)
    | exact (rfl : (_ : Nat) = _)
    | exact (rfl : (_ : LV) = _)
    | (refine ⟨fun h => ?_, fun h => ?_⟩ <;> conv => whnf)
    | (refine ⟨?_, ?_⟩ <;> conv => whnf)
    | (intro h; conv => whnf)
    | (refine gand ?_ h; assumption)
  simp
def cmpI' (a b : Int) : Int := if a < b then -1 else if b < a then 1 else 0
theorem c44 (a b : Int) : CallP Try.prog 44 [I a, I b] (I (cmpI' a b)) := by
  refine .intro (by first | (simp [NLs, NL]; done) | (simp [NLs, NL, nlx]; done)) (.intro TT_ok Try.func44 rfl rfl [0, 1, 4, 5, 6, 11, 12, 13, 16, 19] rfl ?_)
  conv => whnf
  repeat' first
    | with_reducible rfl
    | with_reducible exact True.intro
    | with_reducible assumption
    | (refine CallP.use (c55 _) ?_; conv => whnf)
    | (refine ⟨_, _, CallP.at (c55 _), ?_⟩; conv => whnf)
    | (refine ⟨_, fun _ => c55 _, ?_⟩; conv => whnf)
    | assumption
    | exact absurd (show false = true from h) Bool.false_ne_true
    | exact absurd (show true = false from h) (fun e => Bool.noConfusion e)
    | exact (congrArg Bool.not h)
    | (refine ⟨_, ⟨by first | assumption | decide | omega, by first | assumption | rfl⟩, ?_⟩; conv => whnf)
    | (refine ⟨_, fun _ => ⟨by first | assumption | decide | omega, by first | assumption | rfl⟩, ?_⟩; conv => whnf)
    | exact (rfl : (_ : Nat) = _)
    | exact (rfl : (_ : LV) = _)
    | (refine ⟨fun h => ?_, fun h => ?_⟩ <;> conv => whnf)
    | (refine ⟨?_, ?_⟩ <;> conv => whnf)
    | (intro h; conv => whnf)
    | (refine gand ?_ h; assumption)
  all_goals (simp_all [cmpI'] <;> omega)
theorem c43 (a b : Int) : CallP Try.prog 43 [.ro 1 [[I a], [I b]]] (I (if a = 0 then b else a)) := by
  refine .intro (by first | (simp [NLs, NL]; done) | (simp [NLs, NL, nlx]; done)) (.intro TT_ok Try.func43 rfl rfl [0, 2, 3, 5, 6, 7, 8, 9, 14] rfl ?_)
  conv => whnf
  repeat' first
    | with_reducible rfl
    | with_reducible exact True.intro
    | with_reducible assumption
    | assumption
    | exact absurd (show false = true from h) Bool.false_ne_true
    | exact absurd (show true = false from h) (fun e => Bool.noConfusion e)
    | exact (congrArg Bool.not h)
    | (refine ⟨_, ⟨by first | assumption | decide | omega, by first | assumption | rfl⟩, ?_⟩; conv => whnf)
    | (refine ⟨_, fun _ => ⟨by first | assumption | decide | omega, by first | assumption | rfl⟩, ?_⟩; conv => whnf)
    | exact (rfl : (_ : Nat) = _)
    | exact (rfl : (_ : LV) = _)
    | (refine LoopW.round TT_ok [0, 2, 3, 5, 6, 7, 8, 9, 14] ?_; conv => whnf)
    | (refine ⟨fun h => ?_, fun h => ?_⟩ <;> conv => whnf)
    | (refine ⟨?_, ?_⟩ <;> conv => whnf)
    | (intro h; conv => whnf)
    | (refine gand ?_ h; assumption)
  all_goals simp_all
def ordI (a b : Tm) : Int := if cmpI' a.at_ b.at_ = 0 then cmpI' a.id b.id else cmpI' a.at_ b.at_
theorem c35 (a b : Tm) : CallP Try.prog 35 [tL a, tL b] (I (ordI a b)) := by
  refine .intro (by first | (simp [NLs, NL]; done) | (simp [NLs, NL, nlx]; done)) (.intro TT_ok Try.func35 rfl rfl [0, 1, 2, 3, 4] rfl ?_)
  conv => whnf
  repeat' first
    | with_reducible rfl
    | with_reducible exact True.intro
    | with_reducible assumption
    | (refine CallP.use (c44 _ _) ?_; conv => whnf)
    | (refine ⟨_, _, CallP.at (c44 _ _), ?_⟩; conv => whnf)
    | (refine ⟨_, fun _ => c44 _ _, ?_⟩; conv => whnf)
    | (refine CallP.use (c43 _ _) ?_; conv => whnf)
    | (refine ⟨_, _, CallP.at (c43 _ _), ?_⟩; conv => whnf)
    | (refine ⟨_, fun _ => c43 _ _, ?_⟩; conv => whnf)
    | assumption
    | (refine W.drawnM (id := 1) 1 TT_ok hmix1 [0, 0, 0, 0, 0, 0, 0, 0, 0, 1, 2, 3, 4] [0, 0, 0, 0, 1, 1, 1, 1, 1, 2, 3, 4, 4] rfl ?_; conv => whnf)
    | exact absurd (show false = true from h) Bool.false_ne_true
    | exact absurd (show true = false from h) (fun e => Bool.noConfusion e)
    | exact (congrArg Bool.not h)
    | (refine ⟨_, ⟨by first | assumption | decide | omega, by first | assumption | rfl⟩, ?_⟩; conv => whnf)
    | (refine ⟨_, fun _ => ⟨by first | assumption | decide | omega, by first | assumption | rfl⟩, ?_⟩; conv => whnf)
    | exact (rfl : (_ : Nat) = _)
    | exact (rfl : (_ : LV) = _)
    | (refine ⟨fun h => ?_, fun h => ?_⟩ <;> conv => whnf)
    | (refine ⟨?_, ?_⟩ <;> conv => whnf)
    | (intro h; conv => whnf)
    | (refine gand ?_ h; assumption)
  rfl
end Go.RX

