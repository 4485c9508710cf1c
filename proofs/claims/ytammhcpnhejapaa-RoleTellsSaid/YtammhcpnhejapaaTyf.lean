/- Contracts of the ways of package role. -/
import Derived.Test.YtammhcpnhejapaaTye
import Derived.Test.YtammhcpnhejapaaPl04b
import Derived.Test.YtammhcpnhejapaaRXw
set_option linter.unusedVariables false
set_option linter.unusedSimpArgs false
open Go Go.RX Go.Proofs
namespace Go.RX
set_option maxRecDepth 10000
set_option maxHeartbeats 1000000
attribute [local irreducible] CallW CallP LoopW W
structure Vc where
  r : Int
  c : Int
  b : Int
  p : Int
  deriving DecidableEq
abbrev Vc.cells (v : Vc) : List LV := [I v.r, I v.c, I v.b, I v.p]
abbrev vL (v : Vc) : LV := .agg [I v.r, I v.c, I v.b, I v.p]
structure Inf where
  h : Bool
  r : Int
  c : Int
  b : Int
  p : Int
  a : Int
  deriving DecidableEq
abbrev Inf.v (x : Inf) : Vc := ⟨x.r, x.c, x.b, x.p⟩
abbrev Inf.cells (x : Inf) : List LV := [.bool x.h, I x.r, I x.c, I x.b, I x.p, I x.a]
structure Slf where
  i : Int
  cs : List Int
  us : List Bool
  fs : List Inf
abbrev intsL (l : List Int) : LV := .ro 1 (l.map fun x => [I x])
abbrev boolsL (l : List Bool) : LV := .ro 1 (l.map fun x => [LV.bool x])
abbrev infsL (l : List Inf) : LV := .ro 6 (l.map Inf.cells)
abbrev vecsL (l : List Vc) : LV := .ro 4 (l.map Vc.cells)
abbrev slfL (s : Slf) : LV := .agg [I s.i, intsL s.cs, boolsL s.us, infsL s.fs]
abbrev rgt (v : Vc) : Bool := vRight v.r v.c v.b v.p
abbrev bet (v w : Vc) : Bool := vBet v.r v.c v.b v.p w.r w.c w.b w.p
abbrev berr (v w : Vc) : Int := vErr v.r v.c v.b v.p w.r w.c w.b w.p
def far (v : Vc) (n : Int) : Vc := ⟨fK v.r v.c v.b v.p n v.r, fCost v.r v.c v.b v.p n, fK v.r v.c v.b v.p n v.b, fK v.r v.c v.b v.p n v.p⟩
abbrev ferr (v : Vc) (n : Int) : Int := fErr v.r v.c v.b v.p n
theorem d14 (v w : Vc) : CallP Try.prog 14 [vL v, vL w] (.tup [.bool (bet v w), I (berr v w)]) := c14 ..
theorem d16 (v : Vc) (n : Int) : CallP Try.prog 16 [vL v, I n] (.tup [vL (far v n), I (ferr v n)]) := c16 ..
theorem d30 (v : Vc) : CallP Try.prog 30 [vL v] (.bool (rgt v)) := c30 ..
theorem d57 (x : Inf) (up : Bool) : CallP Try.prog 57 [.agg x.cells, .bool up] (.bool (iRight x.h x.r x.c x.b x.p x.a up)) := c57 ..
theorem c66 (s : Slf) (k : Nat) (x : Inf) (n : Int) (hx : s.fs[k]? = some x) (hn : s.cs[k]? = some n) : CallP Try.prog 66 [.agg [I k], slfL s] (vL (far x.v n)) := by
  have hb1 : (s.fs.map Inf.cells)[k]? = some x.cells := by simp [hx]
  have hb2 : (s.cs.map fun x => [I x])[k]? = some [I n] := by simp [hn]
  refine .intro (by simp [NLs, NL]) (.intro TT_ok Try.func66 rfl rfl [0, 1, 2, 3, 4, 5] rfl ?_)
  conv => whnf
  repeat' first
    | with_reducible rfl
    | with_reducible exact True.intro
    | assumption
    | (refine CallP.use (d16 x.v n) ?_; conv => whnf)
    | (refine ⟨_, fun _ => d16 x.v n, ?_⟩; conv => whnf)
    | (refine W.drawnM (id := 1) TT_ok hmix1 [0, 0, 0, 0, 0, 0, 0, 0, 0, 0, 0, 0, 0, 0, 0, 0, 0, 0, 1, 2] [1, 1, 1, 1, 1, 1, 1, 1, 1, 1, 1, 1, 1, 1, 1, 1, 2, 1, 2, 2] rfl ?_; conv => whnf)
    | exact absurd (show false = true from h) Bool.false_ne_true
    | exact absurd (show true = false from h) (fun e => Bool.noConfusion e)
    | exact (congrArg Bool.not h)
    | (refine ⟨_, ⟨by first | assumption | decide | omega, by first | assumption | rfl⟩, ?_⟩; conv => whnf)
    | exact (rfl : (_ : Nat) = _)
    | exact (rfl : (_ : LV) = _)
    | (refine ⟨fun h => ?_, fun h => ?_⟩ <;> conv => whnf)
    | (refine ⟨?_, ?_⟩ <;> conv => whnf)
    | (intro h; conv => whnf)
theorem c91 (s : Slf) : CallP Try.prog 91 [.agg [], slfL s] (vL ⟨s.i, 0, s.i, 0⟩) := by
  refine .intro (by simp [NLs, NL]) (.intro TT_ok Try.func91 rfl rfl [0, 1, 3, 4] rfl ?_)
  conv => whnf
  repeat' first
    | with_reducible rfl
    | with_reducible exact True.intro
    | assumption
    | exact absurd (show false = true from h) Bool.false_ne_true
    | exact absurd (show true = false from h) (fun e => Bool.noConfusion e)
    | exact (congrArg Bool.not h)
    | (refine ⟨_, ⟨by first | assumption | decide | omega, by first | assumption | rfl⟩, ?_⟩; conv => whnf)
    | exact (rfl : (_ : Nat) = _)
    | exact (rfl : (_ : LV) = _)
    | (refine ⟨fun h => ?_, fun h => ?_⟩ <;> conv => whnf)
    | (refine ⟨?_, ?_⟩ <;> conv => whnf)
    | (intro h; conv => whnf)
end Go.RX

