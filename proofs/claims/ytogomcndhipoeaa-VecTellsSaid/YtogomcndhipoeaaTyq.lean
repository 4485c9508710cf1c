/- The contract of footwaylaw04.VecTells, of none. -/
import Derived.Test.YtogomcndhipoeaaTyp
set_option linter.unusedVariables false
set_option linter.unusedSimpArgs false
open Go Go.RX Go.Proofs
namespace Go.RX
set_option maxRecDepth 10000
set_option maxHeartbeats 2000000
attribute [local irreducible] CallW CallP CallS LoopW W IntKind.wrap rankL vRight BInv eqV cv farV ltV
theorem c4B (a b : Vc) (n : Int) (l0 : List Vc) (h5 : CallP Try.prog 5 [vcsL l0] (vcsL [])) : CallP Try.prog 4 [vcL a, vcL b, I n, vcsL l0] (.bool true) := by
  have h8 := c8
  have h13 := c13 a b
  have h14 := c14 a n
  have h15 : CallP Try.prog 15 [vcsL []] (.bool true) := c15 [] (by decide)
  have h6 := c6n
  have h7 : CallP Try.prog 7 [vcsL []] (.tup [vcsL [], I 0]) := (c7 [] (by decide) rfl).toP fun r ⟨l', hp, hs, hr⟩ => by rw [hr, hp.eq_nil]
  have h17 : CallP Try.prog 17 [vcsL []] (vcsL []) := c17 (by decide) (List.Perm.refl _) List.Pairwise.nil
  have h16 : CallP Try.prog 16 [vcsL [], vcsL []] (.bool true) := c16 [] (by decide)
  have hE' := @eq_self (farV a n)
  have hc := cas a b n
  generalize decide (ltV a b) = w at h13 hc
  have hw : (!decide (w = w)) = false := by simp
  rcases hc with ⟨rb, h11, h12a, h12b, h9, h10⟩ | ⟨hn, h11, h12a, h12b, h9, h10⟩ | ⟨⟨hn1, hn2⟩, h11, h12a, h12b, h9, h10⟩ | ⟨hn, h11, h12a, h12b, h9, h10⟩ | ⟨⟨hn1, hn2⟩, h11, h12a, h12b, h9, h10⟩
  · skip
    refine .intro (by first | (simp [NLs, NL]; done) | (simp [NLs, NL, nlx]; done)) (.intro TT_ok Try.func4 rfl rfl [0, 1, 2, 3, 4, 5, 8, 9, 10, 11, 12, 13, 14, 15, 16, 49, 57, 62, 71, 82, 89, 98, 101, 125, 128] rfl ?_)
    conv => whnf
    repeat' first
      | with_reducible rfl
      | with_reducible exact True.intro
      | with_reducible assumption
      | (refine CallP.use (by first | exact (h5) | exact (h9) | exact (h10) | exact (h6) | exact (h7) | exact (h11) | exact (h12a) | exact (h12b) | exact (h8) | exact (h13) | exact (h14) | exact (h15) | exact (h16) | exact (h17)) ?_; conv => whnf)
      | (refine ⟨_, _, CallP.at (by first | exact (h5) | exact (h9) | exact (h10) | exact (h6) | exact (h7) | exact (h11) | exact (h12a) | exact (h12b) | exact (h8) | exact (h13) | exact (h14) | exact (h15) | exact (h16) | exact (h17)), ?_⟩; conv => whnf)
      | (refine ⟨_, fun _ => (by first | exact (h5) | exact (h9) | exact (h10) | exact (h6) | exact (h7) | exact (h11) | exact (h12a) | exact (h12b) | exact (h8) | exact (h13) | exact (h14) | exact (h15) | exact (h16) | exact (h17)), ?_⟩; conv => whnf)
      | assumption
      | (refine W.drawn TT_ok hmix1 rfl ?_; conv => whnf)
      | exact absurd (show false = true from h) Bool.false_ne_true
      | exact absurd (show true = false from h) (fun e => Bool.noConfusion e)
      | exact (congrArg Bool.not h)
      | (refine ⟨_, ⟨by first | assumption | decide | omega, by first | assumption | rfl⟩, ?_⟩; conv => whnf)
      | (refine ⟨_, fun _ => ⟨by first | assumption | decide | omega, by first | assumption | rfl⟩, ?_⟩; conv => whnf)
      | exact (rfl : (_ : Nat) = _)
      | exact (rfl : (_ : LV) = _)
      | (refine ⟨fun h => ?_, fun h => ?_⟩ <;> conv => whnf)
      | (refine ⟨?_, ?_⟩ <;> conv => whnf)
      | (intro h; conv => whnf)
      | (refine gand ?_ h; assumption)
    all_goals trace_state
  · skip
    refine .intro (by first | (simp [NLs, NL]; done) | (simp [NLs, NL, nlx]; done)) (.intro TT_ok Try.func4 rfl rfl [0, 1, 2, 3, 4, 5, 8, 9, 10, 11, 12, 13, 14, 15, 16, 49, 57, 62, 71, 82, 89, 98, 101, 125, 128] rfl ?_)
    conv => whnf
    repeat' first
      | with_reducible rfl
      | with_reducible exact True.intro
      | with_reducible assumption
      | exact (Bool.false_ne_true (h.symm.trans hn)).elim
      | (refine CallP.use (by first | exact (h5) | exact (h9) | exact (h10) | exact (h6) | exact (h7) | exact (h11) | exact (h12a) | exact (h12b) | exact (h8) | exact (h13) | exact (h14) | exact (h15) | exact (h16) | exact (h17)) ?_; conv => whnf)
      | (refine ⟨_, _, CallP.at (by first | exact (h5) | exact (h9) | exact (h10) | exact (h6) | exact (h7) | exact (h11) | exact (h12a) | exact (h12b) | exact (h8) | exact (h13) | exact (h14) | exact (h15) | exact (h16) | exact (h17)), ?_⟩; conv => whnf)
      | (refine ⟨_, fun _ => (by first | exact (h5) | exact (h9) | exact (h10) | exact (h6) | exact (h7) | exact (h11) | exact (h12a) | exact (h12b) | exact (h8) | exact (h13) | exact (h14) | exact (h15) | exact (h16) | exact (h17)), ?_⟩; conv => whnf)
      | assumption
      | (refine W.drawn TT_ok hmix1 rfl ?_; conv => whnf)
      | exact absurd (show false = true from h) Bool.false_ne_true
      | exact absurd (show true = false from h) (fun e => Bool.noConfusion e)
      | exact (congrArg Bool.not h)
      | (refine ⟨_, ⟨by first | assumption | decide | omega, by first | assumption | rfl⟩, ?_⟩; conv => whnf)
      | (refine ⟨_, fun _ => ⟨by first | assumption | decide | omega, by first | assumption | rfl⟩, ?_⟩; conv => whnf)
      | exact (rfl : (_ : Nat) = _)
      | exact (rfl : (_ : LV) = _)
      | (refine ⟨fun h => ?_, fun h => ?_⟩ <;> conv => whnf)
      | (refine ⟨?_, ?_⟩ <;> conv => whnf)
      | (intro h; conv => whnf)
      | (refine gand ?_ h; assumption)
    all_goals trace_state
  · skip
    have hn' : (bif decide (n < 0) then true else decide (2147483647 < n)) = false := by rw [hn1, hn2]; rfl
    refine .intro (by first | (simp [NLs, NL]; done) | (simp [NLs, NL, nlx]; done)) (.intro TT_ok Try.func4 rfl rfl [0, 1, 2, 3, 4, 5, 8, 9, 10, 11, 12, 13, 14, 15, 16, 49, 57, 62, 71, 82, 89, 98, 101, 125, 128] rfl ?_)
    conv => whnf
    repeat' first
      | with_reducible rfl
      | with_reducible exact True.intro
      | with_reducible assumption
      | exact (Bool.false_ne_true (hn'.symm.trans h)).elim
      | exact (Bool.false_ne_true (hE'.symm.trans h)).elim
      | (refine CallP.use (by first | exact (h5) | exact (h9) | exact (h10) | exact (h6) | exact (h7) | exact (h11) | exact (h12a) | exact (h12b) | exact (h8) | exact (h13) | exact (h14) | exact (h15) | exact (h16) | exact (h17)) ?_; conv => whnf)
      | (refine ⟨_, _, CallP.at (by first | exact (h5) | exact (h9) | exact (h10) | exact (h6) | exact (h7) | exact (h11) | exact (h12a) | exact (h12b) | exact (h8) | exact (h13) | exact (h14) | exact (h15) | exact (h16) | exact (h17)), ?_⟩; conv => whnf)
      | (refine ⟨_, fun _ => (by first | exact (h5) | exact (h9) | exact (h10) | exact (h6) | exact (h7) | exact (h11) | exact (h12a) | exact (h12b) | exact (h8) | exact (h13) | exact (h14) | exact (h15) | exact (h16) | exact (h17)), ?_⟩; conv => whnf)
      | assumption
      | (refine W.drawn TT_ok hmix1 rfl ?_; conv => whnf)
      | exact absurd (show false = true from h) Bool.false_ne_true
      | exact absurd (show true = false from h) (fun e => Bool.noConfusion e)
      | exact (congrArg Bool.not h)
      | (refine ⟨_, ⟨by first | assumption | decide | omega, by first | assumption | rfl⟩, ?_⟩; conv => whnf)
      | (refine ⟨_, fun _ => ⟨by first | assumption | decide | omega, by first | assumption | rfl⟩, ?_⟩; conv => whnf)
      | exact (rfl : (_ : Nat) = _)
      | exact (rfl : (_ : LV) = _)
      | (refine ⟨fun h => ?_, fun h => ?_⟩ <;> conv => whnf)
      | (refine ⟨?_, ?_⟩ <;> conv => whnf)
      | (intro h; conv => whnf)
      | (refine gand ?_ h; assumption)
    all_goals trace_state
  · skip
    refine .intro (by first | (simp [NLs, NL]; done) | (simp [NLs, NL, nlx]; done)) (.intro TT_ok Try.func4 rfl rfl [0, 1, 2, 3, 4, 5, 8, 9, 10, 11, 12, 13, 14, 15, 16, 49, 57, 62, 71, 82, 89, 98, 101, 125, 128] rfl ?_)
    conv => whnf
    repeat' first
      | with_reducible rfl
      | with_reducible exact True.intro
      | with_reducible assumption
      | exact (Bool.false_ne_true (h.symm.trans hn)).elim
      | exact (Bool.false_ne_true (hw.symm.trans h)).elim
      | (refine CallP.use (by first | exact (h5) | exact (h9) | exact (h10) | exact (h6) | exact (h7) | exact (h11) | exact (h12a) | exact (h12b) | exact (h8) | exact (h13) | exact (h14) | exact (h15) | exact (h16) | exact (h17)) ?_; conv => whnf)
      | (refine ⟨_, _, CallP.at (by first | exact (h5) | exact (h9) | exact (h10) | exact (h6) | exact (h7) | exact (h11) | exact (h12a) | exact (h12b) | exact (h8) | exact (h13) | exact (h14) | exact (h15) | exact (h16) | exact (h17)), ?_⟩; conv => whnf)
      | (refine ⟨_, fun _ => (by first | exact (h5) | exact (h9) | exact (h10) | exact (h6) | exact (h7) | exact (h11) | exact (h12a) | exact (h12b) | exact (h8) | exact (h13) | exact (h14) | exact (h15) | exact (h16) | exact (h17)), ?_⟩; conv => whnf)
      | assumption
      | (refine W.drawn TT_ok hmix1 rfl ?_; conv => whnf)
      | exact absurd (show false = true from h) Bool.false_ne_true
      | exact absurd (show true = false from h) (fun e => Bool.noConfusion e)
      | exact (congrArg Bool.not h)
      | (refine ⟨_, ⟨by first | assumption | decide | omega, by first | assumption | rfl⟩, ?_⟩; conv => whnf)
      | (refine ⟨_, fun _ => ⟨by first | assumption | decide | omega, by first | assumption | rfl⟩, ?_⟩; conv => whnf)
      | exact (rfl : (_ : Nat) = _)
      | exact (rfl : (_ : LV) = _)
      | (refine ⟨fun h => ?_, fun h => ?_⟩ <;> conv => whnf)
      | (refine ⟨?_, ?_⟩ <;> conv => whnf)
      | (intro h; conv => whnf)
      | (refine gand ?_ h; assumption)
    all_goals trace_state
  · skip
    have hn' : (bif decide (n < 0) then true else decide (2147483647 < n)) = false := by rw [hn1, hn2]; rfl
    refine .intro (by first | (simp [NLs, NL]; done) | (simp [NLs, NL, nlx]; done)) (.intro TT_ok Try.func4 rfl rfl [0, 1, 2, 3, 4, 5, 8, 9, 10, 11, 12, 13, 14, 15, 16, 49, 57, 62, 71, 82, 89, 98, 101, 125, 128] rfl ?_)
    conv => whnf
    repeat' first
      | with_reducible rfl
      | with_reducible exact True.intro
      | with_reducible assumption
      | exact (Bool.false_ne_true (hn'.symm.trans h)).elim
      | exact (Bool.false_ne_true (hE'.symm.trans h)).elim
      | exact (Bool.false_ne_true (hw.symm.trans h)).elim
      | (refine CallP.use (by first | exact (h5) | exact (h9) | exact (h10) | exact (h6) | exact (h7) | exact (h11) | exact (h12a) | exact (h12b) | exact (h8) | exact (h13) | exact (h14) | exact (h15) | exact (h16) | exact (h17)) ?_; conv => whnf)
      | (refine ⟨_, _, CallP.at (by first | exact (h5) | exact (h9) | exact (h10) | exact (h6) | exact (h7) | exact (h11) | exact (h12a) | exact (h12b) | exact (h8) | exact (h13) | exact (h14) | exact (h15) | exact (h16) | exact (h17)), ?_⟩; conv => whnf)
      | (refine ⟨_, fun _ => (by first | exact (h5) | exact (h9) | exact (h10) | exact (h6) | exact (h7) | exact (h11) | exact (h12a) | exact (h12b) | exact (h8) | exact (h13) | exact (h14) | exact (h15) | exact (h16) | exact (h17)), ?_⟩; conv => whnf)
      | assumption
      | (refine W.drawn TT_ok hmix1 rfl ?_; conv => whnf)
      | exact absurd (show false = true from h) Bool.false_ne_true
      | exact absurd (show true = false from h) (fun e => Bool.noConfusion e)
      | exact (congrArg Bool.not h)
      | (refine ⟨_, ⟨by first | assumption | decide | omega, by first | assumption | rfl⟩, ?_⟩; conv => whnf)
      | (refine ⟨_, fun _ => ⟨by first | assumption | decide | omega, by first | assumption | rfl⟩, ?_⟩; conv => whnf)
      | exact (rfl : (_ : Nat) = _)
      | exact (rfl : (_ : LV) = _)
      | (refine ⟨fun h => ?_, fun h => ?_⟩ <;> conv => whnf)
      | (refine ⟨?_, ?_⟩ <;> conv => whnf)
      | (intro h; conv => whnf)
      | (refine gand ?_ h; assumption)
    all_goals trace_state
end Go.RX

