/- The contract of footwaylaw04.VecTells, of some. -/
import Derived.Test.YtogomcndhipoeaaTyq
set_option linter.unusedVariables false
set_option linter.unusedSimpArgs false
open Go Go.RX Go.Proofs
namespace Go.RX
set_option maxRecDepth 10000
set_option maxHeartbeats 2000000
attribute [local irreducible] CallW CallP CallS LoopW W IntKind.wrap rankL vRight BInv eqV cv farV ltV
theorem c4C (a b : Vc) (n : Int) (l0 l : List Vc) (hl : l.length ≤ 60) (hne : 1 ≤ l.length) (h5 : CallP Try.prog 5 [vcsL l0] (vcsL l)) (h0 : allR l = true) : CallP Try.prog 4 [vcL a, vcL b, I n, vcsL l0] (.bool true) := by
  have h8 := c8
  have h13 := c13 a b
  have h14 := c14 a n
  have h15 := c15 l (by omega)
  rw [h0] at h15
  obtain ⟨at_, hI⟩ := best_ex l hne
  obtain ⟨l', hp, hs⟩ := srt_ex l
  have h6 : CallP Try.prog 6 [vcsL l] (.tup [I at_, I 0]) := (c6 l (by omega) h0 hne).toP fun r ⟨a2, h1, h2⟩ => by rw [h2, h1.unique hI]
  have h7 : CallP Try.prog 7 [vcsL l] (.tup [vcsL l', I 0]) := (c7 l (by omega) h0).toP fun r ⟨l2, h1, h2, h3⟩ => by rw [h3, srt_unique leV_anti (h1.trans hp.symm) h2 hs]
  have h17 : CallP Try.prog 17 [vcsL l] (vcsL l') := c17 (by omega) hp hs
  have h16 : CallP Try.prog 16 [vcsL l', vcsL l'] (.bool true) := c16 l' (by rw [hp.length_eq]; omega)
  have h18 : CallP Try.prog 18 [vcsL l] (I at_) := c18 (by omega) hne hI
  have hz : decide (((l.map Vc.cells).length : Int) = 0) = false := by rw [decide_eq_false_iff_not, List.length_map]; omega
  clear hp hs hI
  have hat : decide (((at_ : Nat) : Int) = ((at_ : Nat) : Int)) = true := decide_eq_true rfl
  have hE' := @eq_self (farV a n)
  have hc := cas a b n
  generalize decide (ltV a b) = w at h13 hc
  have hw : (!decide (w = w)) = false := by simp
  rcases hc with ⟨rb, h11, h12a, h12b, h9, h10⟩ | ⟨hn, h11, h12a, h12b, h9, h10⟩ | ⟨⟨hn1, hn2⟩, h11, h12a, h12b, h9, h10⟩ | ⟨hn, h11, h12a, h12b, h9, h10⟩ | ⟨⟨hn1, hn2⟩, h11, h12a, h12b, h9, h10⟩
  · skip
    refine .intro (by first | (simp [NLs, NL]; done) | (simp [NLs, NL, nlx]; done)) (.intro TT_ok Try.func4 rfl rfl [0, 1, 2, 3, 4, 5, 8, 9, 10, 11, 12, 13, 14, 15, 16, 49, 57, 62, 71, 82, 89, 98, 101, 125, 128] rfl ?_)
    conv => whnf
    repeat' first
      | with_reducible rfl
      | with_reducible exact True.intro
      | with_reducible assumption
      | exact (Bool.false_ne_true (hz.symm.trans h)).elim
      | exact hat
      | (refine CallP.use (by first | exact (h5) | exact (h9) | exact (h10) | exact (h6) | exact (h7) | exact (h11) | exact (h12a) | exact (h12b) | exact (h8) | exact (h13) | exact (h14) | exact (h15) | exact (h16) | exact (h17) | exact (h18)) ?_; conv => whnf)
      | (refine ⟨_, _, CallP.at (by first | exact (h5) | exact (h9) | exact (h10) | exact (h6) | exact (h7) | exact (h11) | exact (h12a) | exact (h12b) | exact (h8) | exact (h13) | exact (h14) | exact (h15) | exact (h16) | exact (h17) | exact (h18)), ?_⟩; conv => whnf)
      | (refine ⟨_, fun _ => (by first | exact (h5) | exact (h9) | exact (h10) | exact (h6) | exact (h7) | exact (h11) | exact (h12a) | exact (h12b) | exact (h8) | exact (h13) | exact (h14) | exact (h15) | exact (h16) | exact (h17) | exact (h18)), ?_⟩; conv => whnf)
      | assumption
      | (refine W.drawn TT_ok hmix1 rfl ?_; conv => whnf)
      | exact absurd (show false = true from h) Bool.false_ne_true
      | exact absurd (show true = false from h) (fun e => Bool.noConfusion e)
      | exact (congrArg Bool.not h)
      | (refine ⟨_, ⟨by first | assumption | decide | omega, by first | assumption | rfl⟩, ?_⟩; conv => whnf)
      | (refine ⟨_, fun _ => ⟨by first | assumption | decide | omega, by first | assumption | rfl⟩, ?_⟩; conv => whnf)
      | exact (rfl : (_ : Nat) = _)
      | exact (rfl : (_ : LV) = _)
      | (refine ⟨fun h => ?_, fun h => ?_⟩ <;> conv => whnf)
      | (refine ⟨?_, ?_⟩ <;> conv => whnf)
      | (intro h; conv => whnf)
      | (refine gand ?_ h; assumption)
    all_goals trace_state
  · skip
    refine .intro (by first | (simp [NLs, NL]; done) | (simp [NLs, NL, nlx]; done)) (.intro TT_ok Try.func4 rfl rfl [0, 1, 2, 3, 4, 5, 8, 9, 10, 11, 12, 13, 14, 15, 16, 49, 57, 62, 71, 82, 89, 98, 101, 125, 128] rfl ?_)
    conv => whnf
    repeat' first
      | with_reducible rfl
      | with_reducible exact True.intro
      | with_reducible assumption
      | exact (Bool.false_ne_true (hz.symm.trans h)).elim
      | exact hat
      | exact (Bool.false_ne_true (h.symm.trans hn)).elim
      | (refine CallP.use (by first | exact (h5) | exact (h9) | exact (h10) | exact (h6) | exact (h7) | exact (h11) | exact (h12a) | exact (h12b) | exact (h8) | exact (h13) | exact (h14) | exact (h15) | exact (h16) | exact (h17) | exact (h18)) ?_; conv => whnf)
      | (refine ⟨_, _, CallP.at (by first | exact (h5) | exact (h9) | exact (h10) | exact (h6) | exact (h7) | exact (h11) | exact (h12a) | exact (h12b) | exact (h8) | exact (h13) | exact (h14) | exact (h15) | exact (h16) | exact (h17) | exact (h18)), ?_⟩; conv => whnf)
      | (refine ⟨_, fun _ => (by first | exact (h5) | exact (h9) | exact (h10) | exact (h6) | exact (h7) | exact (h11) | exact (h12a) | exact (h12b) | exact (h8) | exact (h13) | exact (h14) | exact (h15) | exact (h16) | exact (h17) | exact (h18)), ?_⟩; conv => whnf)
      | assumption
      | (refine W.drawn TT_ok hmix1 rfl ?_; conv => whnf)
      | exact absurd (show false = true from h) Bool.false_ne_true
      | exact absurd (show true = false from h) (fun e => Bool.noConfusion e)
      | exact (congrArg Bool.not h)
      | (refine ⟨_, ⟨by first | assumption | decide | omega, by first | assumption | rfl⟩, ?_⟩; conv => whnf)
      | (refine ⟨_, fun _ => ⟨by first | assumption | decide | omega, by first | assumption | rfl⟩, ?_⟩; conv => whnf)
      | exact (rfl : (_ : Nat) = _)
      | exact (rfl : (_ : LV) = _)
      | (refine ⟨fun h => ?_, fun h => ?_⟩ <;> conv => whnf)
      | (refine ⟨?_, ?_⟩ <;> conv => whnf)
      | (intro h; conv => whnf)
      | (refine gand ?_ h; assumption)
    all_goals trace_state
  · skip
    have hn' : (bif decide (n < 0) then true else decide (2147483647 < n)) = false := by rw [hn1, hn2]; rfl
    refine .intro (by first | (simp [NLs, NL]; done) | (simp [NLs, NL, nlx]; done)) (.intro TT_ok Try.func4 rfl rfl [0, 1, 2, 3, 4, 5, 8, 9, 10, 11, 12, 13, 14, 15, 16, 49, 57, 62, 71, 82, 89, 98, 101, 125, 128] rfl ?_)
    conv => whnf
    repeat' first
      | with_reducible rfl
      | with_reducible exact True.intro
      | with_reducible assumption
      | exact (Bool.false_ne_true (hz.symm.trans h)).elim
      | exact hat
      | exact (Bool.false_ne_true (hn'.symm.trans h)).elim
      | exact (Bool.false_ne_true (hE'.symm.trans h)).elim
      | (refine CallP.use (by first | exact (h5) | exact (h9) | exact (h10) | exact (h6) | exact (h7) | exact (h11) | exact (h12a) | exact (h12b) | exact (h8) | exact (h13) | exact (h14) | exact (h15) | exact (h16) | exact (h17) | exact (h18)) ?_; conv => whnf)
      | (refine ⟨_, _, CallP.at (by first | exact (h5) | exact (h9) | exact (h10) | exact (h6) | exact (h7) | exact (h11) | exact (h12a) | exact (h12b) | exact (h8) | exact (h13) | exact (h14) | exact (h15) | exact (h16) | exact (h17) | exact (h18)), ?_⟩; conv => whnf)
      | (refine ⟨_, fun _ => (by first | exact (h5) | exact (h9) | exact (h10) | exact (h6) | exact (h7) | exact (h11) | exact (h12a) | exact (h12b) | exact (h8) | exact (h13) | exact (h14) | exact (h15) | exact (h16) | exact (h17) | exact (h18)), ?_⟩; conv => whnf)
      | assumption
      | (refine W.drawn TT_ok hmix1 rfl ?_; conv => whnf)
      | exact absurd (show false = true from h) Bool.false_ne_true
      | exact absurd (show true = false from h) (fun e => Bool.noConfusion e)
      | exact (congrArg Bool.not h)
      | (refine ⟨_, ⟨by first | assumption | decide | omega, by first | assumption | rfl⟩, ?_⟩; conv => whnf)
      | (refine ⟨_, fun _ => ⟨by first | assumption | decide | omega, by first | assumption | rfl⟩, ?_⟩; conv => whnf)
      | exact (rfl : (_ : Nat) = _)
      | exact (rfl : (_ : LV) = _)
      | (refine ⟨fun h => ?_, fun h => ?_⟩ <;> conv => whnf)
      | (refine ⟨?_, ?_⟩ <;> conv => whnf)
      | (intro h; conv => whnf)
      | (refine gand ?_ h; assumption)
    all_goals trace_state
  · skip
    refine .intro (by first | (simp [NLs, NL]; done) | (simp [NLs, NL, nlx]; done)) (.intro TT_ok Try.func4 rfl rfl [0, 1, 2, 3, 4, 5, 8, 9, 10, 11, 12, 13, 14, 15, 16, 49, 57, 62, 71, 82, 89, 98, 101, 125, 128] rfl ?_)
    conv => whnf
    repeat' first
      | with_reducible rfl
      | with_reducible exact True.intro
      | with_reducible assumption
      | exact (Bool.false_ne_true (hz.symm.trans h)).elim
      | exact hat
      | exact (Bool.false_ne_true (h.symm.trans hn)).elim
      | exact (Bool.false_ne_true (hw.symm.trans h)).elim
      | (refine CallP.use (by first | exact (h5) | exact (h9) | exact (h10) | exact (h6) | exact (h7) | exact (h11) | exact (h12a) | exact (h12b) | exact (h8) | exact (h13) | exact (h14) | exact (h15) | exact (h16) | exact (h17) | exact (h18)) ?_; conv => whnf)
      | (refine ⟨_, _, CallP.at (by first | exact (h5) | exact (h9) | exact (h10) | exact (h6) | exact (h7) | exact (h11) | exact (h12a) | exact (h12b) | exact (h8) | exact (h13) | exact (h14) | exact (h15) | exact (h16) | exact (h17) | exact (h18)), ?_⟩; conv => whnf)
      | (refine ⟨_, fun _ => (by first | exact (h5) | exact (h9) | exact (h10) | exact (h6) | exact (h7) | exact (h11) | exact (h12a) | exact (h12b) | exact (h8) | exact (h13) | exact (h14) | exact (h15) | exact (h16) | exact (h17) | exact (h18)), ?_⟩; conv => whnf)
      | assumption
      | (refine W.drawn TT_ok hmix1 rfl ?_; conv => whnf)
      | exact absurd (show false = true from h) Bool.false_ne_true
      | exact absurd (show true = false from h) (fun e => Bool.noConfusion e)
      | exact (congrArg Bool.not h)
      | (refine ⟨_, ⟨by first | assumption | decide | omega, by first | assumption | rfl⟩, ?_⟩; conv => whnf)
      | (refine ⟨_, fun _ => ⟨by first | assumption | decide | omega, by first | assumption | rfl⟩, ?_⟩; conv => whnf)
      | exact (rfl : (_ : Nat) = _)
      | exact (rfl : (_ : LV) = _)
      | (refine ⟨fun h => ?_, fun h => ?_⟩ <;> conv => whnf)
      | (refine ⟨?_, ?_⟩ <;> conv => whnf)
      | (intro h; conv => whnf)
      | (refine gand ?_ h; assumption)
    all_goals trace_state
  · skip
    have hn' : (bif decide (n < 0) then true else decide (2147483647 < n)) = false := by rw [hn1, hn2]; rfl
    refine .intro (by first | (simp [NLs, NL]; done) | (simp [NLs, NL, nlx]; done)) (.intro TT_ok Try.func4 rfl rfl [0, 1, 2, 3, 4, 5, 8, 9, 10, 11, 12, 13, 14, 15, 16, 49, 57, 62, 71, 82, 89, 98, 101, 125, 128] rfl ?_)
    conv => whnf
    repeat' first
      | with_reducible rfl
      | with_reducible exact True.intro
      | with_reducible assumption
      | exact (Bool.false_ne_true (hz.symm.trans h)).elim
      | exact hat
      | exact (Bool.false_ne_true (hn'.symm.trans h)).elim
      | exact (Bool.false_ne_true (hE'.symm.trans h)).elim
      | exact (Bool.false_ne_true (hw.symm.trans h)).elim
      | (refine CallP.use (by first | exact (h5) | exact (h9) | exact (h10) | exact (h6) | exact (h7) | exact (h11) | exact (h12a) | exact (h12b) | exact (h8) | exact (h13) | exact (h14) | exact (h15) | exact (h16) | exact (h17) | exact (h18)) ?_; conv => whnf)
      | (refine ⟨_, _, CallP.at (by first | exact (h5) | exact (h9) | exact (h10) | exact (h6) | exact (h7) | exact (h11) | exact (h12a) | exact (h12b) | exact (h8) | exact (h13) | exact (h14) | exact (h15) | exact (h16) | exact (h17) | exact (h18)), ?_⟩; conv => whnf)
      | (refine ⟨_, fun _ => (by first | exact (h5) | exact (h9) | exact (h10) | exact (h6) | exact (h7) | exact (h11) | exact (h12a) | exact (h12b) | exact (h8) | exact (h13) | exact (h14) | exact (h15) | exact (h16) | exact (h17) | exact (h18)), ?_⟩; conv => whnf)
      | assumption
      | (refine W.drawn TT_ok hmix1 rfl ?_; conv => whnf)
      | exact absurd (show false = true from h) Bool.false_ne_true
      | exact absurd (show true = false from h) (fun e => Bool.noConfusion e)
      | exact (congrArg Bool.not h)
      | (refine ⟨_, ⟨by first | assumption | decide | omega, by first | assumption | rfl⟩, ?_⟩; conv => whnf)
      | (refine ⟨_, fun _ => ⟨by first | assumption | decide | omega, by first | assumption | rfl⟩, ?_⟩; conv => whnf)
      | exact (rfl : (_ : Nat) = _)
      | exact (rfl : (_ : LV) = _)
      | (refine ⟨fun h => ?_, fun h => ?_⟩ <;> conv => whnf)
      | (refine ⟨?_, ?_⟩ <;> conv => whnf)
      | (intro h; conv => whnf)
      | (refine gand ?_ h; assumption)
    all_goals trace_state
theorem c4 (a b : Vc) (n : Int) (l0 : List Vc) : CallP Try.prog 4 [vcL a, vcL b, I n, vcsL l0] (.bool true) := by
  have h5 := c5 l0
  have hl : (l0.take 60).length ≤ 60 := by rw [List.length_take]; omega
  generalize l0.take 60 = l at h5 hl
  cases hr : allR l with
  | false => exact c4A a b n l0 l hl h5 hr
  | true =>
    cases l with
    | nil => exact c4B a b n l0 h5
    | cons x l => exact c4C a b n l0 (x :: l) hl (by rw [List.length_cons]; omega) h5 hr
end Go.RX

