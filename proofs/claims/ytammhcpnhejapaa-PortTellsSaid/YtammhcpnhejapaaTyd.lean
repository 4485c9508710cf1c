/- Contracts of the document's own functions of layer 10. -/
import Derived.Test.YtammhcpnhejapaaTyc
import Derived.Test.YtammhcpnhejapaaRXu
set_option linter.unusedVariables false
set_option linter.unusedSimpArgs false
open Go Go.RX Go.Proofs
namespace Go.RX
set_option maxRecDepth 10000
set_option maxHeartbeats 1000000
attribute [local irreducible] CallW CallP LoopW W
theorem c23 (s l d : Int) : CallP Try.prog 23 [stL s l, I d] (.bool (pRight s l d)) := by
  refine .intro (by simp [NLs, NL]) (.intro TT_ok Try.func23 rfl rfl [0, 1, 2, 4, 10, 18] rfl ?_)
  conv => whnf
  repeat' first
    | with_reducible rfl
    | with_reducible exact True.intro
    | assumption
    | exact absurd (show false = true from h) Bool.false_ne_true
    | exact absurd (show true = false from h) (fun e => Bool.noConfusion e)
    | exact (congrArg Bool.not h)
    | (refine ⟨_, ⟨by first | assumption | decide | omega, by first | assumption | rfl⟩, ?_⟩; conv => whnf)
    | exact (rfl : (_ : Nat) = _)
    | (refine ⟨fun h => ?_, fun h => ?_⟩ <;> conv => whnf)
    | (refine ⟨?_, ?_⟩ <;> conv => whnf)
    | (intro h; conv => whnf)
  all_goals
    simp only [Bool.cond_true_left, Bool.or_eq_true, Bool.or_eq_false_iff, decide_eq_true_eq, decide_eq_false_iff_not] at *
    rw [Bool.eq_iff_iff]
    simp only [pRight, Bool.cond_true_left, Bool.cond_false_right, Bool.or_eq_true, Bool.and_eq_true, decide_eq_true_eq, Bool.false_eq_true]
    unfold PR
    first | omega | (simp_all; done) | (simp_all; omega)
def qS (s : Int) (a : Bool) : Int := if a = true then (if s = 0 then 1 else s) else 0
def qL (s l d : Int) (a : Bool) : Int := if a = true then (if s = 0 then d else l) else 0
theorem c24 (s l d : Int) (a : Bool) : CallP Try.prog 24 [stL s l, I d, .bool a] (stL (qS s a) (qL s l d a)) := by
  refine .intro (by simp [NLs, NL]) (.intro TT_ok Try.func24 rfl rfl [0, 1, 2, 3, 6, 8, 12] rfl ?_)
  conv => whnf
  repeat' first
    | with_reducible rfl
    | with_reducible exact True.intro
    | assumption
    | exact absurd (show false = true from h) Bool.false_ne_true
    | exact absurd (show true = false from h) (fun e => Bool.noConfusion e)
    | exact (congrArg Bool.not h)
    | (refine ⟨_, ⟨by first | assumption | decide | omega, by first | assumption | rfl⟩, ?_⟩; conv => whnf)
    | exact (rfl : (_ : Nat) = _)
    | (refine ⟨fun h => ?_, fun h => ?_⟩ <;> conv => whnf)
    | (refine ⟨?_, ?_⟩ <;> conv => whnf)
    | (intro h; conv => whnf)
  all_goals (simp_all [qS, qL]; done)
def xS (s l d : Int) : Int := if s ≠ 1 ∧ s ≠ 2 then s else if 1 < l then s else if s = 1 then 2 else 3
def xL (s l d : Int) : Int := if s ≠ 1 ∧ s ≠ 2 then l else if 1 < l then w64 (l - 1) else if s = 1 then d else 0
theorem c25 (s l d : Int) : CallP Try.prog 25 [stL s l, I d] (stL (xS s l d) (xL s l d)) := by
  refine .intro (by simp [NLs, NL]) (.intro TT_ok Try.func25 rfl rfl [0, 1, 2, 4, 12, 16, 25] rfl ?_)
  conv => whnf
  repeat' first
    | with_reducible rfl
    | with_reducible exact True.intro
    | assumption
    | exact absurd (show false = true from h) Bool.false_ne_true
    | exact absurd (show true = false from h) (fun e => Bool.noConfusion e)
    | exact (congrArg Bool.not h)
    | (refine ⟨_, ⟨by first | assumption | decide | omega, by first | assumption | rfl⟩, ?_⟩; conv => whnf)
    | exact (rfl : (_ : Nat) = _)
    | (refine ⟨fun h => ?_, fun h => ?_⟩ <;> conv => whnf)
    | (refine ⟨?_, ?_⟩ <;> conv => whnf)
    | (intro h; conv => whnf)
  all_goals (simp_all [xS, xL] <;> omega)
abbrev s26 (d n : Int) : Slots := [(1, I d), (2, .ptr 0 0 0), (5, I n)]
abbrev l26 (s l : Int) : List (Nat × Blk) := [(0, .row 34 2 [[I s, I l]])]
def rem (s l d : Int) : Int := if s = 1 then d + l else if s = 2 then l else 0
theorem rem_step {s l d : Int} (h : PR s l d) (h0 : s ≠ 0) (h3 : s ≠ 3) : PR (xS s l d) (xL s l d) d ∧ xS s l d ≠ 0 ∧ rem (xS s l d) (xL s l d) d + 1 = rem s l d ∧ 0 ≤ rem (xS s l d) (xL s l d) d := by
  have h' := h
  unfold PR at h'
  have w1 := w64_small (x := l - 1) (by omega) (by omega)
  have e : s = 1 ∨ s = 2 := by omega
  simp only [xS, xL, rem, w1]
  unfold PR
  rcases e with rfl | rfl
  · rcases Decidable.em (1 < l) with hl | hl
    · simp [hl]; omega
    · have : ¬ 1 < l := hl
      simp [this]; omega
  · rcases Decidable.em (1 < l) with hl | hl
    · simp [hl]; omega
    · have : ¬ 1 < l := hl
      simp [this]; omega
theorem lN_small {s l d : Int} (h : PR s l d) : lN s l d ≤ 90 := by
  have h' := h
  unfold PR at h'
  simp only [lN, h, if_true]
  split
  · omega
  · split <;> omega
theorem rem_start {s l d : Int} (h : PR s l d) : PR (qS s true) (qL s l d true) d ∧ qS s true ≠ 0 ∧ rem (qS s true) (qL s l d true) d = lN s l d := by
  have h' := h
  unfold PR at h'
  simp only [lN, h, if_true, qS, qL, rem]
  unfold PR
  rcases h' with ⟨rfl | rfl, _⟩ | ⟨rfl | rfl, _⟩ <;> simp <;> omega
theorem c26 (s l d : Int) (h0 : PR s l d) : CallP Try.prog 26 [stL s l, I d] (I (lN s l d)) := by
  refine .intro (by simp [NLs, NL]) (.intro TT_ok Try.func26 rfl rfl [0, 1, 2, 4, 5, 11] rfl ?_)
  conv => whnf
  repeat' first
    | with_reducible rfl
    | with_reducible exact True.intro
    | assumption
    | (refine CallP.use (c24 _ _ _ _) ?_; conv => whnf)
    | (refine ⟨_, fun _ => c24 _ _ _ _, ?_⟩; conv => whnf)
    | exact absurd (show false = true from h) Bool.false_ne_true
    | exact absurd (show true = false from h) (fun e => Bool.noConfusion e)
    | exact (congrArg Bool.not h)
    | (refine ⟨_, ⟨by first | assumption | decide | omega, by first | assumption | rfl⟩, ?_⟩; conv => whnf)
    | exact (rfl : (_ : Nat) = _)
    | (refine ⟨fun h => ?_, fun h => ?_⟩ <;> conv => whnf)
    | (refine ⟨?_, ?_⟩ <;> conv => whnf)
    | (intro h; conv => whnf)
  refine LoopW.norm (s26 d 0) 1 (l26 (qS s true) (qL s l d true)) ⟨rfl, rfl, rfl, trivial⟩ ⟨⟨rfl, rfl, ⟨⟨trivial, trivial, trivial⟩, trivial⟩⟩, trivial⟩ ⟨trivial, rfl, trivial, trivial⟩ rfl ?_
  refine LoopW.ind (α := Int × Int × Int) (fun a => (rem a.1 a.2.1 d).toNat) (fun a s' H => (PR a.1 a.2.1 d ∧ a.1 ≠ 0 ∧ 0 ≤ a.2.2 ∧ a.2.2 + rem a.1 a.2.1 d = lN s l d) ∧ s' = s26 d a.2.2 ∧ H = ⟨1, l26 a.1 a.2.1⟩) ?_ (a := (qS s true, qL s l d true, 0)) ⟨?_, rfl, rfl⟩
  · rintro ⟨s1, l1, n1⟩ s' H ⟨hI, rfl, rfl⟩ ih
    refine LoopW.round TT_ok [0, 1, 2, 4, 5, 11] ?_
    conv => whnf
    repeat' first
      | with_reducible rfl
      | with_reducible exact True.intro
      | assumption
      | (refine CallP.use (c25 _ _ _) ?_; conv => whnf)
      | (refine ⟨_, fun _ => c25 _ _ _, ?_⟩; conv => whnf)
      | exact absurd (show false = true from h) Bool.false_ne_true
      | exact absurd (show true = false from h) (fun e => Bool.noConfusion e)
      | exact (congrArg Bool.not h)
      | (refine ⟨_, ⟨by first | assumption | decide | omega, by first | assumption | rfl⟩, ?_⟩; conv => whnf)
      | exact (rfl : (_ : Nat) = _)
      | (refine ⟨fun h => ?_, fun h => ?_⟩ <;> conv => whnf)
      | (refine ⟨?_, ?_⟩ <;> conv => whnf)
      | (intro h; conv => whnf)
    · obtain ⟨h1, h2, h3, h4⟩ := hI
      simp only at h1 h2 h3 h4
      have e : s1 ≠ 3 := by simpa using h
      obtain ⟨r1, r2, r3, r4⟩ := rem_step h1 h2 e
      have := lN_small h0
      have w := w64_small (x := n1 + 1) (by omega) (by omega)
      refine LoopW.norm (s26 d (w64 (n1 + 1))) 1 (l26 (xS s1 l1 d) (xL s1 l1 d)) ⟨rfl, rfl, rfl, trivial⟩ ⟨⟨rfl, rfl, ⟨⟨trivial, trivial, trivial⟩, trivial⟩⟩, trivial⟩ ⟨trivial, rfl, trivial, trivial⟩ rfl (ih (xS s1 l1 d, xL s1 l1 d, w64 (n1 + 1)) _ _ ⟨⟨r1, r2, ?_, ?_⟩, rfl, rfl⟩ ?_)
      · show 0 ≤ w64 (n1 + 1); omega
      · show w64 (n1 + 1) + rem (xS s1 l1 d) (xL s1 l1 d) d = lN s l d; omega
      · show (rem (xS s1 l1 d) (xL s1 l1 d) d).toNat < (rem s1 l1 d).toNat; omega
    · obtain ⟨h1, h2, h3, h4⟩ := hI
      simp only at h1 h2 h3 h4
      have e : s1 = 3 := by simpa using h
      subst e
      have e0 : rem 3 l1 d = 0 := rfl
      show n1 = lN s l d
      omega
  · obtain ⟨r1, r2, r3⟩ := rem_start h0
    exact ⟨r1, r2, Int.le_refl 0, by show 0 + rem (qS s true) (qL s l d true) d = lN s l d; omega⟩
end Go.RX

