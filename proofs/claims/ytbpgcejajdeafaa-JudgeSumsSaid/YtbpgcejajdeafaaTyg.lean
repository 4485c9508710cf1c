/- Contracts of package judge. -/
import Derived.Test.YtbpgcejajdeafaaTyc
import Derived.Test.YtbpgcejajdeafaaRXy
set_option linter.unusedVariables false
set_option linter.unusedSimpArgs false
open Go Go.RX Go.Proofs
namespace Go.RX
set_option maxRecDepth 10000
set_option maxHeartbeats 2000000
attribute [local irreducible] CallW CallP LoopW W
/-- A copy. -/
structure Cp where
  at_ : Int
  seg : Int
  br : Int
  po : Int
  raw : ByteArray
abbrev Cp.cells (c : Cp) : List LV := [I c.at_, I c.seg, I c.br, I c.po, .str c.raw]
abbrev cpL (c : Cp) : LV := .agg [I c.at_, I c.seg, I c.br, I c.po, .str c.raw]
abbrev copsL (l : List Cp) : LV := .ro 5 (l.map Cp.cells)
abbrev keyL (s : Int) (r : ByteArray) : LV := .agg [I s, .str r]
theorem c29 (c : Cp) : CallP Try.prog 29 [cpL c] (keyL c.seg c.raw) := by
  refine .intro (by first | (simp [NLs, NL]; done) | (simp [NLs, NL, nlx]; done)) (.intro TT_ok Try.func29 rfl rfl [0, 1, 2] rfl ?_)
  conv => whnf
  repeat' first
    | with_reducible rfl
    | with_reducible exact True.intro
    | with_reducible assumption
    | assumption
    | exact absurd (show false = true from h) Bool.false_ne_true
    | exact absurd (show true = false from h) (fun e => Bool.noConfusion e)
    | exact (congrArg Bool.not h)
    | (refine ⟨_, ⟨by first | assumption | decide | omega, by first | assumption | rfl⟩, ?_⟩; conv => whnf)
    | (refine ⟨_, fun _ => ⟨by first | assumption | decide | omega, by first | assumption | rfl⟩, ?_⟩; conv => whnf)
    | exact (rfl : (_ : Nat) = _)
    | exact (rfl : (_ : LV) = _)
    | (refine ⟨fun h => ?_, fun h => ?_⟩ <;> conv => whnf)
    | (refine ⟨?_, ?_⟩ <;> conv => whnf)
    | (intro h; conv => whnf)
    | (refine gand ?_ h; assumption)
  all_goals rfl
theorem c42 (c : Cp) (n : Int) : CallP Try.prog 42 [cpL c, .rptr [I n]] (.bool (bif decide (c.seg < 0) then true else decide (n ≤ c.seg))) := by
  refine .intro (by first | (simp [NLs, NL]; done) | (simp [NLs, NL, nlx]; done)) (.intro TT_ok Try.func42 rfl rfl [0, 1, 2, 3] rfl ?_)
  conv => whnf
  repeat' first
    | with_reducible rfl
    | with_reducible exact True.intro
    | with_reducible assumption
    | assumption
    | exact absurd (show false = true from h) Bool.false_ne_true
    | exact absurd (show true = false from h) (fun e => Bool.noConfusion e)
    | exact (congrArg Bool.not h)
    | (refine ⟨_, ⟨by first | assumption | decide | omega, by first | assumption | rfl⟩, ?_⟩; conv => whnf)
    | (refine ⟨_, fun _ => ⟨by first | assumption | decide | omega, by first | assumption | rfl⟩, ?_⟩; conv => whnf)
    | exact (rfl : (_ : Nat) = _)
    | exact (rfl : (_ : LV) = _)
    | (refine ⟨fun h => ?_, fun h => ?_⟩ <;> conv => whnf)
    | (refine ⟨?_, ?_⟩ <;> conv => whnf)
    | (intro h; conv => whnf)
    | (refine gand ?_ h; assumption)
  all_goals rfl
theorem c31 (n : Int) : CallP Try.prog 31 [I n] (.func (.func 42) [] [.rptr [I n]]) := by
  refine .intro (by first | (simp [NLs, NL]; done) | (simp [NLs, NL, nlx]; done)) (.intro TT_ok Try.func31 rfl rfl [0, 1, 2] rfl ?_)
  conv => whnf
  repeat' first
    | with_reducible rfl
    | with_reducible exact True.intro
    | with_reducible assumption
    | assumption
    | exact absurd (show false = true from h) Bool.false_ne_true
    | exact absurd (show true = false from h) (fun e => Bool.noConfusion e)
    | exact (congrArg Bool.not h)
    | (refine ⟨_, ⟨by first | assumption | decide | omega, by first | assumption | rfl⟩, ?_⟩; conv => whnf)
    | (refine ⟨_, fun _ => ⟨by first | assumption | decide | omega, by first | assumption | rfl⟩, ?_⟩; conv => whnf)
    | exact (rfl : (_ : Nat) = _)
    | exact (rfl : (_ : LV) = _)
    | (refine ⟨fun h => ?_, fun h => ?_⟩ <;> conv => whnf)
    | (refine ⟨?_, ?_⟩ <;> conv => whnf)
    | (intro h; conv => whnf)
    | (refine gand ?_ h; assumption)
  all_goals skip
/-- Is each copy on one of so many segments? -/
def on (n : Int) (l : List Cp) : Prop := ∀ c ∈ l, 0 ≤ c.seg ∧ c.seg < n
abbrev s41 (l : List Cp) (n : Int) (k : Nat) : Slots := [(0, copsL l), (1, .func (.func 42) [] [.rptr [I n]]), (7, I (l.map Cp.cells).length), (8, I k)]
theorem c41 (l : List Cp) (hl : l.length ≤ 1000) (n : Int) (h0 : on n l) : CallP Try.prog 41 [copsL l, .func (.func 42) [] [.rptr [I n]]] (I (-1)) := by
  have hL : (l.map Cp.cells).length = l.length := List.length_map ..
  refine .intro (by first | (simp [NLs, NL]; done) | (simp [NLs, NL, nlx]; done)) (.intro TT_ok Try.func41 rfl rfl [0, 1, 4, 5, 7, 8, 9, 16] rfl ?_)
  conv => whnf
  repeat' first
    | with_reducible rfl
    | with_reducible exact True.intro
    | with_reducible assumption
    | assumption
    | exact absurd (show false = true from h) Bool.false_ne_true
    | exact absurd (show true = false from h) (fun e => Bool.noConfusion e)
    | exact (congrArg Bool.not h)
    | (refine ⟨_, ⟨by first | assumption | decide | omega, by first | assumption | rfl⟩, ?_⟩; conv => whnf)
    | (refine ⟨_, fun _ => ⟨by first | assumption | decide | omega, by first | assumption | rfl⟩, ?_⟩; conv => whnf)
    | exact (rfl : (_ : Nat) = _)
    | exact (rfl : (_ : LV) = _)
    | (refine ⟨fun h => ?_, fun h => ?_⟩ <;> conv => whnf)
    | (refine ⟨?_, ?_⟩ <;> conv => whnf)
    | (intro h; conv => whnf)
    | (refine gand ?_ h; assumption)
  refine LoopW.norm (s41 l n 0) 0 [] ⟨rfl, rfl, rfl, rfl, trivial⟩ trivial ⟨trivial, ⟨trivial, trivial, trivial⟩, trivial, trivial, trivial⟩ rfl ?_
  refine LoopW.ind (α := Nat) (fun k => l.length - k) (fun k s' H => k ≤ l.length ∧ s' = s41 l n k ∧ H = ⟨0, []⟩) ?_ (a := 0) ⟨Nat.zero_le _, rfl, rfl⟩
  rintro k s' H ⟨hk, rfl, rfl⟩ ih
  by_cases hi : k < l.length
  · have hd : decide ((k : Int) < ((l.map Cp.cells).length : Int)) = true := by rw [decide_eq_true_eq]; omega
    have hb : (l.map Cp.cells)[k]? = some l[k].cells := by simp [hi]
    have h42 := c42 l[k] n
    have hdn : (bif decide (l[k].seg < 0) then true else decide (n ≤ l[k].seg)) = false := by
      have := h0 _ (List.getElem_mem hi)
      rw [show decide (l[k].seg < 0) = false by rw [decide_eq_false_iff_not]; omega, cond_false, decide_eq_false_iff_not]; omega
    refine LoopW.round TT_ok [0, 1, 4, 5, 7, 8, 9, 16] ?_
    conv => whnf
    repeat' first
      | with_reducible rfl
      | with_reducible exact True.intro
      | with_reducible assumption
      | exact (Bool.false_ne_true (h.symm.trans hd)).elim
      | exact (Bool.false_ne_true (hdn.symm.trans h)).elim
      | (refine CallP.use (h42) ?_; conv => whnf)
      | (refine ⟨_, _, CallP.at (h42), ?_⟩; conv => whnf)
      | (refine ⟨_, fun _ => h42, ?_⟩; conv => whnf)
      | assumption
      | exact absurd (show false = true from h) Bool.false_ne_true
      | exact absurd (show true = false from h) (fun e => Bool.noConfusion e)
      | exact (congrArg Bool.not h)
      | (refine ⟨_, ⟨by first | assumption | decide | omega, by first | assumption | rfl⟩, ?_⟩; conv => whnf)
      | (refine ⟨_, fun _ => ⟨by first | assumption | decide | omega, by first | assumption | rfl⟩, ?_⟩; conv => whnf)
      | exact (rfl : (_ : Nat) = _)
      | exact (rfl : (_ : LV) = _)
      | (refine ⟨fun h => ?_, fun h => ?_⟩ <;> conv => whnf)
      | (refine ⟨?_, ?_⟩ <;> conv => whnf)
      | (intro h; conv => whnf)
      | (refine gand ?_ h; assumption)
    refine LoopW.norm (s41 l n (k + 1)) 0 [] ⟨rfl, rfl, rfl, congrArg (LV.int .i64) (w64_nat (by omega)), trivial⟩ trivial ⟨trivial, ⟨trivial, trivial, trivial⟩, trivial, trivial, trivial⟩ rfl (ih (k + 1) _ _ ⟨hi, rfl, rfl⟩ (by omega))
  · have hd : decide ((k : Int) < ((l.map Cp.cells).length : Int)) = false := by rw [decide_eq_false_iff_not]; omega
    refine LoopW.round TT_ok [0, 1, 4, 5, 7, 8, 9, 16] ?_
    conv => whnf
    repeat' first
      | with_reducible rfl
      | with_reducible exact True.intro
      | with_reducible assumption
      | exact (Bool.false_ne_true (hd.symm.trans h)).elim
      | assumption
      | exact absurd (show false = true from h) Bool.false_ne_true
      | exact absurd (show true = false from h) (fun e => Bool.noConfusion e)
      | exact (congrArg Bool.not h)
      | (refine ⟨_, ⟨by first | assumption | decide | omega, by first | assumption | rfl⟩, ?_⟩; conv => whnf)
      | (refine ⟨_, fun _ => ⟨by first | assumption | decide | omega, by first | assumption | rfl⟩, ?_⟩; conv => whnf)
      | exact (rfl : (_ : Nat) = _)
      | exact (rfl : (_ : LV) = _)
      | (refine ⟨fun h => ?_, fun h => ?_⟩ <;> conv => whnf)
      | (refine ⟨?_, ?_⟩ <;> conv => whnf)
      | (intro h; conv => whnf)
      | (refine gand ?_ h; assumption)
theorem c30 (l : List Cp) (hl : l.length ≤ 1000) (n : Int) (h0 : on n l) : CallP Try.prog 30 [copsL l, .func (.func 42) [] [.rptr [I n]]] (.bool false) := by
  refine .intro (by first | (simp [NLs, NL]; done) | (simp [NLs, NL, nlx]; done)) (.intro TT_ok Try.func30 rfl rfl [0, 1, 4] rfl ?_)
  conv => whnf
  repeat' first
    | with_reducible rfl
    | with_reducible exact True.intro
    | with_reducible assumption
    | (refine CallP.use ((c41 l hl n h0)) ?_; conv => whnf)
    | (refine ⟨_, _, CallP.at ((c41 l hl n h0)), ?_⟩; conv => whnf)
    | (refine ⟨_, fun _ => (c41 l hl n h0), ?_⟩; conv => whnf)
    | assumption
    | exact absurd (show false = true from h) Bool.false_ne_true
    | exact absurd (show true = false from h) (fun e => Bool.noConfusion e)
    | exact (congrArg Bool.not h)
    | (refine ⟨_, ⟨by first | assumption | decide | omega, by first | assumption | rfl⟩, ?_⟩; conv => whnf)
    | (refine ⟨_, fun _ => ⟨by first | assumption | decide | omega, by first | assumption | rfl⟩, ?_⟩; conv => whnf)
    | exact (rfl : (_ : Nat) = _)
    | exact (rfl : (_ : LV) = _)
    | (refine ⟨fun h => ?_, fun h => ?_⟩ <;> conv => whnf)
    | (refine ⟨?_, ?_⟩ <;> conv => whnf)
    | (intro h; conv => whnf)
    | (refine gand ?_ h; assumption)
  all_goals rfl
end Go.RX

