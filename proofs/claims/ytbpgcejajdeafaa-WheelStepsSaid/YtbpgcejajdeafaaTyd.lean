/- Contracts of wheel.Advance, wheel.Next, and the laws' alive. -/
import Derived.Test.YtbpgcejajdeafaaTyc
set_option linter.unusedVariables false
set_option linter.unusedSimpArgs false
open Go Go.RX Go.Proofs
namespace Go.RX
set_option maxRecDepth 10000
set_option maxHeartbeats 2000000
attribute [local irreducible] CallW CallP LoopW W IntKind.wrap
theorem c33 (t : Tm) (now : Int) : CallP Try.prog 33 [tL t, .rptr [I now]] (.bool (decide (now < t.at_))) := by
  refine .intro (by first | (simp [NLs, NL]; done) | (simp [NLs, NL, nlx]; done)) (.intro TT_ok Try.func33 rfl rfl [0, 1, 2, 3] rfl ?_)
  conv => whnf
  repeat' first
    | with_reducible rfl
    | with_reducible exact True.intro
    | with_reducible assumption
    | assumption
    | exact absurd (show false = true from h) Bool.false_ne_true
    | exact absurd (show true = false from h) (fun e => Bool.noConfusion e)
    | exact (congrArg Bool.not h)
    | (refine ⟨_, ⟨by first | assumption | decide | omega, by first | assumption | rfl⟩, ?_⟩; conv => whnf)
    | (refine ⟨_, fun _ => ⟨by first | assumption | decide | omega, by first | assumption | rfl⟩, ?_⟩; conv => whnf)
    | exact (rfl : (_ : Nat) = _)
    | exact (rfl : (_ : LV) = _)
    | (refine ⟨fun h => ?_, fun h => ?_⟩ <;> conv => whnf)
    | (refine ⟨?_, ?_⟩ <;> conv => whnf)
    | (intro h; conv => whnf)
    | (refine gand ?_ h; assumption)
  all_goals rfl
/-- How many are due: till the first that is later. -/
def kD (l : List Tm) (now : Int) : Nat := l.findIdx fun t => decide (now < t.at_)
theorem kD_le (l : List Tm) (now : Int) : kD l now ≤ l.length := List.findIdx_le_length
abbrev s32 (l : List Tm) (now : Int) (k : Nat) : Slots := [(0, tmsL l), (1, .func (.func 33) [] [.rptr [I now]]), (7, I (l.map Tm.cells).length), (8, I k)]
theorem c32 (l : List Tm) (hl : l.length ≤ 1000) (now : Int) : CallP Try.prog 32 [tmsL l, .func (.func 33) [] [.rptr [I now]]] (I (if kD l now < l.length then (kD l now : Int) else -1)) := by
  have hL : (l.map Tm.cells).length = l.length := List.length_map ..
  refine .intro (by first | (simp [NLs, NL]; done) | (simp [NLs, NL, nlx]; done)) (.intro TT_ok Try.func32 rfl rfl [0, 1, 4, 5, 7, 8, 9, 16] rfl ?_)
  conv => whnf
  repeat' first
    | with_reducible rfl
    | with_reducible exact True.intro
    | with_reducible assumption
    | assumption
    | exact absurd (show false = true from h) Bool.false_ne_true
    | exact absurd (show true = false from h) (fun e => Bool.noConfusion e)
    | exact (congrArg Bool.not h)
    | (refine ⟨_, ⟨by first | assumption | decide | omega, by first | assumption | rfl⟩, ?_⟩; conv => whnf)
    | (refine ⟨_, fun _ => ⟨by first | assumption | decide | omega, by first | assumption | rfl⟩, ?_⟩; conv => whnf)
    | exact (rfl : (_ : Nat) = _)
    | exact (rfl : (_ : LV) = _)
    | (refine ⟨fun h => ?_, fun h => ?_⟩ <;> conv => whnf)
    | (refine ⟨?_, ?_⟩ <;> conv => whnf)
    | (intro h; conv => whnf)
    | (refine gand ?_ h; assumption)
  refine LoopW.norm (s32 l now 0) 0 [] ⟨rfl, rfl, rfl, rfl, trivial⟩ trivial ⟨trivial, ⟨trivial, trivial, trivial⟩, trivial, trivial, trivial⟩ rfl ?_
  refine LoopW.ind (α := Nat) (fun k => l.length - k) (fun k s' H => (k ≤ l.length ∧ k ≤ kD l now) ∧ s' = s32 l now k ∧ H = ⟨0, []⟩) ?_ (a := 0) ⟨⟨Nat.zero_le _, Nat.zero_le _⟩, rfl, rfl⟩
  rintro k s' H ⟨⟨hk, hkd⟩, rfl, rfl⟩ ih
  by_cases hi : k < l.length
  · have hd : decide ((k : Int) < ((l.map Tm.cells).length : Int)) = true := by rw [decide_eq_true_eq]; omega
    have hb : (l.map Tm.cells)[k]? = some [I l[k].id, I l[k].at_] := by simp [hi]
    have h33 := c33 l[k] now
    by_cases hn : now < l[k].at_
    · have hdn : decide (now < l[k].at_) = true := by simpa using hn
      have hkk : kD l now = k := by
        refine Nat.le_antisymm ?_ hkd
        exact Nat.not_lt.1 fun h => by
          have := List.not_of_lt_findIdx h
          simp only [decide_eq_false_iff_not] at this
          exact this hn
      refine LoopW.round TT_ok [0, 1, 4, 5, 7, 8, 9, 16] ?_
      conv => whnf
      repeat' first
        | with_reducible rfl
        | with_reducible exact True.intro
        | with_reducible assumption
        | exact (Bool.false_ne_true (h.symm.trans hd)).elim
        | exact (Bool.false_ne_true (h.symm.trans hdn)).elim
        | (refine CallP.use (h33) ?_; conv => whnf)
        | (refine ⟨_, fun _ => h33, ?_⟩; conv => whnf)
        | assumption
        | exact absurd (show false = true from h) Bool.false_ne_true
        | exact absurd (show true = false from h) (fun e => Bool.noConfusion e)
        | exact (congrArg Bool.not h)
        | (refine ⟨_, ⟨by first | assumption | decide | omega, by first | assumption | rfl⟩, ?_⟩; conv => whnf)
        | (refine ⟨_, fun _ => ⟨by first | assumption | decide | omega, by first | assumption | rfl⟩, ?_⟩; conv => whnf)
        | exact (rfl : (_ : Nat) = _)
        | exact (rfl : (_ : LV) = _)
        | (refine ⟨fun h => ?_, fun h => ?_⟩ <;> conv => whnf)
        | (refine ⟨?_, ?_⟩ <;> conv => whnf)
        | (intro h; conv => whnf)
        | (refine gand ?_ h; assumption)
      all_goals (rw [hkk, if_pos hi])
    · have hdn : decide (now < l[k].at_) = false := by simpa using hn
      have hk1 : k + 1 ≤ kD l now := by
        rcases Nat.lt_or_ge k (kD l now) with h | h
        · exact h
        · exfalso
          have hkk : kD l now = k := Nat.le_antisymm h hkd
          have h1 : (decide (now < l[kD l now].at_)) = true := List.findIdx_getElem (w := by show kD l now < _; omega)
          simp only [hkk, decide_eq_true_eq] at h1
          exact hn h1
      refine LoopW.round TT_ok [0, 1, 4, 5, 7, 8, 9, 16] ?_
      conv => whnf
      repeat' first
        | with_reducible rfl
        | with_reducible exact True.intro
        | with_reducible assumption
        | exact (Bool.false_ne_true (h.symm.trans hd)).elim
        | exact (Bool.false_ne_true (hdn.symm.trans h)).elim
        | (refine CallP.use (h33) ?_; conv => whnf)
        | (refine ⟨_, fun _ => h33, ?_⟩; conv => whnf)
        | assumption
        | exact absurd (show false = true from h) Bool.false_ne_true
        | exact absurd (show true = false from h) (fun e => Bool.noConfusion e)
        | exact (congrArg Bool.not h)
        | (refine ⟨_, ⟨by first | assumption | decide | omega, by first | assumption | rfl⟩, ?_⟩; conv => whnf)
        | (refine ⟨_, fun _ => ⟨by first | assumption | decide | omega, by first | assumption | rfl⟩, ?_⟩; conv => whnf)
        | exact (rfl : (_ : Nat) = _)
        | exact (rfl : (_ : LV) = _)
        | (refine ⟨fun h => ?_, fun h => ?_⟩ <;> conv => whnf)
        | (refine ⟨?_, ?_⟩ <;> conv => whnf)
        | (intro h; conv => whnf)
        | (refine gand ?_ h; assumption)
      refine LoopW.norm (s32 l now (k + 1)) 0 [] ⟨rfl, rfl, rfl, congrArg (LV.int .i64) (w64_nat (by omega)), trivial⟩ trivial ⟨trivial, ⟨trivial, trivial, trivial⟩, trivial, trivial, trivial⟩ rfl (ih (k + 1) _ _ ⟨⟨hi, hk1⟩, rfl, rfl⟩ (by omega))
  · have hd : decide ((k : Int) < ((l.map Tm.cells).length : Int)) = false := by rw [decide_eq_false_iff_not]; omega
    refine LoopW.round TT_ok [0, 1, 4, 5, 7, 8, 9, 16] ?_
    conv => whnf
    repeat' first
      | with_reducible rfl
      | with_reducible exact True.intro
      | with_reducible assumption
      | exact (Bool.false_ne_true (hd.symm.trans h)).elim
      | assumption
      | exact absurd (show false = true from h) Bool.false_ne_true
      | exact absurd (show true = false from h) (fun e => Bool.noConfusion e)
      | exact (congrArg Bool.not h)
      | (refine ⟨_, ⟨by first | assumption | decide | omega, by first | assumption | rfl⟩, ?_⟩; conv => whnf)
      | (refine ⟨_, fun _ => ⟨by first | assumption | decide | omega, by first | assumption | rfl⟩, ?_⟩; conv => whnf)
      | exact (rfl : (_ : Nat) = _)
      | exact (rfl : (_ : LV) = _)
      | (refine ⟨fun h => ?_, fun h => ?_⟩ <;> conv => whnf)
      | (refine ⟨?_, ?_⟩ <;> conv => whnf)
      | (intro h; conv => whnf)
      | (refine gand ?_ h; assumption)
    rw [if_neg (by omega)]
theorem nn {a b : Int} (h : b ≤ a) : (a - b).NonNeg := h
theorem rOk_len {l : List Tm} (h : rOk l = true) : l.length ≤ 64 := by
  have := (Bool.and_eq_true_iff.1 h).2
  rw [decide_eq_true_eq] at this
  omega
theorem c14e (l : List Tm) (hl : l.length ≤ 1000) (h0 : rOk l = false) (now : Int) : CallP Try.prog 14 [tmsL l, I now] (.tup [.nils, .nils, I 1]) := by
  have h17 := c17 l hl
  rw [h0] at h17
  refine .intro (by first | (simp [NLs, NL]; done) | (simp [NLs, NL, nlx]; done)) (.intro TT_ok Try.func14 rfl rfl [0, 1, 3, 4, 5, 6, 7, 18, 23] rfl ?_)
  conv => whnf
  repeat' first
    | with_reducible rfl
    | with_reducible exact True.intro
    | with_reducible assumption
    | exact (Bool.false_ne_true (h.symm.trans rfl)).elim
    | (refine CallP.use (h17) ?_; conv => whnf)
    | (refine ⟨_, fun _ => h17, ?_⟩; conv => whnf)
    | assumption
    | (refine W.drawn TT_ok hmix1 rfl ?_; conv => whnf)
    | exact absurd (show false = true from h) Bool.false_ne_true
    | exact absurd (show true = false from h) (fun e => Bool.noConfusion e)
    | exact (congrArg Bool.not h)
    | (refine ⟨_, ⟨by first | assumption | decide | omega, by first | assumption | rfl⟩, ?_⟩; conv => whnf)
    | (refine ⟨_, fun _ => ⟨by first | assumption | decide | omega, by first | assumption | rfl⟩, ?_⟩; conv => whnf)
    | exact (rfl : (_ : Nat) = _)
    | exact (rfl : (_ : LV) = _)
    | (refine ⟨fun h => ?_, fun h => ?_⟩ <;> conv => whnf)
    | (refine ⟨?_, ?_⟩ <;> conv => whnf)
    | (intro h; conv => whnf)
    | (refine gand ?_ h; assumption)
theorem c14 (l : List Tm) (h0 : rOk l = true) (now : Int) (hn : 0 ≤ now ∧ now ≤ 1099511627776) : CallP Try.prog 14 [tmsL l, I now] (.tup [tmsL (l.drop (kD l now)), tmsL (l.take (kD l now)), I 0]) := by
  have hl := rOk_len h0
  have h17 := c17 l (by omega)
  rw [h0] at h17
  have h32 := c32 l (by omega) now
  have hC : (bif decide (now < 0) then true else decide (1099511627776 < now)) = false := by
    rw [show decide (now < 0) = false by rw [decide_eq_false_iff_not]; omega, cond_false, decide_eq_false_iff_not]; omega
  have hk := kD_le l now
  have hL : (l.map Tm.cells).length = l.length := List.length_map ..
  by_cases hkl : kD l now < l.length
  · rw [if_pos hkl] at h32
    have hd : decide ((kD l now : Int) < 0) = false := by rw [decide_eq_false_iff_not]; omega
    refine .intro (by first | (simp [NLs, NL]; done) | (simp [NLs, NL, nlx]; done)) (.intro TT_ok Try.func14 rfl rfl [0, 1, 3, 4, 5, 6, 7, 18, 23] rfl ?_)
    conv => whnf
    repeat' first
      | with_reducible rfl
      | with_reducible exact True.intro
      | with_reducible assumption
      | exact (Bool.false_ne_true (hC.symm.trans h)).elim
      | exact (Bool.false_ne_true (hd.symm.trans h)).elim
      | (refine CallP.use (h17) ?_; conv => whnf)
      | (refine ⟨_, fun _ => h17, ?_⟩; conv => whnf)
      | (refine CallP.use (h32) ?_; conv => whnf)
      | (refine ⟨_, fun _ => h32, ?_⟩; conv => whnf)
      | assumption
      | (refine W.drawn TT_ok hmix1 rfl ?_; conv => whnf)
      | exact absurd (show false = true from h) Bool.false_ne_true
      | exact absurd (show true = false from h) (fun e => Bool.noConfusion e)
      | exact (congrArg Bool.not h)
      | (refine ⟨_, ⟨by first | assumption | decide | omega, by first | assumption | rfl⟩, ?_⟩; conv => whnf)
      | (refine ⟨_, fun _ => ⟨by first | assumption | decide | omega, by first | assumption | rfl⟩, ?_⟩; conv => whnf)
      | exact (rfl : (_ : Nat) = _)
      | exact (rfl : (_ : LV) = _)
      | (refine ⟨fun h => ?_, fun h => ?_⟩ <;> conv => whnf)
      | (refine ⟨?_, ?_⟩ <;> conv => whnf)
      | (intro h; conv => whnf)
      | (refine gand ?_ h; assumption)
    all_goals first | exact nn (by rw [hL]; omega) | exact nn (by omega) | (rw [Int.toNat_natCast, List.map_drop]) | (rw [Int.toNat_natCast, List.map_take])
  · rw [if_neg hkl] at h32
    have hkk : kD l now = l.length := by omega
    refine .intro (by first | (simp [NLs, NL]; done) | (simp [NLs, NL, nlx]; done)) (.intro TT_ok Try.func14 rfl rfl [0, 1, 3, 4, 5, 6, 7, 18, 23] rfl ?_)
    conv => whnf
    repeat' first
      | with_reducible rfl
      | with_reducible exact True.intro
      | with_reducible assumption
      | exact (Bool.false_ne_true (hC.symm.trans h)).elim
      | (refine CallP.use (h17) ?_; conv => whnf)
      | (refine ⟨_, fun _ => h17, ?_⟩; conv => whnf)
      | (refine CallP.use (h32) ?_; conv => whnf)
      | (refine ⟨_, fun _ => h32, ?_⟩; conv => whnf)
      | assumption
      | (refine W.drawn TT_ok hmix1 rfl ?_; conv => whnf)
      | exact absurd (show false = true from h) Bool.false_ne_true
      | exact absurd (show true = false from h) (fun e => Bool.noConfusion e)
      | exact (congrArg Bool.not h)
      | (refine ⟨_, ⟨by first | assumption | decide | omega, by first | assumption | rfl⟩, ?_⟩; conv => whnf)
      | (refine ⟨_, fun _ => ⟨by first | assumption | decide | omega, by first | assumption | rfl⟩, ?_⟩; conv => whnf)
      | exact (rfl : (_ : Nat) = _)
      | exact (rfl : (_ : LV) = _)
      | (refine ⟨fun h => ?_, fun h => ?_⟩ <;> conv => whnf)
      | (refine ⟨?_, ?_⟩ <;> conv => whnf)
      | (intro h; conv => whnf)
      | (refine gand ?_ h; assumption)
    all_goals first | exact nn (by rw [hL]; omega) | exact nn (by omega) | (rw [Int.toNat_natCast, List.map_drop, hkk, hL]) | (rw [Int.toNat_natCast, List.map_take, hkk, hL])
theorem c18e (l : List Tm) (hl : l.length ≤ 1000) (h0 : rOk l = false) : CallP Try.prog 18 [tmsL l] (.tup [I 0, I 1]) := by
  have h17 := c17 l hl
  rw [h0] at h17
  refine .intro (by first | (simp [NLs, NL]; done) | (simp [NLs, NL, nlx]; done)) (.intro TT_ok Try.func18 rfl rfl [0, 2, 3, 4, 8] rfl ?_)
  conv => whnf
  repeat' first
    | with_reducible rfl
    | with_reducible exact True.intro
    | with_reducible assumption
    | (refine CallP.use (h17) ?_; conv => whnf)
    | (refine ⟨_, fun _ => h17, ?_⟩; conv => whnf)
    | assumption
    | exact absurd (show false = true from h) Bool.false_ne_true
    | exact absurd (show true = false from h) (fun e => Bool.noConfusion e)
    | exact (congrArg Bool.not h)
    | (refine ⟨_, ⟨by first | assumption | decide | omega, by first | assumption | rfl⟩, ?_⟩; conv => whnf)
    | (refine ⟨_, fun _ => ⟨by first | assumption | decide | omega, by first | assumption | rfl⟩, ?_⟩; conv => whnf)
    | exact (rfl : (_ : Nat) = _)
    | exact (rfl : (_ : LV) = _)
    | (refine ⟨fun h => ?_, fun h => ?_⟩ <;> conv => whnf)
    | (refine ⟨?_, ?_⟩ <;> conv => whnf)
    | (intro h; conv => whnf)
    | (refine gand ?_ h; assumption)
theorem c18n : CallP Try.prog 18 [tmsL []] (.tup [I 0, I 4]) := by
  have h17 := c17 [] (by decide)
  rw [show rOk [] = true from rfl] at h17
  refine .intro (by first | (simp [NLs, NL]; done) | (simp [NLs, NL, nlx]; done)) (.intro TT_ok Try.func18 rfl rfl [0, 2, 3, 4, 8] rfl ?_)
  conv => whnf
  repeat' first
    | with_reducible rfl
    | with_reducible exact True.intro
    | with_reducible assumption
    | (refine CallP.use (h17) ?_; conv => whnf)
    | (refine ⟨_, fun _ => h17, ?_⟩; conv => whnf)
    | assumption
    | exact absurd (show false = true from h) Bool.false_ne_true
    | exact absurd (show true = false from h) (fun e => Bool.noConfusion e)
    | exact (congrArg Bool.not h)
    | (refine ⟨_, ⟨by first | assumption | decide | omega, by first | assumption | rfl⟩, ?_⟩; conv => whnf)
    | (refine ⟨_, fun _ => ⟨by first | assumption | decide | omega, by first | assumption | rfl⟩, ?_⟩; conv => whnf)
    | exact (rfl : (_ : Nat) = _)
    | exact (rfl : (_ : LV) = _)
    | (refine ⟨fun h => ?_, fun h => ?_⟩ <;> conv => whnf)
    | (refine ⟨?_, ?_⟩ <;> conv => whnf)
    | (intro h; conv => whnf)
    | (refine gand ?_ h; assumption)
theorem c18 (t : Tm) (l : List Tm) (h0 : rOk (t :: l) = true) : CallP Try.prog 18 [tmsL (t :: l)] (.tup [I t.at_, I 0]) := by
  have hl := rOk_len h0
  have h17 := c17 (t :: l) (by omega)
  rw [h0] at h17
  have hd : decide ((((t :: l).map Tm.cells).length : Int) = 0) = false := by rw [decide_eq_false_iff_not]; simp only [List.length_map, List.length_cons]; omega
  refine .intro (by first | (simp [NLs, NL]; done) | (simp [NLs, NL, nlx]; done)) (.intro TT_ok Try.func18 rfl rfl [0, 2, 3, 4, 8] rfl ?_)
  conv => whnf
  repeat' first
    | with_reducible rfl
    | with_reducible exact True.intro
    | with_reducible assumption
    | exact (Bool.false_ne_true (hd.symm.trans h)).elim
    | (refine CallP.use (h17) ?_; conv => whnf)
    | (refine ⟨_, fun _ => h17, ?_⟩; conv => whnf)
    | assumption
    | exact absurd (show false = true from h) Bool.false_ne_true
    | exact absurd (show true = false from h) (fun e => Bool.noConfusion e)
    | exact (congrArg Bool.not h)
    | (refine ⟨_, ⟨by first | assumption | decide | omega, by first | assumption | rfl⟩, ?_⟩; conv => whnf)
    | (refine ⟨_, fun _ => ⟨by first | assumption | decide | omega, by first | assumption | rfl⟩, ?_⟩; conv => whnf)
    | exact (rfl : (_ : Nat) = _)
    | exact (rfl : (_ : LV) = _)
    | (refine ⟨fun h => ?_, fun h => ?_⟩ <;> conv => whnf)
    | (refine ⟨?_, ?_⟩ <;> conv => whnf)
    | (intro h; conv => whnf)
    | (refine gand ?_ h; assumption)
abbrev s16 (l : List Tm) (k : Nat) : Slots := [(0, tmsL l), (1, tmsL l), (12, I (l.map Tm.cells).length), (13, I k)]
theorem c16 (l : List Tm) (hl : l.length ≤ 1000) : CallP Try.prog 16 [tmsL l, tmsL l] (.bool true) := by
  have hn : decide (((l.map Tm.cells).length : Int) = ((l.map Tm.cells).length : Int)) = true := by simp
  have hL : (l.map Tm.cells).length = l.length := List.length_map ..
  refine .intro (by first | (simp [NLs, NL]; done) | (simp [NLs, NL, nlx]; done)) (.intro TT_ok Try.func16 rfl rfl [0, 1, 4, 5, 10, 12, 13, 14, 24] rfl ?_)
  conv => whnf
  repeat' first
    | with_reducible rfl
    | with_reducible exact True.intro
    | with_reducible assumption
    | (exfalso; revert h; simp; done)
    | assumption
    | (refine W.drawn TT_ok hmix1 rfl ?_; conv => whnf)
    | exact absurd (show false = true from h) Bool.false_ne_true
    | exact absurd (show true = false from h) (fun e => Bool.noConfusion e)
    | exact (congrArg Bool.not h)
    | (refine ⟨_, ⟨by first | assumption | decide | omega, by first | assumption | rfl⟩, ?_⟩; conv => whnf)
    | (refine ⟨_, fun _ => ⟨by first | assumption | decide | omega, by first | assumption | rfl⟩, ?_⟩; conv => whnf)
    | exact (rfl : (_ : Nat) = _)
    | exact (rfl : (_ : LV) = _)
    | (refine ⟨fun h => ?_, fun h => ?_⟩ <;> conv => whnf)
    | (refine ⟨?_, ?_⟩ <;> conv => whnf)
    | (intro h; conv => whnf)
    | (refine gand ?_ h; assumption)
  refine LoopW.norm (s16 l 0) 0 [] ⟨rfl, rfl, rfl, rfl, trivial⟩ trivial ⟨trivial, trivial, trivial, trivial, trivial⟩ rfl ?_
  refine LoopW.ind (α := Nat) (fun k => l.length - k) (fun k s' H => k ≤ l.length ∧ s' = s16 l k ∧ H = ⟨0, []⟩) ?_ (a := 0) ⟨Nat.zero_le _, rfl, rfl⟩
  rintro k s' H ⟨hk, rfl, rfl⟩ ih
  by_cases hi : k < l.length
  · have hd : decide ((k : Int) < ((l.map Tm.cells).length : Int)) = true := by rw [decide_eq_true_eq]; omega
    have hb : (l.map Tm.cells)[k]? = some [I l[k].id, I l[k].at_] := by simp [hi]
    refine LoopW.round TT_ok [0, 1, 4, 5, 10, 12, 13, 14, 24] ?_
    conv => whnf
    repeat' first
      | with_reducible rfl
      | with_reducible exact True.intro
      | with_reducible assumption
      | exact (Bool.false_ne_true (h.symm.trans hd)).elim
      | (exfalso; revert h; simp; done)
      | assumption
      | (refine W.drawn TT_ok hmix1 rfl ?_; conv => whnf)
      | exact absurd (show false = true from h) Bool.false_ne_true
      | exact absurd (show true = false from h) (fun e => Bool.noConfusion e)
      | exact (congrArg Bool.not h)
      | (refine ⟨_, ⟨by first | assumption | decide | omega, by first | assumption | rfl⟩, ?_⟩; conv => whnf)
      | (refine ⟨_, fun _ => ⟨by first | assumption | decide | omega, by first | assumption | rfl⟩, ?_⟩; conv => whnf)
      | exact (rfl : (_ : Nat) = _)
      | exact (rfl : (_ : LV) = _)
      | (refine ⟨fun h => ?_, fun h => ?_⟩ <;> conv => whnf)
      | (refine ⟨?_, ?_⟩ <;> conv => whnf)
      | (intro h; conv => whnf)
      | (refine gand ?_ h; assumption)
    refine LoopW.norm (s16 l (k + 1)) 0 [] ⟨rfl, rfl, rfl, congrArg (LV.int .i64) (w64_nat (by omega)), trivial⟩ trivial ⟨trivial, trivial, trivial, trivial, trivial⟩ rfl (ih (k + 1) _ _ ⟨hi, rfl, rfl⟩ (by omega))
  · have hd : decide ((k : Int) < ((l.map Tm.cells).length : Int)) = false := by rw [decide_eq_false_iff_not]; omega
    refine LoopW.round TT_ok [0, 1, 4, 5, 10, 12, 13, 14, 24] ?_
    conv => whnf
    repeat' first
      | with_reducible rfl
      | with_reducible exact True.intro
      | with_reducible assumption
      | exact (Bool.false_ne_true (hd.symm.trans h)).elim
      | assumption
      | (refine W.drawn TT_ok hmix1 rfl ?_; conv => whnf)
      | exact absurd (show false = true from h) Bool.false_ne_true
      | exact absurd (show true = false from h) (fun e => Bool.noConfusion e)
      | exact (congrArg Bool.not h)
      | (refine ⟨_, ⟨by first | assumption | decide | omega, by first | assumption | rfl⟩, ?_⟩; conv => whnf)
      | (refine ⟨_, fun _ => ⟨by first | assumption | decide | omega, by first | assumption | rfl⟩, ?_⟩; conv => whnf)
      | exact (rfl : (_ : Nat) = _)
      | exact (rfl : (_ : LV) = _)
      | (refine ⟨fun h => ?_, fun h => ?_⟩ <;> conv => whnf)
      | (refine ⟨?_, ?_⟩ <;> conv => whnf)
      | (intro h; conv => whnf)
      | (refine gand ?_ h; assumption)
theorem c15 : CallP Try.prog 15 [] (.bool true) := by
  have h14 := c14 [⟨7, 3⟩, ⟨2, 5⟩] (by decide) 4 (by decide)
  have ha := c16 [⟨2, 5⟩] (by decide)
  have hb := c16 [⟨7, 3⟩] (by decide)
  refine .intro (by first | (simp [NLs, NL]; done) | (simp [NLs, NL, nlx]; done)) (.intro TT_ok Try.func15 rfl rfl [0, 1, 2, 3] rfl ?_)
  conv => whnf
  repeat' first
    | with_reducible rfl
    | with_reducible exact True.intro
    | with_reducible assumption
    | (refine CallP.use (h14) ?_; conv => whnf)
    | (refine ⟨_, fun _ => h14, ?_⟩; conv => whnf)
    | (refine CallP.use (ha) ?_; conv => whnf)
    | (refine ⟨_, fun _ => ha, ?_⟩; conv => whnf)
    | (refine CallP.use (hb) ?_; conv => whnf)
    | (refine ⟨_, fun _ => hb, ?_⟩; conv => whnf)
    | assumption
    | exact absurd (show false = true from h) Bool.false_ne_true
    | exact absurd (show true = false from h) (fun e => Bool.noConfusion e)
    | exact (congrArg Bool.not h)
    | (refine ⟨_, ⟨by first | assumption | decide | omega, by first | assumption | rfl⟩, ?_⟩; conv => whnf)
    | (refine ⟨_, fun _ => ⟨by first | assumption | decide | omega, by first | assumption | rfl⟩, ?_⟩; conv => whnf)
    | exact (rfl : (_ : Nat) = _)
    | exact (rfl : (_ : LV) = _)
    | (refine ⟨fun h => ?_, fun h => ?_⟩ <;> conv => whnf)
    | (refine ⟨?_, ?_⟩ <;> conv => whnf)
    | (intro h; conv => whnf)
    | (refine gand ?_ h; assumption)
  all_goals rfl
end Go.RX

