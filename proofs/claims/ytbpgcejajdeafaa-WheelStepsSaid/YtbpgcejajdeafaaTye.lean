/- The contract of footwaylaw05.WheelNext. -/
import Derived.Test.YtbpgcejajdeafaaPle
set_option linter.unusedVariables false
set_option linter.unusedSimpArgs false
open Go Go.RX Go.Proofs
namespace Go.RX
set_option maxRecDepth 10000
set_option maxHeartbeats 2000000
attribute [local irreducible] CallW CallP LoopW W IntKind.wrap
abbrev s5 (l d : List Tm) (at_ : Int) (k : Nat) : Slots := [(0, tmsL l), (3, I at_), (64, tmsL d), (65, I (d.map Tm.cells).length), (66, I k)]
theorem c5 (l0 : List Tm) : CallP Try.prog 5 [tmsL l0] (.bool true) := by
  have h13 := c13 l0
  have hl : (l0.take 70).length ≤ 1000 := by rw [List.length_take]; omega
  generalize l0.take 70 = l at h13 hl
  have h15 := c15
  cases hr : rOk l with
  | false =>
    have h18 := c18e l hl hr
    refine .intro (by first | (simp [NLs, NL]; done) | (simp [NLs, NL, nlx]; done)) (.intro TT_ok Try.func5 rfl rfl [0, 2, 3, 4, 5, 6, 7, 9, 11, 12, 21, 63, 64, 65, 66, 67, 73, 76] rfl ?_)
    conv => whnf
    repeat' first
      | with_reducible rfl
      | with_reducible exact True.intro
      | with_reducible assumption
      | (refine CallP.use (h13) ?_; conv => whnf)
      | (refine ⟨_, fun _ => h13, ?_⟩; conv => whnf)
      | (refine CallP.use (h18) ?_; conv => whnf)
      | (refine ⟨_, fun _ => h18, ?_⟩; conv => whnf)
      | (refine CallP.use (h15) ?_; conv => whnf)
      | (refine ⟨_, fun _ => h15, ?_⟩; conv => whnf)
      | assumption
      | exact absurd (show false = true from h) Bool.false_ne_true
      | exact absurd (show true = false from h) (fun e => Bool.noConfusion e)
      | exact (congrArg Bool.not h)
      | (refine ⟨_, ⟨by first | assumption | decide | omega, by first | assumption | rfl⟩, ?_⟩; conv => whnf)
      | (refine ⟨_, fun _ => ⟨by first | assumption | decide | omega, by first | assumption | rfl⟩, ?_⟩; conv => whnf)
      | exact (rfl : (_ : Nat) = _)
      | exact (rfl : (_ : LV) = _)
      | (refine ⟨fun h => ?_, fun h => ?_⟩ <;> conv => whnf)
      | (refine ⟨?_, ?_⟩ <;> conv => whnf)
      | (intro h; conv => whnf)
      | (refine gand ?_ h; assumption)
      | (simp; done)
  | true =>
    cases l with
    | nil =>
      have h18 := c18n
      refine .intro (by first | (simp [NLs, NL]; done) | (simp [NLs, NL, nlx]; done)) (.intro TT_ok Try.func5 rfl rfl [0, 2, 3, 4, 5, 6, 7, 9, 11, 12, 21, 63, 64, 65, 66, 67, 73, 76] rfl ?_)
      conv => whnf
      repeat' first
        | with_reducible rfl
        | with_reducible exact True.intro
        | with_reducible assumption
        | (refine CallP.use (h13) ?_; conv => whnf)
        | (refine ⟨_, fun _ => h13, ?_⟩; conv => whnf)
        | (refine CallP.use (h18) ?_; conv => whnf)
        | (refine ⟨_, fun _ => h18, ?_⟩; conv => whnf)
        | (refine CallP.use (h15) ?_; conv => whnf)
        | (refine ⟨_, fun _ => h15, ?_⟩; conv => whnf)
        | assumption
        | exact absurd (show false = true from h) Bool.false_ne_true
        | exact absurd (show true = false from h) (fun e => Bool.noConfusion e)
        | exact (congrArg Bool.not h)
        | (refine ⟨_, ⟨by first | assumption | decide | omega, by first | assumption | rfl⟩, ?_⟩; conv => whnf)
        | (refine ⟨_, fun _ => ⟨by first | assumption | decide | omega, by first | assumption | rfl⟩, ?_⟩; conv => whnf)
        | exact (rfl : (_ : Nat) = _)
        | exact (rfl : (_ : LV) = _)
        | (refine ⟨fun h => ?_, fun h => ?_⟩ <;> conv => whnf)
        | (refine ⟨?_, ?_⟩ <;> conv => whnf)
        | (intro h; conv => whnf)
        | (refine gand ?_ h; assumption)
      all_goals rfl
    | cons t l =>
      have h18 := c18 t l hr
      have ht := tOk_iff.1 (rOk_t hr (k := 0) (Nat.succ_pos _)).1
      simp only [List.getElem_cons_zero] at ht
      have h14 := c14 (t :: l) hr t.at_ (by omega)
      have hall : ∀ k (hk : k < ((t :: l).take (kD (t :: l) t.at_)).length), t.at_ = ((t :: l).take (kD (t :: l) t.at_))[k].at_ := fun k hk => (next_due hr (k := k) hk).symm
      have hge := next_ge (t := t) (l := l)
      have hle := kD_le (t :: l) t.at_
      have hdl : ((t :: l).take (kD (t :: l) t.at_)).length = kD (t :: l) t.at_ := by rw [List.length_take]; omega
      have hrl : ((t :: l).drop (kD (t :: l) t.at_)).length = (t :: l).length - kD (t :: l) t.at_ := by rw [List.length_drop]
      have h14b : 1 ≤ t.at_ → CallP Try.prog 14 [tmsL (t :: l), I (w64 (t.at_ - 1))] (.tup [tmsL (t :: l), tmsL [], I 0]) := fun h => by
        rw [w64_small (by omega) (by omega)]
        have := c14 (t :: l) hr (t.at_ - 1) (by omega)
        rw [next_zero] at this
        exact this
      generalize hd0 : (t :: l).take (kD (t :: l) t.at_) = d at *
      generalize hr0 : (t :: l).drop (kD (t :: l) t.at_) = r at *
      generalize hl0 : t :: l = m at *
      have hD : (d.map Tm.cells).length = d.length := List.length_map ..
      have hR : (r.map Tm.cells).length = r.length := List.length_map ..
      have hM : (m.map Tm.cells).length = m.length := List.length_map ..
      have hsum : IntKind.i64.wrap (((d.map Tm.cells).length : Int) + ((r.map Tm.cells).length : Int)) = ((m.map Tm.cells).length : Int) := by
        rw [hD, hR, hM]; exact (w64_small (by omega) (by omega)).trans (by omega)
      have hA : (bif bif bif !decide ((0 : Int) = 0) then true else decide (((d.map Tm.cells).length : Int) < 1) then true else !decide (IntKind.i64.wrap (((d.map Tm.cells).length : Int) + ((r.map Tm.cells).length : Int)) = ((m.map Tm.cells).length : Int)) then true else !true) = false := by
        rw [hsum, show decide (((d.map Tm.cells).length : Int) < 1) = false by rw [decide_eq_false_iff_not]; omega]; simp
      refine .intro (by first | (simp [NLs, NL]; done) | (simp [NLs, NL, nlx]; done)) (.intro TT_ok Try.func5 rfl rfl [0, 2, 3, 4, 5, 6, 7, 9, 11, 12, 21, 63, 64, 65, 66, 67, 73, 76] rfl ?_)
      conv => whnf
      repeat' first
        | with_reducible rfl
        | with_reducible exact True.intro
        | with_reducible assumption
        | exact (Bool.false_ne_true (hA.symm.trans h)).elim
        | (refine CallP.use (h13) ?_; conv => whnf)
        | (refine ⟨_, fun _ => h13, ?_⟩; conv => whnf)
        | (refine CallP.use (h18) ?_; conv => whnf)
        | (refine ⟨_, fun _ => h18, ?_⟩; conv => whnf)
        | (refine CallP.use (h14) ?_; conv => whnf)
        | (refine ⟨_, fun _ => h14, ?_⟩; conv => whnf)
        | (refine CallP.use (h15) ?_; conv => whnf)
        | (refine ⟨_, fun _ => h15, ?_⟩; conv => whnf)
        | assumption
        | exact absurd (show false = true from h) Bool.false_ne_true
        | exact absurd (show true = false from h) (fun e => Bool.noConfusion e)
        | exact (congrArg Bool.not h)
        | (refine ⟨_, ⟨by first | assumption | decide | omega, by first | assumption | rfl⟩, ?_⟩; conv => whnf)
        | (refine ⟨_, fun _ => ⟨by first | assumption | decide | omega, by first | assumption | rfl⟩, ?_⟩; conv => whnf)
        | exact (rfl : (_ : Nat) = _)
        | exact (rfl : (_ : LV) = _)
        | (refine ⟨fun h => ?_, fun h => ?_⟩ <;> conv => whnf)
        | (refine ⟨?_, ?_⟩ <;> conv => whnf)
        | (intro h; conv => whnf)
        | (refine gand ?_ h; assumption)
      have hall2 := hall
      clear hall
      refine LoopW.norm (s5 m d t.at_ 0) 0 [] ⟨rfl, rfl, rfl, rfl, rfl, trivial⟩ trivial ⟨trivial, trivial, trivial, trivial, trivial, trivial⟩ rfl ?_
      refine LoopW.ind (α := Nat) (fun k => d.length - k) (fun k s' H => k ≤ d.length ∧ s' = s5 m d t.at_ k ∧ H = ⟨0, []⟩) ?_ (a := 0) ⟨Nat.zero_le _, rfl, rfl⟩
      rintro k s' H ⟨hk, rfl, rfl⟩ ih
      by_cases hi : k < d.length
      · have hd : decide ((k : Int) < ((d.map Tm.cells).length : Int)) = true := by rw [decide_eq_true_eq]; omega
        have hat := hall2 k hi
        have hb : (d.map Tm.cells)[k]? = some [I d[k].id, I d[k].at_] := by simp [hi]
        generalize d[k] = u at hat hb
        obtain ⟨ui, ua⟩ := u
        subst hat
        refine LoopW.round TT_ok [0, 2, 3, 4, 5, 6, 7, 9, 11, 12, 21, 63, 64, 65, 66, 67, 73, 76] ?_
        conv => whnf
        repeat' first
          | with_reducible rfl
          | with_reducible exact True.intro
          | with_reducible assumption
          | exact (Bool.false_ne_true (h.symm.trans hd)).elim
          | (exfalso; revert h; simp; done)
          | assumption
          | exact absurd (show false = true from h) Bool.false_ne_true
          | exact absurd (show true = false from h) (fun e => Bool.noConfusion e)
          | exact (congrArg Bool.not h)
          | (refine ⟨_, ⟨by first | assumption | decide | omega, by first | assumption | rfl⟩, ?_⟩; conv => whnf)
          | (refine ⟨_, fun _ => ⟨by first | assumption | decide | omega, by first | assumption | rfl⟩, ?_⟩; conv => whnf)
          | exact (rfl : (_ : Nat) = _)
          | exact (rfl : (_ : LV) = _)
          | (refine ⟨fun h => ?_, fun h => ?_⟩ <;> conv => whnf)
          | (refine ⟨?_, ?_⟩ <;> conv => whnf)
          | (intro h; conv => whnf)
          | (refine gand ?_ h; assumption)
        refine LoopW.norm (s5 m d t.at_ (k + 1)) 0 [] ⟨rfl, rfl, rfl, rfl, congrArg (LV.int .i64) (w64_nat (by omega)), trivial⟩ trivial ⟨trivial, trivial, trivial, trivial, trivial, trivial⟩ rfl (ih (k + 1) _ _ ⟨hi, rfl, rfl⟩ (by omega))
      · have hd : decide ((k : Int) < ((d.map Tm.cells).length : Int)) = false := by rw [decide_eq_false_iff_not]; omega
        clear ih
        by_cases h0 : t.at_ = 0
        · have hz : decide (t.at_ = 0) = true := by rw [decide_eq_true_eq]; exact h0
          refine LoopW.round TT_ok [0, 2, 3, 4, 5, 6, 7, 9, 11, 12, 21, 63, 64, 65, 66, 67, 73, 76] ?_
          conv => whnf
          repeat' first
            | with_reducible rfl
            | with_reducible exact True.intro
            | with_reducible assumption
            | exact (Bool.false_ne_true (hd.symm.trans h)).elim
            | exact (Bool.false_ne_true (h.symm.trans hz)).elim
            | assumption
            | exact absurd (show false = true from h) Bool.false_ne_true
            | exact absurd (show true = false from h) (fun e => Bool.noConfusion e)
            | exact (congrArg Bool.not h)
            | (refine ⟨_, ⟨by first | assumption | decide | omega, by first | assumption | rfl⟩, ?_⟩; conv => whnf)
            | (refine ⟨_, fun _ => ⟨by first | assumption | decide | omega, by first | assumption | rfl⟩, ?_⟩; conv => whnf)
            | exact (rfl : (_ : Nat) = _)
            | exact (rfl : (_ : LV) = _)
            | (refine ⟨fun h => ?_, fun h => ?_⟩ <;> conv => whnf)
            | (refine ⟨?_, ?_⟩ <;> conv => whnf)
            | (intro h; conv => whnf)
            | (refine gand ?_ h; assumption)
        · have hz : decide (t.at_ = 0) = false := by rw [decide_eq_false_iff_not]; exact h0
          have h14c := h14b (by omega)
          refine LoopW.round TT_ok [0, 2, 3, 4, 5, 6, 7, 9, 11, 12, 21, 63, 64, 65, 66, 67, 73, 76] ?_
          conv => whnf
          repeat' first
            | with_reducible rfl
            | with_reducible exact True.intro
            | with_reducible assumption
            | exact (Bool.false_ne_true (hd.symm.trans h)).elim
            | exact (Bool.false_ne_true (hz.symm.trans h)).elim
            | (refine CallP.use (h14c) ?_; conv => whnf)
            | (refine ⟨_, fun _ => h14c, ?_⟩; conv => whnf)
            | assumption
            | exact absurd (show false = true from h) Bool.false_ne_true
            | exact absurd (show true = false from h) (fun e => Bool.noConfusion e)
            | exact (congrArg Bool.not h)
            | (refine ⟨_, ⟨by first | assumption | decide | omega, by first | assumption | rfl⟩, ?_⟩; conv => whnf)
            | (refine ⟨_, fun _ => ⟨by first | assumption | decide | omega, by first | assumption | rfl⟩, ?_⟩; conv => whnf)
            | exact (rfl : (_ : Nat) = _)
            | exact (rfl : (_ : LV) = _)
            | (refine ⟨fun h => ?_, fun h => ?_⟩ <;> conv => whnf)
            | (refine ⟨?_, ?_⟩ <;> conv => whnf)
            | (intro h; conv => whnf)
            | (refine gand ?_ h; assumption)
          all_goals rfl
end Go.RX

