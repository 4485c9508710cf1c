/- Contracts of the document's own functions: which bridges may be. -/
import Derived.Test.YtammhcpnhejapaaTyh
set_option linter.unusedVariables false
set_option linter.unusedSimpArgs false
open Go Go.RX Go.Proofs
namespace Go.RX
set_option maxRecDepth 10000
set_option maxHeartbeats 1000000
attribute [local irreducible] CallW CallP LoopW W
theorem c43 (v : Vc) : CallP Try.prog 43 [vL v] (.bool (rgt v)) := by
  refine .intro (by simp [NLs, NL]) (.intro TT_ok Try.func43 rfl rfl [0, 1, 2] rfl ?_)
  conv => whnf
  repeat' first
    | with_reducible rfl
    | with_reducible exact True.intro
    | assumption
    | exact absurd (show false = true from h) Bool.false_ne_true
    | exact absurd (show true = false from h) (fun e => Bool.noConfusion e)
    | exact (congrArg Bool.not h)
    | (refine ⟨_, ⟨by first | assumption | decide | omega, by first | assumption | rfl⟩, ?_⟩; conv => whnf)
    | (refine ⟨_, fun _ => ⟨by first | assumption | decide | omega, by first | assumption | rfl⟩, ?_⟩; conv => whnf)
    | exact (rfl : (_ : Nat) = _)
    | exact (rfl : (_ : LV) = _)
    | (refine ⟨fun h => ?_, fun h => ?_⟩ <;> conv => whnf)
    | (refine ⟨?_, ?_⟩ <;> conv => whnf)
    | (intro h; conv => whnf)
  simp only [rgt, vRight, inB]
  rw [Bool.eq_iff_iff]
  simp only [Bool.and_eq_true, decide_eq_true_eq, Bool.cond_false_right]
  omega
def ltB (v w : Vc) : Bool := if v.r = w.r then (if v.c = w.c then (if v.b = w.b then decide (v.p < w.p) else decide (v.b < w.b)) else decide (v.c < w.c)) else decide (v.r < w.r)
theorem c44 (v w : Vc) : CallP Try.prog 44 [vL v, vL w] (.bool (ltB v w)) := by
  refine .intro (by simp [NLs, NL]) (.intro TT_ok Try.func44 rfl rfl [0, 1, 2, 3, 4, 9, 19, 29] rfl ?_)
  conv => whnf
  repeat' first
    | with_reducible rfl
    | with_reducible exact True.intro
    | assumption
    | exact absurd (show false = true from h) Bool.false_ne_true
    | exact absurd (show true = false from h) (fun e => Bool.noConfusion e)
    | exact (congrArg Bool.not h)
    | (refine ⟨_, ⟨by first | assumption | decide | omega, by first | assumption | rfl⟩, ?_⟩; conv => whnf)
    | (refine ⟨_, fun _ => ⟨by first | assumption | decide | omega, by first | assumption | rfl⟩, ?_⟩; conv => whnf)
    | exact (rfl : (_ : Nat) = _)
    | exact (rfl : (_ : LV) = _)
    | (refine ⟨fun h => ?_, fun h => ?_⟩ <;> conv => whnf)
    | (refine ⟨?_, ?_⟩ <;> conv => whnf)
    | (intro h; conv => whnf)
  all_goals (simp_all [ltB])
def farR (v : Vc) (n : Int) : Vc := ⟨v.r, mn (w64 (v.c + n)) 2147483647, v.b, v.p⟩
theorem c45 (v : Vc) (n : Int) : CallP Try.prog 45 [vL v, I n] (vL (farR v n)) := by
  refine .intro (by simp [NLs, NL]) (.intro TT_ok Try.func45 rfl rfl [0, 1, 2, 4] rfl ?_)
  conv => whnf
  repeat' first
    | with_reducible rfl
    | with_reducible exact True.intro
    | assumption
    | exact absurd (show false = true from h) Bool.false_ne_true
    | exact absurd (show true = false from h) (fun e => Bool.noConfusion e)
    | exact (congrArg Bool.not h)
    | (refine ⟨_, ⟨by first | assumption | decide | omega, by first | assumption | rfl⟩, ?_⟩; conv => whnf)
    | (refine ⟨_, fun _ => ⟨by first | assumption | decide | omega, by first | assumption | rfl⟩, ?_⟩; conv => whnf)
    | exact (rfl : (_ : Nat) = _)
    | exact (rfl : (_ : LV) = _)
    | (refine ⟨fun h => ?_, fun h => ?_⟩ <;> conv => whnf)
    | (refine ⟨?_, ?_⟩ <;> conv => whnf)
    | (intro h; conv => whnf)
  all_goals rfl
theorem c58 (x : Inf) (u : Bool) : CallP Try.prog 58 [.agg x.cells, .bool u] (.bool (infOk x u)) := by
  refine .intro (by simp [NLs, NL]) (.intro TT_ok Try.func58 rfl rfl [0, 1, 2, 4, 11] rfl ?_)
  conv => whnf
  repeat' first
    | with_reducible rfl
    | with_reducible exact True.intro
    | assumption
    | (refine CallP.use (c43 x.v) ?_; conv => whnf)
    | (refine ⟨_, fun _ => c43 x.v, ?_⟩; conv => whnf)
    | exact absurd (show false = true from h) Bool.false_ne_true
    | exact absurd (show true = false from h) (fun e => Bool.noConfusion e)
    | exact (congrArg Bool.not h)
    | (refine ⟨_, ⟨by first | assumption | decide | omega, by first | assumption | rfl⟩, ?_⟩; conv => whnf)
    | (refine ⟨_, fun _ => ⟨by first | assumption | decide | omega, by first | assumption | rfl⟩, ?_⟩; conv => whnf)
    | exact (rfl : (_ : Nat) = _)
    | exact (rfl : (_ : LV) = _)
    | (refine ⟨fun h => ?_, fun h => ?_⟩ <;> conv => whnf)
    | (refine ⟨?_, ?_⟩ <;> conv => whnf)
    | (intro h; conv => whnf)
  · have hn : ¬ (x.h = true ∧ u = true) := by revert h; cases x.h <;> cases u <;> simp
    rw [infOk, iRight, if_neg hn, Bool.eq_iff_iff]
    simp [and_assoc]
  · have hy : x.h = true ∧ u = true := by revert h; cases x.h <;> cases u <;> simp
    rw [infOk, iRight, if_pos hy]
    simp only [rgt, Bool.cond_false_right, Bool.and_assoc]
abbrev s34 (s : Slf) (k : Nat) : Slots := [(1, .ptr 0 0 0), (40, I (s.cs.map fun x => [I x]).length), (41, I k)]
theorem c34 (s : Slf) : CallP Try.prog 34 [slfL s] (.bool (sOk s)) := by
  refine .intro (by simp [NLs, NL]) (.intro TT_ok Try.func34 rfl rfl [0, 1, 2, 3, 4, 37, 40, 41, 42, 71] rfl ?_)
  conv => whnf
  repeat' first
    | with_reducible rfl
    | with_reducible exact True.intro
    | assumption
    | (refine W.drawn TT_ok hmix1 rfl ?_; conv => whnf)
    | exact absurd (show false = true from h) Bool.false_ne_true
    | exact absurd (show true = false from h) (fun e => Bool.noConfusion e)
    | exact (congrArg Bool.not h)
    | (refine ⟨_, ⟨by first | assumption | decide | omega, by first | assumption | rfl⟩, ?_⟩; conv => whnf)
    | (refine ⟨_, fun _ => ⟨by first | assumption | decide | omega, by first | assumption | rfl⟩, ?_⟩; conv => whnf)
    | exact (rfl : (_ : Nat) = _)
    | exact (rfl : (_ : LV) = _)
    | (refine ⟨fun h => ?_, fun h => ?_⟩ <;> conv => whnf)
    | (refine ⟨?_, ?_⟩ <;> conv => whnf)
    | (intro h; conv => whnf)
  · have h' : hdOk s = false := by
      rw [← Bool.not_eq_true]
      simp only [hdOk, Bool.and_eq_true, decide_eq_true_eq]
      simp only [List.length_map, Bool.cond_true_left, Bool.or_eq_true, decide_eq_true_eq, Bool.not_eq_true', decide_eq_false_iff_not] at h
      omega
    rw [sOk, h']; rfl
  have h' : hdOk s = true := by
    simp only [hdOk, Bool.and_eq_true, decide_eq_true_eq]
    simp only [List.length_map, Bool.cond_true_left, Bool.or_eq_false_iff, decide_eq_false_iff_not, Bool.not_eq_false', decide_eq_true_eq] at h
    omega
  clear h
  obtain ⟨hl1, hl2, hl3, hl4, hl5, hl6⟩ := hd_len h'
  rw [sOk, h', Bool.true_and]
  refine LoopW.norm (s34 s 0) 1 (slfH s) ⟨rfl, rfl, rfl, trivial⟩ ⟨⟨rfl, rfl, ⟨trivial, trivial, trivial, trivial, trivial⟩, trivial⟩, trivial⟩ ⟨rfl, trivial, trivial, trivial⟩ rfl ?_
  refine LoopW.ind (α := Nat) (fun k => s.cs.length - k) (fun k s' H => (k ≤ s.cs.length ∧ ptsOk s k = true) ∧ s' = s34 s k ∧ H = ⟨1, slfH s⟩) ?_ (a := 0) ⟨⟨Nat.zero_le _, rfl⟩, rfl, rfl⟩
  rintro k s' H ⟨⟨hk, hall⟩, rfl, rfl⟩ ih
  by_cases hi : k < s.cs.length
  · have hd : decide ((k : Int) < ((s.cs.map fun x => [I x]).length : Int)) = true := by simp; omega
    have hf : k < s.fs.length := by omega
    have hu : k < s.us.length := by omega
    have hb : (s.cs.map fun x => [I x])[k]? = some [I s.cs[k]] := by simp [hi]
    have hb2 : (s.fs.map Inf.cells)[k]? = some (s.fs[k]).cells := by simp [hf]
    have hb3 : (s.us.map fun x => [LV.bool x])[k]? = some [LV.bool s.us[k]] := by simp [hu]
    have h58 := c58 s.fs[k] s.us[k]
    have hpt : ptOk s k = ((decide (1 ≤ s.cs[k]) && decide (s.cs[k] ≤ 1000)) && infOk s.fs[k] s.us[k]) := by
      simp only [ptOk, List.getElem?_eq_getElem hi, List.getElem?_eq_getElem hf, List.getElem?_eq_getElem hu]
    generalize hq : infOk s.fs[k] s.us[k] = q at h58 hpt
    refine LoopW.round TT_ok [0, 1, 2, 3, 4, 37, 40, 41, 42, 71] ?_
    conv => whnf
    repeat' first
      | with_reducible rfl
      | with_reducible exact True.intro
      | assumption
      | exact (Bool.false_ne_true (h.symm.trans hd)).elim
      | (refine CallP.use (h58) ?_; conv => whnf)
      | (refine ⟨_, fun _ => h58, ?_⟩; conv => whnf)
      | (refine W.drawn TT_ok hmix1 rfl ?_; conv => whnf)
      | exact absurd (show false = true from h) Bool.false_ne_true
      | exact absurd (show true = false from h) (fun e => Bool.noConfusion e)
      | exact (congrArg Bool.not h)
      | (refine ⟨_, ⟨by first | assumption | decide | omega, by first | assumption | rfl⟩, ?_⟩; conv => whnf)
      | (refine ⟨_, fun _ => ⟨by first | assumption | decide | omega, by first | assumption | rfl⟩, ?_⟩; conv => whnf)
      | exact (rfl : (_ : Nat) = _)
      | exact (rfl : (_ : LV) = _)
      | (refine ⟨fun h => ?_, fun h => ?_⟩ <;> conv => whnf)
      | (refine ⟨?_, ?_⟩ <;> conv => whnf)
      | (intro h; conv => whnf)
    · refine (ptsOk_false (k := k) ?_ hi).symm
      rw [hpt, ← Bool.not_eq_true]
      simp only [Bool.and_eq_true, decide_eq_true_eq]
      simp only [Bool.cond_true_left, Bool.or_eq_true, decide_eq_true_eq, Bool.not_eq_true'] at h
      intro hh
      rcases h with (h | h) | h
      · omega
      · omega
      · rw [h] at hh; exact Bool.false_ne_true hh.2
    · have hp : ptOk s k = true := by
        rw [hpt]
        simp only [Bool.and_eq_true, decide_eq_true_eq]
        simp only [Bool.cond_true_left, Bool.or_eq_false_iff, decide_eq_false_iff_not, Bool.not_eq_false'] at h
        exact ⟨by omega, h.2⟩
      refine LoopW.norm (s34 s (k + 1)) 1 (slfH s) ⟨rfl, rfl, congrArg (LV.int .i64) (w64_nat (by omega)), trivial⟩ ⟨⟨rfl, rfl, ⟨trivial, trivial, trivial, trivial, trivial⟩, trivial⟩, trivial⟩ ⟨rfl, trivial, trivial, trivial⟩ rfl (ih (k + 1) _ _ ⟨⟨hi, by rw [ptsOk, hall, hp]; rfl⟩, rfl, rfl⟩ (by omega))
  · have hd : decide ((k : Int) < ((s.cs.map fun x => [I x]).length : Int)) = false := by simp; omega
    have : k = s.cs.length := by omega
    subst this
    refine LoopW.round TT_ok [0, 1, 2, 3, 4, 37, 40, 41, 42, 71] ?_
    conv => whnf
    repeat' first
      | with_reducible rfl
      | with_reducible exact True.intro
      | assumption
      | exact (Bool.false_ne_true (hd.symm.trans h)).elim
      | (refine W.drawn TT_ok hmix1 rfl ?_; conv => whnf)
      | exact absurd (show false = true from h) Bool.false_ne_true
      | exact absurd (show true = false from h) (fun e => Bool.noConfusion e)
      | exact (congrArg Bool.not h)
      | (refine ⟨_, ⟨by first | assumption | decide | omega, by first | assumption | rfl⟩, ?_⟩; conv => whnf)
      | (refine ⟨_, fun _ => ⟨by first | assumption | decide | omega, by first | assumption | rfl⟩, ?_⟩; conv => whnf)
      | exact (rfl : (_ : Nat) = _)
      | exact (rfl : (_ : LV) = _)
      | (refine ⟨fun h => ?_, fun h => ?_⟩ <;> conv => whnf)
      | (refine ⟨?_, ?_⟩ <;> conv => whnf)
      | (intro h; conv => whnf)
    exact hall.symm
end Go.RX

