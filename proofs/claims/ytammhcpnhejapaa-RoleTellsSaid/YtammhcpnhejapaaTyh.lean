/- Contracts: which bridges may be. -/
import Derived.Test.YtammhcpnhejapaaTyg
set_option linter.unusedVariables false
set_option linter.unusedSimpArgs false
open Go Go.RX Go.Proofs
namespace Go.RX
set_option maxRecDepth 10000
set_option maxHeartbeats 1000000
attribute [local irreducible] CallW CallP LoopW W
abbrev infOk (x : Inf) (u : Bool) : Bool := iRight x.h x.r x.c x.b x.p x.a u
def ptOk (s : Slf) (k : Nat) : Bool := match s.cs[k]?, s.fs[k]?, s.us[k]? with
  | some n, some x, some u => (decide (1 ≤ n) && decide (n ≤ 1000)) && infOk x u
  | _, _, _ => false
def ptsOk (s : Slf) : Nat → Bool
  | 0 => true
  | k + 1 => ptsOk s k && ptOk s k
def hdOk (s : Slf) : Bool := (decide (0 ≤ s.i) && decide (s.i ≤ 65535)) && ((decide ((1 : Int) ≤ s.cs.length) && decide ((s.cs.length : Int) ≤ 8)) && (decide ((s.us.length : Int) = s.cs.length) && decide ((s.fs.length : Int) = s.cs.length)))
def sOk (s : Slf) : Bool := hdOk s && ptsOk s s.cs.length
theorem ptsOk_false {s : Slf} {k : Nat} (h : ptOk s k = false) : ∀ {n : Nat}, k < n → ptsOk s n = false
  | 0, hk => absurd hk (Nat.not_lt_zero _)
  | n + 1, hk => by
    rw [ptsOk]
    by_cases hkn : k = n
    · subst hkn; rw [h, Bool.and_false]
    · rw [ptsOk_false h (by omega), Bool.false_and]
abbrev slfH (s : Slf) : List (Nat × Blk) := [(0, .row 52 4 [[I s.i, intsL s.cs, boolsL s.us, infsL s.fs]])]
abbrev s33 (s : Slf) (k : Nat) : Slots := [(1, .ptr 0 0 0), (33, intsL s.cs), (34, I (s.cs.map fun x => [I x]).length), (35, I k)]
theorem hd_len {s : Slf} (h : hdOk s = true) : s.us.length = s.cs.length ∧ s.fs.length = s.cs.length ∧ 1 ≤ s.cs.length ∧ s.cs.length ≤ 8 ∧ 0 ≤ s.i ∧ s.i ≤ 65535 := by
  simp only [hdOk, Bool.and_eq_true, decide_eq_true_eq] at h
  omega
theorem c33 (s : Slf) : CallP Try.prog 33 [slfL s] (.bool (sOk s)) := by
  refine .intro (by simp [NLs, NL]) (.intro TT_ok Try.func33 rfl rfl [0, 1, 2, 3, 4, 5, 31, 33, 34, 35, 36, 56] rfl ?_)
  conv => whnf
  repeat' first
    | with_reducible rfl
    | with_reducible exact True.intro
    | assumption
    | (refine CallP.use (c56 _ _ _) ?_; conv => whnf)
    | (refine ⟨_, fun _ => c56 _ _ _, ?_⟩; conv => whnf)
    | (refine W.drawn TT_ok hmix1 rfl ?_; conv => whnf)
    | exact absurd (show false = true from h) Bool.false_ne_true
    | exact absurd (show true = false from h) (fun e => Bool.noConfusion e)
    | exact (congrArg Bool.not h)
    | (refine ⟨_, ⟨by first | assumption | decide | omega, by first | assumption | rfl⟩, ?_⟩; conv => whnf)
    | (refine ⟨_, fun _ => ⟨by first | assumption | decide | omega, by first | assumption | rfl⟩, ?_⟩; conv => whnf)
    | exact (rfl : (_ : Nat) = _)
    | exact (rfl : (_ : LV) = _)
    | (refine ⟨fun h => ?_, fun h => ?_⟩ <;> conv => whnf)
    | (refine ⟨?_, ?_⟩ <;> conv => whnf)
    | (intro h; conv => whnf)
  · have h' : hdOk s = false := by
      revert h; unfold hdOk; simp only [List.length_map]
      cases decide (0 ≤ s.i) <;> cases decide (s.i ≤ 65535) <;> cases decide ((1 : Int) ≤ s.cs.length) <;> cases decide ((s.cs.length : Int) ≤ 8) <;> cases decide ((s.us.length : Int) = s.cs.length) <;> cases decide ((s.fs.length : Int) = s.cs.length) <;> simp
    rw [sOk, h']; rfl
  have h' : hdOk s = true := by
    revert h; unfold hdOk; simp only [List.length_map]
    cases decide (0 ≤ s.i) <;> cases decide (s.i ≤ 65535) <;> cases decide ((1 : Int) ≤ s.cs.length) <;> cases decide ((s.cs.length : Int) ≤ 8) <;> cases decide ((s.us.length : Int) = s.cs.length) <;> cases decide ((s.fs.length : Int) = s.cs.length) <;> simp
  clear h
  obtain ⟨hl1, hl2, hl3, hl4, hl5, hl6⟩ := hd_len h'
  rw [sOk, h', Bool.true_and]
  refine LoopW.norm (s33 s 0) 1 (slfH s) ⟨rfl, rfl, rfl, rfl, trivial⟩ ⟨⟨rfl, rfl, ⟨trivial, trivial, trivial, trivial, trivial⟩, trivial⟩, trivial⟩ ⟨rfl, trivial, trivial, trivial, trivial⟩ rfl ?_
  refine LoopW.ind (α := Nat) (fun k => s.cs.length - k) (fun k s' H => (k ≤ s.cs.length ∧ ptsOk s k = true) ∧ s' = s33 s k ∧ H = ⟨1, slfH s⟩) ?_ (a := 0) ⟨⟨Nat.zero_le _, rfl⟩, rfl, rfl⟩
  rintro k s' H ⟨⟨hk, hall⟩, rfl, rfl⟩ ih
  by_cases hi : k < s.cs.length
  · have hd : decide ((k : Int) < ((s.cs.map fun x => [I x]).length : Int)) = true := by simp; omega
    have hf : k < s.fs.length := by omega
    have hu : k < s.us.length := by omega
    have hb : (s.cs.map fun x => [I x])[k]? = some [I s.cs[k]] := by simp [hi]
    have hb2 : (s.fs.map Inf.cells)[k]? = some (s.fs[k]).cells := by simp [hf]
    have hb3 : (s.us.map fun x => [LV.bool x])[k]? = some [LV.bool s.us[k]] := by simp [hu]
    have h57 := d57 s.fs[k] s.us[k]
    have hpt : ptOk s k = ((decide (1 ≤ s.cs[k]) && decide (s.cs[k] ≤ 1000)) && infOk s.fs[k] s.us[k]) := by
      simp only [ptOk, List.getElem?_eq_getElem hi, List.getElem?_eq_getElem hf, List.getElem?_eq_getElem hu]
    dsimp only [infOk] at hpt
    refine LoopW.round TT_ok [0, 1, 2, 3, 4, 5, 31, 33, 34, 35, 36, 56] ?_
    conv => whnf
    repeat' first
      | with_reducible rfl
      | with_reducible exact True.intro
      | assumption
      | exact (Bool.false_ne_true (h.symm.trans hd)).elim
      | (refine CallP.use (c56 _ _ _) ?_; conv => whnf)
      | (refine ⟨_, fun _ => c56 _ _ _, ?_⟩; conv => whnf)
      | (refine CallP.use (h57) ?_; conv => whnf)
      | (refine ⟨_, fun _ => h57, ?_⟩; conv => whnf)
      | (refine W.drawn TT_ok hmix1 rfl ?_; conv => whnf)
      | exact absurd (show false = true from h) Bool.false_ne_true
      | exact absurd (show true = false from h) (fun e => Bool.noConfusion e)
      | exact (congrArg Bool.not h)
      | (refine ⟨_, ⟨by first | assumption | decide | omega, by first | assumption | rfl⟩, ?_⟩; conv => whnf)
      | (refine ⟨_, fun _ => ⟨by first | assumption | decide | omega, by first | assumption | rfl⟩, ?_⟩; conv => whnf)
      | exact (rfl : (_ : Nat) = _)
      | exact (rfl : (_ : LV) = _)
      | (refine ⟨fun h => ?_, fun h => ?_⟩ <;> conv => whnf)
      | (refine ⟨?_, ?_⟩ <;> conv => whnf)
      | (intro h; conv => whnf)
    · refine (ptsOk_false (k := k) ?_ hi).symm
      rw [hpt]
      revert h
      cases decide (1 ≤ s.cs[k]) <;> cases decide (s.cs[k] ≤ 1000) <;> cases iRight s.fs[k].h s.fs[k].r s.fs[k].c s.fs[k].b s.fs[k].p s.fs[k].a s.us[k] <;> simp
    · have hp : ptOk s k = true := by
        rw [hpt]
        revert h
        cases decide (1 ≤ s.cs[k]) <;> cases decide (s.cs[k] ≤ 1000) <;> cases iRight s.fs[k].h s.fs[k].r s.fs[k].c s.fs[k].b s.fs[k].p s.fs[k].a s.us[k] <;> simp
      refine LoopW.norm (s33 s (k + 1)) 1 (slfH s) ⟨rfl, rfl, rfl, congrArg (LV.int .i64) (w64_nat (by omega)), trivial⟩ ⟨⟨rfl, rfl, ⟨trivial, trivial, trivial, trivial, trivial⟩, trivial⟩, trivial⟩ ⟨rfl, trivial, trivial, trivial, trivial⟩ rfl (ih (k + 1) _ _ ⟨⟨hi, by rw [ptsOk, hall, hp]; rfl⟩, rfl, rfl⟩ (by omega))
  · have hd : decide ((k : Int) < ((s.cs.map fun x => [I x]).length : Int)) = false := by simp; omega
    have : k = s.cs.length := by omega
    subst this
    refine LoopW.round TT_ok [0, 1, 2, 3, 4, 5, 31, 33, 34, 35, 36, 56] ?_
    conv => whnf
    repeat' first
      | with_reducible rfl
      | with_reducible exact True.intro
      | assumption
      | exact (Bool.false_ne_true (hd.symm.trans h)).elim
      | (refine W.drawn TT_ok hmix1 rfl ?_; conv => whnf)
      | exact absurd (show false = true from h) Bool.false_ne_true
      | exact absurd (show true = false from h) (fun e => Bool.noConfusion e)
      | exact (congrArg Bool.not h)
      | (refine ⟨_, ⟨by first | assumption | decide | omega, by first | assumption | rfl⟩, ?_⟩; conv => whnf)
      | (refine ⟨_, fun _ => ⟨by first | assumption | decide | omega, by first | assumption | rfl⟩, ?_⟩; conv => whnf)
      | exact (rfl : (_ : Nat) = _)
      | exact (rfl : (_ : LV) = _)
      | (refine ⟨fun h => ?_, fun h => ?_⟩ <;> conv => whnf)
      | (refine ⟨?_, ?_⟩ <;> conv => whnf)
      | (intro h; conv => whnf)
    exact hall.symm
end Go.RX

