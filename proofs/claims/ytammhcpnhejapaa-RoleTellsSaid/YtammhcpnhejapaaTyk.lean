/- Contracts of package role. -/
import Derived.Test.YtammhcpnhejapaaTyj
set_option linter.unusedVariables false
set_option linter.unusedSimpArgs false
open Go Go.RX Go.Proofs
namespace Go.RX
set_option maxRecDepth 10000
set_option maxHeartbeats 2000000
attribute [local irreducible] CallW CallP LoopW W
def atI : Option Nat → Int
  | none => -1
  | some p => p
def ageI (s : Slf) : Option Nat → Int
  | none => 0
  | some p => match s.fs[p]? with
    | some x => w64 (x.a + 1)
    | none => 0
def wv (s : Slf) : Option Nat → Vc
  | none => ⟨s.i, 0, s.i, 0⟩
  | some p => wy s p
def InW (s : Slf) (w : Option Nat) : Prop := ∀ p, w = some p → ∃ n x, s.fs[p]? = some x ∧ s.cs[p]? = some n
theorem c53 (s : Slf) (w : Option Nat) (hw : InW s w) : CallP Try.prog 53 [slfL s, wayL w] (.tup [I (atI w), I (ageI s w)]) := by
  cases w with
  | none =>
    refine .intro (by first | (simp [NLs, NL]; done) | (simp [NLs, NL, nlx]; done)) (.intro TT_ok Try.func53 rfl rfl [0, 1, 2, 4, 5, 6, 7, 9, 10] rfl ?_)
    conv => whnf
    repeat' first
      | with_reducible rfl
      | with_reducible exact True.intro
      | assumption
      | (refine W.drawn TT_ok hmix1 rfl ?_; conv => whnf)
      | exact absurd (show false = true from h) Bool.false_ne_true
      | exact absurd (show true = false from h) (fun e => Bool.noConfusion e)
      | exact (congrArg Bool.not h)
      | (refine ⟨_, ⟨by first | assumption | decide | omega, by first | assumption | rfl⟩, ?_⟩; conv => whnf)
      | (refine ⟨_, fun _ => ⟨by first | assumption | decide | omega, by first | assumption | rfl⟩, ?_⟩; conv => whnf)
      | exact (rfl : (_ : Nat) = _)
      | exact (rfl : (_ : LV) = _)
      | (refine ⟨fun h => ?_, fun h => ?_⟩ <;> conv => whnf)
      | (refine ⟨?_, ?_⟩ <;> conv => whnf)
      | (intro h; conv => whnf)
    all_goals rfl
  | some p =>
    obtain ⟨n, x, hx, hn⟩ := hw p rfl
    have hb : (s.fs.map Inf.cells)[p]? = some x.cells := by simp [hx]
    refine .intro (by first | (simp [NLs, NL]; done) | (simp [NLs, NL, nlx]; done)) (.intro TT_ok Try.func53 rfl rfl [0, 1, 2, 4, 5, 6, 7, 9, 10] rfl ?_)
    conv => whnf
    repeat' first
      | with_reducible rfl
      | with_reducible exact True.intro
      | assumption
      | (refine W.drawn TT_ok hmix1 rfl ?_; conv => whnf)
      | exact absurd (show false = true from h) Bool.false_ne_true
      | exact absurd (show true = false from h) (fun e => Bool.noConfusion e)
      | exact (congrArg Bool.not h)
      | (refine ⟨_, ⟨by first | assumption | decide | omega, by first | assumption | rfl⟩, ?_⟩; conv => whnf)
      | (refine ⟨_, fun _ => ⟨by first | assumption | decide | omega, by first | assumption | rfl⟩, ?_⟩; conv => whnf)
      | exact (rfl : (_ : Nat) = _)
      | exact (rfl : (_ : LV) = _)
      | (refine ⟨fun h => ?_, fun h => ?_⟩ <;> conv => whnf)
      | (refine ⟨?_, ?_⟩ <;> conv => whnf)
      | (intro h; conv => whnf)
    · rfl
    · simp only [ageI, hx]
theorem m66 : MethodIs Try.prog 106 "footway/role.vec" 66 := fun v w => by kernel_rfl
theorem m91 : MethodIs Try.prog 109 "footway/role.vec" 91 := fun v w => by kernel_rfl
def tlV (s : Slf) (w : Option Nat) (p : Int) : Vc := ⟨(wv s w).r, (wv s w).c, s.i, p⟩
theorem c54 (s : Slf) (w : Option Nat) (hw : InW s w) (p : Int) : CallP Try.prog 54 [slfL s, wayL w, I p] (vL (tlV s w p)) := by
  cases w with
  | none =>
    refine .intro (by first | (simp [NLs, NL]; done) | (simp [NLs, NL, nlx]; done)) (.intro TT_ok Try.func54 rfl rfl [0, 1, 2, 3, 6, 7] rfl ?_)
    conv => whnf
    repeat' first
      | with_reducible rfl
      | with_reducible exact True.intro
      | assumption
      | (refine ⟨_, m91, CallP.use (c91 s) ?_⟩; conv => whnf)
      | (refine ⟨_, _, fun _ => ⟨m91, c91 s⟩, ?_⟩; conv => whnf)
      | exact absurd (show false = true from h) Bool.false_ne_true
      | exact absurd (show true = false from h) (fun e => Bool.noConfusion e)
      | exact (congrArg Bool.not h)
      | (refine ⟨_, ⟨by first | assumption | decide | omega, by first | assumption | rfl⟩, ?_⟩; conv => whnf)
      | (refine ⟨_, fun _ => ⟨by first | assumption | decide | omega, by first | assumption | rfl⟩, ?_⟩; conv => whnf)
      | exact (rfl : (_ : Nat) = _)
      | exact (rfl : (_ : LV) = _)
      | (refine ⟨fun h => ?_, fun h => ?_⟩ <;> conv => whnf)
      | (refine ⟨?_, ?_⟩ <;> conv => whnf)
      | (intro h; conv => whnf)
    all_goals rfl
  | some q =>
    obtain ⟨n, x, hx, hn⟩ := hw q rfl
    have h66 := c66 s q x n hx hn
    have e : far x.v n = wv s (some q) := by simp only [wv, wy, hx, hn]
    rw [e] at h66
    refine .intro (by first | (simp [NLs, NL]; done) | (simp [NLs, NL, nlx]; done)) (.intro TT_ok Try.func54 rfl rfl [0, 1, 2, 3, 6, 7] rfl ?_)
    conv => whnf
    repeat' first
      | with_reducible rfl
      | with_reducible exact True.intro
      | assumption
      | (refine ⟨_, m66, CallP.use (h66) ?_⟩; conv => whnf)
      | (refine ⟨_, _, fun _ => ⟨m66, h66⟩, ?_⟩; conv => whnf)
      | exact absurd (show false = true from h) Bool.false_ne_true
      | exact absurd (show true = false from h) (fun e => Bool.noConfusion e)
      | exact (congrArg Bool.not h)
      | (refine ⟨_, ⟨by first | assumption | decide | omega, by first | assumption | rfl⟩, ?_⟩; conv => whnf)
      | (refine ⟨_, fun _ => ⟨by first | assumption | decide | omega, by first | assumption | rfl⟩, ?_⟩; conv => whnf)
      | exact (rfl : (_ : Nat) = _)
      | exact (rfl : (_ : LV) = _)
      | (refine ⟨fun h => ?_, fun h => ?_⟩ <;> conv => whnf)
      | (refine ⟨?_, ?_⟩ <;> conv => whnf)
      | (intro h; conv => whnf)
    all_goals rfl
def rlI (s : Slf) (w : Option Nat) (p : Nat) (x : Inf) (u : Bool) : Int := if u = false then 3 else if (p : Int) = atI w then 0 else if x.h = true ∧ bet x.v (tlV s w p) = true then 2 else 1
theorem c55 (s : Slf) (w : Option Nat) (hw : InW s w) (p : Nat) (x : Inf) (u : Bool) (hx : s.fs[p]? = some x) (hu : s.us[p]? = some u) : CallP Try.prog 55 [slfL s, wayL w, I p] (I (rlI s w p x u)) := by
  have hb : (s.fs.map Inf.cells)[p]? = some x.cells := by simp [hx]
  have hb2 : (s.us.map fun x => [LV.bool x])[p]? = some [LV.bool u] := by simp [hu]
  have h54 := c54 s w hw p
  have h53 := c53 s w hw
  have e : rlI s w p x u = if u = false then 3 else if (p : Int) = atI w then 0 else if x.h = true ∧ bet x.v (tlV s w p) = true then 2 else 1 := rfl
  rw [e]
  generalize tlV s w p = tv at h54 ⊢
  generalize atI w = ai at h53 ⊢
  generalize ageI s w = ag at h53
  clear hw e
  cases w with
  | none =>
    refine .intro (by first | (simp [NLs, NL]; done) | (simp [NLs, NL, nlx]; done)) (.intro TT_ok Try.func55 rfl rfl [0, 1, 2, 3, 6, 7, 9, 31, 38, 42] rfl ?_)
    conv => whnf
    repeat' first
      | with_reducible rfl
      | with_reducible exact True.intro
      | assumption
      | (refine CallP.use (h53) ?_; conv => whnf)
      | (refine ⟨_, fun _ => h53, ?_⟩; conv => whnf)
      | (refine CallP.use (h54) ?_; conv => whnf)
      | (refine ⟨_, fun _ => h54, ?_⟩; conv => whnf)
      | (refine CallP.use (d14 x.v tv) ?_; conv => whnf)
      | (refine ⟨_, fun _ => d14 x.v tv, ?_⟩; conv => whnf)
      | (refine W.drawn TT_ok hmix1 rfl ?_; conv => whnf)
      | exact absurd (show false = true from h) Bool.false_ne_true
      | exact absurd (show true = false from h) (fun e => Bool.noConfusion e)
      | exact (congrArg Bool.not h)
      | (refine ⟨_, ⟨by first | assumption | decide | omega, by first | assumption | rfl⟩, ?_⟩; conv => whnf)
      | (refine ⟨_, fun _ => ⟨by first | assumption | decide | omega, by first | assumption | rfl⟩, ?_⟩; conv => whnf)
      | exact (rfl : (_ : Nat) = _)
      | exact (rfl : (_ : LV) = _)
      | (refine ⟨fun h => ?_, fun h => ?_⟩ <;> conv => whnf)
      | (refine ⟨?_, ?_⟩ <;> conv => whnf)
      | (intro h; conv => whnf)
    all_goals (revert h; simp_all)
  | some q =>
    refine .intro (by first | (simp [NLs, NL]; done) | (simp [NLs, NL, nlx]; done)) (.intro TT_ok Try.func55 rfl rfl [0, 1, 2, 3, 6, 7, 9, 31, 38, 42] rfl ?_)
    conv => whnf
    repeat' first
      | with_reducible rfl
      | with_reducible exact True.intro
      | assumption
      | (refine CallP.use (h53) ?_; conv => whnf)
      | (refine ⟨_, fun _ => h53, ?_⟩; conv => whnf)
      | (refine CallP.use (h54) ?_; conv => whnf)
      | (refine ⟨_, fun _ => h54, ?_⟩; conv => whnf)
      | (refine CallP.use (d14 x.v tv) ?_; conv => whnf)
      | (refine ⟨_, fun _ => d14 x.v tv, ?_⟩; conv => whnf)
      | (refine W.drawn TT_ok hmix1 rfl ?_; conv => whnf)
      | exact absurd (show false = true from h) Bool.false_ne_true
      | exact absurd (show true = false from h) (fun e => Bool.noConfusion e)
      | exact (congrArg Bool.not h)
      | (refine ⟨_, ⟨by first | assumption | decide | omega, by first | assumption | rfl⟩, ?_⟩; conv => whnf)
      | (refine ⟨_, fun _ => ⟨by first | assumption | decide | omega, by first | assumption | rfl⟩, ?_⟩; conv => whnf)
      | exact (rfl : (_ : Nat) = _)
      | exact (rfl : (_ : LV) = _)
      | (refine ⟨fun h => ?_, fun h => ?_⟩ <;> conv => whnf)
      | (refine ⟨?_, ?_⟩ <;> conv => whnf)
      | (intro h; conv => whnf)
    all_goals (revert h; simp_all)
theorem rp_in {s : Slf} (h : sOk s = true) : InW s (rp s) := by
  intro p hp
  obtain ⟨hl1, hl2, hl3, hl4, hl5, hl6⟩ := hd_len (sOk_hd h)
  unfold rp at hp
  split at hp
  · rename_i q hq
    split at hp
    · cases hp
      obtain ⟨h1, x, h2, h3⟩ := mem_hps.1 (List.mem_of_getElem? hq)
      obtain ⟨n, y, u, hP⟩ := sOk_port h (p := p) (by omega)
      exact ⟨n, x, h2, hP.cs⟩
    · cases hp
  · cases hp
theorem c28 (s : Slf) (hs : sOk s = true) : CallP Try.prog 28 [slfL s] (.tup [vL (tlV s (rp s) 0), I (atI (rp s)), I 0]) := by
  have hw := rp_in hs
  have h33 := c33 s
  rw [hs] at h33
  have h52 := c52 s hs
  have h53 := c53 s (rp s) hw
  have h54 := c54 s (rp s) hw 0
  generalize tlV s (rp s) 0 = tv at h54 ⊢
  generalize atI (rp s) = ai at h53 ⊢
  generalize ageI s (rp s) = ag at h53
  generalize rp s = w at h52 h53 h54
  cases w with
  | none =>
    refine .intro (by first | (simp [NLs, NL]; done) | (simp [NLs, NL, nlx]; done)) (.intro TT_ok Try.func28 rfl rfl [0, 1, 2, 3, 4, 5, 6, 10] rfl ?_)
    conv => whnf
    repeat' first
      | with_reducible rfl
      | with_reducible exact True.intro
      | assumption
      | (refine CallP.use (h33) ?_; conv => whnf)
      | (refine ⟨_, fun _ => h33, ?_⟩; conv => whnf)
      | (refine CallP.use (h52) ?_; conv => whnf)
      | (refine ⟨_, fun _ => h52, ?_⟩; conv => whnf)
      | (refine CallP.use (h53) ?_; conv => whnf)
      | (refine ⟨_, fun _ => h53, ?_⟩; conv => whnf)
      | (refine CallP.use (h54) ?_; conv => whnf)
      | (refine ⟨_, fun _ => h54, ?_⟩; conv => whnf)
      | exact absurd (show false = true from h) Bool.false_ne_true
      | exact absurd (show true = false from h) (fun e => Bool.noConfusion e)
      | exact (congrArg Bool.not h)
      | (refine ⟨_, ⟨by first | assumption | decide | omega, by first | assumption | rfl⟩, ?_⟩; conv => whnf)
      | (refine ⟨_, fun _ => ⟨by first | assumption | decide | omega, by first | assumption | rfl⟩, ?_⟩; conv => whnf)
      | exact (rfl : (_ : Nat) = _)
      | exact (rfl : (_ : LV) = _)
      | (refine ⟨fun h => ?_, fun h => ?_⟩ <;> conv => whnf)
      | (refine ⟨?_, ?_⟩ <;> conv => whnf)
      | (intro h; conv => whnf)
  | some q =>
    refine .intro (by first | (simp [NLs, NL]; done) | (simp [NLs, NL, nlx]; done)) (.intro TT_ok Try.func28 rfl rfl [0, 1, 2, 3, 4, 5, 6, 10] rfl ?_)
    conv => whnf
    repeat' first
      | with_reducible rfl
      | with_reducible exact True.intro
      | assumption
      | (refine CallP.use (h33) ?_; conv => whnf)
      | (refine ⟨_, fun _ => h33, ?_⟩; conv => whnf)
      | (refine CallP.use (h52) ?_; conv => whnf)
      | (refine ⟨_, fun _ => h52, ?_⟩; conv => whnf)
      | (refine CallP.use (h53) ?_; conv => whnf)
      | (refine ⟨_, fun _ => h53, ?_⟩; conv => whnf)
      | (refine CallP.use (h54) ?_; conv => whnf)
      | (refine ⟨_, fun _ => h54, ?_⟩; conv => whnf)
      | exact absurd (show false = true from h) Bool.false_ne_true
      | exact absurd (show true = false from h) (fun e => Bool.noConfusion e)
      | exact (congrArg Bool.not h)
      | (refine ⟨_, ⟨by first | assumption | decide | omega, by first | assumption | rfl⟩, ?_⟩; conv => whnf)
      | (refine ⟨_, fun _ => ⟨by first | assumption | decide | omega, by first | assumption | rfl⟩, ?_⟩; conv => whnf)
      | exact (rfl : (_ : Nat) = _)
      | exact (rfl : (_ : LV) = _)
      | (refine ⟨fun h => ?_, fun h => ?_⟩ <;> conv => whnf)
      | (refine ⟨?_, ?_⟩ <;> conv => whnf)
      | (intro h; conv => whnf)
theorem c28e (s : Slf) (hs : sOk s = false) : CallP Try.prog 28 [slfL s] (.tup [vL ⟨0, 0, 0, 0⟩, I 0, I 1]) := by
  have h33 := c33 s
  rw [hs] at h33
  refine .intro (by first | (simp [NLs, NL]; done) | (simp [NLs, NL, nlx]; done)) (.intro TT_ok Try.func28 rfl rfl [0, 1, 2, 3, 4, 5, 6, 10] rfl ?_)
  conv => whnf
  repeat' first
    | with_reducible rfl
    | with_reducible exact True.intro
    | assumption
    | (refine CallP.use (h33) ?_; conv => whnf)
    | (refine ⟨_, fun _ => h33, ?_⟩; conv => whnf)
    | exact absurd (show false = true from h) Bool.false_ne_true
    | exact absurd (show true = false from h) (fun e => Bool.noConfusion e)
    | exact (congrArg Bool.not h)
    | (refine ⟨_, ⟨by first | assumption | decide | omega, by first | assumption | rfl⟩, ?_⟩; conv => whnf)
    | (refine ⟨_, fun _ => ⟨by first | assumption | decide | omega, by first | assumption | rfl⟩, ?_⟩; conv => whnf)
    | exact (rfl : (_ : Nat) = _)
    | exact (rfl : (_ : LV) = _)
    | (refine ⟨fun h => ?_, fun h => ?_⟩ <;> conv => whnf)
    | (refine ⟨?_, ?_⟩ <;> conv => whnf)
    | (intro h; conv => whnf)
  all_goals rfl
end Go.RX

