/- Contracts of role.Tell, role.Roles, and of what keeps the law from being idle. -/
import Derived.Test.YtammhcpnhejapaaTyk
set_option linter.unusedVariables false
set_option linter.unusedSimpArgs false
open Go Go.RX Go.Proofs
namespace Go.RX
set_option maxRecDepth 10000
set_option maxHeartbeats 2000000
attribute [local irreducible] CallW CallP LoopW W
abbrev cfgL (v : Vc) (a : Int) : LV := .agg [I v.r, I v.c, I v.b, I v.p, I a]
abbrev v0 : Vc := ⟨0, 0, 0, 0⟩
theorem c32e (s : Slf) (hs : sOk s = false) (p m : Int) : CallP Try.prog 32 [slfL s, I p, I m] (.tup [cfgL v0 0, .bool false, I 1]) := by
  have h33 := c33 s
  rw [hs] at h33
  refine .intro (by first | (simp [NLs, NL]; done) | (simp [NLs, NL, nlx]; done)) (.intro TT_ok Try.func32 rfl rfl [0, 1, 2, 3, 6, 7, 8, 9, 11, 12, 17, 26, 48] rfl ?_)
  conv => whnf
  repeat' first
    | with_reducible rfl
    | with_reducible exact True.intro
    | assumption
    | (refine CallP.use (h33) ?_; conv => whnf)
    | (refine ⟨_, fun _ => h33, ?_⟩; conv => whnf)
    | exact absurd (show false = true from h) Bool.false_ne_true
    | exact absurd (show true = false from h) (fun e => Bool.noConfusion e)
    | exact (congrArg Bool.not h)
    | (refine ⟨_, ⟨by first | assumption | decide | omega, by first | assumption | rfl⟩, ?_⟩; conv => whnf)
    | (refine ⟨_, fun _ => ⟨by first | assumption | decide | omega, by first | assumption | rfl⟩, ?_⟩; conv => whnf)
    | exact (rfl : (_ : Nat) = _)
    | exact (rfl : (_ : LV) = _)
    | (refine ⟨fun h => ?_, fun h => ?_⟩ <;> conv => whnf)
    | (refine ⟨?_, ?_⟩ <;> conv => whnf)
    | (intro h; conv => whnf)
  all_goals rfl
theorem c32p (s : Slf) (hs : sOk s = true) (p m : Int) (hp : ¬ (0 ≤ p ∧ p < s.cs.length)) : CallP Try.prog 32 [slfL s, I p, I m] (.tup [cfgL v0 0, .bool false, I 3]) := by
  have h33 := c33 s
  rw [hs] at h33
  obtain ⟨hl1, hl2, hl3, hl4, hl5, hl6⟩ := hd_len (sOk_hd hs)
  have hlw : IntKind.i64.wrap (((s.cs.map fun x => [I x]).length : Int) - 1) = s.cs.length - 1 := by rw [List.length_map]; exact w64_small (by omega) (by omega)
  have h56 := c56 p 0 (IntKind.i64.wrap (((s.cs.map fun x => [I x]).length : Int) - 1))
  rw [show (decide ((0 : Int) ≤ p) && decide (p ≤ IntKind.i64.wrap (((s.cs.map fun x => [I x]).length : Int) - 1))) = false by rw [hlw, ← Bool.not_eq_true]; simp; omega] at h56
  refine .intro (by first | (simp [NLs, NL]; done) | (simp [NLs, NL, nlx]; done)) (.intro TT_ok Try.func32 rfl rfl [0, 1, 2, 3, 6, 7, 8, 9, 11, 12, 17, 26, 48] rfl ?_)
  conv => whnf
  repeat' first
    | with_reducible rfl
    | with_reducible exact True.intro
    | assumption
    | (refine CallP.use (h33) ?_; conv => whnf)
    | (refine ⟨_, fun _ => h33, ?_⟩; conv => whnf)
    | (refine CallP.use (h56) ?_; conv => whnf)
    | (refine ⟨_, fun _ => h56, ?_⟩; conv => whnf)
    | exact absurd (show false = true from h) Bool.false_ne_true
    | exact absurd (show true = false from h) (fun e => Bool.noConfusion e)
    | exact (congrArg Bool.not h)
    | (refine ⟨_, ⟨by first | assumption | decide | omega, by first | assumption | rfl⟩, ?_⟩; conv => whnf)
    | (refine ⟨_, fun _ => ⟨by first | assumption | decide | omega, by first | assumption | rfl⟩, ?_⟩; conv => whnf)
    | exact (rfl : (_ : Nat) = _)
    | exact (rfl : (_ : LV) = _)
    | (refine ⟨fun h => ?_, fun h => ?_⟩ <;> conv => whnf)
    | (refine ⟨?_, ?_⟩ <;> conv => whnf)
    | (intro h; conv => whnf)
  all_goals rfl
theorem c32m (s : Slf) (hs : sOk s = true) (p m : Int) (hp : 0 ≤ p ∧ p < s.cs.length) (hm : ¬ (1 ≤ m ∧ m ≤ 255)) : CallP Try.prog 32 [slfL s, I p, I m] (.tup [cfgL v0 0, .bool false, I 1]) := by
  have h33 := c33 s
  rw [hs] at h33
  obtain ⟨hl1, hl2, hl3, hl4, hl5, hl6⟩ := hd_len (sOk_hd hs)
  have hlw : IntKind.i64.wrap (((s.cs.map fun x => [I x]).length : Int) - 1) = s.cs.length - 1 := by rw [List.length_map]; exact w64_small (by omega) (by omega)
  have h56 := c56 p 0 (IntKind.i64.wrap (((s.cs.map fun x => [I x]).length : Int) - 1))
  rw [show (decide ((0 : Int) ≤ p) && decide (p ≤ IntKind.i64.wrap (((s.cs.map fun x => [I x]).length : Int) - 1))) = true by rw [hlw]; simp; omega] at h56
  have h56b := c56 m 1 255
  rw [show (decide ((1 : Int) ≤ m) && decide (m ≤ 255)) = false by rw [← Bool.not_eq_true]; simp; omega] at h56b
  refine .intro (by first | (simp [NLs, NL]; done) | (simp [NLs, NL, nlx]; done)) (.intro TT_ok Try.func32 rfl rfl [0, 1, 2, 3, 6, 7, 8, 9, 11, 12, 17, 26, 48] rfl ?_)
  conv => whnf
  repeat' first
    | with_reducible rfl
    | with_reducible exact True.intro
    | assumption
    | (refine CallP.use (h33) ?_; conv => whnf)
    | (refine ⟨_, fun _ => h33, ?_⟩; conv => whnf)
    | (refine CallP.use (h56) ?_; conv => whnf)
    | (refine ⟨_, fun _ => h56, ?_⟩; conv => whnf)
    | (refine CallP.use (h56b) ?_; conv => whnf)
    | (refine ⟨_, fun _ => h56b, ?_⟩; conv => whnf)
    | exact absurd (show false = true from h) Bool.false_ne_true
    | exact absurd (show true = false from h) (fun e => Bool.noConfusion e)
    | exact (congrArg Bool.not h)
    | (refine ⟨_, ⟨by first | assumption | decide | omega, by first | assumption | rfl⟩, ?_⟩; conv => whnf)
    | (refine ⟨_, fun _ => ⟨by first | assumption | decide | omega, by first | assumption | rfl⟩, ?_⟩; conv => whnf)
    | exact (rfl : (_ : Nat) = _)
    | exact (rfl : (_ : LV) = _)
    | (refine ⟨fun h => ?_, fun h => ?_⟩ <;> conv => whnf)
    | (refine ⟨?_, ?_⟩ <;> conv => whnf)
    | (intro h; conv => whnf)
  all_goals rfl
def tlIs (s : Slf) (w : Option Nat) (p : Nat) (x : Inf) (u : Bool) (m : Int) : Bool := bif decide (m ≤ ageI s w) then false else decide (rlI s w p x u = 1)
theorem c32 (s : Slf) (hs : sOk s = true) (p : Nat) (x : Inf) (u : Bool) (hx : s.fs[p]? = some x) (hu : s.us[p]? = some u) (m : Int) (hm : 1 ≤ m ∧ m ≤ 255) :
    CallP Try.prog 32 [slfL s, I p, I m] (.tup [cfgL (bif tlIs s (rp s) p x u m then tlV s (rp s) p else v0) (bif tlIs s (rp s) p x u m then ageI s (rp s) else 0), .bool (tlIs s (rp s) p x u m), I 0]) := by
  have hp : p < s.fs.length := (List.getElem?_eq_some_iff.1 hx).1
  have h33 := c33 s
  rw [hs] at h33
  obtain ⟨hl1, hl2, hl3, hl4, hl5, hl6⟩ := hd_len (sOk_hd hs)
  have hlw : IntKind.i64.wrap (((s.cs.map fun x => [I x]).length : Int) - 1) = s.cs.length - 1 := by rw [List.length_map]; exact w64_small (by omega) (by omega)
  have h56 := c56 p 0 (IntKind.i64.wrap (((s.cs.map fun x => [I x]).length : Int) - 1))
  rw [show (decide ((0 : Int) ≤ p) && decide ((p : Int) ≤ IntKind.i64.wrap (((s.cs.map fun x => [I x]).length : Int) - 1))) = true by rw [hlw]; simp; omega] at h56
  have h56b := c56 m 1 255
  rw [show (decide ((1 : Int) ≤ m) && decide (m ≤ 255)) = true by simp; omega] at h56b
  have hw := rp_in hs
  have h52 := c52 s hs
  have h53 := c53 s (rp s) hw
  have h54 := c54 s (rp s) hw p
  have h55 := c55 s (rp s) hw p x u hx hu
  have e : tlIs s (rp s) p x u m = bif decide (m ≤ ageI s (rp s)) then false else decide (rlI s (rp s) p x u = 1) := rfl
  generalize tlIs s (rp s) p x u m = b at e ⊢
  generalize rlI s (rp s) p x u = rl at h55 e
  generalize tlV s (rp s) p = tv at h54 ⊢
  generalize atI (rp s) = ai at h53 ⊢
  generalize ageI s (rp s) = ag at h53 e ⊢
  generalize rp s = w at h52 h53 h54 h55
  cases w with
  | none =>
    refine .intro (by first | (simp [NLs, NL]; done) | (simp [NLs, NL, nlx]; done)) (.intro TT_ok Try.func32 rfl rfl [0, 1, 2, 3, 6, 7, 8, 9, 11, 12, 17, 26, 48] rfl ?_)
    conv => whnf
    repeat' first
      | with_reducible rfl
      | with_reducible exact True.intro
      | assumption
      | (refine CallP.use (h33) ?_; conv => whnf)
      | (refine ⟨_, fun _ => h33, ?_⟩; conv => whnf)
      | (refine CallP.use (h52) ?_; conv => whnf)
      | (refine ⟨_, fun _ => h52, ?_⟩; conv => whnf)
      | (refine CallP.use (h53) ?_; conv => whnf)
      | (refine ⟨_, fun _ => h53, ?_⟩; conv => whnf)
      | (refine CallP.use (h54) ?_; conv => whnf)
      | (refine ⟨_, fun _ => h54, ?_⟩; conv => whnf)
      | (refine CallP.use (h55) ?_; conv => whnf)
      | (refine ⟨_, fun _ => h55, ?_⟩; conv => whnf)
      | (refine CallP.use (h56) ?_; conv => whnf)
      | (refine ⟨_, fun _ => h56, ?_⟩; conv => whnf)
      | (refine CallP.use (h56b) ?_; conv => whnf)
      | (refine ⟨_, fun _ => h56b, ?_⟩; conv => whnf)
      | exact absurd (show false = true from h) Bool.false_ne_true
      | exact absurd (show true = false from h) (fun e => Bool.noConfusion e)
      | exact (congrArg Bool.not h)
      | (refine ⟨_, ⟨by first | assumption | decide | omega, by first | assumption | rfl⟩, ?_⟩; conv => whnf)
      | (refine ⟨_, fun _ => ⟨by first | assumption | decide | omega, by first | assumption | rfl⟩, ?_⟩; conv => whnf)
      | exact (rfl : (_ : Nat) = _)
      | exact (rfl : (_ : LV) = _)
      | (refine ⟨fun h => ?_, fun h => ?_⟩ <;> conv => whnf)
      | (refine ⟨?_, ?_⟩ <;> conv => whnf)
      | (intro h; conv => whnf)
    all_goals (subst e; revert h; cases decide (m ≤ ag) <;> cases decide (rl = 1) <;> simp)
  | some q =>
    refine .intro (by first | (simp [NLs, NL]; done) | (simp [NLs, NL, nlx]; done)) (.intro TT_ok Try.func32 rfl rfl [0, 1, 2, 3, 6, 7, 8, 9, 11, 12, 17, 26, 48] rfl ?_)
    conv => whnf
    repeat' first
      | with_reducible rfl
      | with_reducible exact True.intro
      | assumption
      | (refine CallP.use (h33) ?_; conv => whnf)
      | (refine ⟨_, fun _ => h33, ?_⟩; conv => whnf)
      | (refine CallP.use (h52) ?_; conv => whnf)
      | (refine ⟨_, fun _ => h52, ?_⟩; conv => whnf)
      | (refine CallP.use (h53) ?_; conv => whnf)
      | (refine ⟨_, fun _ => h53, ?_⟩; conv => whnf)
      | (refine CallP.use (h54) ?_; conv => whnf)
      | (refine ⟨_, fun _ => h54, ?_⟩; conv => whnf)
      | (refine CallP.use (h55) ?_; conv => whnf)
      | (refine ⟨_, fun _ => h55, ?_⟩; conv => whnf)
      | (refine CallP.use (h56) ?_; conv => whnf)
      | (refine ⟨_, fun _ => h56, ?_⟩; conv => whnf)
      | (refine CallP.use (h56b) ?_; conv => whnf)
      | (refine ⟨_, fun _ => h56b, ?_⟩; conv => whnf)
      | exact absurd (show false = true from h) Bool.false_ne_true
      | exact absurd (show true = false from h) (fun e => Bool.noConfusion e)
      | exact (congrArg Bool.not h)
      | (refine ⟨_, ⟨by first | assumption | decide | omega, by first | assumption | rfl⟩, ?_⟩; conv => whnf)
      | (refine ⟨_, fun _ => ⟨by first | assumption | decide | omega, by first | assumption | rfl⟩, ?_⟩; conv => whnf)
      | exact (rfl : (_ : Nat) = _)
      | exact (rfl : (_ : LV) = _)
      | (refine ⟨fun h => ?_, fun h => ?_⟩ <;> conv => whnf)
      | (refine ⟨?_, ?_⟩ <;> conv => whnf)
      | (intro h; conv => whnf)
    all_goals (subst e; revert h; cases decide (m ≤ ag) <;> cases decide (rl = 1) <;> simp)
def rlAt (s : Slf) (k : Nat) : Int := match s.fs[k]?, s.us[k]? with
  | some x, some u => rlI s (rp s) k x u
  | _, _ => 0
def rls (s : Slf) : Nat → List Int
  | 0 => []
  | k + 1 => rls s k ++ [rlAt s k]
theorem rls_len (s : Slf) : ∀ k, (rls s k).length = k
  | 0 => rfl
  | k + 1 => by rw [rls, List.length_append, rls_len s k]; rfl
theorem rls_at (s : Slf) : ∀ {n k : Nat}, k < n → (rls s n)[k]? = some (rlAt s k)
  | 0, k, h => absurd h (Nat.not_lt_zero _)
  | n + 1, k, h => by
    rw [rls]
    by_cases hk : k = n
    · subst hk
      rw [List.getElem?_append_right (by rw [rls_len]; exact Nat.le_refl _), rls_len, Nat.sub_self]; rfl
    · rw [List.getElem?_append_left (by rw [rls_len]; omega)]
      exact rls_at s (by omega)
abbrev rlc (s : Slf) (k : Nat) : List (List LV) := (rls s k).map fun x => [I x]
theorem ints_nl (l : List Int) : NLss (l.map fun x => [I x]) := NLss_iff.2 fun cs hc x hx => by
  obtain ⟨p, _, rfl⟩ := List.mem_map.1 hc
  simp only [List.mem_singleton] at hx; subst hx; trivial
abbrev s31 (s : Slf) (w : LV) (k : Nat) : Slots := [(1, .ptr 0 0 0), (4, w), (5, .sl 1 0 (rlc s k).length), (14, I (s.cs.map fun x => [I x]).length), (15, I k)]
abbrev l31 (s : Slf) (k : Nat) : List (Nat × Blk) := [(0, .row 52 4 [[I s.i, intsL s.cs, boolsL s.us, infsL s.fs]]), (1, .row 3 1 (rlc s k))]
theorem c31e (s : Slf) (hs : sOk s = false) : CallP Try.prog 31 [slfL s] (.tup [intsL [], I 1]) := by
  have h33 := c33 s
  rw [hs] at h33
  refine .intro (by first | (simp [NLs, NL]; done) | (simp [NLs, NL, nlx]; done)) (.intro TT_ok Try.func31 rfl rfl [0, 1, 2, 3, 4, 5, 6, 9, 14, 15, 16] rfl ?_)
  conv => whnf
  repeat' first
    | with_reducible rfl
    | with_reducible exact True.intro
    | assumption
    | (refine CallP.use (h33) ?_; conv => whnf)
    | (refine ⟨_, fun _ => h33, ?_⟩; conv => whnf)
    | exact absurd (show false = true from h) Bool.false_ne_true
    | exact absurd (show true = false from h) (fun e => Bool.noConfusion e)
    | exact (congrArg Bool.not h)
    | (refine ⟨_, ⟨by first | assumption | decide | omega, by first | assumption | rfl⟩, ?_⟩; conv => whnf)
    | (refine ⟨_, fun _ => ⟨by first | assumption | decide | omega, by first | assumption | rfl⟩, ?_⟩; conv => whnf)
    | exact (rfl : (_ : Nat) = _)
    | exact (rfl : (_ : LV) = _)
    | (refine ⟨fun h => ?_, fun h => ?_⟩ <;> conv => whnf)
    | (refine ⟨?_, ?_⟩ <;> conv => whnf)
    | (intro h; conv => whnf)
  all_goals rfl
theorem c31 (s : Slf) (hs : sOk s = true) : CallP Try.prog 31 [slfL s] (.tup [intsL (rls s s.cs.length), I 0]) := by
  have h33 := c33 s
  rw [hs] at h33
  obtain ⟨hl1, hl2, hl3, hl4, hl5, hl6⟩ := hd_len (sOk_hd hs)
  have hw := rp_in hs
  have h52 := c52 s hs
  have h55 : ∀ k, k < s.cs.length → CallP Try.prog 55 [slfL s, wayL (rp s), I k] (I (rlAt s k)) := fun k hk => by
    obtain ⟨n, x, u, hP⟩ := sOk_port hs hk
    have := c55 s (rp s) hw k x u hP.fs hP.us
    simpa only [rlAt, hP.fs, hP.us] using this
  generalize rp s = w at h52 h55
  cases w with
  | none =>
    refine .intro (by first | (simp [NLs, NL]; done) | (simp [NLs, NL, nlx]; done)) (.intro TT_ok Try.func31 rfl rfl [0, 1, 2, 3, 4, 5, 6, 9, 14, 15, 16] rfl ?_)
    conv => whnf
    repeat' first
      | with_reducible rfl
      | with_reducible exact True.intro
      | assumption
      | (refine CallP.use (h33) ?_; conv => whnf)
      | (refine ⟨_, fun _ => h33, ?_⟩; conv => whnf)
      | (refine CallP.use (h52) ?_; conv => whnf)
      | (refine ⟨_, fun _ => h52, ?_⟩; conv => whnf)
      | exact absurd (show false = true from h) Bool.false_ne_true
      | exact absurd (show true = false from h) (fun e => Bool.noConfusion e)
      | exact (congrArg Bool.not h)
      | (refine ⟨_, ⟨by first | assumption | decide | omega, by first | assumption | rfl⟩, ?_⟩; conv => whnf)
      | (refine ⟨_, fun _ => ⟨by first | assumption | decide | omega, by first | assumption | rfl⟩, ?_⟩; conv => whnf)
      | exact (rfl : (_ : Nat) = _)
      | exact (rfl : (_ : LV) = _)
      | (refine ⟨fun h => ?_, fun h => ?_⟩ <;> conv => whnf)
      | (refine ⟨?_, ?_⟩ <;> conv => whnf)
      | (intro h; conv => whnf)
    refine LoopW.virt 5 3 1 rfl ?_
    refine LoopW.norm (s31 s (wayL none) 0) 2 (l31 s 0) ⟨rfl, rfl, rfl, rfl, rfl, trivial⟩ ⟨⟨rfl, rfl, ⟨trivial, trivial, trivial, trivial, trivial⟩, trivial⟩, ⟨rfl, rfl, trivial⟩, trivial⟩ ⟨rfl, (nlx none).bels (m := 2), rfl, trivial, trivial, trivial⟩ rfl ?_
    refine LoopW.ind (α := Nat) (fun k => s.cs.length - k) (fun k s' H => k ≤ s.cs.length ∧ s' = s31 s (wayL none) k ∧ H = ⟨2, l31 s k⟩) ?_ (a := 0) ⟨Nat.zero_le _, rfl, rfl⟩
    rintro k s' H ⟨hk, rfl, rfl⟩ ih
    have hq := rls_len s k
    by_cases hi : k < s.cs.length
    · have hd : decide ((k : Int) < ((s.cs.map fun x => [I x]).length : Int)) = true := by simp; omega
      have h55k := h55 k hi
      have e1 : rlc s k ++ [[I (rlAt s k)]] = rlc s (k + 1) := by simp [rlc, rls]
      have f1 : fits (rlc s k ++ [[I (rlAt s k)]]).length 8 := by simp [fits]; omega
      refine LoopW.round TT_ok [0, 1, 2, 3, 4, 5, 6, 9, 14, 15, 16] ?_
      conv => whnf
      repeat' first
        | with_reducible rfl
        | with_reducible exact True.intro
        | assumption
        | exact (Bool.false_ne_true (h.symm.trans hd)).elim
        | exact f1
        | (refine CallP.use (h55k) ?_; conv => whnf)
        | (refine ⟨_, fun _ => h55k, ?_⟩; conv => whnf)
        | exact absurd (show false = true from h) Bool.false_ne_true
        | exact absurd (show true = false from h) (fun e => Bool.noConfusion e)
        | exact (congrArg Bool.not h)
        | (refine ⟨_, ⟨by first | assumption | decide | omega, by first | assumption | rfl⟩, ?_⟩; conv => whnf)
        | (refine ⟨_, fun _ => ⟨by first | assumption | decide | omega, by first | assumption | rfl⟩, ?_⟩; conv => whnf)
        | exact (rfl : (_ : Nat) = _)
        | exact (rfl : (_ : LV) = _)
        | (refine ⟨fun h => ?_, fun h => ?_⟩ <;> conv => whnf)
        | (refine ⟨?_, ?_⟩ <;> conv => whnf)
        | (intro h; conv => whnf)
      refine LoopW.ren [(0, 0), (3, 1)] (s31 s (wayL none) (k + 1)) 2 (l31 s (k + 1)) rfl
        ⟨rfl, rfl, congrArg (fun l : List (List LV) => LV.sl 1 0 l.length) e1, rfl, congrArg (LV.int .i64) (w64_nat (by omega)), trivial⟩
        ⟨⟨rfl, rfl, .inl ⟨rfl, ⟨trivial, trivial, trivial, trivial, trivial⟩, trivial⟩⟩, rfl, rfl, ⟨rfl, rfl, .inl ⟨e1, e1 ▸ ints_nl _⟩⟩, rfl, rfl, trivial⟩ rfl
        (ih (k + 1) _ _ ⟨hi, rfl, rfl⟩ (by omega))
    · have hd : decide ((k : Int) < ((s.cs.map fun x => [I x]).length : Int)) = false := by simp; omega
      have hkk : k = s.cs.length := by omega
      subst hkk
      clear ih
      refine LoopW.round TT_ok [0, 1, 2, 3, 4, 5, 6, 9, 14, 15, 16] ?_
      conv => whnf
      repeat' first
        | with_reducible rfl
        | with_reducible exact True.intro
        | assumption
        | exact (Bool.false_ne_true (hd.symm.trans h)).elim
        | exact ints_nl _
        | exact absurd (show false = true from h) Bool.false_ne_true
        | exact absurd (show true = false from h) (fun e => Bool.noConfusion e)
        | exact (congrArg Bool.not h)
        | (refine ⟨_, ⟨by first | assumption | decide | omega, by first | assumption | rfl⟩, ?_⟩; conv => whnf)
        | (refine ⟨_, fun _ => ⟨by first | assumption | decide | omega, by first | assumption | rfl⟩, ?_⟩; conv => whnf)
        | exact (rfl : (_ : Nat) = _)
        | exact (rfl : (_ : LV) = _)
        | (refine ⟨fun h => ?_, fun h => ?_⟩ <;> conv => whnf)
        | (refine ⟨?_, ?_⟩ <;> conv => whnf)
        | (intro h; conv => whnf)
      all_goals trace_state
   | some q =>
    refine .intro (by first | (simp [NLs, NL]; done) | (simp [NLs, NL, nlx]; done)) (.intro TT_ok Try.func31 rfl rfl [0, 1, 2, 3, 4, 5, 6, 9, 14, 15, 16] rfl ?_)
    conv => whnf
    repeat' first
      | with_reducible rfl
      | with_reducible exact True.intro
      | assumption
      | (refine CallP.use (h33) ?_; conv => whnf)
      | (refine ⟨_, fun _ => h33, ?_⟩; conv => whnf)
      | (refine CallP.use (h52) ?_; conv => whnf)
      | (refine ⟨_, fun _ => h52, ?_⟩; conv => whnf)
      | exact absurd (show false = true from h) Bool.false_ne_true
      | exact absurd (show true = false from h) (fun e => Bool.noConfusion e)
      | exact (congrArg Bool.not h)
      | (refine ⟨_, ⟨by first | assumption | decide | omega, by first | assumption | rfl⟩, ?_⟩; conv => whnf)
      | (refine ⟨_, fun _ => ⟨by first | assumption | decide | omega, by first | assumption | rfl⟩, ?_⟩; conv => whnf)
      | exact (rfl : (_ : Nat) = _)
      | exact (rfl : (_ : LV) = _)
      | (refine ⟨fun h => ?_, fun h => ?_⟩ <;> conv => whnf)
      | (refine ⟨?_, ?_⟩ <;> conv => whnf)
      | (intro h; conv => whnf)
    refine LoopW.virt 5 3 1 rfl ?_
    refine LoopW.norm (s31 s (wayL (some q)) 0) 2 (l31 s 0) ⟨rfl, rfl, rfl, rfl, rfl, trivial⟩ ⟨⟨rfl, rfl, ⟨trivial, trivial, trivial, trivial, trivial⟩, trivial⟩, ⟨rfl, rfl, trivial⟩, trivial⟩ ⟨rfl, (nlx (some q)).bels (m := 2), rfl, trivial, trivial, trivial⟩ rfl ?_
    refine LoopW.ind (α := Nat) (fun k => s.cs.length - k) (fun k s' H => k ≤ s.cs.length ∧ s' = s31 s (wayL (some q)) k ∧ H = ⟨2, l31 s k⟩) ?_ (a := 0) ⟨Nat.zero_le _, rfl, rfl⟩
    rintro k s' H ⟨hk, rfl, rfl⟩ ih
    have hq := rls_len s k
    by_cases hi : k < s.cs.length
    · have hd : decide ((k : Int) < ((s.cs.map fun x => [I x]).length : Int)) = true := by simp; omega
      have h55k := h55 k hi
      have e1 : rlc s k ++ [[I (rlAt s k)]] = rlc s (k + 1) := by simp [rlc, rls]
      have f1 : fits (rlc s k ++ [[I (rlAt s k)]]).length 8 := by simp [fits]; omega
      refine LoopW.round TT_ok [0, 1, 2, 3, 4, 5, 6, 9, 14, 15, 16] ?_
      conv => whnf
      repeat' first
        | with_reducible rfl
        | with_reducible exact True.intro
        | assumption
        | exact (Bool.false_ne_true (h.symm.trans hd)).elim
        | exact f1
        | (refine CallP.use (h55k) ?_; conv => whnf)
        | (refine ⟨_, fun _ => h55k, ?_⟩; conv => whnf)
        | exact absurd (show false = true from h) Bool.false_ne_true
        | exact absurd (show true = false from h) (fun e => Bool.noConfusion e)
        | exact (congrArg Bool.not h)
        | (refine ⟨_, ⟨by first | assumption | decide | omega, by first | assumption | rfl⟩, ?_⟩; conv => whnf)
        | (refine ⟨_, fun _ => ⟨by first | assumption | decide | omega, by first | assumption | rfl⟩, ?_⟩; conv => whnf)
        | exact (rfl : (_ : Nat) = _)
        | exact (rfl : (_ : LV) = _)
        | (refine ⟨fun h => ?_, fun h => ?_⟩ <;> conv => whnf)
        | (refine ⟨?_, ?_⟩ <;> conv => whnf)
        | (intro h; conv => whnf)
      refine LoopW.ren [(0, 0), (3, 1)] (s31 s (wayL (some q)) (k + 1)) 2 (l31 s (k + 1)) rfl
        ⟨rfl, rfl, congrArg (fun l : List (List LV) => LV.sl 1 0 l.length) e1, rfl, congrArg (LV.int .i64) (w64_nat (by omega)), trivial⟩
        ⟨⟨rfl, rfl, .inl ⟨rfl, ⟨trivial, trivial, trivial, trivial, trivial⟩, trivial⟩⟩, rfl, rfl, ⟨rfl, rfl, .inl ⟨e1, e1 ▸ ints_nl _⟩⟩, rfl, rfl, trivial⟩ rfl
        (ih (k + 1) _ _ ⟨hi, rfl, rfl⟩ (by omega))
    · have hd : decide ((k : Int) < ((s.cs.map fun x => [I x]).length : Int)) = false := by simp; omega
      have hkk : k = s.cs.length := by omega
      subst hkk
      clear ih
      refine LoopW.round TT_ok [0, 1, 2, 3, 4, 5, 6, 9, 14, 15, 16] ?_
      conv => whnf
      repeat' first
        | with_reducible rfl
        | with_reducible exact True.intro
        | assumption
        | exact (Bool.false_ne_true (hd.symm.trans h)).elim
        | exact ints_nl _
        | exact absurd (show false = true from h) Bool.false_ne_true
        | exact absurd (show true = false from h) (fun e => Bool.noConfusion e)
        | exact (congrArg Bool.not h)
        | (refine ⟨_, ⟨by first | assumption | decide | omega, by first | assumption | rfl⟩, ?_⟩; conv => whnf)
        | (refine ⟨_, fun _ => ⟨by first | assumption | decide | omega, by first | assumption | rfl⟩, ?_⟩; conv => whnf)
        | exact (rfl : (_ : Nat) = _)
        | exact (rfl : (_ : LV) = _)
        | (refine ⟨fun h => ?_, fun h => ?_⟩ <;> conv => whnf)
        | (refine ⟨?_, ?_⟩ <;> conv => whnf)
        | (intro h; conv => whnf)
      all_goals trace_state
end Go.RX

