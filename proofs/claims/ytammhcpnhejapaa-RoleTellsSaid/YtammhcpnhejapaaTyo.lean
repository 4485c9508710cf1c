/- More contracts of the document's own functions of layer 11. -/
import Derived.Test.YtammhcpnhejapaaTyn
set_option linter.unusedVariables false
set_option linter.unusedSimpArgs false
open Go Go.RX Go.Proofs
namespace Go.RX
set_option maxRecDepth 10000
set_option maxHeartbeats 2000000
attribute [local irreducible] CallW CallP LoopW W IntKind.wrap
theorem c35 (s : Slf) (hs : sOk s = true) (p : Int) : CallP Try.prog 35 [slfL s, I p] (vL (tlV s (rp s) p)) := by
  have h36 := c36 s hs
  rcases rp_spec hs with ⟨e, _⟩ | ⟨q, e, hT, _⟩
  · rw [e] at h36 ⊢
    have d : decide (atI none < 0) = true := rfl
    refine .intro (by first | (simp [NLs, NL]; done) | (simp [NLs, NL, nlx]; done)) (.intro TT_ok Try.func35 rfl rfl [0, 1, 2, 4, 5, 6, 10] rfl ?_)
    conv => whnf
    repeat' first
      | with_reducible rfl
      | with_reducible exact True.intro
      | with_reducible assumption
      | exact (Bool.false_ne_true (h.symm.trans d)).elim
      | (refine CallP.use (h36) ?_; conv => whnf)
      | (refine ⟨_, fun _ => h36, ?_⟩; conv => whnf)
      | assumption
      | exact absurd (show false = true from h) Bool.false_ne_true
      | exact absurd (show true = false from h) (fun e => Bool.noConfusion e)
      | exact (congrArg Bool.not h)
      | (refine ⟨_, ⟨by first | assumption | decide | omega, by first | assumption | rfl⟩, ?_⟩; conv => whnf)
      | (refine ⟨_, fun _ => ⟨by first | assumption | decide | omega, by first | assumption | rfl⟩, ?_⟩; conv => whnf)
      | exact (rfl : (_ : Nat) = _)
      | exact (rfl : (_ : LV) = _)
      | (refine ⟨fun h => ?_, fun h => ?_⟩ <;> conv => whnf)
      | (refine ⟨?_, ?_⟩ <;> conv => whnf)
      | (intro h; conv => whnf)
    all_goals rfl
  · rw [e] at h36 ⊢
    have h59 := d59 s hs q hT
    have d : decide (atI (some q) < 0) = false := by rw [decide_eq_false_iff_not]; simp only [atI]; omega
    refine .intro (by first | (simp [NLs, NL]; done) | (simp [NLs, NL, nlx]; done)) (.intro TT_ok Try.func35 rfl rfl [0, 1, 2, 4, 5, 6, 10] rfl ?_)
    conv => whnf
    repeat' first
      | with_reducible rfl
      | with_reducible exact True.intro
      | with_reducible assumption
      | exact (Bool.false_ne_true (d.symm.trans h)).elim
      | (refine CallP.use (h36) ?_; conv => whnf)
      | (refine ⟨_, fun _ => h36, ?_⟩; conv => whnf)
      | (refine CallP.use (h59) ?_; conv => whnf)
      | (refine ⟨_, fun _ => h59, ?_⟩; conv => whnf)
      | assumption
      | exact absurd (show false = true from h) Bool.false_ne_true
      | exact absurd (show true = false from h) (fun e => Bool.noConfusion e)
      | exact (congrArg Bool.not h)
      | (refine ⟨_, ⟨by first | assumption | decide | omega, by first | assumption | rfl⟩, ?_⟩; conv => whnf)
      | (refine ⟨_, fun _ => ⟨by first | assumption | decide | omega, by first | assumption | rfl⟩, ?_⟩; conv => whnf)
      | exact (rfl : (_ : Nat) = _)
      | exact (rfl : (_ : LV) = _)
      | (refine ⟨fun h => ?_, fun h => ?_⟩ <;> conv => whnf)
      | (refine ⟨?_, ?_⟩ <;> conv => whnf)
      | (intro h; conv => whnf)
    all_goals rfl
theorem c60 (s : Slf) (hs : sOk s = true) (p : Nat) (x : Inf) (u : Bool) (hx : s.fs[p]? = some x) (hu : s.us[p]? = some u) : CallP Try.prog 60 [slfL s, I p] (I (rlI s (rp s) p x u)) := by
  have hb : (s.fs.map Inf.cells)[p]? = some [.bool x.h, I x.r, I x.c, I x.b, I x.p, I x.a] := by simp [hx]
  have hb2 : (s.us.map fun x => [LV.bool x])[p]? = some [LV.bool u] := by simp [hu]
  have h36 := c36 s hs
  have h35 := c35 s hs p
  have h44 := c44 x.v (tlV s (rp s) p)
  have hlt : x.h = true → ltB x.v (tlV s (rp s) p) = bet x.v (tlV s (rp s) p) := by
    intro hxh
    obtain ⟨hl1, hl2, hl3, hl4, hl5, hl6⟩ := hd_len (sOk_hd hs)
    have hpl := (List.getElem?_eq_some_iff.1 hx).1
    obtain ⟨n, y, v, hP⟩ := sOk_port hs (p := p) (by omega)
    have := hP.fs
    rw [hx] at this; cases this
    have hr := (hP.told hxh).2.1
    have ht := tl_right hs (p := (p : Int)) (by omega)
    rw [Bool.eq_iff_iff, ltB_iff, bet_of hr ht]
  have e : rlI s (rp s) p x u = if u = false then 3 else if (p : Int) = atI (rp s) then 0 else if x.h = true ∧ bet x.v (tlV s (rp s) p) = true then 2 else 1 := rfl
  rw [e]
  clear e hs
  generalize tlV s (rp s) p = tv at h35 h44 hlt ⊢
  generalize atI (rp s) = ai at h36 ⊢
  cases hxh : x.h with
  | true =>
    rw [hlt hxh] at h44
    rw [hxh] at hb
    refine .intro (by first | (simp [NLs, NL]; done) | (simp [NLs, NL, nlx]; done)) (.intro TT_ok Try.func60 rfl rfl [0, 1, 2, 4, 10, 14, 32] rfl ?_)
    conv => whnf
    repeat' first
      | with_reducible rfl
      | with_reducible exact True.intro
      | with_reducible assumption
      | (refine CallP.use (h36) ?_; conv => whnf)
      | (refine ⟨_, fun _ => h36, ?_⟩; conv => whnf)
      | (refine CallP.use (h35) ?_; conv => whnf)
      | (refine ⟨_, fun _ => h35, ?_⟩; conv => whnf)
      | (refine CallP.use (h44) ?_; conv => whnf)
      | (refine ⟨_, fun _ => h44, ?_⟩; conv => whnf)
      | assumption
      | (refine W.drawn TT_ok hmix1 rfl ?_; conv => whnf)
      | exact absurd (show false = true from h) Bool.false_ne_true
      | exact absurd (show true = false from h) (fun e => Bool.noConfusion e)
      | exact (congrArg Bool.not h)
      | (refine ⟨_, ⟨by first | assumption | decide | omega, by first | assumption | rfl⟩, ?_⟩; conv => whnf)
      | (refine ⟨_, fun _ => ⟨by first | assumption | decide | omega, by first | assumption | rfl⟩, ?_⟩; conv => whnf)
      | exact (rfl : (_ : Nat) = _)
      | exact (rfl : (_ : LV) = _)
      | (refine ⟨fun h => ?_, fun h => ?_⟩ <;> conv => whnf)
      | (refine ⟨?_, ?_⟩ <;> conv => whnf)
      | (intro h; conv => whnf)
    all_goals (revert h; simp_all)
  | false =>
    rw [hxh] at hb
    refine .intro (by first | (simp [NLs, NL]; done) | (simp [NLs, NL, nlx]; done)) (.intro TT_ok Try.func60 rfl rfl [0, 1, 2, 4, 10, 14, 32] rfl ?_)
    conv => whnf
    repeat' first
      | with_reducible rfl
      | with_reducible exact True.intro
      | with_reducible assumption
      | (refine CallP.use (h36) ?_; conv => whnf)
      | (refine ⟨_, fun _ => h36, ?_⟩; conv => whnf)
      | (refine CallP.use (h35) ?_; conv => whnf)
      | (refine ⟨_, fun _ => h35, ?_⟩; conv => whnf)
      | (refine CallP.use (h44) ?_; conv => whnf)
      | (refine ⟨_, fun _ => h44, ?_⟩; conv => whnf)
      | assumption
      | (refine W.drawn TT_ok hmix1 rfl ?_; conv => whnf)
      | exact absurd (show false = true from h) Bool.false_ne_true
      | exact absurd (show true = false from h) (fun e => Bool.noConfusion e)
      | exact (congrArg Bool.not h)
      | (refine ⟨_, ⟨by first | assumption | decide | omega, by first | assumption | rfl⟩, ?_⟩; conv => whnf)
      | (refine ⟨_, fun _ => ⟨by first | assumption | decide | omega, by first | assumption | rfl⟩, ?_⟩; conv => whnf)
      | exact (rfl : (_ : Nat) = _)
      | exact (rfl : (_ : LV) = _)
      | (refine ⟨fun h => ?_, fun h => ?_⟩ <;> conv => whnf)
      | (refine ⟨?_, ?_⟩ <;> conv => whnf)
      | (intro h; conv => whnf)
    all_goals (revert h; simp_all)
abbrev s38 (s : Slf) (k : Nat) : Slots := [(1, .ptr 0 0 0), (3, .sl 1 0 (rlc s k).length), (8, I (s.cs.map fun x => [I x]).length), (9, I k)]
theorem c38 (s : Slf) (hs : sOk s = true) : CallP Try.prog 38 [slfL s] (intsL (rls s s.cs.length)) := by
  obtain ⟨hl1, hl2, hl3, hl4, hl5, hl6⟩ := hd_len (sOk_hd hs)
  have h60 : ∀ k, k < s.cs.length → CallP Try.prog 60 [slfL s, I k] (I (rlAt s k)) := fun k hk => by
    obtain ⟨n, x, u, hP⟩ := sOk_port hs hk
    have := c60 s hs k x u hP.fs hP.us
    simpa only [rlAt, hP.fs, hP.us] using this
  refine .intro (by first | (simp [NLs, NL]; done) | (simp [NLs, NL, nlx]; done)) (.intro TT_ok Try.func38 rfl rfl [0, 1, 2, 3, 4, 8, 9, 10] rfl ?_)
  conv => whnf
  repeat' first
    | with_reducible rfl
    | with_reducible exact True.intro
    | with_reducible assumption
    | assumption
    | exact absurd (show false = true from h) Bool.false_ne_true
    | exact absurd (show true = false from h) (fun e => Bool.noConfusion e)
    | exact (congrArg Bool.not h)
    | (refine ⟨_, ⟨by first | assumption | decide | omega, by first | assumption | rfl⟩, ?_⟩; conv => whnf)
    | (refine ⟨_, fun _ => ⟨by first | assumption | decide | omega, by first | assumption | rfl⟩, ?_⟩; conv => whnf)
    | exact (rfl : (_ : Nat) = _)
    | exact (rfl : (_ : LV) = _)
    | (refine ⟨fun h => ?_, fun h => ?_⟩ <;> conv => whnf)
    | (refine ⟨?_, ?_⟩ <;> conv => whnf)
    | (intro h; conv => whnf)
  refine LoopW.norm (s38 s 0) 2 (l31 s 0) ⟨rfl, rfl, rfl, rfl, trivial⟩ ⟨⟨rfl, rfl, ⟨trivial, trivial, trivial, trivial, trivial⟩, trivial⟩, ⟨rfl, rfl, trivial⟩, trivial⟩ ⟨rfl, rfl, trivial, trivial, trivial⟩ rfl ?_
  refine LoopW.ind (α := Nat) (fun k => s.cs.length - k) (fun k s' H => k ≤ s.cs.length ∧ s' = s38 s k ∧ H = ⟨2, l31 s k⟩) ?_ (a := 0) ⟨Nat.zero_le _, rfl, rfl⟩
  rintro k s' H ⟨hk, rfl, rfl⟩ ih
  have hq := rls_len s k
  by_cases hi : k < s.cs.length
  · have hd : decide ((k : Int) < ((s.cs.map fun x => [I x]).length : Int)) = true := by simp; omega
    have h60k := h60 k hi
    have e1 : rlc s k ++ [[I (rlAt s k)]] = rlc s (k + 1) := by simp [rlc, rls]
    have f1 : fits (rlc s k ++ [[I (rlAt s k)]]).length 8 := by simp [fits]; omega
    refine LoopW.round TT_ok [0, 1, 2, 3, 4, 8, 9, 10] ?_
    conv => whnf
    repeat' first
      | with_reducible rfl
      | with_reducible exact True.intro
      | with_reducible assumption
      | exact (Bool.false_ne_true (h.symm.trans hd)).elim
      | exact f1
      | (refine CallP.use (h60k) ?_; conv => whnf)
      | (refine ⟨_, fun _ => h60k, ?_⟩; conv => whnf)
      | assumption
      | exact absurd (show false = true from h) Bool.false_ne_true
      | exact absurd (show true = false from h) (fun e => Bool.noConfusion e)
      | exact (congrArg Bool.not h)
      | (refine ⟨_, ⟨by first | assumption | decide | omega, by first | assumption | rfl⟩, ?_⟩; conv => whnf)
      | (refine ⟨_, fun _ => ⟨by first | assumption | decide | omega, by first | assumption | rfl⟩, ?_⟩; conv => whnf)
      | exact (rfl : (_ : Nat) = _)
      | exact (rfl : (_ : LV) = _)
      | (refine ⟨fun h => ?_, fun h => ?_⟩ <;> conv => whnf)
      | (refine ⟨?_, ?_⟩ <;> conv => whnf)
      | (intro h; conv => whnf)
    refine LoopW.ren [(0, 0), (3, 1)] (s38 s (k + 1)) 2 (l31 s (k + 1)) rfl
      ⟨rfl, congrArg (fun l : List (List LV) => LV.sl 1 0 l.length) e1, rfl, congrArg (LV.int .i64) (w64_nat (by omega)), trivial⟩
      ⟨⟨rfl, rfl, .inl ⟨rfl, ⟨trivial, trivial, trivial, trivial, trivial⟩, trivial⟩⟩, rfl, rfl, ⟨rfl, rfl, .inl ⟨e1, e1 ▸ ints_nl _⟩⟩, rfl, rfl, trivial⟩ rfl
      (ih (k + 1) _ _ ⟨hi, rfl, rfl⟩ (by omega))
  · have hd : decide ((k : Int) < ((s.cs.map fun x => [I x]).length : Int)) = false := by simp; omega
    have hkk : k = s.cs.length := by omega
    subst hkk
    clear ih
    refine LoopW.round TT_ok [0, 1, 2, 3, 4, 8, 9, 10] ?_
    conv => whnf
    repeat' first
      | with_reducible rfl
      | with_reducible exact True.intro
      | with_reducible assumption
      | exact (Bool.false_ne_true (hd.symm.trans h)).elim
      | exact ints_nl _
      | assumption
      | exact absurd (show false = true from h) Bool.false_ne_true
      | exact absurd (show true = false from h) (fun e => Bool.noConfusion e)
      | exact (congrArg Bool.not h)
      | (refine ⟨_, ⟨by first | assumption | decide | omega, by first | assumption | rfl⟩, ?_⟩; conv => whnf)
      | (refine ⟨_, fun _ => ⟨by first | assumption | decide | omega, by first | assumption | rfl⟩, ?_⟩; conv => whnf)
      | exact (rfl : (_ : Nat) = _)
      | exact (rfl : (_ : LV) = _)
      | (refine ⟨fun h => ?_, fun h => ?_⟩ <;> conv => whnf)
      | (refine ⟨?_, ?_⟩ <;> conv => whnf)
      | (intro h; conv => whnf)
theorem c39 (s : Slf) (hs : sOk s = true) (p : Nat) (x : Inf) (u : Bool) (hx : s.fs[p]? = some x) (hu : s.us[p]? = some u) (m : Int) :
    CallP Try.prog 39 [slfL s, I p, I m] (.tup [cfgL (bif tlIs s (rp s) p x u m then tlV s (rp s) p else v0) (bif tlIs s (rp s) p x u m then ageI s (rp s) else 0), .bool (tlIs s (rp s) p x u m)]) := by
  have h36 := c36 s hs
  have h35 := c35 s hs p
  have h60 := c60 s hs p x u hx hu
  have hag : ∀ q, rp s = some q → ∃ y, s.fs[q]? = some y ∧ ageI s (rp s) = w64 (y.a + 1) := by
    intro q hq
    obtain ⟨n, y, h1, h2⟩ := rp_in hs q hq
    exact ⟨y, h1, by rw [hq]; simp only [ageI, h1]⟩
  have hag0 : rp s = none → ageI s (rp s) = 0 := fun h => by rw [h]; rfl
  have e : tlIs s (rp s) p x u m = bif decide (m ≤ ageI s (rp s)) then false else decide (rlI s (rp s) p x u = 1) := rfl
  generalize tlIs s (rp s) p x u m = b at e ⊢
  generalize rlI s (rp s) p x u = rl at h60 e
  generalize tlV s (rp s) p = tv at h35 ⊢
  generalize ageI s (rp s) = ag at hag hag0 e ⊢
  generalize rp s = w at h36 hag hag0
  cases w with
  | none =>
    have ha := hag0 rfl
    subst ha
    have d : decide (0 ≤ atI none) = false := rfl
    refine .intro (by first | (simp [NLs, NL]; done) | (simp [NLs, NL, nlx]; done)) (.intro TT_ok Try.func39 rfl rfl [0, 1, 2, 3, 6, 7, 8, 9, 13, 29] rfl ?_)
    conv => whnf
    repeat' first
      | with_reducible rfl
      | with_reducible exact True.intro
      | with_reducible assumption
      | exact (Bool.false_ne_true (d.symm.trans h)).elim
      | (refine CallP.use (h36) ?_; conv => whnf)
      | (refine ⟨_, fun _ => h36, ?_⟩; conv => whnf)
      | (refine CallP.use (h35) ?_; conv => whnf)
      | (refine ⟨_, fun _ => h35, ?_⟩; conv => whnf)
      | (refine CallP.use (h60) ?_; conv => whnf)
      | (refine ⟨_, fun _ => h60, ?_⟩; conv => whnf)
      | assumption
      | exact absurd (show false = true from h) Bool.false_ne_true
      | exact absurd (show true = false from h) (fun e => Bool.noConfusion e)
      | exact (congrArg Bool.not h)
      | (refine ⟨_, ⟨by first | assumption | decide | omega, by first | assumption | rfl⟩, ?_⟩; conv => whnf)
      | (refine ⟨_, fun _ => ⟨by first | assumption | decide | omega, by first | assumption | rfl⟩, ?_⟩; conv => whnf)
      | exact (rfl : (_ : Nat) = _)
      | exact (rfl : (_ : LV) = _)
      | (refine ⟨fun h => ?_, fun h => ?_⟩ <;> conv => whnf)
      | (refine ⟨?_, ?_⟩ <;> conv => whnf)
      | (intro h; conv => whnf)
    all_goals (subst e; revert h; cases decide (m ≤ 0) <;> cases decide (rl = 1) <;> simp)
  | some q =>
    obtain ⟨y, hy, ha⟩ := hag q rfl
    subst ha
    have hbq : (s.fs.map Inf.cells)[q]? = some y.cells := by simp [hy]
    have hq0 : (0 : Int) ≤ atI (some q) := Int.natCast_nonneg q
    have d : decide (0 ≤ atI (some q)) = true := by rw [decide_eq_true_eq]; simp only [atI]; omega
    refine .intro (by first | (simp [NLs, NL]; done) | (simp [NLs, NL, nlx]; done)) (.intro TT_ok Try.func39 rfl rfl [0, 1, 2, 3, 6, 7, 8, 9, 13, 29] rfl ?_)
    conv => whnf
    repeat' first
      | with_reducible rfl
      | with_reducible exact True.intro
      | with_reducible assumption
      | exact (Bool.false_ne_true (h.symm.trans d)).elim
      | (refine CallP.use (h36) ?_; conv => whnf)
      | (refine ⟨_, fun _ => h36, ?_⟩; conv => whnf)
      | (refine CallP.use (h35) ?_; conv => whnf)
      | (refine ⟨_, fun _ => h35, ?_⟩; conv => whnf)
      | (refine CallP.use (h60) ?_; conv => whnf)
      | (refine ⟨_, fun _ => h60, ?_⟩; conv => whnf)
      | assumption
      | exact absurd (show false = true from h) Bool.false_ne_true
      | exact absurd (show true = false from h) (fun e => Bool.noConfusion e)
      | exact (congrArg Bool.not h)
      | (refine ⟨_, ⟨by first | assumption | decide | omega, by first | assumption | rfl⟩, ?_⟩; conv => whnf)
      | (refine ⟨_, fun _ => ⟨by first | assumption | decide | omega, by first | assumption | rfl⟩, ?_⟩; conv => whnf)
      | exact (rfl : (_ : Nat) = _)
      | exact (rfl : (_ : LV) = _)
      | (refine ⟨fun h => ?_, fun h => ?_⟩ <;> conv => whnf)
      | (refine ⟨?_, ?_⟩ <;> conv => whnf)
      | (intro h; conv => whnf)
    all_goals (subst e; revert h; cases decide (m ≤ w64 (y.a + 1)) <;> cases decide (rl = 1) <;> simp)
abbrev s37 (l : List Int) (k : Nat) : Slots := [(0, intsL l), (1, intsL l), (12, I (l.map fun x => [I x]).length), (13, I k)]
theorem c37 (l : List Int) (hl : l.length ≤ 1000) : CallP Try.prog 37 [intsL l, intsL l] (.bool true) := by
  refine .intro (by first | (simp [NLs, NL]; done) | (simp [NLs, NL, nlx]; done)) (.intro TT_ok Try.func37 rfl rfl [0, 1, 4, 5, 10, 12, 13, 14, 24] rfl ?_)
  conv => whnf
  have hn : decide (((l.map fun x => [I x]).length : Int) = ((l.map fun x => [I x]).length : Int)) = true := by simp
  repeat' first
    | with_reducible rfl
    | with_reducible exact True.intro
    | with_reducible assumption
    | (exfalso; revert h; simp; done)
    | assumption
    | (refine W.drawn TT_ok hmix1 rfl ?_; conv => whnf)
    | exact absurd (show false = true from h) Bool.false_ne_true
    | exact absurd (show true = false from h) (fun e => Bool.noConfusion e)
    | exact (congrArg Bool.not h)
    | (refine ⟨_, ⟨by first | assumption | decide | omega, by first | assumption | rfl⟩, ?_⟩; conv => whnf)
    | (refine ⟨_, fun _ => ⟨by first | assumption | decide | omega, by first | assumption | rfl⟩, ?_⟩; conv => whnf)
    | exact (rfl : (_ : Nat) = _)
    | exact (rfl : (_ : LV) = _)
    | (refine ⟨fun h => ?_, fun h => ?_⟩ <;> conv => whnf)
    | (refine ⟨?_, ?_⟩ <;> conv => whnf)
    | (intro h; conv => whnf)
  refine LoopW.norm (s37 l 0) 0 [] ⟨rfl, rfl, rfl, rfl, trivial⟩ trivial ⟨trivial, trivial, trivial, trivial, trivial⟩ rfl ?_
  refine LoopW.ind (α := Nat) (fun k => l.length - k) (fun k s' H => k ≤ l.length ∧ s' = s37 l k ∧ H = ⟨0, []⟩) ?_ (a := 0) ⟨Nat.zero_le _, rfl, rfl⟩
  rintro k s' H ⟨hk, rfl, rfl⟩ ih
  by_cases hi : k < l.length
  · have hd : decide ((k : Int) < ((l.map fun x => [I x]).length : Int)) = true := by simp; omega
    have hb : (l.map fun x => [I x])[k]? = some [I l[k]] := by simp [hi]
    have he : decide (l[k] = l[k]) = true := by simp
    refine LoopW.round TT_ok [0, 1, 4, 5, 10, 12, 13, 14, 24] ?_
    conv => whnf
    repeat' first
      | with_reducible rfl
      | with_reducible exact True.intro
      | with_reducible assumption
      | exact (Bool.false_ne_true (h.symm.trans hd)).elim
      | (exfalso; revert h; simp; done)
      | assumption
      | (refine W.drawn TT_ok hmix1 rfl ?_; conv => whnf)
      | exact absurd (show false = true from h) Bool.false_ne_true
      | exact absurd (show true = false from h) (fun e => Bool.noConfusion e)
      | exact (congrArg Bool.not h)
      | (refine ⟨_, ⟨by first | assumption | decide | omega, by first | assumption | rfl⟩, ?_⟩; conv => whnf)
      | (refine ⟨_, fun _ => ⟨by first | assumption | decide | omega, by first | assumption | rfl⟩, ?_⟩; conv => whnf)
      | exact (rfl : (_ : Nat) = _)
      | exact (rfl : (_ : LV) = _)
      | (refine ⟨fun h => ?_, fun h => ?_⟩ <;> conv => whnf)
      | (refine ⟨?_, ?_⟩ <;> conv => whnf)
      | (intro h; conv => whnf)
    refine LoopW.norm (s37 l (k + 1)) 0 [] ⟨rfl, rfl, rfl, congrArg (LV.int .i64) (w64_nat (by omega)), trivial⟩ trivial ⟨trivial, trivial, trivial, trivial, trivial⟩ rfl (ih (k + 1) _ _ ⟨hi, rfl, rfl⟩ (by omega))
  · have hd : decide ((k : Int) < ((l.map fun x => [I x]).length : Int)) = false := by simp; omega
    refine LoopW.round TT_ok [0, 1, 4, 5, 10, 12, 13, 14, 24] ?_
    conv => whnf
    repeat' first
      | with_reducible rfl
      | with_reducible exact True.intro
      | with_reducible assumption
      | exact (Bool.false_ne_true (hd.symm.trans h)).elim
      | assumption
      | (refine W.drawn TT_ok hmix1 rfl ?_; conv => whnf)
      | exact absurd (show false = true from h) Bool.false_ne_true
      | exact absurd (show true = false from h) (fun e => Bool.noConfusion e)
      | exact (congrArg Bool.not h)
      | (refine ⟨_, ⟨by first | assumption | decide | omega, by first | assumption | rfl⟩, ?_⟩; conv => whnf)
      | (refine ⟨_, fun _ => ⟨by first | assumption | decide | omega, by first | assumption | rfl⟩, ?_⟩; conv => whnf)
      | exact (rfl : (_ : Nat) = _)
      | exact (rfl : (_ : LV) = _)
      | (refine ⟨fun h => ?_, fun h => ?_⟩ <;> conv => whnf)
      | (refine ⟨?_, ?_⟩ <;> conv => whnf)
      | (intro h; conv => whnf)
end Go.RX

