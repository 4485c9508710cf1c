/- The contract of footwaylaw11.RoleTells. -/
import Derived.Test.YtammhcpnhejapaaTyo
set_option linter.unusedVariables false
set_option linter.unusedSimpArgs false
open Go Go.RX Go.Proofs
namespace Go.RX
set_option maxRecDepth 10000
set_option maxHeartbeats 4000000
attribute [local irreducible] CallW CallP LoopW W IntKind.wrap
theorem c11 (s0 : Slf) (port most : Int) : CallP Try.prog 11 [slfL s0, I port, I most] (.bool true) := by
  have h27 := c27 s0
  generalize few s0 = s at h27
  have h33 := c33 s
  have h34 := c34 s
  cases hs : sOk s with
  | false =>
    have h28 := c28e s hs
    have h31 := c31e s hs
    have h32 := c32e s hs port most
    rw [hs] at h33 h34
    refine .intro (by first | (simp [NLs, NL]; done) | (simp [NLs, NL, nlx]; done)) (.intro TT_ok Try.func11 rfl rfl [0, 1, 2, 3, 6, 7, 8, 9, 10, 11, 12, 13, 14, 15, 16, 46, 49, 107, 108, 129] rfl ?_)
    conv => whnf
    repeat' first
      | with_reducible rfl
      | with_reducible exact True.intro
      | with_reducible assumption
      | (refine CallP.use (h27) ?_; conv => whnf)
      | (refine ⟨_, fun _ => h27, ?_⟩; conv => whnf)
      | (refine CallP.use (h28) ?_; conv => whnf)
      | (refine ⟨_, fun _ => h28, ?_⟩; conv => whnf)
      | (refine CallP.use (h31) ?_; conv => whnf)
      | (refine ⟨_, fun _ => h31, ?_⟩; conv => whnf)
      | (refine CallP.use (h32) ?_; conv => whnf)
      | (refine ⟨_, fun _ => h32, ?_⟩; conv => whnf)
      | (refine CallP.use (h33) ?_; conv => whnf)
      | (refine ⟨_, fun _ => h33, ?_⟩; conv => whnf)
      | (refine CallP.use (h34) ?_; conv => whnf)
      | (refine ⟨_, fun _ => h34, ?_⟩; conv => whnf)
      | (refine CallP.use (c29) ?_; conv => whnf)
      | (refine ⟨_, fun _ => c29, ?_⟩; conv => whnf)
      | assumption
      | (refine W.drawn TT_ok hmix1 rfl ?_; conv => whnf)
      | exact absurd (show false = true from h) Bool.false_ne_true
      | exact absurd (show true = false from h) (fun e => Bool.noConfusion e)
      | exact (congrArg Bool.not h)
      | (refine ⟨_, ⟨by first | assumption | decide | omega, by first | assumption | rfl⟩, ?_⟩; conv => whnf)
      | (refine ⟨_, fun _ => ⟨by first | assumption | decide | omega, by first | assumption | rfl⟩, ?_⟩; conv => whnf)
      | exact (rfl : (_ : Nat) = _)
      | exact (rfl : (_ : LV) = _)
      | (refine ⟨fun h => ?_, fun h => ?_⟩ <;> conv => whnf)
      | (refine ⟨?_, ?_⟩ <;> conv => whnf)
      | (intro h; conv => whnf)
  | true =>
    have h28 := c28 s hs
    have h31 := c31 s hs
    have h35 := c35 s hs 0
    have h36 := c36 s hs
    have h38 := c38 s hs
    obtain ⟨hl1, hl2, hl3, hl4, hl5, hl6⟩ := hd_len (sOk_hd hs)
    have h37 := c37 (rls s s.cs.length) (by rw [rls_len]; omega)
    rw [hs] at h33 h34
    have hL3 : (s.cs.map fun x => [I x]).length = s.cs.length := List.length_map ..
    generalize hv : tlV s (rp s) 0 = v at h28 h35
    generalize ha : atI (rp s) = a at h28 h36
    have hA : (bif bif bif bif !decide ((0:Int) = 0) then true else !decide ((0:Int) = 0) then true else !(decide (v.r = v.r) && (decide (v.c = v.c) && (decide (v.b = v.b) && (decide (v.p = v.p) && true)))) then true else !decide (a = a) then true else !true) = false := by simp
    by_cases hp : 0 ≤ port ∧ port < s.cs.length
    · obtain ⟨p, rfl⟩ : ∃ p : Nat, port = p := ⟨port.toNat, by omega⟩
      have hB : (bif decide ((p : Int) < 0) then true else decide (((s.cs.map fun x => [I x]).length : Int) ≤ p)) = false := by
        rw [hL3, show decide ((p : Int) < 0) = false by rw [decide_eq_false_iff_not]; omega, cond_false, decide_eq_false_iff_not]; omega
      by_cases hm : 1 ≤ most ∧ most ≤ 255
      · have hC : (bif decide (most < 1) then true else decide (255 < most)) = false := by
          rw [show decide (most < 1) = false by rw [decide_eq_false_iff_not]; omega, cond_false, decide_eq_false_iff_not]; omega
        obtain ⟨n, x, u, hP⟩ := sOk_port hs (p := p) (by omega)
        have h32 := c32 s hs p x u hP.fs hP.us most hm
        have h39 := c39 s hs p x u hP.fs hP.us most
        generalize (bif tlIs s (rp s) p x u most then tlV s (rp s) p else v0) = tv at h32 h39
        generalize (bif tlIs s (rp s) p x u most then ageI s (rp s) else 0) = ag at h32 h39
        generalize tlIs s (rp s) p x u most = is at h32 h39
        refine .intro (by first | (simp [NLs, NL]; done) | (simp [NLs, NL, nlx]; done)) (.intro TT_ok Try.func11 rfl rfl [0, 1, 2, 3, 6, 7, 8, 9, 10, 11, 12, 13, 14, 15, 16, 46, 49, 107, 108, 129] rfl ?_)
        conv => whnf
        repeat' first
          | with_reducible rfl
          | with_reducible exact True.intro
          | with_reducible assumption
          | exact (Bool.false_ne_true (hA.symm.trans h)).elim
          | exact (Bool.false_ne_true (hB.symm.trans h)).elim
          | exact (Bool.false_ne_true (hC.symm.trans h)).elim
          | (refine CallP.use (h27) ?_; conv => whnf)
          | (refine ⟨_, fun _ => h27, ?_⟩; conv => whnf)
          | (refine CallP.use (h28) ?_; conv => whnf)
          | (refine ⟨_, fun _ => h28, ?_⟩; conv => whnf)
          | (refine CallP.use (h31) ?_; conv => whnf)
          | (refine ⟨_, fun _ => h31, ?_⟩; conv => whnf)
          | (refine CallP.use (h32) ?_; conv => whnf)
          | (refine ⟨_, fun _ => h32, ?_⟩; conv => whnf)
          | (refine CallP.use (h33) ?_; conv => whnf)
          | (refine ⟨_, fun _ => h33, ?_⟩; conv => whnf)
          | (refine CallP.use (h34) ?_; conv => whnf)
          | (refine ⟨_, fun _ => h34, ?_⟩; conv => whnf)
          | (refine CallP.use (c29) ?_; conv => whnf)
          | (refine ⟨_, fun _ => c29, ?_⟩; conv => whnf)
          | (refine CallP.use (h35) ?_; conv => whnf)
          | (refine ⟨_, fun _ => h35, ?_⟩; conv => whnf)
          | (refine CallP.use (h36) ?_; conv => whnf)
          | (refine ⟨_, fun _ => h36, ?_⟩; conv => whnf)
          | (refine CallP.use (h38) ?_; conv => whnf)
          | (refine ⟨_, fun _ => h38, ?_⟩; conv => whnf)
          | (refine CallP.use (h37) ?_; conv => whnf)
          | (refine ⟨_, fun _ => h37, ?_⟩; conv => whnf)
          | (refine CallP.use (h39) ?_; conv => whnf)
          | (refine ⟨_, fun _ => h39, ?_⟩; conv => whnf)
          | assumption
          | (refine W.drawn TT_ok hmix1 rfl ?_; conv => whnf)
          | exact absurd (show false = true from h) Bool.false_ne_true
          | exact absurd (show true = false from h) (fun e => Bool.noConfusion e)
          | exact (congrArg Bool.not h)
          | (refine ⟨_, ⟨by first | assumption | decide | omega, by first | assumption | rfl⟩, ?_⟩; conv => whnf)
          | (refine ⟨_, fun _ => ⟨by first | assumption | decide | omega, by first | assumption | rfl⟩, ?_⟩; conv => whnf)
          | exact (rfl : (_ : Nat) = _)
          | exact (rfl : (_ : LV) = _)
          | (refine ⟨fun h => ?_, fun h => ?_⟩ <;> conv => whnf)
          | (refine ⟨?_, ?_⟩ <;> conv => whnf)
          | (intro h; conv => whnf)
        all_goals simp
      · have hC : (bif decide (most < 1) then true else decide (255 < most)) = true := by
          cases h1 : decide (most < 1) with
          | true => rfl
          | false => rw [decide_eq_false_iff_not] at h1; rw [cond_false, decide_eq_true_eq]; omega
        have h32 := c32m s hs p most (by omega) hm
        refine .intro (by first | (simp [NLs, NL]; done) | (simp [NLs, NL, nlx]; done)) (.intro TT_ok Try.func11 rfl rfl [0, 1, 2, 3, 6, 7, 8, 9, 10, 11, 12, 13, 14, 15, 16, 46, 49, 107, 108, 129] rfl ?_)
        conv => whnf
        repeat' first
          | with_reducible rfl
          | with_reducible exact True.intro
          | with_reducible assumption
          | exact (Bool.false_ne_true (hA.symm.trans h)).elim
          | exact (Bool.false_ne_true (hB.symm.trans h)).elim
          | exact (Bool.false_ne_true (h.symm.trans hC)).elim
          | (refine CallP.use (h27) ?_; conv => whnf)
          | (refine ⟨_, fun _ => h27, ?_⟩; conv => whnf)
          | (refine CallP.use (h28) ?_; conv => whnf)
          | (refine ⟨_, fun _ => h28, ?_⟩; conv => whnf)
          | (refine CallP.use (h31) ?_; conv => whnf)
          | (refine ⟨_, fun _ => h31, ?_⟩; conv => whnf)
          | (refine CallP.use (h32) ?_; conv => whnf)
          | (refine ⟨_, fun _ => h32, ?_⟩; conv => whnf)
          | (refine CallP.use (h33) ?_; conv => whnf)
          | (refine ⟨_, fun _ => h33, ?_⟩; conv => whnf)
          | (refine CallP.use (h34) ?_; conv => whnf)
          | (refine ⟨_, fun _ => h34, ?_⟩; conv => whnf)
          | (refine CallP.use (c29) ?_; conv => whnf)
          | (refine ⟨_, fun _ => c29, ?_⟩; conv => whnf)
          | (refine CallP.use (h35) ?_; conv => whnf)
          | (refine ⟨_, fun _ => h35, ?_⟩; conv => whnf)
          | (refine CallP.use (h36) ?_; conv => whnf)
          | (refine ⟨_, fun _ => h36, ?_⟩; conv => whnf)
          | (refine CallP.use (h38) ?_; conv => whnf)
          | (refine ⟨_, fun _ => h38, ?_⟩; conv => whnf)
          | (refine CallP.use (h37) ?_; conv => whnf)
          | (refine ⟨_, fun _ => h37, ?_⟩; conv => whnf)
          | assumption
          | (refine W.drawn TT_ok hmix1 rfl ?_; conv => whnf)
          | exact absurd (show false = true from h) Bool.false_ne_true
          | exact absurd (show true = false from h) (fun e => Bool.noConfusion e)
          | exact (congrArg Bool.not h)
          | (refine ⟨_, ⟨by first | assumption | decide | omega, by first | assumption | rfl⟩, ?_⟩; conv => whnf)
          | (refine ⟨_, fun _ => ⟨by first | assumption | decide | omega, by first | assumption | rfl⟩, ?_⟩; conv => whnf)
          | exact (rfl : (_ : Nat) = _)
          | exact (rfl : (_ : LV) = _)
          | (refine ⟨fun h => ?_, fun h => ?_⟩ <;> conv => whnf)
          | (refine ⟨?_, ?_⟩ <;> conv => whnf)
          | (intro h; conv => whnf)
        all_goals simp
    · have hB : (bif decide (port < 0) then true else decide (((s.cs.map fun x => [I x]).length : Int) ≤ port)) = true := by
        cases h1 : decide (port < 0) with
        | true => rfl
        | false => rw [decide_eq_false_iff_not] at h1; rw [hL3, cond_false, decide_eq_true_eq]; omega
      have h32 := c32p s hs port most hp
      refine .intro (by first | (simp [NLs, NL]; done) | (simp [NLs, NL, nlx]; done)) (.intro TT_ok Try.func11 rfl rfl [0, 1, 2, 3, 6, 7, 8, 9, 10, 11, 12, 13, 14, 15, 16, 46, 49, 107, 108, 129] rfl ?_)
      conv => whnf
      repeat' first
        | with_reducible rfl
        | with_reducible exact True.intro
        | with_reducible assumption
        | exact (Bool.false_ne_true (hA.symm.trans h)).elim
        | exact (Bool.false_ne_true (h.symm.trans hB)).elim
        | (refine CallP.use (h27) ?_; conv => whnf)
        | (refine ⟨_, fun _ => h27, ?_⟩; conv => whnf)
        | (refine CallP.use (h28) ?_; conv => whnf)
        | (refine ⟨_, fun _ => h28, ?_⟩; conv => whnf)
        | (refine CallP.use (h31) ?_; conv => whnf)
        | (refine ⟨_, fun _ => h31, ?_⟩; conv => whnf)
        | (refine CallP.use (h32) ?_; conv => whnf)
        | (refine ⟨_, fun _ => h32, ?_⟩; conv => whnf)
        | (refine CallP.use (h33) ?_; conv => whnf)
        | (refine ⟨_, fun _ => h33, ?_⟩; conv => whnf)
        | (refine CallP.use (h34) ?_; conv => whnf)
        | (refine ⟨_, fun _ => h34, ?_⟩; conv => whnf)
        | (refine CallP.use (c29) ?_; conv => whnf)
        | (refine ⟨_, fun _ => c29, ?_⟩; conv => whnf)
        | (refine CallP.use (h35) ?_; conv => whnf)
        | (refine ⟨_, fun _ => h35, ?_⟩; conv => whnf)
        | (refine CallP.use (h36) ?_; conv => whnf)
        | (refine ⟨_, fun _ => h36, ?_⟩; conv => whnf)
        | (refine CallP.use (h38) ?_; conv => whnf)
        | (refine ⟨_, fun _ => h38, ?_⟩; conv => whnf)
        | (refine CallP.use (h37) ?_; conv => whnf)
        | (refine ⟨_, fun _ => h37, ?_⟩; conv => whnf)
        | assumption
        | (refine W.drawn TT_ok hmix1 rfl ?_; conv => whnf)
        | exact absurd (show false = true from h) Bool.false_ne_true
        | exact absurd (show true = false from h) (fun e => Bool.noConfusion e)
        | exact (congrArg Bool.not h)
        | (refine ⟨_, ⟨by first | assumption | decide | omega, by first | assumption | rfl⟩, ?_⟩; conv => whnf)
        | (refine ⟨_, fun _ => ⟨by first | assumption | decide | omega, by first | assumption | rfl⟩, ?_⟩; conv => whnf)
        | exact (rfl : (_ : Nat) = _)
        | exact (rfl : (_ : LV) = _)
        | (refine ⟨fun h => ?_, fun h => ?_⟩ <;> conv => whnf)
        | (refine ⟨?_, ?_⟩ <;> conv => whnf)
        | (intro h; conv => whnf)
      all_goals simp
end Go.RX

