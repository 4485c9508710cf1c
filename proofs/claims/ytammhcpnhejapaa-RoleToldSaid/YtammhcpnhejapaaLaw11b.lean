/- The contract of footwaylaw11.RoleTold. -/
import Derived.Test.YtammhcpnhejapaaPl11c
set_option linter.unusedVariables false
set_option linter.unusedSimpArgs false
open Go Go.RX Go.Proofs
namespace Go.RX
set_option maxRecDepth 10000
set_option maxHeartbeats 4000000
theorem most_in (m : Int) : 1 ≤ IntKind.i64.wrap (1 + Int.tmod (IntKind.i64.wrap (Int.tmod m 255 + 255)) 255) ∧ IntKind.i64.wrap (1 + Int.tmod (IntKind.i64.wrap (Int.tmod m 255 + 255)) 255) ≤ 255 := by
  have a1 : Int.tmod m 255 < 255 := Int.tmod_lt_of_pos m (by omega)
  have a2 : -255 < Int.tmod m 255 := Int.lt_tmod_of_pos m (b := 255) (by omega)
  rw [show IntKind.i64.wrap (Int.tmod m 255 + 255) = Int.tmod m 255 + 255 from w64_small (by omega) (by omega)]
  have a3 : 0 ≤ Int.tmod (Int.tmod m 255 + 255) 255 := Int.tmod_nonneg _ (by omega)
  have a4 : Int.tmod (Int.tmod m 255 + 255) 255 < 255 := Int.tmod_lt_of_pos _ (by omega)
  rw [show IntKind.i64.wrap (1 + Int.tmod (Int.tmod m 255 + 255) 255) = 1 + Int.tmod (Int.tmod m 255 + 255) 255 from w64_small (by omega) (by omega)]
  omega
theorem tlIs_true {s : Slf} {w : Option Nat} {p : Nat} {x : Inf} {u : Bool} {m : Int} (h : tlIs s w p x u m = true) : ageI s w < m ∧ u = true ∧ (p : Int) ≠ atI w ∧ (x.h = true → bet x.v (tlV s w p) = false) := by
  unfold tlIs at h
  cases h1 : decide (m ≤ ageI s w) with
  | true => rw [h1] at h; cases h
  | false =>
    rw [h1, cond_false, decide_eq_true_eq] at h
    rw [decide_eq_false_iff_not] at h1
    unfold rlI at h
    split at h
    · omega
    · rename_i hu
      split at h
      · omega
      · rename_i hp
        split at h
        · omega
        · rename_i hx
          refine ⟨by omega, by simpa using hu, hp, fun hh => ?_⟩
          cases hq : bet x.v (tlV s w p) with
          | false => rfl
          | true => exact absurd ⟨hh, hq⟩ hx
attribute [local irreducible] CallW CallP LoopW W IntKind.wrap Int.tmod
abbrev s10 (s : Slf) (w : Option Nat) (m : Int) (k : Nat) : Slots := [(1, I m), (2, .ptr 0 0 0), (5, .ptr 1 0 0), (6, I (atI w)), (63, infsL s.fs), (64, I (s.fs.map Inf.cells).length), (65, I k)]
abbrev l10 (s : Slf) (v : Vc) : List (Nat × Blk) := [(0, .row 52 4 [[I s.i, intsL s.cs, boolsL s.us, infsL s.fs]]), (1, .row 23 4 [[I v.r, I v.c, I v.b, I v.p]])]
theorem c10 (s0 : Slf) (m : Int) : CallP Try.prog 10 [slfL s0, I m] (.bool true) := by
  have h27 := c27 s0
  generalize few s0 = s at h27
  cases hs : sOk s with
  | false =>
    have h28 := c28e s hs
    refine .intro (by first | (simp [NLs, NL]; done) | (simp [NLs, NL, nlx]; done)) (.intro TT_ok Try.func10 rfl rfl [0, 1, 2, 4, 5, 6, 7, 8, 9, 10, 11, 12, 13, 14, 29, 61, 63, 64, 65, 66, 132, 137, 150, 176] rfl ?_)
    conv => whnf
    repeat' first
      | with_reducible rfl
      | with_reducible exact True.intro
      | with_reducible assumption
      | exact (by decide : ¬ (255:Int) = 0)
      | (refine CallP.use (h27) ?_; conv => whnf)
      | (refine ⟨_, fun _ => h27, ?_⟩; conv => whnf)
      | (refine CallP.use (h28) ?_; conv => whnf)
      | (refine ⟨_, fun _ => h28, ?_⟩; conv => whnf)
      | (refine CallP.use (c29) ?_; conv => whnf)
      | (refine ⟨_, fun _ => c29, ?_⟩; conv => whnf)
      | assumption
      | (refine W.drawn TT_ok hmix1 rfl ?_; conv => whnf)
      | exact absurd (show false = true from h) Bool.false_ne_true
      | exact absurd (show true = false from h) (fun e => Bool.noConfusion e)
      | exact (congrArg Bool.not h)
      | (refine ⟨_, ⟨by first | assumption | decide | omega, by first | assumption | rfl⟩, ?_⟩; conv => whnf)
      | (refine ⟨_, fun _ => ⟨by first | assumption | decide | omega, by first | assumption | rfl⟩, ?_⟩; conv => whnf)
      | exact (rfl : (_ : Nat) = _)
      | exact (rfl : (_ : LV) = _)
      | (refine ⟨fun h => ?_, fun h => ?_⟩ <;> conv => whnf)
      | (refine ⟨?_, ?_⟩ <;> conv => whnf)
      | (intro h; conv => whnf)
  | true =>
    have h28 := c28 s hs
    obtain ⟨hl1, hl2, hl3, hl4, hl5, hl6⟩ := hd_len (sOk_hd hs)
    have hL : (s.fs.map Inf.cells).length = s.fs.length := List.length_map ..
    have hL2 : (s.us.map fun x => [LV.bool x]).length = s.us.length := List.length_map ..
    have hL3 : (s.cs.map fun x => [I x]).length = s.cs.length := List.length_map ..
    have hat : -1 ≤ atI (rp s) ∧ atI (rp s) < s.fs.length := by
      rcases rp_spec hs with ⟨h1, _⟩ | ⟨p, h1, ⟨x, h2, _⟩, _⟩
      · rw [h1]; simp only [atI]; omega
      · have := (List.getElem?_eq_some_iff.1 h2).1
        rw [h1]; simp only [atI]; omega
    refine .intro (by first | (simp [NLs, NL]; done) | (simp [NLs, NL, nlx]; done)) (.intro TT_ok Try.func10 rfl rfl [0, 1, 2, 4, 5, 6, 7, 8, 9, 10, 11, 12, 13, 14, 29, 61, 63, 64, 65, 66, 132, 137, 150, 176] rfl ?_)
    conv => whnf
    repeat' first
      | with_reducible rfl
      | with_reducible exact True.intro
      | with_reducible assumption
      | exact (by decide : ¬ (255:Int) = 0)
      | (refine CallP.use (h27) ?_; conv => whnf)
      | (refine ⟨_, fun _ => h27, ?_⟩; conv => whnf)
      | (refine CallP.use (h28) ?_; conv => whnf)
      | (refine ⟨_, fun _ => h28, ?_⟩; conv => whnf)
      | (refine CallP.use (c29) ?_; conv => whnf)
      | (refine ⟨_, fun _ => c29, ?_⟩; conv => whnf)
      | assumption
      | (refine W.drawn TT_ok hmix1 rfl ?_; conv => whnf)
      | exact absurd (show false = true from h) Bool.false_ne_true
      | exact absurd (show true = false from h) (fun e => Bool.noConfusion e)
      | exact (congrArg Bool.not h)
      | (refine ⟨_, ⟨by first | assumption | decide | omega, by first | assumption | rfl⟩, ?_⟩; conv => whnf)
      | (refine ⟨_, fun _ => ⟨by first | assumption | decide | omega, by first | assumption | rfl⟩, ?_⟩; conv => whnf)
      | exact (rfl : (_ : Nat) = _)
      | exact (rfl : (_ : LV) = _)
      | (refine ⟨fun h => ?_, fun h => ?_⟩ <;> conv => whnf)
      | (refine ⟨?_, ?_⟩ <;> conv => whnf)
      | (intro h; conv => whnf)
    · exfalso
      simp only [Bool.cond_true_left, Bool.or_eq_true, decide_eq_true_eq, Bool.not_eq_true', decide_eq_false_iff_not, hL, hL2, hL3] at h
      omega
    clear h
    have hw := rp_in hs
    have hm := most_in m
    obtain ⟨M, hM⟩ : ∃ M, IntKind.i64.wrap (1 + Int.tmod (IntKind.i64.wrap (Int.tmod m 255 + 255)) 255) = M := ⟨_, rfl⟩
    rw [hM] at hm
    have h32 : ∀ (k : Nat) (n : Int) (x : Inf) (u : Bool), Port s k n x u → CallP Try.prog 32 [slfL s, I k, I M] (.tup [cfgL (bif tlIs s (rp s) k x u M then tlV s (rp s) k else v0) (bif tlIs s (rp s) k x u M then ageI s (rp s) else 0), .bool (tlIs s (rp s) k x u M), I 0]) :=
      fun k n x u hP => c32 s hs k x u hP.fs hP.us M hm
    have htr : ∀ k : Nat, k < s.cs.length → rgt (tlV s (rp s) k) = true := fun k hk => tl_right hs (by omega)
    have hag : ∀ q, rp s = some q → ∃ y, s.fs[q]? = some y ∧ ageI s (rp s) = w64 (y.a + 1) := by
      intro q hq
      obtain ⟨n, y, h1, h2⟩ := hw q hq
      exact ⟨y, h1, by rw [hq]; simp only [ageI, h1]⟩
    have hag0 : rp s = none → ageI s (rp s) = 0 := fun h => by rw [h]; rfl
    generalize rp s = w at h28 hat hw h32 htr hag hag0
    refine LoopW.norm (s10 s w M 0) 2 (l10 s (tlV s w 0)) ⟨congrArg (LV.int .i64) hM, rfl, rfl, rfl, rfl, rfl, rfl, trivial⟩ ⟨⟨rfl, rfl, ⟨trivial, trivial, trivial, trivial, trivial⟩, trivial⟩, ⟨rfl, rfl, ⟨trivial, trivial, trivial, trivial, trivial⟩, trivial⟩, trivial⟩ ⟨trivial, rfl, rfl, trivial, trivial, trivial, trivial, trivial⟩ rfl ?_
    refine LoopW.ind (α := Nat) (fun k => s.fs.length - k) (fun k s' H => k ≤ s.fs.length ∧ s' = s10 s w M k ∧ H = ⟨2, l10 s (tlV s w 0)⟩) ?_ (a := 0) ⟨Nat.zero_le _, rfl, rfl⟩
    rintro k s' H ⟨hk, rfl, rfl⟩ ih
    by_cases hi : k < s.fs.length
    · have hd : decide ((k : Int) < ((s.fs.map Inf.cells).length : Int)) = true := by rw [decide_eq_true_eq]; omega
      obtain ⟨n, x, u, hP⟩ := sOk_port hs (p := k) (by omega)
      have hb : (s.fs.map Inf.cells)[k]? = some x.cells := by simp [hP.fs]
      have hb2 : (s.us.map fun x => [LV.bool x])[k]? = some [LV.bool u] := by simp [hP.us]
      have h32k := h32 k n x u hP
      have h14 := d14 x.v (tlV s w k)
      have ht := tlIs_true (s := s) (w := w) (p := k) (x := x) (u := u) (m := M)
      have hrt := htr k (by omega)
      have hend : ∀ {s1 : Slots} {H1 : Heap}, subC s1 (s10 s w M (k + 1)) → subL H1.live 2 (l10 s (tlV s w 0)) → LoopW Try.prog Try.f10.ntmps 0 _ _ s1 H1 := fun h1 h2 =>
        LoopW.norm (s10 s w M (k + 1)) 2 (l10 s (tlV s w 0)) h1 h2 ⟨trivial, rfl, rfl, trivial, trivial, trivial, trivial, trivial⟩ rfl (ih (k + 1) _ _ ⟨hi, rfl, rfl⟩ (by omega))
      clear ih
      cases his : tlIs s w k x u M with
      | false =>
        rw [his] at h32k
        cases w with
        | none =>
          refine LoopW.round TT_ok [0, 1, 2, 4, 5, 6, 7, 8, 9, 10, 11, 12, 13, 14, 29, 61, 63, 64, 65, 66, 132, 137, 150, 176] ?_
          conv => whnf
          repeat' first
            | with_reducible rfl
            | with_reducible exact True.intro
            | with_reducible assumption
            | exact (Bool.false_ne_true (h.symm.trans hd)).elim
            | (refine ⟨[.bool false, I 0, I 0, I 0, I 0, I 0], fun hg => (Bool.false_ne_true hg).elim, ?_⟩; conv => whnf)
            | (refine ⟨[.bool false], fun hg => (Bool.false_ne_true hg).elim, ?_⟩; conv => whnf)
            | (refine CallP.use (h32k) ?_; conv => whnf)
            | (refine ⟨_, fun _ => h32k, ?_⟩; conv => whnf)
            | (refine CallP.use (h14) ?_; conv => whnf)
            | (refine ⟨_, fun _ => h14, ?_⟩; conv => whnf)
            | assumption
            | (refine W.drawn TT_ok hmix1 rfl ?_; conv => whnf)
            | exact absurd (show false = true from h) Bool.false_ne_true
            | exact absurd (show true = false from h) (fun e => Bool.noConfusion e)
            | exact (congrArg Bool.not h)
            | (refine ⟨_, ⟨by first | assumption | decide | omega, by first | assumption | rfl⟩, ?_⟩; conv => whnf)
            | (refine ⟨_, fun _ => ⟨by first | assumption | decide | omega, by first | assumption | rfl⟩, ?_⟩; conv => whnf)
            | exact (rfl : (_ : Nat) = _)
            | exact (rfl : (_ : LV) = _)
            | (refine ⟨fun h => ?_, fun h => ?_⟩ <;> conv => whnf)
            | (refine ⟨?_, ?_⟩ <;> conv => whnf)
            | (intro h; conv => whnf)
          exact hend ⟨rfl, rfl, rfl, rfl, rfl, rfl, congrArg (LV.int .i64) (w64_nat (by omega)), trivial⟩ ⟨⟨rfl, rfl, ⟨trivial, trivial, trivial, trivial, trivial⟩, trivial⟩, ⟨rfl, rfl, ⟨trivial, trivial, trivial, trivial, trivial⟩, trivial⟩, trivial⟩
         | some q =>
          refine LoopW.round TT_ok [0, 1, 2, 4, 5, 6, 7, 8, 9, 10, 11, 12, 13, 14, 29, 61, 63, 64, 65, 66, 132, 137, 150, 176] ?_
          conv => whnf
          repeat' first
            | with_reducible rfl
            | with_reducible exact True.intro
            | with_reducible assumption
            | exact (Bool.false_ne_true (h.symm.trans hd)).elim
            | (refine ⟨[.bool false, I 0, I 0, I 0, I 0, I 0], fun hg => (Bool.false_ne_true hg).elim, ?_⟩; conv => whnf)
            | (refine ⟨[.bool false], fun hg => (Bool.false_ne_true hg).elim, ?_⟩; conv => whnf)
            | (refine CallP.use (h32k) ?_; conv => whnf)
            | (refine ⟨_, fun _ => h32k, ?_⟩; conv => whnf)
            | (refine CallP.use (h14) ?_; conv => whnf)
            | (refine ⟨_, fun _ => h14, ?_⟩; conv => whnf)
            | assumption
            | (refine W.drawn TT_ok hmix1 rfl ?_; conv => whnf)
            | exact absurd (show false = true from h) Bool.false_ne_true
            | exact absurd (show true = false from h) (fun e => Bool.noConfusion e)
            | exact (congrArg Bool.not h)
            | (refine ⟨_, ⟨by first | assumption | decide | omega, by first | assumption | rfl⟩, ?_⟩; conv => whnf)
            | (refine ⟨_, fun _ => ⟨by first | assumption | decide | omega, by first | assumption | rfl⟩, ?_⟩; conv => whnf)
            | exact (rfl : (_ : Nat) = _)
            | exact (rfl : (_ : LV) = _)
            | (refine ⟨fun h => ?_, fun h => ?_⟩ <;> conv => whnf)
            | (refine ⟨?_, ?_⟩ <;> conv => whnf)
            | (intro h; conv => whnf)
          exact hend ⟨rfl, rfl, rfl, rfl, rfl, rfl, congrArg (LV.int .i64) (w64_nat (by omega)), trivial⟩ ⟨⟨rfl, rfl, ⟨trivial, trivial, trivial, trivial, trivial⟩, trivial⟩, ⟨rfl, rfl, ⟨trivial, trivial, trivial, trivial, trivial⟩, trivial⟩, trivial⟩
      | true =>
        obtain ⟨t1, t2, t3, t4⟩ := ht his
        rw [his] at h32k
        subst t2
        have hx14 : x.h = true → CallP Try.prog 14 [vL x.v, vL (tlV s w k)] (.tup [.bool false, I 0]) := fun hx => by
          rw [t4 hx, berr_of (hP.told hx).2.1 hrt] at h14
          exact h14
        clear h14
        have hne : decide ((k : Int) = atI w) = false := by rw [decide_eq_false_iff_not]; exact t3
        have hage : decide (M ≤ ageI s w) = false := by rw [decide_eq_false_iff_not]; omega
        cases w with
        | none =>
          have ha0 := hag0 rfl
          rw [ha0] at hage
          rw [ha0] at h32k
          cases hx : x.h with
          | false =>
            have h14 := hx14
            have hb1 : (s.fs.map Inf.cells)[k]? = some [.bool x.h, I x.r, I x.c, I x.b, I x.p, I x.a] := hb
            rw [hx] at hb1
            clear hb
            refine LoopW.round TT_ok [0, 1, 2, 4, 5, 6, 7, 8, 9, 10, 11, 12, 13, 14, 29, 61, 63, 64, 65, 66, 132, 137, 150, 176] ?_
            conv => whnf
            repeat' first
              | with_reducible rfl
              | with_reducible exact True.intro
              | with_reducible assumption
              | exact (Bool.false_ne_true (h.symm.trans hd)).elim
              | (refine ⟨[.bool false, I 0, I 0, I 0, I 0, I 0], fun hg => (Bool.false_ne_true hg).elim, ?_⟩; conv => whnf)
              | (refine ⟨[.bool false], fun hg => (Bool.false_ne_true hg).elim, ?_⟩; conv => whnf)
              | (refine CallP.use (h32k) ?_; conv => whnf)
              | (refine ⟨_, fun _ => h32k, ?_⟩; conv => whnf)
              | (refine CallP.use (h14 hx) ?_; conv => whnf)
              | (refine ⟨_, fun _ => h14 hx, ?_⟩; conv => whnf)
              | assumption
              | (refine W.drawn TT_ok hmix1 rfl ?_; conv => whnf)
              | exact absurd (show false = true from h) Bool.false_ne_true
              | exact absurd (show true = false from h) (fun e => Bool.noConfusion e)
              | exact (congrArg Bool.not h)
              | (refine ⟨_, ⟨by first | assumption | decide | omega, by first | assumption | rfl⟩, ?_⟩; conv => whnf)
              | (refine ⟨_, fun _ => ⟨by first | assumption | decide | omega, by first | assumption | rfl⟩, ?_⟩; conv => whnf)
              | exact (rfl : (_ : Nat) = _)
              | exact (rfl : (_ : LV) = _)
              | (refine ⟨fun h => ?_, fun h => ?_⟩ <;> conv => whnf)
              | (refine ⟨?_, ?_⟩ <;> conv => whnf)
              | (intro h; conv => whnf)
            all_goals first
              | (exfalso; revert h; simp [tlV, hne, hage, t3]; done)
              | exact hend ⟨rfl, rfl, rfl, rfl, rfl, rfl, congrArg (LV.int .i64) (w64_nat (by omega)), trivial⟩ ⟨⟨rfl, rfl, ⟨trivial, trivial, trivial, trivial, trivial⟩, trivial⟩, ⟨rfl, rfl, ⟨trivial, trivial, trivial, trivial, trivial⟩, trivial⟩, trivial⟩
           | true =>
            have h14 := hx14
            have hb1 : (s.fs.map Inf.cells)[k]? = some [.bool x.h, I x.r, I x.c, I x.b, I x.p, I x.a] := hb
            rw [hx] at hb1
            clear hb
            refine LoopW.round TT_ok [0, 1, 2, 4, 5, 6, 7, 8, 9, 10, 11, 12, 13, 14, 29, 61, 63, 64, 65, 66, 132, 137, 150, 176] ?_
            conv => whnf
            repeat' first
              | with_reducible rfl
              | with_reducible exact True.intro
              | with_reducible assumption
              | exact (Bool.false_ne_true (h.symm.trans hd)).elim
              | (refine ⟨[.bool false, I 0, I 0, I 0, I 0, I 0], fun hg => (Bool.false_ne_true hg).elim, ?_⟩; conv => whnf)
              | (refine ⟨[.bool false], fun hg => (Bool.false_ne_true hg).elim, ?_⟩; conv => whnf)
              | (refine CallP.use (h32k) ?_; conv => whnf)
              | (refine ⟨_, fun _ => h32k, ?_⟩; conv => whnf)
              | (refine CallP.use (h14 hx) ?_; conv => whnf)
              | (refine ⟨_, fun _ => h14 hx, ?_⟩; conv => whnf)
              | assumption
              | (refine W.drawn TT_ok hmix1 rfl ?_; conv => whnf)
              | exact absurd (show false = true from h) Bool.false_ne_true
              | exact absurd (show true = false from h) (fun e => Bool.noConfusion e)
              | exact (congrArg Bool.not h)
              | (refine ⟨_, ⟨by first | assumption | decide | omega, by first | assumption | rfl⟩, ?_⟩; conv => whnf)
              | (refine ⟨_, fun _ => ⟨by first | assumption | decide | omega, by first | assumption | rfl⟩, ?_⟩; conv => whnf)
              | exact (rfl : (_ : Nat) = _)
              | exact (rfl : (_ : LV) = _)
              | (refine ⟨fun h => ?_, fun h => ?_⟩ <;> conv => whnf)
              | (refine ⟨?_, ?_⟩ <;> conv => whnf)
              | (intro h; conv => whnf)
            all_goals first
              | (exfalso; revert h; simp [tlV, hne, hage, t3]; done)
              | exact hend ⟨rfl, rfl, rfl, rfl, rfl, rfl, congrArg (LV.int .i64) (w64_nat (by omega)), trivial⟩ ⟨⟨rfl, rfl, ⟨trivial, trivial, trivial, trivial, trivial⟩, trivial⟩, ⟨rfl, rfl, ⟨trivial, trivial, trivial, trivial, trivial⟩, trivial⟩, trivial⟩
        | some q =>
          obtain ⟨y, hy, ha0⟩ := hag q rfl
          have hbq : (s.fs.map Inf.cells)[q]? = some y.cells := by simp [hy]
          rw [ha0] at hage
          rw [ha0] at h32k
          have t5 : ¬ k = q := fun e => t3 (by rw [e]; rfl)
          have t6 : ¬ ((q : Int) < 0) := by omega
          have t7 : (0 : Int) ≤ q := by omega
          cases hx : x.h with
          | false =>
            have h14 := hx14
            have hb1 : (s.fs.map Inf.cells)[k]? = some [.bool x.h, I x.r, I x.c, I x.b, I x.p, I x.a] := hb
            rw [hx] at hb1
            clear hb
            refine LoopW.round TT_ok [0, 1, 2, 4, 5, 6, 7, 8, 9, 10, 11, 12, 13, 14, 29, 61, 63, 64, 65, 66, 132, 137, 150, 176] ?_
            conv => whnf
            repeat' first
              | with_reducible rfl
              | with_reducible exact True.intro
              | with_reducible assumption
              | exact (Bool.false_ne_true (h.symm.trans hd)).elim
              | (refine ⟨[.bool false, I 0, I 0, I 0, I 0, I 0], fun hg => (Bool.false_ne_true hg).elim, ?_⟩; conv => whnf)
              | (refine ⟨[.bool false], fun hg => (Bool.false_ne_true hg).elim, ?_⟩; conv => whnf)
              | (refine CallP.use (h32k) ?_; conv => whnf)
              | (refine ⟨_, fun _ => h32k, ?_⟩; conv => whnf)
              | (refine CallP.use (h14 hx) ?_; conv => whnf)
              | (refine ⟨_, fun _ => h14 hx, ?_⟩; conv => whnf)
              | assumption
              | (refine W.drawn TT_ok hmix1 rfl ?_; conv => whnf)
              | exact absurd (show false = true from h) Bool.false_ne_true
              | exact absurd (show true = false from h) (fun e => Bool.noConfusion e)
              | exact (congrArg Bool.not h)
              | (refine ⟨_, ⟨by first | assumption | decide | omega, by first | assumption | rfl⟩, ?_⟩; conv => whnf)
              | (refine ⟨_, fun _ => ⟨by first | assumption | decide | omega, by first | assumption | rfl⟩, ?_⟩; conv => whnf)
              | exact (rfl : (_ : Nat) = _)
              | exact (rfl : (_ : LV) = _)
              | (refine ⟨fun h => ?_, fun h => ?_⟩ <;> conv => whnf)
              | (refine ⟨?_, ?_⟩ <;> conv => whnf)
              | (intro h; conv => whnf)
            all_goals first
              | (exfalso; revert h; simp [tlV, atI, hage, t5, t6, t7]; done)
              | (exfalso; revert h; simp [tlV, atI, hage, t5, t6, t7]; exact hne)
              | exact hend ⟨rfl, rfl, rfl, rfl, rfl, rfl, congrArg (LV.int .i64) (w64_nat (by omega)), trivial⟩ ⟨⟨rfl, rfl, ⟨trivial, trivial, trivial, trivial, trivial⟩, trivial⟩, ⟨rfl, rfl, ⟨trivial, trivial, trivial, trivial, trivial⟩, trivial⟩, trivial⟩
           | true =>
            have h14 := hx14
            have hb1 : (s.fs.map Inf.cells)[k]? = some [.bool x.h, I x.r, I x.c, I x.b, I x.p, I x.a] := hb
            rw [hx] at hb1
            clear hb
            refine LoopW.round TT_ok [0, 1, 2, 4, 5, 6, 7, 8, 9, 10, 11, 12, 13, 14, 29, 61, 63, 64, 65, 66, 132, 137, 150, 176] ?_
            conv => whnf
            repeat' first
              | with_reducible rfl
              | with_reducible exact True.intro
              | with_reducible assumption
              | exact (Bool.false_ne_true (h.symm.trans hd)).elim
              | (refine ⟨[.bool false, I 0, I 0, I 0, I 0, I 0], fun hg => (Bool.false_ne_true hg).elim, ?_⟩; conv => whnf)
              | (refine ⟨[.bool false], fun hg => (Bool.false_ne_true hg).elim, ?_⟩; conv => whnf)
              | (refine CallP.use (h32k) ?_; conv => whnf)
              | (refine ⟨_, fun _ => h32k, ?_⟩; conv => whnf)
              | (refine CallP.use (h14 hx) ?_; conv => whnf)
              | (refine ⟨_, fun _ => h14 hx, ?_⟩; conv => whnf)
              | assumption
              | (refine W.drawn TT_ok hmix1 rfl ?_; conv => whnf)
              | exact absurd (show false = true from h) Bool.false_ne_true
              | exact absurd (show true = false from h) (fun e => Bool.noConfusion e)
              | exact (congrArg Bool.not h)
              | (refine ⟨_, ⟨by first | assumption | decide | omega, by first | assumption | rfl⟩, ?_⟩; conv => whnf)
              | (refine ⟨_, fun _ => ⟨by first | assumption | decide | omega, by first | assumption | rfl⟩, ?_⟩; conv => whnf)
              | exact (rfl : (_ : Nat) = _)
              | exact (rfl : (_ : LV) = _)
              | (refine ⟨fun h => ?_, fun h => ?_⟩ <;> conv => whnf)
              | (refine ⟨?_, ?_⟩ <;> conv => whnf)
              | (intro h; conv => whnf)
            all_goals first
              | (exfalso; revert h; simp [tlV, atI, hage, t5, t6, t7]; done)
              | (exfalso; revert h; simp [tlV, atI, hage, t5, t6, t7]; exact hne)
              | exact hend ⟨rfl, rfl, rfl, rfl, rfl, rfl, congrArg (LV.int .i64) (w64_nat (by omega)), trivial⟩ ⟨⟨rfl, rfl, ⟨trivial, trivial, trivial, trivial, trivial⟩, trivial⟩, ⟨rfl, rfl, ⟨trivial, trivial, trivial, trivial, trivial⟩, trivial⟩, trivial⟩
    · have hd : decide ((k : Int) < ((s.fs.map Inf.cells).length : Int)) = false := by rw [decide_eq_false_iff_not]; omega
      refine LoopW.round TT_ok [0, 1, 2, 4, 5, 6, 7, 8, 9, 10, 11, 12, 13, 14, 29, 61, 63, 64, 65, 66, 132, 137, 150, 176] ?_
      conv => whnf
      repeat' first
        | with_reducible rfl
        | with_reducible exact True.intro
        | with_reducible assumption
        | exact (Bool.false_ne_true (hd.symm.trans h)).elim
        | (refine CallP.use (c29) ?_; conv => whnf)
        | (refine ⟨_, fun _ => c29, ?_⟩; conv => whnf)
        | assumption
        | (refine W.drawn TT_ok hmix1 rfl ?_; conv => whnf)
        | exact absurd (show false = true from h) Bool.false_ne_true
        | exact absurd (show true = false from h) (fun e => Bool.noConfusion e)
        | exact (congrArg Bool.not h)
        | (refine ⟨_, ⟨by first | assumption | decide | omega, by first | assumption | rfl⟩, ?_⟩; conv => whnf)
        | (refine ⟨_, fun _ => ⟨by first | assumption | decide | omega, by first | assumption | rfl⟩, ?_⟩; conv => whnf)
        | exact (rfl : (_ : Nat) = _)
        | exact (rfl : (_ : LV) = _)
        | (refine ⟨fun h => ?_, fun h => ?_⟩ <;> conv => whnf)
        | (refine ⟨?_, ?_⟩ <;> conv => whnf)
        | (intro h; conv => whnf)
end Go.RX

