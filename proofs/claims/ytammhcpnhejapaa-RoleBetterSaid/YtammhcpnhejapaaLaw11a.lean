/- The contract of footwaylaw11.RoleBetter. -/
import Derived.Test.YtammhcpnhejapaaPl11c
set_option linter.unusedVariables false
set_option linter.unusedSimpArgs false
open Go Go.RX Go.Proofs
namespace Go.RX
set_option maxRecDepth 10000
set_option maxHeartbeats 4000000
attribute [local irreducible] CallW CallP LoopW W IntKind.wrap Int.tmod Int.toNat
theorem rem_two {p n : Int} (h1 : 1 ≤ n) (h2 : n ≤ 100) : 0 ≤ Int.tmod (IntKind.i64.wrap (Int.tmod p n + n)) n ∧ Int.tmod (IntKind.i64.wrap (Int.tmod p n + n)) n < n := by
  have a1 : Int.tmod p n < n := Int.tmod_lt_of_pos p (by omega)
  have a2 : -n < Int.tmod p n := by
    have := Int.lt_tmod_of_pos p (b := n) (by omega)
    omega
  rw [show IntKind.i64.wrap (Int.tmod p n + n) = Int.tmod p n + n from w64_small (by omega) (by omega)]
  exact ⟨Int.tmod_nonneg _ (by omega), Int.tmod_lt_of_pos _ (by omega)⟩
theorem nthStep {α : Type} {es : List α} {i : Nat} {cs : α} {A : α → Prop} (h : nth es i = some cs) (k : A cs) : (match nth es i with
    | some cs => A cs
    | none => False) := by rw [h]; exact k
theorem c8 (s0 : Slf) (p : Int) (v : Vc) : CallP Try.prog 8 [slfL s0, I p, vL v] (.bool true) := by
  have h27 := c27 s0
  generalize few s0 = s at h27
  cases hs : sOk s with
  | false =>
    have h28 := c28e s hs
    refine .intro (by first | (simp [NLs, NL]; done) | (simp [NLs, NL, nlx]; done)) (.intro TT_ok Try.func8 rfl rfl [0, 1, 2, 3, 5, 6, 7, 9, 10, 11, 12, 14, 15, 16, 26, 44, 68, 75, 92, 120] rfl ?_)
    conv => whnf
    repeat' first
      | with_reducible rfl
      | with_reducible exact True.intro
      | with_reducible assumption
      | (refine CallP.use (h27) ?_; conv => whnf)
      | (refine ⟨_, fun _ => h27, ?_⟩; conv => whnf)
      | (refine CallP.use (h28) ?_; conv => whnf)
      | (refine ⟨_, fun _ => h28, ?_⟩; conv => whnf)
      | (refine CallP.use (c29) ?_; conv => whnf)
      | (refine ⟨_, fun _ => c29, ?_⟩; conv => whnf)
      | assumption
      | (refine W.drawn TT_ok hmix1 rfl ?_; conv => whnf)
      | (refine W.drawnM (id := 7) TT_ok hmix1 [0, 0, 0, 0, 0, 0, 0, 0, 0, 0, 0, 0, 0, 0] [0, 0, 0, 0, 0, 0, 0, 0, 0, 0, 0, 0, 0, 0] rfl ?_; conv => whnf)
      | exact absurd (show false = true from h) Bool.false_ne_true
      | exact absurd (show true = false from h) (fun e => Bool.noConfusion e)
      | exact (congrArg Bool.not h)
      | (refine ⟨_, ⟨by first | assumption | decide | omega, by first | assumption | rfl⟩, ?_⟩; conv => whnf)
      | (refine ⟨_, fun _ => ⟨by first | assumption | decide | omega, by first | assumption | rfl⟩, ?_⟩; conv => whnf)
      | exact (rfl : (_ : Nat) = _)
      | exact (rfl : (_ : LV) = _)
      | (refine ⟨fun h => ?_, fun h => ?_⟩ <;> conv => whnf)
      | (refine ⟨?_, ?_⟩ <;> conv => whnf)
      | (intro h; conv => whnf)
    all_goals trace_state
  | true =>
    have h28 := c28 s hs
    obtain ⟨hl1, hl2, hl3, hl4, hl5, hl6⟩ := hd_len (sOk_hd hs)
    have hL : (s.fs.map Inf.cells).length = s.fs.length := List.length_map ..
    obtain ⟨b1, b2⟩ := rem_two (p := p) (n := ((s.fs.map Inf.cells).length : Int)) (by simp; omega) (by simp; omega)
    have hn0 : ((s.fs.map Inf.cells).length : Int) ≠ 0 := by omega
    have hA : (bif decide (((s.fs.map Inf.cells).length : Int) = 0) then true else !decide (((s.us.map fun x => [LV.bool x]).length : Int) = ((s.fs.map Inf.cells).length : Int))) = false := by
      have hu2 : (s.us.map fun x => [LV.bool x]).length = s.us.length := List.length_map ..
      rw [show decide (((s.fs.map Inf.cells).length : Int) = 0) = false by rw [decide_eq_false_iff_not]; omega, cond_false, Bool.not_eq_false', decide_eq_true_eq]; omega
    obtain ⟨k, hk⟩ : ∃ k : Nat, (Int.tmod (IntKind.i64.wrap (Int.tmod p (s.fs.map Inf.cells).length + (s.fs.map Inf.cells).length)) (s.fs.map Inf.cells).length).toNat = k := ⟨_, rfl⟩
    have hki : (((Int.tmod (IntKind.i64.wrap (Int.tmod p (s.fs.map Inf.cells).length + (s.fs.map Inf.cells).length)) (s.fs.map Inf.cells).length).toNat : Nat) : Int) = (Int.tmod (IntKind.i64.wrap (Int.tmod p (s.fs.map Inf.cells).length + (s.fs.map Inf.cells).length)) (s.fs.map Inf.cells).length) := Int.toNat_of_nonneg b1
    have hb3 : (Int.tmod (IntKind.i64.wrap (Int.tmod p (s.fs.map Inf.cells).length + (s.fs.map Inf.cells).length)) (s.fs.map Inf.cells).length) < ((([] : List (List LV)) ++ s.fs.map Inf.cells).length : Int) := b2
    have hkl : k < s.fs.length := by omega
    obtain ⟨n, x, u, hP⟩ := sOk_port hs (p := k) (by omega)
    have hb : (s.fs.map Inf.cells)[(Int.tmod (IntKind.i64.wrap (Int.tmod p (s.fs.map Inf.cells).length + (s.fs.map Inf.cells).length)) (s.fs.map Inf.cells).length).toNat]? = some x.cells := by rw [hk]; simp [hP.fs]
    have hb2 : (s.us.map fun x => [LV.bool x])[(Int.tmod (IntKind.i64.wrap (Int.tmod p (s.fs.map Inf.cells).length + (s.fs.map Inf.cells).length)) (s.fs.map Inf.cells).length).toNat]? = some [LV.bool u] := by rw [hk]; simp [hP.us]
    have h30 := d30 v
    cases hu : u with
    | false =>
      subst hu
      refine .intro (by first | (simp [NLs, NL]; done) | (simp [NLs, NL, nlx]; done)) (.intro TT_ok Try.func8 rfl rfl [0, 1, 2, 3, 5, 6, 7, 9, 10, 11, 12, 14, 15, 16, 26, 44, 68, 75, 92, 120] rfl ?_)
      conv => whnf
      repeat' first
        | with_reducible rfl
        | with_reducible exact True.intro
        | with_reducible assumption
        | exact (Bool.false_ne_true (hA.symm.trans h)).elim
        | (refine CallP.use (h27) ?_; conv => whnf)
        | (refine ⟨_, fun _ => h27, ?_⟩; conv => whnf)
        | (refine CallP.use (h28) ?_; conv => whnf)
        | (refine ⟨_, fun _ => h28, ?_⟩; conv => whnf)
        | (refine CallP.use (c29) ?_; conv => whnf)
        | (refine ⟨_, fun _ => c29, ?_⟩; conv => whnf)
        | (refine CallP.use (h30) ?_; conv => whnf)
        | (refine ⟨_, fun _ => h30, ?_⟩; conv => whnf)
        | assumption
        | (refine W.drawn TT_ok hmix1 rfl ?_; conv => whnf)
        | (refine W.drawnM (id := 7) TT_ok hmix1 [0, 0, 0, 0, 0, 0, 0, 0, 0, 0, 0, 0, 0, 0] [0, 0, 0, 0, 0, 0, 0, 0, 0, 0, 0, 0, 0, 0] rfl ?_; conv => whnf)
        | exact absurd (show false = true from h) Bool.false_ne_true
        | exact absurd (show true = false from h) (fun e => Bool.noConfusion e)
        | exact (congrArg Bool.not h)
        | (refine ⟨_, ⟨by first | assumption | decide | omega, by first | assumption | rfl⟩, ?_⟩; conv => whnf)
        | (refine ⟨_, fun _ => ⟨by first | assumption | decide | omega, by first | assumption | rfl⟩, ?_⟩; conv => whnf)
        | exact (rfl : (_ : Nat) = _)
        | exact (rfl : (_ : LV) = _)
        | (refine ⟨fun h => ?_, fun h => ?_⟩ <;> conv => whnf)
        | (refine ⟨?_, ?_⟩ <;> conv => whnf)
        | (intro h; conv => whnf)
    | true =>
    cases hv : rgt v with
    | false =>
      rw [hv] at h30
      subst hu
      refine .intro (by first | (simp [NLs, NL]; done) | (simp [NLs, NL, nlx]; done)) (.intro TT_ok Try.func8 rfl rfl [0, 1, 2, 3, 5, 6, 7, 9, 10, 11, 12, 14, 15, 16, 26, 44, 68, 75, 92, 120] rfl ?_)
      conv => whnf
      repeat' first
        | with_reducible rfl
        | with_reducible exact True.intro
        | with_reducible assumption
        | exact (Bool.false_ne_true (hA.symm.trans h)).elim
        | (refine CallP.use (h27) ?_; conv => whnf)
        | (refine ⟨_, fun _ => h27, ?_⟩; conv => whnf)
        | (refine CallP.use (h28) ?_; conv => whnf)
        | (refine ⟨_, fun _ => h28, ?_⟩; conv => whnf)
        | (refine CallP.use (c29) ?_; conv => whnf)
        | (refine ⟨_, fun _ => c29, ?_⟩; conv => whnf)
        | (refine CallP.use (h30) ?_; conv => whnf)
        | (refine ⟨_, fun _ => h30, ?_⟩; conv => whnf)
        | assumption
        | (refine W.drawn TT_ok hmix1 rfl ?_; conv => whnf)
        | (refine W.drawnM (id := 7) TT_ok hmix1 [0, 0, 0, 0, 0, 0, 0, 0, 0, 0, 0, 0, 0, 0] [0, 0, 0, 0, 0, 0, 0, 0, 0, 0, 0, 0, 0, 0] rfl ?_; conv => whnf)
        | exact absurd (show false = true from h) Bool.false_ne_true
        | exact absurd (show true = false from h) (fun e => Bool.noConfusion e)
        | exact (congrArg Bool.not h)
        | (refine ⟨_, ⟨by first | assumption | decide | omega, by first | assumption | rfl⟩, ?_⟩; conv => whnf)
        | (refine ⟨_, fun _ => ⟨by first | assumption | decide | omega, by first | assumption | rfl⟩, ?_⟩; conv => whnf)
        | exact (rfl : (_ : Nat) = _)
        | exact (rfl : (_ : LV) = _)
        | (refine ⟨fun h => ?_, fun h => ?_⟩ <;> conv => whnf)
        | (refine ⟨?_, ?_⟩ <;> conv => whnf)
        | (intro h; conv => whnf)
    | true =>
    rw [hv] at h30
    have h14 := d14 v x.v
    by_cases hx : x.h = true ∧ bet v x.v = false
    · have hxr := (hP.told hx.1).2.1
      rw [berr_of hv hxr, hx.2] at h14
      have hx1 := hx.1
      subst hu
      refine .intro (by first | (simp [NLs, NL]; done) | (simp [NLs, NL, nlx]; done)) (.intro TT_ok Try.func8 rfl rfl [0, 1, 2, 3, 5, 6, 7, 9, 10, 11, 12, 14, 15, 16, 26, 44, 68, 75, 92, 120] rfl ?_)
      conv => whnf
      repeat' first
        | with_reducible rfl
        | with_reducible exact True.intro
        | with_reducible assumption
        | exact (Bool.false_ne_true (hA.symm.trans h)).elim
        | exact (Bool.false_ne_true (h.symm.trans hx1)).elim
        | (refine CallP.use (h27) ?_; conv => whnf)
        | (refine ⟨_, fun _ => h27, ?_⟩; conv => whnf)
        | (refine CallP.use (h28) ?_; conv => whnf)
        | (refine ⟨_, fun _ => h28, ?_⟩; conv => whnf)
        | (refine CallP.use (c29) ?_; conv => whnf)
        | (refine ⟨_, fun _ => c29, ?_⟩; conv => whnf)
        | (refine CallP.use (h30) ?_; conv => whnf)
        | (refine ⟨_, fun _ => h30, ?_⟩; conv => whnf)
        | (refine CallP.use (h14) ?_; conv => whnf)
        | (refine ⟨_, fun _ => h14, ?_⟩; conv => whnf)
        | assumption
        | (refine W.drawn TT_ok hmix1 rfl ?_; conv => whnf)
        | (refine W.drawnM (id := 7) TT_ok hmix1 [0, 0, 0, 0, 0, 0, 0, 0, 0, 0, 0, 0, 0, 0] [0, 0, 0, 0, 0, 0, 0, 0, 0, 0, 0, 0, 0, 0] rfl ?_; conv => whnf)
        | exact absurd (show false = true from h) Bool.false_ne_true
        | exact absurd (show true = false from h) (fun e => Bool.noConfusion e)
        | exact (congrArg Bool.not h)
        | (refine ⟨_, ⟨by first | assumption | decide | omega, by first | assumption | rfl⟩, ?_⟩; conv => whnf)
        | (refine ⟨_, fun _ => ⟨by first | assumption | decide | omega, by first | assumption | rfl⟩, ?_⟩; conv => whnf)
        | exact (rfl : (_ : Nat) = _)
        | exact (rfl : (_ : LV) = _)
        | (refine ⟨fun h => ?_, fun h => ?_⟩ <;> conv => whnf)
        | (refine ⟨?_, ?_⟩ <;> conv => whnf)
        | (intro h; conv => whnf)
      all_goals trace_state
    · have hbx : x.h = true → LtV v x.v := fun h => (bet_iff _ _).1 (by cases hq : bet v x.v with | true => rfl | false => exact absurd ⟨h, hq⟩ hx) |>.2.2
      have hs' := set_ok hs hP hu hv
      have hfin := better_law hs hP hu hv hbx
      have r1 := tl_right hs (p := 0) (by omega)
      have r2 := tl_right hs' (p := 0) (by omega)
      have h14b := d14 (tlV s (rp s) 0) (tlV (setI s k v) (rp (setI s k v)) 0)
      have hbf : bet (tlV s (rp s) 0) (tlV (setI s k v) (rp (setI s k v)) 0) = false := by rw [← Bool.not_eq_true, bet_of r1 r2]; exact hfin
      rw [berr_of r1 r2, hbf] at h14b
      have h28b := c28 (setI s k v) hs'
      have hset : setN (([] : List (List LV)) ++ s.fs.map Inf.cells) (0 + (Int.tmod (IntKind.i64.wrap (Int.tmod p (s.fs.map Inf.cells).length + (s.fs.map Inf.cells).length)) (s.fs.map Inf.cells).length).toNat) (newI v).cells = (setI s k v).fs.map Inf.cells := by
        rw [hk, Nat.zero_add, setN_eq, List.nil_append, setI, List.map_set]
      have h28c : CallP Try.prog 28 [.agg [I s.i, intsL s.cs, boolsL s.us, .ro 6 (setN (([] : List (List LV)) ++ s.fs.map Inf.cells) (0 + (Int.tmod (IntKind.i64.wrap (Int.tmod p (s.fs.map Inf.cells).length + (s.fs.map Inf.cells).length)) (s.fs.map Inf.cells).length).toNat) (newI v).cells)]] (.tup [vL (tlV (setI s k v) (rp (setI s k v)) 0), I (atI (rp (setI s k v))), I 0]) := by
        rw [hset]; exact h28b
      have hnl : NLss (setN (([] : List (List LV)) ++ s.fs.map Inf.cells) (0 + (Int.tmod (IntKind.i64.wrap (Int.tmod p (s.fs.map Inf.cells).length + (s.fs.map Inf.cells).length)) (s.fs.map Inf.cells).length).toNat) (newI v).cells) := by
        rw [hset]
        refine NLss_iff.2 fun cs hc y hy => ?_
        obtain ⟨q, _, rfl⟩ := List.mem_map.1 hc
        simp only [List.mem_cons, List.not_mem_nil, or_false] at hy
        rcases hy with rfl | rfl | rfl | rfl | rfl | rfl <;> trivial
      have hlen2 : (([] : List (List LV)) ++ s.fs.map Inf.cells).length = (setN (([] : List (List LV)) ++ s.fs.map Inf.cells) (0 + (Int.tmod (IntKind.i64.wrap (Int.tmod p (s.fs.map Inf.cells).length + (s.fs.map Inf.cells).length)) (s.fs.map Inf.cells).length).toNat) (newI v).cells).length := by
        rw [setN_eq, List.length_set]
      have hnth : nth (([] : List (List LV)) ++ s.fs.map Inf.cells) (0 + (Int.tmod (IntKind.i64.wrap (Int.tmod p (s.fs.map Inf.cells).length + (s.fs.map Inf.cells).length)) (s.fs.map Inf.cells).length).toNat) = some x.cells := by
        rw [nth_eq, hk, Nat.zero_add]; simp [hP.fs]
      have f1 : fits (([] : List (List LV)) ++ s.fs.map Inf.cells).length 48 := by simp [fits]; omega
      have e14 : x.h = true → (berr v x.v = 0 ∧ bet v x.v = true) := fun h => ⟨berr_of hv (hP.told h).2.1, by rw [bet_of hv (hP.told h).2.1]; exact hbx h⟩
      subst hu
      by_cases hx1 : x.h = true
      · rw [(e14 hx1).1, (e14 hx1).2] at h14
        refine .intro (by first | (simp [NLs, NL]; done) | (simp [NLs, NL, nlx]; done)) (.intro TT_ok Try.func8 rfl rfl [0, 1, 2, 3, 5, 6, 7, 9, 10, 11, 12, 14, 15, 16, 26, 44, 68, 75, 92, 120] rfl ?_)
        conv => whnf
        repeat' first
          | with_reducible rfl
          | with_reducible exact True.intro
          | with_reducible assumption
          | exact (Bool.false_ne_true (hA.symm.trans h)).elim
          | exact (Bool.false_ne_true (h.symm.trans hx1)).elim
          | exact f1
          | exact hnl
          | exact hlen2
          | (refine CallP.use (h27) ?_; conv => whnf)
          | (refine ⟨_, fun _ => h27, ?_⟩; conv => whnf)
          | (refine CallP.use (h28) ?_; conv => whnf)
          | (refine ⟨_, fun _ => h28, ?_⟩; conv => whnf)
          | (refine CallP.use (h28c) ?_; conv => whnf)
          | (refine ⟨_, fun _ => h28c, ?_⟩; conv => whnf)
          | (refine CallP.use (c29) ?_; conv => whnf)
          | (refine ⟨_, fun _ => c29, ?_⟩; conv => whnf)
          | (refine CallP.use (h30) ?_; conv => whnf)
          | (refine ⟨_, fun _ => h30, ?_⟩; conv => whnf)
          | (refine CallP.use (h14) ?_; conv => whnf)
          | (refine ⟨_, fun _ => h14, ?_⟩; conv => whnf)
          | (refine CallP.use (h14b) ?_; conv => whnf)
          | (refine ⟨_, fun _ => h14b, ?_⟩; conv => whnf)
          | assumption
          | (refine W.drawn TT_ok hmix1 rfl ?_; conv => whnf)
          | (refine W.drawnM (id := 7) TT_ok hmix1 [0, 0, 0, 0, 0, 0, 0, 0, 0, 0, 0, 0, 0, 0] [0, 0, 0, 0, 0, 0, 0, 0, 0, 0, 0, 0, 0, 0] rfl ?_; conv => whnf)
          | exact absurd (show false = true from h) Bool.false_ne_true
          | exact absurd (show true = false from h) (fun e => Bool.noConfusion e)
          | exact (congrArg Bool.not h)
          | (refine ⟨_, ⟨by first | assumption | decide | omega, by first | assumption | rfl⟩, ?_⟩; conv => whnf)
          | (refine ⟨_, fun _ => ⟨by first | assumption | decide | omega, by first | assumption | rfl⟩, ?_⟩; conv => whnf)
          | exact (rfl : (_ : Nat) = _)
          | exact (rfl : (_ : LV) = _)
          | (refine ⟨fun h => ?_, fun h => ?_⟩ <;> conv => whnf)
          | (refine ⟨?_, ?_⟩ <;> conv => whnf)
          | (intro h; conv => whnf)
          | (generalize hg : nth _ _ = o; have ho := Eq.trans (Eq.symm hg) hnth; subst ho; conv => whnf)
        all_goals trace_state
      · rw [Bool.not_eq_true] at hx1
        refine .intro (by first | (simp [NLs, NL]; done) | (simp [NLs, NL, nlx]; done)) (.intro TT_ok Try.func8 rfl rfl [0, 1, 2, 3, 5, 6, 7, 9, 10, 11, 12, 14, 15, 16, 26, 44, 68, 75, 92, 120] rfl ?_)
        conv => whnf
        repeat' first
          | with_reducible rfl
          | with_reducible exact True.intro
          | with_reducible assumption
          | exact (Bool.false_ne_true (hA.symm.trans h)).elim
          | exact (Bool.false_ne_true (hx1.symm.trans h)).elim
          | exact f1
          | exact hnl
          | exact hlen2
          | (refine CallP.use (h27) ?_; conv => whnf)
          | (refine ⟨_, fun _ => h27, ?_⟩; conv => whnf)
          | (refine CallP.use (h28) ?_; conv => whnf)
          | (refine ⟨_, fun _ => h28, ?_⟩; conv => whnf)
          | (refine CallP.use (h28c) ?_; conv => whnf)
          | (refine ⟨_, fun _ => h28c, ?_⟩; conv => whnf)
          | (refine CallP.use (c29) ?_; conv => whnf)
          | (refine ⟨_, fun _ => c29, ?_⟩; conv => whnf)
          | (refine CallP.use (h30) ?_; conv => whnf)
          | (refine ⟨_, fun _ => h30, ?_⟩; conv => whnf)
          | (refine CallP.use (h14b) ?_; conv => whnf)
          | (refine ⟨_, fun _ => h14b, ?_⟩; conv => whnf)
          | assumption
          | (refine W.drawn TT_ok hmix1 rfl ?_; conv => whnf)
          | (refine W.drawnM (id := 7) TT_ok hmix1 [0, 0, 0, 0, 0, 0, 0, 0, 0, 0, 0, 0, 0, 0] [0, 0, 0, 0, 0, 0, 0, 0, 0, 0, 0, 0, 0, 0] rfl ?_; conv => whnf)
          | exact absurd (show false = true from h) Bool.false_ne_true
          | exact absurd (show true = false from h) (fun e => Bool.noConfusion e)
          | exact (congrArg Bool.not h)
          | (refine ⟨_, ⟨by first | assumption | decide | omega, by first | assumption | rfl⟩, ?_⟩; conv => whnf)
          | (refine ⟨_, fun _ => ⟨by first | assumption | decide | omega, by first | assumption | rfl⟩, ?_⟩; conv => whnf)
          | exact (rfl : (_ : Nat) = _)
          | exact (rfl : (_ : LV) = _)
          | (refine ⟨fun h => ?_, fun h => ?_⟩ <;> conv => whnf)
          | (refine ⟨?_, ?_⟩ <;> conv => whnf)
          | (intro h; conv => whnf)
          | (generalize hg : nth _ _ = o; have ho := Eq.trans (Eq.symm hg) hnth; subst ho; conv => whnf)
        all_goals trace_state
end Go.RX

