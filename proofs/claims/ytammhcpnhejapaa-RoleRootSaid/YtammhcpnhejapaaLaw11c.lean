/- The contract of footwaylaw11.RoleRoot. -/
import Derived.Test.YtammhcpnhejapaaPl11d
set_option linter.unusedVariables false
set_option linter.unusedSimpArgs false
open Go Go.RX Go.Proofs
namespace Go.RX
set_option maxRecDepth 10000
set_option maxHeartbeats 4000000
attribute [local irreducible] CallW CallP LoopW W IntKind.wrap
abbrev s9 (s : Slf) (w : Option Nat) (k : Nat) : Slots := [(1, .ptr 0 0 0), (3, .ptr 1 0 0), (4, I (atI w)), (6, intsL (rls s s.cs.length)), (8, I (leastN s k)), (9, I (rootsN s k)), (88, infsL s.fs), (89, I (s.fs.map Inf.cells).length), (90, I k)]
abbrev l9 (s : Slf) (v : Vc) : List (Nat × Blk) := [(0, .row 52 4 [[I s.i, intsL s.cs, boolsL s.us, infsL s.fs]]), (1, .row 23 4 [[I v.r, I v.c, I v.b, I v.p]])]
abbrev s9b (s : Slf) (q : Nat) (g : Int) (k : Nat) : Slots := [(1, .ptr 0 0 0), (3, .ptr 1 0 0), (4, I (atI (some q))), (9, I (rootsN s s.fs.length)), (12, .ptr 2 0 0), (13, I g), (161, infsL s.fs), (162, I (s.fs.map Inf.cells).length), (163, I k)]
abbrev l9b (s : Slf) (v b : Vc) : List (Nat × Blk) := [(0, .row 52 4 [[I s.i, intsL s.cs, boolsL s.us, infsL s.fs]]), (1, .row 23 4 [[I v.r, I v.c, I v.b, I v.p]]), (2, .row 23 4 [[I b.r, I b.c, I b.b, I b.p]])]
theorem c9 (s0 : Slf) : CallP Try.prog 9 [slfL s0] (.bool true) := by
  have h27 := c27 s0
  generalize few s0 = s at h27
  cases hs : sOk s with
  | false =>
    have h28 := c28e s hs
    have h31 := c31e s hs
    refine .intro (by first | (simp [NLs, NL]; done) | (simp [NLs, NL, nlx]; done)) (.intro TT_ok Try.func9 rfl rfl [0, 1, 2, 3, 4, 5, 6, 7, 8, 9, 10, 11, 12, 13, 14, 15, 16, 17, 18, 19, 34, 84, 88, 89, 90, 91, 96, 106, 117, 140, 142, 161, 162, 163, 164, 170, 206] rfl ?_)
    conv => whnf
    repeat' first
      | with_reducible rfl
      | with_reducible exact True.intro
      | with_reducible assumption
      | (refine CallP.use (h27) ?_; conv => whnf)
      | (refine ⟨_, fun _ => h27, ?_⟩; conv => whnf)
      | (refine CallP.use (h28) ?_; conv => whnf)
      | (refine ⟨_, fun _ => h28, ?_⟩; conv => whnf)
      | (refine CallP.use (h31) ?_; conv => whnf)
      | (refine ⟨_, fun _ => h31, ?_⟩; conv => whnf)
      | (refine CallP.use (c29) ?_; conv => whnf)
      | (refine ⟨_, fun _ => c29, ?_⟩; conv => whnf)
      | assumption
      | (refine W.drawnM (id := 23) TT_ok hmix1 [0, 0, 0, 0, 0, 0, 0, 0, 0, 0, 0, 0, 0, 0, 0, 0, 1, 2] [1, 1, 1, 1, 1, 1, 1, 1, 1, 1, 1, 1, 1, 1, 2, 1, 2, 2] rfl ?_; conv => whnf)
      | (refine W.drawnM (id := 28) TT_ok hmix1 [0, 0, 0, 0, 0, 0, 0, 0, 0, 0, 0, 0, 1, 2] [1, 1, 1, 1, 1, 1, 1, 1, 1, 1, 2, 1, 2, 2] rfl ?_; conv => whnf)
      | exact absurd (show false = true from h) Bool.false_ne_true
      | exact absurd (show true = false from h) (fun e => Bool.noConfusion e)
      | exact (congrArg Bool.not h)
      | (refine ⟨_, ⟨by first | assumption | decide | omega, by first | assumption | rfl⟩, ?_⟩; conv => whnf)
      | (refine ⟨_, fun _ => ⟨by first | assumption | decide | omega, by first | assumption | rfl⟩, ?_⟩; conv => whnf)
      | exact (rfl : (_ : Nat) = _)
      | exact (rfl : (_ : LV) = _)
      | (refine ⟨fun h => ?_, fun h => ?_⟩ <;> conv => whnf)
      | (refine ⟨?_, ?_⟩ <;> conv => whnf)
      | (intro h; conv => whnf)
  | true =>
    have h28 := c28 s hs
    have h31 := c31 s hs
    obtain ⟨hl1, hl2, hl3, hl4, hl5, hl6⟩ := hd_len (sOk_hd hs)
    have hL : (s.fs.map Inf.cells).length = s.fs.length := List.length_map ..
    have hL2 : (s.us.map fun x => [LV.bool x]).length = s.us.length := List.length_map ..
    have hL3 : (s.cs.map fun x => [I x]).length = s.cs.length := List.length_map ..
    have hL4 : ((rls s s.cs.length).map fun x => [I x]).length = s.cs.length := by rw [List.length_map, rls_len]
    have hat : -1 ≤ atI (rp s) ∧ atI (rp s) < s.fs.length := by
      rcases rp_spec hs with ⟨h1, _⟩ | ⟨p, h1, ⟨x, h2, _⟩, _⟩
      · rw [h1]; simp only [atI]; omega
      · have := (List.getElem?_eq_some_iff.1 h2).1
        rw [h1]; simp only [atI]; omega
    refine .intro (by first | (simp [NLs, NL]; done) | (simp [NLs, NL, nlx]; done)) (.intro TT_ok Try.func9 rfl rfl [0, 1, 2, 3, 4, 5, 6, 7, 8, 9, 10, 11, 12, 13, 14, 15, 16, 17, 18, 19, 34, 84, 88, 89, 90, 91, 96, 106, 117, 140, 142, 161, 162, 163, 164, 170, 206] rfl ?_)
    conv => whnf
    repeat' first
      | with_reducible rfl
      | with_reducible exact True.intro
      | with_reducible assumption
      | (refine CallP.use (h27) ?_; conv => whnf)
      | (refine ⟨_, fun _ => h27, ?_⟩; conv => whnf)
      | (refine CallP.use (h28) ?_; conv => whnf)
      | (refine ⟨_, fun _ => h28, ?_⟩; conv => whnf)
      | (refine CallP.use (h31) ?_; conv => whnf)
      | (refine ⟨_, fun _ => h31, ?_⟩; conv => whnf)
      | (refine CallP.use (c29) ?_; conv => whnf)
      | (refine ⟨_, fun _ => c29, ?_⟩; conv => whnf)
      | assumption
      | (refine W.drawnM (id := 23) TT_ok hmix1 [0, 0, 0, 0, 0, 0, 0, 0, 0, 0, 0, 0, 0, 0, 0, 0, 1, 2] [1, 1, 1, 1, 1, 1, 1, 1, 1, 1, 1, 1, 1, 1, 2, 1, 2, 2] rfl ?_; conv => whnf)
      | (refine W.drawnM (id := 28) TT_ok hmix1 [0, 0, 0, 0, 0, 0, 0, 0, 0, 0, 0, 0, 1, 2] [1, 1, 1, 1, 1, 1, 1, 1, 1, 1, 2, 1, 2, 2] rfl ?_; conv => whnf)
      | exact absurd (show false = true from h) Bool.false_ne_true
      | exact absurd (show true = false from h) (fun e => Bool.noConfusion e)
      | exact (congrArg Bool.not h)
      | (refine ⟨_, ⟨by first | assumption | decide | omega, by first | assumption | rfl⟩, ?_⟩; conv => whnf)
      | (refine ⟨_, fun _ => ⟨by first | assumption | decide | omega, by first | assumption | rfl⟩, ?_⟩; conv => whnf)
      | exact (rfl : (_ : Nat) = _)
      | exact (rfl : (_ : LV) = _)
      | (refine ⟨fun h => ?_, fun h => ?_⟩ <;> conv => whnf)
      | (refine ⟨?_, ?_⟩ <;> conv => whnf)
      | (intro h; conv => whnf)
    · exfalso
      revert h
      simp [hL, hL2, hL3, rls_len, tlV]
      omega
    clear h
    have hsp := rp_spec hs
    have hlr := least_root hs
    have hla := least_at hs
    have hro := roots_one hs s.fs.length (by omega)
    have hrr : ∀ p, p < s.cs.length → (rlAt s p = 0 ↔ (p : Int) = atI (rp s)) := fun p hp => role_root hs hp
    generalize rp s = w at hat hsp hlr hla hro hrr
    refine LoopW.norm (s9 s w 0) 2 (l9 s (tlV s w 0)) ⟨rfl, rfl, rfl, rfl, rfl, rfl, rfl, rfl, rfl, trivial⟩ ⟨⟨rfl, rfl, ⟨trivial, trivial, trivial, trivial, trivial⟩, trivial⟩, ⟨rfl, rfl, ⟨trivial, trivial, trivial, trivial, trivial⟩, trivial⟩, trivial⟩ ⟨rfl, rfl, trivial, trivial, trivial, trivial, trivial, trivial, trivial, trivial⟩ rfl ?_
    refine LoopW.ind (α := Nat) (fun k => s.fs.length - k) (fun k s' H => k ≤ s.fs.length ∧ s' = s9 s w k ∧ H = ⟨2, l9 s (tlV s w 0)⟩) ?_ (a := 0) ⟨Nat.zero_le _, rfl, rfl⟩
    rintro k s' H ⟨hk, rfl, rfl⟩ ih
    by_cases hi : k < s.fs.length
    · have hd : decide ((k : Int) < ((s.fs.map Inf.cells).length : Int)) = true := by rw [decide_eq_true_eq]; omega
      obtain ⟨n, x, u, hP⟩ := sOk_port hs (p := k) (by omega)
      have hb : (s.fs.map Inf.cells)[k]? = some [.bool x.h, I x.r, I x.c, I x.b, I x.p, I x.a] := by simp [hP.fs]
      have hb2 : ((rls s s.cs.length).map fun x => [I x])[k]? = some [I (rlAt s k)] := by simp [rls_at s (show k < s.cs.length by omega)]
      have hrk := hrr k (by omega)
      have hrd : decide (rlAt s k = 0) = decide ((k : Int) = atI w) := by rw [decide_eq_decide]; exact hrk
      have hrl := rootsN_le s k
      have eR : rootsN s (k + 1) = if rlAt s k = 0 then rootsN s k + 1 else rootsN s k := rfl
      have eL : leastN s (k + 1) = if x.h = true then mn (leastN s k) x.r else leastN s k := by rw [leastN, hP.fs]
      have hend : ∀ {s1 : Slots} {H1 : Heap}, subC s1 (s9 s w (k + 1)) → subL H1.live 2 (l9 s (tlV s w 0)) → LoopW Try.prog Try.f9.ntmps 0 _ _ s1 H1 := fun h1 h2 =>
        LoopW.norm (s9 s w (k + 1)) 2 (l9 s (tlV s w 0)) h1 h2 ⟨rfl, rfl, trivial, trivial, trivial, trivial, trivial, trivial, trivial, trivial⟩ rfl (ih (k + 1) _ _ ⟨hi, rfl, rfl⟩ (by omega))
      clear ih
      cases hx : x.h with
      | false =>
        rw [hx] at hb eL
        by_cases hr : rlAt s k = 0
        · have hr1 : decide (rlAt s k = 0) = true := by rw [decide_eq_true_eq]; exact hr
          rw [if_pos hr] at eR
          refine LoopW.round TT_ok [0, 1, 2, 3, 4, 5, 6, 7, 8, 9, 10, 11, 12, 13, 14, 15, 16, 17, 18, 19, 34, 84, 88, 89, 90, 91, 96, 106, 117, 140, 142, 161, 162, 163, 164, 170, 206] ?_
          conv => whnf
          repeat' first
            | with_reducible rfl
            | with_reducible exact True.intro
            | with_reducible assumption
            | exact (Bool.false_ne_true (h.symm.trans hd)).elim
            | exact (Bool.false_ne_true (h.symm.trans hr1)).elim
            | assumption
            | (refine W.drawnM (id := 23) TT_ok hmix1 [0, 0, 0, 0, 0, 0, 0, 0, 0, 0, 0, 0, 0, 0, 0, 0, 1, 2] [1, 1, 1, 1, 1, 1, 1, 1, 1, 1, 1, 1, 1, 1, 2, 1, 2, 2] rfl ?_; conv => whnf)
            | (refine W.drawnM (id := 28) TT_ok hmix1 [0, 0, 0, 0, 0, 0, 0, 0, 0, 0, 0, 0, 1, 2] [1, 1, 1, 1, 1, 1, 1, 1, 1, 1, 2, 1, 2, 2] rfl ?_; conv => whnf)
            | exact absurd (show false = true from h) Bool.false_ne_true
            | exact absurd (show true = false from h) (fun e => Bool.noConfusion e)
            | exact (congrArg Bool.not h)
            | (refine ⟨_, ⟨by first | assumption | decide | omega, by first | assumption | rfl⟩, ?_⟩; conv => whnf)
            | (refine ⟨_, fun _ => ⟨by first | assumption | decide | omega, by first | assumption | rfl⟩, ?_⟩; conv => whnf)
            | exact (rfl : (_ : Nat) = _)
            | exact (rfl : (_ : LV) = _)
            | (refine ⟨fun h => ?_, fun h => ?_⟩ <;> conv => whnf)
            | (refine ⟨?_, ?_⟩ <;> conv => whnf)
            | (intro h; conv => whnf)
          all_goals first
            | (exfalso; revert h; simp [hrd]; done)
            | exact hend ⟨rfl, rfl, rfl, rfl, congrArg (LV.int .i64) eL.symm, congrArg (LV.int .i64) (by rw [eR]; exact w64_nat (by omega)), rfl, rfl, congrArg (LV.int .i64) (w64_nat (by omega)), trivial⟩ ⟨⟨rfl, rfl, ⟨trivial, trivial, trivial, trivial, trivial⟩, trivial⟩, ⟨rfl, rfl, ⟨trivial, trivial, trivial, trivial, trivial⟩, trivial⟩, trivial⟩
        · have hr1 : decide (rlAt s k = 0) = false := by rw [decide_eq_false_iff_not]; exact hr
          rw [if_neg hr] at eR
          refine LoopW.round TT_ok [0, 1, 2, 3, 4, 5, 6, 7, 8, 9, 10, 11, 12, 13, 14, 15, 16, 17, 18, 19, 34, 84, 88, 89, 90, 91, 96, 106, 117, 140, 142, 161, 162, 163, 164, 170, 206] ?_
          conv => whnf
          repeat' first
            | with_reducible rfl
            | with_reducible exact True.intro
            | with_reducible assumption
            | exact (Bool.false_ne_true (h.symm.trans hd)).elim
            | exact (Bool.false_ne_true (hr1.symm.trans h)).elim
            | assumption
            | (refine W.drawnM (id := 23) TT_ok hmix1 [0, 0, 0, 0, 0, 0, 0, 0, 0, 0, 0, 0, 0, 0, 0, 0, 1, 2] [1, 1, 1, 1, 1, 1, 1, 1, 1, 1, 1, 1, 1, 1, 2, 1, 2, 2] rfl ?_; conv => whnf)
            | (refine W.drawnM (id := 28) TT_ok hmix1 [0, 0, 0, 0, 0, 0, 0, 0, 0, 0, 0, 0, 1, 2] [1, 1, 1, 1, 1, 1, 1, 1, 1, 1, 2, 1, 2, 2] rfl ?_; conv => whnf)
            | exact absurd (show false = true from h) Bool.false_ne_true
            | exact absurd (show true = false from h) (fun e => Bool.noConfusion e)
            | exact (congrArg Bool.not h)
            | (refine ⟨_, ⟨by first | assumption | decide | omega, by first | assumption | rfl⟩, ?_⟩; conv => whnf)
            | (refine ⟨_, fun _ => ⟨by first | assumption | decide | omega, by first | assumption | rfl⟩, ?_⟩; conv => whnf)
            | exact (rfl : (_ : Nat) = _)
            | exact (rfl : (_ : LV) = _)
            | (refine ⟨fun h => ?_, fun h => ?_⟩ <;> conv => whnf)
            | (refine ⟨?_, ?_⟩ <;> conv => whnf)
            | (intro h; conv => whnf)
          all_goals first
            | (exfalso; revert h; simp [hrd]; done)
            | exact hend ⟨rfl, rfl, rfl, rfl, congrArg (LV.int .i64) eL.symm, congrArg (LV.int .i64) (by rw [eR]), rfl, rfl, congrArg (LV.int .i64) (w64_nat (by omega)), trivial⟩ ⟨⟨rfl, rfl, ⟨trivial, trivial, trivial, trivial, trivial⟩, trivial⟩, ⟨rfl, rfl, ⟨trivial, trivial, trivial, trivial, trivial⟩, trivial⟩, trivial⟩
       | true =>
        rw [hx] at hb eL
        by_cases hr : rlAt s k = 0
        · have hr1 : decide (rlAt s k = 0) = true := by rw [decide_eq_true_eq]; exact hr
          rw [if_pos hr] at eR
          refine LoopW.round TT_ok [0, 1, 2, 3, 4, 5, 6, 7, 8, 9, 10, 11, 12, 13, 14, 15, 16, 17, 18, 19, 34, 84, 88, 89, 90, 91, 96, 106, 117, 140, 142, 161, 162, 163, 164, 170, 206] ?_
          conv => whnf
          repeat' first
            | with_reducible rfl
            | with_reducible exact True.intro
            | with_reducible assumption
            | exact (Bool.false_ne_true (h.symm.trans hd)).elim
            | exact (Bool.false_ne_true (h.symm.trans hr1)).elim
            | assumption
            | (refine W.drawnM (id := 23) TT_ok hmix1 [0, 0, 0, 0, 0, 0, 0, 0, 0, 0, 0, 0, 0, 0, 0, 0, 1, 2] [1, 1, 1, 1, 1, 1, 1, 1, 1, 1, 1, 1, 1, 1, 2, 1, 2, 2] rfl ?_; conv => whnf)
            | (refine W.drawnM (id := 28) TT_ok hmix1 [0, 0, 0, 0, 0, 0, 0, 0, 0, 0, 0, 0, 1, 2] [1, 1, 1, 1, 1, 1, 1, 1, 1, 1, 2, 1, 2, 2] rfl ?_; conv => whnf)
            | exact absurd (show false = true from h) Bool.false_ne_true
            | exact absurd (show true = false from h) (fun e => Bool.noConfusion e)
            | exact (congrArg Bool.not h)
            | (refine ⟨_, ⟨by first | assumption | decide | omega, by first | assumption | rfl⟩, ?_⟩; conv => whnf)
            | (refine ⟨_, fun _ => ⟨by first | assumption | decide | omega, by first | assumption | rfl⟩, ?_⟩; conv => whnf)
            | exact (rfl : (_ : Nat) = _)
            | exact (rfl : (_ : LV) = _)
            | (refine ⟨fun h => ?_, fun h => ?_⟩ <;> conv => whnf)
            | (refine ⟨?_, ?_⟩ <;> conv => whnf)
            | (intro h; conv => whnf)
          all_goals first
            | (exfalso; revert h; simp [hrd]; done)
            | exact hend ⟨rfl, rfl, rfl, rfl, congrArg (LV.int .i64) eL.symm, congrArg (LV.int .i64) (by rw [eR]; exact w64_nat (by omega)), rfl, rfl, congrArg (LV.int .i64) (w64_nat (by omega)), trivial⟩ ⟨⟨rfl, rfl, ⟨trivial, trivial, trivial, trivial, trivial⟩, trivial⟩, ⟨rfl, rfl, ⟨trivial, trivial, trivial, trivial, trivial⟩, trivial⟩, trivial⟩
        · have hr1 : decide (rlAt s k = 0) = false := by rw [decide_eq_false_iff_not]; exact hr
          rw [if_neg hr] at eR
          refine LoopW.round TT_ok [0, 1, 2, 3, 4, 5, 6, 7, 8, 9, 10, 11, 12, 13, 14, 15, 16, 17, 18, 19, 34, 84, 88, 89, 90, 91, 96, 106, 117, 140, 142, 161, 162, 163, 164, 170, 206] ?_
          conv => whnf
          repeat' first
            | with_reducible rfl
            | with_reducible exact True.intro
            | with_reducible assumption
            | exact (Bool.false_ne_true (h.symm.trans hd)).elim
            | exact (Bool.false_ne_true (hr1.symm.trans h)).elim
            | assumption
            | (refine W.drawnM (id := 23) TT_ok hmix1 [0, 0, 0, 0, 0, 0, 0, 0, 0, 0, 0, 0, 0, 0, 0, 0, 1, 2] [1, 1, 1, 1, 1, 1, 1, 1, 1, 1, 1, 1, 1, 1, 2, 1, 2, 2] rfl ?_; conv => whnf)
            | (refine W.drawnM (id := 28) TT_ok hmix1 [0, 0, 0, 0, 0, 0, 0, 0, 0, 0, 0, 0, 1, 2] [1, 1, 1, 1, 1, 1, 1, 1, 1, 1, 2, 1, 2, 2] rfl ?_; conv => whnf)
            | exact absurd (show false = true from h) Bool.false_ne_true
            | exact absurd (show true = false from h) (fun e => Bool.noConfusion e)
            | exact (congrArg Bool.not h)
            | (refine ⟨_, ⟨by first | assumption | decide | omega, by first | assumption | rfl⟩, ?_⟩; conv => whnf)
            | (refine ⟨_, fun _ => ⟨by first | assumption | decide | omega, by first | assumption | rfl⟩, ?_⟩; conv => whnf)
            | exact (rfl : (_ : Nat) = _)
            | exact (rfl : (_ : LV) = _)
            | (refine ⟨fun h => ?_, fun h => ?_⟩ <;> conv => whnf)
            | (refine ⟨?_, ?_⟩ <;> conv => whnf)
            | (intro h; conv => whnf)
          all_goals first
            | (exfalso; revert h; simp [hrd]; done)
            | exact hend ⟨rfl, rfl, rfl, rfl, congrArg (LV.int .i64) eL.symm, congrArg (LV.int .i64) (by rw [eR]), rfl, rfl, congrArg (LV.int .i64) (w64_nat (by omega)), trivial⟩ ⟨⟨rfl, rfl, ⟨trivial, trivial, trivial, trivial, trivial⟩, trivial⟩, ⟨rfl, rfl, ⟨trivial, trivial, trivial, trivial, trivial⟩, trivial⟩, trivial⟩
    · have hd : decide ((k : Int) < ((s.fs.map Inf.cells).length : Int)) = false := by rw [decide_eq_false_iff_not]; omega
      have hkk : k = s.fs.length := by omega
      subst hkk
      clear ih
      have e1 : (tlV s w 0).r = leastN s s.fs.length := hlr
      have d1 : decide (0 ≤ atI w) = decide (leastN s s.fs.length < s.i) := by rw [decide_eq_decide]; exact hla
      rcases hsp with ⟨rfl, hns⟩ | ⟨q, rfl, hT, hq1, hq2, hq3⟩
      · have hr0 : (rootsN s s.fs.length : Int) = 0 := by rw [hro]; simp [atI]
        have da : decide (0 ≤ atI none) = false := rfl
        have dl : decide (leastN s s.fs.length < s.i) = false := by rw [← d1]; rfl
        have dr : decide ((tlV s none 0).r = leastN s s.fs.length) = true := by rw [decide_eq_true_eq]; exact e1
        have dc : decide ((tlV s none 0).c = 0) = true := rfl
        have dn : decide (atI none < 0) = true := rfl
        refine LoopW.round TT_ok [0, 1, 2, 3, 4, 5, 6, 7, 8, 9, 10, 11, 12, 13, 14, 15, 16, 17, 18, 19, 34, 84, 88, 89, 90, 91, 96, 106, 117, 140, 142, 161, 162, 163, 164, 170, 206] ?_
        conv => whnf
        repeat' first
          | with_reducible rfl
          | with_reducible exact True.intro
          | with_reducible assumption
          | exact (Bool.false_ne_true (hd.symm.trans h)).elim
          | assumption
          | (refine W.drawnM (id := 23) TT_ok hmix1 [0, 0, 0, 0, 0, 0, 0, 0, 0, 0, 0, 0, 0, 0, 0, 0, 1, 2] [1, 1, 1, 1, 1, 1, 1, 1, 1, 1, 1, 1, 1, 1, 2, 1, 2, 2] rfl ?_; conv => whnf)
          | (refine W.drawnM (id := 28) TT_ok hmix1 [0, 0, 0, 0, 0, 0, 0, 0, 0, 0, 0, 0, 1, 2] [1, 1, 1, 1, 1, 1, 1, 1, 1, 1, 2, 1, 2, 2] rfl ?_; conv => whnf)
          | exact absurd (show false = true from h) Bool.false_ne_true
          | exact absurd (show true = false from h) (fun e => Bool.noConfusion e)
          | exact (congrArg Bool.not h)
          | (refine ⟨_, ⟨by first | assumption | decide | omega, by first | assumption | rfl⟩, ?_⟩; conv => whnf)
          | (refine ⟨_, fun _ => ⟨by first | assumption | decide | omega, by first | assumption | rfl⟩, ?_⟩; conv => whnf)
          | exact (rfl : (_ : Nat) = _)
          | exact (rfl : (_ : LV) = _)
          | (refine ⟨fun h => ?_, fun h => ?_⟩ <;> conv => whnf)
          | (refine ⟨?_, ?_⟩ <;> conv => whnf)
          | (intro h; conv => whnf)
        all_goals first
          | (exfalso; revert h; simp [dr, da, dl, dc, dn]; done)
          | (simp [dr, da, dl, dc, dn, hr0]; done)
          | (simp [dr, da, dl, dc, dn, hr0]; omega)
      · have hr1 : (rootsN s s.fs.length : Int) = 1 := by
          rw [hro, if_pos ⟨by simp only [atI]; omega, hat.2⟩]
        have dl : decide (leastN s s.fs.length < s.i) = true := by rw [← d1, decide_eq_true_eq]; simp only [atI]; omega
        have da : decide (0 ≤ atI (some q)) = true := by rw [decide_eq_true_eq]; simp only [atI]; omega
        have dr : decide ((tlV s (some q) 0).r = leastN s s.fs.length) = true := by rw [decide_eq_true_eq]; exact e1
        have dn : decide (atI (some q) < 0) = false := by rw [decide_eq_false_iff_not]; simp only [atI]; omega
        obtain ⟨n, x, u, hP, hx, hqc⟩ := hT.port hs
        have hbq : (s.fs.map Inf.cells)[q]? = some x.cells := by simp [hP.fs]
        have hbq2 : (s.cs.map fun x => [I x])[q]? = some [I n] := by simp [hP.cs]
        have hfq := far_ok (hP.told hx).2.1 hP.n1 hP.n2
        have h16 := d16 x.v n
        rw [hfq.2.1, ← hP.wy] at h16
        refine LoopW.round TT_ok [0, 1, 2, 3, 4, 5, 6, 7, 8, 9, 10, 11, 12, 13, 14, 15, 16, 17, 18, 19, 34, 84, 88, 89, 90, 91, 96, 106, 117, 140, 142, 161, 162, 163, 164, 170, 206] ?_
        conv => whnf
        repeat' first
          | with_reducible rfl
          | with_reducible exact True.intro
          | with_reducible assumption
          | exact (Bool.false_ne_true (hd.symm.trans h)).elim
          | (refine CallP.use (h16) ?_; conv => whnf)
          | (refine ⟨_, fun _ => h16, ?_⟩; conv => whnf)
          | assumption
          | (refine W.drawnM (id := 23) TT_ok hmix1 [0, 0, 0, 0, 0, 0, 0, 0, 0, 0, 0, 0, 0, 0, 0, 0, 1, 2] [1, 1, 1, 1, 1, 1, 1, 1, 1, 1, 1, 1, 1, 1, 2, 1, 2, 2] rfl ?_; conv => whnf)
          | (refine W.drawnM (id := 28) TT_ok hmix1 [0, 0, 0, 0, 0, 0, 0, 0, 0, 0, 0, 0, 1, 2] [1, 1, 1, 1, 1, 1, 1, 1, 1, 1, 2, 1, 2, 2] rfl ?_; conv => whnf)
          | exact absurd (show false = true from h) Bool.false_ne_true
          | exact absurd (show true = false from h) (fun e => Bool.noConfusion e)
          | exact (congrArg Bool.not h)
          | (refine ⟨_, ⟨by first | assumption | decide | omega, by first | assumption | rfl⟩, ?_⟩; conv => whnf)
          | (refine ⟨_, fun _ => ⟨by first | assumption | decide | omega, by first | assumption | rfl⟩, ?_⟩; conv => whnf)
          | exact (rfl : (_ : Nat) = _)
          | exact (rfl : (_ : LV) = _)
          | (refine ⟨fun h => ?_, fun h => ?_⟩ <;> conv => whnf)
          | (refine ⟨?_, ?_⟩ <;> conv => whnf)
          | (intro h; conv => whnf)
        · exfalso; revert h; simp [dr, da, dl, dn]
        clear h
        have hBr : rgt (wy s q) = true := hT.right hs
        have hcc : (tlV s (some q) 0).c = (wy s q).c := rfl
        refine LoopW.norm (s9b s q 0 0) 3 (l9b s (tlV s (some q) 0) (wy s q)) ⟨rfl, rfl, rfl, rfl, rfl, rfl, rfl, rfl, rfl, trivial⟩ ⟨⟨rfl, rfl, ⟨trivial, trivial, trivial, trivial, trivial⟩, trivial⟩, ⟨rfl, rfl, ⟨trivial, trivial, trivial, trivial, trivial⟩, trivial⟩, ⟨rfl, rfl, ⟨trivial, trivial, trivial, trivial, trivial⟩, trivial⟩, trivial⟩ ⟨rfl, rfl, trivial, trivial, rfl, trivial, trivial, trivial, trivial, trivial⟩ rfl ?_
        refine LoopW.ind (α := Nat) (fun k => s.fs.length - k) (fun k s' H => k ≤ s.fs.length ∧ s' = s9b s q 0 k ∧ H = ⟨3, l9b s (tlV s (some q) 0) (wy s q)⟩) ?_ (a := 0) ⟨Nat.zero_le _, rfl, rfl⟩
        clear hk hi hd
        rintro k s' H ⟨hk, rfl, rfl⟩ ih
        by_cases hi : k < s.fs.length
        · have hd : decide ((k : Int) < ((s.fs.map Inf.cells).length : Int)) = true := by rw [decide_eq_true_eq]; omega
          obtain ⟨n2, y, u2, hP2⟩ := sOk_port hs (p := k) (by omega)
          have hb : (s.fs.map Inf.cells)[k]? = some [.bool y.h, I y.r, I y.c, I y.b, I y.p, I y.a] := by simp [hP2.fs]
          have hb2 : (s.cs.map fun x => [I x])[k]? = some [I n2] := by simp [hP2.cs]
          have hend : ∀ {s1 : Slots} {H1 : Heap}, subC s1 (s9b s q 0 (k + 1)) → subL H1.live 3 (l9b s (tlV s (some q) 0) (wy s q)) → LoopW Try.prog Try.f9.ntmps 0 _ _ s1 H1 := fun h1 h2 =>
            LoopW.norm (s9b s q 0 (k + 1)) 3 (l9b s (tlV s (some q) 0) (wy s q)) h1 h2 ⟨rfl, rfl, trivial, trivial, rfl, trivial, trivial, trivial, trivial, trivial⟩ rfl (ih (k + 1) _ _ ⟨hi, rfl, rfl⟩ (by omega))
          clear ih
          cases hy : y.h with
          | false =>
            rw [hy] at hb
            refine LoopW.round TT_ok [0, 1, 2, 3, 4, 5, 6, 7, 8, 9, 10, 11, 12, 13, 14, 15, 16, 17, 18, 19, 34, 84, 88, 89, 90, 91, 96, 106, 117, 140, 142, 161, 162, 163, 164, 170, 206] ?_
            conv => whnf
            repeat' first
              | with_reducible rfl
              | with_reducible exact True.intro
              | with_reducible assumption
              | exact (Bool.false_ne_true (h.symm.trans hd)).elim
              | assumption
              | (refine W.drawnM (id := 23) TT_ok hmix1 [0, 0, 0, 0, 0, 0, 0, 0, 0, 0, 0, 0, 0, 0, 0, 0, 1, 2] [1, 1, 1, 1, 1, 1, 1, 1, 1, 1, 1, 1, 1, 1, 2, 1, 2, 2] rfl ?_; conv => whnf)
              | (refine W.drawnM (id := 28) TT_ok hmix1 [0, 0, 0, 0, 0, 0, 0, 0, 0, 0, 0, 0, 1, 2] [1, 1, 1, 1, 1, 1, 1, 1, 1, 1, 2, 1, 2, 2] rfl ?_; conv => whnf)
              | exact absurd (show false = true from h) Bool.false_ne_true
              | exact absurd (show true = false from h) (fun e => Bool.noConfusion e)
              | exact (congrArg Bool.not h)
              | (refine ⟨_, ⟨by first | assumption | decide | omega, by first | assumption | rfl⟩, ?_⟩; conv => whnf)
              | (refine ⟨_, fun _ => ⟨by first | assumption | decide | omega, by first | assumption | rfl⟩, ?_⟩; conv => whnf)
              | exact (rfl : (_ : Nat) = _)
              | exact (rfl : (_ : LV) = _)
              | (refine ⟨fun h => ?_, fun h => ?_⟩ <;> conv => whnf)
              | (refine ⟨?_, ?_⟩ <;> conv => whnf)
              | (intro h; conv => whnf)
            exact hend ⟨rfl, rfl, rfl, rfl, rfl, rfl, rfl, rfl, congrArg (LV.int .i64) (w64_nat (by omega)), trivial⟩ ⟨⟨rfl, rfl, ⟨trivial, trivial, trivial, trivial, trivial⟩, trivial⟩, ⟨rfl, rfl, ⟨trivial, trivial, trivial, trivial, trivial⟩, trivial⟩, ⟨rfl, rfl, ⟨trivial, trivial, trivial, trivial, trivial⟩, trivial⟩, trivial⟩
          | true =>
            rw [hy] at hb
            have hT2 : Told s k := ⟨y, hP2.fs, hy⟩
            have hf2 := far_ok (hP2.told hy).2.1 hP2.n1 hP2.n2
            have h16b := d16 y.v n2
            rw [hf2.2.1, ← hP2.wy] at h16b
            have hA : rgt (wy s k) = true := hT2.right hs
            have h14 := d14 (wy s k) (wy s q)
            have hbf : bet (wy s k) (wy s q) = false := by rw [← Bool.not_eq_true, bet_of hA hBr]; exact hq2 k hT2
            rw [berr_of hA hBr, hbf] at h14
            have hlt := hq3 k hT2
            refine LoopW.round TT_ok [0, 1, 2, 3, 4, 5, 6, 7, 8, 9, 10, 11, 12, 13, 14, 15, 16, 17, 18, 19, 34, 84, 88, 89, 90, 91, 96, 106, 117, 140, 142, 161, 162, 163, 164, 170, 206] ?_
            conv => whnf
            repeat' first
              | with_reducible rfl
              | with_reducible exact True.intro
              | with_reducible assumption
              | exact (Bool.false_ne_true (h.symm.trans hd)).elim
              | (refine CallP.use (h16b) ?_; conv => whnf)
              | (refine ⟨_, fun _ => h16b, ?_⟩; conv => whnf)
              | (refine CallP.use (h14) ?_; conv => whnf)
              | (refine ⟨_, fun _ => h14, ?_⟩; conv => whnf)
              | assumption
              | (refine W.drawnM (id := 23) TT_ok hmix1 [0, 0, 0, 0, 0, 0, 0, 0, 0, 0, 0, 0, 0, 0, 0, 0, 1, 2] [1, 1, 1, 1, 1, 1, 1, 1, 1, 1, 1, 1, 1, 1, 2, 1, 2, 2] rfl ?_; conv => whnf)
              | (refine W.drawnM (id := 28) TT_ok hmix1 [0, 0, 0, 0, 0, 0, 0, 0, 0, 0, 0, 0, 1, 2] [1, 1, 1, 1, 1, 1, 1, 1, 1, 1, 2, 1, 2, 2] rfl ?_; conv => whnf)
              | exact absurd (show false = true from h) Bool.false_ne_true
              | exact absurd (show true = false from h) (fun e => Bool.noConfusion e)
              | exact (congrArg Bool.not h)
              | (refine ⟨_, ⟨by first | assumption | decide | omega, by first | assumption | rfl⟩, ?_⟩; conv => whnf)
              | (refine ⟨_, fun _ => ⟨by first | assumption | decide | omega, by first | assumption | rfl⟩, ?_⟩; conv => whnf)
              | exact (rfl : (_ : Nat) = _)
              | exact (rfl : (_ : LV) = _)
              | (refine ⟨fun h => ?_, fun h => ?_⟩ <;> conv => whnf)
              | (refine ⟨?_, ?_⟩ <;> conv => whnf)
              | (intro h; conv => whnf)
            · exfalso
              have h2 : (bif (decide ((wy s k).r = (wy s q).r) && (decide ((wy s k).c = (wy s q).c) && (decide ((wy s k).b = (wy s q).b) && (decide ((wy s k).p = (wy s q).p) && true)))) then decide ((k : Int) < atI (some q)) else false) = true := h
              simp only [Bool.cond_false_right, Bool.and_true, Bool.and_eq_true, decide_eq_true_eq] at h2
              have h4 : (k : Int) < (q : Int) := h2.2
              have := hlt (by omega)
              unfold LtV Lt4 at this
              omega
            · exact hend ⟨rfl, rfl, rfl, rfl, rfl, rfl, rfl, rfl, congrArg (LV.int .i64) (w64_nat (by omega)), trivial⟩ ⟨⟨rfl, rfl, ⟨trivial, trivial, trivial, trivial, trivial⟩, trivial⟩, ⟨rfl, rfl, ⟨trivial, trivial, trivial, trivial, trivial⟩, trivial⟩, ⟨rfl, rfl, ⟨trivial, trivial, trivial, trivial, trivial⟩, trivial⟩, trivial⟩
        · have hd : decide ((k : Int) < ((s.fs.map Inf.cells).length : Int)) = false := by rw [decide_eq_false_iff_not]; omega
          refine LoopW.round TT_ok [0, 1, 2, 3, 4, 5, 6, 7, 8, 9, 10, 11, 12, 13, 14, 15, 16, 17, 18, 19, 34, 84, 88, 89, 90, 91, 96, 106, 117, 140, 142, 161, 162, 163, 164, 170, 206] ?_
          conv => whnf
          repeat' first
            | with_reducible rfl
            | with_reducible exact True.intro
            | with_reducible assumption
            | exact (Bool.false_ne_true (hd.symm.trans h)).elim
            | assumption
            | (refine W.drawnM (id := 23) TT_ok hmix1 [0, 0, 0, 0, 0, 0, 0, 0, 0, 0, 0, 0, 0, 0, 0, 0, 1, 2] [1, 1, 1, 1, 1, 1, 1, 1, 1, 1, 1, 1, 1, 1, 2, 1, 2, 2] rfl ?_; conv => whnf)
            | (refine W.drawnM (id := 28) TT_ok hmix1 [0, 0, 0, 0, 0, 0, 0, 0, 0, 0, 0, 0, 1, 2] [1, 1, 1, 1, 1, 1, 1, 1, 1, 1, 2, 1, 2, 2] rfl ?_; conv => whnf)
            | exact absurd (show false = true from h) Bool.false_ne_true
            | exact absurd (show true = false from h) (fun e => Bool.noConfusion e)
            | exact (congrArg Bool.not h)
            | (refine ⟨_, ⟨by first | assumption | decide | omega, by first | assumption | rfl⟩, ?_⟩; conv => whnf)
            | (refine ⟨_, fun _ => ⟨by first | assumption | decide | omega, by first | assumption | rfl⟩, ?_⟩; conv => whnf)
            | exact (rfl : (_ : Nat) = _)
            | exact (rfl : (_ : LV) = _)
            | (refine ⟨fun h => ?_, fun h => ?_⟩ <;> conv => whnf)
            | (refine ⟨?_, ?_⟩ <;> conv => whnf)
            | (intro h; conv => whnf)
          rw [hr1, hcc]; simp
end Go.RX

