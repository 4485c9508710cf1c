/- Contracts of the document's own functions of layer 11. -/
import Derived.Test.YtammhcpnhejapaaPl11e
set_option linter.unusedVariables false
set_option linter.unusedSimpArgs false
open Go Go.RX Go.Proofs
namespace Go.RX
set_option maxRecDepth 10000
set_option maxHeartbeats 2000000
attribute [local irreducible] CallW CallP LoopW W IntKind.wrap
theorem c59 (s : Slf) (k : Nat) (x : Inf) (n : Int) (hx : s.fs[k]? = some x) (hn : s.cs[k]? = some n) : CallP Try.prog 59 [slfL s, I k] (vL (farR x.v n)) := by
  have hb1 : (s.fs.map Inf.cells)[k]? = some x.cells := by simp [hx]
  have hb2 : (s.cs.map fun x => [I x])[k]? = some [I n] := by simp [hn]
  have h45 := c45 x.v n
  refine .intro (by first | (simp [NLs, NL]; done) | (simp [NLs, NL, nlx]; done)) (.intro TT_ok Try.func59 rfl rfl [0, 1, 2, 4] rfl ?_)
  conv => whnf
  repeat' first
    | with_reducible rfl
    | with_reducible exact True.intro
    | with_reducible assumption
    | (refine CallP.use (h45) ?_; conv => whnf)
    | (refine ⟨_, fun _ => h45, ?_⟩; conv => whnf)
    | assumption
    | (refine W.drawnM (id := 1) TT_ok hmix1 [0, 0, 0, 0, 0, 0, 0, 0, 0, 0, 0, 0, 0] [0, 0, 0, 0, 0, 0, 0, 0, 0, 0, 0, 0, 1] rfl ?_; conv => whnf)
    | exact absurd (show false = true from h) Bool.false_ne_true
    | exact absurd (show true = false from h) (fun e => Bool.noConfusion e)
    | exact (congrArg Bool.not h)
    | (refine ⟨_, ⟨by first | assumption | decide | omega, by first | assumption | rfl⟩, ?_⟩; conv => whnf)
    | (refine ⟨_, fun _ => ⟨by first | assumption | decide | omega, by first | assumption | rfl⟩, ?_⟩; conv => whnf)
    | exact (rfl : (_ : Nat) = _)
    | exact (rfl : (_ : LV) = _)
    | (refine ⟨fun h => ?_, fun h => ?_⟩ <;> conv => whnf)
    | (refine ⟨?_, ?_⟩ <;> conv => whnf)
    | (intro h; conv => whnf)
theorem d59 (s : Slf) (hs : sOk s = true) (k : Nat) (hT : Told s k) : CallP Try.prog 59 [slfL s, I k] (vL (wy s k)) := by
  obtain ⟨n, x, u, hP, hx, _⟩ := hT.port hs
  have := c59 s k x n hP.fs hP.cs
  rw [farR_eq (hP.told hx).2.1 hP.n1 hP.n2, ← hP.wy] at this
  exact this
abbrev s36 (s : Slf) (k : Nat) : Slots := [(1, .ptr 0 0 0), (3, I (atI (bestR s k))), (7, infsL s.fs), (8, I (s.fs.map Inf.cells).length), (9, I k)]
theorem c36 (s : Slf) (hs : sOk s = true) : CallP Try.prog 36 [slfL s] (I (atI (rp s))) := by
  rw [← rpR_eq hs]
  obtain ⟨hl1, hl2, hl3, hl4, hl5, hl6⟩ := hd_len (sOk_hd hs)
  refine .intro (by first | (simp [NLs, NL]; done) | (simp [NLs, NL, nlx]; done)) (.intro TT_ok Try.func36 rfl rfl [0, 1, 2, 3, 4, 5, 7, 8, 9, 10, 28, 41] rfl ?_)
  conv => whnf
  repeat' first
    | with_reducible rfl
    | with_reducible exact True.intro
    | with_reducible assumption
    | assumption
    | (refine W.drawn TT_ok hmix1 rfl ?_; conv => whnf)
    | exact absurd (show false = true from h) Bool.false_ne_true
    | exact absurd (show true = false from h) (fun e => Bool.noConfusion e)
    | exact (congrArg Bool.not h)
    | (refine ⟨_, ⟨by first | assumption | decide | omega, by first | assumption | rfl⟩, ?_⟩; conv => whnf)
    | (refine ⟨_, fun _ => ⟨by first | assumption | decide | omega, by first | assumption | rfl⟩, ?_⟩; conv => whnf)
    | exact (rfl : (_ : Nat) = _)
    | exact (rfl : (_ : LV) = _)
    | (refine ⟨fun h => ?_, fun h => ?_⟩ <;> conv => whnf)
    | (refine ⟨?_, ?_⟩ <;> conv => whnf)
    | (intro h; conv => whnf)
  refine LoopW.norm (s36 s 0) 1 (slfH s) ⟨rfl, rfl, rfl, rfl, rfl, trivial⟩ ⟨⟨rfl, rfl, ⟨trivial, trivial, trivial, trivial, trivial⟩, trivial⟩, trivial⟩ ⟨rfl, trivial, trivial, trivial, trivial, trivial⟩ rfl ?_
  refine LoopW.ind (α := Nat) (fun k => s.fs.length - k) (fun k s' H => k ≤ s.fs.length ∧ s' = s36 s k ∧ H = ⟨1, slfH s⟩) ?_ (a := 0) ⟨Nat.zero_le _, rfl, rfl⟩
  rintro k s' H ⟨hk, rfl, rfl⟩ ih
  have hL : (s.fs.map Inf.cells).length = s.fs.length := List.length_map ..
  have hsp := bestR_spec s k
  by_cases hi : k < s.fs.length
  · have hd : decide ((k : Int) < ((s.fs.map Inf.cells).length : Int)) = true := by rw [decide_eq_true_eq]; omega
    obtain ⟨n, x, u, hP⟩ := sOk_port hs (p := k) (by omega)
    have hb : (s.fs.map Inf.cells)[k]? = some [.bool x.h, I x.r, I x.c, I x.b, I x.p, I x.a] := by simp [hP.fs]
    have hend : ∀ {s1 : Slots} {H1 : Heap}, subC s1 (s36 s (k + 1)) → subL H1.live 1 (slfH s) → LoopW Try.prog Try.f36.ntmps 0 _ _ s1 H1 := fun h1 h2 =>
      LoopW.norm (s36 s (k + 1)) 1 (slfH s) h1 h2 ⟨rfl, trivial, trivial, trivial, trivial, trivial⟩ rfl (ih (k + 1) _ _ ⟨hi, rfl, rfl⟩ (by omega))
    clear ih
    cases hx : x.h with
    | false =>
      rw [hx] at hb
      have e : bestR s k = bestR s (k + 1) := by rw [bestR, hP.fs]; simp [hx]
      refine LoopW.round TT_ok [0, 1, 2, 3, 4, 5, 7, 8, 9, 10, 28, 41] ?_
      conv => whnf
      repeat' first
        | with_reducible rfl
        | with_reducible exact True.intro
        | with_reducible assumption
        | exact (Bool.false_ne_true (h.symm.trans hd)).elim
        | (refine ⟨.agg [I 0, I 0, I 0, I 0], fun hg => (show CallP Try.prog 59 _ _ from (Bool.false_ne_true hg).elim), ?_⟩; conv => whnf)
        | (refine ⟨.bool false, fun hg => (show CallP Try.prog 44 _ _ from (Bool.false_ne_true hg).elim), ?_⟩; conv => whnf)
        | assumption
        | (refine W.drawn TT_ok hmix1 rfl ?_; conv => whnf)
        | exact absurd (show false = true from h) Bool.false_ne_true
        | exact absurd (show true = false from h) (fun e => Bool.noConfusion e)
        | exact (congrArg Bool.not h)
        | (refine ⟨_, ⟨by first | assumption | decide | omega, by first | assumption | rfl⟩, ?_⟩; conv => whnf)
        | (refine ⟨_, fun _ => ⟨by first | assumption | decide | omega, by first | assumption | rfl⟩, ?_⟩; conv => whnf)
        | exact (rfl : (_ : Nat) = _)
        | exact (rfl : (_ : LV) = _)
        | (refine ⟨fun h => ?_, fun h => ?_⟩ <;> conv => whnf)
        | (refine ⟨?_, ?_⟩ <;> conv => whnf)
        | (intro h; conv => whnf)
      all_goals exact hend ⟨rfl, congrArg (LV.int .i64) (congrArg atI e), rfl, rfl, congrArg (LV.int .i64) (w64_nat (by omega)), trivial⟩ ⟨⟨rfl, rfl, ⟨trivial, trivial, trivial, trivial, trivial⟩, trivial⟩, trivial⟩
    | true =>
      rw [hx] at hb
      have hT : Told s k := ⟨x, hP.fs, hx⟩
      have h59 := d59 s hs k hT
      rcases hsp with ⟨h1, h2⟩ | ⟨q, h1, h2, h3, h4⟩
      · have e : some k = bestR s (k + 1) := by rw [bestR, hP.fs]; simp [hx, h1]
        rw [s36, h1]
        refine LoopW.round TT_ok [0, 1, 2, 3, 4, 5, 7, 8, 9, 10, 28, 41] ?_
        conv => whnf
        repeat' first
          | with_reducible rfl
          | with_reducible exact True.intro
          | with_reducible assumption
          | exact (Bool.false_ne_true (h.symm.trans hd)).elim
          | (refine ⟨.agg [I 0, I 0, I 0, I 0], fun hg => (show CallP Try.prog 59 _ _ from (Bool.false_ne_true hg).elim), ?_⟩; conv => whnf)
          | (refine ⟨.bool false, fun hg => (show CallP Try.prog 44 _ _ from (Bool.false_ne_true hg).elim), ?_⟩; conv => whnf)
          | assumption
          | (refine W.drawn TT_ok hmix1 rfl ?_; conv => whnf)
          | exact absurd (show false = true from h) Bool.false_ne_true
          | exact absurd (show true = false from h) (fun e => Bool.noConfusion e)
          | exact (congrArg Bool.not h)
          | (refine ⟨_, ⟨by first | assumption | decide | omega, by first | assumption | rfl⟩, ?_⟩; conv => whnf)
          | (refine ⟨_, fun _ => ⟨by first | assumption | decide | omega, by first | assumption | rfl⟩, ?_⟩; conv => whnf)
          | exact (rfl : (_ : Nat) = _)
          | exact (rfl : (_ : LV) = _)
          | (refine ⟨fun h => ?_, fun h => ?_⟩ <;> conv => whnf)
          | (refine ⟨?_, ?_⟩ <;> conv => whnf)
          | (intro h; conv => whnf)
        all_goals exact hend ⟨rfl, congrArg (LV.int .i64) (congrArg atI e), rfl, rfl, congrArg (LV.int .i64) (w64_nat (by omega)), trivial⟩ ⟨⟨rfl, rfl, ⟨trivial, trivial, trivial, trivial, trivial⟩, trivial⟩, trivial⟩
      · have h59q := d59 s hs q h3
        have h44 := c44 (wy s k) (wy s q)
        rw [s36, h1]
        cases hlt : ltB (wy s k) (wy s q) with
        | true =>
          rw [hlt] at h44
          have e : some k = bestR s (k + 1) := by rw [bestR, hP.fs]; simp [hx, h1, hlt]
          refine LoopW.round TT_ok [0, 1, 2, 3, 4, 5, 7, 8, 9, 10, 28, 41] ?_
          conv => whnf
          repeat' first
            | with_reducible rfl
            | with_reducible exact True.intro
            | with_reducible assumption
            | exact (Bool.false_ne_true (h.symm.trans hd)).elim
            | (refine CallP.use (h59) ?_; conv => whnf)
            | (refine ⟨_, fun _ => h59, ?_⟩; conv => whnf)
            | (refine CallP.use (h59q) ?_; conv => whnf)
            | (refine ⟨_, fun _ => h59q, ?_⟩; conv => whnf)
            | (refine CallP.use (h44) ?_; conv => whnf)
            | (refine ⟨_, fun _ => h44, ?_⟩; conv => whnf)
            | assumption
            | (refine W.drawn TT_ok hmix1 rfl ?_; conv => whnf)
            | exact absurd (show false = true from h) Bool.false_ne_true
            | exact absurd (show true = false from h) (fun e => Bool.noConfusion e)
            | exact (congrArg Bool.not h)
            | (refine ⟨_, ⟨by first | assumption | decide | omega, by first | assumption | rfl⟩, ?_⟩; conv => whnf)
            | (refine ⟨_, fun _ => ⟨by first | assumption | decide | omega, by first | assumption | rfl⟩, ?_⟩; conv => whnf)
            | exact (rfl : (_ : Nat) = _)
            | exact (rfl : (_ : LV) = _)
            | (refine ⟨fun h => ?_, fun h => ?_⟩ <;> conv => whnf)
            | (refine ⟨?_, ?_⟩ <;> conv => whnf)
            | (intro h; conv => whnf)
          all_goals exact hend ⟨rfl, congrArg (LV.int .i64) (congrArg atI e), rfl, rfl, congrArg (LV.int .i64) (w64_nat (by omega)), trivial⟩ ⟨⟨rfl, rfl, ⟨trivial, trivial, trivial, trivial, trivial⟩, trivial⟩, trivial⟩
        | false =>
          rw [hlt] at h44
          have e : some q = bestR s (k + 1) := by rw [bestR, hP.fs]; simp [hx, h1, hlt]
          refine LoopW.round TT_ok [0, 1, 2, 3, 4, 5, 7, 8, 9, 10, 28, 41] ?_
          conv => whnf
          repeat' first
            | with_reducible rfl
            | with_reducible exact True.intro
            | with_reducible assumption
            | exact (Bool.false_ne_true (h.symm.trans hd)).elim
            | (refine CallP.use (h59) ?_; conv => whnf)
            | (refine ⟨_, fun _ => h59, ?_⟩; conv => whnf)
            | (refine CallP.use (h59q) ?_; conv => whnf)
            | (refine ⟨_, fun _ => h59q, ?_⟩; conv => whnf)
            | (refine CallP.use (h44) ?_; conv => whnf)
            | (refine ⟨_, fun _ => h44, ?_⟩; conv => whnf)
            | assumption
            | (refine W.drawn TT_ok hmix1 rfl ?_; conv => whnf)
            | exact absurd (show false = true from h) Bool.false_ne_true
            | exact absurd (show true = false from h) (fun e => Bool.noConfusion e)
            | exact (congrArg Bool.not h)
            | (refine ⟨_, ⟨by first | assumption | decide | omega, by first | assumption | rfl⟩, ?_⟩; conv => whnf)
            | (refine ⟨_, fun _ => ⟨by first | assumption | decide | omega, by first | assumption | rfl⟩, ?_⟩; conv => whnf)
            | exact (rfl : (_ : Nat) = _)
            | exact (rfl : (_ : LV) = _)
            | (refine ⟨fun h => ?_, fun h => ?_⟩ <;> conv => whnf)
            | (refine ⟨?_, ?_⟩ <;> conv => whnf)
            | (intro h; conv => whnf)
          all_goals exact hend ⟨rfl, congrArg (LV.int .i64) (congrArg atI e), rfl, rfl, congrArg (LV.int .i64) (w64_nat (by omega)), trivial⟩ ⟨⟨rfl, rfl, ⟨trivial, trivial, trivial, trivial, trivial⟩, trivial⟩, trivial⟩
  · have hd : decide ((k : Int) < ((s.fs.map Inf.cells).length : Int)) = false := by rw [decide_eq_false_iff_not]; omega
    have hkk : k = s.fs.length := by omega
    subst hkk
    clear ih
    have hrp : rpR s = match bestR s s.fs.length with
      | none => none
      | some p => if (wy s p).r < s.i then some p else none := rfl
    rcases hsp with ⟨h1, h2⟩ | ⟨q, h1, h2, h3, h4⟩
    · rw [h1] at hrp
      rw [hrp, s36, h1]
      refine LoopW.round TT_ok [0, 1, 2, 3, 4, 5, 7, 8, 9, 10, 28, 41] ?_
      conv => whnf
      repeat' first
        | with_reducible rfl
        | with_reducible exact True.intro
        | with_reducible assumption
        | exact (Bool.false_ne_true (hd.symm.trans h)).elim
        | (refine ⟨.agg [I 0, I 0, I 0, I 0], fun hg => (show CallP Try.prog 59 _ _ from (Bool.false_ne_true hg).elim), ?_⟩; conv => whnf)
        | (refine ⟨.bool false, fun hg => (show CallP Try.prog 44 _ _ from (Bool.false_ne_true hg).elim), ?_⟩; conv => whnf)
        | assumption
        | (refine W.drawn TT_ok hmix1 rfl ?_; conv => whnf)
        | exact absurd (show false = true from h) Bool.false_ne_true
        | exact absurd (show true = false from h) (fun e => Bool.noConfusion e)
        | exact (congrArg Bool.not h)
        | (refine ⟨_, ⟨by first | assumption | decide | omega, by first | assumption | rfl⟩, ?_⟩; conv => whnf)
        | (refine ⟨_, fun _ => ⟨by first | assumption | decide | omega, by first | assumption | rfl⟩, ?_⟩; conv => whnf)
        | exact (rfl : (_ : Nat) = _)
        | exact (rfl : (_ : LV) = _)
        | (refine ⟨fun h => ?_, fun h => ?_⟩ <;> conv => whnf)
        | (refine ⟨?_, ?_⟩ <;> conv => whnf)
        | (intro h; conv => whnf)
      all_goals rfl
    · have h59q := d59 s hs q h3
      rw [h1] at hrp
      have hq0 : decide (0 ≤ atI (some q)) = true := by rw [decide_eq_true_eq]; simp only [atI]; omega
      by_cases hr : (wy s q).r < s.i
      · rw [hrp, s36, h1]
        simp only [if_pos hr]
        have hr' : decide ((wy s q).r < s.i) = true := by rw [decide_eq_true_eq]; exact hr
        refine LoopW.round TT_ok [0, 1, 2, 3, 4, 5, 7, 8, 9, 10, 28, 41] ?_
        conv => whnf
        repeat' first
          | with_reducible rfl
          | with_reducible exact True.intro
          | with_reducible assumption
          | exact (Bool.false_ne_true (hd.symm.trans h)).elim
          | (refine CallP.use (h59q) ?_; conv => whnf)
          | (refine ⟨_, fun _ => h59q, ?_⟩; conv => whnf)
          | assumption
          | (refine W.drawn TT_ok hmix1 rfl ?_; conv => whnf)
          | exact absurd (show false = true from h) Bool.false_ne_true
          | exact absurd (show true = false from h) (fun e => Bool.noConfusion e)
          | exact (congrArg Bool.not h)
          | (refine ⟨_, ⟨by first | assumption | decide | omega, by first | assumption | rfl⟩, ?_⟩; conv => whnf)
          | (refine ⟨_, fun _ => ⟨by first | assumption | decide | omega, by first | assumption | rfl⟩, ?_⟩; conv => whnf)
          | exact (rfl : (_ : Nat) = _)
          | exact (rfl : (_ : LV) = _)
          | (refine ⟨fun h => ?_, fun h => ?_⟩ <;> conv => whnf)
          | (refine ⟨?_, ?_⟩ <;> conv => whnf)
          | (intro h; conv => whnf)
        all_goals first | rfl | (exfalso; revert h; simp [hq0, hr'])
      · rw [hrp, s36, h1]
        simp only [if_neg hr]
        have hr' : decide ((wy s q).r < s.i) = false := by rw [decide_eq_false_iff_not]; exact hr
        refine LoopW.round TT_ok [0, 1, 2, 3, 4, 5, 7, 8, 9, 10, 28, 41] ?_
        conv => whnf
        repeat' first
          | with_reducible rfl
          | with_reducible exact True.intro
          | with_reducible assumption
          | exact (Bool.false_ne_true (hd.symm.trans h)).elim
          | (refine CallP.use (h59q) ?_; conv => whnf)
          | (refine ⟨_, fun _ => h59q, ?_⟩; conv => whnf)
          | assumption
          | (refine W.drawn TT_ok hmix1 rfl ?_; conv => whnf)
          | exact absurd (show false = true from h) Bool.false_ne_true
          | exact absurd (show true = false from h) (fun e => Bool.noConfusion e)
          | exact (congrArg Bool.not h)
          | (refine ⟨_, ⟨by first | assumption | decide | omega, by first | assumption | rfl⟩, ?_⟩; conv => whnf)
          | (refine ⟨_, fun _ => ⟨by first | assumption | decide | omega, by first | assumption | rfl⟩, ?_⟩; conv => whnf)
          | exact (rfl : (_ : Nat) = _)
          | exact (rfl : (_ : LV) = _)
          | (refine ⟨fun h => ?_, fun h => ?_⟩ <;> conv => whnf)
          | (refine ⟨?_, ?_⟩ <;> conv => whnf)
          | (intro h; conv => whnf)
        all_goals first | rfl | (exfalso; revert h; simp [hq0, hr'])
end Go.RX

