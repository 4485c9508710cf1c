/- The contract of lan.Right: it answers. -/
import Derived.Test.YtbpgcejajdeafaaTym
set_option linter.unusedVariables false
set_option linter.unusedSimpArgs false
open Go Go.RX Go.Proofs
namespace Go.RX
set_option maxRecDepth 10000
set_option maxHeartbeats 1000000
attribute [local irreducible] CallW CallP CallS LoopW W IntKind.wrap Finds bitI
abbrev bxL (p : Ln) : Blk := .row 48 3 [[I p.segs, pnsL p.plans, hssL p.hosts]]
abbrev s36a (p : Ln) (k : Nat) : Slots := [(1, .ptr 0 0 0), (3, .map 1), (4, .map 2), (30, pnsL p.plans), (31, I (p.plans.map Pn.cells).length), (32, I k)]
abbrev s36b (p : Ln) (k : Nat) : Slots := [(1, .ptr 0 0 0), (4, .map 2), (55, hssL p.hosts), (56, I (p.hosts.map Hs.cells).length), (57, I k)]
theorem c36 (p : Ln) : CallS Try.prog 36 [lnL p] fun r => ∃ b, r = .bool b := by
  have hLP : (p.plans.map Pn.cells).length = p.plans.length := List.length_map ..
  have hLH : (p.hosts.map Hs.cells).length = p.hosts.length := List.length_map ..
  have h45 := c45 p.segs 1 8
  cases hA : (bif (bif !inI p.segs 1 8 then true else decide ((6 : Int) < ((p.plans.map Pn.cells).length : Int))) then true else decide ((8 : Int) < ((p.hosts.map Hs.cells).length : Int))) with
  | true =>
    refine .intro (by first | (simp [NLs, NL]; done) | (simp [NLs, NL, nlx]; done)) (CallW.intro TT_ok Try.func36 rfl rfl [0, 1, 2, 3, 4, 6, 8, 9, 10, 26, 30, 31, 32, 33, 52, 55, 56, 57, 58, 93] rfl ?_)
    conv => whnf
    repeat' first
      | with_reducible rfl
      | with_reducible exact True.intro
      | with_reducible assumption
      | exact (Bool.false_ne_true (h.symm.trans hA)).elim
      | exact ⟨.bool _, rfl, ⟨_, rfl⟩⟩
      | (refine CallP.use (h45) ?_; conv => whnf)
      | (refine ⟨_, _, CallP.at (h45), ?_⟩; conv => whnf)
      | (refine ⟨_, fun _ => h45, ?_⟩; conv => whnf)
      | assumption
      | exact absurd (show false = true from h) Bool.false_ne_true
      | exact absurd (show true = false from h) (fun e => Bool.noConfusion e)
      | exact (congrArg Bool.not h)
      | (refine ⟨_, ⟨by first | assumption | decide | omega, by first | assumption | rfl⟩, ?_⟩; conv => whnf)
      | (refine ⟨_, fun _ => ⟨by first | assumption | decide | omega, by first | assumption | rfl⟩, ?_⟩; conv => whnf)
      | exact (rfl : (_ : Nat) = _)
      | exact (rfl : (_ : LV) = _)
      | (refine ⟨fun h => ?_, fun h => ?_⟩ <;> conv => whnf)
      | (refine ⟨?_, ?_⟩ <;> conv => whnf)
      | (intro h; conv => whnf)
      | (refine gand ?_ h; assumption)
    all_goals skip
  | false =>
    have hPl : p.plans.length ≤ 6 ∧ p.hosts.length ≤ 8 := by
      rw [hLP, hLH] at hA
      revert hA
      cases inI p.segs 1 8 <;> simp
      omega
    refine .intro (by first | (simp [NLs, NL]; done) | (simp [NLs, NL, nlx]; done)) (CallW.intro TT_ok Try.func36 rfl rfl [0, 1, 2, 3, 4, 6, 8, 9, 10, 26, 30, 31, 32, 33, 52, 55, 56, 57, 58, 93] rfl ?_)
    conv => whnf
    repeat' first
      | with_reducible rfl
      | with_reducible exact True.intro
      | with_reducible assumption
      | exact (Bool.false_ne_true (hA.symm.trans h)).elim
      | exact ⟨.bool _, rfl, ⟨_, rfl⟩⟩
      | (refine CallP.use (h45) ?_; conv => whnf)
      | (refine ⟨_, _, CallP.at (h45), ?_⟩; conv => whnf)
      | (refine ⟨_, fun _ => h45, ?_⟩; conv => whnf)
      | assumption
      | exact absurd (show false = true from h) Bool.false_ne_true
      | exact absurd (show true = false from h) (fun e => Bool.noConfusion e)
      | exact (congrArg Bool.not h)
      | (refine ⟨_, ⟨by first | assumption | decide | omega, by first | assumption | rfl⟩, ?_⟩; conv => whnf)
      | (refine ⟨_, fun _ => ⟨by first | assumption | decide | omega, by first | assumption | rfl⟩, ?_⟩; conv => whnf)
      | exact (rfl : (_ : Nat) = _)
      | exact (rfl : (_ : LV) = _)
      | (refine ⟨fun h => ?_, fun h => ?_⟩ <;> conv => whnf)
      | (refine ⟨?_, ?_⟩ <;> conv => whnf)
      | (intro h; conv => whnf)
      | (refine gand ?_ h; assumption)
    refine LoopW.norm (s36a p 0) 3 [(0, bxL p), (1, .mp (mI [])), (2, .mp (mI []))] ⟨rfl, rfl, rfl, rfl, rfl, rfl, trivial⟩ ⟨⟨rfl, rfl, ⟨trivial, trivial, trivial, trivial⟩, trivial⟩, ⟨rfl, rfl, mI_bel⟩, ⟨rfl, rfl, mI_bel⟩, trivial⟩ ⟨rfl, rfl, rfl, trivial, trivial, trivial, trivial⟩ rfl ?_
    refine LoopW.ind (α := Nat) (fun k => p.plans.length - k) (fun k s' H => ∃ es, k ≤ p.plans.length ∧ s' = s36a p k ∧ H = ⟨3, [(0, bxL p), (1, .mp (mI es)), (2, .mp (mI []))]⟩) ?_ (a := 0) ⟨[], Nat.zero_le _, rfl, rfl⟩
    rintro k s' H ⟨es, hk, rfl, rfl⟩ ih
    by_cases hi : k < p.plans.length
    · have hd : decide ((k : Int) < ((p.plans.map Pn.cells).length : Int)) = true := by rw [decide_eq_true_eq]; omega
      have hb : (p.plans.map Pn.cells)[k]? = some p.plans[k].cells := by simp [hi]
      obtain ⟨b, h46⟩ := c46 p.plans[k] p.segs
      generalize p.plans[k] = c at hb h46
      have hnext : ∀ {s1 : Slots} {H1 : Heap} {es'}, subC s1 (s36a p (k + 1)) → subL H1.live 3 [(0, bxL p), (1, .mp (mI es')), (2, .mp (mI []))] → LoopW Try.prog Try.f36.ntmps 0 _ _ s1 H1 := fun h1 h2 =>
        LoopW.norm (s36a p (k + 1)) 3 [(0, bxL p), (1, .mp (mI _)), (2, .mp (mI []))] h1 h2 ⟨rfl, rfl, rfl, trivial, trivial, trivial, trivial⟩ rfl (ih (k + 1) _ _ ⟨_, hi, rfl, rfl⟩ (by omega))
      clear ih
      by_cases hn : ∀ q ∈ es, q.1 ≠ c.id
      · have hf0 := fI_none hn
        have hf1 := fI_end (v := I (IntKind.i64.wrap (0 + 1))) hn
        have eE := mI_app es c.id (IntKind.i64.wrap (0 + 1))
        refine LoopW.round TT_ok [0, 1, 2, 3, 4, 6, 8, 9, 10, 26, 30, 31, 32, 33, 52, 55, 56, 57, 58, 93] ?_
        conv => whnf
        repeat' first
          | with_reducible rfl
          | with_reducible exact True.intro
          | with_reducible assumption
          | exact (Bool.false_ne_true (h.symm.trans hd)).elim
          | exact ⟨.bool _, rfl, ⟨_, rfl⟩⟩
          | (refine ⟨none, hf0, ?_⟩; conv => whnf)
          | (refine ⟨some (es.length, I (IntKind.i64.wrap (0 + 1))), hf1, ?_⟩; conv => whnf)
          | (refine CallP.use (h46) ?_; conv => whnf)
          | (refine ⟨_, _, CallP.at (h46), ?_⟩; conv => whnf)
          | (refine ⟨_, fun _ => h46, ?_⟩; conv => whnf)
          | assumption
          | exact absurd (show false = true from h) Bool.false_ne_true
          | exact absurd (show true = false from h) (fun e => Bool.noConfusion e)
          | exact (congrArg Bool.not h)
          | (refine ⟨_, ⟨by first | assumption | decide | omega, by first | assumption | rfl⟩, ?_⟩; conv => whnf)
          | (refine ⟨_, fun _ => ⟨by first | assumption | decide | omega, by first | assumption | rfl⟩, ?_⟩; conv => whnf)
          | exact (rfl : (_ : Nat) = _)
          | exact (rfl : (_ : LV) = _)
          | (refine ⟨fun h => ?_, fun h => ?_⟩ <;> conv => whnf)
          | (refine ⟨?_, ?_⟩ <;> conv => whnf)
          | (intro h; conv => whnf)
          | (refine gand ?_ h; assumption)
        exact hnext ⟨rfl, rfl, rfl, rfl, rfl, congrArg (LV.int .i64) (w64_nat (by omega)), trivial⟩ ⟨⟨rfl, rfl, ⟨trivial, trivial, trivial, trivial⟩, trivial⟩, ⟨congrArg (fun e => some (Blk.mp e)) eE, rfl, mI_bel⟩, ⟨rfl, rfl, mI_bel⟩, trivial⟩
      · obtain ⟨i, v, hi2, hf0⟩ : ∃ i v, es[i]? = some (c.id, v) ∧ Finds TT 3 (mI es) (I c.id) (some (i, I v)) := fI_some (by
          rcases Classical.em (∃ q ∈ es, q.1 = c.id) with h | h
          · exact h
          · exact absurd (fun q hq he => h ⟨q, hq, he⟩) hn)
        have hf1 := fI_upd (v' := I (IntKind.i64.wrap (v + 1))) hf0
        have eE := mI_set es i c.id (IntKind.i64.wrap (v + 1))
        refine LoopW.round TT_ok [0, 1, 2, 3, 4, 6, 8, 9, 10, 26, 30, 31, 32, 33, 52, 55, 56, 57, 58, 93] ?_
        conv => whnf
        repeat' first
          | with_reducible rfl
          | with_reducible exact True.intro
          | with_reducible assumption
          | exact (Bool.false_ne_true (h.symm.trans hd)).elim
          | exact ⟨.bool _, rfl, ⟨_, rfl⟩⟩
          | (refine ⟨some (i, I v), hf0, ?_⟩; conv => whnf)
          | (refine ⟨some (i, I (IntKind.i64.wrap (v + 1))), hf1, ?_⟩; conv => whnf)
          | (refine CallP.use (h46) ?_; conv => whnf)
          | (refine ⟨_, _, CallP.at (h46), ?_⟩; conv => whnf)
          | (refine ⟨_, fun _ => h46, ?_⟩; conv => whnf)
          | assumption
          | exact absurd (show false = true from h) Bool.false_ne_true
          | exact absurd (show true = false from h) (fun e => Bool.noConfusion e)
          | exact (congrArg Bool.not h)
          | (refine ⟨_, ⟨by first | assumption | decide | omega, by first | assumption | rfl⟩, ?_⟩; conv => whnf)
          | (refine ⟨_, fun _ => ⟨by first | assumption | decide | omega, by first | assumption | rfl⟩, ?_⟩; conv => whnf)
          | exact (rfl : (_ : Nat) = _)
          | exact (rfl : (_ : LV) = _)
          | (refine ⟨fun h => ?_, fun h => ?_⟩ <;> conv => whnf)
          | (refine ⟨?_, ?_⟩ <;> conv => whnf)
          | (intro h; conv => whnf)
          | (refine gand ?_ h; assumption)
        exact hnext ⟨rfl, rfl, rfl, rfl, rfl, congrArg (LV.int .i64) (w64_nat (by omega)), trivial⟩ ⟨⟨rfl, rfl, ⟨trivial, trivial, trivial, trivial⟩, trivial⟩, ⟨congrArg (fun e => some (Blk.mp e)) eE, rfl, mI_bel⟩, ⟨rfl, rfl, mI_bel⟩, trivial⟩
    · have hd : decide ((k : Int) < ((p.plans.map Pn.cells).length : Int)) = false := by rw [decide_eq_false_iff_not]; omega
      clear ih
      refine LoopW.round TT_ok [0, 1, 2, 3, 4, 6, 8, 9, 10, 26, 30, 31, 32, 33, 52, 55, 56, 57, 58, 93] ?_
      conv => whnf
      repeat' first
        | with_reducible rfl
        | with_reducible exact True.intro
        | with_reducible assumption
        | exact (Bool.false_ne_true (hd.symm.trans h)).elim
        | assumption
        | exact absurd (show false = true from h) Bool.false_ne_true
        | exact absurd (show true = false from h) (fun e => Bool.noConfusion e)
        | exact (congrArg Bool.not h)
        | (refine ⟨_, ⟨by first | assumption | decide | omega, by first | assumption | rfl⟩, ?_⟩; conv => whnf)
        | (refine ⟨_, fun _ => ⟨by first | assumption | decide | omega, by first | assumption | rfl⟩, ?_⟩; conv => whnf)
        | exact (rfl : (_ : Nat) = _)
        | exact (rfl : (_ : LV) = _)
        | (refine ⟨fun h => ?_, fun h => ?_⟩ <;> conv => whnf)
        | (refine ⟨?_, ?_⟩ <;> conv => whnf)
        | (intro h; conv => whnf)
        | (refine gand ?_ h; assumption)
      clear hi hk hd
      refine LoopW.norm (s36b p 0) 3 [(0, bxL p), (2, .mp (mI []))] ⟨rfl, rfl, rfl, rfl, rfl, trivial⟩ ⟨⟨rfl, rfl, ⟨trivial, trivial, trivial, trivial⟩, trivial⟩, ⟨rfl, rfl, mI_bel⟩, trivial⟩ ⟨rfl, rfl, trivial, trivial, trivial, trivial⟩ rfl ?_
      refine LoopW.ind (α := Nat) (fun k => p.hosts.length - k) (fun k s' H => ∃ es, k ≤ p.hosts.length ∧ s' = s36b p k ∧ H = ⟨3, [(0, bxL p), (2, .mp (mI es))]⟩) ?_ (a := 0) ⟨[], Nat.zero_le _, rfl, rfl⟩
      rintro k s' H ⟨es, hk, rfl, rfl⟩ ih
      by_cases hi : k < p.hosts.length
      · have hd : decide ((k : Int) < ((p.hosts.map Hs.cells).length : Int)) = true := by rw [decide_eq_true_eq]; omega
        have hb : (p.hosts.map Hs.cells)[k]? = some p.hosts[k].cells := by simp [hi]
        generalize p.hosts[k] = c at hb
        obtain ⟨kk, e, h47⟩ := c47 c.mac
        have hnext : ∀ {s1 : Slots} {H1 : Heap} {es'}, subC s1 (s36b p (k + 1)) → subL H1.live 3 [(0, bxL p), (2, .mp (mI es'))] → LoopW Try.prog Try.f36.ntmps 0 _ _ s1 H1 := fun h1 h2 =>
          LoopW.norm (s36b p (k + 1)) 3 [(0, bxL p), (2, .mp (mI _))] h1 h2 ⟨rfl, rfl, trivial, trivial, trivial, trivial⟩ rfl (ih (k + 1) _ _ ⟨_, hi, rfl, rfl⟩ (by omega))
        clear ih
        by_cases hn : ∀ q ∈ es, q.1 ≠ c.mac
        · have hf0 := fI_none hn
          have hf1 := fI_end (v := I (IntKind.i64.wrap (0 + 1))) hn
          have eE := mI_app es c.mac (IntKind.i64.wrap (0 + 1))
          refine LoopW.round TT_ok [0, 1, 2, 3, 4, 6, 8, 9, 10, 26, 30, 31, 32, 33, 52, 55, 56, 57, 58, 93] ?_
          conv => whnf
          repeat' first
            | with_reducible rfl
            | with_reducible exact True.intro
            | with_reducible assumption
            | exact (Bool.false_ne_true (h.symm.trans hd)).elim
            | exact ⟨.bool _, rfl, ⟨_, rfl⟩⟩
            | (refine ⟨none, hf0, ?_⟩; conv => whnf)
            | (refine ⟨some (es.length, I (IntKind.i64.wrap (0 + 1))), hf1, ?_⟩; conv => whnf)
            | (refine CallP.use (h47) ?_; conv => whnf)
            | (refine ⟨_, _, CallP.at (h47), ?_⟩; conv => whnf)
            | (refine ⟨_, fun _ => h47, ?_⟩; conv => whnf)
            | (refine CallP.use ((c45 _ _ _)) ?_; conv => whnf)
            | (refine ⟨_, _, CallP.at ((c45 _ _ _)), ?_⟩; conv => whnf)
            | (refine ⟨_, fun _ => (c45 _ _ _), ?_⟩; conv => whnf)
            | assumption
            | exact absurd (show false = true from h) Bool.false_ne_true
            | exact absurd (show true = false from h) (fun e => Bool.noConfusion e)
            | exact (congrArg Bool.not h)
            | (refine ⟨_, ⟨by first | assumption | decide | omega, by first | assumption | rfl⟩, ?_⟩; conv => whnf)
            | (refine ⟨_, fun _ => ⟨by first | assumption | decide | omega, by first | assumption | rfl⟩, ?_⟩; conv => whnf)
            | exact (rfl : (_ : Nat) = _)
            | exact (rfl : (_ : LV) = _)
            | (refine ⟨fun h => ?_, fun h => ?_⟩ <;> conv => whnf)
            | (refine ⟨?_, ?_⟩ <;> conv => whnf)
            | (intro h; conv => whnf)
            | (refine gand ?_ h; assumption)
          exact hnext ⟨rfl, rfl, rfl, rfl, congrArg (LV.int .i64) (w64_nat (by omega)), trivial⟩ ⟨⟨rfl, rfl, ⟨trivial, trivial, trivial, trivial⟩, trivial⟩, ⟨congrArg (fun e => some (Blk.mp e)) eE, rfl, mI_bel⟩, trivial⟩
        · obtain ⟨i, v, hi2, hf0⟩ : ∃ i v, es[i]? = some (c.mac, v) ∧ Finds TT 3 (mI es) (I c.mac) (some (i, I v)) := fI_some (by
            rcases Classical.em (∃ q ∈ es, q.1 = c.mac) with h | h
            · exact h
            · exact absurd (fun q hq he => h ⟨q, hq, he⟩) hn)
          have hf1 := fI_upd (v' := I (IntKind.i64.wrap (v + 1))) hf0
          have eE := mI_set es i c.mac (IntKind.i64.wrap (v + 1))
          refine LoopW.round TT_ok [0, 1, 2, 3, 4, 6, 8, 9, 10, 26, 30, 31, 32, 33, 52, 55, 56, 57, 58, 93] ?_
          conv => whnf
          repeat' first
            | with_reducible rfl
            | with_reducible exact True.intro
            | with_reducible assumption
            | exact (Bool.false_ne_true (h.symm.trans hd)).elim
            | exact ⟨.bool _, rfl, ⟨_, rfl⟩⟩
            | (refine ⟨some (i, I v), hf0, ?_⟩; conv => whnf)
            | (refine ⟨some (i, I (IntKind.i64.wrap (v + 1))), hf1, ?_⟩; conv => whnf)
            | (refine CallP.use (h47) ?_; conv => whnf)
            | (refine ⟨_, _, CallP.at (h47), ?_⟩; conv => whnf)
            | (refine ⟨_, fun _ => h47, ?_⟩; conv => whnf)
            | (refine CallP.use ((c45 _ _ _)) ?_; conv => whnf)
            | (refine ⟨_, _, CallP.at ((c45 _ _ _)), ?_⟩; conv => whnf)
            | (refine ⟨_, fun _ => (c45 _ _ _), ?_⟩; conv => whnf)
            | assumption
            | exact absurd (show false = true from h) Bool.false_ne_true
            | exact absurd (show true = false from h) (fun e => Bool.noConfusion e)
            | exact (congrArg Bool.not h)
            | (refine ⟨_, ⟨by first | assumption | decide | omega, by first | assumption | rfl⟩, ?_⟩; conv => whnf)
            | (refine ⟨_, fun _ => ⟨by first | assumption | decide | omega, by first | assumption | rfl⟩, ?_⟩; conv => whnf)
            | exact (rfl : (_ : Nat) = _)
            | exact (rfl : (_ : LV) = _)
            | (refine ⟨fun h => ?_, fun h => ?_⟩ <;> conv => whnf)
            | (refine ⟨?_, ?_⟩ <;> conv => whnf)
            | (intro h; conv => whnf)
            | (refine gand ?_ h; assumption)
          exact hnext ⟨rfl, rfl, rfl, rfl, congrArg (LV.int .i64) (w64_nat (by omega)), trivial⟩ ⟨⟨rfl, rfl, ⟨trivial, trivial, trivial, trivial⟩, trivial⟩, ⟨congrArg (fun e => some (Blk.mp e)) eE, rfl, mI_bel⟩, trivial⟩
      · have hd : decide ((k : Int) < ((p.hosts.map Hs.cells).length : Int)) = false := by rw [decide_eq_false_iff_not]; omega
        refine LoopW.round TT_ok [0, 1, 2, 3, 4, 6, 8, 9, 10, 26, 30, 31, 32, 33, 52, 55, 56, 57, 58, 93] ?_
        conv => whnf
        repeat' first
          | with_reducible rfl
          | with_reducible exact True.intro
          | with_reducible assumption
          | exact (Bool.false_ne_true (hd.symm.trans h)).elim
          | exact ⟨.bool _, rfl, ⟨_, rfl⟩⟩
          | assumption
          | exact absurd (show false = true from h) Bool.false_ne_true
          | exact absurd (show true = false from h) (fun e => Bool.noConfusion e)
          | exact (congrArg Bool.not h)
          | (refine ⟨_, ⟨by first | assumption | decide | omega, by first | assumption | rfl⟩, ?_⟩; conv => whnf)
          | (refine ⟨_, fun _ => ⟨by first | assumption | decide | omega, by first | assumption | rfl⟩, ?_⟩; conv => whnf)
          | exact (rfl : (_ : Nat) = _)
          | exact (rfl : (_ : LV) = _)
          | (refine ⟨fun h => ?_, fun h => ?_⟩ <;> conv => whnf)
          | (refine ⟨?_, ?_⟩ <;> conv => whnf)
          | (intro h; conv => whnf)
          | (refine gand ?_ h; assumption)
        all_goals skip
end Go.RX

