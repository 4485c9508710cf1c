/- The contract of footwaylaw05.WheelSteps. -/
import Derived.Test.YtbpgcejajdeafaaTye
set_option linter.unusedVariables false
set_option linter.unusedSimpArgs false
open Go Go.RX Go.Proofs
namespace Go.RX
set_option maxRecDepth 10000
set_option maxHeartbeats 4000000
theorem tms_nl (l : List Tm) : NLss (l.map Tm.cells) := by
  induction l with
  | nil => trivial
  | cons t l ih => exact ⟨⟨trivial, trivial, trivial⟩, ih⟩
theorem time_bound (x : Int) : 0 ≤ IntKind.i64.wrap (Int.tmod (IntKind.u64.wrap x) 549755813888) ∧ IntKind.i64.wrap (Int.tmod (IntKind.u64.wrap x) 549755813888) < 549755813888 := by
  have h0 : 0 ≤ IntKind.u64.wrap x := by
    unfold IntKind.wrap
    simp only [IntKind.bits, IntKind.signed, Bool.false_and, Bool.false_eq_true, if_false]
    omega
  have h1 := Int.tmod_nonneg 549755813888 h0
  have h2 := Int.tmod_lt_of_pos (IntKind.u64.wrap x) (show (0 : Int) < 549755813888 by decide)
  have h3 : IntKind.i64.wrap (Int.tmod (IntKind.u64.wrap x) 549755813888) = Int.tmod (IntKind.u64.wrap x) 549755813888 := w64_small (by omega) (by omega)
  rw [h3]
  exact ⟨h1, h2⟩
attribute [local irreducible] CallW CallP LoopW W IntKind.wrap Int.tmod
abbrev s4a (now more : Int) (r d : List Tm) (k : Nat) : Slots := [(1, I now), (2, I more), (10, tmsL r), (14, tmsL d), (108, tmsL d), (109, I (d.map Tm.cells).length), (110, I k)]
abbrev s4b (now more : Int) (r : List Tm) (k : Nat) : Slots := [(1, I now), (2, I more), (137, tmsL r), (138, I (r.map Tm.cells).length), (139, I k)]
theorem c4 (l0 : List Tm) (now0 more0 : Int) : CallP Try.prog 4 [tmsL l0, I now0, I more0] (.bool true) := by
  have h13 := c13 l0
  have hl : (l0.take 70).length ≤ 1000 := by rw [List.length_take]; omega
  generalize l0.take 70 = l at h13 hl
  have h15 := c15
  have hb1 := time_bound now0
  have hb2 := time_bound more0
  cases hr : rOk l with
  | false =>
    have h14 := c14e l hl hr
    refine .intro (by first | (simp [NLs, NL]; done) | (simp [NLs, NL, nlx]; done)) (.intro TT_ok Try.func4 rfl rfl [0, 1, 2, 6, 7, 8, 9, 10, 11, 12, 13, 14, 15, 16, 17, 19, 38, 107, 108, 109, 110, 111, 135, 137, 138, 139, 140, 148] rfl ?_)
    conv => whnf
    repeat' first
      | with_reducible rfl
      | with_reducible exact True.intro
      | with_reducible assumption
      | exact absurd h (by decide)
      | (refine CallP.use (h13) ?_; conv => whnf)
      | (refine ⟨_, fun _ => h13, ?_⟩; conv => whnf)
      | (refine CallP.use ((h14 _)) ?_; conv => whnf)
      | (refine ⟨_, fun _ => (h14 _), ?_⟩; conv => whnf)
      | (refine CallP.use (h15) ?_; conv => whnf)
      | (refine ⟨_, fun _ => h15, ?_⟩; conv => whnf)
      | assumption
      | (refine W.drawn TT_ok hmix1 rfl ?_; conv => whnf)
      | exact absurd (show false = true from h) Bool.false_ne_true
      | exact absurd (show true = false from h) (fun e => Bool.noConfusion e)
      | exact (congrArg Bool.not h)
      | (refine ⟨_, ⟨by first | assumption | decide | omega, by first | assumption | rfl⟩, ?_⟩; conv => whnf)
      | (refine ⟨_, fun _ => ⟨by first | assumption | decide | omega, by first | assumption | rfl⟩, ?_⟩; conv => whnf)
      | exact (rfl : (_ : Nat) = _)
      | exact (rfl : (_ : LV) = _)
      | (refine ⟨fun h => ?_, fun h => ?_⟩ <;> conv => whnf)
      | (refine ⟨?_, ?_⟩ <;> conv => whnf)
      | (intro h; conv => whnf)
      | (refine gand ?_ h; assumption)
      | (simp; done)
  | true =>
    have h14a := c14 l hr (IntKind.i64.wrap (Int.tmod (IntKind.u64.wrap now0) 549755813888)) (by omega)
    have hL := rOk_len hr
    have e1 := two_rest (l := l) (a := IntKind.i64.wrap (Int.tmod (IntKind.u64.wrap now0) 549755813888)) (b := IntKind.i64.wrap (Int.tmod (IntKind.u64.wrap now0) 549755813888) + IntKind.i64.wrap (Int.tmod (IntKind.u64.wrap more0) 549755813888)) (by omega)
    have e2 := two_due (l := l) (a := IntKind.i64.wrap (Int.tmod (IntKind.u64.wrap now0) 549755813888)) (b := IntKind.i64.wrap (Int.tmod (IntKind.u64.wrap now0) 549755813888) + IntKind.i64.wrap (Int.tmod (IntKind.u64.wrap more0) 549755813888)) (by omega)
    refine .intro (by first | (simp [NLs, NL]; done) | (simp [NLs, NL, nlx]; done)) (.intro TT_ok Try.func4 rfl rfl [0, 1, 2, 6, 7, 8, 9, 10, 11, 12, 13, 14, 15, 16, 17, 19, 38, 107, 108, 109, 110, 111, 135, 137, 138, 139, 140, 148] rfl ?_)
    conv => whnf
    repeat' first
      | with_reducible rfl
      | with_reducible exact True.intro
      | with_reducible assumption
      | exact absurd h (by decide)
      | (refine CallP.use (h13) ?_; conv => whnf)
      | (refine ⟨_, fun _ => h13, ?_⟩; conv => whnf)
      | assumption
      | (refine W.drawn TT_ok hmix1 rfl ?_; conv => whnf)
      | exact absurd (show false = true from h) Bool.false_ne_true
      | exact absurd (show true = false from h) (fun e => Bool.noConfusion e)
      | exact (congrArg Bool.not h)
      | (refine ⟨_, ⟨by first | assumption | decide | omega, by first | assumption | rfl⟩, ?_⟩; conv => whnf)
      | (refine ⟨_, fun _ => ⟨by first | assumption | decide | omega, by first | assumption | rfl⟩, ?_⟩; conv => whnf)
      | exact (rfl : (_ : Nat) = _)
      | exact (rfl : (_ : LV) = _)
      | (refine ⟨fun h => ?_, fun h => ?_⟩ <;> conv => whnf)
      | (refine ⟨?_, ?_⟩ <;> conv => whnf)
      | (intro h; conv => whnf)
      | (refine gand ?_ h; assumption)
    generalize IntKind.i64.wrap (Int.tmod (IntKind.u64.wrap now0) 549755813888) = now at hb1 h14a e1 e2 ⊢
    generalize IntKind.i64.wrap (Int.tmod (IntKind.u64.wrap more0) 549755813888) = more at hb2 e1 e2 ⊢
    have hw : IntKind.i64.wrap (now + more) = now + more := w64_small (by omega) (by omega)
    have h14c := c14 l hr (IntKind.i64.wrap (now + more)) (by omega)
    have hra := rOk_drop hr (kD l now)
    have h14b := c14 _ hra (IntKind.i64.wrap (now + more)) (by omega)
    have h17 := c17 _ (Nat.le_trans (rOk_len hra) (by decide))
    have hsort : ∀ (j k : Nat) (a b : Tm), j ≤ k → (l.take (kD l (now + more)))[j]? = some a → (l.take (kD l (now + more)))[k]? = some b → a.at_ ≤ b.at_ := fun j k a b hjk ha hb => by
      obtain ⟨h1, rfl⟩ := List.getElem?_eq_some_iff.1 ha
      obtain ⟨h2, rfl⟩ := List.getElem?_eq_some_iff.1 hb
      rw [List.length_take] at h1 h2
      rw [List.getElem_take, List.getElem_take]
      exact rOk_sort hr hjk (by omega)
    have hdue : ∀ (k : Nat) (a : Tm), (l.take (kD l (now + more)))[k]? = some a → a.at_ ≤ now + more := fun k a ha => by
      obtain ⟨h1, rfl⟩ := List.getElem?_eq_some_iff.1 ha
      rw [List.length_take] at h1
      rw [List.getElem_take]
      exact kD_due (by omega) (by omega)
    have hlate : ∀ (k : Nat) (a : Tm), (l.drop (kD l (now + more)))[k]? = some a → now + more < a.at_ := fun k a ha => by
      obtain ⟨h1, rfl⟩ := List.getElem?_eq_some_iff.1 ha
      rw [List.length_drop] at h1
      rw [List.getElem_drop]
      exact kD_rest hr (by omega) (by omega)
    have hlen1 : (l.take (kD l (now + more))).length + (l.drop (kD l (now + more))).length = l.length := by rw [List.length_take, List.length_drop]; omega
    have hdl : (l.take (kD l now)).length ≤ 64 := by rw [List.length_take]; omega
    have htl : ((l.drop (kD l now)).take (kD (l.drop (kD l now)) (now + more))).length ≤ 64 := by rw [List.length_take, List.length_drop]; omega
    rw [hw] at h14b h14c
    rw [hra] at h17
    rw [e1] at h14b
    generalize (l.drop (kD l now)).take (kD (l.drop (kD l now)) (now + more)) = d2 at e2 htl h14b
    generalize l.take (kD l now) = d1 at e2 hdl h14a
    generalize l.drop (kD l now) = r1 at h14a h14b h17
    generalize l.take (kD l (now + more)) = d at e2 hsort hdue hlen1 h14c
    generalize l.drop (kD l (now + more)) = r at hlate hlen1 h14b h14c
    have h16a := c16 r (by omega)
    have h16b := c16 d (by omega)
    have hD : (d.map Tm.cells).length = d.length := List.length_map ..
    have hR : (r.map Tm.cells).length = r.length := List.length_map ..
    have hM : (l.map Tm.cells).length = l.length := List.length_map ..
    have hsum : IntKind.i64.wrap (((d.map Tm.cells).length : Int) + ((r.map Tm.cells).length : Int)) = ((l.map Tm.cells).length : Int) := by
      rw [hD, hR, hM]; exact (w64_small (by omega) (by omega)).trans (by omega)
    have e3 : ([] ++ d1.map Tm.cells) ++ d2.map Tm.cells = d.map Tm.cells := by rw [List.nil_append, ← List.map_append, e2]
    rw [← hw] at h14b h14c hdue hlate
    have f1 : fits (([] : List (List LV)) ++ d1.map Tm.cells).length 16 := by simp [fits]; omega
    have f2 : fits (([] : List (List LV)) ++ d1.map Tm.cells ++ d2.map Tm.cells).length 16 := by simp [fits]; omega
    have n1 : NLss (([] : List (List LV)) ++ d1.map Tm.cells ++ d2.map Tm.cells) := by rw [e3]; exact tms_nl d
    have h16c : CallP Try.prog 16 [.ro 2 (([] : List (List LV)) ++ d1.map Tm.cells ++ d2.map Tm.cells), tmsL d] (.bool true) := by rw [e3]; exact h16b
    repeat' first
      | with_reducible rfl
      | with_reducible exact True.intro
      | with_reducible assumption
      | exact f1
      | exact f2
      | exact n1
      | exact absurd h (by decide)
      | (refine CallP.use (h16c) ?_; conv => whnf)
      | (refine ⟨_, fun _ => h16c, ?_⟩; conv => whnf)
      | (refine CallP.use (h13) ?_; conv => whnf)
      | (refine ⟨_, fun _ => h13, ?_⟩; conv => whnf)
      | (refine CallP.use (h14a) ?_; conv => whnf)
      | (refine ⟨_, fun _ => h14a, ?_⟩; conv => whnf)
      | (refine CallP.use (h14b) ?_; conv => whnf)
      | (refine ⟨_, fun _ => h14b, ?_⟩; conv => whnf)
      | (refine CallP.use (h14c) ?_; conv => whnf)
      | (refine ⟨_, fun _ => h14c, ?_⟩; conv => whnf)
      | (refine CallP.use (h15) ?_; conv => whnf)
      | (refine ⟨_, fun _ => h15, ?_⟩; conv => whnf)
      | (refine CallP.use (h16a) ?_; conv => whnf)
      | (refine ⟨_, fun _ => h16a, ?_⟩; conv => whnf)
      | (refine CallP.use (h17) ?_; conv => whnf)
      | (refine ⟨_, fun _ => h17, ?_⟩; conv => whnf)
      | assumption
      | (refine W.drawn TT_ok hmix1 rfl ?_; conv => whnf)
      | exact absurd (show false = true from h) Bool.false_ne_true
      | exact absurd (show true = false from h) (fun e => Bool.noConfusion e)
      | exact (congrArg Bool.not h)
      | (refine ⟨_, ⟨by first | assumption | decide | omega, by first | assumption | rfl⟩, ?_⟩; conv => whnf)
      | (refine ⟨_, fun _ => ⟨by first | assumption | decide | omega, by first | assumption | rfl⟩, ?_⟩; conv => whnf)
      | exact (rfl : (_ : Nat) = _)
      | exact (rfl : (_ : LV) = _)
      | (refine ⟨fun h => ?_, fun h => ?_⟩ <;> conv => whnf)
      | (refine ⟨?_, ?_⟩ <;> conv => whnf)
      | (intro h; conv => whnf)
      | (refine gand ?_ h; assumption)
      | (exfalso; rw [hsum] at h; simp at h; done)
    refine LoopW.norm (s4a now more r d 0) 0 [] ⟨rfl, rfl, rfl, rfl, rfl, rfl, rfl, trivial⟩ trivial ⟨trivial, trivial, trivial, trivial, trivial, trivial, trivial, trivial⟩ rfl ?_
    refine LoopW.ind (α := Nat) (fun k => d.length - k) (fun k s' H => k ≤ d.length ∧ s' = s4a now more r d k ∧ H = ⟨0, []⟩) ?_ (a := 0) ⟨Nat.zero_le _, rfl, rfl⟩
    rintro k s' H ⟨hk, rfl, rfl⟩ ih
    by_cases hi : k < d.length
    · have hd : decide ((k : Int) < ((d.map Tm.cells).length : Int)) = true := by rw [decide_eq_true_eq]; omega
      have hx := List.getElem?_eq_getElem hi
      have hat := hdue k _ hx
      have hb : (d.map Tm.cells)[k]? = some [I d[k].id, I d[k].at_] := by simp [hi]
      have hs2 : ∀ j u, j ≤ k → d[j]? = some u → u.at_ ≤ d[k].at_ := fun j u hjk hu => hsort j k u _ hjk hu hx
      generalize d[k] = u at hx hat hb hs2
      have hle : decide (IntKind.i64.wrap (now + more) < u.at_) = false := by rw [decide_eq_false_iff_not]; omega
      have hnext : ∀ {s1 : Slots} {H1 : Heap}, subC s1 (s4a now more r d (k + 1)) → LoopW Try.prog Try.f4.ntmps 0 _ _ s1 H1 := fun h1 =>
        LoopW.norm (s4a now more r d (k + 1)) 0 [] h1 trivial ⟨trivial, trivial, trivial, trivial, trivial, trivial, trivial, trivial⟩ rfl (ih (k + 1) _ _ ⟨hi, rfl, rfl⟩ (by omega))
      clear ih
      cases k with
      | zero =>
        refine LoopW.round TT_ok [0, 1, 2, 6, 7, 8, 9, 10, 11, 12, 13, 14, 15, 16, 17, 19, 38, 107, 108, 109, 110, 111, 135, 137, 138, 139, 140, 148] ?_
        conv => whnf
        repeat' first
          | with_reducible rfl
          | with_reducible exact True.intro
          | with_reducible assumption
          | exact (Bool.false_ne_true (h.symm.trans hd)).elim
          | (refine ⟨[I 0, I 0], fun hg => (gz _ hg).elim, ?_⟩; conv => whnf)
          | assumption
          | (refine W.drawn TT_ok hmix1 rfl ?_; conv => whnf)
          | exact absurd (show false = true from h) Bool.false_ne_true
          | exact absurd (show true = false from h) (fun e => Bool.noConfusion e)
          | exact (congrArg Bool.not h)
          | (refine ⟨_, ⟨by first | assumption | decide | omega, by first | assumption | rfl⟩, ?_⟩; conv => whnf)
          | (refine ⟨_, fun _ => ⟨by first | assumption | decide | omega, by first | assumption | rfl⟩, ?_⟩; conv => whnf)
          | exact (rfl : (_ : Nat) = _)
          | exact (rfl : (_ : LV) = _)
          | (refine ⟨fun h => ?_, fun h => ?_⟩ <;> conv => whnf)
          | (refine ⟨?_, ?_⟩ <;> conv => whnf)
          | (intro h; conv => whnf)
          | (refine gand ?_ h; assumption)
          | exact hnext ⟨rfl, rfl, rfl, rfl, rfl, rfl, congrArg (LV.int .i64) (w64_nat (k := 0) (by omega)), trivial⟩
          | (exfalso; rw [hle] at h; simp at h; done)
      | succ j =>
        have hjl : j < d.length := by omega
        have hju := List.getElem?_eq_getElem hjl
        have hwj : IntKind.i64.wrap (((j + 1 : Nat) : Int) - 1) = (j : Int) := by
          rw [show (((j + 1 : Nat) : Int) - 1) = (j : Int) by omega]; exact w64_small (by omega) (by omega)
        have h0j : (0 : Int) ≤ IntKind.i64.wrap (((j + 1 : Nat) : Int) - 1) := by rw [hwj]; omega
        have hbj : (d.map Tm.cells)[(IntKind.i64.wrap (((j + 1 : Nat) : Int) - 1)).toNat]? = some [I d[j].id, I d[j].at_] := by rw [hwj]; simp [hjl]
        have hle2 := hs2 j _ (by omega) hju
        generalize d[j] = u2 at hju hbj hle2
        have hle3 : decide (u.at_ < u2.at_) = false := by rw [decide_eq_false_iff_not]; omega
        refine LoopW.round TT_ok [0, 1, 2, 6, 7, 8, 9, 10, 11, 12, 13, 14, 15, 16, 17, 19, 38, 107, 108, 109, 110, 111, 135, 137, 138, 139, 140, 148] ?_
        conv => whnf
        repeat' first
          | with_reducible rfl
          | with_reducible exact True.intro
          | with_reducible assumption
          | exact (Bool.false_ne_true (h.symm.trans hd)).elim
          | assumption
          | (refine W.drawn TT_ok hmix1 rfl ?_; conv => whnf)
          | exact absurd (show false = true from h) Bool.false_ne_true
          | exact absurd (show true = false from h) (fun e => Bool.noConfusion e)
          | exact (congrArg Bool.not h)
          | (refine ⟨_, ⟨by first | assumption | decide | omega, by first | assumption | rfl⟩, ?_⟩; conv => whnf)
          | (refine ⟨_, fun _ => ⟨by first | assumption | decide | omega, by first | assumption | rfl⟩, ?_⟩; conv => whnf)
          | exact (rfl : (_ : Nat) = _)
          | exact (rfl : (_ : LV) = _)
          | (refine ⟨fun h => ?_, fun h => ?_⟩ <;> conv => whnf)
          | (refine ⟨?_, ?_⟩ <;> conv => whnf)
          | (intro h; conv => whnf)
          | (refine gand ?_ h; assumption)
          | exact hnext ⟨rfl, rfl, rfl, rfl, rfl, rfl, congrArg (LV.int .i64) (w64_nat (k := j + 1) (by omega)), trivial⟩
          | (exfalso; rw [hle, hle3] at h; revert h; cases decide ((0 : Int) < ((j + 1 : Nat) : Int)) <;> simp; done)
    · have hd : decide ((k : Int) < ((d.map Tm.cells).length : Int)) = false := by rw [decide_eq_false_iff_not]; omega
      clear ih
      refine LoopW.round TT_ok [0, 1, 2, 6, 7, 8, 9, 10, 11, 12, 13, 14, 15, 16, 17, 19, 38, 107, 108, 109, 110, 111, 135, 137, 138, 139, 140, 148] ?_
      conv => whnf
      repeat' first
        | with_reducible rfl
        | with_reducible exact True.intro
        | with_reducible assumption
        | exact (Bool.false_ne_true (hd.symm.trans h)).elim
        | assumption
        | (refine W.drawn TT_ok hmix1 rfl ?_; conv => whnf)
        | exact absurd (show false = true from h) Bool.false_ne_true
        | exact absurd (show true = false from h) (fun e => Bool.noConfusion e)
        | exact (congrArg Bool.not h)
        | (refine ⟨_, ⟨by first | assumption | decide | omega, by first | assumption | rfl⟩, ?_⟩; conv => whnf)
        | (refine ⟨_, fun _ => ⟨by first | assumption | decide | omega, by first | assumption | rfl⟩, ?_⟩; conv => whnf)
        | exact (rfl : (_ : Nat) = _)
        | exact (rfl : (_ : LV) = _)
        | (refine ⟨fun h => ?_, fun h => ?_⟩ <;> conv => whnf)
        | (refine ⟨?_, ?_⟩ <;> conv => whnf)
        | (intro h; conv => whnf)
        | (refine gand ?_ h; assumption)
      refine LoopW.norm (s4b now more r 0) 0 [] ⟨rfl, rfl, rfl, rfl, rfl, trivial⟩ trivial ⟨trivial, trivial, trivial, trivial, trivial, trivial⟩ rfl ?_
      clear hk hi hd
      refine LoopW.ind (α := Nat) (fun k => r.length - k) (fun k s' H => k ≤ r.length ∧ s' = s4b now more r k ∧ H = ⟨0, []⟩) ?_ (a := 0) ⟨Nat.zero_le _, rfl, rfl⟩
      rintro k s' H ⟨hk, rfl, rfl⟩ ih
      by_cases hi : k < r.length
      · have hd : decide ((k : Int) < ((r.map Tm.cells).length : Int)) = true := by rw [decide_eq_true_eq]; omega
        have hat := hlate k _ (List.getElem?_eq_getElem hi)
        have hb : (r.map Tm.cells)[k]? = some [I r[k].id, I r[k].at_] := by simp [hi]
        generalize r[k] = u at hat hb
        have hle : decide (u.at_ ≤ IntKind.i64.wrap (now + more)) = false := by rw [decide_eq_false_iff_not]; omega
        refine LoopW.round TT_ok [0, 1, 2, 6, 7, 8, 9, 10, 11, 12, 13, 14, 15, 16, 17, 19, 38, 107, 108, 109, 110, 111, 135, 137, 138, 139, 140, 148] ?_
        conv => whnf
        repeat' first
          | with_reducible rfl
          | with_reducible exact True.intro
          | with_reducible assumption
          | exact (Bool.false_ne_true (h.symm.trans hd)).elim
          | exact (Bool.false_ne_true (hle.symm.trans h)).elim
          | assumption
          | (refine W.drawn TT_ok hmix1 rfl ?_; conv => whnf)
          | exact absurd (show false = true from h) Bool.false_ne_true
          | exact absurd (show true = false from h) (fun e => Bool.noConfusion e)
          | exact (congrArg Bool.not h)
          | (refine ⟨_, ⟨by first | assumption | decide | omega, by first | assumption | rfl⟩, ?_⟩; conv => whnf)
          | (refine ⟨_, fun _ => ⟨by first | assumption | decide | omega, by first | assumption | rfl⟩, ?_⟩; conv => whnf)
          | exact (rfl : (_ : Nat) = _)
          | exact (rfl : (_ : LV) = _)
          | (refine ⟨fun h => ?_, fun h => ?_⟩ <;> conv => whnf)
          | (refine ⟨?_, ?_⟩ <;> conv => whnf)
          | (intro h; conv => whnf)
          | (refine gand ?_ h; assumption)
        refine LoopW.norm (s4b now more r (k + 1)) 0 [] ⟨rfl, rfl, rfl, rfl, congrArg (LV.int .i64) (w64_nat (by omega)), trivial⟩ trivial ⟨trivial, trivial, trivial, trivial, trivial, trivial⟩ rfl (ih (k + 1) _ _ ⟨hi, rfl, rfl⟩ (by omega))
      · have hd : decide ((k : Int) < ((r.map Tm.cells).length : Int)) = false := by rw [decide_eq_false_iff_not]; omega
        refine LoopW.round TT_ok [0, 1, 2, 6, 7, 8, 9, 10, 11, 12, 13, 14, 15, 16, 17, 19, 38, 107, 108, 109, 110, 111, 135, 137, 138, 139, 140, 148] ?_
        conv => whnf
        repeat' first
          | with_reducible rfl
          | with_reducible exact True.intro
          | with_reducible assumption
          | exact (Bool.false_ne_true (hd.symm.trans h)).elim
          | assumption
          | (refine W.drawn TT_ok hmix1 rfl ?_; conv => whnf)
          | exact absurd (show false = true from h) Bool.false_ne_true
          | exact absurd (show true = false from h) (fun e => Bool.noConfusion e)
          | exact (congrArg Bool.not h)
          | (refine ⟨_, ⟨by first | assumption | decide | omega, by first | assumption | rfl⟩, ?_⟩; conv => whnf)
          | (refine ⟨_, fun _ => ⟨by first | assumption | decide | omega, by first | assumption | rfl⟩, ?_⟩; conv => whnf)
          | exact (rfl : (_ : Nat) = _)
          | exact (rfl : (_ : LV) = _)
          | (refine ⟨fun h => ?_, fun h => ?_⟩ <;> conv => whnf)
          | (refine ⟨?_, ?_⟩ <;> conv => whnf)
          | (intro h; conv => whnf)
          | (refine gand ?_ h; assumption)
end Go.RX

