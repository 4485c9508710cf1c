/- The contract of footwaylaw04.VecTells. -/
import Derived.Test.YtogomcndhipoeaaTyo
set_option linter.unusedVariables false
set_option linter.unusedSimpArgs false
open Go Go.RX Go.Proofs
namespace Go.RX
set_option maxRecDepth 10000
set_option maxHeartbeats 2000000
theorem BInv.unique {l : List Vc} {a b : Nat} (h : BInv l l.length a) (h' : BInv l l.length b) : a = b := by
  obtain ⟨u, h1, h2, h3, h4⟩ := h
  obtain ⟨v, h1', h2', h3', h4'⟩ := h'
  have ha := (List.getElem?_eq_some_iff.1 h1).1
  have hb := (List.getElem?_eq_some_iff.1 h1').1
  have huv : u = v := leV_anti _ _ (h3 b v hb h1') (h3' a u ha h1)
  subst huv
  rcases Nat.lt_trichotomy a b with h | h | h
  · exfalso; have := h4' a u h h1; unfold ltV Lt4 at this; omega
  · exact h
  · exfalso; have := h4 b u h h1'; unfold ltV Lt4 at this; omega
theorem CallS.toP {P : Program} {f : FuncId} {args : List LV} {S : LV → Prop} {r0 : LV} (h : CallS P f args S) (hu : ∀ r, S r → r = r0) : CallP P f args r0 :=
  fun H => (h H).mono fun lv H' ⟨h1, h2⟩ => ⟨hu lv h1, h2⟩
theorem c17 {l l' : List Vc} (hl : l.length ≤ 1000) (hp : l'.Perm l) (hs : Srt leV l') : CallP Try.prog 17 [vcsL l] (vcsL l') :=
  (c17s l hl).toP fun r ⟨l2, h1, h2, h3⟩ => by rw [h3, srt_unique leV_anti (h1.trans hp.symm) h2 hs]
theorem c18 {l : List Vc} (hl : l.length ≤ 1000) (hne : 1 ≤ l.length) {at_ : Nat} (hI : BInv l l.length at_) : CallP Try.prog 18 [vcsL l] (I at_) :=
  (c18s l hl hne).toP fun r ⟨a2, h1, h2⟩ => by rw [h2, h1.unique hI]
theorem v_ff {a b : Vc} (h : vR a = false ∨ vR b = false) : vBet a.r a.c a.b a.p b.r b.c b.b b.p = false ∧ vErr a.r a.c a.b a.p b.r b.c b.b b.p = 1 := by
  unfold vBet vErr
  rcases h with h | h
  · rw [show vRight a.r a.c a.b a.p = false from h]; exact ⟨rfl, rfl⟩
  · rw [show vRight b.r b.c b.b b.p = false from h]; cases vRight a.r a.c a.b a.p <;> exact ⟨rfl, rfl⟩
theorem v_tt {a b : Vc} (h : vR a = true) (h' : vR b = true) : vBet a.r a.c a.b a.p b.r b.c b.b b.p = decide (ltV a b) ∧ vErr a.r a.c a.b a.p b.r b.c b.b b.p = 0 := by
  refine ⟨?_, by unfold vErr; rw [show vRight a.r a.c a.b a.p = true from h, show vRight b.r b.c b.b b.p = true from h']; rfl⟩
  rw [Bool.eq_iff_iff, vBet_iff, decide_eq_true_eq]
  rw [vR_iff] at h h'
  exact ⟨fun h => h.2.2, fun h2 => ⟨h, h', h2⟩⟩
theorem f_no {a : Vc} {n : Int} (h : vR a = false ∨ inB n 2147483647 = false) : fRight a.r a.c a.b a.p n = false := by
  unfold fRight
  rcases h with h | h
  · rw [show vRight a.r a.c a.b a.p = false from h]; rfl
  · rw [h, Bool.and_false]
theorem inB_f {n : Int} (h : inB n 2147483647 = false) : (bif decide (n < 0) then true else decide (2147483647 < n)) = true := by
  rw [← Bool.not_eq_true, Bool.and_eq_true, decide_eq_true_eq, decide_eq_true_eq] at h
  by_cases h0 : n < 0
  · rw [decide_eq_true h0]; rfl
  · rw [decide_eq_false h0, cond_false, decide_eq_true_eq]; omega
theorem inB_t {n : Int} (h : inB n 2147483647 = true) : decide (n < 0) = false ∧ decide (2147483647 < n) = false := by
  rw [Bool.and_eq_true, decide_eq_true_eq, decide_eq_true_eq] at h
  rw [decide_eq_false_iff_not, decide_eq_false_iff_not]; omega
theorem c10n (a : Vc) (n : Int) (h : vR a = false ∨ inB n 2147483647 = false) : CallP Try.prog 10 [vcL a, I n] (.tup [oneL 0 0 0 0, I 1]) := by
  have h10 := c10 a.r a.c a.b a.p n
  unfold fErr fCost fK at h10
  rw [f_no h] at h10
  exact h10
theorem c10y (a : Vc) (n : Int) (h : vR a = true) (h' : inB n 2147483647 = true) : CallP Try.prog 10 [vcL a, I n] (.tup [vcL (farV a n), I 0]) := by
  have h10 := c10 a.r a.c a.b a.p n
  unfold fErr fCost fK at h10
  rw [show fRight a.r a.c a.b a.p n = true by unfold fRight; rw [show vRight a.r a.c a.b a.p = true from h, h']; rfl] at h10
  exact h10
instance (a b : Vc) : Decidable (leV a b) := by unfold leV; infer_instance
theorem srt_ex (l : List Vc) : ∃ l' : List Vc, l'.Perm l ∧ Srt leV l' := by
  refine ⟨l.mergeSort fun a b => decide (leV a b), List.mergeSort_perm .., ?_⟩
  have := List.pairwise_mergeSort (le := fun a b => decide (leV a b)) (fun a b c h1 h2 => by
    simp only [decide_eq_true_eq] at *; exact leV_trans a b c h1 h2) (fun a b => by
    simp only [Bool.or_eq_true, decide_eq_true_eq]; unfold leV ltV Lt4; omega) l
  exact this.imp fun h => of_decide_eq_true h
theorem best_ex (l : List Vc) (hne : 1 ≤ l.length) : ∃ at_, BInv l l.length at_ := by
  have : ∀ k, k ≤ l.length → ∃ at_, at_ < l.length ∧ BInv l k at_ := by
    intro k
    induction k with
    | zero => exact fun _ => ⟨0, hne, by unfold BInv; exact ⟨_, List.getElem?_eq_getElem hne, Nat.le_refl _, fun j y hj => absurd hj (Nat.not_lt_zero _), fun j y hj => absurd hj (Nat.not_lt_zero _)⟩⟩
    | succ k ih =>
      intro hk
      obtain ⟨at_, ha, hI⟩ := ih (by omega)
      by_cases hlt : ltV l[k] l[at_]
      · exact ⟨k, hk, hI.turn (List.getElem?_eq_getElem ha) (List.getElem?_eq_getElem hk) hlt⟩
      · exact ⟨at_, ha, hI.keep (List.getElem?_eq_getElem ha) (List.getElem?_eq_getElem hk) hlt⟩
  obtain ⟨a, _, h⟩ := this _ (Nat.le_refl _)
  exact ⟨a, h⟩
attribute [local irreducible] CallW CallP CallS LoopW W IntKind.wrap rankL vRight BInv eqV cv farV ltV
/-- What is asked of two, and how far one is. -/
structure Cas (a b : Vc) (n : Int) (ra rb w : Bool) (e : Int) (fv : Vc) (fe : Int) : Prop where
  h11 : CallP Try.prog 11 [vcL a] (.bool ra)
  h12a : CallP Try.prog 12 [vcL a] (.bool ra)
  h12b : CallP Try.prog 12 [vcL b] (.bool rb)
  h9 : CallP Try.prog 9 [vcL a, vcL b] (.tup [.bool w, I e])
  h10 : CallP Try.prog 10 [vcL a, I n] (.tup [vcL fv, I fe])
abbrev nOut (n : Int) : Prop := (bif decide (n < 0) then true else decide (2147483647 < n)) = true
abbrev nIn (n : Int) : Prop := decide (n < 0) = false ∧ decide (2147483647 < n) = false
theorem cas (a b : Vc) (n : Int) : (∃ rb, Cas a b n false rb false 1 ⟨0, 0, 0, 0⟩ 1) ∨ (nOut n ∧ Cas a b n true false false 1 ⟨0, 0, 0, 0⟩ 1) ∨ (nIn n ∧ Cas a b n true false false 1 (farV a n) 0)
    ∨ (nOut n ∧ Cas a b n true true (decide (ltV a b)) 0 ⟨0, 0, 0, 0⟩ 1) ∨ (nIn n ∧ Cas a b n true true (decide (ltV a b)) 0 (farV a n) 0) := by
  have h11 : CallP Try.prog 11 [vcL a] (.bool (vR a)) := c11 _ _ _ _
  have h12a := c12 a
  have h12b := c12 b
  have h9 := c9 a.r a.c a.b a.p b.r b.c b.b b.p
  cases hra : vR a with
  | false =>
    rw [hra] at h11 h12a
    obtain ⟨e1, e2⟩ := v_ff (a := a) (b := b) (.inl hra)
    rw [e1, e2] at h9
    exact .inl ⟨_, h11, h12a, h12b, h9, c10n a n (.inl hra)⟩
  | true =>
    rw [hra] at h11 h12a
    cases hrb : vR b with
    | false =>
      rw [hrb] at h12b
      obtain ⟨e1, e2⟩ := v_ff (a := a) (b := b) (.inr hrb)
      rw [e1, e2] at h9
      cases hn : inB n 2147483647 with
      | false => exact .inr (.inl ⟨inB_f hn, h11, h12a, h12b, h9, c10n a n (.inr hn)⟩)
      | true => exact .inr (.inr (.inl ⟨inB_t hn, h11, h12a, h12b, h9, c10y a n hra hn⟩))
    | true =>
      rw [hrb] at h12b
      obtain ⟨e1, e2⟩ := v_tt hra hrb
      rw [e1, e2] at h9
      cases hn : inB n 2147483647 with
      | false => exact .inr (.inr (.inr (.inl ⟨inB_f hn, h11, h12a, h12b, h9, c10n a n (.inr hn)⟩)))
      | true => exact .inr (.inr (.inr (.inr ⟨inB_t hn, h11, h12a, h12b, h9, c10y a n hra hn⟩)))
theorem c4A (a b : Vc) (n : Int) (l0 l : List Vc) (hl : l.length ≤ 60) (h5 : CallP Try.prog 5 [vcsL l0] (vcsL l)) (h0 : allR l = false) : CallP Try.prog 4 [vcL a, vcL b, I n, vcsL l0] (.bool true) := by
  have h8 := c8
  have h13 := c13 a b
  have h14 := c14 a n
  have h15 := c15 l (by omega)
  rw [h0] at h15
  have h6 := c6e l (by omega) h0
  have h7 := c7e l (by omega) h0
  have hE' := @eq_self (farV a n)
  have hc := cas a b n
  generalize decide (ltV a b) = w at h13 hc
  have hw : (!decide (w = w)) = false := by simp
  rcases hc with ⟨rb, h11, h12a, h12b, h9, h10⟩ | ⟨hn, h11, h12a, h12b, h9, h10⟩ | ⟨⟨hn1, hn2⟩, h11, h12a, h12b, h9, h10⟩ | ⟨hn, h11, h12a, h12b, h9, h10⟩ | ⟨⟨hn1, hn2⟩, h11, h12a, h12b, h9, h10⟩
  · skip
    refine .intro (by first | (simp [NLs, NL]; done) | (simp [NLs, NL, nlx]; done)) (.intro TT_ok Try.func4 rfl rfl [0, 1, 2, 3, 4, 5, 8, 9, 10, 11, 12, 13, 14, 15, 16, 49, 57, 62, 71, 82, 89, 98, 101, 125, 128] rfl ?_)
    conv => whnf
    repeat' first
      | with_reducible rfl
      | with_reducible exact True.intro
      | with_reducible assumption
      | (refine CallP.use (by first | exact (h5) | exact (h9) | exact (h10) | exact (h6) | exact (h7) | exact (h11) | exact (h12a) | exact (h12b) | exact (h8) | exact (h13) | exact (h14) | exact (h15)) ?_; conv => whnf)
      | (refine ⟨_, _, CallP.at (by first | exact (h5) | exact (h9) | exact (h10) | exact (h6) | exact (h7) | exact (h11) | exact (h12a) | exact (h12b) | exact (h8) | exact (h13) | exact (h14) | exact (h15)), ?_⟩; conv => whnf)
      | (refine ⟨_, fun _ => (by first | exact (h5) | exact (h9) | exact (h10) | exact (h6) | exact (h7) | exact (h11) | exact (h12a) | exact (h12b) | exact (h8) | exact (h13) | exact (h14) | exact (h15)), ?_⟩; conv => whnf)
      | assumption
      | (refine W.drawn TT_ok hmix1 rfl ?_; conv => whnf)
      | exact absurd (show false = true from h) Bool.false_ne_true
      | exact absurd (show true = false from h) (fun e => Bool.noConfusion e)
      | exact (congrArg Bool.not h)
      | (refine ⟨_, ⟨by first | assumption | decide | omega, by first | assumption | rfl⟩, ?_⟩; conv => whnf)
      | (refine ⟨_, fun _ => ⟨by first | assumption | decide | omega, by first | assumption | rfl⟩, ?_⟩; conv => whnf)
      | exact (rfl : (_ : Nat) = _)
      | exact (rfl : (_ : LV) = _)
      | (refine ⟨fun h => ?_, fun h => ?_⟩ <;> conv => whnf)
      | (refine ⟨?_, ?_⟩ <;> conv => whnf)
      | (intro h; conv => whnf)
      | (refine gand ?_ h; assumption)
    all_goals skip
  · skip
    refine .intro (by first | (simp [NLs, NL]; done) | (simp [NLs, NL, nlx]; done)) (.intro TT_ok Try.func4 rfl rfl [0, 1, 2, 3, 4, 5, 8, 9, 10, 11, 12, 13, 14, 15, 16, 49, 57, 62, 71, 82, 89, 98, 101, 125, 128] rfl ?_)
    conv => whnf
    repeat' first
      | with_reducible rfl
      | with_reducible exact True.intro
      | with_reducible assumption
      | exact (Bool.false_ne_true (h.symm.trans hn)).elim
      | (refine CallP.use (by first | exact (h5) | exact (h9) | exact (h10) | exact (h6) | exact (h7) | exact (h11) | exact (h12a) | exact (h12b) | exact (h8) | exact (h13) | exact (h14) | exact (h15)) ?_; conv => whnf)
      | (refine ⟨_, _, CallP.at (by first | exact (h5) | exact (h9) | exact (h10) | exact (h6) | exact (h7) | exact (h11) | exact (h12a) | exact (h12b) | exact (h8) | exact (h13) | exact (h14) | exact (h15)), ?_⟩; conv => whnf)
      | (refine ⟨_, fun _ => (by first | exact (h5) | exact (h9) | exact (h10) | exact (h6) | exact (h7) | exact (h11) | exact (h12a) | exact (h12b) | exact (h8) | exact (h13) | exact (h14) | exact (h15)), ?_⟩; conv => whnf)
      | assumption
      | (refine W.drawn TT_ok hmix1 rfl ?_; conv => whnf)
      | exact absurd (show false = true from h) Bool.false_ne_true
      | exact absurd (show true = false from h) (fun e => Bool.noConfusion e)
      | exact (congrArg Bool.not h)
      | (refine ⟨_, ⟨by first | assumption | decide | omega, by first | assumption | rfl⟩, ?_⟩; conv => whnf)
      | (refine ⟨_, fun _ => ⟨by first | assumption | decide | omega, by first | assumption | rfl⟩, ?_⟩; conv => whnf)
      | exact (rfl : (_ : Nat) = _)
      | exact (rfl : (_ : LV) = _)
      | (refine ⟨fun h => ?_, fun h => ?_⟩ <;> conv => whnf)
      | (refine ⟨?_, ?_⟩ <;> conv => whnf)
      | (intro h; conv => whnf)
      | (refine gand ?_ h; assumption)
    all_goals skip
  · skip
    have hn' : (bif decide (n < 0) then true else decide (2147483647 < n)) = false := by rw [hn1, hn2]; rfl
    refine .intro (by first | (simp [NLs, NL]; done) | (simp [NLs, NL, nlx]; done)) (.intro TT_ok Try.func4 rfl rfl [0, 1, 2, 3, 4, 5, 8, 9, 10, 11, 12, 13, 14, 15, 16, 49, 57, 62, 71, 82, 89, 98, 101, 125, 128] rfl ?_)
    conv => whnf
    repeat' first
      | with_reducible rfl
      | with_reducible exact True.intro
      | with_reducible assumption
      | exact (Bool.false_ne_true (hn'.symm.trans h)).elim
      | exact (Bool.false_ne_true (hE'.symm.trans h)).elim
      | (refine CallP.use (by first | exact (h5) | exact (h9) | exact (h10) | exact (h6) | exact (h7) | exact (h11) | exact (h12a) | exact (h12b) | exact (h8) | exact (h13) | exact (h14) | exact (h15)) ?_; conv => whnf)
      | (refine ⟨_, _, CallP.at (by first | exact (h5) | exact (h9) | exact (h10) | exact (h6) | exact (h7) | exact (h11) | exact (h12a) | exact (h12b) | exact (h8) | exact (h13) | exact (h14) | exact (h15)), ?_⟩; conv => whnf)
      | (refine ⟨_, fun _ => (by first | exact (h5) | exact (h9) | exact (h10) | exact (h6) | exact (h7) | exact (h11) | exact (h12a) | exact (h12b) | exact (h8) | exact (h13) | exact (h14) | exact (h15)), ?_⟩; conv => whnf)
      | assumption
      | (refine W.drawn TT_ok hmix1 rfl ?_; conv => whnf)
      | exact absurd (show false = true from h) Bool.false_ne_true
      | exact absurd (show true = false from h) (fun e => Bool.noConfusion e)
      | exact (congrArg Bool.not h)
      | (refine ⟨_, ⟨by first | assumption | decide | omega, by first | assumption | rfl⟩, ?_⟩; conv => whnf)
      | (refine ⟨_, fun _ => ⟨by first | assumption | decide | omega, by first | assumption | rfl⟩, ?_⟩; conv => whnf)
      | exact (rfl : (_ : Nat) = _)
      | exact (rfl : (_ : LV) = _)
      | (refine ⟨fun h => ?_, fun h => ?_⟩ <;> conv => whnf)
      | (refine ⟨?_, ?_⟩ <;> conv => whnf)
      | (intro h; conv => whnf)
      | (refine gand ?_ h; assumption)
    all_goals skip
  · skip
    refine .intro (by first | (simp [NLs, NL]; done) | (simp [NLs, NL, nlx]; done)) (.intro TT_ok Try.func4 rfl rfl [0, 1, 2, 3, 4, 5, 8, 9, 10, 11, 12, 13, 14, 15, 16, 49, 57, 62, 71, 82, 89, 98, 101, 125, 128] rfl ?_)
    conv => whnf
    repeat' first
      | with_reducible rfl
      | with_reducible exact True.intro
      | with_reducible assumption
      | exact (Bool.false_ne_true (h.symm.trans hn)).elim
      | exact (Bool.false_ne_true (hw.symm.trans h)).elim
      | (refine CallP.use (by first | exact (h5) | exact (h9) | exact (h10) | exact (h6) | exact (h7) | exact (h11) | exact (h12a) | exact (h12b) | exact (h8) | exact (h13) | exact (h14) | exact (h15)) ?_; conv => whnf)
      | (refine ⟨_, _, CallP.at (by first | exact (h5) | exact (h9) | exact (h10) | exact (h6) | exact (h7) | exact (h11) | exact (h12a) | exact (h12b) | exact (h8) | exact (h13) | exact (h14) | exact (h15)), ?_⟩; conv => whnf)
      | (refine ⟨_, fun _ => (by first | exact (h5) | exact (h9) | exact (h10) | exact (h6) | exact (h7) | exact (h11) | exact (h12a) | exact (h12b) | exact (h8) | exact (h13) | exact (h14) | exact (h15)), ?_⟩; conv => whnf)
      | assumption
      | (refine W.drawn TT_ok hmix1 rfl ?_; conv => whnf)
      | exact absurd (show false = true from h) Bool.false_ne_true
      | exact absurd (show true = false from h) (fun e => Bool.noConfusion e)
      | exact (congrArg Bool.not h)
      | (refine ⟨_, ⟨by first | assumption | decide | omega, by first | assumption | rfl⟩, ?_⟩; conv => whnf)
      | (refine ⟨_, fun _ => ⟨by first | assumption | decide | omega, by first | assumption | rfl⟩, ?_⟩; conv => whnf)
      | exact (rfl : (_ : Nat) = _)
      | exact (rfl : (_ : LV) = _)
      | (refine ⟨fun h => ?_, fun h => ?_⟩ <;> conv => whnf)
      | (refine ⟨?_, ?_⟩ <;> conv => whnf)
      | (intro h; conv => whnf)
      | (refine gand ?_ h; assumption)
    all_goals skip
  · skip
    have hn' : (bif decide (n < 0) then true else decide (2147483647 < n)) = false := by rw [hn1, hn2]; rfl
    refine .intro (by first | (simp [NLs, NL]; done) | (simp [NLs, NL, nlx]; done)) (.intro TT_ok Try.func4 rfl rfl [0, 1, 2, 3, 4, 5, 8, 9, 10, 11, 12, 13, 14, 15, 16, 49, 57, 62, 71, 82, 89, 98, 101, 125, 128] rfl ?_)
    conv => whnf
    repeat' first
      | with_reducible rfl
      | with_reducible exact True.intro
      | with_reducible assumption
      | exact (Bool.false_ne_true (hn'.symm.trans h)).elim
      | exact (Bool.false_ne_true (hE'.symm.trans h)).elim
      | exact (Bool.false_ne_true (hw.symm.trans h)).elim
      | (refine CallP.use (by first | exact (h5) | exact (h9) | exact (h10) | exact (h6) | exact (h7) | exact (h11) | exact (h12a) | exact (h12b) | exact (h8) | exact (h13) | exact (h14) | exact (h15)) ?_; conv => whnf)
      | (refine ⟨_, _, CallP.at (by first | exact (h5) | exact (h9) | exact (h10) | exact (h6) | exact (h7) | exact (h11) | exact (h12a) | exact (h12b) | exact (h8) | exact (h13) | exact (h14) | exact (h15)), ?_⟩; conv => whnf)
      | (refine ⟨_, fun _ => (by first | exact (h5) | exact (h9) | exact (h10) | exact (h6) | exact (h7) | exact (h11) | exact (h12a) | exact (h12b) | exact (h8) | exact (h13) | exact (h14) | exact (h15)), ?_⟩; conv => whnf)
      | assumption
      | (refine W.drawn TT_ok hmix1 rfl ?_; conv => whnf)
      | exact absurd (show false = true from h) Bool.false_ne_true
      | exact absurd (show true = false from h) (fun e => Bool.noConfusion e)
      | exact (congrArg Bool.not h)
      | (refine ⟨_, ⟨by first | assumption | decide | omega, by first | assumption | rfl⟩, ?_⟩; conv => whnf)
      | (refine ⟨_, fun _ => ⟨by first | assumption | decide | omega, by first | assumption | rfl⟩, ?_⟩; conv => whnf)
      | exact (rfl : (_ : Nat) = _)
      | exact (rfl : (_ : LV) = _)
      | (refine ⟨fun h => ?_, fun h => ?_⟩ <;> conv => whnf)
      | (refine ⟨?_, ?_⟩ <;> conv => whnf)
      | (intro h; conv => whnf)
      | (refine gand ?_ h; assumption)
    all_goals skip
end Go.RX

