/- The contracts of vec.Best and footwaylaw04.VecBest. -/
import Derived.Test.YtogomcndhipoeaaTyk
set_option linter.unusedVariables false
set_option linter.unusedSimpArgs false
open Go Go.RX Go.Proofs
namespace Go.RX
set_option maxRecDepth 10000
set_option maxHeartbeats 2000000
theorem mn_nat (n k : Nat) : mn (n : Int) (k : Int) = ((min n k : Nat) : Int) := by
  unfold mn
  split <;> omega
theorem mn_low (n k : Nat) : (mn (n : Int) (k : Int) - 0).NonNeg := by
  show (0 : Int) ≤ mn n k
  rw [mn_nat]; omega
theorem mn_top (n k : Nat) : ((n : Int) - mn (n : Int) (k : Int)).NonNeg := by
  show mn (n : Int) k ≤ n
  rw [mn_nat]; omega
theorem take_mn {α β : Type} (l : List α) (f : α → β) (k : Nat) : List.take (mn ((l.map f).length : Int) (k : Int)).toNat (l.map f) = (l.take k).map f := by
  rw [mn_nat, Int.toNat_natCast, Nat.min_comm, ← List.take_eq_take_min, List.map_take]
def eqV (a b : Vc) : Bool := decide (a.r = b.r) && (decide (a.c = b.c) && (decide (a.b = b.b) && (decide (a.p = b.p) && true)))
theorem eqV_iff (a b : Vc) : eqV a b = true ↔ a = b := by
  obtain ⟨r, c, x, p⟩ := a
  obtain ⟨r', c', x', p'⟩ := b
  simp [eqV]
theorem better_no {a b : Vc} (ha : Rv a) (hb : Rv b) (h : leV b a) : vBet a.r a.c a.b a.p b.r b.c b.b b.p = false ∧ vErr a.r a.c a.b a.p b.r b.c b.b b.p = 0 := by
  refine ⟨?_, (vErr_iff _ _ _ _ _ _ _ _).2 ⟨ha, hb⟩⟩
  rw [← Bool.not_eq_true, vBet_iff]
  exact fun h' => h h'.2.2
/-- The first that none is better than, among so many. -/
def BInv (l : List Vc) (k at_ : Nat) : Prop := ∃ u, l[at_]? = some u ∧ at_ ≤ k ∧ (∀ j y, j < k → l[j]? = some y → leV u y) ∧ ∀ j y, j < at_ → l[j]? = some y → ltV u y
theorem BInv.keep {l : List Vc} {k at_ : Nat} (h : BInv l k at_) {u v : Vc} (hu : l[at_]? = some u) (hv : l[k]? = some v) (hlt : ¬ ltV v u) : BInv l (k + 1) at_ := by
  obtain ⟨u', h1, h2, h3, h4⟩ := h
  rw [hu] at h1; cases h1
  refine ⟨u, hu, by omega, fun j y hj hy => ?_, h4⟩
  by_cases hjk : j = k
  · subst hjk; rw [hv] at hy; cases hy; exact hlt
  · exact h3 j y (by omega) hy
theorem BInv.turn {l : List Vc} {k at_ : Nat} (h : BInv l k at_) {u v : Vc} (hu : l[at_]? = some u) (hv : l[k]? = some v) (hlt : ltV v u) : BInv l (k + 1) k := by
  obtain ⟨u', h1, h2, h3, h4⟩ := h
  rw [hu] at h1; cases h1
  have hall : ∀ j y, j < k → l[j]? = some y → ltV v y := fun j y hj hy => by
    have := h3 j y hj hy
    unfold leV ltV Lt4 at *; omega
  refine ⟨v, hv, by omega, fun j y hj hy => ?_, hall⟩
  by_cases hjk : j = k
  · subst hjk; rw [hv] at hy; cases hy; exact leV_refl _
  · exact ltV_le (hall j y (by omega) hy)
def cv (l : List Vc) (v : Vc) (q : Nat) : Nat := (l.take q).countP fun x => eqV x v
theorem cv_succ {l : List Vc} {q : Nat} {x : Vc} (v : Vc) (h : l[q]? = some x) : cv l v (q + 1) = cv l v q + if eqV x v = true then 1 else 0 := by
  simp only [cv, List.take_add_one, h, Option.toList, List.countP_append, List.countP_cons, List.countP_nil, Nat.zero_add]
theorem cv_le (l : List Vc) (v : Vc) (q : Nat) : cv l v q ≤ l.length := by
  unfold cv
  exact Nat.le_trans List.countP_le_length (by rw [List.length_take]; omega)
attribute [local irreducible] CallW CallP CallS LoopW W IntKind.wrap rankL vRight BInv
theorem c5 (l : List Vc) : CallP Try.prog 5 [vcsL l] (vcsL (l.take 60)) := by
  refine .intro (by first | (simp [NLs, NL]; done) | (simp [NLs, NL, nlx]; done)) (.intro TT_ok Try.func5 rfl rfl [0, 2] rfl ?_)
  conv => whnf
  repeat' first
    | with_reducible rfl
    | with_reducible exact True.intro
    | with_reducible assumption
    | exact mn_low _ 60
    | exact mn_top _ 60
    | exact take_mn _ _ 60
    | assumption
    | exact absurd (show false = true from h) Bool.false_ne_true
    | exact absurd (show true = false from h) (fun e => Bool.noConfusion e)
    | exact (congrArg Bool.not h)
    | (refine ⟨_, ⟨by first | assumption | decide | omega, by first | assumption | rfl⟩, ?_⟩; conv => whnf)
    | (refine ⟨_, fun _ => ⟨by first | assumption | decide | omega, by first | assumption | rfl⟩, ?_⟩; conv => whnf)
    | exact (rfl : (_ : Nat) = _)
    | exact (rfl : (_ : LV) = _)
    | (refine ⟨fun h => ?_, fun h => ?_⟩ <;> conv => whnf)
    | (refine ⟨?_, ?_⟩ <;> conv => whnf)
    | (intro h; conv => whnf)
    | (refine gand ?_ h; assumption)
theorem c6e (l : List Vc) (hl : l.length ≤ 1000) (h0 : allR l = false) : CallP Try.prog 6 [vcsL l] (.tup [I 0, I 1]) := by
  have h19 := c19 l hl
  rw [h0] at h19
  refine .intro (by first | (simp [NLs, NL]; done) | (simp [NLs, NL, nlx]; done)) (.intro TT_ok Try.func6 rfl rfl [0, 2, 3, 4, 5, 6, 7, 11, 15, 16, 17, 18, 30] rfl ?_)
  conv => whnf
  repeat' first
    | with_reducible rfl
    | with_reducible exact True.intro
    | with_reducible assumption
    | (refine CallP.use (h19) ?_; conv => whnf)
    | (refine ⟨_, _, CallP.at (h19), ?_⟩; conv => whnf)
    | (refine ⟨_, fun _ => h19, ?_⟩; conv => whnf)
    | assumption
    | (refine W.drawn TT_ok hmix1 rfl ?_; conv => whnf)
    | exact absurd (show false = true from h) Bool.false_ne_true
    | exact absurd (show true = false from h) (fun e => Bool.noConfusion e)
    | exact (congrArg Bool.not h)
    | (refine ⟨_, ⟨by first | assumption | decide | omega, by first | assumption | rfl⟩, ?_⟩; conv => whnf)
    | (refine ⟨_, fun _ => ⟨by first | assumption | decide | omega, by first | assumption | rfl⟩, ?_⟩; conv => whnf)
    | exact (rfl : (_ : Nat) = _)
    | exact (rfl : (_ : LV) = _)
    | (refine ⟨fun h => ?_, fun h => ?_⟩ <;> conv => whnf)
    | (refine ⟨?_, ?_⟩ <;> conv => whnf)
    | (intro h; conv => whnf)
    | (refine gand ?_ h; assumption)
theorem c6n : CallP Try.prog 6 [vcsL []] (.tup [I 0, I 4]) := by
  have h19 := c19 [] (by decide)
  rw [show allR [] = true from rfl] at h19
  refine .intro (by first | (simp [NLs, NL]; done) | (simp [NLs, NL, nlx]; done)) (.intro TT_ok Try.func6 rfl rfl [0, 2, 3, 4, 5, 6, 7, 11, 15, 16, 17, 18, 30] rfl ?_)
  conv => whnf
  repeat' first
    | with_reducible rfl
    | with_reducible exact True.intro
    | with_reducible assumption
    | (refine CallP.use (h19) ?_; conv => whnf)
    | (refine ⟨_, _, CallP.at (h19), ?_⟩; conv => whnf)
    | (refine ⟨_, fun _ => h19, ?_⟩; conv => whnf)
    | assumption
    | (refine W.drawn TT_ok hmix1 rfl ?_; conv => whnf)
    | exact absurd (show false = true from h) Bool.false_ne_true
    | exact absurd (show true = false from h) (fun e => Bool.noConfusion e)
    | exact (congrArg Bool.not h)
    | (refine ⟨_, ⟨by first | assumption | decide | omega, by first | assumption | rfl⟩, ?_⟩; conv => whnf)
    | (refine ⟨_, fun _ => ⟨by first | assumption | decide | omega, by first | assumption | rfl⟩, ?_⟩; conv => whnf)
    | exact (rfl : (_ : Nat) = _)
    | exact (rfl : (_ : LV) = _)
    | (refine ⟨fun h => ?_, fun h => ?_⟩ <;> conv => whnf)
    | (refine ⟨?_, ?_⟩ <;> conv => whnf)
    | (intro h; conv => whnf)
    | (refine gand ?_ h; assumption)
abbrev s6 (l : List Vc) (at_ k : Nat) : Slots := [(0, vcsL l), (4, I at_), (15, vcsL l), (16, I (l.map Vc.cells).length), (17, I k)]
theorem c6 (l : List Vc) (hl : l.length ≤ 1000) (h0 : allR l = true) (hne : 1 ≤ l.length) : CallS Try.prog 6 [vcsL l] fun r => ∃ at_ : Nat, BInv l l.length at_ ∧ r = .tup [I at_, I 0] := by
  have hL : (l.map Vc.cells).length = l.length := List.length_map ..
  have h19 := c19 l hl
  rw [h0] at h19
  have hR := (allR_iff l).1 h0
  have hz : decide (((l.map Vc.cells).length : Int) = 0) = false := by rw [decide_eq_false_iff_not]; omega
  refine .intro (by first | (simp [NLs, NL]; done) | (simp [NLs, NL, nlx]; done)) (CallW.intro TT_ok Try.func6 rfl rfl [0, 2, 3, 4, 5, 6, 7, 11, 15, 16, 17, 18, 30] rfl ?_)
  conv => whnf
  repeat' first
    | with_reducible rfl
    | with_reducible exact True.intro
    | with_reducible assumption
    | exact (Bool.false_ne_true (hz.symm.trans h)).elim
    | (refine CallP.use (h19) ?_; conv => whnf)
    | (refine ⟨_, _, CallP.at (h19), ?_⟩; conv => whnf)
    | (refine ⟨_, fun _ => h19, ?_⟩; conv => whnf)
    | assumption
    | (refine W.drawn TT_ok hmix1 rfl ?_; conv => whnf)
    | exact absurd (show false = true from h) Bool.false_ne_true
    | exact absurd (show true = false from h) (fun e => Bool.noConfusion e)
    | exact (congrArg Bool.not h)
    | (refine ⟨_, ⟨by first | assumption | decide | omega, by first | assumption | rfl⟩, ?_⟩; conv => whnf)
    | (refine ⟨_, fun _ => ⟨by first | assumption | decide | omega, by first | assumption | rfl⟩, ?_⟩; conv => whnf)
    | exact (rfl : (_ : Nat) = _)
    | exact (rfl : (_ : LV) = _)
    | (refine ⟨fun h => ?_, fun h => ?_⟩ <;> conv => whnf)
    | (refine ⟨?_, ?_⟩ <;> conv => whnf)
    | (intro h; conv => whnf)
    | (refine gand ?_ h; assumption)
  refine LoopW.norm (s6 l 0 0) 0 [] ⟨rfl, rfl, rfl, rfl, rfl, trivial⟩ trivial ⟨trivial, trivial, trivial, trivial, trivial, trivial⟩ rfl ?_
  refine LoopW.ind (α := Nat) (fun k => l.length - k) (fun k s' H => ∃ at_, (k ≤ l.length ∧ at_ < l.length ∧ BInv l k at_) ∧ s' = s6 l at_ k ∧ H = ⟨0, []⟩) ?_ (a := 0) ⟨0, ⟨Nat.zero_le _, hne, by unfold BInv; exact ⟨_, List.getElem?_eq_getElem hne, Nat.le_refl _, fun j y hj => absurd hj (Nat.not_lt_zero _), fun j y hj => absurd hj (Nat.not_lt_zero _)⟩⟩, rfl, rfl⟩
  rintro k s' H ⟨at_, ⟨hk, hat, hI⟩, rfl, rfl⟩ ih
  by_cases hi : k < l.length
  · have hd : decide ((k : Int) < ((l.map Vc.cells).length : Int)) = true := by rw [decide_eq_true_eq]; omega
    have hx := List.getElem?_eq_getElem hi
    have hu := List.getElem?_eq_getElem hat
    have hRv := hR _ (List.getElem_mem hi)
    have hRu := hR _ (List.getElem_mem hat)
    have hb : (l.map Vc.cells)[k]? = some l[k].cells := by simp [hi]
    have hbu : (l.map Vc.cells)[at_]? = some l[at_].cells := by simp [hat]
    generalize l[k] = v at hx hRv hb
    generalize l[at_] = u at hu hRu hbu
    have h20 := c20 v.r v.c v.b v.p u.r u.c u.b u.p
    have hnext : ∀ (a' : Nat), a' < l.length → BInv l (k + 1) a' → ∀ {s1 : Slots} {H1 : Heap}, subC s1 (s6 l a' (k + 1)) → LoopW Try.prog Try.f6.ntmps 0 _ _ s1 H1 := fun a' q1 q2 {s1} {H1} h1 =>
      LoopW.norm (s6 l a' (k + 1)) 0 [] h1 trivial ⟨trivial, trivial, trivial, trivial, trivial, trivial⟩ rfl (ih (k + 1) _ _ ⟨a', ⟨hi, q1, q2⟩, rfl, rfl⟩ (by omega))
    clear ih
    by_cases hlt : ltV v u
    · have hC : decide (rnk v u < 0) = true := by rw [decide_eq_true_eq]; exact (rnk_lt hRv hRu).2 hlt
      refine LoopW.round TT_ok [0, 2, 3, 4, 5, 6, 7, 11, 15, 16, 17, 18, 30] ?_
      conv => whnf
      repeat' first
        | with_reducible rfl
        | with_reducible exact True.intro
        | with_reducible assumption
        | exact (Bool.false_ne_true (h.symm.trans hd)).elim
        | exact (Bool.false_ne_true (h.symm.trans hC)).elim
        | (refine CallP.use (h20) ?_; conv => whnf)
        | (refine ⟨_, _, CallP.at (h20), ?_⟩; conv => whnf)
        | (refine ⟨_, fun _ => h20, ?_⟩; conv => whnf)
        | assumption
        | (refine W.drawn TT_ok hmix1 rfl ?_; conv => whnf)
        | exact absurd (show false = true from h) Bool.false_ne_true
        | exact absurd (show true = false from h) (fun e => Bool.noConfusion e)
        | exact (congrArg Bool.not h)
        | (refine ⟨_, ⟨by first | assumption | decide | omega, by first | assumption | rfl⟩, ?_⟩; conv => whnf)
        | (refine ⟨_, fun _ => ⟨by first | assumption | decide | omega, by first | assumption | rfl⟩, ?_⟩; conv => whnf)
        | exact (rfl : (_ : Nat) = _)
        | exact (rfl : (_ : LV) = _)
        | (refine ⟨fun h => ?_, fun h => ?_⟩ <;> conv => whnf)
        | (refine ⟨?_, ?_⟩ <;> conv => whnf)
        | (intro h; conv => whnf)
        | (refine gand ?_ h; assumption)
      exact hnext k hi (hI.turn hu hx hlt) ⟨rfl, rfl, rfl, rfl, congrArg (LV.int .i64) (w64_nat k (by omega)), trivial⟩
    · have hC : decide (rnk v u < 0) = false := by rw [decide_eq_false_iff_not]; exact fun hh => hlt ((rnk_lt hRv hRu).1 hh)
      refine LoopW.round TT_ok [0, 2, 3, 4, 5, 6, 7, 11, 15, 16, 17, 18, 30] ?_
      conv => whnf
      repeat' first
        | with_reducible rfl
        | with_reducible exact True.intro
        | with_reducible assumption
        | exact (Bool.false_ne_true (h.symm.trans hd)).elim
        | exact (Bool.false_ne_true (hC.symm.trans h)).elim
        | (refine CallP.use (h20) ?_; conv => whnf)
        | (refine ⟨_, _, CallP.at (h20), ?_⟩; conv => whnf)
        | (refine ⟨_, fun _ => h20, ?_⟩; conv => whnf)
        | assumption
        | (refine W.drawn TT_ok hmix1 rfl ?_; conv => whnf)
        | exact absurd (show false = true from h) Bool.false_ne_true
        | exact absurd (show true = false from h) (fun e => Bool.noConfusion e)
        | exact (congrArg Bool.not h)
        | (refine ⟨_, ⟨by first | assumption | decide | omega, by first | assumption | rfl⟩, ?_⟩; conv => whnf)
        | (refine ⟨_, fun _ => ⟨by first | assumption | decide | omega, by first | assumption | rfl⟩, ?_⟩; conv => whnf)
        | exact (rfl : (_ : Nat) = _)
        | exact (rfl : (_ : LV) = _)
        | (refine ⟨fun h => ?_, fun h => ?_⟩ <;> conv => whnf)
        | (refine ⟨?_, ?_⟩ <;> conv => whnf)
        | (intro h; conv => whnf)
        | (refine gand ?_ h; assumption)
      exact hnext at_ hat (hI.keep hu hx hlt) ⟨rfl, rfl, rfl, rfl, congrArg (LV.int .i64) (w64_nat k (by omega)), trivial⟩
  · have hd : decide ((k : Int) < ((l.map Vc.cells).length : Int)) = false := by rw [decide_eq_false_iff_not]; omega
    obtain rfl : k = l.length := by omega
    clear ih
    refine LoopW.round TT_ok [0, 2, 3, 4, 5, 6, 7, 11, 15, 16, 17, 18, 30] ?_
    conv => whnf
    repeat' first
      | with_reducible rfl
      | with_reducible exact True.intro
      | with_reducible assumption
      | exact (Bool.false_ne_true (hd.symm.trans h)).elim
      | exact ⟨.tup [I at_, I 0], ⟨⟨rfl, rfl⟩, ⟨rfl, rfl⟩, trivial⟩, at_, hI, rfl⟩
      | assumption
      | (refine W.drawn TT_ok hmix1 rfl ?_; conv => whnf)
      | exact absurd (show false = true from h) Bool.false_ne_true
      | exact absurd (show true = false from h) (fun e => Bool.noConfusion e)
      | exact (congrArg Bool.not h)
      | (refine ⟨_, ⟨by first | assumption | decide | omega, by first | assumption | rfl⟩, ?_⟩; conv => whnf)
      | (refine ⟨_, fun _ => ⟨by first | assumption | decide | omega, by first | assumption | rfl⟩, ?_⟩; conv => whnf)
      | exact (rfl : (_ : Nat) = _)
      | exact (rfl : (_ : LV) = _)
      | (refine ⟨fun h => ?_, fun h => ?_⟩ <;> conv => whnf)
      | (refine ⟨?_, ?_⟩ <;> conv => whnf)
      | (intro h; conv => whnf)
      | (refine gand ?_ h; assumption)
    all_goals skip
end Go.RX

