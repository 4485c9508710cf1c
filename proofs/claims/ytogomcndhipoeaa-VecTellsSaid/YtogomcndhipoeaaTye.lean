/- Contracts of the sort: insertionSort. -/
import Derived.Test.YtogomcndhipoeaaTyd
set_option linter.unusedVariables false
set_option linter.unusedSimpArgs false
open Go Go.RX Go.Proofs
namespace Go.RX
set_option maxRecDepth 10000
set_option maxHeartbeats 400000
abbrev Rv (v : Vc) : Prop := Rt v.r v.c v.b v.p
def ltV (a b : Vc) : Prop := Lt4 a.r a.c a.b a.p b.r b.c b.b b.p
def leV (a b : Vc) : Prop := ¬ ltV b a
theorem leV_refl (a : Vc) : leV a a := by unfold leV ltV Lt4; omega
theorem leV_trans (a b c : Vc) (h : leV a b) (h' : leV b c) : leV a c := by unfold leV ltV Lt4 at *; omega
theorem leV_anti (a b : Vc) (h : leV a b) (h' : leV b a) : a = b := by
  obtain ⟨r, c, x, p⟩ := a
  obtain ⟨r', c', x', p'⟩ := b
  unfold leV ltV Lt4 at *
  simp only at h h'
  simp only [Vc.mk.injEq]
  omega
theorem ltV_le {a b : Vc} (h : ltV a b) : leV a b := by unfold leV ltV Lt4 at *; omega
theorem rnk_lt {a b : Vc} (ha : Rv a) (hb : Rv b) : rnk a b < 0 ↔ ltV a b := rank_iff ha hb
attribute [local irreducible] CallW CallP LoopW W IntKind.wrap rankL
abbrev s31a (n a b i : Nat) : Slots := [(0, .sl 0 0 n), (1, I a), (2, I b), (3, cmpF), (8, I i)]
abbrev s31b (n a b i j : Nat) : Slots := [(0, .sl 0 0 n), (1, I a), (2, I b), (3, cmpF), (8, I i), (9, I j)]
theorem c31 (X A Y : List Vc) (n : Nat) (hn : n = (X ++ (A ++ Y)).length) (hl : n ≤ 1000) (hv : ∀ v ∈ X ++ (A ++ Y), Rv v) {xa xb : Int} (ha : xa = ((X.length : Nat) : Int)) (hb : xb = ((X.length + A.length : Nat) : Int)) {K : LV → Heap → Prop}
    (h : ∀ S, S.Perm A → Srt leV S → K (.tup []) (hpV (X ++ (S ++ Y)))) : CallW Try.prog 31 [.sl 0 0 n, I xa, I xb, cmpF] (hpV (X ++ (A ++ Y))) K := by
  have hK := h
  clear h
  subst ha; subst hb
  have hnl : n = X.length + A.length + Y.length := by rw [hn]; simp only [List.length_append]; omega
  cases A with
  | nil =>
    have d : decide (IntKind.i64.wrap (((X.length : Nat) : Int) + 1) < ((X.length + ([] : List Vc).length : Nat) : Int)) = false := by
      rw [w64_nat _ (by omega), decide_eq_false_iff_not]; simp only [List.length_nil]; omega
    refine CallW.intro TT_ok Try.func31 rfl rfl [0, 1, 2, 3, 8, 9, 14, 34] rfl ?_
    conv => whnf
    repeat' first
      | with_reducible rfl
      | with_reducible exact True.intro
      | with_reducible assumption
      | assumption
      | (refine W.drawn TT_ok hmix1 rfl ?_; conv => whnf)
      | (refine W.drawnM (id := 6) 0 TT_ok hmix1 [0, 0, 0, 0, 0, 0, 0, 0, 0, 0, 0, 0, 0, 0, 0, 0, 1, 1] [0, 0, 1, 1, 1, 0, 0, 0, 0, 0, 0, 0, 0, 0, 0, 1, 1, 2] rfl ?_; conv => whnf)
      | exact absurd (show false = true from h) Bool.false_ne_true
      | exact absurd (show true = false from h) (fun e => Bool.noConfusion e)
      | exact (congrArg Bool.not h)
      | (refine ⟨_, ⟨by first | assumption | decide | omega, by first | assumption | rfl⟩, ?_⟩; conv => whnf)
      | (refine ⟨_, fun _ => ⟨by first | assumption | decide | omega, by first | assumption | rfl⟩, ?_⟩; conv => whnf)
      | exact (rfl : (_ : Nat) = _)
      | exact (rfl : (_ : LV) = _)
      | (refine ⟨fun h => ?_, fun h => ?_⟩ <;> conv => whnf)
      | (refine ⟨?_, ?_⟩ <;> conv => whnf)
      | (intro h; conv => whnf)
      | (refine gand ?_ h; assumption)
    refine LoopW.round TT_ok [0, 1, 2, 3, 8, 9, 14, 34] ?_
    conv => whnf
    repeat' first
      | with_reducible rfl
      | with_reducible exact True.intro
      | with_reducible assumption
      | exact (Bool.false_ne_true (d.symm.trans h)).elim
      | exact hK [] (List.Perm.refl _) List.Pairwise.nil
      | assumption
      | (refine W.drawn TT_ok hmix1 rfl ?_; conv => whnf)
      | (refine W.drawnM (id := 6) 0 TT_ok hmix1 [0, 0, 0, 0, 0, 0, 0, 0, 0, 0, 0, 0, 0, 0, 0, 0, 1, 1] [0, 0, 1, 1, 1, 0, 0, 0, 0, 0, 0, 0, 0, 0, 0, 1, 1, 2] rfl ?_; conv => whnf)
      | exact absurd (show false = true from h) Bool.false_ne_true
      | exact absurd (show true = false from h) (fun e => Bool.noConfusion e)
      | exact (congrArg Bool.not h)
      | (refine ⟨_, ⟨by first | assumption | decide | omega, by first | assumption | rfl⟩, ?_⟩; conv => whnf)
      | (refine ⟨_, fun _ => ⟨by first | assumption | decide | omega, by first | assumption | rfl⟩, ?_⟩; conv => whnf)
      | exact (rfl : (_ : Nat) = _)
      | exact (rfl : (_ : LV) = _)
      | (refine ⟨fun h => ?_, fun h => ?_⟩ <;> conv => whnf)
      | (refine ⟨?_, ?_⟩ <;> conv => whnf)
      | (intro h; conv => whnf)
      | (refine gand ?_ h; assumption)
    all_goals skip
  | cons x0 A0 =>
    generalize hA : x0 :: A0 = A at *
    have hA1 : A.length = A0.length + 1 := by rw [← hA]; rfl
    refine CallW.intro TT_ok Try.func31 rfl rfl [0, 1, 2, 3, 8, 9, 14, 34] rfl ?_
    conv => whnf
    repeat' first
      | with_reducible rfl
      | with_reducible exact True.intro
      | with_reducible assumption
      | assumption
      | (refine W.drawn TT_ok hmix1 rfl ?_; conv => whnf)
      | (refine W.drawnM (id := 6) 0 TT_ok hmix1 [0, 0, 0, 0, 0, 0, 0, 0, 0, 0, 0, 0, 0, 0, 0, 0, 1, 1] [0, 0, 1, 1, 1, 0, 0, 0, 0, 0, 0, 0, 0, 0, 0, 1, 1, 2] rfl ?_; conv => whnf)
      | exact absurd (show false = true from h) Bool.false_ne_true
      | exact absurd (show true = false from h) (fun e => Bool.noConfusion e)
      | exact (congrArg Bool.not h)
      | (refine ⟨_, ⟨by first | assumption | decide | omega, by first | assumption | rfl⟩, ?_⟩; conv => whnf)
      | (refine ⟨_, fun _ => ⟨by first | assumption | decide | omega, by first | assumption | rfl⟩, ?_⟩; conv => whnf)
      | exact (rfl : (_ : Nat) = _)
      | exact (rfl : (_ : LV) = _)
      | (refine ⟨fun h => ?_, fun h => ?_⟩ <;> conv => whnf)
      | (refine ⟨?_, ?_⟩ <;> conv => whnf)
      | (intro h; conv => whnf)
      | (refine gand ?_ h; assumption)
    refine LoopW.norm (s31a n X.length (X.length + A.length) (X.length + 1)) 1 [(0, .row 31 4 ((X ++ (A ++ Y)).map Vc.cells))] ⟨rfl, rfl, rfl, rfl, congrArg (LV.int .i64) (w64_nat _ (by omega)), trivial⟩ (hpS _ rfl) ⟨rfl, trivial, trivial, ⟨trivial, trivial⟩, trivial, trivial⟩ rfl ?_
    refine LoopW.ind (α := Nat) (fun r => r) (fun r s' H => ∃ S R : List Vc, (R.length = r ∧ A.Perm (S ++ R) ∧ Srt leV S) ∧ s' = s31a n X.length (X.length + A.length) (X.length + S.length) ∧ H = hpV (X ++ (S ++ (R ++ Y)))) ?_ (a := A0.length) ⟨[x0], A0, ⟨rfl, by rw [← hA]; exact List.Perm.refl _, List.pairwise_singleton _ _⟩, rfl, by rw [← hA]; rfl⟩
    rintro r s' H ⟨S, R, ⟨rfl, hp, hS⟩, rfl, rfl⟩ ih
    have hlen : A.length = S.length + R.length := by rw [hp.length_eq, List.length_append]
    cases R with
    | nil =>
      have d : decide (((X.length + S.length : Nat) : Int) < ((X.length + A.length : Nat) : Int)) = false := by
        rw [decide_eq_false_iff_not]; simp only [List.length_nil] at hlen; omega
      rw [List.append_nil] at hp
      refine LoopW.round TT_ok [0, 1, 2, 3, 8, 9, 14, 34] ?_
      conv => whnf
      repeat' first
        | with_reducible rfl
        | with_reducible exact True.intro
        | with_reducible assumption
        | exact (Bool.false_ne_true (d.symm.trans h)).elim
        | exact hK S hp.symm hS
        | assumption
        | (refine W.drawn TT_ok hmix1 rfl ?_; conv => whnf)
        | (refine W.drawnM (id := 6) 0 TT_ok hmix1 [0, 0, 0, 0, 0, 0, 0, 0, 0, 0, 0, 0, 0, 0, 0, 0, 1, 1] [0, 0, 1, 1, 1, 0, 0, 0, 0, 0, 0, 0, 0, 0, 0, 1, 1, 2] rfl ?_; conv => whnf)
        | exact absurd (show false = true from h) Bool.false_ne_true
        | exact absurd (show true = false from h) (fun e => Bool.noConfusion e)
        | exact (congrArg Bool.not h)
        | (refine ⟨_, ⟨by first | assumption | decide | omega, by first | assumption | rfl⟩, ?_⟩; conv => whnf)
        | (refine ⟨_, fun _ => ⟨by first | assumption | decide | omega, by first | assumption | rfl⟩, ?_⟩; conv => whnf)
        | exact (rfl : (_ : Nat) = _)
        | exact (rfl : (_ : LV) = _)
        | (refine ⟨fun h => ?_, fun h => ?_⟩ <;> conv => whnf)
        | (refine ⟨?_, ?_⟩ <;> conv => whnf)
        | (intro h; conv => whnf)
        | (refine gand ?_ h; assumption)
      all_goals skip
    | cons x R =>
      have hlen' : A.length = S.length + (R.length + 1) := hlen
      have d : decide (((X.length + S.length : Nat) : Int) < ((X.length + A.length : Nat) : Int)) = true := by
        rw [decide_eq_true_eq]; omega
      have hvA : ∀ v ∈ A, Rv v := fun v hm => hv v (List.mem_append_right _ (List.mem_append_left _ hm))
      have hRx : Rv x := hvA x (hp.mem_iff.2 (List.mem_append_right _ List.mem_cons_self))
      refine LoopW.round TT_ok [0, 1, 2, 3, 8, 9, 14, 34] ?_
      conv => whnf
      repeat' first
        | with_reducible rfl
        | with_reducible exact True.intro
        | with_reducible assumption
        | exact (Bool.false_ne_true (h.symm.trans d)).elim
        | assumption
        | (refine W.drawn TT_ok hmix1 rfl ?_; conv => whnf)
        | (refine W.drawnM (id := 6) 0 TT_ok hmix1 [0, 0, 0, 0, 0, 0, 0, 0, 0, 0, 0, 0, 0, 0, 0, 0, 1, 1] [0, 0, 1, 1, 1, 0, 0, 0, 0, 0, 0, 0, 0, 0, 0, 1, 1, 2] rfl ?_; conv => whnf)
        | exact absurd (show false = true from h) Bool.false_ne_true
        | exact absurd (show true = false from h) (fun e => Bool.noConfusion e)
        | exact (congrArg Bool.not h)
        | (refine ⟨_, ⟨by first | assumption | decide | omega, by first | assumption | rfl⟩, ?_⟩; conv => whnf)
        | (refine ⟨_, fun _ => ⟨by first | assumption | decide | omega, by first | assumption | rfl⟩, ?_⟩; conv => whnf)
        | exact (rfl : (_ : Nat) = _)
        | exact (rfl : (_ : LV) = _)
        | (refine ⟨fun h => ?_, fun h => ?_⟩ <;> conv => whnf)
        | (refine ⟨?_, ?_⟩ <;> conv => whnf)
        | (intro h; conv => whnf)
        | (refine gand ?_ h; assumption)
      refine LoopW.norm (s31b n X.length (X.length + A.length) (X.length + S.length) (X.length + S.length)) 1 [(0, .row 31 4 ((X ++ (S ++ (x :: (([] : List Vc) ++ (R ++ Y))))).map Vc.cells))] ⟨rfl, rfl, rfl, rfl, rfl, rfl, trivial⟩ (hpS _ rfl) ⟨rfl, trivial, trivial, ⟨trivial, trivial⟩, trivial, trivial, trivial⟩ rfl ?_
      refine LoopW.ind (α := Nat) (fun r => r) (fun r s' H => ∃ P Q : List Vc, (P.length = r ∧ S = P ++ Q ∧ ∀ q ∈ Q, leV x q) ∧ s' = s31b n X.length (X.length + A.length) (X.length + S.length) (X.length + P.length) ∧ H = hpV (X ++ (P ++ (x :: (Q ++ (R ++ Y)))))) ?_ (a := S.length) ⟨S, [], ⟨rfl, (List.append_nil S).symm, fun q hq => by cases hq⟩, rfl, rfl⟩
      rintro r s' H ⟨P, Q, ⟨rfl, hPQ, hQ⟩, rfl, rfl⟩ ih2
      have hSl : S.length = P.length + Q.length := by rw [hPQ, List.length_append]
      have hexit : (∀ y, P.getLast? = some y → leV y x) → ∀ {s1 : Slots} {H1 : Heap}, subC s1 (s31a n X.length (X.length + A.length) (X.length + S.length + 1)) → look H1.live 0 = some (.row 31 4 ((X ++ (P ++ (x :: (Q ++ (R ++ Y))))).map Vc.cells)) → LoopW Try.prog Try.f31.ntmps 1 _ _ s1 H1 := fun hlast {s1} {H1} h1 h2 => by
        have hS' : Srt leV (P ++ x :: Q) := ins_one leV_refl leV_trans (hPQ ▸ hS) hlast hQ
        have hp' : A.Perm ((P ++ x :: Q) ++ R) := by
          refine hp.trans ?_
          rw [hPQ]
          have : (P ++ Q ++ x :: R).Perm (P ++ (x :: (Q ++ R))) := by
            rw [List.append_assoc]
            exact List.Perm.append_left _ List.perm_middle
          refine this.trans (List.Perm.of_eq ?_)
          simp
        have hl' : (P ++ x :: Q).length = S.length + 1 := by rw [List.length_append, List.length_cons, hSl]; omega
        refine LoopW.norm (s31a n X.length (X.length + A.length) (X.length + S.length + 1)) 1 [(0, .row 31 4 ((X ++ (P ++ (x :: (Q ++ (R ++ Y))))).map Vc.cells))] h1 (hpS _ h2) ⟨rfl, trivial, trivial, ⟨trivial, trivial⟩, trivial, trivial⟩ rfl ?_
        have := ih R.length (s31a n X.length (X.length + A.length) (X.length + (P ++ x :: Q).length)) (hpV (X ++ ((P ++ x :: Q) ++ (R ++ Y)))) ⟨_, _, ⟨rfl, hp', hS'⟩, rfl, rfl⟩ (Nat.lt_succ_self _)
        rw [hl'] at this
        rw [show X ++ (P ++ (x :: (Q ++ (R ++ Y)))) = X ++ ((P ++ x :: Q) ++ (R ++ Y)) by simp]
        exact this
      have hjx : (X ++ (P ++ (x :: (Q ++ (R ++ Y)))))[X.length + P.length]? = some x := by
        rw [List.getElem?_append_right (by omega), List.getElem?_append_right (by omega), show X.length + P.length - X.length - P.length = 0 by omega]; rfl
      have hnx : nth ((X ++ (P ++ (x :: (Q ++ (R ++ Y))))).map Vc.cells) (0 + ((X.length + P.length : Nat) : Int).toNat) = some x.cells := by
        rw [nth_eq, Int.toNat_natCast, Nat.zero_add, List.getElem?_map, hjx]; rfl
      have lo1 : (((X.length + P.length : Nat) : Int) - 0).NonNeg := Int.natCast_nonneg _
      have hi1 : ((n : Int) - (((X.length + P.length : Nat) : Int) + 1)).NonNeg := nn (by omega)
      have w0 : IntKind.i64.wrap (((X.length + S.length : Nat) : Int) + 1) = ((X.length + S.length + 1 : Nat) : Int) := w64_nat _ (by omega)
      change LoopW _ _ _ _ _ _ ⟨1, [(0, .row 31 4 ((X ++ (P ++ (x :: (Q ++ (R ++ Y))))).map Vc.cells))]⟩
      have hcc : P = [] ∨ ∃ P' y, P = P' ++ [y] := by
        rcases List.eq_nil_or_concat P with h | ⟨P', y, h⟩
        · exact .inl h
        · exact .inr ⟨P', y, by rw [h, List.concat_eq_append]⟩
      rcases hcc with rfl | ⟨P', y, rfl⟩
      · have d2 : decide (((X.length : Nat) : Int) < ((X.length + ([] : List Vc).length : Nat) : Int)) = false := by
          rw [decide_eq_false_iff_not]; simp only [List.length_nil]; omega
        obtain ⟨y, hny⟩ : ∃ y : Vc, nth ((X ++ (([] : List Vc) ++ (x :: (Q ++ (R ++ Y))))).map Vc.cells) (0 + (IntKind.i64.wrap (((X.length + ([] : List Vc).length : Nat) : Int) - 1)).toNat) = some y.cells := by
          have hlt : (IntKind.i64.wrap (((X.length + ([] : List Vc).length : Nat) : Int) - 1)).toNat < (X ++ (([] : List Vc) ++ (x :: (Q ++ (R ++ Y))))).length := by
            have := w64_small (x := (((X.length + ([] : List Vc).length : Nat) : Int) - 1)) (by simp only [List.length_nil]; omega) (by simp only [List.length_nil]; omega)
            unfold w64 at this
            rw [this]
            simp only [List.length_nil, List.length_append, List.length_cons]
            omega
          exact ⟨_, by rw [nth_eq, Nat.zero_add, List.getElem?_map, List.getElem?_eq_getElem hlt]; rfl⟩
        generalize (X ++ (([] : List Vc) ++ (x :: (Q ++ (R ++ Y))))).map Vc.cells = R0 at hnx hny hexit ⊢
        have h23 := c23 x y
        refine LoopW.round TT_ok [0, 1, 2, 3, 8, 9, 14, 34] ?_
        conv => whnf
        have hC : (bif decide (((X.length : Nat) : Int) < ((X.length + ([] : List Vc).length : Nat) : Int)) then decide (rnk x y < 0) else false) = false := by rw [d2]; rfl
        repeat' first
          | with_reducible rfl
          | with_reducible exact True.intro
          | with_reducible assumption
          | exact lo1
          | exact hi1
          | exact (Bool.false_ne_true (d2.symm.trans h)).elim
          | exact (Bool.false_ne_true (hC.symm.trans h)).elim
          | (refine CallP.use (h23) ?_; conv => whnf)
          | (refine ⟨_, _, CallP.at (h23), ?_⟩; conv => whnf)
          | (refine ⟨_, fun _ => h23, ?_⟩; conv => whnf)
          | assumption
          | (refine W.drawn TT_ok hmix1 rfl ?_; conv => whnf)
          | (refine W.drawnM (id := 6) 0 TT_ok hmix1 [0, 0, 0, 0, 0, 0, 0, 0, 0, 0, 0, 0, 0, 0, 0, 0, 1, 1] [0, 0, 1, 1, 1, 0, 0, 0, 0, 0, 0, 0, 0, 0, 0, 1, 1, 2] rfl ?_; conv => whnf)
          | exact absurd (show false = true from h) Bool.false_ne_true
          | exact absurd (show true = false from h) (fun e => Bool.noConfusion e)
          | exact (congrArg Bool.not h)
          | (refine ⟨_, ⟨by first | assumption | decide | omega, by first | assumption | rfl⟩, ?_⟩; conv => whnf)
          | (refine ⟨_, fun _ => ⟨by first | assumption | decide | omega, by first | assumption | rfl⟩, ?_⟩; conv => whnf)
          | exact (rfl : (_ : Nat) = _)
          | exact (rfl : (_ : LV) = _)
          | (refine ⟨fun h => ?_, fun h => ?_⟩ <;> conv => whnf)
          | (refine ⟨?_, ?_⟩ <;> conv => whnf)
          | (intro h; conv => whnf)
          | (refine gand ?_ h; assumption)
          | (rw [hnx]; conv => whnf)
          | (rw [hny]; conv => whnf)
        exact hexit (fun y hy => by cases hy) ⟨rfl, rfl, rfl, rfl, congrArg (LV.int .i64) w0, trivial⟩ rfl
      · have hPl : (P' ++ [y]).length = P'.length + 1 := by simp
        have d2 : decide (((X.length : Nat) : Int) < ((X.length + (P' ++ [y]).length : Nat) : Int)) = true := by
          rw [decide_eq_true_eq]; omega
        have e1 : IntKind.i64.wrap (((X.length + (P' ++ [y]).length : Nat) : Int) - 1) = ((X.length + P'.length : Nat) : Int) := by
          have := wsub (X.length + (P' ++ [y]).length) 1 (by omega) (by omega)
          rw [show X.length + (P' ++ [y]).length - 1 = X.length + P'.length by omega] at this
          exact this
        have hRy : Rv y := hvA y (hp.mem_iff.2 (List.mem_append_left _ (by rw [hPQ]; simp)))
        have ecur : X ++ ((P' ++ [y]) ++ (x :: (Q ++ (R ++ Y)))) = X ++ (P' ++ (y :: x :: (Q ++ (R ++ Y)))) := by simp
        have hjy : (X ++ ((P' ++ [y]) ++ (x :: (Q ++ (R ++ Y)))))[X.length + P'.length]? = some y := by
          rw [ecur, List.getElem?_append_right (by omega), List.getElem?_append_right (by omega), show X.length + P'.length - X.length - P'.length = 0 by omega]; rfl
        have hny : nth ((X ++ ((P' ++ [y]) ++ (x :: (Q ++ (R ++ Y))))).map Vc.cells) (0 + (IntKind.i64.wrap (((X.length + (P' ++ [y]).length : Nat) : Int) - 1)).toNat) = some y.cells := by
          rw [nth_eq, e1, Int.toNat_natCast, Nat.zero_add, List.getElem?_map, hjy]; rfl
        have hny2 : nth (setN ((X ++ ((P' ++ [y]) ++ (x :: (Q ++ (R ++ Y))))).map Vc.cells) (0 + ((X.length + (P' ++ [y]).length : Nat) : Int).toNat) (setL x.cells 0 [I y.r, I y.c, I y.b, I y.p])) (0 + (IntKind.i64.wrap (((X.length + (P' ++ [y]).length : Nat) : Int) - 1)).toNat) = some y.cells := by
          rw [nth_eq, setN_eq, e1, Int.toNat_natCast, Int.toNat_natCast, Nat.zero_add, Nat.zero_add, List.getElem?_set_ne (by omega), List.getElem?_map, hjy]; rfl
        have hset : setN (setN ((X ++ ((P' ++ [y]) ++ (x :: (Q ++ (R ++ Y))))).map Vc.cells) (0 + ((X.length + (P' ++ [y]).length : Nat) : Int).toNat) y.cells) (0 + (IntKind.i64.wrap (((X.length + (P' ++ [y]).length : Nat) : Int) - 1)).toNat) x.cells = (X ++ (P' ++ (x :: ((y :: Q) ++ (R ++ Y))))).map Vc.cells := by
          rw [setN_eq, setN_eq, e1, Int.toNat_natCast, Int.toNat_natCast, Nat.zero_add, Nat.zero_add, ← List.map_set, ← List.map_set, ecur, hPl]
          exact congrArg (List.map Vc.cells) (swap_adj X P' (Q ++ (R ++ Y)) x y)
        have lo2 : (IntKind.i64.wrap (((X.length + (P' ++ [y]).length : Nat) : Int) - 1) - 0).NonNeg := nn (by rw [e1]; omega)
        have hi2 : ((n : Int) - (IntKind.i64.wrap (((X.length + (P' ++ [y]).length : Nat) : Int) - 1) + 1)).NonNeg := nn (by rw [e1]; omega)
        have h23 := c23 x y
        have hnext : leV x y → ∀ {s1 : Slots} {H1 : Heap}, subC s1 (s31b n X.length (X.length + A.length) (X.length + S.length) (X.length + P'.length)) → look H1.live 0 = some (.row 31 4 ((X ++ (P' ++ (x :: ((y :: Q) ++ (R ++ Y))))).map Vc.cells)) → LoopW Try.prog Try.f31.ntmps 1 _ _ s1 H1 := fun hxy {s1} {H1} h1 h2 =>
          LoopW.norm (s31b n X.length (X.length + A.length) (X.length + S.length) (X.length + P'.length)) 1 [(0, .row 31 4 ((X ++ (P' ++ (x :: ((y :: Q) ++ (R ++ Y))))).map Vc.cells))] h1 (hpS _ h2) ⟨rfl, trivial, trivial, ⟨trivial, trivial⟩, trivial, trivial, trivial⟩ rfl
            (ih2 P'.length _ _ ⟨P', y :: Q, ⟨rfl, by rw [hPQ]; simp, fun q hq => by
              rcases List.mem_cons.1 hq with rfl | hq
              · exact hxy
              · exact hQ q hq⟩, rfl, rfl⟩ (by omega))
        clear ih2 ih
        generalize (X ++ ((P' ++ [y]) ++ (x :: (Q ++ (R ++ Y))))).map Vc.cells = R0 at hnx hny hny2 hset hexit ⊢
        by_cases hlt : ltV x y
        · have hC : (bif decide (((X.length : Nat) : Int) < ((X.length + (P' ++ [y]).length : Nat) : Int)) then decide (rnk x y < 0) else false) = true := by
            rw [d2, cond_true, decide_eq_true_eq]; exact (rnk_lt hRx hRy).2 hlt
          refine LoopW.round TT_ok [0, 1, 2, 3, 8, 9, 14, 34] ?_
          conv => whnf
          repeat' first
            | with_reducible rfl
            | with_reducible exact True.intro
            | with_reducible assumption
            | exact lo1
            | exact hi1
            | exact lo2
            | exact hi2
            | exact (Bool.false_ne_true (h.symm.trans hC)).elim
            | (refine CallP.use (h23) ?_; conv => whnf)
            | (refine ⟨_, _, CallP.at (h23), ?_⟩; conv => whnf)
            | (refine ⟨_, fun _ => h23, ?_⟩; conv => whnf)
            | assumption
            | (refine W.drawn TT_ok hmix1 rfl ?_; conv => whnf)
            | (refine W.drawnM (id := 6) 0 TT_ok hmix1 [0, 0, 0, 0, 0, 0, 0, 0, 0, 0, 0, 0, 0, 0, 0, 0, 1, 1] [0, 0, 1, 1, 1, 0, 0, 0, 0, 0, 0, 0, 0, 0, 0, 1, 1, 2] rfl ?_; conv => whnf)
            | exact absurd (show false = true from h) Bool.false_ne_true
            | exact absurd (show true = false from h) (fun e => Bool.noConfusion e)
            | exact (congrArg Bool.not h)
            | (refine ⟨_, ⟨by first | assumption | decide | omega, by first | assumption | rfl⟩, ?_⟩; conv => whnf)
            | (refine ⟨_, fun _ => ⟨by first | assumption | decide | omega, by first | assumption | rfl⟩, ?_⟩; conv => whnf)
            | exact (rfl : (_ : Nat) = _)
            | exact (rfl : (_ : LV) = _)
            | (refine ⟨fun h => ?_, fun h => ?_⟩ <;> conv => whnf)
            | (refine ⟨?_, ?_⟩ <;> conv => whnf)
            | (intro h; conv => whnf)
            | (refine gand ?_ h; assumption)
            | (rw [hnx]; conv => whnf)
            | (rw [hny]; conv => whnf)
            | (rw [hny2]; conv => whnf)
          exact hnext (ltV_le hlt) ⟨rfl, rfl, rfl, rfl, rfl, congrArg (LV.int .i64) e1, trivial⟩ (congrArg (fun r => some (Blk.row 31 4 r)) hset)
        · have hC : (bif decide (((X.length : Nat) : Int) < ((X.length + (P' ++ [y]).length : Nat) : Int)) then decide (rnk x y < 0) else false) = false := by
            rw [d2, cond_true, decide_eq_false_iff_not]; exact fun hh => hlt ((rnk_lt hRx hRy).1 hh)
          refine LoopW.round TT_ok [0, 1, 2, 3, 8, 9, 14, 34] ?_
          conv => whnf
          repeat' first
            | with_reducible rfl
            | with_reducible exact True.intro
            | with_reducible assumption
            | exact lo1
            | exact hi1
            | exact lo2
            | exact hi2
            | exact (Bool.false_ne_true (hC.symm.trans h)).elim
            | (refine CallP.use (h23) ?_; conv => whnf)
            | (refine ⟨_, _, CallP.at (h23), ?_⟩; conv => whnf)
            | (refine ⟨_, fun _ => h23, ?_⟩; conv => whnf)
            | assumption
            | (refine W.drawn TT_ok hmix1 rfl ?_; conv => whnf)
            | (refine W.drawnM (id := 6) 0 TT_ok hmix1 [0, 0, 0, 0, 0, 0, 0, 0, 0, 0, 0, 0, 0, 0, 0, 0, 1, 1] [0, 0, 1, 1, 1, 0, 0, 0, 0, 0, 0, 0, 0, 0, 0, 1, 1, 2] rfl ?_; conv => whnf)
            | exact absurd (show false = true from h) Bool.false_ne_true
            | exact absurd (show true = false from h) (fun e => Bool.noConfusion e)
            | exact (congrArg Bool.not h)
            | (refine ⟨_, ⟨by first | assumption | decide | omega, by first | assumption | rfl⟩, ?_⟩; conv => whnf)
            | (refine ⟨_, fun _ => ⟨by first | assumption | decide | omega, by first | assumption | rfl⟩, ?_⟩; conv => whnf)
            | exact (rfl : (_ : Nat) = _)
            | exact (rfl : (_ : LV) = _)
            | (refine ⟨fun h => ?_, fun h => ?_⟩ <;> conv => whnf)
            | (refine ⟨?_, ?_⟩ <;> conv => whnf)
            | (intro h; conv => whnf)
            | (refine gand ?_ h; assumption)
            | (rw [hnx]; conv => whnf)
            | (rw [hny]; conv => whnf)
          exact hexit (fun z hz => by
            rw [List.getLast?_append] at hz
            cases hz
            exact hlt) ⟨rfl, rfl, rfl, rfl, congrArg (LV.int .i64) w0, trivial⟩ rfl
end Go.RX

