/- Contracts of the sort: symMerge, many against one. -/
import Derived.Test.YtogomcndhipoeaaTyf
set_option linter.unusedVariables false
set_option linter.unusedSimpArgs false
open Go Go.RX Go.Proofs
namespace Go.RX
set_option maxRecDepth 10000
set_option maxHeartbeats 400000
attribute [local irreducible] CallW CallP LoopW W IntKind.wrap rankL Int.fdiv
abbrev s32c (n m i j : Nat) : Slots := [(0, .sl 0 0 n), (2, I m), (4, cmpF), (14, I i), (15, I j)]
abbrev s32d (n i k : Nat) : Slots := [(0, .sl 0 0 n), (14, I i), (17, I k)]
theorem c32b (X A : List Vc) (x : Vc) (Y : List Vc) (n : Nat) (hn : n = (X ++ (A ++ ([x] ++ Y))).length) (hl : n ≤ 1000) (hv : ∀ v ∈ X ++ (A ++ ([x] ++ Y)), Rv v) (hA : 2 ≤ A.length) {K : LV → Heap → Prop}
    (h : ∀ S, Mrg leV A [x] S → K (.tup []) (hpV (X ++ (S ++ Y)))) : CallW Try.prog 32 [.sl 0 0 n, I ((X.length : Nat) : Int), I ((X.length + A.length : Nat) : Int), I ((X.length + A.length + 1 : Nat) : Int), cmpF] (hpV (X ++ (A ++ ([x] ++ Y)))) K := by
  have hK := h
  clear h
  have hnl : n = X.length + A.length + 1 + Y.length := by rw [hn]; simp only [List.length_append, List.length_singleton]; omega
  have d0 : decide (IntKind.i64.wrap (((X.length + A.length : Nat) : Int) - ((X.length : Nat) : Int)) = 1) = false := by
    rw [wsub _ _ (by omega) (by omega), decide_eq_false_iff_not]; omega
  have d00 : decide (IntKind.i64.wrap (((X.length + A.length + 1 : Nat) : Int) - ((X.length + A.length : Nat) : Int)) = 1) = true := by
    rw [wsub _ _ (by omega) (by omega), decide_eq_true_eq]; omega
  have hx0 : (X ++ (A ++ ([x] ++ Y)))[X.length + A.length]? = some x := by
    rw [List.getElem?_append_right (by omega), List.getElem?_append_right (by omega), show X.length + A.length - X.length - A.length = 0 by omega]; rfl
  have hRx : Rv x := hv x (by simp)
  generalize hL : X ++ (A ++ ([x] ++ Y)) = l at hn hv hx0
  have hnx : nth (l.map Vc.cells) (0 + ((X.length + A.length : Nat) : Int).toNat) = some x.cells := by
    rw [nth_eq, Int.toNat_natCast, Nat.zero_add, List.getElem?_map, hx0]; rfl
  have lo1 : (((X.length + A.length : Nat) : Int) - 0).NonNeg := Int.natCast_nonneg _
  have hi1 : ((n : Int) - (((X.length + A.length : Nat) : Int) + 1)).NonNeg := nn (by omega)
  refine CallW.intro TT_ok Try.func32 rfl rfl [0, 1, 2, 3, 4, 10, 11, 12, 13, 14, 15, 16, 17, 18, 19, 20, 21, 22, 23, 24, 28, 33, 50, 58, 80, 85, 103, 110, 140, 151, 171, 185, 199, 213] rfl ?_
  conv => whnf
  repeat' first
    | with_reducible rfl
    | with_reducible exact True.intro
    | with_reducible assumption
    | exact (Bool.false_ne_true (d0.symm.trans h)).elim
    | exact (Bool.false_ne_true (h.symm.trans d00)).elim
    | assumption
    | (refine W.drawn TT_ok hmix1 rfl ?_; conv => whnf)
    | (refine W.drawnM (id := 11) 0 TT_ok hmix1 [0, 0, 0, 0, 0, 0, 0, 0, 0, 0, 0, 0, 0, 0, 0, 0, 1, 1] [0, 0, 1, 1, 1, 0, 0, 0, 0, 0, 0, 0, 0, 0, 0, 1, 1, 2] rfl ?_; conv => whnf)
    | (refine W.drawnM (id := 23) 0 TT_ok hmix1 [0, 0, 0, 0, 0, 0, 0, 0, 0, 0, 0, 0, 0, 0, 0, 0, 1, 1] [0, 0, 1, 1, 1, 0, 0, 0, 0, 0, 0, 0, 0, 0, 0, 1, 1, 2] rfl ?_; conv => whnf)
    | exact absurd (show false = true from h) Bool.false_ne_true
    | exact absurd (show true = false from h) (fun e => Bool.noConfusion e)
    | exact (congrArg Bool.not h)
    | (refine ⟨_, ⟨by first | assumption | decide | omega, by first | assumption | rfl⟩, ?_⟩; conv => whnf)
    | (refine ⟨_, fun _ => ⟨by first | assumption | decide | omega, by first | assumption | rfl⟩, ?_⟩; conv => whnf)
    | exact (rfl : (_ : Nat) = _)
    | exact (rfl : (_ : LV) = _)
    | (refine ⟨fun h => ?_, fun h => ?_⟩ <;> conv => whnf)
    | (refine ⟨?_, ?_⟩ <;> conv => whnf)
    | (intro h; conv => whnf)
    | (refine gand ?_ h; assumption)
  refine LoopW.norm (s32c n (X.length + A.length) X.length (X.length + A.length)) 1 [(0, .row 31 4 (l.map Vc.cells))] ⟨rfl, rfl, rfl, rfl, rfl, trivial⟩ (hpS _ rfl) ⟨rfl, trivial, ⟨trivial, trivial⟩, trivial, trivial, trivial⟩ rfl ?_
  refine LoopW.ind (α := Nat × Nat) (fun q => q.2 - q.1) (fun q s' H => (X.length ≤ q.1 ∧ q.1 ≤ q.2 ∧ q.2 ≤ X.length + A.length ∧ (q.1 = X.length ∨ ∃ y, l[q.1 - 1]? = some y ∧ ¬ ltV x y) ∧ (q.2 = X.length + A.length ∨ ∃ y, l[q.2]? = some y ∧ ltV x y)) ∧ s' = s32c n (X.length + A.length) q.1 q.2 ∧ H = hpV l) ?_ (a := (X.length, X.length + A.length)) ⟨⟨Nat.le_refl _, by simp, Nat.le_refl _, .inl rfl, .inl rfl⟩, rfl, rfl⟩
  rintro ⟨i, j⟩ s' H ⟨⟨h1, h2, h3, h4, h5⟩, rfl, rfl⟩ ih
  simp only at h1 h2 h3 h4 h5 ih ⊢
  change LoopW _ _ _ _ _ _ ⟨1, [(0, .row 31 4 (l.map Vc.cells))]⟩
  by_cases hij : i < j
  · have d1 : decide ((i : Int) < (j : Int)) = true := by rw [decide_eq_true_eq]; omega
    have hm := wmid i j (by omega) (by omega)
    have hhl : (i + j) / 2 < l.length := by omega
    have hy := List.getElem?_eq_getElem hhl
    have hRy : Rv l[(i + j) / 2] := hv _ (List.getElem_mem hhl)
    generalize l[(i + j) / 2] = y at hy hRy
    have h23 := c23 x y
    generalize hH : IntKind.i64.wrap ((IntKind.u64.wrap (IntKind.i64.wrap ((i : Int) + (j : Int)))).fdiv (2 ^ min (Int.toNat 1) IntKind.u64.bits)) = hh at hm
    have hny : nth (l.map Vc.cells) (0 + hh.toNat) = some y.cells := by
      rw [nth_eq, hm, Int.toNat_natCast, Nat.zero_add, List.getElem?_map, hy]; rfl
    have lo2 : (hh - 0).NonNeg := nn (by rw [hm]; omega)
    have hi2 : ((n : Int) - (hh + 1)).NonNeg := nn (by rw [hm]; omega)
    have wh : IntKind.i64.wrap (hh + 1) = (((i + j) / 2 + 1 : Nat) : Int) := by rw [hm]; exact w64_nat _ (by omega)
    have hnext : ∀ (i' j' : Nat), (X.length ≤ i' ∧ i' ≤ j' ∧ j' ≤ X.length + A.length ∧ (i' = X.length ∨ ∃ y, l[i' - 1]? = some y ∧ ¬ ltV x y) ∧ (j' = X.length + A.length ∨ ∃ y, l[j']? = some y ∧ ltV x y)) → j' - i' < j - i → ∀ {s1 : Slots} {H1 : Heap}, subC s1 (s32c n (X.length + A.length) i' j') → look H1.live 0 = some (.row 31 4 (l.map Vc.cells)) → LoopW Try.prog Try.f32.ntmps 1 _ _ s1 H1 := fun i' j' hI hlt {s1} {H1} h1 h2 =>
      LoopW.norm (s32c n (X.length + A.length) i' j') 1 [(0, .row 31 4 (l.map Vc.cells))] h1 (hpS _ h2) ⟨rfl, trivial, ⟨trivial, trivial⟩, trivial, trivial, trivial⟩ rfl (ih (i', j') _ _ ⟨hI, rfl, rfl⟩ hlt)
    clear ih
    generalize l.map Vc.cells = R at hnx hny hnext ⊢
    subst hH
    by_cases hlt : ltV x y
    · have hC : (!decide (rnk x y < 0)) = false := by rw [decide_eq_true ((rnk_lt hRx hRy).2 hlt)]; rfl
      refine LoopW.round TT_ok [0, 1, 2, 3, 4, 10, 11, 12, 13, 14, 15, 16, 17, 18, 19, 20, 21, 22, 23, 24, 28, 33, 50, 58, 80, 85, 103, 110, 140, 151, 171, 185, 199, 213] ?_
      conv => whnf
      repeat' first
        | with_reducible rfl
        | with_reducible exact True.intro
        | with_reducible assumption
        | exact lo1
        | exact hi1
        | exact lo2
        | exact hi2
        | exact nn (by decide)
        | exact (Bool.false_ne_true (h.symm.trans d1)).elim
        | exact (Bool.false_ne_true (hC.symm.trans h)).elim
        | (refine CallP.use (h23) ?_; conv => whnf)
        | (refine ⟨_, _, CallP.at (h23), ?_⟩; conv => whnf)
        | (refine ⟨_, fun _ => h23, ?_⟩; conv => whnf)
        | assumption
        | (refine W.drawn TT_ok hmix1 rfl ?_; conv => whnf)
        | (refine W.drawnM (id := 11) 0 TT_ok hmix1 [0, 0, 0, 0, 0, 0, 0, 0, 0, 0, 0, 0, 0, 0, 0, 0, 1, 1] [0, 0, 1, 1, 1, 0, 0, 0, 0, 0, 0, 0, 0, 0, 0, 1, 1, 2] rfl ?_; conv => whnf)
        | (refine W.drawnM (id := 23) 0 TT_ok hmix1 [0, 0, 0, 0, 0, 0, 0, 0, 0, 0, 0, 0, 0, 0, 0, 0, 1, 1] [0, 0, 1, 1, 1, 0, 0, 0, 0, 0, 0, 0, 0, 0, 0, 1, 1, 2] rfl ?_; conv => whnf)
        | exact absurd (show false = true from h) Bool.false_ne_true
        | exact absurd (show true = false from h) (fun e => Bool.noConfusion e)
        | exact (congrArg Bool.not h)
        | (refine ⟨_, ⟨by first | assumption | decide | omega, by first | assumption | rfl⟩, ?_⟩; conv => whnf)
        | (refine ⟨_, fun _ => ⟨by first | assumption | decide | omega, by first | assumption | rfl⟩, ?_⟩; conv => whnf)
        | exact (rfl : (_ : Nat) = _)
        | exact (rfl : (_ : LV) = _)
        | (refine ⟨fun h => ?_, fun h => ?_⟩ <;> conv => whnf)
        | (refine ⟨?_, ?_⟩ <;> conv => whnf)
        | (intro h; conv => whnf)
        | (refine gand ?_ h; assumption)
        | (rw [hnx]; conv => whnf)
        | (rw [hny]; conv => whnf)
      exact hnext i ((i + j) / 2) ⟨h1, by omega, by omega, h4, .inr ⟨y, hy, hlt⟩⟩ (by omega) ⟨rfl, rfl, rfl, rfl, congrArg (LV.int .i64) hm, trivial⟩ rfl
    · have hC : (!decide (rnk x y < 0)) = true := by rw [decide_eq_false (fun hh => hlt ((rnk_lt hRx hRy).1 hh))]; rfl
      refine LoopW.round TT_ok [0, 1, 2, 3, 4, 10, 11, 12, 13, 14, 15, 16, 17, 18, 19, 20, 21, 22, 23, 24, 28, 33, 50, 58, 80, 85, 103, 110, 140, 151, 171, 185, 199, 213] ?_
      conv => whnf
      repeat' first
        | with_reducible rfl
        | with_reducible exact True.intro
        | with_reducible assumption
        | exact lo1
        | exact hi1
        | exact lo2
        | exact hi2
        | exact nn (by decide)
        | exact (Bool.false_ne_true (h.symm.trans d1)).elim
        | exact (Bool.false_ne_true (h.symm.trans hC)).elim
        | (refine CallP.use (h23) ?_; conv => whnf)
        | (refine ⟨_, _, CallP.at (h23), ?_⟩; conv => whnf)
        | (refine ⟨_, fun _ => h23, ?_⟩; conv => whnf)
        | assumption
        | (refine W.drawn TT_ok hmix1 rfl ?_; conv => whnf)
        | (refine W.drawnM (id := 11) 0 TT_ok hmix1 [0, 0, 0, 0, 0, 0, 0, 0, 0, 0, 0, 0, 0, 0, 0, 0, 1, 1] [0, 0, 1, 1, 1, 0, 0, 0, 0, 0, 0, 0, 0, 0, 0, 1, 1, 2] rfl ?_; conv => whnf)
        | (refine W.drawnM (id := 23) 0 TT_ok hmix1 [0, 0, 0, 0, 0, 0, 0, 0, 0, 0, 0, 0, 0, 0, 0, 0, 1, 1] [0, 0, 1, 1, 1, 0, 0, 0, 0, 0, 0, 0, 0, 0, 0, 1, 1, 2] rfl ?_; conv => whnf)
        | exact absurd (show false = true from h) Bool.false_ne_true
        | exact absurd (show true = false from h) (fun e => Bool.noConfusion e)
        | exact (congrArg Bool.not h)
        | (refine ⟨_, ⟨by first | assumption | decide | omega, by first | assumption | rfl⟩, ?_⟩; conv => whnf)
        | (refine ⟨_, fun _ => ⟨by first | assumption | decide | omega, by first | assumption | rfl⟩, ?_⟩; conv => whnf)
        | exact (rfl : (_ : Nat) = _)
        | exact (rfl : (_ : LV) = _)
        | (refine ⟨fun h => ?_, fun h => ?_⟩ <;> conv => whnf)
        | (refine ⟨?_, ?_⟩ <;> conv => whnf)
        | (intro h; conv => whnf)
        | (refine gand ?_ h; assumption)
        | (rw [hnx]; conv => whnf)
        | (rw [hny]; conv => whnf)
      exact hnext ((i + j) / 2 + 1) j ⟨by omega, by omega, h3, .inr ⟨y, hy, hlt⟩, h5⟩ (by omega) ⟨rfl, rfl, rfl, congrArg (LV.int .i64) wh, rfl, trivial⟩ rfl
  · have d1 : decide ((i : Int) < (j : Int)) = false := by rw [decide_eq_false_iff_not]; omega
    obtain rfl : i = j := by omega
    clear ih hij
    obtain ⟨u, rfl⟩ : ∃ u, i = X.length + u := ⟨i - X.length, by omega⟩
    have hAu : A = A.take u ++ A.drop u := (List.take_append_drop u A).symm
    have hul : (A.take u).length = u := by rw [List.length_take]; omega
    have hdl : (A.drop u).length = A.length - u := by rw [List.length_drop]
    have hM : Mrg leV A [x] (A.take u ++ x :: A.drop u) := by
      have e1 : l = X ++ (A.take u ++ (A.drop u ++ ([x] ++ Y))) := by rw [← hL, ← List.append_assoc (A.take u), List.take_append_drop]
      have e2 : l = (X ++ A.take u) ++ (A.drop u ++ ([x] ++ Y)) := by rw [e1]; simp
      have := Mrg.insR' leV_refl leV_trans (x := x) (A1 := A.take u) (A2 := A.drop u) (fun y hy => by
        obtain ⟨p1, p2⟩ := last_at (X := X) (Y := A.drop u ++ ([x] ++ Y)) hy
        rw [← e1] at p2
        rcases h4 with h4 | ⟨z, hz, hzx⟩
        · omega
        · rw [hul, hz] at p2
          cases p2
          exact hzx) (fun y hy => by
        obtain ⟨p1, p2⟩ := head_at (X := X ++ A.take u) (Y := [x] ++ Y) hy
        rw [← e2] at p2
        rw [List.length_drop] at p1
        rcases h5 with h5 | ⟨z, hz, hzx⟩
        · omega
        · rw [List.length_append, hul, hz] at p2
          cases p2
          exact ltV_le hzx)
      rw [← hAu] at this
      exact this
    have hL2 : l = (X ++ A.take u) ++ (A.drop u ++ (x :: (([] : List Vc) ++ Y))) := by
      rw [List.append_assoc X, ← List.append_assoc (A.take u), List.take_append_drop, ← hL]
      rfl
    refine LoopW.round TT_ok [0, 1, 2, 3, 4, 10, 11, 12, 13, 14, 15, 16, 17, 18, 19, 20, 21, 22, 23, 24, 28, 33, 50, 58, 80, 85, 103, 110, 140, 151, 171, 185, 199, 213] ?_
    conv => whnf
    repeat' first
      | with_reducible rfl
      | with_reducible exact True.intro
      | with_reducible assumption
      | exact (Bool.false_ne_true (d1.symm.trans h)).elim
      | assumption
      | (refine W.drawn TT_ok hmix1 rfl ?_; conv => whnf)
      | (refine W.drawnM (id := 11) 0 TT_ok hmix1 [0, 0, 0, 0, 0, 0, 0, 0, 0, 0, 0, 0, 0, 0, 0, 0, 1, 1] [0, 0, 1, 1, 1, 0, 0, 0, 0, 0, 0, 0, 0, 0, 0, 1, 1, 2] rfl ?_; conv => whnf)
      | (refine W.drawnM (id := 23) 0 TT_ok hmix1 [0, 0, 0, 0, 0, 0, 0, 0, 0, 0, 0, 0, 0, 0, 0, 0, 1, 1] [0, 0, 1, 1, 1, 0, 0, 0, 0, 0, 0, 0, 0, 0, 0, 1, 1, 2] rfl ?_; conv => whnf)
      | exact absurd (show false = true from h) Bool.false_ne_true
      | exact absurd (show true = false from h) (fun e => Bool.noConfusion e)
      | exact (congrArg Bool.not h)
      | (refine ⟨_, ⟨by first | assumption | decide | omega, by first | assumption | rfl⟩, ?_⟩; conv => whnf)
      | (refine ⟨_, fun _ => ⟨by first | assumption | decide | omega, by first | assumption | rfl⟩, ?_⟩; conv => whnf)
      | exact (rfl : (_ : Nat) = _)
      | exact (rfl : (_ : LV) = _)
      | (refine ⟨fun h => ?_, fun h => ?_⟩ <;> conv => whnf)
      | (refine ⟨?_, ?_⟩ <;> conv => whnf)
      | (intro h; conv => whnf)
      | (refine gand ?_ h; assumption)
    refine LoopW.norm (s32d n (X.length + u) (X.length + A.length)) 1 [(0, .row 31 4 (l.map Vc.cells))] ⟨rfl, rfl, rfl, trivial⟩ (hpS _ rfl) ⟨rfl, trivial, trivial, trivial⟩ rfl ?_
    clear hnx lo1 hi1 h1 h2 h4 h5 d1
    generalize hZ : X ++ A.take u = Z at hL2
    have hZl : Z.length = X.length + u := by rw [← hZ, List.length_append, hul]
    refine LoopW.ind (α := Nat) (fun q => q) (fun q s' H => ∃ P Q : List Vc, (P.length = q ∧ A.drop u = P ++ Q) ∧ s' = s32d n (X.length + u) (Z.length + P.length) ∧ H = hpV (Z ++ (P ++ (x :: (Q ++ Y))))) ?_ (a := (A.drop u).length) ⟨A.drop u, [], ⟨rfl, (List.append_nil _).symm⟩, by rw [hZl, hdl, show X.length + u + (A.length - u) = X.length + A.length by omega], by rw [← hL2]⟩
    rintro q s' H ⟨P, Q, ⟨rfl, hPQ⟩, rfl, rfl⟩ ih
    have hpq : A.length - u = P.length + Q.length := by rw [← hdl, hPQ, List.length_append]
    have hcc : P = [] ∨ ∃ P' y, P = P' ++ [y] := by
      rcases List.eq_nil_or_concat P with h | ⟨P', y, h⟩
      · exact .inl h
      · exact .inr ⟨P', y, by rw [h, List.concat_eq_append]⟩
    rcases hcc with rfl | ⟨P', y, rfl⟩
    · have d2 : decide (((X.length + u : Nat) : Int) < ((Z.length + ([] : List Vc).length : Nat) : Int)) = false := by
        rw [decide_eq_false_iff_not, hZl]; simp only [List.length_nil]; omega
      rw [List.nil_append] at hPQ
      have hfin := hK _ hM
      rw [hPQ] at hfin
      have efin : Z ++ (([] : List Vc) ++ (x :: (Q ++ Y))) = X ++ ((A.take u ++ x :: Q) ++ Y) := by rw [← hZ]; simp
      rw [efin]
      refine LoopW.round TT_ok [0, 1, 2, 3, 4, 10, 11, 12, 13, 14, 15, 16, 17, 18, 19, 20, 21, 22, 23, 24, 28, 33, 50, 58, 80, 85, 103, 110, 140, 151, 171, 185, 199, 213] ?_
      conv => whnf
      repeat' first
        | with_reducible rfl
        | with_reducible exact True.intro
        | with_reducible assumption
        | exact (Bool.false_ne_true (d2.symm.trans h)).elim
        | exact hfin
        | assumption
        | (refine W.drawn TT_ok hmix1 rfl ?_; conv => whnf)
        | (refine W.drawnM (id := 11) 0 TT_ok hmix1 [0, 0, 0, 0, 0, 0, 0, 0, 0, 0, 0, 0, 0, 0, 0, 0, 1, 1] [0, 0, 1, 1, 1, 0, 0, 0, 0, 0, 0, 0, 0, 0, 0, 1, 1, 2] rfl ?_; conv => whnf)
        | (refine W.drawnM (id := 23) 0 TT_ok hmix1 [0, 0, 0, 0, 0, 0, 0, 0, 0, 0, 0, 0, 0, 0, 0, 0, 1, 1] [0, 0, 1, 1, 1, 0, 0, 0, 0, 0, 0, 0, 0, 0, 0, 1, 1, 2] rfl ?_; conv => whnf)
        | exact absurd (show false = true from h) Bool.false_ne_true
        | exact absurd (show true = false from h) (fun e => Bool.noConfusion e)
        | exact (congrArg Bool.not h)
        | (refine ⟨_, ⟨by first | assumption | decide | omega, by first | assumption | rfl⟩, ?_⟩; conv => whnf)
        | (refine ⟨_, fun _ => ⟨by first | assumption | decide | omega, by first | assumption | rfl⟩, ?_⟩; conv => whnf)
        | exact (rfl : (_ : Nat) = _)
        | exact (rfl : (_ : LV) = _)
        | (refine ⟨fun h => ?_, fun h => ?_⟩ <;> conv => whnf)
        | (refine ⟨?_, ?_⟩ <;> conv => whnf)
        | (intro h; conv => whnf)
        | (refine gand ?_ h; assumption)
      all_goals skip
    · have hPl : (P' ++ [y]).length = P'.length + 1 := by simp
      have hb0 : Z.length + (P' ++ [y]).length + 1 ≤ n := by rw [hZl, hnl]; omega
      have d2 : decide (((X.length + u : Nat) : Int) < ((Z.length + (P' ++ [y]).length : Nat) : Int)) = true := by
        rw [decide_eq_true_eq, hZl]; omega
      have e1 : IntKind.i64.wrap (((Z.length + (P' ++ [y]).length : Nat) : Int) - 1) = ((Z.length + P'.length : Nat) : Int) := by
        have := wsub (Z.length + (P' ++ [y]).length) 1 (by omega) (by omega)
        rw [show Z.length + (P' ++ [y]).length - 1 = Z.length + P'.length by omega] at this
        exact this
      have ecur : Z ++ ((P' ++ [y]) ++ (x :: (Q ++ Y))) = Z ++ (P' ++ (y :: x :: (Q ++ Y))) := by simp
      have hjx : (Z ++ ((P' ++ [y]) ++ (x :: (Q ++ Y))))[Z.length + (P' ++ [y]).length]? = some x := by
        rw [List.getElem?_append_right (by omega), List.getElem?_append_right (by omega), show Z.length + (P' ++ [y]).length - Z.length - (P' ++ [y]).length = 0 by omega]; rfl
      have hjy : (Z ++ ((P' ++ [y]) ++ (x :: (Q ++ Y))))[Z.length + P'.length]? = some y := by
        rw [ecur, List.getElem?_append_right (by omega), List.getElem?_append_right (by omega), show Z.length + P'.length - Z.length - P'.length = 0 by omega]; rfl
      have hnx : nth ((Z ++ ((P' ++ [y]) ++ (x :: (Q ++ Y)))).map Vc.cells) (0 + ((Z.length + (P' ++ [y]).length : Nat) : Int).toNat) = some x.cells := by
        rw [nth_eq, Int.toNat_natCast, Nat.zero_add, List.getElem?_map, hjx]; rfl
      have hny : nth ((Z ++ ((P' ++ [y]) ++ (x :: (Q ++ Y)))).map Vc.cells) (0 + (IntKind.i64.wrap (((Z.length + (P' ++ [y]).length : Nat) : Int) - 1)).toNat) = some y.cells := by
        rw [nth_eq, e1, Int.toNat_natCast, Nat.zero_add, List.getElem?_map, hjy]; rfl
      have hny2 : nth (setN ((Z ++ ((P' ++ [y]) ++ (x :: (Q ++ Y)))).map Vc.cells) (0 + ((Z.length + (P' ++ [y]).length : Nat) : Int).toNat) (setL x.cells 0 [I y.r, I y.c, I y.b, I y.p])) (0 + (IntKind.i64.wrap (((Z.length + (P' ++ [y]).length : Nat) : Int) - 1)).toNat) = some y.cells := by
        rw [nth_eq, setN_eq, e1, Int.toNat_natCast, Int.toNat_natCast, Nat.zero_add, Nat.zero_add, List.getElem?_set_ne (by omega), List.getElem?_map, hjy]; rfl
      have hset : setN (setN ((Z ++ ((P' ++ [y]) ++ (x :: (Q ++ Y)))).map Vc.cells) (0 + ((Z.length + (P' ++ [y]).length : Nat) : Int).toNat) y.cells) (0 + (IntKind.i64.wrap (((Z.length + (P' ++ [y]).length : Nat) : Int) - 1)).toNat) x.cells = (Z ++ (P' ++ (x :: ((y :: Q) ++ Y)))).map Vc.cells := by
        rw [setN_eq, setN_eq, e1, Int.toNat_natCast, Int.toNat_natCast, Nat.zero_add, Nat.zero_add, ← List.map_set, ← List.map_set, ecur, hPl]
        exact congrArg (List.map Vc.cells) (swap_adj Z P' (Q ++ Y) x y)
      have lo1 : (((Z.length + (P' ++ [y]).length : Nat) : Int) - 0).NonNeg := Int.natCast_nonneg _
      have hi1 : ((n : Int) - (((Z.length + (P' ++ [y]).length : Nat) : Int) + 1)).NonNeg := nn (by omega)
      have lo2 : (IntKind.i64.wrap (((Z.length + (P' ++ [y]).length : Nat) : Int) - 1) - 0).NonNeg := nn (by rw [e1]; omega)
      have hi2 : ((n : Int) - (IntKind.i64.wrap (((Z.length + (P' ++ [y]).length : Nat) : Int) - 1) + 1)).NonNeg := nn (by rw [e1]; omega)
      have hnext : ∀ {s1 : Slots} {H1 : Heap}, subC s1 (s32d n (X.length + u) (Z.length + P'.length)) → look H1.live 0 = some (.row 31 4 ((Z ++ (P' ++ (x :: ((y :: Q) ++ Y)))).map Vc.cells)) → LoopW Try.prog Try.f32.ntmps 1 _ _ s1 H1 := fun {s1} {H1} h1 h2 =>
        LoopW.norm (s32d n (X.length + u) (Z.length + P'.length)) 1 [(0, .row 31 4 ((Z ++ (P' ++ (x :: ((y :: Q) ++ Y)))).map Vc.cells))] h1 (hpS _ h2) ⟨rfl, trivial, trivial, trivial⟩ rfl
          (ih P'.length _ _ ⟨P', y :: Q, ⟨rfl, by rw [hPQ]; simp⟩, rfl, rfl⟩ (by omega))
      clear ih
      change LoopW _ _ _ _ _ _ ⟨1, [(0, .row 31 4 ((Z ++ ((P' ++ [y]) ++ (x :: (Q ++ Y)))).map Vc.cells))]⟩
      generalize (Z ++ ((P' ++ [y]) ++ (x :: (Q ++ Y)))).map Vc.cells = R0 at hnx hny hny2 hset ⊢
      refine LoopW.round TT_ok [0, 1, 2, 3, 4, 10, 11, 12, 13, 14, 15, 16, 17, 18, 19, 20, 21, 22, 23, 24, 28, 33, 50, 58, 80, 85, 103, 110, 140, 151, 171, 185, 199, 213] ?_
      conv => whnf
      repeat' first
        | with_reducible rfl
        | with_reducible exact True.intro
        | with_reducible assumption
        | exact lo1
        | exact hi1
        | exact lo2
        | exact hi2
        | exact (Bool.false_ne_true (h.symm.trans d2)).elim
        | assumption
        | (refine W.drawn TT_ok hmix1 rfl ?_; conv => whnf)
        | (refine W.drawnM (id := 11) 0 TT_ok hmix1 [0, 0, 0, 0, 0, 0, 0, 0, 0, 0, 0, 0, 0, 0, 0, 0, 1, 1] [0, 0, 1, 1, 1, 0, 0, 0, 0, 0, 0, 0, 0, 0, 0, 1, 1, 2] rfl ?_; conv => whnf)
        | (refine W.drawnM (id := 23) 0 TT_ok hmix1 [0, 0, 0, 0, 0, 0, 0, 0, 0, 0, 0, 0, 0, 0, 0, 0, 1, 1] [0, 0, 1, 1, 1, 0, 0, 0, 0, 0, 0, 0, 0, 0, 0, 1, 1, 2] rfl ?_; conv => whnf)
        | exact absurd (show false = true from h) Bool.false_ne_true
        | exact absurd (show true = false from h) (fun e => Bool.noConfusion e)
        | exact (congrArg Bool.not h)
        | (refine ⟨_, ⟨by first | assumption | decide | omega, by first | assumption | rfl⟩, ?_⟩; conv => whnf)
        | (refine ⟨_, fun _ => ⟨by first | assumption | decide | omega, by first | assumption | rfl⟩, ?_⟩; conv => whnf)
        | exact (rfl : (_ : Nat) = _)
        | exact (rfl : (_ : LV) = _)
        | (refine ⟨fun h => ?_, fun h => ?_⟩ <;> conv => whnf)
        | (refine ⟨?_, ?_⟩ <;> conv => whnf)
        | (intro h; conv => whnf)
        | (refine gand ?_ h; assumption)
        | (rw [hnx]; conv => whnf)
        | (rw [hny]; conv => whnf)
        | (rw [hny2]; conv => whnf)
      exact hnext ⟨rfl, rfl, congrArg (LV.int .i64) e1, trivial⟩ (congrArg (fun r => some (Blk.row 31 4 r)) hset)
end Go.RX

