/- Contracts of the sort: symMerge, one against many. -/
import Derived.Test.YtogomcndhipoeaaTye
set_option linter.unusedVariables false
set_option linter.unusedSimpArgs false
open Go Go.RX Go.Proofs
namespace Go.RX
set_option maxRecDepth 10000
set_option maxHeartbeats 400000
theorem wmid (a b : Nat) (ha : a ≤ 100000) (hb : b ≤ 100000) : IntKind.i64.wrap ((IntKind.u64.wrap (IntKind.i64.wrap ((a : Int) + (b : Int)))).fdiv (2 ^ min (Int.toNat 1) IntKind.u64.bits)) = (((a + b) / 2 : Nat) : Int) := by
  rw [wadd a b (by omega) (by omega)]
  have h1 : IntKind.u64.wrap ((a + b : Nat) : Int) = ((a + b : Nat) : Int) := by
    unfold IntKind.wrap
    simp only [IntKind.bits, IntKind.signed, Bool.false_and, Bool.false_eq_true, if_false]
    omega
  rw [h1]
  have h2 : ((a + b : Nat) : Int).fdiv (2 ^ min (Int.toNat 1) IntKind.u64.bits) = (((a + b) / 2 : Nat) : Int) := by
    have : (2 : Int) ^ min (Int.toNat 1) IntKind.u64.bits = 2 := by decide
    rw [this, Int.fdiv_eq_ediv_of_nonneg _ (by omega)]
    omega
  rw [h2]
  exact w64_small (by omega) (by omega)
theorem swap_adj2 (X P R : List Vc) (x y : Vc) : ((X ++ (P ++ (x :: y :: R))).set (X.length + P.length + 0) y).set (X.length + P.length + 1) x = X ++ (P ++ (y :: x :: R)) := by
  rw [set_mid, set_mid]
  rfl
attribute [local irreducible] CallW CallP LoopW W IntKind.wrap rankL Int.fdiv
abbrev s32a (n a b i j : Nat) : Slots := [(0, .sl 0 0 n), (1, I a), (4, cmpF), (10, I i), (11, I j)]
abbrev s32b (n i k : Nat) : Slots := [(0, .sl 0 0 n), (10, I i), (13, I k)]
theorem c32a (X : List Vc) (x : Vc) (B Y : List Vc) (n : Nat) (hn : n = (X ++ ([x] ++ (B ++ Y))).length) (hl : n ≤ 1000) (hv : ∀ v ∈ X ++ ([x] ++ (B ++ Y)), Rv v) (hB : 1 ≤ B.length) {K : LV → Heap → Prop}
    (h : ∀ S, Mrg leV [x] B S → K (.tup []) (hpV (X ++ (S ++ Y)))) : CallW Try.prog 32 [.sl 0 0 n, I ((X.length : Nat) : Int), I ((X.length + 1 : Nat) : Int), I ((X.length + 1 + B.length : Nat) : Int), cmpF] (hpV (X ++ ([x] ++ (B ++ Y)))) K := by
  have hK := h
  clear h
  have hnl : n = X.length + 1 + B.length + Y.length := by rw [hn]; simp only [List.length_append, List.length_singleton]; omega
  have d0 : decide (IntKind.i64.wrap (((X.length + 1 : Nat) : Int) - ((X.length : Nat) : Int)) = 1) = true := by
    rw [wsub _ _ (by omega) (by omega), decide_eq_true_eq]; omega
  have hx0 : (X ++ ([x] ++ (B ++ Y)))[X.length]? = some x := by rw [List.getElem?_append_right (by omega), Nat.sub_self]; rfl
  have hRx : Rv x := hv x (by simp)
  generalize hL : X ++ ([x] ++ (B ++ Y)) = l at hn hv hx0
  have hnx : nth (l.map Vc.cells) (0 + ((X.length : Nat) : Int).toNat) = some x.cells := by
    rw [nth_eq, Int.toNat_natCast, Nat.zero_add, List.getElem?_map, hx0]; rfl
  have lo1 : (((X.length : Nat) : Int) - 0).NonNeg := Int.natCast_nonneg _
  have hi1 : ((n : Int) - (((X.length : Nat) : Int) + 1)).NonNeg := nn (by omega)
  refine CallW.intro TT_ok Try.func32 rfl rfl [0, 1, 2, 3, 4, 10, 11, 12, 13, 14, 15, 16, 17, 18, 19, 20, 21, 22, 23, 24, 28, 33, 50, 58, 80, 85, 103, 110, 140, 151, 171, 185, 199, 213] rfl ?_
  conv => whnf
  repeat' first
    | with_reducible rfl
    | with_reducible exact True.intro
    | with_reducible assumption
    | exact (Bool.false_ne_true (h.symm.trans d0)).elim
    | assumption
    | (refine W.drawn TT_ok hmix1 rfl ?_; conv => whnf)
    | (refine W.drawnM (id := 11) 0 TT_ok hmix1 [0, 0, 0, 0, 0, 0, 0, 0, 0, 0, 0, 0, 0, 0, 0, 0, 1, 1] [0, 0, 1, 1, 1, 0, 0, 0, 0, 0, 0, 0, 0, 0, 0, 1, 1, 2] rfl ?_; conv => whnf)
    | (refine W.drawnM (id := 23) 0 TT_ok hmix1 [0, 0, 0, 0, 0, 0, 0, 0, 0, 0, 0, 0, 0, 0, 0, 0, 1, 1] [0, 0, 1, 1, 1, 0, 0, 0, 0, 0, 0, 0, 0, 0, 0, 1, 1, 2] rfl ?_; conv => whnf)
    | exact absurd (show false = true from h) Bool.false_ne_true
    | exact absurd (show true = false from h) (fun e => Bool.noConfusion e)
    | exact (congrArg Bool.not h)
    | (refine ⟨_, ⟨by first | assumption | decide | omega, by first | assumption | rfl⟩, ?_⟩; conv => whnf)
    | (refine ⟨_, fun _ => ⟨by first | assumption | decide | omega, by first | assumption | rfl⟩, ?_⟩; conv => whnf)
    | exact (rfl : (_ : Nat) = _)
    | exact (rfl : (_ : LV) = _)
    | (refine ⟨fun h => ?_, fun h => ?_⟩ <;> conv => whnf)
    | (refine ⟨?_, ?_⟩ <;> conv => whnf)
    | (intro h; conv => whnf)
    | (refine gand ?_ h; assumption)
  refine LoopW.norm (s32a n X.length (X.length + 1 + B.length) (X.length + 1) (X.length + 1 + B.length)) 1 [(0, .row 31 4 (l.map Vc.cells))] ⟨rfl, rfl, rfl, rfl, rfl, trivial⟩ (hpS _ rfl) ⟨rfl, trivial, ⟨trivial, trivial⟩, trivial, trivial, trivial⟩ rfl ?_
  refine LoopW.ind (α := Nat × Nat) (fun q => q.2 - q.1) (fun q s' H => (X.length + 1 ≤ q.1 ∧ q.1 ≤ q.2 ∧ q.2 ≤ X.length + 1 + B.length ∧ (q.1 = X.length + 1 ∨ ∃ y, l[q.1 - 1]? = some y ∧ ltV y x) ∧ (q.2 = X.length + 1 + B.length ∨ ∃ y, l[q.2]? = some y ∧ ¬ ltV y x)) ∧ s' = s32a n X.length (X.length + 1 + B.length) q.1 q.2 ∧ H = hpV l) ?_ (a := (X.length + 1, X.length + 1 + B.length)) ⟨⟨Nat.le_refl _, by simp, Nat.le_refl _, .inl rfl, .inl rfl⟩, rfl, rfl⟩
  rintro ⟨i, j⟩ s' H ⟨⟨h1, h2, h3, h4, h5⟩, rfl, rfl⟩ ih
  simp only at h1 h2 h3 h4 h5 ih ⊢
  change LoopW _ _ _ _ _ _ ⟨1, [(0, .row 31 4 (l.map Vc.cells))]⟩
  by_cases hij : i < j
  · have d1 : decide ((i : Int) < (j : Int)) = true := by rw [decide_eq_true_eq]; omega
    have hm := wmid i j (by omega) (by omega)
    have hhl : (i + j) / 2 < l.length := by omega
    have hy := List.getElem?_eq_getElem hhl
    have hRy : Rv l[(i + j) / 2] := hv _ (List.getElem_mem hhl)
    generalize l[(i + j) / 2] = y at hy hRy
    have h23 := c23 y x
    generalize hH : IntKind.i64.wrap ((IntKind.u64.wrap (IntKind.i64.wrap ((i : Int) + (j : Int)))).fdiv (2 ^ min (Int.toNat 1) IntKind.u64.bits)) = hh at hm
    have hny : nth (l.map Vc.cells) (0 + hh.toNat) = some y.cells := by
      rw [nth_eq, hm, Int.toNat_natCast, Nat.zero_add, List.getElem?_map, hy]; rfl
    have lo2 : (hh - 0).NonNeg := nn (by rw [hm]; omega)
    have hi2 : ((n : Int) - (hh + 1)).NonNeg := nn (by rw [hm]; omega)
    have wh : IntKind.i64.wrap (hh + 1) = (((i + j) / 2 + 1 : Nat) : Int) := by rw [hm]; exact w64_nat _ (by omega)
    have hnext : ∀ (i' j' : Nat), (X.length + 1 ≤ i' ∧ i' ≤ j' ∧ j' ≤ X.length + 1 + B.length ∧ (i' = X.length + 1 ∨ ∃ y, l[i' - 1]? = some y ∧ ltV y x) ∧ (j' = X.length + 1 + B.length ∨ ∃ y, l[j']? = some y ∧ ¬ ltV y x)) → j' - i' < j - i → ∀ {s1 : Slots} {H1 : Heap}, subC s1 (s32a n X.length (X.length + 1 + B.length) i' j') → look H1.live 0 = some (.row 31 4 (l.map Vc.cells)) → LoopW Try.prog Try.f32.ntmps 1 _ _ s1 H1 := fun i' j' hI hlt {s1} {H1} h1 h2 =>
      LoopW.norm (s32a n X.length (X.length + 1 + B.length) i' j') 1 [(0, .row 31 4 (l.map Vc.cells))] h1 (hpS _ h2) ⟨rfl, trivial, ⟨trivial, trivial⟩, trivial, trivial, trivial⟩ rfl (ih (i', j') _ _ ⟨hI, rfl, rfl⟩ hlt)
    clear ih
    generalize l.map Vc.cells = R at hnx hny hnext ⊢
    subst hH
    by_cases hlt : ltV y x
    · have hC : decide (rnk y x < 0) = true := by rw [decide_eq_true_eq]; exact (rnk_lt hRy hRx).2 hlt
      refine LoopW.round TT_ok [0, 1, 2, 3, 4, 10, 11, 12, 13, 14, 15, 16, 17, 18, 19, 20, 21, 22, 23, 24, 28, 33, 50, 58, 80, 85, 103, 110, 140, 151, 171, 185, 199, 213] ?_
      conv => whnf
      repeat' first
        | with_reducible rfl
        | with_reducible exact True.intro
        | with_reducible assumption
        | exact lo1
        | exact hi1
        | exact lo2
        | exact hi2
        | exact nn (by decide)
        | exact (Bool.false_ne_true (h.symm.trans d1)).elim
        | exact (Bool.false_ne_true (h.symm.trans hC)).elim
        | (refine CallP.use (h23) ?_; conv => whnf)
        | (refine ⟨_, _, CallP.at (h23), ?_⟩; conv => whnf)
        | (refine ⟨_, fun _ => h23, ?_⟩; conv => whnf)
        | assumption
        | (refine W.drawn TT_ok hmix1 rfl ?_; conv => whnf)
        | (refine W.drawnM (id := 11) 0 TT_ok hmix1 [0, 0, 0, 0, 0, 0, 0, 0, 0, 0, 0, 0, 0, 0, 0, 0, 1, 1] [0, 0, 1, 1, 1, 0, 0, 0, 0, 0, 0, 0, 0, 0, 0, 1, 1, 2] rfl ?_; conv => whnf)
        | (refine W.drawnM (id := 23) 0 TT_ok hmix1 [0, 0, 0, 0, 0, 0, 0, 0, 0, 0, 0, 0, 0, 0, 0, 0, 1, 1] [0, 0, 1, 1, 1, 0, 0, 0, 0, 0, 0, 0, 0, 0, 0, 1, 1, 2] rfl ?_; conv => whnf)
        | exact absurd (show false = true from h) Bool.false_ne_true
        | exact absurd (show true = false from h) (fun e => Bool.noConfusion e)
        | exact (congrArg Bool.not h)
        | (refine ⟨_, ⟨by first | assumption | decide | omega, by first | assumption | rfl⟩, ?_⟩; conv => whnf)
        | (refine ⟨_, fun _ => ⟨by first | assumption | decide | omega, by first | assumption | rfl⟩, ?_⟩; conv => whnf)
        | exact (rfl : (_ : Nat) = _)
        | exact (rfl : (_ : LV) = _)
        | (refine ⟨fun h => ?_, fun h => ?_⟩ <;> conv => whnf)
        | (refine ⟨?_, ?_⟩ <;> conv => whnf)
        | (intro h; conv => whnf)
        | (refine gand ?_ h; assumption)
        | (rw [hnx]; conv => whnf)
        | (rw [hny]; conv => whnf)
      exact hnext ((i + j) / 2 + 1) j ⟨by omega, by omega, h3, .inr ⟨y, hy, hlt⟩, h5⟩ (by omega) ⟨rfl, rfl, rfl, congrArg (LV.int .i64) wh, rfl, trivial⟩ rfl
    · have hC : decide (rnk y x < 0) = false := by rw [decide_eq_false_iff_not]; exact fun hh => hlt ((rnk_lt hRy hRx).1 hh)
      refine LoopW.round TT_ok [0, 1, 2, 3, 4, 10, 11, 12, 13, 14, 15, 16, 17, 18, 19, 20, 21, 22, 23, 24, 28, 33, 50, 58, 80, 85, 103, 110, 140, 151, 171, 185, 199, 213] ?_
      conv => whnf
      repeat' first
        | with_reducible rfl
        | with_reducible exact True.intro
        | with_reducible assumption
        | exact lo1
        | exact hi1
        | exact lo2
        | exact hi2
        | exact nn (by decide)
        | exact (Bool.false_ne_true (h.symm.trans d1)).elim
        | exact (Bool.false_ne_true (hC.symm.trans h)).elim
        | (refine CallP.use (h23) ?_; conv => whnf)
        | (refine ⟨_, _, CallP.at (h23), ?_⟩; conv => whnf)
        | (refine ⟨_, fun _ => h23, ?_⟩; conv => whnf)
        | assumption
        | (refine W.drawn TT_ok hmix1 rfl ?_; conv => whnf)
        | (refine W.drawnM (id := 11) 0 TT_ok hmix1 [0, 0, 0, 0, 0, 0, 0, 0, 0, 0, 0, 0, 0, 0, 0, 0, 1, 1] [0, 0, 1, 1, 1, 0, 0, 0, 0, 0, 0, 0, 0, 0, 0, 1, 1, 2] rfl ?_; conv => whnf)
        | (refine W.drawnM (id := 23) 0 TT_ok hmix1 [0, 0, 0, 0, 0, 0, 0, 0, 0, 0, 0, 0, 0, 0, 0, 0, 1, 1] [0, 0, 1, 1, 1, 0, 0, 0, 0, 0, 0, 0, 0, 0, 0, 1, 1, 2] rfl ?_; conv => whnf)
        | exact absurd (show false = true from h) Bool.false_ne_true
        | exact absurd (show true = false from h) (fun e => Bool.noConfusion e)
        | exact (congrArg Bool.not h)
        | (refine ⟨_, ⟨by first | assumption | decide | omega, by first | assumption | rfl⟩, ?_⟩; conv => whnf)
        | (refine ⟨_, fun _ => ⟨by first | assumption | decide | omega, by first | assumption | rfl⟩, ?_⟩; conv => whnf)
        | exact (rfl : (_ : Nat) = _)
        | exact (rfl : (_ : LV) = _)
        | (refine ⟨fun h => ?_, fun h => ?_⟩ <;> conv => whnf)
        | (refine ⟨?_, ?_⟩ <;> conv => whnf)
        | (intro h; conv => whnf)
        | (refine gand ?_ h; assumption)
        | (rw [hnx]; conv => whnf)
        | (rw [hny]; conv => whnf)
      exact hnext i ((i + j) / 2) ⟨h1, by omega, by omega, h4, .inr ⟨y, hy, hlt⟩⟩ (by omega) ⟨rfl, rfl, rfl, rfl, congrArg (LV.int .i64) hm, trivial⟩ rfl
  · have d1 : decide ((i : Int) < (j : Int)) = false := by rw [decide_eq_false_iff_not]; omega
    obtain rfl : i = j := by omega
    clear ih hij
    obtain ⟨u, rfl⟩ : ∃ u, i = X.length + 1 + u := ⟨i - (X.length + 1), by omega⟩
    have hBu : B = B.take u ++ B.drop u := (List.take_append_drop u B).symm
    have hul : (B.take u).length = u := by rw [List.length_take]; omega
    have hM : Mrg leV [x] B (B.take u ++ x :: B.drop u) := by
      have e1 : l = (X ++ [x]) ++ (B.take u ++ (B.drop u ++ Y)) := by rw [← hL, List.append_assoc X [x], ← List.append_assoc (B.take u), List.take_append_drop]
      have e2 : l = (X ++ [x] ++ B.take u) ++ (B.drop u ++ Y) := by rw [e1]; simp
      have := Mrg.insL' leV_refl leV_trans (x := x) (B1 := B.take u) (B2 := B.drop u) (fun y hy => by
        obtain ⟨p1, p2⟩ := last_at (X := X ++ [x]) (Y := B.drop u ++ Y) hy
        rw [← e1] at p2
        rcases h4 with h4 | ⟨z, hz, hzx⟩
        · omega
        · rw [List.length_append, List.length_singleton, hul, hz] at p2
          cases p2
          exact ltV_le hzx) (fun y hy => by
        obtain ⟨p1, p2⟩ := head_at (X := X ++ [x] ++ B.take u) (Y := Y) hy
        rw [← e2] at p2
        rw [List.length_drop] at p1
        rcases h5 with h5 | ⟨z, hz, hzx⟩
        · omega
        · rw [List.length_append, List.length_append, List.length_singleton, hul, hz] at p2
          cases p2
          exact hzx)
      rw [← hBu] at this
      exact this
    have wi : IntKind.i64.wrap (((X.length + 1 + u : Nat) : Int) - 1) = ((X.length + u : Nat) : Int) := by
      have := wsub (X.length + 1 + u) 1 (by omega) (by omega)
      rw [show X.length + 1 + u - 1 = X.length + u by omega] at this
      exact this
    have hL2 : l = X ++ (([] : List Vc) ++ (x :: (B.take u ++ (B.drop u ++ Y)))) := by
      rw [← hL, ← List.append_assoc (B.take u), List.take_append_drop]
      rfl
    refine LoopW.round TT_ok [0, 1, 2, 3, 4, 10, 11, 12, 13, 14, 15, 16, 17, 18, 19, 20, 21, 22, 23, 24, 28, 33, 50, 58, 80, 85, 103, 110, 140, 151, 171, 185, 199, 213] ?_
    conv => whnf
    repeat' first
      | with_reducible rfl
      | with_reducible exact True.intro
      | with_reducible assumption
      | exact (Bool.false_ne_true (d1.symm.trans h)).elim
      | assumption
      | (refine W.drawn TT_ok hmix1 rfl ?_; conv => whnf)
      | (refine W.drawnM (id := 11) 0 TT_ok hmix1 [0, 0, 0, 0, 0, 0, 0, 0, 0, 0, 0, 0, 0, 0, 0, 0, 1, 1] [0, 0, 1, 1, 1, 0, 0, 0, 0, 0, 0, 0, 0, 0, 0, 1, 1, 2] rfl ?_; conv => whnf)
      | (refine W.drawnM (id := 23) 0 TT_ok hmix1 [0, 0, 0, 0, 0, 0, 0, 0, 0, 0, 0, 0, 0, 0, 0, 0, 1, 1] [0, 0, 1, 1, 1, 0, 0, 0, 0, 0, 0, 0, 0, 0, 0, 1, 1, 2] rfl ?_; conv => whnf)
      | exact absurd (show false = true from h) Bool.false_ne_true
      | exact absurd (show true = false from h) (fun e => Bool.noConfusion e)
      | exact (congrArg Bool.not h)
      | (refine ⟨_, ⟨by first | assumption | decide | omega, by first | assumption | rfl⟩, ?_⟩; conv => whnf)
      | (refine ⟨_, fun _ => ⟨by first | assumption | decide | omega, by first | assumption | rfl⟩, ?_⟩; conv => whnf)
      | exact (rfl : (_ : Nat) = _)
      | exact (rfl : (_ : LV) = _)
      | (refine ⟨fun h => ?_, fun h => ?_⟩ <;> conv => whnf)
      | (refine ⟨?_, ?_⟩ <;> conv => whnf)
      | (intro h; conv => whnf)
      | (refine gand ?_ h; assumption)
    refine LoopW.norm (s32b n (X.length + 1 + u) X.length) 1 [(0, .row 31 4 (l.map Vc.cells))] ⟨rfl, rfl, rfl, trivial⟩ (hpS _ rfl) ⟨rfl, trivial, trivial, trivial⟩ rfl ?_
    clear hnx lo1 hi1 h1 h2 h4 h5 d1
    refine LoopW.ind (α := Nat) (fun q => q) (fun q s' H => ∃ P Q : List Vc, (Q.length = q ∧ B.take u = P ++ Q) ∧ s' = s32b n (X.length + 1 + u) (X.length + P.length) ∧ H = hpV (X ++ (P ++ (x :: (Q ++ (B.drop u ++ Y)))))) ?_ (a := (B.take u).length) ⟨[], B.take u, ⟨rfl, rfl⟩, rfl, by rw [← hL2]⟩
    rintro q s' H ⟨P, Q, ⟨rfl, hPQ⟩, rfl, rfl⟩ ih
    have hpq : u = P.length + Q.length := by rw [← hul, hPQ, List.length_append]
    cases Q with
    | nil =>
      have d2 : decide (((X.length + P.length : Nat) : Int) < IntKind.i64.wrap (((X.length + 1 + u : Nat) : Int) - 1)) = false := by
        rw [wi, decide_eq_false_iff_not]; simp only [List.length_nil] at hpq; omega
      rw [List.append_nil] at hPQ
      have hfin := hK _ hM
      rw [hPQ] at hfin
      have efin : X ++ (P ++ (x :: (([] : List Vc) ++ (B.drop u ++ Y)))) = X ++ ((P ++ x :: B.drop u) ++ Y) := by simp
      rw [efin]
      refine LoopW.round TT_ok [0, 1, 2, 3, 4, 10, 11, 12, 13, 14, 15, 16, 17, 18, 19, 20, 21, 22, 23, 24, 28, 33, 50, 58, 80, 85, 103, 110, 140, 151, 171, 185, 199, 213] ?_
      conv => whnf
      repeat' first
        | with_reducible rfl
        | with_reducible exact True.intro
        | with_reducible assumption
        | exact (Bool.false_ne_true (d2.symm.trans h)).elim
        | exact hfin
        | assumption
        | (refine W.drawn TT_ok hmix1 rfl ?_; conv => whnf)
        | (refine W.drawnM (id := 11) 0 TT_ok hmix1 [0, 0, 0, 0, 0, 0, 0, 0, 0, 0, 0, 0, 0, 0, 0, 0, 1, 1] [0, 0, 1, 1, 1, 0, 0, 0, 0, 0, 0, 0, 0, 0, 0, 1, 1, 2] rfl ?_; conv => whnf)
        | (refine W.drawnM (id := 23) 0 TT_ok hmix1 [0, 0, 0, 0, 0, 0, 0, 0, 0, 0, 0, 0, 0, 0, 0, 0, 1, 1] [0, 0, 1, 1, 1, 0, 0, 0, 0, 0, 0, 0, 0, 0, 0, 1, 1, 2] rfl ?_; conv => whnf)
        | exact absurd (show false = true from h) Bool.false_ne_true
        | exact absurd (show true = false from h) (fun e => Bool.noConfusion e)
        | exact (congrArg Bool.not h)
        | (refine ⟨_, ⟨by first | assumption | decide | omega, by first | assumption | rfl⟩, ?_⟩; conv => whnf)
        | (refine ⟨_, fun _ => ⟨by first | assumption | decide | omega, by first | assumption | rfl⟩, ?_⟩; conv => whnf)
        | exact (rfl : (_ : Nat) = _)
        | exact (rfl : (_ : LV) = _)
        | (refine ⟨fun h => ?_, fun h => ?_⟩ <;> conv => whnf)
        | (refine ⟨?_, ?_⟩ <;> conv => whnf)
        | (intro h; conv => whnf)
        | (refine gand ?_ h; assumption)
      all_goals skip
    | cons y Q =>
      have hpq' : u = P.length + (Q.length + 1) := hpq
      have d2 : decide (((X.length + P.length : Nat) : Int) < IntKind.i64.wrap (((X.length + 1 + u : Nat) : Int) - 1)) = true := by
        rw [wi, decide_eq_true_eq]; omega
      have wk := w64_nat (X.length + P.length) (by omega)
      have hcl : (X ++ (P ++ (x :: y :: (Q ++ (B.drop u ++ Y))))).length = n := by
        rw [hnl]; simp only [List.length_append, List.length_cons, List.length_drop]; omega
      have ecur : X ++ (P ++ (x :: ((y :: Q) ++ (B.drop u ++ Y)))) = X ++ (P ++ (x :: y :: (Q ++ (B.drop u ++ Y)))) := rfl
      rw [ecur]
      have enew : X ++ (P ++ (y :: x :: (Q ++ (B.drop u ++ Y)))) = X ++ ((P ++ [y]) ++ (x :: (Q ++ (B.drop u ++ Y)))) := by simp
      have hkx : (X ++ (P ++ (x :: y :: (Q ++ (B.drop u ++ Y)))))[X.length + P.length]? = some x := by
        rw [List.getElem?_append_right (by omega), List.getElem?_append_right (by omega), show X.length + P.length - X.length - P.length = 0 by omega]; rfl
      have hky : (X ++ (P ++ (x :: y :: (Q ++ (B.drop u ++ Y)))))[X.length + P.length + 1]? = some y := by
        rw [List.getElem?_append_right (by omega), List.getElem?_append_right (by omega), show X.length + P.length + 1 - X.length - P.length = 1 by omega]; rfl
      have hn1 : nth ((X ++ (P ++ (x :: y :: (Q ++ (B.drop u ++ Y))))).map Vc.cells) (0 + ((X.length + P.length : Nat) : Int).toNat) = some x.cells := by
        rw [nth_eq, Int.toNat_natCast, Nat.zero_add, List.getElem?_map, hkx]; rfl
      have hn2 : nth ((X ++ (P ++ (x :: y :: (Q ++ (B.drop u ++ Y))))).map Vc.cells) (0 + (IntKind.i64.wrap (((X.length + P.length : Nat) : Int) + 1)).toNat) = some y.cells := by
        rw [nth_eq, wk, Int.toNat_natCast, Nat.zero_add, List.getElem?_map, hky]; rfl
      have hn3 : nth (setN ((X ++ (P ++ (x :: y :: (Q ++ (B.drop u ++ Y))))).map Vc.cells) (0 + ((X.length + P.length : Nat) : Int).toNat) (setL x.cells 0 [I y.r, I y.c, I y.b, I y.p])) (0 + (IntKind.i64.wrap (((X.length + P.length : Nat) : Int) + 1)).toNat) = some y.cells := by
        rw [nth_eq, setN_eq, wk, Int.toNat_natCast, Int.toNat_natCast, Nat.zero_add, Nat.zero_add, List.getElem?_set_ne (by omega), List.getElem?_map, hky]; rfl
      have hset : setN (setN ((X ++ (P ++ (x :: y :: (Q ++ (B.drop u ++ Y))))).map Vc.cells) (0 + ((X.length + P.length : Nat) : Int).toNat) y.cells) (0 + (IntKind.i64.wrap (((X.length + P.length : Nat) : Int) + 1)).toNat) x.cells = (X ++ ((P ++ [y]) ++ (x :: (Q ++ (B.drop u ++ Y))))).map Vc.cells := by
        rw [setN_eq, setN_eq, wk, Int.toNat_natCast, Int.toNat_natCast, Nat.zero_add, Nat.zero_add, ← List.map_set, ← List.map_set, ← enew]
        exact congrArg (List.map Vc.cells) (swap_adj2 X P (Q ++ (B.drop u ++ Y)) x y)
      have lo1 : (((X.length + P.length : Nat) : Int) - 0).NonNeg := Int.natCast_nonneg _
      have hi1 : ((n : Int) - (((X.length + P.length : Nat) : Int) + 1)).NonNeg := nn (by omega)
      have lo2 : (IntKind.i64.wrap (((X.length + P.length : Nat) : Int) + 1) - 0).NonNeg := nn (by rw [wk]; omega)
      have hi2 : ((n : Int) - (IntKind.i64.wrap (((X.length + P.length : Nat) : Int) + 1) + 1)).NonNeg := nn (by rw [wk]; omega)
      have hnext : ∀ {s1 : Slots} {H1 : Heap}, subC s1 (s32b n (X.length + 1 + u) (X.length + P.length + 1)) → look H1.live 0 = some (.row 31 4 ((X ++ ((P ++ [y]) ++ (x :: (Q ++ (B.drop u ++ Y))))).map Vc.cells)) → LoopW Try.prog Try.f32.ntmps 1 _ _ s1 H1 := fun {s1} {H1} h1 h2 => by
        have := ih Q.length (s32b n (X.length + 1 + u) (X.length + (P ++ [y]).length)) _ ⟨P ++ [y], Q, ⟨rfl, by rw [hPQ]; simp⟩, rfl, rfl⟩ (Nat.lt_succ_self _)
        rw [show X.length + (P ++ [y]).length = X.length + P.length + 1 by simp; omega] at this
        exact LoopW.norm (s32b n (X.length + 1 + u) (X.length + P.length + 1)) 1 [(0, .row 31 4 ((X ++ ((P ++ [y]) ++ (x :: (Q ++ (B.drop u ++ Y))))).map Vc.cells))] h1 (hpS _ h2) ⟨rfl, trivial, trivial, trivial⟩ rfl this
      clear ih
      change LoopW _ _ _ _ _ _ ⟨1, [(0, .row 31 4 ((X ++ (P ++ (x :: y :: (Q ++ (B.drop u ++ Y))))).map Vc.cells))]⟩
      generalize (X ++ (P ++ (x :: y :: (Q ++ (B.drop u ++ Y))))).map Vc.cells = R at hn1 hn2 hn3 hset ⊢
      refine LoopW.round TT_ok [0, 1, 2, 3, 4, 10, 11, 12, 13, 14, 15, 16, 17, 18, 19, 20, 21, 22, 23, 24, 28, 33, 50, 58, 80, 85, 103, 110, 140, 151, 171, 185, 199, 213] ?_
      conv => whnf
      repeat' first
        | with_reducible rfl
        | with_reducible exact True.intro
        | with_reducible assumption
        | exact lo1
        | exact hi1
        | exact lo2
        | exact hi2
        | exact (Bool.false_ne_true (h.symm.trans d2)).elim
        | assumption
        | (refine W.drawn TT_ok hmix1 rfl ?_; conv => whnf)
        | (refine W.drawnM (id := 11) 0 TT_ok hmix1 [0, 0, 0, 0, 0, 0, 0, 0, 0, 0, 0, 0, 0, 0, 0, 0, 1, 1] [0, 0, 1, 1, 1, 0, 0, 0, 0, 0, 0, 0, 0, 0, 0, 1, 1, 2] rfl ?_; conv => whnf)
        | (refine W.drawnM (id := 23) 0 TT_ok hmix1 [0, 0, 0, 0, 0, 0, 0, 0, 0, 0, 0, 0, 0, 0, 0, 0, 1, 1] [0, 0, 1, 1, 1, 0, 0, 0, 0, 0, 0, 0, 0, 0, 0, 1, 1, 2] rfl ?_; conv => whnf)
        | exact absurd (show false = true from h) Bool.false_ne_true
        | exact absurd (show true = false from h) (fun e => Bool.noConfusion e)
        | exact (congrArg Bool.not h)
        | (refine ⟨_, ⟨by first | assumption | decide | omega, by first | assumption | rfl⟩, ?_⟩; conv => whnf)
        | (refine ⟨_, fun _ => ⟨by first | assumption | decide | omega, by first | assumption | rfl⟩, ?_⟩; conv => whnf)
        | exact (rfl : (_ : Nat) = _)
        | exact (rfl : (_ : LV) = _)
        | (refine ⟨fun h => ?_, fun h => ?_⟩ <;> conv => whnf)
        | (refine ⟨?_, ?_⟩ <;> conv => whnf)
        | (intro h; conv => whnf)
        | (refine gand ?_ h; assumption)
        | (rw [hn1]; conv => whnf)
        | (rw [hn2]; conv => whnf)
        | (rw [hn3]; conv => whnf)
      exact hnext ⟨rfl, rfl, congrArg (LV.int .i64) wk, trivial⟩ (congrArg (fun r => some (Blk.row 31 4 r)) hset)
end Go.RX

