/- Contracts of the sort: ranges that change places. -/
import Derived.Test.YtogomcndhipoeaaPl04
import Derived.Test.YtogomcndhipoeaaPly
set_option linter.unusedVariables false
set_option linter.unusedSimpArgs false
open Go Go.RX Go.Proofs
namespace Go.RX
set_option maxRecDepth 10000
set_option maxHeartbeats 400000
structure Vc where
  r : Int
  c : Int
  b : Int
  p : Int
  deriving DecidableEq
abbrev Vc.cells (v : Vc) : List LV := [I v.r, I v.c, I v.b, I v.p]
abbrev vcL (v : Vc) : LV := .agg [I v.r, I v.c, I v.b, I v.p]
abbrev rnk (a b : Vc) : Int := rankL a.r a.c a.b a.p b.r b.c b.b b.p
abbrev cmpF : LV := .func (.func 23) [] []
abbrev hpV (l : List Vc) : Heap := ⟨1, [(0, .row 31 4 (l.map Vc.cells))]⟩
theorem w64_nat (k : Nat) (h : k ≤ 1000000) : IntKind.i64.wrap ((k : Int) + 1) = ((k + 1 : Nat) : Int) := by
  rw [show ((k : Int) + 1) = ((k + 1 : Nat) : Int) by omega]
  exact w64_small (by omega) (by omega)
theorem wadd (a b : Nat) (ha : a ≤ 1000000) (hb : b ≤ 1000000) : IntKind.i64.wrap ((a : Int) + (b : Int)) = ((a + b : Nat) : Int) := by
  rw [show ((a : Int) + (b : Int)) = ((a + b : Nat) : Int) by omega]
  exact w64_small (by omega) (by omega)
theorem wsub (a b : Nat) (ha : a ≤ 1000000) (hb : b ≤ a) : IntKind.i64.wrap ((a : Int) - (b : Int)) = ((a - b : Nat) : Int) := by
  rw [show ((a : Int) - (b : Int)) = ((a - b : Nat) : Int) by omega]
  exact w64_small (by omega) (by omega)
theorem nn {a b : Int} (h : b ≤ a) : (a - b).NonNeg := h
theorem vcs_nl (l : List Vc) : NLss (l.map Vc.cells) := by
  induction l with
  | nil => trivial
  | cons t l ih => exact ⟨⟨trivial, trivial, trivial, trivial, trivial⟩, ih⟩
theorem NLss_bel {m : Nat} {l : List (List LV)} (h : NLss l) : belss m l := belss_iff.2 fun cs h1 x h2 => (NLss_iff.1 h cs h1 x h2).bel
theorem hpS (l : List Vc) {L : List (Nat × Blk)} (h : look L 0 = some (.row 31 4 (l.map Vc.cells))) : subL L 1 [(0, .row 31 4 (l.map Vc.cells))] := ⟨⟨h, rfl, NLss_bel (vcs_nl l)⟩, trivial⟩
theorem c23 (a b : Vc) : CallP Try.prog 23 [vcL a, vcL b] (I (rnk a b)) := by
  refine .intro (by first | (simp [NLs, NL]; done) | (simp [NLs, NL, nlx]; done)) (.intro TT_ok Try.func23 rfl rfl [0, 1, 2, 3, 4] rfl ?_)
  conv => whnf
  repeat' first
    | with_reducible rfl
    | with_reducible exact True.intro
    | with_reducible assumption
    | (refine CallP.use (c24 _ _ _ _ _ _ _ _) ?_; conv => whnf)
    | (refine ⟨_, _, CallP.at (c24 _ _ _ _ _ _ _ _), ?_⟩; conv => whnf)
    | (refine ⟨_, fun _ => c24 _ _ _ _ _ _ _ _, ?_⟩; conv => whnf)
    | assumption
    | exact absurd (show false = true from h) Bool.false_ne_true
    | exact absurd (show true = false from h) (fun e => Bool.noConfusion e)
    | exact (congrArg Bool.not h)
    | (refine ⟨_, ⟨by first | assumption | decide | omega, by first | assumption | rfl⟩, ?_⟩; conv => whnf)
    | (refine ⟨_, fun _ => ⟨by first | assumption | decide | omega, by first | assumption | rfl⟩, ?_⟩; conv => whnf)
    | exact (rfl : (_ : Nat) = _)
    | exact (rfl : (_ : LV) = _)
    | (refine ⟨fun h => ?_, fun h => ?_⟩ <;> conv => whnf)
    | (refine ⟨?_, ?_⟩ <;> conv => whnf)
    | (intro h; conv => whnf)
    | (refine gand ?_ h; assumption)
attribute [local irreducible] CallW CallP LoopW W IntKind.wrap
abbrev s34 (n a b k q : Nat) : Slots := [(0, .sl 0 0 n), (1, I a), (2, I b), (3, I k), (10, I q)]
theorem c34 (l : List Vc) (n a b k : Nat) (hn : n = l.length) (hl : n ≤ 1000) (hab : a + k ≤ b) (hb : b + k ≤ n) {K : LV → Heap → Prop} (h : ∀ l', SW l a b k l' → K (.tup []) (hpV l')) :
    CallW Try.prog 34 [.sl 0 0 n, I a, I b, I k, cmpF] (hpV l) K := by
  have hK := h
  clear h
  refine CallW.intro TT_ok Try.func34 rfl rfl [0, 1, 2, 3, 10, 13] rfl ?_
  conv => whnf
  refine LoopW.norm (s34 n a b k 0) 1 [(0, .row 31 4 (l.map Vc.cells))] ⟨rfl, rfl, rfl, rfl, rfl, trivial⟩ (hpS l rfl) ⟨rfl, trivial, trivial, trivial, trivial, trivial⟩ rfl ?_
  refine LoopW.ind (α := Nat) (fun q => k - q) (fun q s' H => ∃ c, (q ≤ k ∧ SW l a b q c) ∧ s' = s34 n a b k q ∧ H = hpV c) ?_ (a := 0) ⟨l, ⟨Nat.zero_le _, SW.zero l a b⟩, rfl, rfl⟩
  rintro q s' H ⟨c, ⟨hk, hsw⟩, rfl, rfl⟩ ih
  by_cases hi : q < k
  · have hd : decide ((q : Int) < (k : Int)) = true := by rw [decide_eq_true_eq]; omega
    have hcl : c.length = n := hsw.1.trans hn.symm
    have e1 := wadd a q (by omega) (by omega)
    have e2 := wadd b q (by omega) (by omega)
    have hu := List.getElem?_eq_getElem (show a + q < c.length by omega)
    have hv := List.getElem?_eq_getElem (show b + q < c.length by omega)
    have hst := hsw.succ (by omega) hu hv
    generalize c[a + q] = u at hu hst
    generalize c[b + q] = v at hv hst
    have hset : setN (setN (c.map Vc.cells) (0 + (IntKind.i64.wrap ((a : Int) + (q : Int))).toNat) v.cells) (0 + (IntKind.i64.wrap ((b : Int) + (q : Int))).toNat) u.cells = ((c.set (a + q) v).set (b + q) u).map Vc.cells := by
      rw [setN_eq, setN_eq, e1, e2, Int.toNat_natCast, Int.toNat_natCast, Nat.zero_add, Nat.zero_add, List.map_set, List.map_set]
    have hn1 : nth (c.map Vc.cells) (0 + (IntKind.i64.wrap ((a : Int) + (q : Int))).toNat) = some u.cells := by rw [nth_eq, e1, Int.toNat_natCast, Nat.zero_add, List.getElem?_map, hu]; rfl
    have hn2 : nth (c.map Vc.cells) (0 + (IntKind.i64.wrap ((b : Int) + (q : Int))).toNat) = some v.cells := by rw [nth_eq, e2, Int.toNat_natCast, Nat.zero_add, List.getElem?_map, hv]; rfl
    have hn3 : nth (setN (c.map Vc.cells) (0 + (IntKind.i64.wrap ((a : Int) + (q : Int))).toNat) (setL u.cells 0 [I v.r, I v.c, I v.b, I v.p])) (0 + (IntKind.i64.wrap ((b : Int) + (q : Int))).toNat) = some v.cells := by
      rw [nth_eq, setN_eq, e1, e2, Int.toNat_natCast, Int.toNat_natCast, Nat.zero_add, Nat.zero_add, List.getElem?_set_ne (by omega), List.getElem?_map, hv]; rfl
    have lo1 : (IntKind.i64.wrap ((a : Int) + (q : Int)) - 0).NonNeg := nn (by rw [e1]; omega)
    have lo2 : (IntKind.i64.wrap ((b : Int) + (q : Int)) - 0).NonNeg := nn (by rw [e2]; omega)
    have hi1 : ((n : Int) - (IntKind.i64.wrap ((a : Int) + (q : Int)) + 1)).NonNeg := nn (by rw [e1]; omega)
    have hi2 : ((n : Int) - (IntKind.i64.wrap ((b : Int) + (q : Int)) + 1)).NonNeg := nn (by rw [e2]; omega)
    have hnext : ∀ {s1 : Slots} {H1 : Heap}, subC s1 (s34 n a b k (q + 1)) → look H1.live 0 = some (.row 31 4 (((c.set (a + q) v).set (b + q) u).map Vc.cells)) → LoopW Try.prog Try.f34.ntmps 1 _ _ s1 H1 := fun h1 h2 =>
      LoopW.norm (s34 n a b k (q + 1)) 1 [(0, .row 31 4 (((c.set (a + q) v).set (b + q) u).map Vc.cells))] h1 (hpS _ h2) ⟨rfl, trivial, trivial, trivial, trivial, trivial⟩ rfl (ih (q + 1) _ _ ⟨_, ⟨hi, hst.1⟩, rfl, rfl⟩ (by omega))
    clear ih
    change LoopW _ _ _ _ _ _ ⟨1, [(0, .row 31 4 (c.map Vc.cells))]⟩
    generalize c.map Vc.cells = R at hset hn1 hn2 hn3 ⊢
    refine LoopW.round TT_ok [0, 1, 2, 3, 10, 13] ?_
    conv => whnf
    repeat' first
      | with_reducible rfl
      | with_reducible exact True.intro
      | with_reducible assumption
      | exact (Bool.false_ne_true (h.symm.trans hd)).elim
      | exact lo1
      | exact lo2
      | exact hi1
      | exact hi2
      | assumption
      | (refine W.drawnM (id := 3) 0 TT_ok hmix1 [0, 0, 0, 0, 0, 0, 0, 0, 0, 0, 0, 0, 0, 0, 0, 0, 0, 0, 0, 0, 0, 0, 1, 1] [0, 0, 0, 0, 1, 1, 1, 1, 0, 0, 0, 0, 0, 0, 0, 0, 0, 0, 0, 0, 0, 1, 1, 2] rfl ?_; conv => whnf)
      | exact absurd (show false = true from h) Bool.false_ne_true
      | exact absurd (show true = false from h) (fun e => Bool.noConfusion e)
      | exact (congrArg Bool.not h)
      | (refine ⟨_, ⟨by first | assumption | decide | omega, by first | assumption | rfl⟩, ?_⟩; conv => whnf)
      | (refine ⟨_, fun _ => ⟨by first | assumption | decide | omega, by first | assumption | rfl⟩, ?_⟩; conv => whnf)
      | exact (rfl : (_ : Nat) = _)
      | exact (rfl : (_ : LV) = _)
      | (refine ⟨fun h => ?_, fun h => ?_⟩ <;> conv => whnf)
      | (refine ⟨?_, ?_⟩ <;> conv => whnf)
      | (intro h; conv => whnf)
      | (refine gand ?_ h; assumption)
      | (rw [hn1]; conv => whnf)
      | (rw [hn2]; conv => whnf)
      | (rw [hn3]; conv => whnf)
    exact hnext ⟨rfl, rfl, rfl, rfl, congrArg (LV.int .i64) (w64_nat q (by omega)), trivial⟩ (congrArg (fun r => some (Blk.row 31 4 r)) hset)
  · have hd : decide ((q : Int) < (k : Int)) = false := by rw [decide_eq_false_iff_not]; omega
    obtain rfl : q = k := by omega
    clear ih
    refine LoopW.round TT_ok [0, 1, 2, 3, 10, 13] ?_
    conv => whnf
    repeat' first
      | with_reducible rfl
      | with_reducible exact True.intro
      | with_reducible assumption
      | exact (Bool.false_ne_true (hd.symm.trans h)).elim
      | exact hK c hsw
      | assumption
      | (refine W.drawnM (id := 3) 0 TT_ok hmix1 [0, 0, 0, 0, 0, 0, 0, 0, 0, 0, 0, 0, 0, 0, 0, 0, 0, 0, 0, 0, 0, 0, 1, 1] [0, 0, 0, 0, 1, 1, 1, 1, 0, 0, 0, 0, 0, 0, 0, 0, 0, 0, 0, 0, 0, 1, 1, 2] rfl ?_; conv => whnf)
      | exact absurd (show false = true from h) Bool.false_ne_true
      | exact absurd (show true = false from h) (fun e => Bool.noConfusion e)
      | exact (congrArg Bool.not h)
      | (refine ⟨_, ⟨by first | assumption | decide | omega, by first | assumption | rfl⟩, ?_⟩; conv => whnf)
      | (refine ⟨_, fun _ => ⟨by first | assumption | decide | omega, by first | assumption | rfl⟩, ?_⟩; conv => whnf)
      | exact (rfl : (_ : Nat) = _)
      | exact (rfl : (_ : LV) = _)
      | (refine ⟨fun h => ?_, fun h => ?_⟩ <;> conv => whnf)
      | (refine ⟨?_, ?_⟩ <;> conv => whnf)
      | (intro h; conv => whnf)
      | (refine gand ?_ h; assumption)
    all_goals skip
end Go.RX

