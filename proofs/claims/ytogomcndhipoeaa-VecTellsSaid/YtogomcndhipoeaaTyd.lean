/- Contracts of the sort: rotate. -/
import Derived.Test.YtogomcndhipoeaaTyc
set_option linter.unusedVariables false
set_option linter.unusedSimpArgs false
open Go Go.RX Go.Proofs
namespace Go.RX
set_option maxRecDepth 10000
set_option maxHeartbeats 400000
attribute [local irreducible] CallW CallP LoopW W IntKind.wrap
theorem c34' (l : List Vc) (n a b k : Nat) (hn : n = l.length) (hl : n ≤ 1000) (hab : a + k ≤ b) (hb : b + k ≤ n) {xa xb xk : Int} (ha : xa = (a : Int)) (hb' : xb = (b : Int)) (hk : xk = (k : Int)) {K : LV → Heap → Prop} (h : ∀ l', SW l a b k l' → K (.tup []) (hpV l')) :
    CallW Try.prog 34 [.sl 0 0 n, I xa, I xb, I xk, cmpF] (hpV l) K := by
  subst ha; subst hb'; subst hk
  exact c34 l n a b k hn hl hab hb h
abbrev s33 (n m i j : Nat) : Slots := [(0, .sl 0 0 n), (2, I m), (4, cmpF), (10, I i), (11, I j)]
theorem c33 (l t : List Vc) (n a m b : Nat) (hn : n = l.length) (hl : n ≤ 1000) (ham : a < m) (hmb : m < b) (hb : b ≤ n) (ht : ROT l a m b t) {K : LV → Heap → Prop} (h : K (.tup []) (hpV t)) :
    CallW Try.prog 33 [.sl 0 0 n, I a, I m, I b, cmpF] (hpV l) K := by
  have hK := h
  clear h
  have w1 := wsub m a (by omega) (by omega)
  have w2 := wsub b m (by omega) (by omega)
  refine CallW.intro TT_ok Try.func33 rfl rfl [0, 1, 2, 3, 4, 10, 11, 20, 23, 1000034] rfl ?_
  conv => whnf
  repeat' first
    | with_reducible rfl
    | with_reducible exact True.intro
    | with_reducible assumption
    | assumption
    | exact absurd (show false = true from h) Bool.false_ne_true
    | exact absurd (show true = false from h) (fun e => Bool.noConfusion e)
    | exact (congrArg Bool.not h)
    | (refine ⟨_, ⟨by first | assumption | decide | omega, by first | assumption | rfl⟩, ?_⟩; conv => whnf)
    | (refine ⟨_, fun _ => ⟨by first | assumption | decide | omega, by first | assumption | rfl⟩, ?_⟩; conv => whnf)
    | exact (rfl : (_ : Nat) = _)
    | exact (rfl : (_ : LV) = _)
    | (refine ⟨fun h => ?_, fun h => ?_⟩ <;> conv => whnf)
    | (refine ⟨?_, ?_⟩ <;> conv => whnf)
    | (intro h; conv => whnf)
    | (refine gand ?_ h; assumption)
  refine LoopW.norm (s33 n m (m - a) (b - m)) 1 [(0, .row 31 4 (l.map Vc.cells))] ⟨rfl, rfl, rfl, congrArg (LV.int .i64) w1, congrArg (LV.int .i64) w2, trivial⟩ (hpS l rfl) ⟨rfl, trivial, ⟨trivial, trivial⟩, trivial, trivial, trivial⟩ rfl ?_
  refine LoopW.ind (α := Nat × Nat) (fun q => q.1 + q.2) (fun q s' H => ∃ c, (1 ≤ q.1 ∧ 1 ≤ q.2 ∧ q.1 ≤ m ∧ m + q.2 ≤ n ∧ n = c.length ∧ ROT c (m - q.1) m (m + q.2) t) ∧ s' = s33 n m q.1 q.2 ∧ H = hpV c) ?_ (a := (m - a, b - m)) ⟨l, ⟨by simp; omega, by simp; omega, by simp, by simp; omega, hn, ?_⟩, rfl, rfl⟩
  rotate_left
  · simp only
    rw [show m - (m - a) = a by omega, show m + (b - m) = b by omega]
    exact ht
  rintro ⟨i, j⟩ s' H ⟨c, ⟨h1, h2, h3, h4, h5, hr⟩, rfl, rfl⟩ ih
  simp only at h1 h2 h3 h4 hr ih ⊢
  have e1 := wsub m i (by omega) (by omega)
  rcases Nat.lt_trichotomy i j with hij | hij | hij
  · have d1 : (!decide ((i : Int) = (j : Int))) = true := by simp; omega
    have d2 : decide ((j : Int) < (i : Int)) = false := by rw [decide_eq_false_iff_not]; omega
    have e2 := wadd m j (by omega) (by omega)
    have e3 : IntKind.i64.wrap (IntKind.i64.wrap ((m : Int) + (j : Int)) - (i : Int)) = ((m + j - i : Nat) : Int) := by rw [e2]; exact wsub (m + j) i (by omega) (by omega)
    have e4 := wsub j i (by omega) (by omega)
    refine LoopW.round TT_ok [0, 1, 2, 3, 4, 10, 11, 20, 23, 1000034] ?_
    conv => whnf
    repeat' first
      | with_reducible rfl
      | with_reducible exact True.intro
      | with_reducible assumption
      | exact (Bool.false_ne_true (h.symm.trans d1)).elim
      | exact (Bool.false_ne_true (d2.symm.trans h)).elim
      | assumption
      | exact absurd (show false = true from h) Bool.false_ne_true
      | exact absurd (show true = false from h) (fun e => Bool.noConfusion e)
      | exact (congrArg Bool.not h)
      | (refine ⟨_, ⟨by first | assumption | decide | omega, by first | assumption | rfl⟩, ?_⟩; conv => whnf)
      | (refine ⟨_, fun _ => ⟨by first | assumption | decide | omega, by first | assumption | rfl⟩, ?_⟩; conv => whnf)
      | exact (rfl : (_ : Nat) = _)
      | exact (rfl : (_ : LV) = _)
      | (refine ⟨fun h => ?_, fun h => ?_⟩ <;> conv => whnf)
      | (refine ⟨?_, ?_⟩ <;> conv => whnf)
      | (intro h; conv => whnf)
      | (refine gand ?_ h; assumption)
    refine c34' c n (m - i) (m + j - i) i h5 hl (by omega) (by omega) e1 e3 rfl ?_
    intro c' hs
    conv => whnf
    repeat' first
      | with_reducible rfl
      | with_reducible exact True.intro
      | with_reducible assumption
      | assumption
      | exact absurd (show false = true from h) Bool.false_ne_true
      | exact absurd (show true = false from h) (fun e => Bool.noConfusion e)
      | exact (congrArg Bool.not h)
      | (refine ⟨_, ⟨by first | assumption | decide | omega, by first | assumption | rfl⟩, ?_⟩; conv => whnf)
      | (refine ⟨_, fun _ => ⟨by first | assumption | decide | omega, by first | assumption | rfl⟩, ?_⟩; conv => whnf)
      | exact (rfl : (_ : Nat) = _)
      | exact (rfl : (_ : LV) = _)
      | (refine ⟨fun h => ?_, fun h => ?_⟩ <;> conv => whnf)
      | (refine ⟨?_, ?_⟩ <;> conv => whnf)
      | (intro h; conv => whnf)
      | (refine gand ?_ h; assumption)
    refine LoopW.norm (s33 n m i (j - i)) 1 [(0, .row 31 4 (c'.map Vc.cells))] ⟨rfl, rfl, rfl, rfl, congrArg (LV.int .i64) e4, trivial⟩ (hpS c' rfl) ⟨rfl, trivial, ⟨trivial, trivial⟩, trivial, trivial, trivial⟩ rfl (ih (i, j - i) _ _ ⟨c', ⟨h1, by simp; omega, h3, by simp; omega, h5.trans hs.1.symm, hr.right h3 hij hs⟩, rfl, rfl⟩ (by simp; omega))
  · subst hij
    have d1 : (!decide ((i : Int) = (i : Int))) = false := by simp
    refine LoopW.round TT_ok [0, 1, 2, 3, 4, 10, 11, 20, 23, 1000034] ?_
    conv => whnf
    repeat' first
      | with_reducible rfl
      | with_reducible exact True.intro
      | with_reducible assumption
      | exact (Bool.false_ne_true (d1.symm.trans h)).elim
      | assumption
      | exact absurd (show false = true from h) Bool.false_ne_true
      | exact absurd (show true = false from h) (fun e => Bool.noConfusion e)
      | exact (congrArg Bool.not h)
      | (refine ⟨_, ⟨by first | assumption | decide | omega, by first | assumption | rfl⟩, ?_⟩; conv => whnf)
      | (refine ⟨_, fun _ => ⟨by first | assumption | decide | omega, by first | assumption | rfl⟩, ?_⟩; conv => whnf)
      | exact (rfl : (_ : Nat) = _)
      | exact (rfl : (_ : LV) = _)
      | (refine ⟨fun h => ?_, fun h => ?_⟩ <;> conv => whnf)
      | (refine ⟨?_, ?_⟩ <;> conv => whnf)
      | (intro h; conv => whnf)
      | (refine gand ?_ h; assumption)
    refine c34' c n (m - i) m i h5 hl (by omega) (by omega) e1 rfl rfl ?_
    intro c' hs
    have := hr.last h3 hs
    subst this
    conv => whnf
    repeat' first
      | with_reducible rfl
      | with_reducible exact True.intro
      | with_reducible assumption
      | exact hK
      | assumption
      | exact absurd (show false = true from h) Bool.false_ne_true
      | exact absurd (show true = false from h) (fun e => Bool.noConfusion e)
      | exact (congrArg Bool.not h)
      | (refine ⟨_, ⟨by first | assumption | decide | omega, by first | assumption | rfl⟩, ?_⟩; conv => whnf)
      | (refine ⟨_, fun _ => ⟨by first | assumption | decide | omega, by first | assumption | rfl⟩, ?_⟩; conv => whnf)
      | exact (rfl : (_ : Nat) = _)
      | exact (rfl : (_ : LV) = _)
      | (refine ⟨fun h => ?_, fun h => ?_⟩ <;> conv => whnf)
      | (refine ⟨?_, ?_⟩ <;> conv => whnf)
      | (intro h; conv => whnf)
      | (refine gand ?_ h; assumption)
    all_goals skip
  · have d1 : (!decide ((i : Int) = (j : Int))) = true := by simp; omega
    have d2 : decide ((j : Int) < (i : Int)) = true := by rw [decide_eq_true_eq]; omega
    have e4 := wsub i j (by omega) (by omega)
    refine LoopW.round TT_ok [0, 1, 2, 3, 4, 10, 11, 20, 23, 1000034] ?_
    conv => whnf
    repeat' first
      | with_reducible rfl
      | with_reducible exact True.intro
      | with_reducible assumption
      | exact (Bool.false_ne_true (h.symm.trans d1)).elim
      | exact (Bool.false_ne_true (h.symm.trans d2)).elim
      | assumption
      | exact absurd (show false = true from h) Bool.false_ne_true
      | exact absurd (show true = false from h) (fun e => Bool.noConfusion e)
      | exact (congrArg Bool.not h)
      | (refine ⟨_, ⟨by first | assumption | decide | omega, by first | assumption | rfl⟩, ?_⟩; conv => whnf)
      | (refine ⟨_, fun _ => ⟨by first | assumption | decide | omega, by first | assumption | rfl⟩, ?_⟩; conv => whnf)
      | exact (rfl : (_ : Nat) = _)
      | exact (rfl : (_ : LV) = _)
      | (refine ⟨fun h => ?_, fun h => ?_⟩ <;> conv => whnf)
      | (refine ⟨?_, ?_⟩ <;> conv => whnf)
      | (intro h; conv => whnf)
      | (refine gand ?_ h; assumption)
    refine c34' c n (m - i) m j h5 hl (by omega) (by omega) e1 rfl rfl ?_
    intro c' hs
    conv => whnf
    repeat' first
      | with_reducible rfl
      | with_reducible exact True.intro
      | with_reducible assumption
      | assumption
      | exact absurd (show false = true from h) Bool.false_ne_true
      | exact absurd (show true = false from h) (fun e => Bool.noConfusion e)
      | exact (congrArg Bool.not h)
      | (refine ⟨_, ⟨by first | assumption | decide | omega, by first | assumption | rfl⟩, ?_⟩; conv => whnf)
      | (refine ⟨_, fun _ => ⟨by first | assumption | decide | omega, by first | assumption | rfl⟩, ?_⟩; conv => whnf)
      | exact (rfl : (_ : Nat) = _)
      | exact (rfl : (_ : LV) = _)
      | (refine ⟨fun h => ?_, fun h => ?_⟩ <;> conv => whnf)
      | (refine ⟨?_, ?_⟩ <;> conv => whnf)
      | (intro h; conv => whnf)
      | (refine gand ?_ h; assumption)
    refine LoopW.norm (s33 n m (i - j) j) 1 [(0, .row 31 4 (c'.map Vc.cells))] ⟨rfl, rfl, rfl, congrArg (LV.int .i64) e4, rfl, trivial⟩ (hpS c' rfl) ⟨rfl, trivial, ⟨trivial, trivial⟩, trivial, trivial, trivial⟩ rfl (ih (i - j, j) _ _ ⟨c', ⟨by simp; omega, h2, by simp; omega, h4, h5.trans hs.1.symm, hr.left h3 hij hs⟩, rfl, rfl⟩ (by simp; omega))
end Go.RX

