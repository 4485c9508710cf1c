/- The contract of footwaylaw11.few. -/
import Derived.Test.YtammhcpnhejapaaTyf
set_option linter.unusedVariables false
set_option linter.unusedSimpArgs false
open Go Go.RX Go.Proofs
namespace Go.RX
set_option maxRecDepth 10000
set_option maxHeartbeats 1000000
attribute [local irreducible] CallW CallP LoopW W
theorem mn_nat (n k : Nat) : mn (n : Int) (k : Int) = ((min n k : Nat) : Int) := by
  unfold mn
  split <;> omega
theorem mn_low (n k : Nat) : (mn (n : Int) (k : Int) - 0).NonNeg := by
  show (0 : Int) ≤ mn n k
  rw [mn_nat]; omega
theorem mn_top (n k : Nat) : ((n : Int) - mn (n : Int) (k : Int)).NonNeg := by
  show mn (n : Int) k ≤ n
  rw [mn_nat]; omega
theorem take_mn {α β : Type} (l : List α) (f : α → β) (k : Nat) : List.take (mn ((l.map f).length : Int) (k : Int)).toNat (l.map f) = (l.take k).map f := by
  rw [mn_nat, Int.toNat_natCast, Nat.min_comm, ← List.take_eq_take_min, List.map_take]
def few (s : Slf) : Slf := ⟨s.i, s.cs.take 12, s.us.take 12, s.fs.take 12⟩
theorem c27 (s : Slf) : CallP Try.prog 27 [slfL s] (slfL (few s)) := by
  refine .intro (by simp [NLs, NL]) (.intro TT_ok Try.func27 rfl rfl [0, 1, 2] rfl ?_)
  conv => whnf
  repeat' first
    | with_reducible rfl
    | with_reducible exact True.intro
    | assumption
    | (refine W.drawnM (id := 1) TT_ok hmix1 [0, 0, 0, 0, 0, 0, 0, 0, 0, 0, 0, 0, 0, 0, 0, 0, 0, 0, 0, 0, 0, 0, 0, 1, 1, 2, 2] [0, 0, 0, 0, 0, 0, 0, 0, 0, 0, 0, 1, 1, 1, 0, 0, 0, 0, 2, 2, 2, 0, 1, 1, 2, 2, 3] rfl ?_; conv => whnf)
    | exact absurd (show false = true from h) Bool.false_ne_true
    | exact absurd (show true = false from h) (fun e => Bool.noConfusion e)
    | exact (congrArg Bool.not h)
    | (refine ⟨_, ⟨by first | assumption | decide | omega, by first | assumption | rfl⟩, ?_⟩; conv => whnf)
    | exact (rfl : (_ : Nat) = _)
    | exact (rfl : (_ : LV) = _)
    | (refine ⟨fun h => ?_, fun h => ?_⟩ <;> conv => whnf)
    | (refine ⟨?_, ?_⟩ <;> conv => whnf)
    | (intro h; conv => whnf)
  all_goals first | exact mn_low _ 12 | exact mn_top _ 12 | exact take_mn _ _ 12 | rfl
theorem d68 (v : Vc) : CallP Try.prog 68 [vL v] (.bool (!rgt v)) := by
  refine .intro (by simp [NLs, NL]) (.intro TT_ok Try.func68 rfl rfl [0, 1, 2] rfl ?_)
  conv => whnf
  repeat' first
    | with_reducible rfl
    | with_reducible exact True.intro
    | assumption
    | (refine CallP.use (d30 _) ?_; conv => whnf)
    | (refine ⟨_, fun _ => d30 _, ?_⟩; conv => whnf)
    | exact absurd (show false = true from h) Bool.false_ne_true
    | exact absurd (show true = false from h) (fun e => Bool.noConfusion e)
    | exact (congrArg Bool.not h)
    | (refine ⟨_, ⟨by first | assumption | decide | omega, by first | assumption | rfl⟩, ?_⟩; conv => whnf)
    | exact (rfl : (_ : Nat) = _)
    | exact (rfl : (_ : LV) = _)
    | (refine ⟨fun h => ?_, fun h => ?_⟩ <;> conv => whnf)
    | (refine ⟨?_, ?_⟩ <;> conv => whnf)
    | (intro h; conv => whnf)
def ixOf {α : Type} (p : α → Bool) : Nat → List α → Int
  | _, [] => -1
  | k, a :: r => if p a = true then k else ixOf p (k + 1) r
theorem ixOf_skip {α : Type} {p : α → Bool} : ∀ {l : List α} {k j : Nat}, (∀ (i : Nat) (a : α), i < j → l[i]? = some a → p a = false) → ixOf p k l = ixOf p (k + j) (l.drop j)
  | [], k, j, h => by simp [ixOf]
  | a :: r, k, 0, h => by simp
  | a :: r, k, j + 1, h => by
    have h0 := h 0 a (by omega) rfl
    rw [ixOf, if_neg (by rw [h0]; exact Bool.false_ne_true), ixOf_skip (j := j) (fun i x hi hx => h (i + 1) x (by omega) (by simpa using hx))]
    rw [List.drop_succ_cons, show k + 1 + j = k + (j + 1) by omega]
theorem w64_nat {k : Nat} (h : k ≤ 1000000) : IntKind.i64.wrap ((k : Int) + 1) = ((k + 1 : Nat) : Int) := by
  rw [show ((k : Int) + 1) = ((k + 1 : Nat) : Int) by omega]
  exact w64_small (by omega) (by omega)
abbrev s71 (l : List Vc) (k : Nat) : Slots := [(0, vecsL l), (1, .func (.func 68) [] []), (7, I (l.map Vc.cells).length), (8, I k)]
theorem c71 (l : List Vc) (hl : l.length ≤ 1000) : CallP Try.prog 71 [vecsL l, .func (.func 68) [] []] (I (ixOf (fun v => !rgt v) 0 l)) := by
  refine .intro (by simp [NLs, NL]) (.intro TT_ok Try.func71 rfl rfl [0, 1, 4, 5, 7, 8, 9, 16] rfl ?_)
  conv => whnf
  repeat' first
    | with_reducible rfl
    | with_reducible exact True.intro
    | assumption
    | exact absurd (show false = true from h) Bool.false_ne_true
    | exact absurd (show true = false from h) (fun e => Bool.noConfusion e)
    | exact (congrArg Bool.not h)
    | (refine ⟨_, ⟨by first | assumption | decide | omega, by first | assumption | rfl⟩, ?_⟩; conv => whnf)
    | exact (rfl : (_ : Nat) = _)
    | exact (rfl : (_ : LV) = _)
    | (refine ⟨fun h => ?_, fun h => ?_⟩ <;> conv => whnf)
    | (refine ⟨?_, ?_⟩ <;> conv => whnf)
    | (intro h; conv => whnf)
  refine LoopW.norm (s71 l 0) 0 [] ⟨rfl, rfl, rfl, rfl, trivial⟩ trivial ⟨trivial, ⟨trivial, trivial⟩, trivial, trivial, trivial⟩ rfl ?_
  refine LoopW.ind (α := Nat) (fun k => l.length - k) (fun k s' H => (k ≤ l.length ∧ ∀ (i : Nat) (a : Vc), i < k → l[i]? = some a → (!rgt a) = false) ∧ s' = s71 l k ∧ H = ⟨0, []⟩) ?_ (a := 0) ⟨⟨Nat.zero_le _, fun i a hi => absurd hi (Nat.not_lt_zero _)⟩, rfl, rfl⟩
  rintro k s' H ⟨⟨hk, hall⟩, rfl, rfl⟩ ih
  have hsk := ixOf_skip (k := 0) hall
  rw [Nat.zero_add] at hsk
  by_cases hi : k < l.length
  · have hd : decide ((k : Int) < ((l.map Vc.cells).length : Int)) = true := by simp; omega
    have hb : (l.map Vc.cells)[k]? = some (l[k]).cells := by simp [hi]
    rw [List.drop_eq_getElem_cons hi, ixOf] at hsk
    refine LoopW.round TT_ok [0, 1, 4, 5, 7, 8, 9, 16] ?_
    conv => whnf
    repeat' first
      | with_reducible rfl
      | with_reducible exact True.intro
      | assumption
      | exact (Bool.false_ne_true (h.symm.trans hd)).elim
      | (refine CallP.use (d68 l[k]) ?_; conv => whnf)
      | (refine ⟨_, fun _ => d68 l[k], ?_⟩; conv => whnf)
      | exact absurd (show false = true from h) Bool.false_ne_true
      | exact absurd (show true = false from h) (fun e => Bool.noConfusion e)
      | exact (congrArg Bool.not h)
      | (refine ⟨_, ⟨by first | assumption | decide | omega, by first | assumption | rfl⟩, ?_⟩; conv => whnf)
      | exact (rfl : (_ : Nat) = _)
      | exact (rfl : (_ : LV) = _)
      | (refine ⟨fun h => ?_, fun h => ?_⟩ <;> conv => whnf)
      | (refine ⟨?_, ?_⟩ <;> conv => whnf)
      | (intro h; conv => whnf)
    · rw [hsk, if_pos h]
    · refine LoopW.norm (s71 l (k + 1)) 0 [] ⟨rfl, rfl, rfl, congrArg (LV.int .i64) (w64_nat (by omega)), trivial⟩ trivial ⟨trivial, ⟨trivial, trivial⟩, trivial, trivial, trivial⟩ rfl (ih (k + 1) _ _ ⟨⟨hi, fun i a hik ha => ?_⟩, rfl, rfl⟩ (by omega))
      by_cases hki : i = k
      · subst hki
        rw [List.getElem?_eq_getElem hi] at ha
        cases ha; exact h
      · exact hall i a (by omega) ha
  · have hd : decide ((k : Int) < ((l.map Vc.cells).length : Int)) = false := by simp; omega
    rw [List.drop_eq_nil_of_le (by omega), ixOf] at hsk
    refine LoopW.round TT_ok [0, 1, 4, 5, 7, 8, 9, 16] ?_
    conv => whnf
    repeat' first
      | with_reducible rfl
      | with_reducible exact True.intro
      | assumption
      | exact (Bool.false_ne_true (hd.symm.trans h)).elim
      | exact absurd (show false = true from h) Bool.false_ne_true
      | exact absurd (show true = false from h) (fun e => Bool.noConfusion e)
      | exact (congrArg Bool.not h)
      | (refine ⟨_, ⟨by first | assumption | decide | omega, by first | assumption | rfl⟩, ?_⟩; conv => whnf)
      | exact (rfl : (_ : Nat) = _)
      | exact (rfl : (_ : LV) = _)
      | (refine ⟨fun h => ?_, fun h => ?_⟩ <;> conv => whnf)
      | (refine ⟨?_, ?_⟩ <;> conv => whnf)
      | (intro h; conv => whnf)
    exact hsk.symm
theorem ixOf_neg {α : Type} {p : α → Bool} : ∀ {l : List α} {k : Nat}, (0 ≤ ixOf p k l) ↔ l.any p = true
  | [], k => by simp [ixOf]
  | a :: r, k => by
    rw [ixOf]
    split
    · rename_i h; simp [h]
    · rename_i h; rw [ixOf_neg]; simp [h]
theorem c67 (l : List Vc) (hl : l.length ≤ 1000) : CallP Try.prog 67 [vecsL l, .func (.func 68) [] []] (.bool (l.any fun v => !rgt v)) := by
  refine .intro (by simp [NLs, NL]) (.intro TT_ok Try.func67 rfl rfl [0, 1, 4] rfl ?_)
  conv => whnf
  repeat' first
    | with_reducible rfl
    | with_reducible exact True.intro
    | assumption
    | (refine CallP.use (c71 l hl) ?_; conv => whnf)
    | (refine ⟨_, fun _ => c71 l hl, ?_⟩; conv => whnf)
    | exact absurd (show false = true from h) Bool.false_ne_true
    | exact absurd (show true = false from h) (fun e => Bool.noConfusion e)
    | exact (congrArg Bool.not h)
    | (refine ⟨_, ⟨by first | assumption | decide | omega, by first | assumption | rfl⟩, ?_⟩; conv => whnf)
    | exact (rfl : (_ : Nat) = _)
    | exact (rfl : (_ : LV) = _)
    | (refine ⟨fun h => ?_, fun h => ?_⟩ <;> conv => whnf)
    | (refine ⟨?_, ?_⟩ <;> conv => whnf)
    | (intro h; conv => whnf)
  simp only [ge_iff_le, ixOf_neg, Bool.decide_eq_true]
theorem any_all (l : List Vc) : (l.any fun v => !rgt v) = !l.all rgt := by
  induction l with
  | nil => rfl
  | cons a r ih => simp only [List.any_cons, List.all_cons, ih]; cases rgt a <;> rfl
theorem c61 (l : List Vc) (hl : l.length ≤ 1000) : CallP Try.prog 61 [vecsL l] (.bool (l.all rgt)) := by
  refine .intro (by simp [NLs, NL]) (.intro TT_ok Try.func61 rfl rfl [0, 2] rfl ?_)
  conv => whnf
  repeat' first
    | with_reducible rfl
    | with_reducible exact True.intro
    | assumption
    | (refine CallP.use (c67 l hl) ?_; conv => whnf)
    | (refine ⟨_, fun _ => c67 l hl, ?_⟩; conv => whnf)
    | exact absurd (show false = true from h) Bool.false_ne_true
    | exact absurd (show true = false from h) (fun e => Bool.noConfusion e)
    | exact (congrArg Bool.not h)
    | (refine ⟨_, ⟨by first | assumption | decide | omega, by first | assumption | rfl⟩, ?_⟩; conv => whnf)
    | exact (rfl : (_ : Nat) = _)
    | exact (rfl : (_ : LV) = _)
    | (refine ⟨fun h => ?_, fun h => ?_⟩ <;> conv => whnf)
    | (refine ⟨?_, ?_⟩ <;> conv => whnf)
    | (intro h; conv => whnf)
  rw [any_all, Bool.not_not]
/-- The place of the best of the first ones. -/
def bestN (l : List Vc) : Nat → Nat
  | 0 => 0
  | k + 1 => match l[k]?, l[bestN l k]? with
    | some a, some b => if bet a b = true then k else bestN l k
    | _, _ => bestN l k
theorem bestN_lt {l : List Vc} (h : 0 < l.length) : ∀ {k : Nat}, k ≤ l.length → bestN l k < l.length
  | 0, _ => h
  | k + 1, hk => by
    have := bestN_lt h (k := k) (by omega)
    simp only [bestN]
    split
    · split
      · omega
      · exact this
    · exact this
theorem d50 (v w : Vc) : CallP Try.prog 50 [.iface 88 (vL v), vL w] (.bool (decide (rankL v.r v.c v.b v.p w.r w.c w.b w.p < 0))) := c50 ..
abbrev s41 (l : List Vc) (k : Nat) : Slots := [(0, vecsL l), (4, I (bestN l k)), (15, vecsL l), (16, I (l.map Vc.cells).length), (17, I k)]
def bErr (l : List Vc) : Int := if l.all rgt = true then (if l.length = 0 then 4 else 0) else 1
def bAt (l : List Vc) : Int := if l.all rgt = true then (bestN l l.length : Nat) else 0
theorem bet_right {v w : Vc} (hv : rgt v = true) (hw : rgt w = true) : bet v w = decide (rankL v.r v.c v.b v.p w.r w.c w.b w.p < 0) := by
  simp only [bet, vBet]
  simp only [rgt] at hv hw
  rw [hv, hw]; rfl
theorem c41 (l : List Vc) (hl : l.length ≤ 1000) : CallP Try.prog 41 [vecsL l] (.tup [I (bAt l), I (bErr l)]) := by
  refine .intro (by simp [NLs, NL]) (.intro TT_ok Try.func41 rfl rfl [0, 2, 3, 4, 5, 6, 7, 11, 15, 16, 17, 18, 30] rfl ?_)
  conv => whnf
  have hlen : decide (((l.map Vc.cells).length : Int) = 0) = decide (l.length = 0) := by simp
  repeat' first
    | with_reducible rfl
    | with_reducible exact True.intro
    | assumption
    | (refine CallP.use (c61 l hl) ?_; conv => whnf)
    | (refine ⟨_, fun _ => c61 l hl, ?_⟩; conv => whnf)
    | (refine W.drawn TT_ok hmix1 rfl ?_; conv => whnf)
    | exact absurd (show false = true from h) Bool.false_ne_true
    | exact absurd (show true = false from h) (fun e => Bool.noConfusion e)
    | exact (congrArg Bool.not h)
    | (refine ⟨_, ⟨by first | assumption | decide | omega, by first | assumption | rfl⟩, ?_⟩; conv => whnf)
    | exact (rfl : (_ : Nat) = _)
    | exact (rfl : (_ : LV) = _)
    | (refine ⟨fun h => ?_, fun h => ?_⟩ <;> conv => whnf)
    | (refine ⟨?_, ?_⟩ <;> conv => whnf)
    | (intro h; conv => whnf)
  · rw [bAt, if_neg (by cases hq : l.all rgt <;> simp_all)]
  · rw [bErr, if_neg (by cases hq : l.all rgt <;> simp_all)]
  · rw [hlen, decide_eq_true_eq] at h
    simp_all [bAt]; rfl
  · rw [hlen, decide_eq_true_eq] at h
    simp_all [bErr]
  rw [hlen, decide_eq_false_iff_not] at h
  have hr : l.all rgt = true := by simpa using ‹(!l.all rgt) = false›
  have hR : ∀ v ∈ l, rgt v = true := List.all_eq_true.1 hr
  refine LoopW.norm (s41 l 0) 0 [] ⟨rfl, rfl, rfl, rfl, rfl, trivial⟩ trivial ⟨trivial, trivial, trivial, trivial, trivial, trivial⟩ rfl ?_
  refine LoopW.ind (α := Nat) (fun k => l.length - k) (fun k s' H => k ≤ l.length ∧ s' = s41 l k ∧ H = ⟨0, []⟩) ?_ (a := 0) ⟨Nat.zero_le _, rfl, rfl⟩
  rintro k s' H ⟨hk, rfl, rfl⟩ ih
  have hbl := bestN_lt (l := l) (by omega) hk
  have hb2 : (l.map Vc.cells)[bestN l k]? = some (l[bestN l k]).cells := by simp [hbl]
  by_cases hi : k < l.length
  · have hd : decide ((k : Int) < ((l.map Vc.cells).length : Int)) = true := by simp; omega
    have hb : (l.map Vc.cells)[k]? = some (l[k]).cells := by simp [hi]
    have hbt := bet_right (hR l[k] (List.getElem_mem hi)) (hR l[bestN l k] (List.getElem_mem hbl))
    have h50 := d50 l[k] l[bestN l k]
    have hst : bestN l (k + 1) = if bet l[k] l[bestN l k] = true then k else bestN l k := by
      simp only [bestN, List.getElem?_eq_getElem hi, List.getElem?_eq_getElem hbl]
    refine LoopW.round TT_ok [0, 2, 3, 4, 5, 6, 7, 11, 15, 16, 17, 18, 30] ?_
    conv => whnf
    repeat' first
      | with_reducible rfl
      | with_reducible exact True.intro
      | assumption
      | exact (Bool.false_ne_true (h.symm.trans hd)).elim
      | (refine CallP.use (h50) ?_; conv => whnf)
      | (refine ⟨_, fun _ => h50, ?_⟩; conv => whnf)
      | (refine W.drawn TT_ok hmix1 rfl ?_; conv => whnf)
      | exact absurd (show false = true from h) Bool.false_ne_true
      | exact absurd (show true = false from h) (fun e => Bool.noConfusion e)
      | exact (congrArg Bool.not h)
      | (refine ⟨_, ⟨by first | assumption | decide | omega, by first | assumption | rfl⟩, ?_⟩; conv => whnf)
      | exact (rfl : (_ : Nat) = _)
      | exact (rfl : (_ : LV) = _)
      | (refine ⟨fun h => ?_, fun h => ?_⟩ <;> conv => whnf)
      | (refine ⟨?_, ?_⟩ <;> conv => whnf)
      | (intro h; conv => whnf)
    · have e : bestN l (k + 1) = k := by rw [hst, hbt, if_pos h]
      refine LoopW.norm (s41 l (k + 1)) 0 [] ⟨rfl, congrArg (LV.int .i64) (by rw [e]), rfl, rfl, congrArg (LV.int .i64) (w64_nat (by omega)), trivial⟩ trivial ⟨trivial, trivial, trivial, trivial, trivial, trivial⟩ rfl (ih (k + 1) _ _ ⟨hi, rfl, rfl⟩ (by omega))
    · have e : bestN l (k + 1) = bestN l k := by rw [hst, hbt, if_neg (by rw [h]; exact Bool.false_ne_true)]
      refine LoopW.norm (s41 l (k + 1)) 0 [] ⟨rfl, congrArg (LV.int .i64) (by rw [e]), rfl, rfl, congrArg (LV.int .i64) (w64_nat (by omega)), trivial⟩ trivial ⟨trivial, trivial, trivial, trivial, trivial, trivial⟩ rfl (ih (k + 1) _ _ ⟨hi, rfl, rfl⟩ (by omega))
  · have hd : decide ((k : Int) < ((l.map Vc.cells).length : Int)) = false := by simp; omega
    have : k = l.length := by omega
    subst this
    refine LoopW.round TT_ok [0, 2, 3, 4, 5, 6, 7, 11, 15, 16, 17, 18, 30] ?_
    conv => whnf
    repeat' first
      | with_reducible rfl
      | with_reducible exact True.intro
      | assumption
      | exact (Bool.false_ne_true (hd.symm.trans h)).elim
      | (refine W.drawn TT_ok hmix1 rfl ?_; conv => whnf)
      | exact absurd (show false = true from h) Bool.false_ne_true
      | exact absurd (show true = false from h) (fun e => Bool.noConfusion e)
      | exact (congrArg Bool.not h)
      | (refine ⟨_, ⟨by first | assumption | decide | omega, by first | assumption | rfl⟩, ?_⟩; conv => whnf)
      | exact (rfl : (_ : Nat) = _)
      | exact (rfl : (_ : LV) = _)
      | (refine ⟨fun h => ?_, fun h => ?_⟩ <;> conv => whnf)
      | (refine ⟨?_, ?_⟩ <;> conv => whnf)
      | (intro h; conv => whnf)
    · simp [bAt, hr]
    · rw [bErr, if_pos hr, if_neg ‹¬l.length = 0›]
end Go.RX

