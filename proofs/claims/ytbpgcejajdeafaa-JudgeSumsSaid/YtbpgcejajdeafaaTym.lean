/- Contracts of lan.Right and judge.Hears. -/
import Derived.Test.YtbpgcejajdeafaaTyl
set_option linter.unusedVariables false
set_option linter.unusedSimpArgs false
open Go Go.RX Go.Proofs
namespace Go.RX
set_option maxRecDepth 10000
set_option maxHeartbeats 1000000
structure Lk where
  seg : Int
  cost : Int
  up : Bool
structure Pn where
  id : Int
  ports : List Lk
structure Hs where
  mac : Int
  seg : Int
structure Ln where
  segs : Int
  plans : List Pn
  hosts : List Hs
abbrev Lk.cells (x : Lk) : List LV := [I x.seg, I x.cost, .bool x.up]
abbrev lkL (x : Lk) : LV := .agg [I x.seg, I x.cost, .bool x.up]
abbrev lksL (l : List Lk) : LV := .ro 3 (l.map Lk.cells)
abbrev Pn.cells (x : Pn) : List LV := [I x.id, lksL x.ports]
abbrev pnL (x : Pn) : LV := .agg [I x.id, lksL x.ports]
abbrev pnsL (l : List Pn) : LV := .ro 2 (l.map Pn.cells)
abbrev Hs.cells (x : Hs) : List LV := [I x.mac, I x.seg]
abbrev hsL (x : Hs) : LV := .agg [I x.mac, I x.seg]
abbrev hssL (l : List Hs) : LV := .ro 2 (l.map Hs.cells)
abbrev lnL (p : Ln) : LV := .agg [I p.segs, pnsL p.plans, hssL p.hosts]
def mI (es : List (Int × Int)) : List (LV × LV) := es.map fun p => (I p.1, I p.2)
theorem mI_bel {es : List (Int × Int)} {m : Nat} : ∀ p ∈ mI es, bel m p.1 ∧ bel m p.2 := fun p hp => by
  simp only [mI, List.mem_map] at hp
  obtain ⟨q, h1, rfl⟩ := hp
  exact ⟨trivial, trivial⟩
theorem eqI_no {x y : Int} (h : x ≠ y) : eqL TT 8 3 (I x) (I y) = some false := by
  have : eqL TT 8 3 (I x) (I y) = some (decide (x = y)) := rfl
  rw [this, decide_eq_false h]
theorem fI_none {es : List (Int × Int)} {x : Int} (h : ∀ p ∈ es, p.1 ≠ x) : Finds TT 3 (mI es) (I x) none := by
  intro j p hp
  simp only [mI, List.getElem?_map, Option.map_eq_some_iff] at hp
  obtain ⟨q, h1, rfl⟩ := hp
  exact eqI_no fun e => h q (List.mem_of_getElem? h1) e.symm
theorem fI_end {es : List (Int × Int)} {x : Int} {v : LV} (h : ∀ p ∈ es, p.1 ≠ x) : Finds TT 3 (mI es ++ [(I x, v)]) (I x) (some (es.length, v)) := by
  refine ⟨by simp [mI], fun j p hj hp => ?_⟩
  rw [List.getElem?_append_left (by simpa [mI] using hj)] at hp
  exact fI_none h j p hp
theorem fI_some {x : Int} : ∀ {es : List (Int × Int)}, (∃ p ∈ es, p.1 = x) → ∃ i v, es[i]? = some (x, v) ∧ Finds TT 3 (mI es) (I x) (some (i, I v))
  | [], h => by obtain ⟨p, h1, _⟩ := h; cases h1
  | q :: r, h => by
    by_cases hq : q.1 = x
    · refine ⟨0, q.2, by simp [← hq], by simp [mI, ← hq], fun j p hj => absurd hj (Nat.not_lt_zero _)⟩
    · obtain ⟨p, h1, h2⟩ := h
      have h3 : ∃ p ∈ r, p.1 = x := by
        rcases List.mem_cons.1 h1 with rfl | h4
        · exact absurd h2 hq
        · exact ⟨p, h4, h2⟩
      obtain ⟨i, v, h5, h6, h7⟩ := fI_some h3
      refine ⟨i + 1, v, by simpa using h5, by simpa [mI] using h6, fun j p hj hp => ?_⟩
      cases j with
      | zero =>
        simp only [mI, List.map_cons, List.getElem?_cons_zero, Option.some.injEq] at hp
        subst hp
        exact eqI_no fun e => hq e.symm
      | succ j => exact h7 j p (by omega) (by simpa [mI] using hp)
theorem fI_upd {es : List (LV × LV)} {x v v' : LV} {j : Nat} (h : Finds TT 3 es x (some (j, v))) : Finds TT 3 (setN es j (x, v')) x (some (j, v')) := by
  have hj := (List.getElem?_eq_some_iff.1 h.1).1
  rw [setN_eq]
  refine ⟨by simp [hj], fun i p hi hp => ?_⟩
  rw [List.getElem?_set_ne (by omega)] at hp
  exact h.2 i p hi hp
theorem mI_set (es : List (Int × Int)) (i : Nat) (x v : Int) : setN (mI es) i (I x, I v) = mI (es.set i (x, v)) := by rw [setN_eq]; simp [mI, List.map_set]
theorem mI_app (es : List (Int × Int)) (x v : Int) : mI es ++ [(I x, I v)] = mI (es ++ [(x, v)]) := by simp [mI]
attribute [local irreducible] CallW CallP CallS LoopW W IntKind.wrap Finds bitI
def badL (n : Int) (x : Lk) : Bool := bif !inI x.seg 0 (IntKind.i64.wrap (n - 1)) then true else !inI x.cost 1 1000
theorem c56 (x : Lk) (n : Int) : CallP Try.prog 56 [lkL x, .rptr [I n]] (.bool (badL n x)) := by
  refine .intro (by first | (simp [NLs, NL]; done) | (simp [NLs, NL, nlx]; done)) (.intro TT_ok Try.func56 rfl rfl [0, 1, 2, 3] rfl ?_)
  conv => whnf
  repeat' first
    | with_reducible rfl
    | with_reducible exact True.intro
    | with_reducible assumption
    | (refine CallP.use (c45 _ _ _) ?_; conv => whnf)
    | (refine ⟨_, _, CallP.at (c45 _ _ _), ?_⟩; conv => whnf)
    | (refine ⟨_, fun _ => c45 _ _ _, ?_⟩; conv => whnf)
    | assumption
    | exact absurd (show false = true from h) Bool.false_ne_true
    | exact absurd (show true = false from h) (fun e => Bool.noConfusion e)
    | exact (congrArg Bool.not h)
    | (refine ⟨_, ⟨by first | assumption | decide | omega, by first | assumption | rfl⟩, ?_⟩; conv => whnf)
    | (refine ⟨_, fun _ => ⟨by first | assumption | decide | omega, by first | assumption | rfl⟩, ?_⟩; conv => whnf)
    | exact (rfl : (_ : Nat) = _)
    | exact (rfl : (_ : LV) = _)
    | (refine ⟨fun h => ?_, fun h => ?_⟩ <;> conv => whnf)
    | (refine ⟨?_, ?_⟩ <;> conv => whnf)
    | (intro h; conv => whnf)
    | (refine gand ?_ h; assumption)
  all_goals rfl
def bdx (l : List Lk) (n : Int) : Nat := l.findIdx (badL n)
abbrev s64 (l : List Lk) (n : Int) (k : Nat) : Slots := [(0, lksL l), (1, .func (.func 56) [] [.rptr [I n]]), (7, I (l.map Lk.cells).length), (8, I k)]
theorem c64 (l : List Lk) (hl : l.length ≤ 1000) (n : Int) : CallP Try.prog 64 [lksL l, .func (.func 56) [] [.rptr [I n]]] (I (if bdx l n < l.length then (bdx l n : Int) else -1)) := by
  have hL : (l.map Lk.cells).length = l.length := List.length_map ..
  refine .intro (by first | (simp [NLs, NL]; done) | (simp [NLs, NL, nlx]; done)) (.intro TT_ok Try.func64 rfl rfl [0, 1, 4, 5, 7, 8, 9, 16] rfl ?_)
  conv => whnf
  repeat' first
    | with_reducible rfl
    | with_reducible exact True.intro
    | with_reducible assumption
    | assumption
    | exact absurd (show false = true from h) Bool.false_ne_true
    | exact absurd (show true = false from h) (fun e => Bool.noConfusion e)
    | exact (congrArg Bool.not h)
    | (refine ⟨_, ⟨by first | assumption | decide | omega, by first | assumption | rfl⟩, ?_⟩; conv => whnf)
    | (refine ⟨_, fun _ => ⟨by first | assumption | decide | omega, by first | assumption | rfl⟩, ?_⟩; conv => whnf)
    | exact (rfl : (_ : Nat) = _)
    | exact (rfl : (_ : LV) = _)
    | (refine ⟨fun h => ?_, fun h => ?_⟩ <;> conv => whnf)
    | (refine ⟨?_, ?_⟩ <;> conv => whnf)
    | (intro h; conv => whnf)
    | (refine gand ?_ h; assumption)
  refine LoopW.norm (s64 l n 0) 0 [] ⟨rfl, rfl, rfl, rfl, trivial⟩ trivial ⟨trivial, ⟨trivial, trivial, trivial⟩, trivial, trivial, trivial⟩ rfl ?_
  refine LoopW.ind (α := Nat) (fun k => l.length - k) (fun k s' H => (k ≤ l.length ∧ k ≤ bdx l n) ∧ s' = s64 l n k ∧ H = ⟨0, []⟩) ?_ (a := 0) ⟨⟨Nat.zero_le _, Nat.zero_le _⟩, rfl, rfl⟩
  rintro k s' H ⟨⟨hk, hkd⟩, rfl, rfl⟩ ih
  by_cases hi : k < l.length
  · have hd : decide ((k : Int) < ((l.map Lk.cells).length : Int)) = true := by rw [decide_eq_true_eq]; omega
    have hb : (l.map Lk.cells)[k]? = some l[k].cells := by simp [hi]
    have h56 := c56 l[k] n
    cases hn : badL n l[k] with
    | true =>
      have hkk : bdx l n = k := by
        refine Nat.le_antisymm ?_ hkd
        exact Nat.not_lt.1 fun h => by
          have := List.not_of_lt_findIdx h
          rw [this] at hn; cases hn
      rw [hn] at h56
      refine LoopW.round TT_ok [0, 1, 4, 5, 7, 8, 9, 16] ?_
      conv => whnf
      repeat' first
        | with_reducible rfl
        | with_reducible exact True.intro
        | with_reducible assumption
        | exact (Bool.false_ne_true (h.symm.trans hd)).elim
        | (refine CallP.use (h56) ?_; conv => whnf)
        | (refine ⟨_, _, CallP.at (h56), ?_⟩; conv => whnf)
        | (refine ⟨_, fun _ => h56, ?_⟩; conv => whnf)
        | assumption
        | exact absurd (show false = true from h) Bool.false_ne_true
        | exact absurd (show true = false from h) (fun e => Bool.noConfusion e)
        | exact (congrArg Bool.not h)
        | (refine ⟨_, ⟨by first | assumption | decide | omega, by first | assumption | rfl⟩, ?_⟩; conv => whnf)
        | (refine ⟨_, fun _ => ⟨by first | assumption | decide | omega, by first | assumption | rfl⟩, ?_⟩; conv => whnf)
        | exact (rfl : (_ : Nat) = _)
        | exact (rfl : (_ : LV) = _)
        | (refine ⟨fun h => ?_, fun h => ?_⟩ <;> conv => whnf)
        | (refine ⟨?_, ?_⟩ <;> conv => whnf)
        | (intro h; conv => whnf)
        | (refine gand ?_ h; assumption)
      all_goals (rw [hkk, if_pos hi])
    | false =>
      have hk1 : k + 1 ≤ bdx l n := by
        rcases Nat.lt_or_ge k (bdx l n) with h | h
        · exact h
        · exfalso
          have hkk : bdx l n = k := Nat.le_antisymm h hkd
          have h1 : badL n l[bdx l n] = true := List.findIdx_getElem (w := by show bdx l n < _; omega)
          simp only [hkk, hn] at h1
          cases h1
      rw [hn] at h56
      refine LoopW.round TT_ok [0, 1, 4, 5, 7, 8, 9, 16] ?_
      conv => whnf
      repeat' first
        | with_reducible rfl
        | with_reducible exact True.intro
        | with_reducible assumption
        | exact (Bool.false_ne_true (h.symm.trans hd)).elim
        | (refine CallP.use (h56) ?_; conv => whnf)
        | (refine ⟨_, _, CallP.at (h56), ?_⟩; conv => whnf)
        | (refine ⟨_, fun _ => h56, ?_⟩; conv => whnf)
        | assumption
        | exact absurd (show false = true from h) Bool.false_ne_true
        | exact absurd (show true = false from h) (fun e => Bool.noConfusion e)
        | exact (congrArg Bool.not h)
        | (refine ⟨_, ⟨by first | assumption | decide | omega, by first | assumption | rfl⟩, ?_⟩; conv => whnf)
        | (refine ⟨_, fun _ => ⟨by first | assumption | decide | omega, by first | assumption | rfl⟩, ?_⟩; conv => whnf)
        | exact (rfl : (_ : Nat) = _)
        | exact (rfl : (_ : LV) = _)
        | (refine ⟨fun h => ?_, fun h => ?_⟩ <;> conv => whnf)
        | (refine ⟨?_, ?_⟩ <;> conv => whnf)
        | (intro h; conv => whnf)
        | (refine gand ?_ h; assumption)
      refine LoopW.norm (s64 l n (k + 1)) 0 [] ⟨rfl, rfl, rfl, congrArg (LV.int .i64) (w64_nat (by omega)), trivial⟩ trivial ⟨trivial, ⟨trivial, trivial, trivial⟩, trivial, trivial, trivial⟩ rfl (ih (k + 1) _ _ ⟨⟨hi, hk1⟩, rfl, rfl⟩ (by omega))
  · have hd : decide ((k : Int) < ((l.map Lk.cells).length : Int)) = false := by rw [decide_eq_false_iff_not]; omega
    refine LoopW.round TT_ok [0, 1, 4, 5, 7, 8, 9, 16] ?_
    conv => whnf
    repeat' first
      | with_reducible rfl
      | with_reducible exact True.intro
      | with_reducible assumption
      | exact (Bool.false_ne_true (hd.symm.trans h)).elim
      | assumption
      | exact absurd (show false = true from h) Bool.false_ne_true
      | exact absurd (show true = false from h) (fun e => Bool.noConfusion e)
      | exact (congrArg Bool.not h)
      | (refine ⟨_, ⟨by first | assumption | decide | omega, by first | assumption | rfl⟩, ?_⟩; conv => whnf)
      | (refine ⟨_, fun _ => ⟨by first | assumption | decide | omega, by first | assumption | rfl⟩, ?_⟩; conv => whnf)
      | exact (rfl : (_ : Nat) = _)
      | exact (rfl : (_ : LV) = _)
      | (refine ⟨fun h => ?_, fun h => ?_⟩ <;> conv => whnf)
      | (refine ⟨?_, ?_⟩ <;> conv => whnf)
      | (intro h; conv => whnf)
      | (refine gand ?_ h; assumption)
    rw [if_neg (by omega)]
theorem c57 (l : List Lk) (hl : l.length ≤ 1000) (n : Int) : ∃ b, CallP Try.prog 57 [lksL l, .func (.func 56) [] [.rptr [I n]]] (.bool b) := by
  have h64 := c64 l hl n
  refine ⟨?_, ?_⟩
  rotate_left
  refine .intro (by first | (simp [NLs, NL]; done) | (simp [NLs, NL, nlx]; done)) (.intro TT_ok Try.func57 rfl rfl [0, 1, 4] rfl ?_)
  conv => whnf
  repeat' first
    | with_reducible rfl
    | with_reducible exact True.intro
    | with_reducible assumption
    | (refine CallP.use (h64) ?_; conv => whnf)
    | (refine ⟨_, _, CallP.at (h64), ?_⟩; conv => whnf)
    | (refine ⟨_, fun _ => h64, ?_⟩; conv => whnf)
    | assumption
    | exact absurd (show false = true from h) Bool.false_ne_true
    | exact absurd (show true = false from h) (fun e => Bool.noConfusion e)
    | exact (congrArg Bool.not h)
    | (refine ⟨_, ⟨by first | assumption | decide | omega, by first | assumption | rfl⟩, ?_⟩; conv => whnf)
    | (refine ⟨_, fun _ => ⟨by first | assumption | decide | omega, by first | assumption | rfl⟩, ?_⟩; conv => whnf)
    | exact (rfl : (_ : Nat) = _)
    | exact (rfl : (_ : LV) = _)
    | (refine ⟨fun h => ?_, fun h => ?_⟩ <;> conv => whnf)
    | (refine ⟨?_, ?_⟩ <;> conv => whnf)
    | (intro h; conv => whnf)
    | (refine gand ?_ h; assumption)
theorem c46 (p : Pn) (n : Int) : ∃ b, CallP Try.prog 46 [pnL p, I n] (.bool b) := by
  have h1 := c45 p.id 0 65535
  have h2 := c45 ((p.ports.map Lk.cells).length : Int) 1 8
  cases hb1 : inI p.id 0 65535 with
  | false =>
    rw [hb1] at h1
    refine ⟨false, ?_⟩
    refine .intro (by first | (simp [NLs, NL]; done) | (simp [NLs, NL, nlx]; done)) (.intro TT_ok Try.func46 rfl rfl [0, 1, 2, 3, 4, 5] rfl ?_)
    conv => whnf
    repeat' first
      | with_reducible rfl
      | with_reducible exact True.intro
      | with_reducible assumption
      | exact (rfl : (_ : Bool) = false)
      | (refine CallP.use (h1) ?_; conv => whnf)
      | (refine ⟨_, _, CallP.at (h1), ?_⟩; conv => whnf)
      | (refine ⟨_, fun _ => h1, ?_⟩; conv => whnf)
      | assumption
      | exact absurd (show false = true from h) Bool.false_ne_true
      | exact absurd (show true = false from h) (fun e => Bool.noConfusion e)
      | exact (congrArg Bool.not h)
      | (refine ⟨_, ⟨by first | assumption | decide | omega, by first | assumption | rfl⟩, ?_⟩; conv => whnf)
      | (refine ⟨_, fun _ => ⟨by first | assumption | decide | omega, by first | assumption | rfl⟩, ?_⟩; conv => whnf)
      | exact (rfl : (_ : Nat) = _)
      | exact (rfl : (_ : LV) = _)
      | (refine ⟨fun h => ?_, fun h => ?_⟩ <;> conv => whnf)
      | (refine ⟨?_, ?_⟩ <;> conv => whnf)
      | (intro h; conv => whnf)
      | (refine gand ?_ h; assumption)
    all_goals skip
  | true =>
    rw [hb1] at h1
    cases hb2 : inI ((p.ports.map Lk.cells).length : Int) 1 8 with
    | false =>
      rw [hb2] at h2
      refine ⟨false, ?_⟩
      refine .intro (by first | (simp [NLs, NL]; done) | (simp [NLs, NL, nlx]; done)) (.intro TT_ok Try.func46 rfl rfl [0, 1, 2, 3, 4, 5] rfl ?_)
      conv => whnf
      repeat' first
        | with_reducible rfl
        | with_reducible exact True.intro
        | with_reducible assumption
        | exact (rfl : (_ : Bool) = false)
        | (refine CallP.use (h1) ?_; conv => whnf)
        | (refine ⟨_, _, CallP.at (h1), ?_⟩; conv => whnf)
        | (refine ⟨_, fun _ => h1, ?_⟩; conv => whnf)
        | (refine CallP.use (h2) ?_; conv => whnf)
        | (refine ⟨_, _, CallP.at (h2), ?_⟩; conv => whnf)
        | (refine ⟨_, fun _ => h2, ?_⟩; conv => whnf)
        | assumption
        | exact absurd (show false = true from h) Bool.false_ne_true
        | exact absurd (show true = false from h) (fun e => Bool.noConfusion e)
        | exact (congrArg Bool.not h)
        | (refine ⟨_, ⟨by first | assumption | decide | omega, by first | assumption | rfl⟩, ?_⟩; conv => whnf)
        | (refine ⟨_, fun _ => ⟨by first | assumption | decide | omega, by first | assumption | rfl⟩, ?_⟩; conv => whnf)
        | exact (rfl : (_ : Nat) = _)
        | exact (rfl : (_ : LV) = _)
        | (refine ⟨fun h => ?_, fun h => ?_⟩ <;> conv => whnf)
        | (refine ⟨?_, ?_⟩ <;> conv => whnf)
        | (intro h; conv => whnf)
        | (refine gand ?_ h; assumption)
      all_goals skip
    | true =>
      have hl : p.ports.length ≤ 1000 := by
        have h3 : (p.ports.map Lk.cells).length = p.ports.length := List.length_map ..
        have h4 : ((p.ports.map Lk.cells).length : Int) ≤ 8 := by
          unfold inI at hb2
          cases h5 : decide ((1 : Int) ≤ ((p.ports.map Lk.cells).length : Int)) with
          | false => rw [h5] at hb2; cases hb2
          | true => rw [h5] at hb2; exact of_decide_eq_true hb2
        omega
      obtain ⟨b, h57⟩ := c57 p.ports hl n
      rw [hb2] at h2
      refine ⟨!b, ?_⟩
      refine .intro (by first | (simp [NLs, NL]; done) | (simp [NLs, NL, nlx]; done)) (.intro TT_ok Try.func46 rfl rfl [0, 1, 2, 3, 4, 5] rfl ?_)
      conv => whnf
      repeat' first
        | with_reducible rfl
        | with_reducible exact True.intro
        | with_reducible assumption
        | (refine CallP.use (h1) ?_; conv => whnf)
        | (refine ⟨_, _, CallP.at (h1), ?_⟩; conv => whnf)
        | (refine ⟨_, fun _ => h1, ?_⟩; conv => whnf)
        | (refine CallP.use (h2) ?_; conv => whnf)
        | (refine ⟨_, _, CallP.at (h2), ?_⟩; conv => whnf)
        | (refine ⟨_, fun _ => h2, ?_⟩; conv => whnf)
        | (refine CallP.use (h57) ?_; conv => whnf)
        | (refine ⟨_, _, CallP.at (h57), ?_⟩; conv => whnf)
        | (refine ⟨_, fun _ => h57, ?_⟩; conv => whnf)
        | assumption
        | exact absurd (show false = true from h) Bool.false_ne_true
        | exact absurd (show true = false from h) (fun e => Bool.noConfusion e)
        | exact (congrArg Bool.not h)
        | (refine ⟨_, ⟨by first | assumption | decide | omega, by first | assumption | rfl⟩, ?_⟩; conv => whnf)
        | (refine ⟨_, fun _ => ⟨by first | assumption | decide | omega, by first | assumption | rfl⟩, ?_⟩; conv => whnf)
        | exact (rfl : (_ : Nat) = _)
        | exact (rfl : (_ : LV) = _)
        | (refine ⟨fun h => ?_, fun h => ?_⟩ <;> conv => whnf)
        | (refine ⟨?_, ?_⟩ <;> conv => whnf)
        | (intro h; conv => whnf)
        | (refine gand ?_ h; assumption)
      all_goals (cases b <;> rfl)
end Go.RX

