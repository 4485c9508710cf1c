/- Contracts of judge.Twice, judge.Where. -/
import Derived.Test.YtbpgcejajdeafaaTyg
set_option linter.unusedVariables false
set_option linter.unusedSimpArgs false
open Go Go.RX Go.Proofs
namespace Go.RX
set_option maxRecDepth 10000
set_option maxHeartbeats 2000000
theorem bq (b d : ByteArray) : (b == d) = true ↔ b = d := by
  cases b with | mk b =>
  cases d with | mk d =>
  have : ((ByteArray.mk b) == (ByteArray.mk d)) = (b == d) := rfl
  rw [this, beq_iff_eq, ByteArray.mk.injEq]
abbrev Ky := Int × ByteArray
abbrev kyL (x : Ky) : LV := keyL x.1 x.2
abbrev Cp.key (c : Cp) : Ky := (c.seg, c.raw)
def mE (es : List (Ky × LV)) : List (LV × LV) := es.map fun p => (kyL p.1, p.2)
theorem eqK_no {x y : Ky} (h : x ≠ y) : eqL TT 8 65 (kyL x) (kyL y) = some false := by
  have : eqL TT 8 65 (kyL x) (kyL y) = some (decide (x.1 = y.1) && (x.2 == y.2 && true)) := rfl
  rw [this]
  congr 1
  rw [← Bool.not_eq_true]
  intro h2
  simp only [Bool.and_true, Bool.and_eq_true, decide_eq_true_eq, bq] at h2
  exact h (Prod.ext h2.1 h2.2)
theorem find_none {es : List (Ky × LV)} {x : Ky} (h : ∀ p ∈ es, p.1 ≠ x) : Finds TT 65 (mE es) (kyL x) none := by
  intro j p hp
  simp only [mE, List.getElem?_map, Option.map_eq_some_iff] at hp
  obtain ⟨q, h1, rfl⟩ := hp
  exact eqK_no fun e => h q (List.mem_of_getElem? h1) e.symm
theorem find_some {x : Ky} : ∀ {es : List (Ky × LV)}, (∃ p ∈ es, p.1 = x) → ∃ i v, es[i]? = some (x, v) ∧ Finds TT 65 (mE es) (kyL x) (some (i, v))
  | [], h => by obtain ⟨p, h1, _⟩ := h; cases h1
  | q :: r, h => by
    by_cases hq : q.1 = x
    · refine ⟨0, q.2, by simp [← hq], by simp [mE, ← hq], fun j p hj => absurd hj (Nat.not_lt_zero _)⟩
    · obtain ⟨p, h1, h2⟩ := h
      have h3 : ∃ p ∈ r, p.1 = x := by
        rcases List.mem_cons.1 h1 with rfl | h4
        · exact absurd h2 hq
        · exact ⟨p, h4, h2⟩
      obtain ⟨i, v, h5, h6, h7⟩ := find_some h3
      refine ⟨i + 1, v, by simpa using h5, by simpa [mE] using h6, fun j p hj hp => ?_⟩
      cases j with
      | zero =>
        simp only [mE, List.map_cons, List.getElem?_cons_zero, Option.some.injEq] at hp
        subst hp
        exact eqK_no fun e => hq e.symm
      | succ j => exact h7 j p (by omega) (by simpa [mE] using hp)
theorem find_end {es : List (Ky × LV)} {x : Ky} {v : LV} (h : ∀ p ∈ es, p.1 ≠ x) : Finds TT 65 (mE es ++ [(kyL x, v)]) (kyL x) (some (es.length, v)) := by
  refine ⟨by simp [mE], fun j p hj hp => ?_⟩
  rw [List.getElem?_append_left (by simpa [mE] using hj)] at hp
  exact find_none h j p hp
theorem find_upd {es : List (LV × LV)} {x v v' : LV} {j : Nat} (h : Finds TT 65 es x (some (j, v))) : Finds TT 65 (setN es j (x, v')) x (some (j, v')) := by
  have hj := (List.getElem?_eq_some_iff.1 h.1).1
  rw [setN_eq]
  refine ⟨by simp [hj], fun i p hi hp => ?_⟩
  rw [List.getElem?_set_ne (by omega)] at hp
  exact h.2 i p hi hp
theorem mE_bel {es : List (Ky × LV)} {m : Nat} (h : ∀ p ∈ es, bel m p.2) : ∀ p ∈ mE es, bel m p.1 ∧ bel m p.2 := fun p hp => by
  simp only [mE, List.mem_map] at hp
  obtain ⟨q, h1, rfl⟩ := hp
  exact ⟨⟨trivial, trivial, trivial⟩, h q h1⟩
/-- Was a copy's key met ahead of it? -/
def dupAt (l : List Cp) (k : Nat) : Bool := match l[k]? with
  | some c => (l.take k).any fun d => decide (d.key = c.key)
  | none => false
def twN (l : List Cp) : Nat → Nat → Int
  | 0, _ => -1
  | n + 1, k => if dupAt l k = true then (k : Int) else twN l n (k + 1)
/-- What is twice. -/
def tw (l : List Cp) : Int := twN l l.length 0
def tE (l : List Cp) (k : Nat) : List (Ky × LV) := (l.take k).map fun c => (c.key, .bool true)
theorem tE_succ {l : List Cp} {k : Nat} {c : Cp} (h : l[k]? = some c) : mE (tE l k) ++ [(kyL c.key, .bool true)] = mE (tE l (k + 1)) := by
  simp only [tE, mE, List.take_add_one, h, Option.toList, List.map_append, List.map_cons, List.map_nil]
attribute [local irreducible] CallW CallP LoopW W IntKind.wrap Finds
abbrev s10 (l : List Cp) (k : Nat) : Slots := [(3, .map 0), (7, copsL l), (8, I (l.map Cp.cells).length), (9, I k)]
theorem c10 (l : List Cp) (hl : l.length ≤ 1000) : CallP Try.prog 10 [copsL l] (I (tw l)) := by
  have hL : (l.map Cp.cells).length = l.length := List.length_map ..
  refine .intro (by first | (simp [NLs, NL]; done) | (simp [NLs, NL, nlx]; done)) (.intro TT_ok Try.func10 rfl rfl [0, 2, 3, 4, 5, 7, 8, 9, 10, 17] rfl ?_)
  conv => whnf
  repeat' first
    | with_reducible rfl
    | with_reducible exact True.intro
    | with_reducible assumption
    | assumption
    | exact absurd (show false = true from h) Bool.false_ne_true
    | exact absurd (show true = false from h) (fun e => Bool.noConfusion e)
    | exact (congrArg Bool.not h)
    | (refine ⟨_, ⟨by first | assumption | decide | omega, by first | assumption | rfl⟩, ?_⟩; conv => whnf)
    | (refine ⟨_, fun _ => ⟨by first | assumption | decide | omega, by first | assumption | rfl⟩, ?_⟩; conv => whnf)
    | exact (rfl : (_ : Nat) = _)
    | exact (rfl : (_ : LV) = _)
    | (refine ⟨fun h => ?_, fun h => ?_⟩ <;> conv => whnf)
    | (refine ⟨?_, ?_⟩ <;> conv => whnf)
    | (intro h; conv => whnf)
    | (refine gand ?_ h; assumption)
  refine LoopW.norm (s10 l 0) 1 [(0, .mp (mE (tE l 0)))] ⟨rfl, rfl, rfl, rfl, trivial⟩ ⟨⟨rfl, rfl, fun p hp => by simp [mE, tE] at hp⟩, trivial⟩ ⟨rfl, trivial, trivial, trivial, trivial⟩ rfl ?_
  refine LoopW.ind (α := Nat) (fun k => l.length - k) (fun k s' H => (k ≤ l.length ∧ tw l = twN l (l.length - k) k) ∧ s' = s10 l k ∧ H = ⟨1, [(0, .mp (mE (tE l k)))]⟩) ?_ (a := 0) ⟨⟨Nat.zero_le _, rfl⟩, rfl, rfl⟩
  rintro k s' H ⟨⟨hk, htw⟩, rfl, rfl⟩ ih
  by_cases hi : k < l.length
  · have hd : decide ((k : Int) < ((l.map Cp.cells).length : Int)) = true := by rw [decide_eq_true_eq]; omega
    have hx := List.getElem?_eq_getElem hi
    have hb : (l.map Cp.cells)[k]? = some l[k].cells := by simp [hi]
    have hdu : dupAt l k = (l.take k).any fun d => decide (d.key = l[k].key) := by simp only [dupAt, hx]
    have h29 := c29 l[k]
    generalize l[k] = c at hx hb hdu h29
    rw [show l.length - k = (l.length - (k + 1)) + 1 by omega, twN] at htw
    by_cases hdup : dupAt l k = true
    · rw [if_pos hdup] at htw
      obtain ⟨i, v, hi2, hf⟩ : ∃ i v, (tE l k)[i]? = some (c.key, v) ∧ Finds TT 65 (mE (tE l k)) (kyL c.key) (some (i, v)) := by
        refine find_some ?_
        rw [hdu, List.any_eq_true] at hdup
        obtain ⟨d, h1, h2⟩ := hdup
        exact ⟨(d.key, .bool true), List.mem_map.2 ⟨d, h1, rfl⟩, of_decide_eq_true h2⟩
      have hv : v = .bool true := by
        have := List.mem_of_getElem? hi2
        simp only [tE, List.mem_map] at this
        obtain ⟨d, _, h1⟩ := this
        exact (congrArg Prod.snd h1).symm
      subst hv
      refine LoopW.round TT_ok [0, 2, 3, 4, 5, 7, 8, 9, 10, 17] ?_
      conv => whnf
      repeat' first
        | with_reducible rfl
        | with_reducible exact True.intro
        | with_reducible assumption
        | exact (Bool.false_ne_true (h.symm.trans hd)).elim
        | (refine ⟨some (i, .bool true), hf, ?_⟩; conv => whnf)
        | (refine CallP.use (h29) ?_; conv => whnf)
        | (refine ⟨_, _, CallP.at (h29), ?_⟩; conv => whnf)
        | (refine ⟨_, fun _ => h29, ?_⟩; conv => whnf)
        | assumption
        | exact absurd (show false = true from h) Bool.false_ne_true
        | exact absurd (show true = false from h) (fun e => Bool.noConfusion e)
        | exact (congrArg Bool.not h)
        | (refine ⟨_, ⟨by first | assumption | decide | omega, by first | assumption | rfl⟩, ?_⟩; conv => whnf)
        | (refine ⟨_, fun _ => ⟨by first | assumption | decide | omega, by first | assumption | rfl⟩, ?_⟩; conv => whnf)
        | exact (rfl : (_ : Nat) = _)
        | exact (rfl : (_ : LV) = _)
        | (refine ⟨fun h => ?_, fun h => ?_⟩ <;> conv => whnf)
        | (refine ⟨?_, ?_⟩ <;> conv => whnf)
        | (intro h; conv => whnf)
        | (refine gand ?_ h; assumption)
      all_goals rw [htw]
    · have hnew : ∀ p ∈ tE l k, p.1 ≠ c.key := by
        rw [hdu, List.any_eq_true] at hdup
        intro p hp he
        simp only [tE, List.mem_map] at hp
        obtain ⟨d, h1, rfl⟩ := hp
        exact hdup ⟨d, h1, decide_eq_true he⟩
      rw [if_neg hdup] at htw
      have hf := find_none hnew
      have eE := tE_succ hx
      refine LoopW.round TT_ok [0, 2, 3, 4, 5, 7, 8, 9, 10, 17] ?_
      conv => whnf
      repeat' first
        | with_reducible rfl
        | with_reducible exact True.intro
        | with_reducible assumption
        | exact (Bool.false_ne_true (h.symm.trans hd)).elim
        | (refine ⟨none, hf, ?_⟩; conv => whnf)
        | (refine CallP.use (h29) ?_; conv => whnf)
        | (refine ⟨_, _, CallP.at (h29), ?_⟩; conv => whnf)
        | (refine ⟨_, fun _ => h29, ?_⟩; conv => whnf)
        | assumption
        | exact absurd (show false = true from h) Bool.false_ne_true
        | exact absurd (show true = false from h) (fun e => Bool.noConfusion e)
        | exact (congrArg Bool.not h)
        | (refine ⟨_, ⟨by first | assumption | decide | omega, by first | assumption | rfl⟩, ?_⟩; conv => whnf)
        | (refine ⟨_, fun _ => ⟨by first | assumption | decide | omega, by first | assumption | rfl⟩, ?_⟩; conv => whnf)
        | exact (rfl : (_ : Nat) = _)
        | exact (rfl : (_ : LV) = _)
        | (refine ⟨fun h => ?_, fun h => ?_⟩ <;> conv => whnf)
        | (refine ⟨?_, ?_⟩ <;> conv => whnf)
        | (intro h; conv => whnf)
        | (refine gand ?_ h; assumption)
      refine LoopW.norm (s10 l (k + 1)) 1 [(0, .mp (mE (tE l (k + 1))))] ⟨rfl, rfl, rfl, congrArg (LV.int .i64) (w64_nat (by omega)), trivial⟩ ⟨⟨congrArg (fun e => some (Blk.mp e)) eE, rfl, mE_bel fun p hp => by
        simp only [tE, List.mem_map] at hp
        obtain ⟨d, _, rfl⟩ := hp
        trivial⟩, trivial⟩ ⟨rfl, trivial, trivial, trivial, trivial⟩ rfl (ih (k + 1) _ _ ⟨⟨hi, htw⟩, rfl, rfl⟩ (by omega))
  · have hd : decide ((k : Int) < ((l.map Cp.cells).length : Int)) = false := by rw [decide_eq_false_iff_not]; omega
    rw [show l.length - k = 0 by omega, twN] at htw
    refine LoopW.round TT_ok [0, 2, 3, 4, 5, 7, 8, 9, 10, 17] ?_
    conv => whnf
    repeat' first
      | with_reducible rfl
      | with_reducible exact True.intro
      | with_reducible assumption
      | exact (Bool.false_ne_true (hd.symm.trans h)).elim
      | assumption
      | exact absurd (show false = true from h) Bool.false_ne_true
      | exact absurd (show true = false from h) (fun e => Bool.noConfusion e)
      | exact (congrArg Bool.not h)
      | (refine ⟨_, ⟨by first | assumption | decide | omega, by first | assumption | rfl⟩, ?_⟩; conv => whnf)
      | (refine ⟨_, fun _ => ⟨by first | assumption | decide | omega, by first | assumption | rfl⟩, ?_⟩; conv => whnf)
      | exact (rfl : (_ : Nat) = _)
      | exact (rfl : (_ : LV) = _)
      | (refine ⟨fun h => ?_, fun h => ?_⟩ <;> conv => whnf)
      | (refine ⟨?_, ?_⟩ <;> conv => whnf)
      | (intro h; conv => whnf)
      | (refine gand ?_ h; assumption)
    rw [htw]
theorem c12 : CallP Try.prog 12 [] (.bool true) := by
  have h10 := c10 [⟨0, 0, 0, 0, ⟨#[120]⟩⟩, ⟨0, 1, 0, 0, ⟨#[120]⟩⟩, ⟨0, 0, 0, 0, ⟨#[120]⟩⟩] (by decide)
  rw [show tw [⟨0, 0, 0, 0, ⟨#[120]⟩⟩, ⟨0, 1, 0, 0, ⟨#[120]⟩⟩, ⟨0, 0, 0, 0, ⟨#[120]⟩⟩] = 2 by decide] at h10
  refine .intro (by first | (simp [NLs, NL]; done) | (simp [NLs, NL, nlx]; done)) (.intro TT_ok Try.func12 rfl rfl [0] rfl ?_)
  conv => whnf
  repeat' first
    | with_reducible rfl
    | with_reducible exact True.intro
    | with_reducible assumption
    | (refine CallP.use (h10) ?_; conv => whnf)
    | (refine ⟨_, _, CallP.at (h10), ?_⟩; conv => whnf)
    | (refine ⟨_, fun _ => h10, ?_⟩; conv => whnf)
    | assumption
    | exact absurd (show false = true from h) Bool.false_ne_true
    | exact absurd (show true = false from h) (fun e => Bool.noConfusion e)
    | exact (congrArg Bool.not h)
    | (refine ⟨_, ⟨by first | assumption | decide | omega, by first | assumption | rfl⟩, ?_⟩; conv => whnf)
    | (refine ⟨_, fun _ => ⟨by first | assumption | decide | omega, by first | assumption | rfl⟩, ?_⟩; conv => whnf)
    | exact (rfl : (_ : Nat) = _)
    | exact (rfl : (_ : LV) = _)
    | (refine ⟨fun h => ?_, fun h => ?_⟩ <;> conv => whnf)
    | (refine ⟨?_, ?_⟩ <;> conv => whnf)
    | (intro h; conv => whnf)
    | (refine gand ?_ h; assumption)
  all_goals rfl
end Go.RX

