/- Contracts of mac and frame, as far as layer 20's laws lean on them. -/
import Derived.Test.YtbpgcejajdeafaaTyj
set_option linter.unusedVariables false
set_option linter.unusedSimpArgs false
open Go Go.RX Go.Proofs
namespace Go.RX
set_option maxRecDepth 10000
set_option maxHeartbeats 1000000
attribute [local irreducible] CallW CallP LoopW W IntKind.wrap Finds bitI
def inI (x a b : Int) : Bool := bif decide (a ≤ x) then decide (x ≤ b) else false
theorem nn {a b : Int} (h : b ≤ a) : (a - b).NonNeg := h
theorem c45 (x a b : Int) : CallP Try.prog 45 [I x, I a, I b] (.bool (inI x a b)) := by
  refine .intro (by first | (simp [NLs, NL]; done) | (simp [NLs, NL, nlx]; done)) (.intro TT_ok Try.func45 rfl rfl [0, 1, 2, 6] rfl ?_)
  conv => whnf
  repeat' first
    | with_reducible rfl
    | with_reducible exact True.intro
    | with_reducible assumption
    | assumption
    | exact absurd (show false = true from h) Bool.false_ne_true
    | exact absurd (show true = false from h) (fun e => Bool.noConfusion e)
    | exact (congrArg Bool.not h)
    | (refine ⟨_, ⟨by first | assumption | decide | omega, by first | assumption | rfl⟩, ?_⟩; conv => whnf)
    | (refine ⟨_, fun _ => ⟨by first | assumption | decide | omega, by first | assumption | rfl⟩, ?_⟩; conv => whnf)
    | exact (rfl : (_ : Nat) = _)
    | exact (rfl : (_ : LV) = _)
    | (refine ⟨fun h => ?_, fun h => ?_⟩ <;> conv => whnf)
    | (refine ⟨?_, ?_⟩ <;> conv => whnf)
    | (intro h; conv => whnf)
    | (refine gand ?_ h; assumption)
  rfl
theorem c58 (x : Int) : CallP Try.prog 58 [I x] (.bool (inI x 0 281474976710655)) := by
  refine .intro (by first | (simp [NLs, NL]; done) | (simp [NLs, NL, nlx]; done)) (.intro TT_ok Try.func58 rfl rfl [0, 2] rfl ?_)
  conv => whnf
  repeat' first
    | with_reducible rfl
    | with_reducible exact True.intro
    | with_reducible assumption
    | assumption
    | exact absurd (show false = true from h) Bool.false_ne_true
    | exact absurd (show true = false from h) (fun e => Bool.noConfusion e)
    | exact (congrArg Bool.not h)
    | (refine ⟨_, ⟨by first | assumption | decide | omega, by first | assumption | rfl⟩, ?_⟩; conv => whnf)
    | (refine ⟨_, fun _ => ⟨by first | assumption | decide | omega, by first | assumption | rfl⟩, ?_⟩; conv => whnf)
    | exact (rfl : (_ : Nat) = _)
    | exact (rfl : (_ : LV) = _)
    | (refine ⟨fun h => ?_, fun h => ?_⟩ <;> conv => whnf)
    | (refine ⟨?_, ?_⟩ <;> conv => whnf)
    | (intro h; conv => whnf)
    | (refine gand ?_ h; assumption)
  rfl
theorem c47 (x : Int) : ∃ k e, CallP Try.prog 47 [I x] (.tup [I k, I e]) := by
  have h58 := c58 x
  cases hm : inI x 0 281474976710655 with
  | false =>
    rw [hm] at h58
    refine ⟨0, 1, ?_⟩
    refine .intro (by first | (simp [NLs, NL]; done) | (simp [NLs, NL, nlx]; done)) (.intro TT_ok Try.func47 rfl rfl [0, 2, 3, 4, 8] rfl ?_)
    conv => whnf
    repeat' first
      | with_reducible rfl
      | with_reducible exact True.intro
      | with_reducible assumption
      | (refine CallP.use (h58) ?_; conv => whnf)
      | (refine ⟨_, _, CallP.at (h58), ?_⟩; conv => whnf)
      | (refine ⟨_, fun _ => h58, ?_⟩; conv => whnf)
      | assumption
      | exact absurd (show false = true from h) Bool.false_ne_true
      | exact absurd (show true = false from h) (fun e => Bool.noConfusion e)
      | exact (congrArg Bool.not h)
      | (refine ⟨_, ⟨by first | assumption | decide | omega, by first | assumption | rfl⟩, ?_⟩; conv => whnf)
      | (refine ⟨_, fun _ => ⟨by first | assumption | decide | omega, by first | assumption | rfl⟩, ?_⟩; conv => whnf)
      | exact (rfl : (_ : Nat) = _)
      | exact (rfl : (_ : LV) = _)
      | (refine ⟨fun h => ?_, fun h => ?_⟩ <;> conv => whnf)
      | (refine ⟨?_, ?_⟩ <;> conv => whnf)
      | (intro h; conv => whnf)
      | (refine gand ?_ h; assumption)
    all_goals skip
  | true =>
    rw [hm] at h58
    by_cases h1 : bitI .andNot .i64 x 15 = 1652522221568
    · have hd : decide (bitI .andNot .i64 x 15 = 1652522221568) = true := decide_eq_true h1
      refine ⟨2, 0, ?_⟩
      refine .intro (by first | (simp [NLs, NL]; done) | (simp [NLs, NL, nlx]; done)) (.intro TT_ok Try.func47 rfl rfl [0, 2, 3, 4, 8] rfl ?_)
      conv => whnf
      repeat' first
        | with_reducible rfl
        | with_reducible exact True.intro
        | with_reducible assumption
        | exact (Bool.false_ne_true (h.symm.trans hd)).elim
        | (refine CallP.use (h58) ?_; conv => whnf)
        | (refine ⟨_, _, CallP.at (h58), ?_⟩; conv => whnf)
        | (refine ⟨_, fun _ => h58, ?_⟩; conv => whnf)
        | assumption
        | exact absurd (show false = true from h) Bool.false_ne_true
        | exact absurd (show true = false from h) (fun e => Bool.noConfusion e)
        | exact (congrArg Bool.not h)
        | (refine ⟨_, ⟨by first | assumption | decide | omega, by first | assumption | rfl⟩, ?_⟩; conv => whnf)
        | (refine ⟨_, fun _ => ⟨by first | assumption | decide | omega, by first | assumption | rfl⟩, ?_⟩; conv => whnf)
        | exact (rfl : (_ : Nat) = _)
        | exact (rfl : (_ : LV) = _)
        | (refine ⟨fun h => ?_, fun h => ?_⟩ <;> conv => whnf)
        | (refine ⟨?_, ?_⟩ <;> conv => whnf)
        | (intro h; conv => whnf)
        | (refine gand ?_ h; assumption)
      all_goals skip
    · have hd : decide (bitI .andNot .i64 x 15 = 1652522221568) = false := decide_eq_false h1
      refine ⟨bitI .and .i64 (Int.fdiv x (2 ^ (min (40 : Int).toNat IntKind.i64.bits))) 1, 0, ?_⟩
      refine .intro (by first | (simp [NLs, NL]; done) | (simp [NLs, NL, nlx]; done)) (.intro TT_ok Try.func47 rfl rfl [0, 2, 3, 4, 8] rfl ?_)
      conv => whnf
      repeat' first
        | with_reducible rfl
        | with_reducible exact True.intro
        | with_reducible assumption
        | exact (Bool.false_ne_true (hd.symm.trans h)).elim
        | exact nn (by decide)
        | (refine CallP.use (h58) ?_; conv => whnf)
        | (refine ⟨_, _, CallP.at (h58), ?_⟩; conv => whnf)
        | (refine ⟨_, fun _ => h58, ?_⟩; conv => whnf)
        | assumption
        | exact absurd (show false = true from h) Bool.false_ne_true
        | exact absurd (show true = false from h) (fun e => Bool.noConfusion e)
        | exact (congrArg Bool.not h)
        | (refine ⟨_, ⟨by first | assumption | decide | omega, by first | assumption | rfl⟩, ?_⟩; conv => whnf)
        | (refine ⟨_, fun _ => ⟨by first | assumption | decide | omega, by first | assumption | rfl⟩, ?_⟩; conv => whnf)
        | exact (rfl : (_ : Nat) = _)
        | exact (rfl : (_ : LV) = _)
        | (refine ⟨fun h => ?_, fun h => ?_⟩ <;> conv => whnf)
        | (refine ⟨?_, ?_⟩ <;> conv => whnf)
        | (intro h; conv => whnf)
        | (refine gand ?_ h; assumption)
      all_goals skip
def acc (s : ByteArray) : Nat → Int
  | 0 => 0
  | k + 1 => bitI .or .i64 (IntKind.i64.wrap (acc s k * 2 ^ (min (8 : Int).toNat IntKind.i64.bits))) (IntKind.i64.wrap ((s.data[k]?.getD 0).toNat : Int))
abbrev s59 (s : ByteArray) (k : Nat) : Slots := [(0, .str s), (4, I (acc s k)), (14, I k)]
theorem c59 (s : ByteArray) : ∃ v e, CallP Try.prog 59 [.str s] (.tup [I v, I e]) := by
  by_cases h1 : (s.size : Int) < 6
  · have hd : decide ((s.size : Int) < 6) = true := decide_eq_true h1
    refine ⟨0, 7, ?_⟩
    refine .intro (by first | (simp [NLs, NL]; done) | (simp [NLs, NL, nlx]; done)) (.intro TT_ok Try.func59 rfl rfl [0, 2, 3, 4, 5, 6, 10, 14, 15] rfl ?_)
    conv => whnf
    repeat' first
      | with_reducible rfl
      | with_reducible exact True.intro
      | with_reducible assumption
      | exact (Bool.false_ne_true (h.symm.trans hd)).elim
      | assumption
      | exact absurd (show false = true from h) Bool.false_ne_true
      | exact absurd (show true = false from h) (fun e => Bool.noConfusion e)
      | exact (congrArg Bool.not h)
      | (refine ⟨_, ⟨by first | assumption | decide | omega, by first | assumption | rfl⟩, ?_⟩; conv => whnf)
      | (refine ⟨_, fun _ => ⟨by first | assumption | decide | omega, by first | assumption | rfl⟩, ?_⟩; conv => whnf)
      | exact (rfl : (_ : Nat) = _)
      | exact (rfl : (_ : LV) = _)
      | (refine ⟨fun h => ?_, fun h => ?_⟩ <;> conv => whnf)
      | (refine ⟨?_, ?_⟩ <;> conv => whnf)
      | (intro h; conv => whnf)
      | (refine gand ?_ h; assumption)
  · have hd : decide ((s.size : Int) < 6) = false := decide_eq_false h1
    by_cases h2 : 6 < (s.size : Int)
    · have hd2 : decide (6 < (s.size : Int)) = true := decide_eq_true h2
      refine ⟨0, 8, ?_⟩
      refine .intro (by first | (simp [NLs, NL]; done) | (simp [NLs, NL, nlx]; done)) (.intro TT_ok Try.func59 rfl rfl [0, 2, 3, 4, 5, 6, 10, 14, 15] rfl ?_)
      conv => whnf
      repeat' first
        | with_reducible rfl
        | with_reducible exact True.intro
        | with_reducible assumption
        | exact (Bool.false_ne_true (hd.symm.trans h)).elim
        | exact (Bool.false_ne_true (h.symm.trans hd2)).elim
        | assumption
        | exact absurd (show false = true from h) Bool.false_ne_true
        | exact absurd (show true = false from h) (fun e => Bool.noConfusion e)
        | exact (congrArg Bool.not h)
        | (refine ⟨_, ⟨by first | assumption | decide | omega, by first | assumption | rfl⟩, ?_⟩; conv => whnf)
        | (refine ⟨_, fun _ => ⟨by first | assumption | decide | omega, by first | assumption | rfl⟩, ?_⟩; conv => whnf)
        | exact (rfl : (_ : Nat) = _)
        | exact (rfl : (_ : LV) = _)
        | (refine ⟨fun h => ?_, fun h => ?_⟩ <;> conv => whnf)
        | (refine ⟨?_, ?_⟩ <;> conv => whnf)
        | (intro h; conv => whnf)
        | (refine gand ?_ h; assumption)
    · have hd2 : decide (6 < (s.size : Int)) = false := decide_eq_false h2
      have hs : s.size = 6 := by omega
      refine ⟨acc s 6, 0, ?_⟩
      refine .intro (by first | (simp [NLs, NL]; done) | (simp [NLs, NL, nlx]; done)) (.intro TT_ok Try.func59 rfl rfl [0, 2, 3, 4, 5, 6, 10, 14, 15] rfl ?_)
      conv => whnf
      repeat' first
        | with_reducible rfl
        | with_reducible exact True.intro
        | with_reducible assumption
        | exact (Bool.false_ne_true (hd.symm.trans h)).elim
        | exact (Bool.false_ne_true (hd2.symm.trans h)).elim
        | assumption
        | exact absurd (show false = true from h) Bool.false_ne_true
        | exact absurd (show true = false from h) (fun e => Bool.noConfusion e)
        | exact (congrArg Bool.not h)
        | (refine ⟨_, ⟨by first | assumption | decide | omega, by first | assumption | rfl⟩, ?_⟩; conv => whnf)
        | (refine ⟨_, fun _ => ⟨by first | assumption | decide | omega, by first | assumption | rfl⟩, ?_⟩; conv => whnf)
        | exact (rfl : (_ : Nat) = _)
        | exact (rfl : (_ : LV) = _)
        | (refine ⟨fun h => ?_, fun h => ?_⟩ <;> conv => whnf)
        | (refine ⟨?_, ?_⟩ <;> conv => whnf)
        | (intro h; conv => whnf)
        | (refine gand ?_ h; assumption)
      refine LoopW.norm (s59 s 0) 0 [] ⟨rfl, rfl, rfl, trivial⟩ trivial ⟨trivial, trivial, trivial, trivial⟩ rfl ?_
      refine LoopW.ind (α := Nat) (fun k => 6 - k) (fun k s' H => k ≤ 6 ∧ s' = s59 s k ∧ H = ⟨0, []⟩) ?_ (a := 0) ⟨Nat.zero_le _, rfl, rfl⟩
      rintro k s' H ⟨hk, rfl, rfl⟩ ih
      by_cases hi : k < 6
      · have hdd : decide ((k : Int) < 6) = true := by rw [decide_eq_true_eq]; omega
        have hk' : k < s.data.size := by show k < s.size; omega
        have hb : s[(k : Int).toNat]? = some s.data[k] := by
          rw [Int.toNat_natCast, getElem?_pos s k hk']; rfl
        have hn0 : ((k : Int) - 0).NonNeg := Int.natCast_nonneg _
        have ha : acc s (k + 1) = bitI .or .i64 (IntKind.i64.wrap (acc s k * 2 ^ (min (8 : Int).toNat IntKind.i64.bits))) (IntKind.i64.wrap ((s.data[k]).toNat : Int)) := by rw [acc, Array.getElem?_eq_getElem hk']; rfl
        generalize s.data[k] = b at hb ha
        have hnext : ∀ {s1 : Slots} {H1 : Heap}, subC s1 (s59 s (k + 1)) → LoopW Try.prog Try.f59.ntmps 0 _ _ s1 H1 := fun h1 =>
          LoopW.norm (s59 s (k + 1)) 0 [] h1 trivial ⟨trivial, trivial, trivial, trivial⟩ rfl (ih (k + 1) _ _ ⟨hi, rfl, rfl⟩ (by omega))
        clear ih
        refine LoopW.round TT_ok [0, 2, 3, 4, 5, 6, 10, 14, 15] ?_
        conv => whnf
        repeat' first
          | with_reducible rfl
          | with_reducible exact True.intro
          | with_reducible assumption
          | exact (Bool.false_ne_true (h.symm.trans hdd)).elim
          | (refine ⟨b, ⟨hn0, hb⟩, ?_⟩; conv => whnf)
          | exact nn (by decide)
          | assumption
          | exact absurd (show false = true from h) Bool.false_ne_true
          | exact absurd (show true = false from h) (fun e => Bool.noConfusion e)
          | exact (congrArg Bool.not h)
          | (refine ⟨_, ⟨by first | assumption | decide | omega, by first | assumption | rfl⟩, ?_⟩; conv => whnf)
          | (refine ⟨_, fun _ => ⟨by first | assumption | decide | omega, by first | assumption | rfl⟩, ?_⟩; conv => whnf)
          | exact (rfl : (_ : Nat) = _)
          | exact (rfl : (_ : LV) = _)
          | (refine ⟨fun h => ?_, fun h => ?_⟩ <;> conv => whnf)
          | (refine ⟨?_, ?_⟩ <;> conv => whnf)
          | (intro h; conv => whnf)
          | (refine gand ?_ h; assumption)
        exact hnext ⟨rfl, congrArg (LV.int .i64) ha.symm, congrArg (LV.int .i64) (w64_nat (by omega)), trivial⟩
      · have hdd : decide ((k : Int) < 6) = false := by rw [decide_eq_false_iff_not]; omega
        obtain rfl : k = 6 := by omega
        clear ih
        refine LoopW.round TT_ok [0, 2, 3, 4, 5, 6, 10, 14, 15] ?_
        conv => whnf
        repeat' first
          | with_reducible rfl
          | with_reducible exact True.intro
          | with_reducible assumption
          | exact (Bool.false_ne_true (hdd.symm.trans h)).elim
          | assumption
          | exact absurd (show false = true from h) Bool.false_ne_true
          | exact absurd (show true = false from h) (fun e => Bool.noConfusion e)
          | exact (congrArg Bool.not h)
          | (refine ⟨_, ⟨by first | assumption | decide | omega, by first | assumption | rfl⟩, ?_⟩; conv => whnf)
          | (refine ⟨_, fun _ => ⟨by first | assumption | decide | omega, by first | assumption | rfl⟩, ?_⟩; conv => whnf)
          | exact (rfl : (_ : Nat) = _)
          | exact (rfl : (_ : LV) = _)
          | (refine ⟨fun h => ?_, fun h => ?_⟩ <;> conv => whnf)
          | (refine ⟨?_, ?_⟩ <;> conv => whnf)
          | (intro h; conv => whnf)
          | (refine gand ?_ h; assumption)
        all_goals skip
abbrev frL (d s t : Int) (r : ByteArray) : LV := .agg [I d, I s, I t, .str r]
theorem c60 (d s t : Int) (r : ByteArray) : ∃ b, CallP Try.prog 60 [frL d s t r] (.bool b) := by
  obtain ⟨k, e, h47⟩ := c47 s
  have h58 := c58 d
  refine ⟨?_, ?_⟩
  rotate_left
  refine .intro (by first | (simp [NLs, NL]; done) | (simp [NLs, NL, nlx]; done)) (.intro TT_ok Try.func60 rfl rfl [0, 1, 2, 3, 4] rfl ?_)
  conv => whnf
  repeat' first
    | with_reducible rfl
    | with_reducible exact True.intro
    | with_reducible assumption
    | (refine CallP.use (h47) ?_; conv => whnf)
    | (refine ⟨_, _, CallP.at (h47), ?_⟩; conv => whnf)
    | (refine ⟨_, fun _ => h47, ?_⟩; conv => whnf)
    | (refine CallP.use (h58) ?_; conv => whnf)
    | (refine ⟨_, _, CallP.at (h58), ?_⟩; conv => whnf)
    | (refine ⟨_, fun _ => h58, ?_⟩; conv => whnf)
    | assumption
    | exact absurd (show false = true from h) Bool.false_ne_true
    | exact absurd (show true = false from h) (fun e => Bool.noConfusion e)
    | exact (congrArg Bool.not h)
    | (refine ⟨_, ⟨by first | assumption | decide | omega, by first | assumption | rfl⟩, ?_⟩; conv => whnf)
    | (refine ⟨_, fun _ => ⟨by first | assumption | decide | omega, by first | assumption | rfl⟩, ?_⟩; conv => whnf)
    | exact (rfl : (_ : Nat) = _)
    | exact (rfl : (_ : LV) = _)
    | (refine ⟨fun h => ?_, fun h => ?_⟩ <;> conv => whnf)
    | (refine ⟨?_, ?_⟩ <;> conv => whnf)
    | (intro h; conv => whnf)
    | (refine gand ?_ h; assumption)
  all_goals skip
theorem drop_byL (s : ByteArray) (k : Nat) (h : k ≤ s.size) : (byL s).drop k = byL (s.extract k s.size) := by
  simp only [byL, ← List.map_drop, ByteArray.data_extract, Array.toList_extract]
  congr 1
  rw [List.extract_eq_take_drop, List.take_of_length_le]
  rw [List.length_drop, Array.length_toList]
  exact Nat.le_refl _
theorem take_byL (s : ByteArray) (k : Nat) : (byL s).take k = byL (s.extract 0 k) := by
  simp only [byL, ← List.map_take, ByteArray.data_extract, Array.toList_extract]
  congr 1
theorem mid_byL (s : ByteArray) (j k : Nat) : ((byL s).take k).drop j = byL (s.extract j k) := by
  simp only [byL, ← List.map_take, ← List.map_drop, ByteArray.data_extract, Array.toList_extract]
  congr 1
  rw [List.extract_eq_take_drop, List.drop_take]
theorem c48 (s : ByteArray) : ∃ d a t r e, CallP Try.prog 48 [.str s] (.tup [frL d a t r, I e]) := by
  by_cases h1 : (s.size : Int) < 14
  · have hd : decide ((s.size : Int) < 14) = true := decide_eq_true h1
    refine ⟨0, 0, 0, ⟨#[]⟩, 7, ?_⟩
    refine .intro (by first | (simp [NLs, NL]; done) | (simp [NLs, NL, nlx]; done)) (.intro TT_ok Try.func48 rfl rfl [0, 2, 3, 4, 5, 7, 9, 10, 15, 54] rfl ?_)
    conv => whnf
    repeat' first
      | with_reducible rfl
      | with_reducible exact True.intro
      | with_reducible assumption
      | exact (Bool.false_ne_true (h.symm.trans hd)).elim
      | assumption
      | (refine W.drawnM (id := 8) 0 TT_ok hmix1 [0, 0, 0, 0, 0, 0, 0, 0, 0, 0, 0, 0, 0, 0, 0, 0, 0, 1] [1, 1, 1, 1, 1, 1, 1, 1, 1, 1, 1, 1, 1, 1, 1, 1, 1, 2] rfl ?_; conv => whnf)
      | exact absurd (show false = true from h) Bool.false_ne_true
      | exact absurd (show true = false from h) (fun e => Bool.noConfusion e)
      | exact (congrArg Bool.not h)
      | (refine ⟨_, ⟨by first | assumption | decide | omega, by first | assumption | rfl⟩, ?_⟩; conv => whnf)
      | (refine ⟨_, fun _ => ⟨by first | assumption | decide | omega, by first | assumption | rfl⟩, ?_⟩; conv => whnf)
      | exact (rfl : (_ : Nat) = _)
      | exact (rfl : (_ : LV) = _)
      | (refine ⟨fun h => ?_, fun h => ?_⟩ <;> conv => whnf)
      | (refine ⟨?_, ?_⟩ <;> conv => whnf)
      | (intro h; conv => whnf)
      | (refine gand ?_ h; assumption)
    all_goals skip
  · have hd : decide ((s.size : Int) < 14) = false := decide_eq_false h1
    by_cases h2 : 114 < (s.size : Int)
    · have hd2 : decide (114 < (s.size : Int)) = true := decide_eq_true h2
      refine ⟨0, 0, 0, ⟨#[]⟩, 8, ?_⟩
      refine .intro (by first | (simp [NLs, NL]; done) | (simp [NLs, NL, nlx]; done)) (.intro TT_ok Try.func48 rfl rfl [0, 2, 3, 4, 5, 7, 9, 10, 15, 54] rfl ?_)
      conv => whnf
      repeat' first
        | with_reducible rfl
        | with_reducible exact True.intro
        | with_reducible assumption
        | exact (Bool.false_ne_true (hd.symm.trans h)).elim
        | exact (Bool.false_ne_true (h.symm.trans hd2)).elim
        | assumption
        | (refine W.drawnM (id := 8) 0 TT_ok hmix1 [0, 0, 0, 0, 0, 0, 0, 0, 0, 0, 0, 0, 0, 0, 0, 0, 0, 1] [1, 1, 1, 1, 1, 1, 1, 1, 1, 1, 1, 1, 1, 1, 1, 1, 1, 2] rfl ?_; conv => whnf)
        | exact absurd (show false = true from h) Bool.false_ne_true
        | exact absurd (show true = false from h) (fun e => Bool.noConfusion e)
        | exact (congrArg Bool.not h)
        | (refine ⟨_, ⟨by first | assumption | decide | omega, by first | assumption | rfl⟩, ?_⟩; conv => whnf)
        | (refine ⟨_, fun _ => ⟨by first | assumption | decide | omega, by first | assumption | rfl⟩, ?_⟩; conv => whnf)
        | exact (rfl : (_ : Nat) = _)
        | exact (rfl : (_ : LV) = _)
        | (refine ⟨fun h => ?_, fun h => ?_⟩ <;> conv => whnf)
        | (refine ⟨?_, ?_⟩ <;> conv => whnf)
        | (intro h; conv => whnf)
        | (refine gand ?_ h; assumption)
      all_goals skip
    · have hd2 : decide (114 < (s.size : Int)) = false := decide_eq_false h2
      have hl := byL_len s
      obtain ⟨v1, e1, h59a⟩ := c59 (s.extract 0 6)
      obtain ⟨v2, e2, h59b⟩ := c59 (s.extract 6 12)
      have t1 := take_byL s 6
      have t2 := mid_byL s 6 12
      have t3 := drop_byL s 14 (by omega)
      have hk12 : 12 < s.data.size := by show 12 < s.size; omega
      have hk13 : 13 < s.data.size := by show 13 < s.size; omega
      have b12 : (byL s)[12]? = some [LV.int .u8 ((s.data[12]).toNat : Int)] := by rw [byL, List.getElem?_map, Array.getElem?_toList, Array.getElem?_eq_getElem hk12]; rfl
      have b13 : (byL s)[13]? = some [LV.int .u8 ((s.data[13]).toNat : Int)] := by rw [byL, List.getElem?_map, Array.getElem?_toList, Array.getElem?_eq_getElem hk13]; rfl
      generalize ((s.data[12]).toNat : Int) = x12 at b12
      generalize ((s.data[13]).toNat : Int) = x13 at b13
      generalize s.extract 0 6 = r1 at t1 h59a
      generalize s.extract 6 12 = r2 at t2 h59b
      generalize s.extract 14 s.size = r3 at t3
      obtain ⟨b, h60⟩ := c60 v1 v2 (bitI .or .i64 (IntKind.i64.wrap (IntKind.i64.wrap x12 * 2 ^ (min (8 : Int).toNat IntKind.i64.bits))) (IntKind.i64.wrap x13)) r3
      cases b with
      | false =>
        refine ⟨0, 0, 0, ⟨#[]⟩, 10, ?_⟩
        refine .intro (by first | (simp [NLs, NL]; done) | (simp [NLs, NL, nlx]; done)) (.intro TT_ok Try.func48 rfl rfl [0, 2, 3, 4, 5, 7, 9, 10, 15, 54] rfl ?_)
        conv => whnf
        repeat' first
          | with_reducible rfl
          | with_reducible exact True.intro
          | with_reducible assumption
          | exact (Bool.false_ne_true (hd.symm.trans h)).elim
          | exact (Bool.false_ne_true (hd2.symm.trans h)).elim
          | exact nn (by decide)
          | exact nn (by omega)
          | (refine ⟨r1, t1, ?_⟩; conv => whnf)
          | (refine ⟨r2, t2, ?_⟩; conv => whnf)
          | (refine ⟨r3, t3, ?_⟩; conv => whnf)
          | (refine CallP.use (h59a) ?_; conv => whnf)
          | (refine ⟨_, _, CallP.at (h59a), ?_⟩; conv => whnf)
          | (refine ⟨_, fun _ => h59a, ?_⟩; conv => whnf)
          | (refine CallP.use (h59b) ?_; conv => whnf)
          | (refine ⟨_, _, CallP.at (h59b), ?_⟩; conv => whnf)
          | (refine ⟨_, fun _ => h59b, ?_⟩; conv => whnf)
          | (refine CallP.use (h60) ?_; conv => whnf)
          | (refine ⟨_, _, CallP.at (h60), ?_⟩; conv => whnf)
          | (refine ⟨_, fun _ => h60, ?_⟩; conv => whnf)
          | assumption
          | (refine W.drawnM (id := 8) 0 TT_ok hmix1 [0, 0, 0, 0, 0, 0, 0, 0, 0, 0, 0, 0, 0, 0, 0, 0, 0, 1] [1, 1, 1, 1, 1, 1, 1, 1, 1, 1, 1, 1, 1, 1, 1, 1, 1, 2] rfl ?_; conv => whnf)
          | exact absurd (show false = true from h) Bool.false_ne_true
          | exact absurd (show true = false from h) (fun e => Bool.noConfusion e)
          | exact (congrArg Bool.not h)
          | (refine ⟨_, ⟨by first | assumption | decide | omega, by first | assumption | rfl⟩, ?_⟩; conv => whnf)
          | (refine ⟨_, fun _ => ⟨by first | assumption | decide | omega, by first | assumption | rfl⟩, ?_⟩; conv => whnf)
          | exact (rfl : (_ : Nat) = _)
          | exact (rfl : (_ : LV) = _)
          | (refine ⟨fun h => ?_, fun h => ?_⟩ <;> conv => whnf)
          | (refine ⟨?_, ?_⟩ <;> conv => whnf)
          | (intro h; conv => whnf)
          | (refine gand ?_ h; assumption)
        all_goals skip
      | true =>
        refine ⟨v1, v2, bitI .or .i64 (IntKind.i64.wrap (IntKind.i64.wrap x12 * 2 ^ (min (8 : Int).toNat IntKind.i64.bits))) (IntKind.i64.wrap x13), r3, 0, ?_⟩
        refine .intro (by first | (simp [NLs, NL]; done) | (simp [NLs, NL, nlx]; done)) (.intro TT_ok Try.func48 rfl rfl [0, 2, 3, 4, 5, 7, 9, 10, 15, 54] rfl ?_)
        conv => whnf
        repeat' first
          | with_reducible rfl
          | with_reducible exact True.intro
          | with_reducible assumption
          | exact (Bool.false_ne_true (hd.symm.trans h)).elim
          | exact (Bool.false_ne_true (hd2.symm.trans h)).elim
          | exact nn (by decide)
          | exact nn (by omega)
          | (refine ⟨r1, t1, ?_⟩; conv => whnf)
          | (refine ⟨r2, t2, ?_⟩; conv => whnf)
          | (refine ⟨r3, t3, ?_⟩; conv => whnf)
          | (refine CallP.use (h59a) ?_; conv => whnf)
          | (refine ⟨_, _, CallP.at (h59a), ?_⟩; conv => whnf)
          | (refine ⟨_, fun _ => h59a, ?_⟩; conv => whnf)
          | (refine CallP.use (h59b) ?_; conv => whnf)
          | (refine ⟨_, _, CallP.at (h59b), ?_⟩; conv => whnf)
          | (refine ⟨_, fun _ => h59b, ?_⟩; conv => whnf)
          | (refine CallP.use (h60) ?_; conv => whnf)
          | (refine ⟨_, _, CallP.at (h60), ?_⟩; conv => whnf)
          | (refine ⟨_, fun _ => h60, ?_⟩; conv => whnf)
          | assumption
          | (refine W.drawnM (id := 8) 0 TT_ok hmix1 [0, 0, 0, 0, 0, 0, 0, 0, 0, 0, 0, 0, 0, 0, 0, 0, 0, 1] [1, 1, 1, 1, 1, 1, 1, 1, 1, 1, 1, 1, 1, 1, 1, 1, 1, 2] rfl ?_; conv => whnf)
          | exact absurd (show false = true from h) Bool.false_ne_true
          | exact absurd (show true = false from h) (fun e => Bool.noConfusion e)
          | exact (congrArg Bool.not h)
          | (refine ⟨_, ⟨by first | assumption | decide | omega, by first | assumption | rfl⟩, ?_⟩; conv => whnf)
          | (refine ⟨_, fun _ => ⟨by first | assumption | decide | omega, by first | assumption | rfl⟩, ?_⟩; conv => whnf)
          | exact (rfl : (_ : Nat) = _)
          | exact (rfl : (_ : LV) = _)
          | (refine ⟨fun h => ?_, fun h => ?_⟩ <;> conv => whnf)
          | (refine ⟨?_, ?_⟩ <;> conv => whnf)
          | (intro h; conv => whnf)
          | (refine gand ?_ h; assumption)
        all_goals skip
end Go.RX

