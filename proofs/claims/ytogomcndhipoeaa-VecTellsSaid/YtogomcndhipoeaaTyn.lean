/- The contracts of footwayref04. -/
import Derived.Test.YtogomcndhipoeaaTym
set_option linter.unusedVariables false
set_option linter.unusedSimpArgs false
open Go Go.RX Go.Proofs
namespace Go.RX
set_option maxRecDepth 10000
set_option maxHeartbeats 1000000
instance (a b : Vc) : Decidable (ltV a b) := by unfold ltV Lt4; infer_instance
theorem bandc (a b : Bool) : (bif a then b else false) = (a && b) := by cases a <;> rfl
attribute [local irreducible] CallW CallP CallS LoopW W IntKind.wrap rankL vRight BInv eqV cv
theorem c12 (v : Vc) : CallP Try.prog 12 [vcL v] (.bool (vR v)) := by
  refine .intro (by first | (simp [NLs, NL]; done) | (simp [NLs, NL, nlx]; done)) (.intro TT_ok Try.func12 rfl rfl [0, 1, 2] rfl ?_)
  conv => whnf
  repeat' first
    | with_reducible rfl
    | with_reducible exact True.intro
    | with_reducible assumption
    | assumption
    | exact absurd (show false = true from h) Bool.false_ne_true
    | exact absurd (show true = false from h) (fun e => Bool.noConfusion e)
    | exact (congrArg Bool.not h)
    | (refine ⟨_, ⟨by first | assumption | decide | omega, by first | assumption | rfl⟩, ?_⟩; conv => whnf)
    | (refine ⟨_, fun _ => ⟨by first | assumption | decide | omega, by first | assumption | rfl⟩, ?_⟩; conv => whnf)
    | exact (rfl : (_ : Nat) = _)
    | exact (rfl : (_ : LV) = _)
    | (refine ⟨fun h => ?_, fun h => ?_⟩ <;> conv => whnf)
    | (refine ⟨?_, ?_⟩ <;> conv => whnf)
    | (intro h; conv => whnf)
    | (refine gand ?_ h; assumption)
  all_goals
    refine Bool.eq_iff_iff.2 ?_
    show _ ↔ vRight _ _ _ _ = true
    rw [vRight_iff]
    simp only [bandc, Bool.and_eq_true, decide_eq_true_eq, Rt]
    omega
theorem c13 (a b : Vc) : CallP Try.prog 13 [vcL a, vcL b] (.bool (decide (ltV a b))) := by
  refine .intro (by first | (simp [NLs, NL]; done) | (simp [NLs, NL, nlx]; done)) (.intro TT_ok Try.func13 rfl rfl [0, 1, 2, 3, 4, 9, 19, 29] rfl ?_)
  conv => whnf
  repeat' first
    | with_reducible rfl
    | with_reducible exact True.intro
    | with_reducible assumption
    | assumption
    | exact absurd (show false = true from h) Bool.false_ne_true
    | exact absurd (show true = false from h) (fun e => Bool.noConfusion e)
    | exact (congrArg Bool.not h)
    | (refine ⟨_, ⟨by first | assumption | decide | omega, by first | assumption | rfl⟩, ?_⟩; conv => whnf)
    | (refine ⟨_, fun _ => ⟨by first | assumption | decide | omega, by first | assumption | rfl⟩, ?_⟩; conv => whnf)
    | exact (rfl : (_ : Nat) = _)
    | exact (rfl : (_ : LV) = _)
    | (refine ⟨fun h => ?_, fun h => ?_⟩ <;> conv => whnf)
    | (refine ⟨?_, ?_⟩ <;> conv => whnf)
    | (intro h; conv => whnf)
    | (refine gand ?_ h; assumption)
  all_goals
    simp only [Bool.not_eq_true', Bool.not_eq_false', decide_eq_true_eq, decide_eq_false_iff_not] at *
    refine Bool.eq_iff_iff.2 (Iff.trans decide_eq_true_iff (Iff.trans ?_ decide_eq_true_iff.symm))
    unfold ltV Lt4
    constructor <;> intro h9 <;> omega
def farV (a : Vc) (n : Int) : Vc := ⟨a.r, mn (w64 (a.c + n)) 2147483647, a.b, a.p⟩
theorem c14 (a : Vc) (n : Int) : CallP Try.prog 14 [vcL a, I n] (vcL (farV a n)) := by
  refine .intro (by first | (simp [NLs, NL]; done) | (simp [NLs, NL, nlx]; done)) (.intro TT_ok Try.func14 rfl rfl [0, 1, 2, 4] rfl ?_)
  conv => whnf
  repeat' first
    | with_reducible rfl
    | with_reducible exact True.intro
    | with_reducible assumption
    | assumption
    | exact absurd (show false = true from h) Bool.false_ne_true
    | exact absurd (show true = false from h) (fun e => Bool.noConfusion e)
    | exact (congrArg Bool.not h)
    | (refine ⟨_, ⟨by first | assumption | decide | omega, by first | assumption | rfl⟩, ?_⟩; conv => whnf)
    | (refine ⟨_, fun _ => ⟨by first | assumption | decide | omega, by first | assumption | rfl⟩, ?_⟩; conv => whnf)
    | exact (rfl : (_ : Nat) = _)
    | exact (rfl : (_ : LV) = _)
    | (refine ⟨fun h => ?_, fun h => ?_⟩ <;> conv => whnf)
    | (refine ⟨?_, ?_⟩ <;> conv => whnf)
    | (intro h; conv => whnf)
    | (refine gand ?_ h; assumption)
  all_goals rfl
abbrev s15 (l : List Vc) (k : Nat) : Slots := [(0, vcsL l), (5, vcsL l), (6, I (l.map Vc.cells).length), (7, I k)]
theorem c15 (l : List Vc) (hl : l.length ≤ 1000) : CallP Try.prog 15 [vcsL l] (.bool (allR l)) := by
  have hL : (l.map Vc.cells).length = l.length := List.length_map ..
  refine .intro (by first | (simp [NLs, NL]; done) | (simp [NLs, NL, nlx]; done)) (.intro TT_ok Try.func15 rfl rfl [0, 2, 4, 5, 6, 7, 8, 13] rfl ?_)
  conv => whnf
  repeat' first
    | with_reducible rfl
    | with_reducible exact True.intro
    | with_reducible assumption
    | assumption
    | exact absurd (show false = true from h) Bool.false_ne_true
    | exact absurd (show true = false from h) (fun e => Bool.noConfusion e)
    | exact (congrArg Bool.not h)
    | (refine ⟨_, ⟨by first | assumption | decide | omega, by first | assumption | rfl⟩, ?_⟩; conv => whnf)
    | (refine ⟨_, fun _ => ⟨by first | assumption | decide | omega, by first | assumption | rfl⟩, ?_⟩; conv => whnf)
    | exact (rfl : (_ : Nat) = _)
    | exact (rfl : (_ : LV) = _)
    | (refine ⟨fun h => ?_, fun h => ?_⟩ <;> conv => whnf)
    | (refine ⟨?_, ?_⟩ <;> conv => whnf)
    | (intro h; conv => whnf)
    | (refine gand ?_ h; assumption)
  refine LoopW.norm (s15 l 0) 0 [] ⟨rfl, rfl, rfl, rfl, trivial⟩ trivial ⟨trivial, trivial, trivial, trivial, trivial⟩ rfl ?_
  refine LoopW.ind (α := Nat) (fun k => l.length - k) (fun k s' H => (k ≤ l.length ∧ allR l = allR (l.drop k)) ∧ s' = s15 l k ∧ H = ⟨0, []⟩) ?_ (a := 0) ⟨⟨Nat.zero_le _, rfl⟩, rfl, rfl⟩
  rintro k s' H ⟨⟨hk, hkd⟩, rfl, rfl⟩ ih
  by_cases hi : k < l.length
  · have hd : decide ((k : Int) < ((l.map Vc.cells).length : Int)) = true := by rw [decide_eq_true_eq]; omega
    have hb : (l.map Vc.cells)[k]? = some l[k].cells := by simp [hi]
    have h12 := c12 l[k]
    have hdr := List.drop_eq_getElem_cons hi
    generalize l[k] = v at *
    cases hn : vR v with
    | false =>
      rw [hn] at h12
      have hA : allR l = false := by rw [hkd, hdr]; simp [allR, hn]
      refine LoopW.round TT_ok [0, 2, 4, 5, 6, 7, 8, 13] ?_
      conv => whnf
      repeat' first
        | with_reducible rfl
        | with_reducible exact True.intro
        | with_reducible assumption
        | exact (Bool.false_ne_true (h.symm.trans hd)).elim
        | (refine CallP.use (h12) ?_; conv => whnf)
        | (refine ⟨_, _, CallP.at (h12), ?_⟩; conv => whnf)
        | (refine ⟨_, fun _ => h12, ?_⟩; conv => whnf)
        | assumption
        | exact absurd (show false = true from h) Bool.false_ne_true
        | exact absurd (show true = false from h) (fun e => Bool.noConfusion e)
        | exact (congrArg Bool.not h)
        | (refine ⟨_, ⟨by first | assumption | decide | omega, by first | assumption | rfl⟩, ?_⟩; conv => whnf)
        | (refine ⟨_, fun _ => ⟨by first | assumption | decide | omega, by first | assumption | rfl⟩, ?_⟩; conv => whnf)
        | exact (rfl : (_ : Nat) = _)
        | exact (rfl : (_ : LV) = _)
        | (refine ⟨fun h => ?_, fun h => ?_⟩ <;> conv => whnf)
        | (refine ⟨?_, ?_⟩ <;> conv => whnf)
        | (intro h; conv => whnf)
        | (refine gand ?_ h; assumption)
      all_goals (rw [hA])
    | true =>
      rw [hn] at h12
      have hA : allR l = allR (l.drop (k + 1)) := by rw [hkd, hdr]; simp [allR, hn]
      refine LoopW.round TT_ok [0, 2, 4, 5, 6, 7, 8, 13] ?_
      conv => whnf
      repeat' first
        | with_reducible rfl
        | with_reducible exact True.intro
        | with_reducible assumption
        | exact (Bool.false_ne_true (h.symm.trans hd)).elim
        | (refine CallP.use (h12) ?_; conv => whnf)
        | (refine ⟨_, _, CallP.at (h12), ?_⟩; conv => whnf)
        | (refine ⟨_, fun _ => h12, ?_⟩; conv => whnf)
        | assumption
        | exact absurd (show false = true from h) Bool.false_ne_true
        | exact absurd (show true = false from h) (fun e => Bool.noConfusion e)
        | exact (congrArg Bool.not h)
        | (refine ⟨_, ⟨by first | assumption | decide | omega, by first | assumption | rfl⟩, ?_⟩; conv => whnf)
        | (refine ⟨_, fun _ => ⟨by first | assumption | decide | omega, by first | assumption | rfl⟩, ?_⟩; conv => whnf)
        | exact (rfl : (_ : Nat) = _)
        | exact (rfl : (_ : LV) = _)
        | (refine ⟨fun h => ?_, fun h => ?_⟩ <;> conv => whnf)
        | (refine ⟨?_, ?_⟩ <;> conv => whnf)
        | (intro h; conv => whnf)
        | (refine gand ?_ h; assumption)
      refine LoopW.norm (s15 l (k + 1)) 0 [] ⟨rfl, rfl, rfl, congrArg (LV.int .i64) (w64_nat k (by omega)), trivial⟩ trivial ⟨trivial, trivial, trivial, trivial, trivial⟩ rfl (ih (k + 1) _ _ ⟨⟨hi, hA⟩, rfl, rfl⟩ (by omega))
  · have hd : decide ((k : Int) < ((l.map Vc.cells).length : Int)) = false := by rw [decide_eq_false_iff_not]; omega
    have hA : allR l = true := by rw [hkd, List.drop_eq_nil_of_le (by omega)]; rfl
    refine LoopW.round TT_ok [0, 2, 4, 5, 6, 7, 8, 13] ?_
    conv => whnf
    repeat' first
      | with_reducible rfl
      | with_reducible exact True.intro
      | with_reducible assumption
      | exact (Bool.false_ne_true (hd.symm.trans h)).elim
      | assumption
      | exact absurd (show false = true from h) Bool.false_ne_true
      | exact absurd (show true = false from h) (fun e => Bool.noConfusion e)
      | exact (congrArg Bool.not h)
      | (refine ⟨_, ⟨by first | assumption | decide | omega, by first | assumption | rfl⟩, ?_⟩; conv => whnf)
      | (refine ⟨_, fun _ => ⟨by first | assumption | decide | omega, by first | assumption | rfl⟩, ?_⟩; conv => whnf)
      | exact (rfl : (_ : Nat) = _)
      | exact (rfl : (_ : LV) = _)
      | (refine ⟨fun h => ?_, fun h => ?_⟩ <;> conv => whnf)
      | (refine ⟨?_, ?_⟩ <;> conv => whnf)
      | (intro h; conv => whnf)
      | (refine gand ?_ h; assumption)
    all_goals (rw [hA])
abbrev s16 (l : List Vc) (k : Nat) : Slots := [(0, vcsL l), (1, vcsL l), (12, I (l.map Vc.cells).length), (13, I k)]
theorem eq_self {x : Vc} : (!(decide (x.r = x.r) && (decide (x.c = x.c) && (decide (x.b = x.b) && (decide (x.p = x.p) && true))))) = false := by simp
theorem c16 (l : List Vc) (hl : l.length ≤ 1000) : CallP Try.prog 16 [vcsL l, vcsL l] (.bool true) := by
  have hL : (l.map Vc.cells).length = l.length := List.length_map ..
  have hz : decide (((l.map Vc.cells).length : Int) = ((l.map Vc.cells).length : Int)) = true := by rw [decide_eq_true_eq]
  refine .intro (by first | (simp [NLs, NL]; done) | (simp [NLs, NL, nlx]; done)) (.intro TT_ok Try.func16 rfl rfl [0, 1, 4, 5, 10, 12, 13, 14, 24] rfl ?_)
  conv => whnf
  repeat' first
    | with_reducible rfl
    | with_reducible exact True.intro
    | with_reducible assumption
    | (exfalso; simp at h; done)
    | assumption
    | (refine W.drawn TT_ok hmix1 rfl ?_; conv => whnf)
    | exact absurd (show false = true from h) Bool.false_ne_true
    | exact absurd (show true = false from h) (fun e => Bool.noConfusion e)
    | exact (congrArg Bool.not h)
    | (refine ⟨_, ⟨by first | assumption | decide | omega, by first | assumption | rfl⟩, ?_⟩; conv => whnf)
    | (refine ⟨_, fun _ => ⟨by first | assumption | decide | omega, by first | assumption | rfl⟩, ?_⟩; conv => whnf)
    | exact (rfl : (_ : Nat) = _)
    | exact (rfl : (_ : LV) = _)
    | (refine ⟨fun h => ?_, fun h => ?_⟩ <;> conv => whnf)
    | (refine ⟨?_, ?_⟩ <;> conv => whnf)
    | (intro h; conv => whnf)
    | (refine gand ?_ h; assumption)
  refine LoopW.norm (s16 l 0) 0 [] ⟨rfl, rfl, rfl, rfl, trivial⟩ trivial ⟨trivial, trivial, trivial, trivial, trivial⟩ rfl ?_
  refine LoopW.ind (α := Nat) (fun k => l.length - k) (fun k s' H => k ≤ l.length ∧ s' = s16 l k ∧ H = ⟨0, []⟩) ?_ (a := 0) ⟨Nat.zero_le _, rfl, rfl⟩
  rintro k s' H ⟨hk, rfl, rfl⟩ ih
  by_cases hi : k < l.length
  · have hd : decide ((k : Int) < ((l.map Vc.cells).length : Int)) = true := by rw [decide_eq_true_eq]; omega
    have hb : (l.map Vc.cells)[k]? = some l[k].cells := by simp [hi]
    have hA := @eq_self l[k]
    generalize l[k] = v at *
    refine LoopW.round TT_ok [0, 1, 4, 5, 10, 12, 13, 14, 24] ?_
    conv => whnf
    repeat' first
      | with_reducible rfl
      | with_reducible exact True.intro
      | with_reducible assumption
      | exact (Bool.false_ne_true (h.symm.trans hd)).elim
      | exact (Bool.false_ne_true (hA.symm.trans h)).elim
      | assumption
      | (refine W.drawn TT_ok hmix1 rfl ?_; conv => whnf)
      | exact absurd (show false = true from h) Bool.false_ne_true
      | exact absurd (show true = false from h) (fun e => Bool.noConfusion e)
      | exact (congrArg Bool.not h)
      | (refine ⟨_, ⟨by first | assumption | decide | omega, by first | assumption | rfl⟩, ?_⟩; conv => whnf)
      | (refine ⟨_, fun _ => ⟨by first | assumption | decide | omega, by first | assumption | rfl⟩, ?_⟩; conv => whnf)
      | exact (rfl : (_ : Nat) = _)
      | exact (rfl : (_ : LV) = _)
      | (refine ⟨fun h => ?_, fun h => ?_⟩ <;> conv => whnf)
      | (refine ⟨?_, ?_⟩ <;> conv => whnf)
      | (intro h; conv => whnf)
      | (refine gand ?_ h; assumption)
    refine LoopW.norm (s16 l (k + 1)) 0 [] ⟨rfl, rfl, rfl, congrArg (LV.int .i64) (w64_nat k (by omega)), trivial⟩ trivial ⟨trivial, trivial, trivial, trivial, trivial⟩ rfl (ih (k + 1) _ _ ⟨hi, rfl, rfl⟩ (by omega))
  · have hd : decide ((k : Int) < ((l.map Vc.cells).length : Int)) = false := by rw [decide_eq_false_iff_not]; omega
    refine LoopW.round TT_ok [0, 1, 4, 5, 10, 12, 13, 14, 24] ?_
    conv => whnf
    repeat' first
      | with_reducible rfl
      | with_reducible exact True.intro
      | with_reducible assumption
      | exact (Bool.false_ne_true (hd.symm.trans h)).elim
      | assumption
      | (refine W.drawn TT_ok hmix1 rfl ?_; conv => whnf)
      | exact absurd (show false = true from h) Bool.false_ne_true
      | exact absurd (show true = false from h) (fun e => Bool.noConfusion e)
      | exact (congrArg Bool.not h)
      | (refine ⟨_, ⟨by first | assumption | decide | omega, by first | assumption | rfl⟩, ?_⟩; conv => whnf)
      | (refine ⟨_, fun _ => ⟨by first | assumption | decide | omega, by first | assumption | rfl⟩, ?_⟩; conv => whnf)
      | exact (rfl : (_ : Nat) = _)
      | exact (rfl : (_ : LV) = _)
      | (refine ⟨fun h => ?_, fun h => ?_⟩ <;> conv => whnf)
      | (refine ⟨?_, ?_⟩ <;> conv => whnf)
      | (intro h; conv => whnf)
      | (refine gand ?_ h; assumption)
    all_goals skip
abbrev s18 (l : List Vc) (at_ k : Nat) : Slots := [(0, vcsL l), (3, I at_), (6, vcsL l), (7, I (l.map Vc.cells).length), (8, I k)]
theorem c18s (l : List Vc) (hl : l.length ≤ 1000) (hne : 1 ≤ l.length) : CallS Try.prog 18 [vcsL l] fun r => ∃ at_ : Nat, BInv l l.length at_ ∧ r = I at_ := by
  have hL : (l.map Vc.cells).length = l.length := List.length_map ..
  refine .intro (by first | (simp [NLs, NL]; done) | (simp [NLs, NL, nlx]; done)) (CallW.intro TT_ok Try.func18 rfl rfl [0, 2, 3, 4, 5, 6, 7, 8, 9, 18] rfl ?_)
  conv => whnf
  repeat' first
    | with_reducible rfl
    | with_reducible exact True.intro
    | with_reducible assumption
    | assumption
    | (refine W.drawn TT_ok hmix1 rfl ?_; conv => whnf)
    | exact absurd (show false = true from h) Bool.false_ne_true
    | exact absurd (show true = false from h) (fun e => Bool.noConfusion e)
    | exact (congrArg Bool.not h)
    | (refine ⟨_, ⟨by first | assumption | decide | omega, by first | assumption | rfl⟩, ?_⟩; conv => whnf)
    | (refine ⟨_, fun _ => ⟨by first | assumption | decide | omega, by first | assumption | rfl⟩, ?_⟩; conv => whnf)
    | exact (rfl : (_ : Nat) = _)
    | exact (rfl : (_ : LV) = _)
    | (refine ⟨fun h => ?_, fun h => ?_⟩ <;> conv => whnf)
    | (refine ⟨?_, ?_⟩ <;> conv => whnf)
    | (intro h; conv => whnf)
    | (refine gand ?_ h; assumption)
  refine LoopW.norm (s18 l 0 0) 0 [] ⟨rfl, rfl, rfl, rfl, rfl, trivial⟩ trivial ⟨trivial, trivial, trivial, trivial, trivial, trivial⟩ rfl ?_
  refine LoopW.ind (α := Nat) (fun k => l.length - k) (fun k s' H => ∃ at_, (k ≤ l.length ∧ at_ < l.length ∧ BInv l k at_) ∧ s' = s18 l at_ k ∧ H = ⟨0, []⟩) ?_ (a := 0) ⟨0, ⟨Nat.zero_le _, hne, by unfold BInv; exact ⟨_, List.getElem?_eq_getElem hne, Nat.le_refl _, fun j y hj => absurd hj (Nat.not_lt_zero _), fun j y hj => absurd hj (Nat.not_lt_zero _)⟩⟩, rfl, rfl⟩
  rintro k s' H ⟨at_, ⟨hk, hat, hI⟩, rfl, rfl⟩ ih
  by_cases hi : k < l.length
  · have hd : decide ((k : Int) < ((l.map Vc.cells).length : Int)) = true := by rw [decide_eq_true_eq]; omega
    have hx := List.getElem?_eq_getElem hi
    have hu := List.getElem?_eq_getElem hat
    have hb : (l.map Vc.cells)[k]? = some l[k].cells := by simp [hi]
    have hbu : (l.map Vc.cells)[at_]? = some l[at_].cells := by simp [hat]
    have hbu2 : (l.map Vc.cells)[((at_ : Nat) : Int).toNat]? = some l[at_].cells := by rw [Int.toNat_natCast]; exact hbu
    have h0at : (((at_ : Nat) : Int) - 0).NonNeg := Int.natCast_nonneg _
    generalize l[k] = v at hx hb
    generalize l[at_] = u at hu hbu hbu2
    have h13 := c13 v u
    have hnext : ∀ (a' : Nat), a' < l.length → BInv l (k + 1) a' → ∀ {s1 : Slots} {H1 : Heap}, subC s1 (s18 l a' (k + 1)) → LoopW Try.prog Try.f18.ntmps 0 _ _ s1 H1 := fun a' q1 q2 {s1} {H1} h1 =>
      LoopW.norm (s18 l a' (k + 1)) 0 [] h1 trivial ⟨trivial, trivial, trivial, trivial, trivial, trivial⟩ rfl (ih (k + 1) _ _ ⟨a', ⟨hi, q1, q2⟩, rfl, rfl⟩ (by omega))
    clear ih
    by_cases hlt : ltV v u
    · rw [decide_eq_true hlt] at h13
      refine LoopW.round TT_ok [0, 2, 3, 4, 5, 6, 7, 8, 9, 18] ?_
      conv => whnf
      repeat' first
        | with_reducible rfl
        | with_reducible exact True.intro
        | with_reducible assumption
        | exact (Bool.false_ne_true (h.symm.trans hd)).elim
        | (refine ⟨u.cells, fun _ => ⟨h0at, hbu2⟩, ?_⟩; conv => whnf)
        | (refine ⟨u.cells, ⟨h0at, hbu2⟩, ?_⟩; conv => whnf)
        | (refine CallP.use (h13) ?_; conv => whnf)
        | (refine ⟨_, _, CallP.at (h13), ?_⟩; conv => whnf)
        | (refine ⟨_, fun _ => h13, ?_⟩; conv => whnf)
        | assumption
        | (refine W.drawn TT_ok hmix1 rfl ?_; conv => whnf)
        | exact absurd (show false = true from h) Bool.false_ne_true
        | exact absurd (show true = false from h) (fun e => Bool.noConfusion e)
        | exact (congrArg Bool.not h)
        | (refine ⟨_, ⟨by first | assumption | decide | omega, by first | assumption | rfl⟩, ?_⟩; conv => whnf)
        | (refine ⟨_, fun _ => ⟨by first | assumption | decide | omega, by first | assumption | rfl⟩, ?_⟩; conv => whnf)
        | exact (rfl : (_ : Nat) = _)
        | exact (rfl : (_ : LV) = _)
        | (refine ⟨fun h => ?_, fun h => ?_⟩ <;> conv => whnf)
        | (refine ⟨?_, ?_⟩ <;> conv => whnf)
        | (intro h; conv => whnf)
        | (refine gand ?_ h; assumption)
      exact hnext k hi (hI.turn hu hx hlt) ⟨rfl, rfl, rfl, rfl, congrArg (LV.int .i64) (w64_nat k (by omega)), trivial⟩
    · rw [decide_eq_false hlt] at h13
      refine LoopW.round TT_ok [0, 2, 3, 4, 5, 6, 7, 8, 9, 18] ?_
      conv => whnf
      repeat' first
        | with_reducible rfl
        | with_reducible exact True.intro
        | with_reducible assumption
        | exact (Bool.false_ne_true (h.symm.trans hd)).elim
        | (refine ⟨u.cells, fun _ => ⟨h0at, hbu2⟩, ?_⟩; conv => whnf)
        | (refine ⟨u.cells, ⟨h0at, hbu2⟩, ?_⟩; conv => whnf)
        | (refine CallP.use (h13) ?_; conv => whnf)
        | (refine ⟨_, _, CallP.at (h13), ?_⟩; conv => whnf)
        | (refine ⟨_, fun _ => h13, ?_⟩; conv => whnf)
        | assumption
        | (refine W.drawn TT_ok hmix1 rfl ?_; conv => whnf)
        | exact absurd (show false = true from h) Bool.false_ne_true
        | exact absurd (show true = false from h) (fun e => Bool.noConfusion e)
        | exact (congrArg Bool.not h)
        | (refine ⟨_, ⟨by first | assumption | decide | omega, by first | assumption | rfl⟩, ?_⟩; conv => whnf)
        | (refine ⟨_, fun _ => ⟨by first | assumption | decide | omega, by first | assumption | rfl⟩, ?_⟩; conv => whnf)
        | exact (rfl : (_ : Nat) = _)
        | exact (rfl : (_ : LV) = _)
        | (refine ⟨fun h => ?_, fun h => ?_⟩ <;> conv => whnf)
        | (refine ⟨?_, ?_⟩ <;> conv => whnf)
        | (intro h; conv => whnf)
        | (refine gand ?_ h; assumption)
      exact hnext at_ hat (hI.keep hu hx hlt) ⟨rfl, rfl, rfl, rfl, congrArg (LV.int .i64) (w64_nat k (by omega)), trivial⟩
  · have hd : decide ((k : Int) < ((l.map Vc.cells).length : Int)) = false := by rw [decide_eq_false_iff_not]; omega
    obtain rfl : k = l.length := by omega
    clear ih
    refine LoopW.round TT_ok [0, 2, 3, 4, 5, 6, 7, 8, 9, 18] ?_
    conv => whnf
    repeat' first
      | with_reducible rfl
      | with_reducible exact True.intro
      | with_reducible assumption
      | exact (Bool.false_ne_true (hd.symm.trans h)).elim
      | exact ⟨I at_, ⟨rfl, rfl⟩, at_, hI, rfl⟩
      | assumption
      | (refine W.drawn TT_ok hmix1 rfl ?_; conv => whnf)
      | exact absurd (show false = true from h) Bool.false_ne_true
      | exact absurd (show true = false from h) (fun e => Bool.noConfusion e)
      | exact (congrArg Bool.not h)
      | (refine ⟨_, ⟨by first | assumption | decide | omega, by first | assumption | rfl⟩, ?_⟩; conv => whnf)
      | (refine ⟨_, fun _ => ⟨by first | assumption | decide | omega, by first | assumption | rfl⟩, ?_⟩; conv => whnf)
      | exact (rfl : (_ : Nat) = _)
      | exact (rfl : (_ : LV) = _)
      | (refine ⟨fun h => ?_, fun h => ?_⟩ <;> conv => whnf)
      | (refine ⟨?_, ?_⟩ <;> conv => whnf)
      | (intro h; conv => whnf)
      | (refine gand ?_ h; assumption)
    all_goals skip
end Go.RX

