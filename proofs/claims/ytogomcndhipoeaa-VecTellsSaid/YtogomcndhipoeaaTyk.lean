/- Contracts of vec.Sort and vec.Best. -/
import Derived.Test.YtogomcndhipoeaaTyj
set_option linter.unusedVariables false
set_option linter.unusedSimpArgs false
open Go Go.RX Go.Proofs
namespace Go.RX
set_option maxRecDepth 10000
set_option maxHeartbeats 1000000
abbrev vcsL (l : List Vc) : LV := .ro 4 (l.map Vc.cells)
abbrev vR (v : Vc) : Bool := vRight v.r v.c v.b v.p
theorem vR_iff (v : Vc) : vR v = true ↔ Rv v := vRight_iff _ _ _ _
attribute [local irreducible] CallW CallP CallS LoopW W IntKind.wrap rankL vRight
theorem c21 (l : List Vc) (hl : l.length ≤ 1000) : CallF Try.prog 21 [vcsL l] 31 4 (l.map Vc.cells) := by
  have f1 : fits (([] : List (List LV)) ++ l.map Vc.cells).length 32 := by simp [fits]; omega
  refine CallF.of (vcs_nl l) ?_
  refine CallW.intro TT_ok Try.func21 rfl rfl [0, 2, 4] rfl ?_
  conv => whnf
  repeat' first
    | with_reducible rfl
    | with_reducible exact True.intro
    | with_reducible assumption
    | exact f1
    | exact .inl ⟨rfl, ‹_›⟩
    | exact .inr ⟨_, rfl, rfl⟩
    | assumption
    | exact absurd (show false = true from h) Bool.false_ne_true
    | exact absurd (show true = false from h) (fun e => Bool.noConfusion e)
    | exact (congrArg Bool.not h)
    | (refine ⟨_, ⟨by first | assumption | decide | omega, by first | assumption | rfl⟩, ?_⟩; conv => whnf)
    | (refine ⟨_, fun _ => ⟨by first | assumption | decide | omega, by first | assumption | rfl⟩, ?_⟩; conv => whnf)
    | exact (rfl : (_ : Nat) = _)
    | exact (rfl : (_ : LV) = _)
    | (refine ⟨fun h => ?_, fun h => ?_⟩ <;> conv => whnf)
    | (refine ⟨?_, ?_⟩ <;> conv => whnf)
    | (intro h; conv => whnf)
    | (refine gand ?_ h; assumption)
  all_goals skip
theorem c22 (l0 : List Vc) (n : Nat) (hn : n = l0.length) (hl : n ≤ 1000) (hv : ∀ v ∈ l0, Rv v) {K : LV → Heap → Prop} (h : ∀ l', l'.Perm l0 → Srt leV l' → K (.tup []) (hpV l')) :
    CallW Try.prog 22 [.sl 0 0 n, cmpF] (hpV l0) K := by
  have hK := h
  clear h
  refine CallW.intro TT_ok Try.func22 rfl rfl [0, 1, 1000028] rfl ?_
  conv => whnf
  repeat' first
    | with_reducible rfl
    | with_reducible exact True.intro
    | with_reducible assumption
    | assumption
    | exact absurd (show false = true from h) Bool.false_ne_true
    | exact absurd (show true = false from h) (fun e => Bool.noConfusion e)
    | exact (congrArg Bool.not h)
    | (refine ⟨_, ⟨by first | assumption | decide | omega, by first | assumption | rfl⟩, ?_⟩; conv => whnf)
    | (refine ⟨_, fun _ => ⟨by first | assumption | decide | omega, by first | assumption | rfl⟩, ?_⟩; conv => whnf)
    | exact (rfl : (_ : Nat) = _)
    | exact (rfl : (_ : LV) = _)
    | (refine ⟨fun h => ?_, fun h => ?_⟩ <;> conv => whnf)
    | (refine ⟨?_, ?_⟩ <;> conv => whnf)
    | (intro h; conv => whnf)
    | (refine gand ?_ h; assumption)
  refine c28 l0 n hn hl hv ?_
  intro l' h1 h2
  conv => whnf
  repeat' first
    | with_reducible rfl
    | with_reducible exact True.intro
    | with_reducible assumption
    | exact hK l' h1 h2
    | assumption
    | exact absurd (show false = true from h) Bool.false_ne_true
    | exact absurd (show true = false from h) (fun e => Bool.noConfusion e)
    | exact (congrArg Bool.not h)
    | (refine ⟨_, ⟨by first | assumption | decide | omega, by first | assumption | rfl⟩, ?_⟩; conv => whnf)
    | (refine ⟨_, fun _ => ⟨by first | assumption | decide | omega, by first | assumption | rfl⟩, ?_⟩; conv => whnf)
    | exact (rfl : (_ : Nat) = _)
    | exact (rfl : (_ : LV) = _)
    | (refine ⟨fun h => ?_, fun h => ?_⟩ <;> conv => whnf)
    | (refine ⟨?_, ?_⟩ <;> conv => whnf)
    | (intro h; conv => whnf)
    | (refine gand ?_ h; assumption)
theorem c27 (v : Vc) : CallP Try.prog 27 [vcL v] (.bool (!vR v)) := by
  refine .intro (by first | (simp [NLs, NL]; done) | (simp [NLs, NL, nlx]; done)) (.intro TT_ok Try.func27 rfl rfl [0, 1, 2] rfl ?_)
  conv => whnf
  repeat' first
    | with_reducible rfl
    | with_reducible exact True.intro
    | with_reducible assumption
    | (refine CallP.use (c11 _ _ _ _) ?_; conv => whnf)
    | (refine ⟨_, _, CallP.at (c11 _ _ _ _), ?_⟩; conv => whnf)
    | (refine ⟨_, fun _ => c11 _ _ _ _, ?_⟩; conv => whnf)
    | assumption
    | exact absurd (show false = true from h) Bool.false_ne_true
    | exact absurd (show true = false from h) (fun e => Bool.noConfusion e)
    | exact (congrArg Bool.not h)
    | (refine ⟨_, ⟨by first | assumption | decide | omega, by first | assumption | rfl⟩, ?_⟩; conv => whnf)
    | (refine ⟨_, fun _ => ⟨by first | assumption | decide | omega, by first | assumption | rfl⟩, ?_⟩; conv => whnf)
    | exact (rfl : (_ : Nat) = _)
    | exact (rfl : (_ : LV) = _)
    | (refine ⟨fun h => ?_, fun h => ?_⟩ <;> conv => whnf)
    | (refine ⟨?_, ?_⟩ <;> conv => whnf)
    | (intro h; conv => whnf)
    | (refine gand ?_ h; assumption)
def badI (l : List Vc) : Nat := l.findIdx fun v => !vR v
abbrev s30 (l : List Vc) (k : Nat) : Slots := [(0, vcsL l), (1, .func (.func 27) [] []), (7, I (l.map Vc.cells).length), (8, I k)]
theorem c30 (l : List Vc) (hl : l.length ≤ 1000) : CallP Try.prog 30 [vcsL l, .func (.func 27) [] []] (I (if badI l < l.length then (badI l : Int) else -1)) := by
  have hL : (l.map Vc.cells).length = l.length := List.length_map ..
  refine .intro (by first | (simp [NLs, NL]; done) | (simp [NLs, NL, nlx]; done)) (.intro TT_ok Try.func30 rfl rfl [0, 1, 4, 5, 7, 8, 9, 16] rfl ?_)
  conv => whnf
  repeat' first
    | with_reducible rfl
    | with_reducible exact True.intro
    | with_reducible assumption
    | assumption
    | exact absurd (show false = true from h) Bool.false_ne_true
    | exact absurd (show true = false from h) (fun e => Bool.noConfusion e)
    | exact (congrArg Bool.not h)
    | (refine ⟨_, ⟨by first | assumption | decide | omega, by first | assumption | rfl⟩, ?_⟩; conv => whnf)
    | (refine ⟨_, fun _ => ⟨by first | assumption | decide | omega, by first | assumption | rfl⟩, ?_⟩; conv => whnf)
    | exact (rfl : (_ : Nat) = _)
    | exact (rfl : (_ : LV) = _)
    | (refine ⟨fun h => ?_, fun h => ?_⟩ <;> conv => whnf)
    | (refine ⟨?_, ?_⟩ <;> conv => whnf)
    | (intro h; conv => whnf)
    | (refine gand ?_ h; assumption)
  refine LoopW.norm (s30 l 0) 0 [] ⟨rfl, rfl, rfl, rfl, trivial⟩ trivial ⟨trivial, ⟨trivial, trivial⟩, trivial, trivial, trivial⟩ rfl ?_
  refine LoopW.ind (α := Nat) (fun k => l.length - k) (fun k s' H => (k ≤ l.length ∧ k ≤ badI l) ∧ s' = s30 l k ∧ H = ⟨0, []⟩) ?_ (a := 0) ⟨⟨Nat.zero_le _, Nat.zero_le _⟩, rfl, rfl⟩
  rintro k s' H ⟨⟨hk, hkd⟩, rfl, rfl⟩ ih
  by_cases hi : k < l.length
  · have hd : decide ((k : Int) < ((l.map Vc.cells).length : Int)) = true := by rw [decide_eq_true_eq]; omega
    have hb : (l.map Vc.cells)[k]? = some l[k].cells := by simp [hi]
    have h27 := c27 l[k]
    cases hn : vR l[k] with
    | false =>
      have hkk : badI l = k := by
        refine Nat.le_antisymm ?_ hkd
        exact Nat.not_lt.1 fun h => by
          have := List.not_of_lt_findIdx h
          rw [hn] at this; cases this
      rw [hn] at h27
      refine LoopW.round TT_ok [0, 1, 4, 5, 7, 8, 9, 16] ?_
      conv => whnf
      repeat' first
        | with_reducible rfl
        | with_reducible exact True.intro
        | with_reducible assumption
        | exact (Bool.false_ne_true (h.symm.trans hd)).elim
        | (refine CallP.use (h27) ?_; conv => whnf)
        | (refine ⟨_, _, CallP.at (h27), ?_⟩; conv => whnf)
        | (refine ⟨_, fun _ => h27, ?_⟩; conv => whnf)
        | assumption
        | exact absurd (show false = true from h) Bool.false_ne_true
        | exact absurd (show true = false from h) (fun e => Bool.noConfusion e)
        | exact (congrArg Bool.not h)
        | (refine ⟨_, ⟨by first | assumption | decide | omega, by first | assumption | rfl⟩, ?_⟩; conv => whnf)
        | (refine ⟨_, fun _ => ⟨by first | assumption | decide | omega, by first | assumption | rfl⟩, ?_⟩; conv => whnf)
        | exact (rfl : (_ : Nat) = _)
        | exact (rfl : (_ : LV) = _)
        | (refine ⟨fun h => ?_, fun h => ?_⟩ <;> conv => whnf)
        | (refine ⟨?_, ?_⟩ <;> conv => whnf)
        | (intro h; conv => whnf)
        | (refine gand ?_ h; assumption)
      all_goals (rw [hkk, if_pos hi])
    | true =>
      have hk1 : k + 1 ≤ badI l := by
        rcases Nat.lt_or_ge k (badI l) with h | h
        · exact h
        · exfalso
          have hkk : badI l = k := Nat.le_antisymm h hkd
          have h1 : (!vR l[badI l]) = true := List.findIdx_getElem (w := by show badI l < _; omega)
          simp only [hkk, hn] at h1
          cases h1
      rw [hn] at h27
      refine LoopW.round TT_ok [0, 1, 4, 5, 7, 8, 9, 16] ?_
      conv => whnf
      repeat' first
        | with_reducible rfl
        | with_reducible exact True.intro
        | with_reducible assumption
        | exact (Bool.false_ne_true (h.symm.trans hd)).elim
        | (refine CallP.use (h27) ?_; conv => whnf)
        | (refine ⟨_, _, CallP.at (h27), ?_⟩; conv => whnf)
        | (refine ⟨_, fun _ => h27, ?_⟩; conv => whnf)
        | assumption
        | exact absurd (show false = true from h) Bool.false_ne_true
        | exact absurd (show true = false from h) (fun e => Bool.noConfusion e)
        | exact (congrArg Bool.not h)
        | (refine ⟨_, ⟨by first | assumption | decide | omega, by first | assumption | rfl⟩, ?_⟩; conv => whnf)
        | (refine ⟨_, fun _ => ⟨by first | assumption | decide | omega, by first | assumption | rfl⟩, ?_⟩; conv => whnf)
        | exact (rfl : (_ : Nat) = _)
        | exact (rfl : (_ : LV) = _)
        | (refine ⟨fun h => ?_, fun h => ?_⟩ <;> conv => whnf)
        | (refine ⟨?_, ?_⟩ <;> conv => whnf)
        | (intro h; conv => whnf)
        | (refine gand ?_ h; assumption)
      refine LoopW.norm (s30 l (k + 1)) 0 [] ⟨rfl, rfl, rfl, congrArg (LV.int .i64) (w64_nat k (by omega)), trivial⟩ trivial ⟨trivial, ⟨trivial, trivial⟩, trivial, trivial, trivial⟩ rfl (ih (k + 1) _ _ ⟨⟨hi, hk1⟩, rfl, rfl⟩ (by omega))
  · have hd : decide ((k : Int) < ((l.map Vc.cells).length : Int)) = false := by rw [decide_eq_false_iff_not]; omega
    refine LoopW.round TT_ok [0, 1, 4, 5, 7, 8, 9, 16] ?_
    conv => whnf
    repeat' first
      | with_reducible rfl
      | with_reducible exact True.intro
      | with_reducible assumption
      | exact (Bool.false_ne_true (hd.symm.trans h)).elim
      | assumption
      | exact absurd (show false = true from h) Bool.false_ne_true
      | exact absurd (show true = false from h) (fun e => Bool.noConfusion e)
      | exact (congrArg Bool.not h)
      | (refine ⟨_, ⟨by first | assumption | decide | omega, by first | assumption | rfl⟩, ?_⟩; conv => whnf)
      | (refine ⟨_, fun _ => ⟨by first | assumption | decide | omega, by first | assumption | rfl⟩, ?_⟩; conv => whnf)
      | exact (rfl : (_ : Nat) = _)
      | exact (rfl : (_ : LV) = _)
      | (refine ⟨fun h => ?_, fun h => ?_⟩ <;> conv => whnf)
      | (refine ⟨?_, ?_⟩ <;> conv => whnf)
      | (intro h; conv => whnf)
      | (refine gand ?_ h; assumption)
    rw [if_neg (by omega)]
def allR (l : List Vc) : Bool := l.all vR
theorem allR_iff (l : List Vc) : allR l = true ↔ ∀ v ∈ l, Rv v := by simp only [allR, List.all_eq_true, vR_iff]
theorem bad_all (l : List Vc) : (!decide ((0 : Int) ≤ (if badI l < l.length then (badI l : Int) else -1))) = allR l := by
  split
  · rename_i h
    have h1 : (!vR l[badI l]) = true := List.findIdx_getElem (w := h)
    have h2 : allR l = false := by
      rw [← Bool.not_eq_true, allR, List.all_eq_true]
      intro h3
      rw [h3 _ (List.getElem_mem h)] at h1
      cases h1
    rw [h2, decide_eq_true (by omega)]; rfl
  · rename_i h
    have h2 : allR l = true := by
      rw [allR, List.all_eq_true]
      intro v hv
      cases hq : vR v with
      | true => rfl
      | false =>
        exfalso
        exact h (List.findIdx_lt_length_of_exists ⟨v, hv, by rw [hq]; rfl⟩)
    rw [h2, decide_eq_false (by omega)]; rfl
theorem c26 (l : List Vc) (hl : l.length ≤ 1000) : CallP Try.prog 26 [vcsL l, .func (.func 27) [] []] (.bool (!allR l)) := by
  rw [← bad_all, Bool.not_not]
  refine .intro (by first | (simp [NLs, NL]; done) | (simp [NLs, NL, nlx]; done)) (.intro TT_ok Try.func26 rfl rfl [0, 1, 4] rfl ?_)
  conv => whnf
  repeat' first
    | with_reducible rfl
    | with_reducible exact True.intro
    | with_reducible assumption
    | (refine CallP.use ((c30 l hl)) ?_; conv => whnf)
    | (refine ⟨_, _, CallP.at ((c30 l hl)), ?_⟩; conv => whnf)
    | (refine ⟨_, fun _ => (c30 l hl), ?_⟩; conv => whnf)
    | assumption
    | exact absurd (show false = true from h) Bool.false_ne_true
    | exact absurd (show true = false from h) (fun e => Bool.noConfusion e)
    | exact (congrArg Bool.not h)
    | (refine ⟨_, ⟨by first | assumption | decide | omega, by first | assumption | rfl⟩, ?_⟩; conv => whnf)
    | (refine ⟨_, fun _ => ⟨by first | assumption | decide | omega, by first | assumption | rfl⟩, ?_⟩; conv => whnf)
    | exact (rfl : (_ : Nat) = _)
    | exact (rfl : (_ : LV) = _)
    | (refine ⟨fun h => ?_, fun h => ?_⟩ <;> conv => whnf)
    | (refine ⟨?_, ?_⟩ <;> conv => whnf)
    | (intro h; conv => whnf)
    | (refine gand ?_ h; assumption)
  all_goals rfl
theorem c19 (l : List Vc) (hl : l.length ≤ 1000) : CallP Try.prog 19 [vcsL l] (.bool (allR l)) := by
  have h26 := c26 l hl
  refine .intro (by first | (simp [NLs, NL]; done) | (simp [NLs, NL, nlx]; done)) (.intro TT_ok Try.func19 rfl rfl [0, 2] rfl ?_)
  conv => whnf
  repeat' first
    | with_reducible rfl
    | with_reducible exact True.intro
    | with_reducible assumption
    | (refine CallP.use (h26) ?_; conv => whnf)
    | (refine ⟨_, _, CallP.at (h26), ?_⟩; conv => whnf)
    | (refine ⟨_, fun _ => h26, ?_⟩; conv => whnf)
    | assumption
    | exact absurd (show false = true from h) Bool.false_ne_true
    | exact absurd (show true = false from h) (fun e => Bool.noConfusion e)
    | exact (congrArg Bool.not h)
    | (refine ⟨_, ⟨by first | assumption | decide | omega, by first | assumption | rfl⟩, ?_⟩; conv => whnf)
    | (refine ⟨_, fun _ => ⟨by first | assumption | decide | omega, by first | assumption | rfl⟩, ?_⟩; conv => whnf)
    | exact (rfl : (_ : Nat) = _)
    | exact (rfl : (_ : LV) = _)
    | (refine ⟨fun h => ?_, fun h => ?_⟩ <;> conv => whnf)
    | (refine ⟨?_, ?_⟩ <;> conv => whnf)
    | (intro h; conv => whnf)
    | (refine gand ?_ h; assumption)
  all_goals (rw [Bool.not_not])
theorem c7e (l : List Vc) (hl : l.length ≤ 1000) (h0 : allR l = false) : CallP Try.prog 7 [vcsL l] (.tup [.nils, I 1]) := by
  have h19 := c19 l hl
  rw [h0] at h19
  refine .intro (by first | (simp [NLs, NL]; done) | (simp [NLs, NL, nlx]; done)) (.intro TT_ok Try.func7 rfl rfl [0, 2, 3, 6, 1000022] rfl ?_)
  conv => whnf
  repeat' first
    | with_reducible rfl
    | with_reducible exact True.intro
    | with_reducible assumption
    | (refine CallP.use (h19) ?_; conv => whnf)
    | (refine ⟨_, _, CallP.at (h19), ?_⟩; conv => whnf)
    | (refine ⟨_, fun _ => h19, ?_⟩; conv => whnf)
    | assumption
    | exact absurd (show false = true from h) Bool.false_ne_true
    | exact absurd (show true = false from h) (fun e => Bool.noConfusion e)
    | exact (congrArg Bool.not h)
    | (refine ⟨_, ⟨by first | assumption | decide | omega, by first | assumption | rfl⟩, ?_⟩; conv => whnf)
    | (refine ⟨_, fun _ => ⟨by first | assumption | decide | omega, by first | assumption | rfl⟩, ?_⟩; conv => whnf)
    | exact (rfl : (_ : Nat) = _)
    | exact (rfl : (_ : LV) = _)
    | (refine ⟨fun h => ?_, fun h => ?_⟩ <;> conv => whnf)
    | (refine ⟨?_, ?_⟩ <;> conv => whnf)
    | (intro h; conv => whnf)
    | (refine gand ?_ h; assumption)
theorem c7 (l : List Vc) (hl : l.length ≤ 1000) (h0 : allR l = true) : CallS Try.prog 7 [vcsL l] fun r => ∃ l' : List Vc, l'.Perm l ∧ Srt leV l' ∧ r = .tup [vcsL l', I 0] := by
  have h19 := c19 l hl
  rw [h0] at h19
  have h21 := (c21 l hl).at (H := ⟨0, []⟩) ⟨trivial, trivial⟩ (vcs_nl _)
  refine .intro (by first | (simp [NLs, NL]; done) | (simp [NLs, NL, nlx]; done)) (CallW.intro TT_ok Try.func7 rfl rfl [0, 2, 3, 6, 1000022] rfl ?_)
  conv => whnf
  repeat' first
    | with_reducible rfl
    | with_reducible exact True.intro
    | with_reducible assumption
    | (refine CallP.use (h19) ?_; conv => whnf)
    | (refine ⟨_, _, CallP.at (h19), ?_⟩; conv => whnf)
    | (refine ⟨_, fun _ => h19, ?_⟩; conv => whnf)
    | (refine CallW.done (h21) ?_; conv => whnf)
    | (refine ⟨_, _, h21, ?_⟩; conv => whnf)
    | assumption
    | exact absurd (show false = true from h) Bool.false_ne_true
    | exact absurd (show true = false from h) (fun e => Bool.noConfusion e)
    | exact (congrArg Bool.not h)
    | (refine ⟨_, ⟨by first | assumption | decide | omega, by first | assumption | rfl⟩, ?_⟩; conv => whnf)
    | (refine ⟨_, fun _ => ⟨by first | assumption | decide | omega, by first | assumption | rfl⟩, ?_⟩; conv => whnf)
    | exact (rfl : (_ : Nat) = _)
    | exact (rfl : (_ : LV) = _)
    | (refine ⟨fun h => ?_, fun h => ?_⟩ <;> conv => whnf)
    | (refine ⟨?_, ?_⟩ <;> conv => whnf)
    | (intro h; conv => whnf)
    | (refine gand ?_ h; assumption)
  refine c22 l (l.map Vc.cells).length (List.length_map ..) (by rw [List.length_map]; exact hl) ((allR_iff l).1 h0) ?_
  intro l' hp hs
  conv => whnf
  repeat' first
    | with_reducible rfl
    | with_reducible exact True.intro
    | with_reducible assumption
    | exact ⟨.tup [vcsL l', I 0], ⟨⟨by rw [List.length_map, List.length_map, hp.length_eq], rfl, rfl, vcs_nl _⟩, ⟨rfl, rfl⟩, trivial⟩, l', hp, hs, rfl⟩
    | assumption
    | exact absurd (show false = true from h) Bool.false_ne_true
    | exact absurd (show true = false from h) (fun e => Bool.noConfusion e)
    | exact (congrArg Bool.not h)
    | (refine ⟨_, ⟨by first | assumption | decide | omega, by first | assumption | rfl⟩, ?_⟩; conv => whnf)
    | (refine ⟨_, fun _ => ⟨by first | assumption | decide | omega, by first | assumption | rfl⟩, ?_⟩; conv => whnf)
    | exact (rfl : (_ : Nat) = _)
    | exact (rfl : (_ : LV) = _)
    | (refine ⟨fun h => ?_, fun h => ?_⟩ <;> conv => whnf)
    | (refine ⟨?_, ?_⟩ <;> conv => whnf)
    | (intro h; conv => whnf)
    | (refine gand ?_ h; assumption)
  all_goals skip
end Go.RX

