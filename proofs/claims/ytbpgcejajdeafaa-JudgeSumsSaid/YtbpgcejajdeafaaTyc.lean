/- The contract of wheel.Right. -/
import Derived.Test.YtbpgcejajdeafaaTyb
set_option linter.unusedVariables false
set_option linter.unusedSimpArgs false
open Go Go.RX Go.Proofs
namespace Go.RX
set_option maxRecDepth 10000
set_option maxHeartbeats 2000000
theorem eqI (a b : Int) : eqL TT 8 3 (I a) (I b) = some (decide (a = b)) := rfl
/-- The entries behind k timers: each ID once. -/
def eM (l : List Tm) (k : Nat) : List (LV × LV) := (l.take k).map fun t => (I t.id, I 1)
theorem eM_at {l : List Tm} {k j : Nat} {p : LV × LV} (h : (eM l k)[j]? = some p) : ∃ t, l[j]? = some t ∧ j < k ∧ p = (I t.id, I 1) := by
  simp only [eM, List.getElem?_map, Option.map_eq_some_iff] at h
  obtain ⟨t, h1, rfl⟩ := h
  rw [List.getElem?_take] at h1
  split at h1
  · exact ⟨t, h1, by assumption, rfl⟩
  · cases h1
theorem eM_len {l : List Tm} {k : Nat} (h : k ≤ l.length) : (eM l k).length = k := by simp [eM, h]
theorem eM_succ {l : List Tm} {k : Nat} {t : Tm} (h : l[k]? = some t) : eM l k ++ [(I t.id, I 1)] = eM l (k + 1) := by
  simp only [eM, List.take_add_one, h, Option.toList, List.map_append, List.map_cons, List.map_nil]
def newId (l : List Tm) (k : Nat) (x : Int) : Bool := (l.take k).all fun t => decide (x ≠ t.id)
theorem newId_iff {l : List Tm} {k : Nat} {x : Int} : newId l k x = true ↔ ∀ j t, j < k → l[j]? = some t → x ≠ t.id := by
  simp only [newId, List.all_eq_true, decide_eq_true_eq]
  constructor
  · intro h j t hj ht
    refine h t (List.mem_of_getElem? (i := j) ?_)
    rw [List.getElem?_take, if_pos hj]; exact ht
  · intro h t ht
    obtain ⟨j, hj⟩ := List.getElem?_of_mem ht
    rw [List.getElem?_take] at hj
    split at hj
    · exact h j t (by assumption) hj
    · cases hj
def stOk (l : List Tm) (k : Nat) : Bool := match l[k]? with
  | some t => (tOk t && newId l k t.id) && (match k with
    | 0 => true
    | j + 1 => match l[j]? with
      | some u => decide (ordI u t < 0)
      | none => true)
  | none => false
def stsOk (l : List Tm) : Nat → Bool
  | 0 => true
  | k + 1 => stsOk l k && stOk l k
def rOk (l : List Tm) : Bool := stsOk l l.length && decide ((l.length : Int) ≤ 64)
theorem stsOk_false {l : List Tm} {k : Nat} (h : stOk l k = false) : ∀ {n : Nat}, k < n → stsOk l n = false
  | 0, hk => absurd hk (Nat.not_lt_zero _)
  | n + 1, hk => by
    rw [stsOk]
    by_cases hkn : k = n
    · subst hkn; rw [h, Bool.and_false]
    · rw [stsOk_false h (by omega), Bool.false_and]
theorem find_new {l : List Tm} {k : Nat} {x : Int} (h : newId l k x = true) : Finds TT 3 (eM l k) (I x) none := by
  intro j p hp
  obtain ⟨t, h1, h2, rfl⟩ := eM_at hp
  simp only
  rw [eqI, decide_eq_false (newId_iff.1 h j t h2 h1)]
theorem find_last {l : List Tm} {k : Nat} {x : Int} {v : LV} (hk : k ≤ l.length) (h : newId l k x = true) : Finds TT 3 (eM l k ++ [(I x, v)]) (I x) (some (k, v)) := by
  refine ⟨by rw [List.getElem?_append_right (by rw [eM_len hk]; exact Nat.le_refl _), eM_len hk, Nat.sub_self]; rfl, fun j p hj hp => ?_⟩
  rw [List.getElem?_append_left (by rw [eM_len hk]; exact hj)] at hp
  exact find_new h j p hp
theorem find_old {l : List Tm} : ∀ {k : Nat} {x : Int}, k ≤ l.length → newId l k x = false → ∃ j, j < k ∧ Finds TT 3 (eM l k) (I x) (some (j, I 1))
  | 0, x, hk, h => by simp [newId] at h
  | k + 1, x, hk, h => by
    have hkl : k < l.length := hk
    have hx := List.getElem?_eq_getElem hkl
    by_cases ho : newId l k x = true
    · have hid : x = l[k].id := by
        rcases Decidable.em (x = l[k].id) with h1 | h1
        · exact h1
        · exfalso
          have : newId l (k + 1) x = true := newId_iff.2 fun j t hj ht => by
            by_cases hjk : j = k
            · subst hjk; rw [hx] at ht; cases ht; exact h1
            · exact newId_iff.1 ho j t (by omega) ht
          rw [this] at h; cases h
      refine ⟨k, by omega, ?_⟩
      rw [← eM_succ hx, ← hid]
      exact find_last (by omega) ho
    · rw [Bool.not_eq_true] at ho
      obtain ⟨j, hj, h1, h2⟩ := find_old (k := k) (x := x) (by omega) ho
      refine ⟨j, by omega, ?_⟩
      rw [← eM_succ hx]
      have hlen := eM_len (l := l) (k := k) (by omega)
      refine ⟨by rw [List.getElem?_append_left (by omega)]; exact h1, fun i p hi hp => ?_⟩
      rw [List.getElem?_append_left (by omega)] at hp
      exact h2 i p hi hp
theorem find_set {es : List (LV × LV)} {x v v' : LV} {j : Nat} (h : Finds TT 3 es x (some (j, v))) : Finds TT 3 (setN es j (x, v')) x (some (j, v')) := by
  have hj := (List.getElem?_eq_some_iff.1 h.1).1
  rw [setN_eq]
  refine ⟨by simp [hj], fun i p hi hp => ?_⟩
  rw [List.getElem?_set_ne (by omega)] at hp
  exact h.2 i p hi hp
theorem gz (b : Bool) (h : (bif b then decide ((0 : Int) < ((0 : Nat) : Int)) else false) = true) : False := by cases b <;> simp at h
theorem w2 : IntKind.i64.wrap (1 + 1) = 2 := by decide
theorem dw2 : decide ((1 : Int) < IntKind.i64.wrap (1 + 1)) = true := by decide
theorem dw1 : decide ((1 : Int) < IntKind.i64.wrap (0 + 1)) = false := by decide
theorem w1 : IntKind.i64.wrap (0 + 1) = 1 := by decide
attribute [local irreducible] CallW CallP LoopW W IntKind.wrap Finds
theorem eM_bel {l : List Tm} {k m : Nat} : ∀ p ∈ eM l k, bel m p.1 ∧ bel m p.2 := fun p hp => by
  simp only [eM, List.mem_map] at hp
  obtain ⟨t, _, rfl⟩ := hp
  exact ⟨trivial, trivial⟩
abbrev s17 (l : List Tm) (k : Nat) : Slots := [(0, tmsL l), (3, .map 0), (7, tmsL l), (8, I (l.map Tm.cells).length), (9, I k)]
theorem c17 (l : List Tm) (hl : l.length ≤ 1000) : CallP Try.prog 17 [tmsL l] (.bool (rOk l)) := by
  have hL : (l.map Tm.cells).length = l.length := List.length_map ..
  refine .intro (by first | (simp [NLs, NL]; done) | (simp [NLs, NL, nlx]; done)) (.intro TT_ok Try.func17 rfl rfl [0, 2, 3, 4, 5, 7, 8, 9, 10, 42] rfl ?_)
  conv => whnf
  repeat' first
    | with_reducible rfl
    | with_reducible exact True.intro
    | with_reducible assumption
    | assumption
    | (refine W.drawn TT_ok hmix1 rfl ?_; conv => whnf)
    | exact absurd (show false = true from h) Bool.false_ne_true
    | exact absurd (show true = false from h) (fun e => Bool.noConfusion e)
    | exact (congrArg Bool.not h)
    | (refine ⟨_, ⟨by first | assumption | decide | omega, by first | assumption | rfl⟩, ?_⟩; conv => whnf)
    | (refine ⟨_, fun _ => ⟨by first | assumption | decide | omega, by first | assumption | rfl⟩, ?_⟩; conv => whnf)
    | exact (rfl : (_ : Nat) = _)
    | exact (rfl : (_ : LV) = _)
    | (refine ⟨fun h => ?_, fun h => ?_⟩ <;> conv => whnf)
    | (refine ⟨?_, ?_⟩ <;> conv => whnf)
    | (intro h; conv => whnf)
    | (refine gand ?_ h; assumption)
  refine LoopW.norm (s17 l 0) 1 [(0, .mp (eM l 0))] ⟨rfl, rfl, rfl, rfl, rfl, trivial⟩ ⟨⟨rfl, rfl, fun p hp => by simp [eM] at hp⟩, trivial⟩ ⟨trivial, rfl, trivial, trivial, trivial, trivial⟩ rfl ?_
  refine LoopW.ind (α := Nat) (fun k => l.length - k) (fun k s' H => (k ≤ l.length ∧ stsOk l k = true) ∧ s' = s17 l k ∧ H = ⟨1, [(0, .mp (eM l k))]⟩) ?_ (a := 0) ⟨⟨Nat.zero_le _, rfl⟩, rfl, rfl⟩
  rintro k s' H ⟨⟨hk, hall⟩, rfl, rfl⟩ ih
  by_cases hi : k < l.length
  · have hd : decide ((k : Int) < ((l.map Tm.cells).length : Int)) = true := by rw [decide_eq_true_eq]; omega
    have hx := List.getElem?_eq_getElem hi
    have hb : (l.map Tm.cells)[k]? = some [I l[k].id, I l[k].at_] := by simp [hi]
    have h34 := c34 l[k]
    generalize l[k] = t at hx hb h34
    have hend : ∀ {s1 : Slots} {H1 : Heap}, stOk l k = true → subC s1 (s17 l (k + 1)) → subL H1.live 1 [(0, .mp (eM l (k + 1)))] → LoopW Try.prog Try.f17.ntmps 0 _ _ s1 H1 := fun h0 h1 h2 =>
      LoopW.norm (s17 l (k + 1)) 1 [(0, .mp (eM l (k + 1)))] h1 h2 ⟨trivial, rfl, trivial, trivial, trivial, trivial⟩ rfl (ih (k + 1) _ _ ⟨⟨hi, by rw [stsOk, hall, h0]; rfl⟩, rfl, rfl⟩ (by omega))
    clear ih
    cases k with
    | zero =>
      have h35 := c35 ⟨0, 0⟩ t
      cases hn : newId l 0 t.id with
      | false =>
        obtain ⟨i, hji, hf0⟩ := find_old hk hn
        have hf1 := find_set (v' := I (IntKind.i64.wrap (1 + 1))) hf0
        have hno : stOk l 0 = false := by simp [stOk, hx, hn]
        refine LoopW.round TT_ok [0, 2, 3, 4, 5, 7, 8, 9, 10, 42] ?_
        conv => whnf
        repeat' first
          | with_reducible rfl
          | with_reducible exact True.intro
          | with_reducible assumption
          | exact (Bool.false_ne_true (h.symm.trans hd)).elim
          | (refine ⟨some (i, I 1), hf0, ?_⟩; conv => whnf)
          | (refine ⟨some (i, I (IntKind.i64.wrap (1 + 1))), fun _ => hf1, ?_⟩; conv => whnf)
          | (refine ⟨[I 0, I 0], fun hg => (gz _ hg).elim, ?_⟩; conv => whnf)
          | (refine CallP.use (h34) ?_; conv => whnf)
          | (refine ⟨_, _, CallP.at (h34), ?_⟩; conv => whnf)
          | (refine ⟨_, fun _ => h34, ?_⟩; conv => whnf)
          | (refine CallP.use (h35) ?_; conv => whnf)
          | (refine ⟨_, _, CallP.at (h35), ?_⟩; conv => whnf)
          | (refine ⟨_, fun _ => h35, ?_⟩; conv => whnf)
          | assumption
          | (refine W.drawn TT_ok hmix1 rfl ?_; conv => whnf)
          | exact absurd (show false = true from h) Bool.false_ne_true
          | exact absurd (show true = false from h) (fun e => Bool.noConfusion e)
          | exact (congrArg Bool.not h)
          | (refine ⟨_, ⟨by first | assumption | decide | omega, by first | assumption | rfl⟩, ?_⟩; conv => whnf)
          | (refine ⟨_, fun _ => ⟨by first | assumption | decide | omega, by first | assumption | rfl⟩, ?_⟩; conv => whnf)
          | exact (rfl : (_ : Nat) = _)
          | exact (rfl : (_ : LV) = _)
          | (refine ⟨fun h => ?_, fun h => ?_⟩ <;> conv => whnf)
          | (refine ⟨?_, ?_⟩ <;> conv => whnf)
          | (intro h; conv => whnf)
          | (refine gand ?_ h; assumption)
        · rw [rOk, stsOk_false hno hi, Bool.false_and]
        · exfalso; revert h; rw [dw2]; cases tOk t <;> simp
      | true =>
        have hf0 := find_new hn
        have hf1 := find_last (v := I (IntKind.i64.wrap (0 + 1))) hk hn
        have eE : eM l 0 ++ [(I t.id, I (IntKind.i64.wrap (0 + 1)))] = eM l (0 + 1) := by rw [w1]; exact eM_succ hx
        have hst : stOk l 0 = tOk t := by simp [stOk, hx, hn]
        refine LoopW.round TT_ok [0, 2, 3, 4, 5, 7, 8, 9, 10, 42] ?_
        conv => whnf
        repeat' first
          | with_reducible rfl
          | with_reducible exact True.intro
          | with_reducible assumption
          | exact (Bool.false_ne_true (h.symm.trans hd)).elim
          | (refine ⟨none, hf0, ?_⟩; conv => whnf)
          | (refine ⟨some (0, I (IntKind.i64.wrap (0 + 1))), fun _ => hf1, ?_⟩; conv => whnf)
          | (refine ⟨[I 0, I 0], fun hg => (gz _ hg).elim, ?_⟩; conv => whnf)
          | (refine CallP.use (h34) ?_; conv => whnf)
          | (refine ⟨_, _, CallP.at (h34), ?_⟩; conv => whnf)
          | (refine ⟨_, fun _ => h34, ?_⟩; conv => whnf)
          | (refine CallP.use (h35) ?_; conv => whnf)
          | (refine ⟨_, _, CallP.at (h35), ?_⟩; conv => whnf)
          | (refine ⟨_, fun _ => h35, ?_⟩; conv => whnf)
          | assumption
          | (refine W.drawn TT_ok hmix1 rfl ?_; conv => whnf)
          | exact absurd (show false = true from h) Bool.false_ne_true
          | exact absurd (show true = false from h) (fun e => Bool.noConfusion e)
          | exact (congrArg Bool.not h)
          | (refine ⟨_, ⟨by first | assumption | decide | omega, by first | assumption | rfl⟩, ?_⟩; conv => whnf)
          | (refine ⟨_, fun _ => ⟨by first | assumption | decide | omega, by first | assumption | rfl⟩, ?_⟩; conv => whnf)
          | exact (rfl : (_ : Nat) = _)
          | exact (rfl : (_ : LV) = _)
          | (refine ⟨fun h => ?_, fun h => ?_⟩ <;> conv => whnf)
          | (refine ⟨?_, ?_⟩ <;> conv => whnf)
          | (intro h; conv => whnf)
          | (refine gand ?_ h; assumption)
        · have hno : stOk l 0 = false := by rw [hst]; revert h; rw [dw1]; cases tOk t <;> simp
          rw [rOk, stsOk_false hno hi, Bool.false_and]
        · have hyes : stOk l 0 = true := by rw [hst]; revert h; rw [dw1]; cases tOk t <;> simp
          exact hend hyes ⟨rfl, rfl, rfl, rfl, congrArg (LV.int .i64) (w64_nat (k := 0) (by omega)), trivial⟩ ⟨⟨congrArg (fun e => some (Blk.mp e)) eE, rfl, eM_bel⟩, trivial⟩
    | succ j =>
      have hjl : j < l.length := by omega
      have hju := List.getElem?_eq_getElem hjl
      have hwj : IntKind.i64.wrap (((j + 1 : Nat) : Int) - 1) = (j : Int) := by
        rw [show (((j + 1 : Nat) : Int) - 1) = (j : Int) by omega]; exact w64_small (by omega) (by omega)
      have h0j : (0 : Int) ≤ IntKind.i64.wrap (((j + 1 : Nat) : Int) - 1) := by rw [hwj]; omega
      have hbj : (l.map Tm.cells)[(IntKind.i64.wrap (((j + 1 : Nat) : Int) - 1)).toNat]? = some [I l[j].id, I l[j].at_] := by rw [hwj]; simp [hjl]
      generalize l[j] = u at hju hbj
      have h35 := c35 u t
      cases hn : newId l (j + 1) t.id with
      | false =>
        obtain ⟨i, hji, hf0⟩ := find_old hk hn
        have hf1 := find_set (v' := I (IntKind.i64.wrap (1 + 1))) hf0
        have hno : stOk l (j + 1) = false := by simp [stOk, hx, hn]
        refine LoopW.round TT_ok [0, 2, 3, 4, 5, 7, 8, 9, 10, 42] ?_
        conv => whnf
        repeat' first
          | with_reducible rfl
          | with_reducible exact True.intro
          | with_reducible assumption
          | exact (Bool.false_ne_true (h.symm.trans hd)).elim
          | (refine ⟨some (i, I 1), hf0, ?_⟩; conv => whnf)
          | (refine ⟨some (i, I (IntKind.i64.wrap (1 + 1))), fun _ => hf1, ?_⟩; conv => whnf)
          | (refine CallP.use (h34) ?_; conv => whnf)
          | (refine ⟨_, _, CallP.at (h34), ?_⟩; conv => whnf)
          | (refine ⟨_, fun _ => h34, ?_⟩; conv => whnf)
          | (refine CallP.use (h35) ?_; conv => whnf)
          | (refine ⟨_, _, CallP.at (h35), ?_⟩; conv => whnf)
          | (refine ⟨_, fun _ => h35, ?_⟩; conv => whnf)
          | assumption
          | (refine W.drawn TT_ok hmix1 rfl ?_; conv => whnf)
          | exact absurd (show false = true from h) Bool.false_ne_true
          | exact absurd (show true = false from h) (fun e => Bool.noConfusion e)
          | exact (congrArg Bool.not h)
          | (refine ⟨_, ⟨by first | assumption | decide | omega, by first | assumption | rfl⟩, ?_⟩; conv => whnf)
          | (refine ⟨_, fun _ => ⟨by first | assumption | decide | omega, by first | assumption | rfl⟩, ?_⟩; conv => whnf)
          | exact (rfl : (_ : Nat) = _)
          | exact (rfl : (_ : LV) = _)
          | (refine ⟨fun h => ?_, fun h => ?_⟩ <;> conv => whnf)
          | (refine ⟨?_, ?_⟩ <;> conv => whnf)
          | (intro h; conv => whnf)
          | (refine gand ?_ h; assumption)
        · rw [rOk, stsOk_false hno hi, Bool.false_and]
        · exfalso; revert h; rw [dw2]; cases tOk t <;> simp
      | true =>
        have hf0 := find_new hn
        have hf1 := find_last (v := I (IntKind.i64.wrap (0 + 1))) hk hn
        have eE : eM l (j + 1) ++ [(I t.id, I (IntKind.i64.wrap (0 + 1)))] = eM l ((j + 1) + 1) := by rw [w1]; exact eM_succ hx
        have hst : stOk l (j + 1) = (tOk t && decide (ordI u t < 0)) := by simp [stOk, hx, hn, hju]
        refine LoopW.round TT_ok [0, 2, 3, 4, 5, 7, 8, 9, 10, 42] ?_
        conv => whnf
        repeat' first
          | with_reducible rfl
          | with_reducible exact True.intro
          | with_reducible assumption
          | exact (Bool.false_ne_true (h.symm.trans hd)).elim
          | (refine ⟨none, hf0, ?_⟩; conv => whnf)
          | (refine ⟨some ((j + 1), I (IntKind.i64.wrap (0 + 1))), fun _ => hf1, ?_⟩; conv => whnf)
          | (refine CallP.use (h34) ?_; conv => whnf)
          | (refine ⟨_, _, CallP.at (h34), ?_⟩; conv => whnf)
          | (refine ⟨_, fun _ => h34, ?_⟩; conv => whnf)
          | (refine CallP.use (h35) ?_; conv => whnf)
          | (refine ⟨_, _, CallP.at (h35), ?_⟩; conv => whnf)
          | (refine ⟨_, fun _ => h35, ?_⟩; conv => whnf)
          | assumption
          | (refine W.drawn TT_ok hmix1 rfl ?_; conv => whnf)
          | exact absurd (show false = true from h) Bool.false_ne_true
          | exact absurd (show true = false from h) (fun e => Bool.noConfusion e)
          | exact (congrArg Bool.not h)
          | (refine ⟨_, ⟨by first | assumption | decide | omega, by first | assumption | rfl⟩, ?_⟩; conv => whnf)
          | (refine ⟨_, fun _ => ⟨by first | assumption | decide | omega, by first | assumption | rfl⟩, ?_⟩; conv => whnf)
          | exact (rfl : (_ : Nat) = _)
          | exact (rfl : (_ : LV) = _)
          | (refine ⟨fun h => ?_, fun h => ?_⟩ <;> conv => whnf)
          | (refine ⟨?_, ?_⟩ <;> conv => whnf)
          | (intro h; conv => whnf)
          | (refine gand ?_ h; assumption)
        · have hno : stOk l (j + 1) = false := by
            rw [hst, ← Bool.not_eq_true, Bool.and_eq_true, decide_eq_true_eq]
            intro hh
            revert h
            have h9 : ¬ (0 ≤ ordI u t) := by omega
            rw [dw1]; simp [hh.1, h9]
          rw [rOk, stsOk_false hno hi, Bool.false_and]
        · have hyes : stOk l (j + 1) = true := by
            rw [hst]
            have h8 : decide ((0 : Int) < ((j + 1 : Nat) : Int)) = true := by rw [decide_eq_true_eq]; omega
            have h2 : (bif (bif (!tOk t) then true else decide (1 < IntKind.i64.wrap (0 + 1))) then true else (bif decide ((0 : Int) < ((j + 1 : Nat) : Int)) then decide (0 ≤ ordI u t) else false)) = false := h
            rw [h8, dw1] at h2
            revert h2
            cases tOk t <;> simp
          exact hend hyes ⟨rfl, rfl, rfl, rfl, congrArg (LV.int .i64) (w64_nat (k := j + 1) (by omega)), trivial⟩ ⟨⟨congrArg (fun e => some (Blk.mp e)) eE, rfl, eM_bel⟩, trivial⟩
  · have hd : decide ((k : Int) < ((l.map Tm.cells).length : Int)) = false := by rw [decide_eq_false_iff_not]; omega
    have hkk : k = l.length := by omega
    subst hkk
    refine LoopW.round TT_ok [0, 2, 3, 4, 5, 7, 8, 9, 10, 42] ?_
    conv => whnf
    repeat' first
      | with_reducible rfl
      | with_reducible exact True.intro
      | with_reducible assumption
      | exact (Bool.false_ne_true (hd.symm.trans h)).elim
      | assumption
      | (refine W.drawn TT_ok hmix1 rfl ?_; conv => whnf)
      | exact absurd (show false = true from h) Bool.false_ne_true
      | exact absurd (show true = false from h) (fun e => Bool.noConfusion e)
      | exact (congrArg Bool.not h)
      | (refine ⟨_, ⟨by first | assumption | decide | omega, by first | assumption | rfl⟩, ?_⟩; conv => whnf)
      | (refine ⟨_, fun _ => ⟨by first | assumption | decide | omega, by first | assumption | rfl⟩, ?_⟩; conv => whnf)
      | exact (rfl : (_ : Nat) = _)
      | exact (rfl : (_ : LV) = _)
      | (refine ⟨fun h => ?_, fun h => ?_⟩ <;> conv => whnf)
      | (refine ⟨?_, ?_⟩ <;> conv => whnf)
      | (intro h; conv => whnf)
      | (refine gand ?_ h; assumption)
    rw [rOk, hall, Bool.true_and, hL]
end Go.RX

