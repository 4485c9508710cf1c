/- The contracts of judge.Where, and of few. -/
import Derived.Test.YtbpgcejajdeafaaTyh
set_option linter.unusedVariables false
set_option linter.unusedSimpArgs false
open Go Go.RX Go.Proofs
namespace Go.RX
set_option maxRecDepth 10000
set_option maxHeartbeats 4000000
/-- How often a key is met. -/
def cn (l : List Cp) (x : Ky) : Nat := l.countP fun c => decide (c.key = x)
theorem cn_succ {l : List Cp} {k : Nat} {c : Cp} (h : l[k]? = some c) (x : Ky) : cn (l.take (k + 1)) x = cn (l.take k) x + if c.key = x then 1 else 0 := by
  simp only [cn, List.take_add_one, h, Option.toList, List.countP_append, List.countP_cons, List.countP_nil, Nat.zero_add, decide_eq_true_eq]
theorem cn_le (l : List Cp) (x : Ky) : cn l x ≤ l.length := List.countP_le_length
/-- Entries that hold each key's count. -/
structure CInv (l : List Cp) (k : Nat) (es : List (Ky × LV)) : Prop where
  uni : ∀ (i j : Nat) (p q : Ky × LV), es[i]? = some p → es[j]? = some q → p.1 = q.1 → i = j
  val : ∀ (p : Ky × LV), p ∈ es → p.2 = I (cn (l.take k) p.1)
  not : ∀ (x : Ky), (∀ p ∈ es, p.1 ≠ x) → cn (l.take k) x = 0
theorem CInv.start (l : List Cp) : CInv l 0 [] := ⟨fun i j p q h => by simp at h, fun p h => by simp at h, fun x _ => by simp [cn]⟩
theorem CInv.new {l : List Cp} {k : Nat} {es : List (Ky × LV)} {c : Cp} (h : CInv l k es) (hx : l[k]? = some c) (hn : ∀ p ∈ es, p.1 ≠ c.key) : CInv l (k + 1) (es ++ [(c.key, I 1)]) := by
  refine ⟨fun i j p q hi hj he => ?_, fun p hp => ?_, fun x hxn => ?_⟩
  · rw [List.getElem?_append] at hi hj
    split at hi <;> split at hj
    · exact h.uni i j p q hi hj he
    · have h1 := List.mem_of_getElem? hj
      rw [List.mem_singleton] at h1; subst h1
      exact absurd he (hn p (List.mem_of_getElem? hi))
    · have h1 := List.mem_of_getElem? hi
      rw [List.mem_singleton] at h1; subst h1
      exact absurd he.symm (hn q (List.mem_of_getElem? hj))
    · have h1 := (List.getElem?_eq_some_iff.1 hi).1
      have h2 := (List.getElem?_eq_some_iff.1 hj).1
      simp only [List.length_singleton] at h1 h2
      omega
  · rw [cn_succ hx]
    rcases List.mem_append.1 hp with h1 | h1
    · rw [h.val p h1, if_neg (fun e => hn p h1 e.symm), Nat.add_zero]
    · rw [List.mem_singleton] at h1; subst h1
      rw [if_pos rfl, h.not _ hn]; rfl
  · rw [cn_succ hx, h.not x fun p hp => hxn p (List.mem_append_left _ hp), if_neg (hxn _ (List.mem_append_right _ (List.mem_singleton_self _)))]
theorem CInv.old {l : List Cp} {k : Nat} {es : List (Ky × LV)} {c : Cp} (h : CInv l k es) (hx : l[k]? = some c) {i : Nat} {v : LV} (hi : es[i]? = some (c.key, v)) :
    v = I (cn (l.take k) c.key) ∧ CInv l (k + 1) (es.set i (c.key, I ((cn (l.take k) c.key + 1 : Nat) : Int))) := by
  have hil := (List.getElem?_eq_some_iff.1 hi).1
  refine ⟨h.val _ (List.mem_of_getElem? hi), ?_, ?_, ?_⟩
  · have key : ∀ (j : Nat) (p : Ky × LV), (es.set i (c.key, I ((cn (l.take k) c.key + 1 : Nat) : Int)))[j]? = some p → ∃ q : Ky × LV, es[j]? = some q ∧ q.1 = p.1 := by
      intro j p hj
      rw [List.getElem?_set] at hj
      split at hj
      · rename_i hij
        subst hij
        first | (rw [if_pos hil] at hj; cases hj) | cases hj
        exact ⟨_, hi, rfl⟩
      · exact ⟨p, hj, rfl⟩
    intro a b p q ha hb he
    obtain ⟨p', h1, h2⟩ := key a p ha
    obtain ⟨q', h3, h4⟩ := key b q hb
    exact h.uni a b p' q' h1 h3 (by rw [h2, h4, he])
  · intro p hp
    obtain ⟨j, hj⟩ := List.getElem?_of_mem hp
    rw [List.getElem?_set] at hj
    rw [cn_succ hx]
    split at hj
    · first | (rw [if_pos hil] at hj; cases hj) | cases hj
      rw [if_pos rfl]
    · rename_i hij
      have hne : c.key ≠ p.1 := fun e => hij (h.uni i j _ p hi hj e)
      rw [h.val p (List.mem_of_getElem? hj), if_neg hne, Nat.add_zero]
  · intro x hxn
    have hne : c.key ≠ x := hxn _ (List.mem_of_getElem? (i := i) (by rw [List.getElem?_set, if_pos rfl, if_pos hil]))
    rw [cn_succ hx, if_neg hne, h.not x fun p hp he => ?_]
    obtain ⟨j, hj⟩ := List.getElem?_of_mem hp
    by_cases hij : i = j
    · subst hij; rw [hi] at hj; cases hj; exact hne he
    · exact hxn p (List.mem_of_getElem? (i := j) (by rw [List.getElem?_set, if_neg hij]; exact hj)) he
theorem CInv.bel {l : List Cp} {k m : Nat} {es : List (Ky × LV)} (h : CInv l k es) : ∀ p ∈ mE es, Go.RX.bel m p.1 ∧ Go.RX.bel m p.2 := mE_bel fun p hp => by rw [h.val p hp]; trivial
theorem CInv.nl {l : List Cp} {k : Nat} {es : List (Ky × LV)} (h : CInv l k es) : ∀ p ∈ mE es, NL p.1 ∧ NL p.2 := fun p hp => by
  simp only [mE, List.mem_map] at hp
  obtain ⟨q, h1, rfl⟩ := hp
  exact ⟨⟨trivial, trivial, trivial⟩, by rw [h.val q h1]; trivial⟩
/-- The counts of some bytes on each of so many segments. -/
def cnts (l : List Cp) (r : ByteArray) (n : Nat) : List Int := (List.range n).map fun (s : Nat) => ((cn l ((s : Int), r) : Nat) : Int)
theorem cnts_len (l : List Cp) (r : ByteArray) (n : Nat) : (cnts l r n).length = n := by simp [cnts]
theorem cnts_succ (l : List Cp) (r : ByteArray) (n : Nat) : cnts l r (n + 1) = cnts l r n ++ [(cn l ((n : Int), r) : Int)] := by simp [cnts, List.range_succ]
theorem ints_nl (l : List Int) : NLss (l.map fun x => [I x]) := by
  induction l with
  | nil => trivial
  | cons t l ih => exact ⟨⟨trivial, trivial⟩, ih⟩
attribute [local irreducible] CallW CallP LoopW W IntKind.wrap Finds
abbrev s11a (l : List Cp) (r : ByteArray) (k : Nat) : Slots := [(1, .str r), (2, I 8), (8, .map 0), (26, copsL l), (27, I (l.map Cp.cells).length), (28, I k)]
abbrev rcn (l : List Cp) (r : ByteArray) (k : Nat) : List (List LV) := (cnts l r k).map fun x => [I x]
abbrev s11b (l : List Cp) (r : ByteArray) (k : Nat) : Slots := [(1, .str r), (8, .map 0), (11, .sl 1 0 (rcn l r k).length), (40, I 8), (41, I k)]
theorem c11 (l : List Cp) (hl : l.length ≤ 1000) (r : ByteArray) (h0 : on 8 l) : CallP Try.prog 11 [copsL l, .str r, I 8] (.tup [intsL (cnts l r 8), I 0]) := by
  have hL : (l.map Cp.cells).length = l.length := List.length_map ..
  have h31 := c31 8
  have h30 := c30 l hl 8 h0
  refine .intro (by first | (simp [NLs, NL]; done) | (simp [NLs, NL, nlx]; done)) (.intro TT_ok Try.func11 rfl rfl [0, 1, 2, 6, 7, 8, 10, 11, 12, 13, 20, 26, 27, 28, 29, 40, 41, 42] rfl ?_)
  conv => whnf
  repeat' first
    | with_reducible rfl
    | with_reducible exact True.intro
    | with_reducible assumption
    | (refine CallP.use (h31) ?_; conv => whnf)
    | (refine ⟨_, _, CallP.at (h31), ?_⟩; conv => whnf)
    | (refine ⟨_, fun _ => h31, ?_⟩; conv => whnf)
    | (refine CallP.use (h30) ?_; conv => whnf)
    | (refine ⟨_, _, CallP.at (h30), ?_⟩; conv => whnf)
    | (refine ⟨_, fun _ => h30, ?_⟩; conv => whnf)
    | assumption
    | (refine W.drawnM (id := 9) 0 TT_ok hmix1 [0, 0, 0, 0, 0, 0, 1, 1] [0, 0, 0, 1, 1, 1, 1, 2] rfl ?_; conv => whnf)
    | exact absurd (show false = true from h) Bool.false_ne_true
    | exact absurd (show true = false from h) (fun e => Bool.noConfusion e)
    | exact (congrArg Bool.not h)
    | (refine ⟨_, ⟨by first | assumption | decide | omega, by first | assumption | rfl⟩, ?_⟩; conv => whnf)
    | (refine ⟨_, fun _ => ⟨by first | assumption | decide | omega, by first | assumption | rfl⟩, ?_⟩; conv => whnf)
    | exact (rfl : (_ : Nat) = _)
    | exact (rfl : (_ : LV) = _)
    | (refine ⟨fun h => ?_, fun h => ?_⟩ <;> conv => whnf)
    | (refine ⟨?_, ?_⟩ <;> conv => whnf)
    | (intro h; conv => whnf)
    | (refine gand ?_ h; assumption)
  refine LoopW.norm (s11a l r 0) 1 [(0, .mp (mE []))] ⟨rfl, rfl, rfl, rfl, rfl, rfl, trivial⟩ ⟨⟨rfl, rfl, fun p hp => by simp [mE] at hp⟩, trivial⟩ ⟨trivial, trivial, rfl, trivial, trivial, trivial, trivial⟩ rfl ?_
  refine LoopW.ind (α := Nat) (fun k => l.length - k) (fun k s' H => ∃ es, (k ≤ l.length ∧ CInv l k es) ∧ s' = s11a l r k ∧ H = ⟨1, [(0, .mp (mE es))]⟩) ?_ (a := 0) ⟨[], ⟨Nat.zero_le _, CInv.start l⟩, rfl, rfl⟩
  rintro k s' H ⟨es, ⟨hk, hI⟩, rfl, rfl⟩ ih
  by_cases hi : k < l.length
  · have hd : decide ((k : Int) < ((l.map Cp.cells).length : Int)) = true := by rw [decide_eq_true_eq]; omega
    have hx := List.getElem?_eq_getElem hi
    have hb : (l.map Cp.cells)[k]? = some l[k].cells := by simp [hi]
    have h29 := c29 l[k]
    generalize l[k] = c at hx hb h29
    have hnext : ∀ {s1 : Slots} {H1 : Heap} {es'}, CInv l (k + 1) es' → subC s1 (s11a l r (k + 1)) → subL H1.live 1 [(0, .mp (mE es'))] → LoopW Try.prog Try.f11.ntmps 0 _ _ s1 H1 := fun h0 h1 h2 =>
      LoopW.norm (s11a l r (k + 1)) 1 [(0, .mp (mE _))] h1 h2 ⟨trivial, trivial, rfl, trivial, trivial, trivial, trivial⟩ rfl (ih (k + 1) _ _ ⟨_, ⟨hi, h0⟩, rfl, rfl⟩ (by omega))
    clear ih
    by_cases hn : ∀ p ∈ es, p.1 ≠ c.key
    · have hf0 := find_none hn
      have hf1 := find_end (v := I (IntKind.i64.wrap (0 + 1))) hn
      have hI' := hI.new hx hn
      have hf2 := find_end (v := I 0) hn
      have hn0 : (((mE es).length : Int) - 0).NonNeg := Int.natCast_nonneg _
      have hge : (mE es ++ [(kyL c.key, I 0)])[((mE es).length : Int).toNat]? = some (kyL c.key, I 0) := by simp
      have eE : setN (mE es ++ [(kyL c.key, I 0)]) ((mE es).length : Int).toNat (kyL c.key, I (IntKind.i64.wrap (0 + 1))) = mE (es ++ [(c.key, I 1)]) := by rw [w1, setN_eq]; simp [mE]
      refine LoopW.round TT_ok [0, 1, 2, 6, 7, 8, 10, 11, 12, 13, 20, 26, 27, 28, 29, 40, 41, 42] ?_
      conv => whnf
      repeat' first
        | with_reducible rfl
        | with_reducible exact True.intro
        | with_reducible assumption
        | exact (Bool.false_ne_true (h.symm.trans hd)).elim
        | (refine ⟨none, hf0, ?_⟩; conv => whnf)
        | (refine ⟨some (es.length, I 0), hf2, ?_⟩; conv => whnf)
        | (refine ⟨kyL c.key, I 0, ⟨hn0, hge⟩, ?_⟩; conv => whnf)
        | (refine ⟨some (es.length, I (IntKind.i64.wrap (0 + 1))), fun _ => hf1, ?_⟩; conv => whnf)
        | (refine CallP.use (h29) ?_; conv => whnf)
        | (refine ⟨_, _, CallP.at (h29), ?_⟩; conv => whnf)
        | (refine ⟨_, fun _ => h29, ?_⟩; conv => whnf)
        | assumption
        | (refine W.drawnM (id := 9) 0 TT_ok hmix1 [0, 0, 0, 0, 0, 0, 1, 1] [0, 0, 0, 1, 1, 1, 1, 2] rfl ?_; conv => whnf)
        | exact absurd (show false = true from h) Bool.false_ne_true
        | exact absurd (show true = false from h) (fun e => Bool.noConfusion e)
        | exact (congrArg Bool.not h)
        | (refine ⟨_, ⟨by first | assumption | decide | omega, by first | assumption | rfl⟩, ?_⟩; conv => whnf)
        | (refine ⟨_, fun _ => ⟨by first | assumption | decide | omega, by first | assumption | rfl⟩, ?_⟩; conv => whnf)
        | exact (rfl : (_ : Nat) = _)
        | exact (rfl : (_ : LV) = _)
        | (refine ⟨fun h => ?_, fun h => ?_⟩ <;> conv => whnf)
        | (refine ⟨?_, ?_⟩ <;> conv => whnf)
        | (intro h; conv => whnf)
        | (refine gand ?_ h; assumption)
      exact hnext hI' ⟨rfl, rfl, rfl, rfl, rfl, congrArg (LV.int .i64) (w64_nat (by omega)), trivial⟩ ⟨⟨congrArg (fun e => some (Blk.mp e)) eE, rfl, hI'.bel⟩, trivial⟩
    · obtain ⟨i, v, hi2, hf0⟩ : ∃ i v, es[i]? = some (c.key, v) ∧ Finds TT 65 (mE es) (kyL c.key) (some (i, v)) := find_some (by
        rcases Classical.em (∃ p ∈ es, p.1 = c.key) with h | h
        · exact h
        · exact absurd (fun p hp he => h ⟨p, hp, he⟩) hn)
      obtain ⟨rfl, hI'⟩ := hI.old hx hi2
      have hc := cn_le (l.take k) c.key
      rw [List.length_take] at hc
      have hw : IntKind.i64.wrap ((cn (l.take k) c.key : Int) + 1) = ((cn (l.take k) c.key + 1 : Nat) : Int) := w64_nat (by omega)
      have hn0 : ((i : Int) - 0).NonNeg := Int.natCast_nonneg _
      have hge : (mE es)[(i : Int).toNat]? = some (kyL c.key, I (cn (l.take k) c.key)) := by simp [mE, hi2]
      have hf1 := find_upd (v' := I (IntKind.i64.wrap ((cn (l.take k) c.key : Int) + 1))) hf0
      have eE : setN (mE es) (i : Int).toNat (kyL c.key, I (IntKind.i64.wrap ((cn (l.take k) c.key : Int) + 1))) = mE (es.set i (c.key, I ((cn (l.take k) c.key + 1 : Nat) : Int))) := by rw [hw, setN_eq]; simp [mE, List.map_set]
      refine LoopW.round TT_ok [0, 1, 2, 6, 7, 8, 10, 11, 12, 13, 20, 26, 27, 28, 29, 40, 41, 42] ?_
      conv => whnf
      repeat' first
        | with_reducible rfl
        | with_reducible exact True.intro
        | with_reducible assumption
        | exact (Bool.false_ne_true (h.symm.trans hd)).elim
        | (refine ⟨some (i, I (cn (l.take k) c.key)), hf0, ?_⟩; conv => whnf)
        | (refine ⟨kyL c.key, I (cn (l.take k) c.key), ⟨hn0, hge⟩, ?_⟩; conv => whnf)
        | (refine ⟨some (i, I (IntKind.i64.wrap ((cn (l.take k) c.key : Int) + 1))), fun _ => hf1, ?_⟩; conv => whnf)
        | (refine CallP.use (h29) ?_; conv => whnf)
        | (refine ⟨_, _, CallP.at (h29), ?_⟩; conv => whnf)
        | (refine ⟨_, fun _ => h29, ?_⟩; conv => whnf)
        | assumption
        | (refine W.drawnM (id := 9) 0 TT_ok hmix1 [0, 0, 0, 0, 0, 0, 1, 1] [0, 0, 0, 1, 1, 1, 1, 2] rfl ?_; conv => whnf)
        | exact absurd (show false = true from h) Bool.false_ne_true
        | exact absurd (show true = false from h) (fun e => Bool.noConfusion e)
        | exact (congrArg Bool.not h)
        | (refine ⟨_, ⟨by first | assumption | decide | omega, by first | assumption | rfl⟩, ?_⟩; conv => whnf)
        | (refine ⟨_, fun _ => ⟨by first | assumption | decide | omega, by first | assumption | rfl⟩, ?_⟩; conv => whnf)
        | exact (rfl : (_ : Nat) = _)
        | exact (rfl : (_ : LV) = _)
        | (refine ⟨fun h => ?_, fun h => ?_⟩ <;> conv => whnf)
        | (refine ⟨?_, ?_⟩ <;> conv => whnf)
        | (intro h; conv => whnf)
        | (refine gand ?_ h; assumption)
      exact hnext hI' ⟨rfl, rfl, rfl, rfl, rfl, congrArg (LV.int .i64) (w64_nat (by omega)), trivial⟩ ⟨⟨congrArg (fun e => some (Blk.mp e)) eE, rfl, hI'.bel⟩, trivial⟩
  · have hd : decide ((k : Int) < ((l.map Cp.cells).length : Int)) = false := by rw [decide_eq_false_iff_not]; omega
    have hkk : k = l.length := by omega
    subst hkk
    clear ih hk hi
    have hval : ∀ s : Int, (∃ i, Finds TT 65 (mE es) (kyL (s, r)) (some (i, I (cn l (s, r))))) ∨ (Finds TT 65 (mE es) (kyL (s, r)) none ∧ cn l (s, r) = 0) := fun s => by
      by_cases hn : ∀ p ∈ es, p.1 ≠ (s, r)
      · have := hI.not _ hn
        rw [List.take_length] at this
        exact .inr ⟨find_none hn, this⟩
      · obtain ⟨i, v, hi2, hf0⟩ : ∃ i v, es[i]? = some ((s, r), v) ∧ Finds TT 65 (mE es) (kyL (s, r)) (some (i, v)) := find_some (by
          rcases Classical.em (∃ p ∈ es, p.1 = (s, r)) with h | h
          · exact h
          · exact absurd (fun p hp he => h ⟨p, hp, he⟩) hn)
        have := hI.val _ (List.mem_of_getElem? hi2)
        simp only [List.take_length] at this
        subst this
        exact .inl ⟨i, hf0⟩
    have hmnl := hI.nl
    have hbel : ∀ p ∈ mE es, bel 2 p.1 ∧ bel 2 p.2 := hI.bel
    refine LoopW.round TT_ok [0, 1, 2, 6, 7, 8, 10, 11, 12, 13, 20, 26, 27, 28, 29, 40, 41, 42] ?_
    conv => whnf
    repeat' first
      | with_reducible rfl
      | with_reducible exact True.intro
      | with_reducible assumption
      | exact (Bool.false_ne_true (hd.symm.trans h)).elim
      | assumption
      | (refine W.drawnM (id := 9) 0 TT_ok hmix1 [0, 0, 0, 0, 0, 0, 1, 1] [0, 0, 0, 1, 1, 1, 1, 2] rfl ?_; conv => whnf)
      | exact absurd (show false = true from h) Bool.false_ne_true
      | exact absurd (show true = false from h) (fun e => Bool.noConfusion e)
      | exact (congrArg Bool.not h)
      | (refine ⟨_, ⟨by first | assumption | decide | omega, by first | assumption | rfl⟩, ?_⟩; conv => whnf)
      | (refine ⟨_, fun _ => ⟨by first | assumption | decide | omega, by first | assumption | rfl⟩, ?_⟩; conv => whnf)
      | exact (rfl : (_ : Nat) = _)
      | exact (rfl : (_ : LV) = _)
      | (refine ⟨fun h => ?_, fun h => ?_⟩ <;> conv => whnf)
      | (refine ⟨?_, ?_⟩ <;> conv => whnf)
      | (intro h; conv => whnf)
      | (refine gand ?_ h; assumption)
    refine LoopW.virt 11 3 1 rfl ?_
    refine LoopW.norm (s11b l r 0) 2 [(0, .mp (mE es)), (1, .row 3 1 (rcn l r 0))] ⟨rfl, rfl, rfl, rfl, rfl, trivial⟩ ⟨⟨rfl, rfl, hbel⟩, ⟨rfl, rfl, trivial⟩, trivial⟩ ⟨trivial, rfl, rfl, trivial, trivial, trivial⟩ rfl ?_
    refine LoopW.ind (α := Nat) (fun k => 8 - k) (fun k s' H => k ≤ 8 ∧ s' = s11b l r k ∧ H = ⟨2, [(0, .mp (mE es)), (1, .row 3 1 (rcn l r k))]⟩) ?_ (a := 0) ⟨Nat.zero_le _, rfl, rfl⟩
    rintro k s' H ⟨hk, rfl, rfl⟩ ih
    have hq := cnts_len l r k
    by_cases hi : k < 8
    · have hd : decide ((k : Int) < 8) = true := by rw [decide_eq_true_eq]; omega
      have e1 : rcn l r k ++ [[I (cn l ((k : Int), r))]] = rcn l r (k + 1) := by simp only [rcn, cnts_succ, List.map_append, List.map_cons, List.map_nil]
      have f1 : fits (rcn l r k ++ [[I (cn l ((k : Int), r))]]).length 8 := by simp [fits, hq]; omega
      rcases hval (k : Int) with ⟨i, hf⟩ | ⟨hf, hz⟩
      · refine LoopW.round TT_ok [0, 1, 2, 6, 7, 8, 10, 11, 12, 13, 20, 26, 27, 28, 29, 40, 41, 42] ?_
        conv => whnf
        repeat' first
          | with_reducible rfl
          | with_reducible exact True.intro
          | with_reducible assumption
          | exact (Bool.false_ne_true (h.symm.trans hd)).elim
          | exact f1
          | (refine ⟨some (i, I (cn l ((k : Int), r))), hf, ?_⟩; conv => whnf)
          | assumption
          | (refine W.drawnM (id := 9) 0 TT_ok hmix1 [0, 0, 0, 0, 0, 0, 1, 1] [0, 0, 0, 1, 1, 1, 1, 2] rfl ?_; conv => whnf)
          | exact absurd (show false = true from h) Bool.false_ne_true
          | exact absurd (show true = false from h) (fun e => Bool.noConfusion e)
          | exact (congrArg Bool.not h)
          | (refine ⟨_, ⟨by first | assumption | decide | omega, by first | assumption | rfl⟩, ?_⟩; conv => whnf)
          | (refine ⟨_, fun _ => ⟨by first | assumption | decide | omega, by first | assumption | rfl⟩, ?_⟩; conv => whnf)
          | exact (rfl : (_ : Nat) = _)
          | exact (rfl : (_ : LV) = _)
          | (refine ⟨fun h => ?_, fun h => ?_⟩ <;> conv => whnf)
          | (refine ⟨?_, ?_⟩ <;> conv => whnf)
          | (intro h; conv => whnf)
          | (refine gand ?_ h; assumption)
        refine LoopW.ren [(0, 0), (3, 1)] (s11b l r (k + 1)) 2 [(0, .mp (mE es)), (1, .row 3 1 (rcn l r (k + 1)))] rfl
          ⟨rfl, rfl, congrArg (fun l : List (List LV) => LV.sl 1 0 l.length) e1, rfl, congrArg (LV.int .i64) (w64_nat (by omega)), trivial⟩
          ⟨.inl ⟨rfl, hmnl⟩, rfl, rfl, ⟨rfl, rfl, .inl ⟨e1, e1 ▸ ints_nl _⟩⟩, rfl, rfl, trivial⟩ rfl
          (ih (k + 1) _ _ ⟨hi, rfl, rfl⟩ (by omega))
      · rw [hz] at e1 f1
        refine LoopW.round TT_ok [0, 1, 2, 6, 7, 8, 10, 11, 12, 13, 20, 26, 27, 28, 29, 40, 41, 42] ?_
        conv => whnf
        repeat' first
          | with_reducible rfl
          | with_reducible exact True.intro
          | with_reducible assumption
          | exact (Bool.false_ne_true (h.symm.trans hd)).elim
          | exact f1
          | (refine ⟨none, hf, ?_⟩; conv => whnf)
          | assumption
          | (refine W.drawnM (id := 9) 0 TT_ok hmix1 [0, 0, 0, 0, 0, 0, 1, 1] [0, 0, 0, 1, 1, 1, 1, 2] rfl ?_; conv => whnf)
          | exact absurd (show false = true from h) Bool.false_ne_true
          | exact absurd (show true = false from h) (fun e => Bool.noConfusion e)
          | exact (congrArg Bool.not h)
          | (refine ⟨_, ⟨by first | assumption | decide | omega, by first | assumption | rfl⟩, ?_⟩; conv => whnf)
          | (refine ⟨_, fun _ => ⟨by first | assumption | decide | omega, by first | assumption | rfl⟩, ?_⟩; conv => whnf)
          | exact (rfl : (_ : Nat) = _)
          | exact (rfl : (_ : LV) = _)
          | (refine ⟨fun h => ?_, fun h => ?_⟩ <;> conv => whnf)
          | (refine ⟨?_, ?_⟩ <;> conv => whnf)
          | (intro h; conv => whnf)
          | (refine gand ?_ h; assumption)
        refine LoopW.ren [(0, 0), (3, 1)] (s11b l r (k + 1)) 2 [(0, .mp (mE es)), (1, .row 3 1 (rcn l r (k + 1)))] rfl
          ⟨rfl, rfl, congrArg (fun l : List (List LV) => LV.sl 1 0 l.length) e1, rfl, congrArg (LV.int .i64) (w64_nat (by omega)), trivial⟩
          ⟨.inl ⟨rfl, hmnl⟩, rfl, rfl, ⟨rfl, rfl, .inl ⟨e1, e1 ▸ ints_nl _⟩⟩, rfl, rfl, trivial⟩ rfl
          (ih (k + 1) _ _ ⟨hi, rfl, rfl⟩ (by omega))
    · have hd : decide ((k : Int) < 8) = false := by rw [decide_eq_false_iff_not]; omega
      obtain rfl : k = 8 := by omega
      clear ih
      refine LoopW.round TT_ok [0, 1, 2, 6, 7, 8, 10, 11, 12, 13, 20, 26, 27, 28, 29, 40, 41, 42] ?_
      conv => whnf
      repeat' first
        | with_reducible rfl
        | with_reducible exact True.intro
        | with_reducible assumption
        | exact (Bool.false_ne_true (hd.symm.trans h)).elim
        | exact ints_nl _
        | assumption
        | (refine W.drawnM (id := 9) 0 TT_ok hmix1 [0, 0, 0, 0, 0, 0, 1, 1] [0, 0, 0, 1, 1, 1, 1, 2] rfl ?_; conv => whnf)
        | exact absurd (show false = true from h) Bool.false_ne_true
        | exact absurd (show true = false from h) (fun e => Bool.noConfusion e)
        | exact (congrArg Bool.not h)
        | (refine ⟨_, ⟨by first | assumption | decide | omega, by first | assumption | rfl⟩, ?_⟩; conv => whnf)
        | (refine ⟨_, fun _ => ⟨by first | assumption | decide | omega, by first | assumption | rfl⟩, ?_⟩; conv => whnf)
        | exact (rfl : (_ : Nat) = _)
        | exact (rfl : (_ : LV) = _)
        | (refine ⟨fun h => ?_, fun h => ?_⟩ <;> conv => whnf)
        | (refine ⟨?_, ?_⟩ <;> conv => whnf)
        | (intro h; conv => whnf)
        | (refine gand ?_ h; assumption)
      all_goals skip
end Go.RX

