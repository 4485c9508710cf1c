/- The contract of footwaylaw20.JudgeCounts. -/
import Derived.Test.YtbpgcejajdeafaaPlg
set_option linter.unusedVariables false
set_option linter.unusedSimpArgs false
open Go Go.RX Go.Proofs
namespace Go.RX
set_option maxRecDepth 10000
set_option maxHeartbeats 400000
def nrm (c : Cp) : Cp := { c with seg := Int.tmod (IntKind.i64.wrap (Int.tmod c.seg 8 + 8)) 8 }
/-- Copies of which some are made right. -/
def mxd (l : List Cp) (k : Nat) : List Cp := (l.take k).map nrm ++ l.drop k
theorem mxd_at {l : List Cp} {k : Nat} (h : k < l.length) : (mxd l k)[k]? = some l[k] := by
  simp only [mxd]
  rw [List.getElem?_append_right (by simp; omega)]
  simp only [List.length_map, List.length_take, Nat.min_eq_left (Nat.le_of_lt h), Nat.sub_self, List.getElem?_drop, Nat.add_zero]
  exact List.getElem?_eq_getElem h
theorem mxd_set {l : List Cp} {k : Nat} (h : k < l.length) : (mxd l k).set k (nrm l[k]) = mxd l (k + 1) := by
  apply List.ext_getElem?
  intro j
  simp only [mxd, List.getElem?_set, List.getElem?_append, List.length_append, List.length_map, List.length_take, List.length_drop, List.getElem?_map, List.getElem?_take, List.getElem?_drop]
  have hm : min k l.length = k := by omega
  have hm1 : min (k + 1) l.length = k + 1 := by omega
  rw [hm, hm1]
  rcases Nat.lt_trichotomy j k with hj | hj | hj
  · rw [if_neg (by omega), if_pos hj, if_pos (by omega)]
    simp [show j < k + 1 by omega]
  · subst hj
    rw [if_pos rfl, if_pos (by omega), if_pos (by omega), if_pos (by omega), List.getElem?_eq_getElem h]; rfl
  · rw [if_neg (by omega), if_neg (by omega), if_neg (by omega)]
    congr 1; omega
theorem mxd_end (l : List Cp) : mxd l l.length = l.map nrm := by simp [mxd]
theorem nn {a b : Int} (h : b ≤ a) : (a - b).NonNeg := h
theorem NLss_bel {m : Nat} {l : List (List LV)} (h : NLss l) : belss m l := belss_iff.2 fun cs h1 x h2 => (NLss_iff.1 h cs h1 x h2).bel
attribute [local irreducible] CallW CallP LoopW W IntKind.wrap Finds Int.tmod
abbrev s3a (n : Nat) (k : Int) (i : Nat) : Slots := [(0, .sl 0 0 n), (1, I k), (31, I n), (32, I i)]
abbrev s3b (m : List Cp) (k : Int) (b : Bool) (i : Nat) : Slots := [(0, copsL m), (1, I k), (5, I (tw m)), (7, .bool b), (50, copsL m), (51, I (m.map Cp.cells).length), (52, I i)]
def manyK (m : List Cp) (i : Nat) : Bool := (m.take i).any fun c => decide (1 < (cn m c.key : Int))
theorem manyK_succ {m : List Cp} {i : Nat} {c : Cp} (h : m[i]? = some c) : manyK m (i + 1) = (bif manyK m i then true else decide (1 < (cn m c.key : Int))) := by
  simp only [manyK, List.take_add_one, h, Option.toList, List.any_append, List.any_cons, List.any_nil, Bool.or_false]
  cases (List.take i m).any fun c => decide (1 < (cn m c.key : Int)) <;> simp
theorem manyK_end (m : List Cp) : manyK m m.length = decide (0 ≤ tw m) := by
  rw [Bool.eq_iff_iff, decide_eq_true_eq, ← many_iff]
  simp only [manyK, List.take_length, List.any_eq_true, decide_eq_true_eq]
  constructor
  · rintro ⟨c, h1, h2⟩; exact ⟨c, h1, by omega⟩
  · rintro ⟨c, h1, h2⟩; exact ⟨c, h1, by omega⟩
theorem nrm_on (l : List Cp) : on 8 (l.map nrm) := fun c hc => by
  obtain ⟨d, _, rfl⟩ := List.mem_map.1 hc
  exact rem_pos (by decide) (by decide)
theorem cnts_at (m : List Cp) (r : ByteArray) {s : Int} (h : 0 ≤ s ∧ s < 8) : ((cnts m r 8).map fun x => [I x])[s.toNat]? = some [I (cn m (s, r))] := by
  have h1 : s.toNat < 8 := by omega
  have h2 : ((s.toNat : Nat) : Int) = s := Int.toNat_of_nonneg h.1
  simp [cnts, h1, h2]
theorem c3 (l0 : List Cp) (k0 : Int) : CallP Try.prog 3 [copsL l0, I k0] (.bool true) := by
  have h9 := (c9 l0).at (H := ⟨0, []⟩) ⟨trivial, trivial⟩ (cps_nl _)
  have hl := fw_len l0
  generalize fw l0 = l at h9 hl
  have hL : (l.map Cp.cells).length = l.length := List.length_map ..
  have h10 := (c10 l (by omega)).lend trivial (H := ⟨1, [(0, .row 26 5 (l.map Cp.cells))]⟩) (args := [.sl 0 0 (l.map Cp.cells).length]) ⟨⟨rfl, rfl, cps_nl _, rfl⟩, trivial⟩
  obtain ⟨hr1, hr2, hr3⟩ := tw_range l
  have hA : (bif (bif decide (tw l < -1) then true else decide (((l.map Cp.cells).length : Int) ≤ tw l)) then true else decide (tw l = 0)) = false := by
    rw [hL, show decide (tw l < -1) = false by rw [decide_eq_false_iff_not]; omega, show decide ((l.length : Int) ≤ tw l) = false by rw [decide_eq_false_iff_not]; omega]
    simpa using hr3
  have hon := nrm_on l
  have hme := mxd_end l
  have hml : (l.map nrm).length = l.length := List.length_map ..
  have hN : (l.map Cp.cells).length = ((l.map nrm).map Cp.cells).length := by simp
  have hst : mxd l 0 = l := by simp [mxd]
  refine .intro (by first | (simp [NLs, NL]; done) | (simp [NLs, NL, nlx]; done)) (.intro TT_ok Try.func3 rfl rfl [0, 1, 4, 5, 6, 7, 9, 10, 11, 12, 13, 29, 31, 32, 33, 50, 51, 52, 53, 77, 91, 94, 1000010] rfl ?_)
  conv => whnf
  repeat' first
    | with_reducible rfl
    | with_reducible exact True.intro
    | with_reducible assumption
    | exact (Bool.false_ne_true (hA.symm.trans h)).elim
    | (refine CallW.done (h9) ?_; conv => whnf)
    | (refine ⟨_, _, h9, ?_⟩; conv => whnf)
    | (refine CallW.done (h10) ?_; conv => whnf)
    | (refine ⟨_, _, h10, ?_⟩; conv => whnf)
    | assumption
    | (refine W.drawnM (id := 25) 3 TT_ok hmix1 [0, 0, 1, 0, 0, 2, 3, 4] [1, 1, 2, 2, 2, 3, 4, 4] rfl ?_; conv => whnf)
    | exact absurd (show false = true from h) Bool.false_ne_true
    | exact absurd (show true = false from h) (fun e => Bool.noConfusion e)
    | exact (congrArg Bool.not h)
    | (refine ⟨_, ⟨by first | assumption | decide | omega, by first | assumption | rfl⟩, ?_⟩; conv => whnf)
    | (refine ⟨_, fun _ => ⟨by first | assumption | decide | omega, by first | assumption | rfl⟩, ?_⟩; conv => whnf)
    | exact (rfl : (_ : Nat) = _)
    | exact (rfl : (_ : LV) = _)
    | (refine ⟨fun h => ?_, fun h => ?_⟩ <;> conv => whnf)
    | (refine ⟨?_, ?_⟩ <;> conv => whnf)
    | (intro h; conv => whnf)
    | (refine gand ?_ h; assumption)
  clear h9 h10 hA hr1 hr2 hr3
  refine LoopW.norm (s3a ((l.map nrm).map Cp.cells).length k0 0) 1 [(0, .row 26 5 ((mxd l 0).map Cp.cells))] ⟨congrArg (LV.sl 0 0) hN, rfl, congrArg (fun n : Nat => I n) hN, rfl, trivial⟩ ⟨⟨congrArg (fun m : List Cp => some (Blk.row 26 5 (m.map Cp.cells))) hst.symm, rfl, (NLss_bel (cps_nl _))⟩, trivial⟩ ⟨rfl, trivial, trivial, trivial, trivial⟩ rfl ?_
  generalize hm : l.map nrm = m at *
  have hM : (m.map Cp.cells).length = m.length := List.length_map ..
  refine LoopW.ind (α := Nat) (fun i => l.length - i) (fun i s' H => i ≤ l.length ∧ s' = s3a (m.map Cp.cells).length k0 i ∧ H = ⟨1, [(0, .row 26 5 ((mxd l i).map Cp.cells))]⟩) ?_ (a := 0) ⟨Nat.zero_le _, rfl, rfl⟩
  rintro i s' H ⟨hk, rfl, rfl⟩ ih
  by_cases hi : i < l.length
  · have hd : decide ((i : Int) < ((m.map Cp.cells).length : Int)) = true := by rw [decide_eq_true_eq]; omega
    have hnth : nth ((mxd l i).map Cp.cells) (0 + (i : Int).toNat) = some l[i].cells := by rw [nth_eq]; simp [mxd_at hi]
    have hlo : ((i : Int) - 0).NonNeg := Int.natCast_nonneg _
    have hhi : (((m.map Cp.cells).length : Int) - ((i : Int) + 1)).NonNeg := nn (by omega)
    have hset := congrArg (List.map Cp.cells) (mxd_set hi)
    rw [List.map_set, ← setN_eq, show setN ((mxd l i).map Cp.cells) i (nrm l[i]).cells = setN ((mxd l i).map Cp.cells) (0 + (i : Int).toNat) (nrm l[i]).cells by rw [Int.toNat_natCast, Nat.zero_add]] at hset
    generalize l[i] = c at hnth hset
    have hnext : ∀ {s1 : Slots} {H1 : Heap}, subC s1 (s3a (m.map Cp.cells).length k0 (i + 1)) → look H1.live 0 = some (.row 26 5 ((mxd l (i + 1)).map Cp.cells)) → LoopW Try.prog Try.f3.ntmps 0 _ _ s1 H1 := fun h1 h2 =>
      LoopW.norm (s3a (m.map Cp.cells).length k0 (i + 1)) 1 [(0, .row 26 5 ((mxd l (i + 1)).map Cp.cells))] h1 ⟨⟨h2, rfl, NLss_bel (cps_nl _)⟩, trivial⟩ ⟨rfl, trivial, trivial, trivial, trivial⟩ rfl (ih (i + 1) _ _ ⟨hi, rfl, rfl⟩ (by omega))
    clear ih
    generalize (mxd l i).map Cp.cells = R at hnth hset ⊢
    refine LoopW.round TT_ok [0, 1, 4, 5, 6, 7, 9, 10, 11, 12, 13, 29, 31, 32, 33, 50, 51, 52, 53, 77, 91, 94, 1000010] ?_
    conv => whnf
    repeat' first
      | with_reducible rfl
      | with_reducible exact True.intro
      | with_reducible assumption
      | exact (Bool.false_ne_true (h.symm.trans hd)).elim
      | exact hlo
      | exact hhi
      | exact absurd h (by decide)
      | assumption
      | (refine W.drawnM (id := 25) 3 TT_ok hmix1 [0, 0, 1, 0, 0, 2, 3, 4] [1, 1, 2, 2, 2, 3, 4, 4] rfl ?_; conv => whnf)
      | exact absurd (show false = true from h) Bool.false_ne_true
      | exact absurd (show true = false from h) (fun e => Bool.noConfusion e)
      | exact (congrArg Bool.not h)
      | (refine ⟨_, ⟨by first | assumption | decide | omega, by first | assumption | rfl⟩, ?_⟩; conv => whnf)
      | (refine ⟨_, fun _ => ⟨by first | assumption | decide | omega, by first | assumption | rfl⟩, ?_⟩; conv => whnf)
      | exact (rfl : (_ : Nat) = _)
      | exact (rfl : (_ : LV) = _)
      | (refine ⟨fun h => ?_, fun h => ?_⟩ <;> conv => whnf)
      | (refine ⟨?_, ?_⟩ <;> conv => whnf)
      | (intro h; conv => whnf)
      | (refine gand ?_ h; assumption)
      | (rw [hnth]; conv => whnf)
    exact hnext ⟨rfl, rfl, rfl, congrArg (LV.int .i64) (w64_nat (by omega)), trivial⟩ (congrArg (fun r => some (Blk.row 26 5 r)) hset)
  · have hd : decide ((i : Int) < ((m.map Cp.cells).length : Int)) = false := by rw [decide_eq_false_iff_not]; omega
    obtain rfl : i = l.length := by omega
    clear ih hk hi
    rw [hme]
    have h10 := (c10 m (by omega)).lend trivial (H := ⟨1, [(0, .row 26 5 (m.map Cp.cells))]⟩) (args := [.sl 0 0 (m.map Cp.cells).length]) ⟨⟨rfl, rfl, cps_nl _, rfl⟩, trivial⟩
    refine LoopW.round TT_ok [0, 1, 4, 5, 6, 7, 9, 10, 11, 12, 13, 29, 31, 32, 33, 50, 51, 52, 53, 77, 91, 94, 1000010] ?_
    conv => whnf
    repeat' first
      | with_reducible rfl
      | with_reducible exact True.intro
      | with_reducible assumption
      | exact (Bool.false_ne_true (hd.symm.trans h)).elim
      | (refine CallW.done (h10) ?_; conv => whnf)
      | (refine ⟨_, _, h10, ?_⟩; conv => whnf)
      | assumption
      | (refine W.drawnM (id := 25) 3 TT_ok hmix1 [0, 0, 1, 0, 0, 2, 3, 4] [1, 1, 2, 2, 2, 3, 4, 4] rfl ?_; conv => whnf)
      | exact absurd (show false = true from h) Bool.false_ne_true
      | exact absurd (show true = false from h) (fun e => Bool.noConfusion e)
      | exact (congrArg Bool.not h)
      | (refine ⟨_, ⟨by first | assumption | decide | omega, by first | assumption | rfl⟩, ?_⟩; conv => whnf)
      | (refine ⟨_, fun _ => ⟨by first | assumption | decide | omega, by first | assumption | rfl⟩, ?_⟩; conv => whnf)
      | exact (rfl : (_ : Nat) = _)
      | exact (rfl : (_ : LV) = _)
      | (refine ⟨fun h => ?_, fun h => ?_⟩ <;> conv => whnf)
      | (refine ⟨?_, ?_⟩ <;> conv => whnf)
      | (intro h; conv => whnf)
      | (refine gand ?_ h; assumption)
    refine LoopW.frz [0] ?_
    conv => whnf
    refine ⟨cps_nl m, ?_⟩
    conv => whnf
    refine ⟨rfl, ?_⟩
    conv => whnf
    refine ⟨rfl, ?_⟩
    conv => whnf
    refine LoopW.norm (s3b m k0 (manyK m 0) 0) 0 [] ⟨rfl, rfl, rfl, rfl, rfl, rfl, rfl, trivial⟩ trivial ⟨trivial, trivial, trivial, trivial, trivial, trivial, trivial, trivial⟩ rfl ?_
    refine LoopW.ind (α := Nat) (fun i => m.length - i) (fun i s' H => i ≤ m.length ∧ s' = s3b m k0 (manyK m i) i ∧ H = ⟨0, []⟩) ?_ (a := 0) ⟨Nat.zero_le _, rfl, rfl⟩
    rintro i s' H ⟨hk, rfl, rfl⟩ ih
    by_cases hi : i < m.length
    · have hd : decide ((i : Int) < ((m.map Cp.cells).length : Int)) = true := by rw [decide_eq_true_eq]; omega
      have hx := List.getElem?_eq_getElem hi
      have hb : (m.map Cp.cells)[i]? = some m[i].cells := by simp [hi]
      have hcm := List.getElem_mem hi
      generalize m[i] = c at hx hb hcm
      have hc8 := hon c hcm
      have h11 := c11 m (by omega) c.raw hon
      have hat := cnts_at m c.raw hc8
      have h0s : (c.seg - 0).NonNeg := nn hc8.1
      have hle : (((cnts m c.raw 8).map fun x => [I x]).length : Int) = 8 := by simp [cnts]
      have h8s : ((((cnts m c.raw 8).map fun x => [I x]).length : Int) - (c.seg + 1)).NonNeg := nn (by rw [hle]; omega)
      have hc1 := cn_mem hcm
      have hB : decide ((cn m (c.seg, c.raw) : Int) < 1) = false := by rw [decide_eq_false_iff_not]; exact Int.not_lt.2 (Int.ofNat_le.2 hc1)
      have hmk := manyK_succ hx
      have hnext : ∀ {s1 : Slots} {H1 : Heap}, subC s1 (s3b m k0 (manyK m (i + 1)) (i + 1)) → LoopW Try.prog Try.f3.ntmps 0 _ _ s1 H1 := fun h1 =>
        LoopW.norm (s3b m k0 (manyK m (i + 1)) (i + 1)) 0 [] h1 trivial ⟨trivial, trivial, trivial, trivial, trivial, trivial, trivial, trivial⟩ rfl (ih (i + 1) _ _ ⟨hi, rfl, rfl⟩ (by omega))
      clear ih
      rw [hmk] at hnext
      generalize manyK m i = b at hnext ⊢
      have hC : (bif bif !decide ((0 : Int) = 0) then true else !decide ((((cnts m c.raw 8).map fun x => [I x]).length : Int) = 8) then true else decide ((cn m (c.seg, c.raw) : Int) < 1)) = false := by
        rw [hle, hB]; rfl
      refine LoopW.round TT_ok [0, 1, 4, 5, 6, 7, 9, 10, 11, 12, 13, 29, 31, 32, 33, 50, 51, 52, 53, 77, 91, 94, 1000010] ?_
      conv => whnf
      repeat' first
        | with_reducible rfl
        | with_reducible exact True.intro
        | with_reducible assumption
        | exact (Bool.false_ne_true (h.symm.trans hd)).elim
        | (refine ⟨[I (cn m (c.seg, c.raw))], fun _ => ⟨h0s, hat⟩, ?_⟩; conv => whnf)
        | exact (Bool.false_ne_true (hC.symm.trans h)).elim
        | (refine CallP.use (h11) ?_; conv => whnf)
        | (refine ⟨_, _, CallP.at (h11), ?_⟩; conv => whnf)
        | (refine ⟨_, fun _ => h11, ?_⟩; conv => whnf)
        | assumption
        | (refine W.drawnM (id := 25) 3 TT_ok hmix1 [0, 0, 1, 0, 0, 2, 3, 4] [1, 1, 2, 2, 2, 3, 4, 4] rfl ?_; conv => whnf)
        | exact absurd (show false = true from h) Bool.false_ne_true
        | exact absurd (show true = false from h) (fun e => Bool.noConfusion e)
        | exact (congrArg Bool.not h)
        | (refine ⟨_, ⟨by first | assumption | decide | omega, by first | assumption | rfl⟩, ?_⟩; conv => whnf)
        | (refine ⟨_, fun _ => ⟨by first | assumption | decide | omega, by first | assumption | rfl⟩, ?_⟩; conv => whnf)
        | exact (rfl : (_ : Nat) = _)
        | exact (rfl : (_ : LV) = _)
        | (refine ⟨fun h => ?_, fun h => ?_⟩ <;> conv => whnf)
        | (refine ⟨?_, ?_⟩ <;> conv => whnf)
        | (intro h; conv => whnf)
        | (refine gand ?_ h; assumption)
      exact hnext ⟨rfl, rfl, rfl, rfl, rfl, rfl, congrArg (LV.int .i64) (w64_nat (by omega)), trivial⟩
    · have hd : decide ((i : Int) < ((m.map Cp.cells).length : Int)) = false := by rw [decide_eq_false_iff_not]; omega
      obtain rfl : i = m.length := by omega
      clear ih hk hi
      rw [manyK_end]
      have hE : (!decide (0 ≤ tw m) == decide (0 ≤ tw m)) = false := by cases decide (0 ≤ tw m) <;> rfl
      cases m with
      | nil =>
        refine LoopW.round TT_ok [0, 1, 4, 5, 6, 7, 9, 10, 11, 12, 13, 29, 31, 32, 33, 50, 51, 52, 53, 77, 91, 94, 1000010] ?_
        conv => whnf
        repeat' first
          | with_reducible rfl
          | with_reducible exact True.intro
          | with_reducible assumption
          | exact (Bool.false_ne_true (hd.symm.trans h)).elim
          | exact (Bool.false_ne_true (hE.symm.trans h)).elim
          | (refine CallP.use (c12) ?_; conv => whnf)
          | (refine ⟨_, _, CallP.at (c12), ?_⟩; conv => whnf)
          | (refine ⟨_, fun _ => c12, ?_⟩; conv => whnf)
          | assumption
          | (refine W.drawnM (id := 25) 3 TT_ok hmix1 [0, 0, 1, 0, 0, 2, 3, 4] [1, 1, 2, 2, 2, 3, 4, 4] rfl ?_; conv => whnf)
          | exact absurd (show false = true from h) Bool.false_ne_true
          | exact absurd (show true = false from h) (fun e => Bool.noConfusion e)
          | exact (congrArg Bool.not h)
          | (refine ⟨_, ⟨by first | assumption | decide | omega, by first | assumption | rfl⟩, ?_⟩; conv => whnf)
          | (refine ⟨_, fun _ => ⟨by first | assumption | decide | omega, by first | assumption | rfl⟩, ?_⟩; conv => whnf)
          | exact (rfl : (_ : Nat) = _)
          | exact (rfl : (_ : LV) = _)
          | (refine ⟨fun h => ?_, fun h => ?_⟩ <;> conv => whnf)
          | (refine ⟨?_, ?_⟩ <;> conv => whnf)
          | (intro h; conv => whnf)
          | (refine gand ?_ h; assumption)
        all_goals skip
      | cons c0 m0 =>
        generalize hcm : c0 :: m0 = m at *
        have hz : ¬ (((m.map Cp.cells).length : Int) = 0) := by rw [hM, ← hcm, List.length_cons]; omega
        have hz2 : decide (((m.map Cp.cells).length : Int) = 0) = false := decide_eq_false hz
        have hr := rem_pos (a := k0) (n := ((m.map Cp.cells).length : Int)) (by omega) (by omega)
        generalize hi : Int.tmod (IntKind.i64.wrap (Int.tmod k0 ((m.map Cp.cells).length : Int) + ((m.map Cp.cells).length : Int))) ((m.map Cp.cells).length : Int) = ix at hr
        have hil : ix.toNat < m.length := by omega
        have hb : (m.map Cp.cells)[ix.toNat]? = some m[ix.toNat].cells := by simp [hil]
        have hcm2 := List.getElem_mem hil
        generalize m[ix.toNat] = c at hb hcm2
        have h0i : (ix - 0).NonNeg := nn hr.1
        have e3 : ([] ++ m.map Cp.cells) ++ [c.cells] = (m ++ [c]).map Cp.cells := by simp
        have h10b : CallP Try.prog 10 [.ro 5 (([] ++ m.map Cp.cells) ++ [c.cells])] (I (tw (m ++ [c]))) := by rw [e3]; exact c10 _ (by simp; omega)
        have f1 : fits (([] : List (List LV)) ++ m.map Cp.cells).length 48 := by simp [fits]; omega
        have f2 : fits (([] : List (List LV)) ++ m.map Cp.cells ++ [c.cells]).length 48 := by simp [fits]; omega
        have n1 : NLss (([] : List (List LV)) ++ m.map Cp.cells ++ [c.cells]) := by rw [e3]; exact cps_nl _
        have hta := tw_app hcm2
        subst hi
        refine LoopW.round TT_ok [0, 1, 4, 5, 6, 7, 9, 10, 11, 12, 13, 29, 31, 32, 33, 50, 51, 52, 53, 77, 91, 94, 1000010] ?_
        conv => whnf
        repeat' first
          | with_reducible rfl
          | with_reducible exact True.intro
          | with_reducible assumption
          | exact (Bool.false_ne_true (hd.symm.trans h)).elim
          | exact (Bool.false_ne_true (hE.symm.trans h)).elim
          | exact (hz h).elim
          | exact (Bool.false_ne_true (hz2.symm.trans h)).elim
          | (refine ⟨c.cells, ⟨h0i, hb⟩, ?_⟩; conv => whnf)
          | exact f1
          | exact f2
          | exact n1
          | (refine CallP.use (c12) ?_; conv => whnf)
          | (refine ⟨_, _, CallP.at (c12), ?_⟩; conv => whnf)
          | (refine ⟨_, fun _ => c12, ?_⟩; conv => whnf)
          | (refine CallP.use (h10b) ?_; conv => whnf)
          | (refine ⟨_, _, CallP.at (h10b), ?_⟩; conv => whnf)
          | (refine ⟨_, fun _ => h10b, ?_⟩; conv => whnf)
          | assumption
          | (refine W.drawnM (id := 25) 3 TT_ok hmix1 [0, 0, 1, 0, 0, 2, 3, 4] [1, 1, 2, 2, 2, 3, 4, 4] rfl ?_; conv => whnf)
          | exact absurd (show false = true from h) Bool.false_ne_true
          | exact absurd (show true = false from h) (fun e => Bool.noConfusion e)
          | exact (congrArg Bool.not h)
          | (refine ⟨_, ⟨by first | assumption | decide | omega, by first | assumption | rfl⟩, ?_⟩; conv => whnf)
          | (refine ⟨_, fun _ => ⟨by first | assumption | decide | omega, by first | assumption | rfl⟩, ?_⟩; conv => whnf)
          | exact (rfl : (_ : Nat) = _)
          | exact (rfl : (_ : LV) = _)
          | (refine ⟨fun h => ?_, fun h => ?_⟩ <;> conv => whnf)
          | (refine ⟨?_, ?_⟩ <;> conv => whnf)
          | (intro h; conv => whnf)
          | (refine gand ?_ h; assumption)
        rw [hta, hM]
        by_cases h0 : 0 ≤ tw m
        · simp [h0]
        · have h1 : tw m < 0 := by omega
          simp [h0, h1]
end Go.RX

