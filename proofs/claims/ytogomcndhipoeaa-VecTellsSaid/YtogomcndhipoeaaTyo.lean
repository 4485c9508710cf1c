/- The contract of footwayref04.Sort. -/
import Derived.Test.YtogomcndhipoeaaTyn
set_option linter.unusedVariables false
set_option linter.unusedSimpArgs false
open Go Go.RX Go.Proofs
namespace Go.RX
set_option maxRecDepth 10000
set_option maxHeartbeats 2000000
attribute [local irreducible] CallW CallP CallS LoopW W IntKind.wrap rankL vRight BInv eqV cv
abbrev s17 (l S : List Vc) (k : Nat) : Slots := [(0, vcsL l), (3, .sl 0 0 (S.map Vc.cells).length), (9, vcsL l), (10, I (l.map Vc.cells).length), (11, I k)]
abbrev s17i (l S : List Vc) (k i : Nat) : Slots := [(0, vcsL l), (3, vcsL S), (5, .ptr 1 0 0), (6, I i), (9, vcsL l), (10, I (l.map Vc.cells).length), (11, I k)]
theorem c17s (l : List Vc) (hl : l.length ≤ 1000) : CallS Try.prog 17 [vcsL l] fun r => ∃ l' : List Vc, l'.Perm l ∧ Srt leV l' ∧ r = vcsL l' := by
  have hL : (l.map Vc.cells).length = l.length := List.length_map ..
  refine .intro (by first | (simp [NLs, NL]; done) | (simp [NLs, NL, nlx]; done)) (CallW.intro TT_ok Try.func17 rfl rfl [0, 2, 3, 5, 6, 7, 9, 10, 11, 12, 27] rfl ?_)
  conv => whnf
  repeat' first
    | with_reducible rfl
    | with_reducible exact True.intro
    | with_reducible assumption
    | assumption
    | (refine W.drawn TT_ok hmix1 rfl ?_; conv => whnf)
    | exact absurd (show false = true from h) Bool.false_ne_true
    | exact absurd (show true = false from h) (fun e => Bool.noConfusion e)
    | exact (congrArg Bool.not h)
    | (refine ⟨_, ⟨by first | assumption | decide | omega, by first | assumption | rfl⟩, ?_⟩; conv => whnf)
    | (refine ⟨_, fun _ => ⟨by first | assumption | decide | omega, by first | assumption | rfl⟩, ?_⟩; conv => whnf)
    | exact (rfl : (_ : Nat) = _)
    | exact (rfl : (_ : LV) = _)
    | (refine ⟨fun h => ?_, fun h => ?_⟩ <;> conv => whnf)
    | (refine ⟨?_, ?_⟩ <;> conv => whnf)
    | (intro h; conv => whnf)
    | (refine gand ?_ h; assumption)
  refine LoopW.norm (s17 l [] 0) 1 [(0, .row 31 4 (([] : List Vc).map Vc.cells))] ⟨rfl, rfl, rfl, rfl, rfl, trivial⟩ (hpS _ rfl) ⟨trivial, rfl, trivial, trivial, trivial, trivial⟩ rfl ?_
  refine LoopW.ind (α := Nat) (fun k => l.length - k) (fun k s' H => ∃ S : List Vc, (k ≤ l.length ∧ S.Perm (l.take k) ∧ Srt leV S) ∧ s' = s17 l S k ∧ H = hpV S) ?_ (a := 0) ⟨[], ⟨Nat.zero_le _, List.Perm.refl _, List.Pairwise.nil⟩, rfl, rfl⟩
  rintro k s' H ⟨S, ⟨hk, hp, hS⟩, rfl, rfl⟩ ih
  have hSl : S.length = k := by rw [hp.length_eq, List.length_take]; omega
  have hSc : (S.map Vc.cells).length = S.length := List.length_map ..
  by_cases hi : k < l.length
  · have hd : decide ((k : Int) < ((l.map Vc.cells).length : Int)) = true := by rw [decide_eq_true_eq]; omega
    have hb : (l.map Vc.cells)[k]? = some l[k].cells := by simp [hi]
    have htk : l.take (k + 1) = l.take k ++ [l[k]] := by rw [List.take_add_one, List.getElem?_eq_getElem hi]; rfl
    generalize l[k] = x at hb htk
    refine LoopW.frz [0] ?_
    conv => whnf
    refine ⟨vcs_nl _, ?_⟩
    conv => whnf
    refine ⟨rfl, ?_⟩
    conv => whnf
    refine LoopW.round TT_ok [0, 2, 3, 5, 6, 7, 9, 10, 11, 12, 27] ?_
    conv => whnf
    repeat' first
      | with_reducible rfl
      | with_reducible exact True.intro
      | with_reducible assumption
      | exact (Bool.false_ne_true (h.symm.trans hd)).elim
      | assumption
      | (refine W.drawn TT_ok hmix1 rfl ?_; conv => whnf)
      | exact absurd (show false = true from h) Bool.false_ne_true
      | exact absurd (show true = false from h) (fun e => Bool.noConfusion e)
      | exact (congrArg Bool.not h)
      | (refine ⟨_, ⟨by first | assumption | decide | omega, by first | assumption | rfl⟩, ?_⟩; conv => whnf)
      | (refine ⟨_, fun _ => ⟨by first | assumption | decide | omega, by first | assumption | rfl⟩, ?_⟩; conv => whnf)
      | exact (rfl : (_ : Nat) = _)
      | exact (rfl : (_ : LV) = _)
      | (refine ⟨fun h => ?_, fun h => ?_⟩ <;> conv => whnf)
      | (refine ⟨?_, ?_⟩ <;> conv => whnf)
      | (intro h; conv => whnf)
      | (refine gand ?_ h; assumption)
    refine LoopW.norm (s17i l S k 0) 2 [(1, .row 31 4 [x.cells])] ⟨rfl, rfl, rfl, rfl, rfl, rfl, rfl, trivial⟩ ⟨⟨rfl, rfl, ⟨trivial, trivial, trivial, trivial, trivial⟩, trivial⟩, trivial⟩ ⟨trivial, trivial, rfl, trivial, trivial, trivial, trivial, trivial⟩ rfl ?_
    refine LoopW.ind (α := Nat) (fun r => r) (fun r s' H => ∃ P Q : List Vc, (Q.length = r ∧ S = P ++ Q ∧ ∀ q ∈ P, leV q x) ∧ s' = s17i l S k P.length ∧ H = ⟨2, [(1, .row 31 4 [x.cells])]⟩) ?_ (a := S.length) ⟨[], S, ⟨rfl, rfl, fun q hq => by cases hq⟩, rfl, rfl⟩
    rintro r s' H ⟨P, Q, ⟨rfl, hPQ, hP⟩, rfl, rfl⟩ ih2
    have hPl : S.length = P.length + Q.length := by rw [hPQ, List.length_append]
    have h0P : (((P.length : Nat) : Int) - 0).NonNeg := Int.natCast_nonneg _
    have hexit : (∀ q ∈ Q, leV x q) → LoopW Try.prog Try.f17.ntmps 0 _ _ (s17 l (P ++ x :: Q) (k + 1)) (hpV (P ++ x :: Q)) := fun hQ => by
      refine ih (k + 1) _ _ ⟨P ++ x :: Q, ⟨hi, ?_, ?_⟩, rfl, rfl⟩ (by omega)
      · rw [htk]
        refine List.perm_middle.trans (List.Perm.trans ?_ (List.perm_append_singleton x _).symm)
        rw [← hPQ]
        exact List.Perm.cons x hp
      · obtain ⟨p1, p2, p3⟩ := List.pairwise_append.1 (hPQ ▸ hS)
        refine srt_append p1 (List.pairwise_cons.2 ⟨hQ, p2⟩) fun u hu v hv => ?_
        rcases List.mem_cons.1 hv with rfl | hv
        · exact hP u hu
        · exact p3 u hu v hv
    clear ih
    have hiP : ((((S.map Vc.cells).length : Nat) : Int) - ((P.length : Nat) : Int)).NonNeg := nn (by omega)
    have hT : (S.map Vc.cells).take ((P.length : Nat) : Int).toNat = P.map Vc.cells := by
      rw [Int.toNat_natCast, hPQ, List.map_append]; exact List.take_left' (List.length_map ..)
    have hD : (S.map Vc.cells).drop ((P.length : Nat) : Int).toNat = Q.map Vc.cells := by
      rw [Int.toNat_natCast, hPQ, List.map_append]; exact List.drop_left' (List.length_map ..)
    have hPm : (P.map Vc.cells).length = P.length := List.length_map ..
    have hQm : (Q.map Vc.cells).length = Q.length := List.length_map ..
    have f1 : fits (([] : List (List LV)) ++ (S.map Vc.cells).take ((P.length : Nat) : Int).toNat).length 32 := by rw [hT]; simp [fits]; omega
    have f2 : fits ((([] : List (List LV)) ++ (S.map Vc.cells).take ((P.length : Nat) : Int).toNat) ++ [x.cells]).length 32 := by rw [hT]; simp [fits]; omega
    have f3 : fits (((([] : List (List LV)) ++ (S.map Vc.cells).take ((P.length : Nat) : Int).toNat) ++ [x.cells]) ++ (S.map Vc.cells).drop ((P.length : Nat) : Int).toNat).length 32 := by rw [hT, hD]; simp [fits]; omega
    have hfin : ((([] : List (List LV)) ++ (S.map Vc.cells).take ((P.length : Nat) : Int).toNat) ++ [x.cells]) ++ (S.map Vc.cells).drop ((P.length : Nat) : Int).toNat = (P ++ x :: Q).map Vc.cells := by rw [hT, hD]; simp
    cases Q with
    | nil =>
      have d : decide (((P.length : Nat) : Int) < ((S.map Vc.cells).length : Int)) = false := by
        rw [decide_eq_false_iff_not]; simp only [List.length_nil] at hPl; omega
      have h13 := c13 x x
      have hC : (bif decide (((P.length : Nat) : Int) < ((S.map Vc.cells).length : Int)) then !decide (ltV x x) else false) = false := by rw [d]; rfl
      refine LoopW.round TT_ok [0, 2, 3, 5, 6, 7, 9, 10, 11, 12, 27] ?_
      conv => whnf
      repeat' first
        | with_reducible rfl
        | with_reducible exact True.intro
        | with_reducible assumption
        | exact (Bool.false_ne_true (hC.symm.trans h)).elim
        | (refine ⟨x.cells, fun hh => (Bool.false_ne_true (d.symm.trans hh)).elim, ?_⟩; conv => whnf)
        | exact hiP
        | exact f1
        | exact f2
        | exact f3
        | (refine CallP.use (h13) ?_; conv => whnf)
        | (refine ⟨_, _, CallP.at (h13), ?_⟩; conv => whnf)
        | (refine ⟨_, fun _ => h13, ?_⟩; conv => whnf)
        | assumption
        | (refine W.drawn TT_ok hmix1 rfl ?_; conv => whnf)
        | exact absurd (show false = true from h) Bool.false_ne_true
        | exact absurd (show true = false from h) (fun e => Bool.noConfusion e)
        | exact (congrArg Bool.not h)
        | (refine ⟨_, ⟨by first | assumption | decide | omega, by first | assumption | rfl⟩, ?_⟩; conv => whnf)
        | (refine ⟨_, fun _ => ⟨by first | assumption | decide | omega, by first | assumption | rfl⟩, ?_⟩; conv => whnf)
        | exact (rfl : (_ : Nat) = _)
        | exact (rfl : (_ : LV) = _)
        | (refine ⟨fun h => ?_, fun h => ?_⟩ <;> conv => whnf)
        | (refine ⟨?_, ?_⟩ <;> conv => whnf)
        | (intro h; conv => whnf)
        | (refine gand ?_ h; assumption)
      exact LoopW.ren [(6, 0)] (s17 l (P ++ x :: []) (k + 1)) 1 [(0, .row 31 4 ((P ++ x :: []).map Vc.cells))] rfl
          ⟨rfl, congrArg (fun l : List (List LV) => LV.sl 0 0 l.length) hfin, rfl, rfl, congrArg (LV.int .i64) (w64_nat k (by omega)), trivial⟩
          ⟨⟨rfl, rfl, .inl ⟨hfin, hfin ▸ vcs_nl _⟩⟩, rfl, rfl, trivial⟩ rfl
          (hexit (fun q hq => by cases hq))
    | cons y Q =>
      have hPl' : S.length = P.length + (Q.length + 1) := hPl
      have d : decide (((P.length : Nat) : Int) < ((S.map Vc.cells).length : Int)) = true := by
        rw [decide_eq_true_eq]; omega
      have hy : S[P.length]? = some y := by rw [hPQ, List.getElem?_append_right (Nat.le_refl _), Nat.sub_self]; rfl
      have hby : (S.map Vc.cells)[P.length]? = some y.cells := by rw [List.getElem?_map, hy]; rfl
      have hby2 : (S.map Vc.cells)[((P.length : Nat) : Int).toNat]? = some y.cells := by rw [Int.toNat_natCast]; exact hby
      have h13 := c13 x y
      by_cases hlt : ltV x y
      · rw [decide_eq_true hlt] at h13
        have hC : (bif decide (((P.length : Nat) : Int) < ((S.map Vc.cells).length : Int)) then !true else false) = false := by rw [d]; rfl
        have hQ : ∀ q ∈ y :: Q, leV x q := fun q hq => by
          obtain ⟨p1, p2, p3⟩ := List.pairwise_append.1 (hPQ ▸ hS)
          rcases List.mem_cons.1 hq with rfl | hq
          · exact ltV_le hlt
          · exact leV_trans _ _ _ (ltV_le hlt) ((List.pairwise_cons.1 p2).1 q hq)
        refine LoopW.round TT_ok [0, 2, 3, 5, 6, 7, 9, 10, 11, 12, 27] ?_
        conv => whnf
        repeat' first
          | with_reducible rfl
          | with_reducible exact True.intro
          | with_reducible assumption
          | exact (Bool.false_ne_true (hC.symm.trans h)).elim
          | (refine ⟨y.cells, fun _ => ⟨h0P, hby2⟩, ?_⟩; conv => whnf)
          | exact hiP
          | exact f1
          | exact f2
          | exact f3
          | (refine CallP.use (h13) ?_; conv => whnf)
          | (refine ⟨_, _, CallP.at (h13), ?_⟩; conv => whnf)
          | (refine ⟨_, fun _ => h13, ?_⟩; conv => whnf)
          | assumption
          | (refine W.drawn TT_ok hmix1 rfl ?_; conv => whnf)
          | exact absurd (show false = true from h) Bool.false_ne_true
          | exact absurd (show true = false from h) (fun e => Bool.noConfusion e)
          | exact (congrArg Bool.not h)
          | (refine ⟨_, ⟨by first | assumption | decide | omega, by first | assumption | rfl⟩, ?_⟩; conv => whnf)
          | (refine ⟨_, fun _ => ⟨by first | assumption | decide | omega, by first | assumption | rfl⟩, ?_⟩; conv => whnf)
          | exact (rfl : (_ : Nat) = _)
          | exact (rfl : (_ : LV) = _)
          | (refine ⟨fun h => ?_, fun h => ?_⟩ <;> conv => whnf)
          | (refine ⟨?_, ?_⟩ <;> conv => whnf)
          | (intro h; conv => whnf)
          | (refine gand ?_ h; assumption)
        exact LoopW.ren [(6, 0)] (s17 l (P ++ x :: (y :: Q)) (k + 1)) 1 [(0, .row 31 4 ((P ++ x :: (y :: Q)).map Vc.cells))] rfl
          ⟨rfl, congrArg (fun l : List (List LV) => LV.sl 0 0 l.length) hfin, rfl, rfl, congrArg (LV.int .i64) (w64_nat k (by omega)), trivial⟩
          ⟨⟨rfl, rfl, .inl ⟨hfin, hfin ▸ vcs_nl _⟩⟩, rfl, rfl, trivial⟩ rfl
          (hexit hQ)
      · rw [decide_eq_false hlt] at h13
        have hC : (bif decide (((P.length : Nat) : Int) < ((S.map Vc.cells).length : Int)) then !false else false) = true := by rw [d]; rfl
        refine LoopW.round TT_ok [0, 2, 3, 5, 6, 7, 9, 10, 11, 12, 27] ?_
        conv => whnf
        repeat' first
          | with_reducible rfl
          | with_reducible exact True.intro
          | with_reducible assumption
          | exact (Bool.false_ne_true (h.symm.trans hC)).elim
          | (refine ⟨y.cells, fun _ => ⟨h0P, hby2⟩, ?_⟩; conv => whnf)
          | exact hiP
          | exact f1
          | exact f2
          | exact f3
          | (refine CallP.use (h13) ?_; conv => whnf)
          | (refine ⟨_, _, CallP.at (h13), ?_⟩; conv => whnf)
          | (refine ⟨_, fun _ => h13, ?_⟩; conv => whnf)
          | assumption
          | (refine W.drawn TT_ok hmix1 rfl ?_; conv => whnf)
          | exact absurd (show false = true from h) Bool.false_ne_true
          | exact absurd (show true = false from h) (fun e => Bool.noConfusion e)
          | exact (congrArg Bool.not h)
          | (refine ⟨_, ⟨by first | assumption | decide | omega, by first | assumption | rfl⟩, ?_⟩; conv => whnf)
          | (refine ⟨_, fun _ => ⟨by first | assumption | decide | omega, by first | assumption | rfl⟩, ?_⟩; conv => whnf)
          | exact (rfl : (_ : Nat) = _)
          | exact (rfl : (_ : LV) = _)
          | (refine ⟨fun h => ?_, fun h => ?_⟩ <;> conv => whnf)
          | (refine ⟨?_, ?_⟩ <;> conv => whnf)
          | (intro h; conv => whnf)
          | (refine gand ?_ h; assumption)
        have hP2 : ∀ q ∈ P ++ [y], leV q x := fun q hq => by
          rcases List.mem_append.1 hq with hq | hq
          · exact hP q hq
          · rw [List.mem_singleton] at hq; subst hq; exact hlt
        have := ih2 Q.length (s17i l S k (P ++ [y]).length) _ ⟨P ++ [y], Q, ⟨rfl, by rw [hPQ]; simp, hP2⟩, rfl, rfl⟩ (by simp)
        rw [show (P ++ [y]).length = P.length + 1 by simp] at this
        exact LoopW.norm (s17i l S k (P.length + 1)) 2 [(1, .row 31 4 [x.cells])] ⟨rfl, rfl, rfl, congrArg (LV.int .i64) (w64_nat _ (by omega)), rfl, rfl, rfl, trivial⟩ ⟨⟨rfl, rfl, ⟨trivial, trivial, trivial, trivial, trivial⟩, trivial⟩, trivial⟩ ⟨trivial, trivial, rfl, trivial, trivial, trivial, trivial, trivial⟩ rfl this
  · have hd : decide ((k : Int) < ((l.map Vc.cells).length : Int)) = false := by rw [decide_eq_false_iff_not]; omega
    obtain rfl : k = l.length := by omega
    rw [List.take_length] at hp
    clear ih
    refine LoopW.round TT_ok [0, 2, 3, 5, 6, 7, 9, 10, 11, 12, 27] ?_
    conv => whnf
    repeat' first
      | with_reducible rfl
      | with_reducible exact True.intro
      | with_reducible assumption
      | exact (Bool.false_ne_true (hd.symm.trans h)).elim
      | exact ⟨vcsL S, ⟨rfl, rfl, rfl, vcs_nl _⟩, S, hp, hS, rfl⟩
      | assumption
      | (refine W.drawn TT_ok hmix1 rfl ?_; conv => whnf)
      | exact absurd (show false = true from h) Bool.false_ne_true
      | exact absurd (show true = false from h) (fun e => Bool.noConfusion e)
      | exact (congrArg Bool.not h)
      | (refine ⟨_, ⟨by first | assumption | decide | omega, by first | assumption | rfl⟩, ?_⟩; conv => whnf)
      | (refine ⟨_, fun _ => ⟨by first | assumption | decide | omega, by first | assumption | rfl⟩, ?_⟩; conv => whnf)
      | exact (rfl : (_ : Nat) = _)
      | exact (rfl : (_ : LV) = _)
      | (refine ⟨fun h => ?_, fun h => ?_⟩ <;> conv => whnf)
      | (refine ⟨?_, ?_⟩ <;> conv => whnf)
      | (intro h; conv => whnf)
      | (refine gand ?_ h; assumption)
    all_goals skip
end Go.RX

