/- Plain functions, and what says that the program's functions compute them. -/
import Derived.Test.YtoahcombdhgmhaaFc
import Derived.Test.YtoahcombdhgmhaaFf
import Derived.Test.YtoahcombdhgmhaaRXB
set_option linter.unusedVariables false
set_option linter.unusedSimpArgs false
open Go Go.RX Go.Proofs
namespace Go.RX
set_option maxRecDepth 10000
set_option maxHeartbeats 4000000
attribute [local irreducible] CallW CallP LoopW W IntKind.wrap bitI
def law17_in (a0 : Int) (a1 : Int) : Option Bool :=
  some (bif (decide (0 ≤ a0)) then (decide (a0 < a1)) else false)

theorem c_law17_in (a0 : Int) (a1 : Int) (r : Bool) (h : law17_in a0 a1 = some r) : CallP Try.prog 110 [(I a0), (I a1)] (LV.bool r) := by
  unfold law17_in at h
  refine .intro (by repeat' first | exact True.intro | assumption | refine ⟨?_, ?_⟩) (.intro TT_ok Try.func110 rfl rfl [0, 1, 4] rfl ?_)
  conv => whnf
  have e := Option.some.inj h
  subst e
  repeat' first | with_reducible rfl | with_reducible exact True.intro | with_reducible assumption | exact (congrArg Bool.not h) | exact fun _ => True.intro | exact (rfl : (_ : Nat) = _) | exact (rfl : (_ : LV) = _) | exact NLss_map' _ | refine NLss_app ?_ ?_ | refine NLss_rep ?_ | refine NLss_set ?_ ?_ | refine NLss_take ?_ | refine NLss_drop ?_ | (refine And.intro ?_ ?_ <;> conv => whnf) | (intro h; (conv => whnf) <;> first | with_reducible rfl | assumption | exact h | exact (congrArg Bool.not h) | (refine ⟨h, True.intro⟩) | (refine ⟨congrArg Bool.not h, True.intro⟩) | (refine ⟨by assumption, True.intro⟩)) | (intro h; exact (Bool.false_ne_true (h.symm.trans (by assumption))).elim) | (intro h; exact (Bool.false_ne_true (Eq.trans (Eq.symm (by assumption)) h)).elim) | (intros; simp_all; done) | (intros; exfalso; simp_all; done) | (refine gand ?_ h; assumption) | (simp only [se_map, se_byL]; exact rfl) | (simp only [se_map, se_byL, se_len, se_ch, List.length_map]; done) | fail

def law17_FloodTells (a0 : LanT) (a1 : (List (List Bool))) (a2 : Int) (a3 : Int) : Option Bool :=
  (law17_few a0).bind fun y1 =>
  (law17_rows a1).bind fun y3 =>
  (flood_Reach y1 y3 a2).bind fun y5 =>
  (flood_Steps y1 y3 a2).bind fun y7 =>
  (flood_Copies y1 y3 a2).bind fun y9 =>
  (flood_Path y1 y3 a2 a3).bind fun y11 =>
  (ref17_May y1 y3).bind fun y13 =>
  (bif (!y13) then
    (law17_alive ).bind fun y15 =>
    some (bif (bif (bif (bif (bif (bif (bif (bif y15 then (decide (y5.2 = 1)) else false) then (decide (y7.2 = 1)) else false) then (decide (y9.2 = 1)) else false) then (decide (y11.2 = 1)) else false) then (decide (((y5.1.length : Nat) : Int) = 0)) else false) then (decide (((y7.1.length : Nat) : Int) = 0)) else false) then (decide (y9.1 = 0)) else false) then (decide (((y11.1.length : Nat) : Int) = 0)) else false)
  else
    (law17_in a2 y1.Segs).bind fun y17 =>
    (bif (!y17) then
      (law17_alive ).bind fun y19 =>
      some (bif (bif (bif (bif (bif (bif (bif (bif y19 then (decide (y5.2 = 3)) else false) then (decide (y7.2 = 3)) else false) then (decide (y9.2 = 3)) else false) then (decide (y11.2 = 3)) else false) then (decide (((y5.1.length : Nat) : Int) = 0)) else false) then (decide (((y7.1.length : Nat) : Int) = 0)) else false) then (decide (y9.1 = 0)) else false) then (decide (((y11.1.length : Nat) : Int) = 0)) else false)
    else
      (ref17_Steps y1 y3 a2).bind fun y21 =>
      (gd (!(bif (bif (!decide (y5.2 = 0)) then true else (!decide (y7.2 = 0))) then true else (!decide (y9.2 = 0)))) (ref17_Reach y1 y3 a2)).bind fun y23 =>
      (gd (!(bif (bif (!decide (y5.2 = 0)) then true else (!decide (y7.2 = 0))) then true else (!decide (y9.2 = 0)))) (ref06_Same y5.1 y23)).bind fun y25 =>
      (gd (!(bif (bif (bif (!decide (y5.2 = 0)) then true else (!decide (y7.2 = 0))) then true else (!decide (y9.2 = 0))) then true else (!y25))) (ref06_Same y7.1 y21)).bind fun y27 =>
      (gd (!(bif (bif (bif (bif (!decide (y5.2 = 0)) then true else (!decide (y7.2 = 0))) then true else (!decide (y9.2 = 0))) then true else (!y25)) then true else (!y27))) (ref17_Copies y1 y3 a2)).bind fun y29 =>
      (gd (!(bif (bif (bif (bif (bif (!decide (y5.2 = 0)) then true else (!decide (y7.2 = 0))) then true else (!decide (y9.2 = 0))) then true else (!y25)) then true else (!y27)) then true else (!decide (y9.1 = y29)))) (law17_alive )).bind fun y31 =>
      (bif (bif (bif (bif (bif (bif (bif (!decide (y5.2 = 0)) then true else (!decide (y7.2 = 0))) then true else (!decide (y9.2 = 0))) then true else (!y25)) then true else (!y27)) then true else (!decide (y9.1 = y29))) then true else (!y31)) then
        some false
      else
        (law17_in a3 y1.Segs).bind fun y33 =>
        (bif (!y33) then
          some (bif (decide (y11.2 = 3)) then (decide (((y11.1.length : Nat) : Int) = 0)) else false)
        else
          (gix y21 a3).bind fun v35 =>
          (bif (decide (v35 < 0)) then
            some (bif (decide (y11.2 = 4)) then (decide (((y11.1.length : Nat) : Int) = 0)) else false)
          else
            (gd (decide (y11.2 = 0)) (ref17_Path y1 y3 a2 a3)).bind fun y37 =>
            (gd (decide (y11.2 = 0)) (ref06_Same y11.1 y37)).bind fun y39 =>
            some (bif (decide (y11.2 = 0)) then y39 else false))))))

theorem c_law17_FloodTells (a0 : LanT) (a1 : (List (List Bool))) (a2 : Int) (a3 : Int) (r : Bool) (h : law17_FloodTells a0 a1 a2 a3 = some r) : CallP Try.prog 18 [(LV.agg [(I a0.Segs), (LV.ro 2 (a0.Plans.map PlanT.cells)), (LV.ro 2 (a0.Hosts.map HostT.cells))]), (LV.ro 1 (a1.map (roC 1 bC))), (I a2), (I a3)] (LV.bool r) := by
  unfold law17_FloodTells at h
  refine .intro (by repeat' first | exact True.intro | assumption | refine ⟨?_, ?_⟩) (.intro TT_ok Try.func18 rfl rfl [0, 1, 2, 3, 4, 8, 9, 10, 11, 12, 13, 14, 15, 16, 17, 18, 52, 57, 64, 145, 146, 159] rfl ?_)
  conv => whnf
  replace h := bindS h
  obtain ⟨y1, hy1, h⟩ := h
  have c2 := c_law17_few a0 _ hy1
  replace h := bindS h
  obtain ⟨y3, hy3, h⟩ := h
  have c4 := cf_law17_rows a1 _ hy3
  replace h := bindS h
  obtain ⟨y5, hy5, h⟩ := h
  have c6 := c_flood_Reach y1 y3 a2 _ hy5
  replace h := bindS h
  obtain ⟨y7, hy7, h⟩ := h
  have c8 := c_flood_Steps y1 y3 a2 _ hy7
  replace h := bindS h
  obtain ⟨y9, hy9, h⟩ := h
  have c10 := c_flood_Copies y1 y3 a2 _ hy9
  replace h := bindS h
  obtain ⟨y11, hy11, h⟩ := h
  have c12 := c_flood_Path y1 y3 a2 a3 _ hy11
  replace h := bindS h
  obtain ⟨y13, hy13, h⟩ := h
  have c14 := c_ref17_May y1 y3 _ hy13
  repeat' first | with_reducible rfl | with_reducible exact True.intro | with_reducible assumption | refine parkI ?_ | (refine CallW.done (CallF.at c4 (by repeat' first | exact True.intro | assumption | refine ⟨?_, ?_⟩) (NLss_map' _)) ?_; conv => whnf) | (refine ⟨_, _, CallF.at c4 (by repeat' first | exact True.intro | assumption | refine ⟨?_, ?_⟩) (NLss_map' _), ?_⟩; conv => whnf) | exact (rfl : (_ : Nat) = _) | exact NLss_map' _ | refine NLss_app ?_ ?_ | refine NLss_rep ?_ | refine NLss_set ?_ ?_ | refine NLss_take ?_ | refine NLss_drop ?_ | (refine And.intro ?_ ?_ <;> conv => whnf) | (simp only [se_map, se_byL]; exact rfl) | (simp only [se_map, se_byL, se_len, se_ch, List.length_map]; done) | fail
  first | (refine CallP.use c2 ?_; conv => whnf) | (refine ⟨_, _, CallP.at c2, ?_⟩; conv => whnf) | (refine ⟨_, fun _ => c2, ?_⟩; conv => whnf)
  as_aux_lemma =>
    repeat' first | with_reducible rfl | with_reducible exact True.intro | with_reducible assumption | refine parkI ?_ | (refine CallW.done (CallF.at c4 (by repeat' first | exact True.intro | assumption | refine ⟨?_, ?_⟩) (NLss_map' _)) ?_; conv => whnf) | (refine ⟨_, _, CallF.at c4 (by repeat' first | exact True.intro | assumption | refine ⟨?_, ?_⟩) (NLss_map' _), ?_⟩; conv => whnf) | exact (rfl : (_ : Nat) = _) | exact NLss_map' _ | refine NLss_app ?_ ?_ | refine NLss_rep ?_ | refine NLss_set ?_ ?_ | refine NLss_take ?_ | refine NLss_drop ?_ | (refine And.intro ?_ ?_ <;> conv => whnf) | (simp only [se_map, se_byL]; exact rfl) | (simp only [se_map, se_byL, se_len, se_ch, List.length_map]; done) | fail
    first | (refine CallP.use c6 ?_; conv => whnf) | (refine ⟨_, _, CallP.at c6, ?_⟩; conv => whnf) | (refine ⟨_, fun _ => c6, ?_⟩; conv => whnf)
    as_aux_lemma =>
      repeat' first | with_reducible rfl | with_reducible exact True.intro | with_reducible assumption | refine parkI ?_ | (refine CallW.done (CallF.at c4 (by repeat' first | exact True.intro | assumption | refine ⟨?_, ?_⟩) (NLss_map' _)) ?_; conv => whnf) | (refine ⟨_, _, CallF.at c4 (by repeat' first | exact True.intro | assumption | refine ⟨?_, ?_⟩) (NLss_map' _), ?_⟩; conv => whnf) | exact (rfl : (_ : Nat) = _) | exact NLss_map' _ | refine NLss_app ?_ ?_ | refine NLss_rep ?_ | refine NLss_set ?_ ?_ | refine NLss_take ?_ | refine NLss_drop ?_ | (refine And.intro ?_ ?_ <;> conv => whnf) | (simp only [se_map, se_byL]; exact rfl) | (simp only [se_map, se_byL, se_len, se_ch, List.length_map]; done) | fail
      first | (refine CallP.use c8 ?_; conv => whnf) | (refine ⟨_, _, CallP.at c8, ?_⟩; conv => whnf) | (refine ⟨_, fun _ => c8, ?_⟩; conv => whnf)
      as_aux_lemma =>
        repeat' first | with_reducible rfl | with_reducible exact True.intro | with_reducible assumption | refine parkI ?_ | (refine CallW.done (CallF.at c4 (by repeat' first | exact True.intro | assumption | refine ⟨?_, ?_⟩) (NLss_map' _)) ?_; conv => whnf) | (refine ⟨_, _, CallF.at c4 (by repeat' first | exact True.intro | assumption | refine ⟨?_, ?_⟩) (NLss_map' _), ?_⟩; conv => whnf) | exact (rfl : (_ : Nat) = _) | exact NLss_map' _ | refine NLss_app ?_ ?_ | refine NLss_rep ?_ | refine NLss_set ?_ ?_ | refine NLss_take ?_ | refine NLss_drop ?_ | (refine And.intro ?_ ?_ <;> conv => whnf) | (simp only [se_map, se_byL]; exact rfl) | (simp only [se_map, se_byL, se_len, se_ch, List.length_map]; done) | fail
        first | (refine CallP.use c10 ?_; conv => whnf) | (refine ⟨_, _, CallP.at c10, ?_⟩; conv => whnf) | (refine ⟨_, fun _ => c10, ?_⟩; conv => whnf)
        as_aux_lemma =>
          repeat' first | with_reducible rfl | with_reducible exact True.intro | with_reducible assumption | refine parkI ?_ | (refine CallW.done (CallF.at c4 (by repeat' first | exact True.intro | assumption | refine ⟨?_, ?_⟩) (NLss_map' _)) ?_; conv => whnf) | (refine ⟨_, _, CallF.at c4 (by repeat' first | exact True.intro | assumption | refine ⟨?_, ?_⟩) (NLss_map' _), ?_⟩; conv => whnf) | exact (rfl : (_ : Nat) = _) | exact NLss_map' _ | refine NLss_app ?_ ?_ | refine NLss_rep ?_ | refine NLss_set ?_ ?_ | refine NLss_take ?_ | refine NLss_drop ?_ | (refine And.intro ?_ ?_ <;> conv => whnf) | (simp only [se_map, se_byL]; exact rfl) | (simp only [se_map, se_byL, se_len, se_ch, List.length_map]; done) | fail
          first | (refine CallP.use c12 ?_; conv => whnf) | (refine ⟨_, _, CallP.at c12, ?_⟩; conv => whnf) | (refine ⟨_, fun _ => c12, ?_⟩; conv => whnf)
          as_aux_lemma =>
            repeat' first | with_reducible rfl | with_reducible exact True.intro | with_reducible assumption | refine parkI ?_ | (refine CallW.done (CallF.at c4 (by repeat' first | exact True.intro | assumption | refine ⟨?_, ?_⟩) (NLss_map' _)) ?_; conv => whnf) | (refine ⟨_, _, CallF.at c4 (by repeat' first | exact True.intro | assumption | refine ⟨?_, ?_⟩) (NLss_map' _), ?_⟩; conv => whnf) | exact (rfl : (_ : Nat) = _) | exact NLss_map' _ | refine NLss_app ?_ ?_ | refine NLss_rep ?_ | refine NLss_set ?_ ?_ | refine NLss_take ?_ | refine NLss_drop ?_ | (refine And.intro ?_ ?_ <;> conv => whnf) | (simp only [se_map, se_byL]; exact rfl) | (simp only [se_map, se_byL, se_len, se_ch, List.length_map]; done) | fail
            first | (refine CallP.use c14 ?_; conv => whnf) | (refine ⟨_, _, CallP.at c14, ?_⟩; conv => whnf) | (refine ⟨_, fun _ => c14, ?_⟩; conv => whnf)
            as_aux_lemma =>
              repeat' first | with_reducible rfl | with_reducible exact True.intro | with_reducible assumption | refine parkI ?_ | (refine CallP.use c2 ?_; conv => whnf) | (refine CallP.use c6 ?_; conv => whnf) | (refine CallP.use c8 ?_; conv => whnf) | (refine CallP.use c10 ?_; conv => whnf) | (refine CallP.use c12 ?_; conv => whnf) | (refine CallP.use c14 ?_; conv => whnf) | (refine CallW.done (CallF.at c4 (by repeat' first | exact True.intro | assumption | refine ⟨?_, ?_⟩) (NLss_map' _)) ?_; conv => whnf) | (refine ⟨_, _, CallF.at c4 (by repeat' first | exact True.intro | assumption | refine ⟨?_, ?_⟩) (NLss_map' _), ?_⟩; conv => whnf) | exact (rfl : (_ : Nat) = _) | exact NLss_map' _ | refine NLss_app ?_ ?_ | refine NLss_rep ?_ | refine NLss_set ?_ ?_ | refine NLss_take ?_ | refine NLss_drop ?_ | (refine And.intro ?_ ?_ <;> conv => whnf) | (simp only [se_map, se_byL]; exact rfl) | (simp only [se_map, se_byL, se_len, se_ch, List.length_map]; done) | fail
              refine parkE (fun hc => ?_) (fun hc => ?_)
              · as_aux_lemma =>
                  replace h := condT hc h
                  conv => whnf
                  repeat' first | with_reducible rfl | with_reducible exact True.intro | with_reducible assumption | refine parkI ?_ | (refine And.intro ?_ ?_ <;> conv => whnf) | fail
                  refine parkE (fun hc => ?_) (fun hc => ?_)
                  · as_aux_lemma =>
                      conv => whnf
                      replace h := bindS h
                      obtain ⟨y15, hy15, h⟩ := h
                      have c16 := c_law17_alive  _ hy15
                      have e := Option.some.inj h
                      subst e
                      repeat' first | with_reducible rfl | with_reducible exact True.intro | with_reducible assumption | (refine CallP.use c16 ?_; conv => whnf) | exact (congrArg Bool.not h) | exact fun _ => True.intro | exact (rfl : (_ : Nat) = _) | exact (rfl : (_ : LV) = _) | exact NLss_map' _ | refine NLss_app ?_ ?_ | refine NLss_rep ?_ | refine NLss_set ?_ ?_ | refine NLss_take ?_ | refine NLss_drop ?_ | (refine And.intro ?_ ?_ <;> conv => whnf) | (intro h; (conv => whnf) <;> first | with_reducible rfl | assumption | exact h | exact (congrArg Bool.not h) | (refine ⟨h, True.intro⟩) | (refine ⟨congrArg Bool.not h, True.intro⟩) | (refine ⟨by assumption, True.intro⟩)) | (intro h; exact (Bool.false_ne_true (h.symm.trans (by assumption))).elim) | (intro h; exact (Bool.false_ne_true (Eq.trans (Eq.symm (by assumption)) h)).elim) | (intros; simp_all; done) | (intros; exfalso; simp_all; done) | (refine gand ?_ h; assumption) | (simp only [se_map, se_byL]; exact rfl) | (simp only [se_map, se_byL, se_len, se_ch, List.length_map]; done) | fail
                  · exact (Bool.false_ne_true (hc.symm.trans (rfl : (!decide (1 = 0)) = true))).elim
              · as_aux_lemma =>
                  replace h := condF hc h
                  conv => whnf
                  replace h := bindS h
                  obtain ⟨y17, hy17, h⟩ := h
                  have c18 := c_law17_in a2 y1.Segs _ hy17
                  repeat' first | with_reducible rfl | with_reducible exact True.intro | with_reducible assumption | refine parkI ?_ | (refine CallP.use c18 ?_; conv => whnf) | (refine And.intro ?_ ?_ <;> conv => whnf) | fail
                  refine parkE (fun hc => ?_) (fun hc => ?_)
                  · as_aux_lemma =>
                      replace h := condT hc h
                      conv => whnf
                      repeat' first | with_reducible rfl | with_reducible exact True.intro | with_reducible assumption | refine parkI ?_ | (refine And.intro ?_ ?_ <;> conv => whnf) | fail
                      refine parkE (fun hc => ?_) (fun hc => ?_)
                      · as_aux_lemma =>
                          conv => whnf
                          replace h := bindS h
                          obtain ⟨y19, hy19, h⟩ := h
                          have c20 := c_law17_alive  _ hy19
                          have e := Option.some.inj h
                          subst e
                          repeat' first | with_reducible rfl | with_reducible exact True.intro | with_reducible assumption | (refine CallP.use c20 ?_; conv => whnf) | exact (congrArg Bool.not h) | exact fun _ => True.intro | exact (rfl : (_ : Nat) = _) | exact (rfl : (_ : LV) = _) | exact NLss_map' _ | refine NLss_app ?_ ?_ | refine NLss_rep ?_ | refine NLss_set ?_ ?_ | refine NLss_take ?_ | refine NLss_drop ?_ | (refine And.intro ?_ ?_ <;> conv => whnf) | (intro h; (conv => whnf) <;> first | with_reducible rfl | assumption | exact h | exact (congrArg Bool.not h) | (refine ⟨h, True.intro⟩) | (refine ⟨congrArg Bool.not h, True.intro⟩) | (refine ⟨by assumption, True.intro⟩)) | (intro h; exact (Bool.false_ne_true (h.symm.trans (by assumption))).elim) | (intro h; exact (Bool.false_ne_true (Eq.trans (Eq.symm (by assumption)) h)).elim) | (intros; simp_all; done) | (intros; exfalso; simp_all; done) | (refine gand ?_ h; assumption) | (simp only [se_map, se_byL]; exact rfl) | (simp only [se_map, se_byL, se_len, se_ch, List.length_map]; done) | fail
                      · exact (Bool.false_ne_true (hc.symm.trans (rfl : (!decide (3 = 0)) = true))).elim
                  · as_aux_lemma =>
                      replace h := condF hc h
                      conv => whnf
                      repeat' first | with_reducible rfl | with_reducible exact True.intro | with_reducible assumption | refine parkI ?_ | (refine And.intro ?_ ?_ <;> conv => whnf) | fail
                      refine parkE (fun hc => ?_) (fun hc => ?_)
                      · exact (Bool.false_ne_true (((rfl : (!decide (0 = 0)) = false)).symm.trans hc)).elim
                      · as_aux_lemma =>
                          conv => whnf
                          replace h := bindS h
                          obtain ⟨y21, hy21, h⟩ := h
                          have c22 := c_ref17_Steps y1 y3 a2 _ hy21
                          replace h := bindS h
                          obtain ⟨y23, hy23, h⟩ := h
                          have c24 := fun (hg : (!(bif (bif (!decide (y5.2 = 0)) then true else (!decide (y7.2 = 0))) then true else (!decide (y9.2 = 0)))) = true) => c_ref17_Reach y1 y3 a2 _ (gdS hg hy23)
                          replace h := bindS h
                          obtain ⟨y25, hy25, h⟩ := h
                          have c26 := fun (hg : (!(bif (bif (!decide (y5.2 = 0)) then true else (!decide (y7.2 = 0))) then true else (!decide (y9.2 = 0)))) = true) => c_ref06_Same y5.1 y23 _ (gdS hg hy25)
                          replace h := bindS h
                          obtain ⟨y27, hy27, h⟩ := h
                          have c28 := fun (hg : (!(bif (bif (bif (!decide (y5.2 = 0)) then true else (!decide (y7.2 = 0))) then true else (!decide (y9.2 = 0))) then true else (!y25))) = true) => c_ref06_Same y7.1 y21 _ (gdS hg hy27)
                          replace h := bindS h
                          obtain ⟨y29, hy29, h⟩ := h
                          have c30 := fun (hg : (!(bif (bif (bif (bif (!decide (y5.2 = 0)) then true else (!decide (y7.2 = 0))) then true else (!decide (y9.2 = 0))) then true else (!y25)) then true else (!y27))) = true) => c_ref17_Copies y1 y3 a2 _ (gdS hg hy29)
                          replace h := bindS h
                          obtain ⟨y31, hy31, h⟩ := h
                          have c32 := fun (hg : (!(bif (bif (bif (bif (bif (!decide (y5.2 = 0)) then true else (!decide (y7.2 = 0))) then true else (!decide (y9.2 = 0))) then true else (!y25)) then true else (!y27)) then true else (!decide (y9.1 = y29)))) = true) => c_law17_alive  _ (gdS hg hy31)
                          repeat' first | with_reducible rfl | with_reducible exact True.intro | with_reducible assumption | refine parkI ?_ | (refine ⟨_, c24, ?_⟩; conv => whnf) | (refine ⟨_, c26, ?_⟩; conv => whnf) | (refine ⟨_, c28, ?_⟩; conv => whnf) | (refine ⟨_, c30, ?_⟩; conv => whnf) | (refine ⟨_, c32, ?_⟩; conv => whnf) | (refine CallP.use c22 ?_; conv => whnf) | exact (congrArg Bool.not h) | exact fun _ => True.intro | (refine And.intro ?_ ?_ <;> conv => whnf) | (intro h; (conv => whnf) <;> first | with_reducible rfl | assumption | exact h | exact (congrArg Bool.not h) | (refine ⟨h, True.intro⟩) | (refine ⟨congrArg Bool.not h, True.intro⟩) | (refine ⟨by assumption, True.intro⟩)) | (intro h; exact (Bool.false_ne_true (h.symm.trans (by assumption))).elim) | (intro h; exact (Bool.false_ne_true (Eq.trans (Eq.symm (by assumption)) h)).elim) | (intros; simp_all; done) | (intros; exfalso; simp_all; done) | (refine gand ?_ h; assumption) | fail
                          refine parkE (fun hc => ?_) (fun hc => ?_)
                          · as_aux_lemma =>
                              replace h := condT hc h
                              conv => whnf
                              have e := Option.some.inj h
                              subst e
                              repeat' first | with_reducible rfl | with_reducible exact True.intro | with_reducible assumption | exact (congrArg Bool.not h) | exact fun _ => True.intro | exact (rfl : (_ : Nat) = _) | exact (rfl : (_ : LV) = _) | exact NLss_map' _ | refine NLss_app ?_ ?_ | refine NLss_rep ?_ | refine NLss_set ?_ ?_ | refine NLss_take ?_ | refine NLss_drop ?_ | (refine And.intro ?_ ?_ <;> conv => whnf) | (intro h; (conv => whnf) <;> first | with_reducible rfl | assumption | exact h | exact (congrArg Bool.not h) | (refine ⟨h, True.intro⟩) | (refine ⟨congrArg Bool.not h, True.intro⟩) | (refine ⟨by assumption, True.intro⟩)) | (intro h; exact (Bool.false_ne_true (h.symm.trans (by assumption))).elim) | (intro h; exact (Bool.false_ne_true (Eq.trans (Eq.symm (by assumption)) h)).elim) | (intros; simp_all; done) | (intros; exfalso; simp_all; done) | (refine gand ?_ h; assumption) | (simp only [se_map, se_byL]; exact rfl) | (simp only [se_map, se_byL, se_len, se_ch, List.length_map]; done) | fail
                          · as_aux_lemma =>
                              replace h := condF hc h
                              conv => whnf
                              replace h := bindS h
                              obtain ⟨y33, hy33, h⟩ := h
                              have c34 := c_law17_in a3 y1.Segs _ hy33
                              repeat' first | with_reducible rfl | with_reducible exact True.intro | with_reducible assumption | refine parkI ?_ | (refine CallP.use c34 ?_; conv => whnf) | (refine And.intro ?_ ?_ <;> conv => whnf) | fail
                              refine parkE (fun hc => ?_) (fun hc => ?_)
                              · as_aux_lemma =>
                                  replace h := condT hc h
                                  conv => whnf
                                  have e := Option.some.inj h
                                  subst e
                                  repeat' first | with_reducible rfl | with_reducible exact True.intro | with_reducible assumption | exact (congrArg Bool.not h) | exact fun _ => True.intro | exact (rfl : (_ : Nat) = _) | exact (rfl : (_ : LV) = _) | exact NLss_map' _ | refine NLss_app ?_ ?_ | refine NLss_rep ?_ | refine NLss_set ?_ ?_ | refine NLss_take ?_ | refine NLss_drop ?_ | (refine And.intro ?_ ?_ <;> conv => whnf) | (intro h; (conv => whnf) <;> first | with_reducible rfl | assumption | exact h | exact (congrArg Bool.not h) | (refine ⟨h, True.intro⟩) | (refine ⟨congrArg Bool.not h, True.intro⟩) | (refine ⟨by assumption, True.intro⟩)) | (intro h; exact (Bool.false_ne_true (h.symm.trans (by assumption))).elim) | (intro h; exact (Bool.false_ne_true (Eq.trans (Eq.symm (by assumption)) h)).elim) | (intros; simp_all; done) | (intros; exfalso; simp_all; done) | (refine gand ?_ h; assumption) | (simp only [se_map, se_byL]; exact rfl) | (simp only [se_map, se_byL, se_len, se_ch, List.length_map]; done) | fail
                              · as_aux_lemma =>
                                  replace h := condF hc h
                                  conv => whnf
                                  replace h := bindS h
                                  obtain ⟨v35, hv35, h⟩ := h
                                  have i36 := gixF (f := iC) hv35
                                  repeat' first | with_reducible rfl | with_reducible exact True.intro | with_reducible assumption | refine parkI ?_ | (refine ⟨_, i36, ?_⟩; conv => whnf) | (refine And.intro ?_ ?_ <;> conv => whnf) | fail
                                  refine parkE (fun hc => ?_) (fun hc => ?_)
                                  · as_aux_lemma =>
                                      replace h := condT hc h
                                      conv => whnf
                                      have e := Option.some.inj h
                                      subst e
                                      repeat' first | with_reducible rfl | with_reducible exact True.intro | with_reducible assumption | exact (congrArg Bool.not h) | exact fun _ => True.intro | exact (rfl : (_ : Nat) = _) | exact (rfl : (_ : LV) = _) | exact NLss_map' _ | refine NLss_app ?_ ?_ | refine NLss_rep ?_ | refine NLss_set ?_ ?_ | refine NLss_take ?_ | refine NLss_drop ?_ | (refine And.intro ?_ ?_ <;> conv => whnf) | (intro h; (conv => whnf) <;> first | with_reducible rfl | assumption | exact h | exact (congrArg Bool.not h) | (refine ⟨h, True.intro⟩) | (refine ⟨congrArg Bool.not h, True.intro⟩) | (refine ⟨by assumption, True.intro⟩)) | (intro h; exact (Bool.false_ne_true (h.symm.trans (by assumption))).elim) | (intro h; exact (Bool.false_ne_true (Eq.trans (Eq.symm (by assumption)) h)).elim) | (intros; simp_all; done) | (intros; exfalso; simp_all; done) | (refine gand ?_ h; assumption) | (simp only [se_map, se_byL]; exact rfl) | (simp only [se_map, se_byL, se_len, se_ch, List.length_map]; done) | fail
                                  · as_aux_lemma =>
                                      replace h := condF hc h
                                      conv => whnf
                                      replace h := bindS h
                                      obtain ⟨y37, hy37, h⟩ := h
                                      have c38 := fun (hg : (decide (y11.2 = 0)) = true) => c_ref17_Path y1 y3 a2 a3 _ (gdS hg hy37)
                                      replace h := bindS h
                                      obtain ⟨y39, hy39, h⟩ := h
                                      have c40 := fun (hg : (decide (y11.2 = 0)) = true) => c_ref06_Same y11.1 y37 _ (gdS hg hy39)
                                      have e := Option.some.inj h
                                      subst e
                                      repeat' first | with_reducible rfl | with_reducible exact True.intro | with_reducible assumption | (refine ⟨_, c38, ?_⟩; conv => whnf) | (refine ⟨_, c40, ?_⟩; conv => whnf) | exact (congrArg Bool.not h) | exact fun _ => True.intro | exact (rfl : (_ : Nat) = _) | exact (rfl : (_ : LV) = _) | exact NLss_map' _ | refine NLss_app ?_ ?_ | refine NLss_rep ?_ | refine NLss_set ?_ ?_ | refine NLss_take ?_ | refine NLss_drop ?_ | (refine And.intro ?_ ?_ <;> conv => whnf) | (intro h; (conv => whnf) <;> first | with_reducible rfl | assumption | exact h | exact (congrArg Bool.not h) | (refine ⟨h, True.intro⟩) | (refine ⟨congrArg Bool.not h, True.intro⟩) | (refine ⟨by assumption, True.intro⟩)) | (intro h; exact (Bool.false_ne_true (h.symm.trans (by assumption))).elim) | (intro h; exact (Bool.false_ne_true (Eq.trans (Eq.symm (by assumption)) h)).elim) | (intros; simp_all; done) | (intros; exfalso; simp_all; done) | (refine gand ?_ h; assumption) | (simp only [se_map, se_byL]; exact rfl) | (simp only [se_map, se_byL, se_len, se_ch, List.length_map]; done) | fail

end Go.RX
