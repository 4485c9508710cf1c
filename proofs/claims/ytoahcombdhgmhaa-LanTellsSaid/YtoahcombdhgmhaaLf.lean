/- Plain functions, and what says that the program's functions compute them. -/
import Derived.Test.YtoahcombdhgmhaaLc
import Derived.Test.YtoahcombdhgmhaaLe
set_option linter.unusedVariables false
set_option linter.unusedSimpArgs false
open Go Go.RX Go.Proofs
namespace Go.RX
set_option maxRecDepth 10000
set_option maxHeartbeats 4000000
attribute [local irreducible] CallW CallP LoopW W IntKind.wrap bitI
def law15_LanTells (a0 : LanT) (a1 : Int) : Option Bool :=
  (law15_few a0).bind fun y1 =>
  (lan_On y1 a1).bind fun y3 =>
  (lan_Part y1 a1).bind fun y5 =>
  (lan_Parts y1).bind fun y7 =>
  (lan_Loops y1).bind fun y9 =>
  (lan_Right y1).bind fun y11 =>
  (ref15_Right y1).bind fun y13 =>
  (gd (!(!(y11 == y13))) (law15_alive )).bind fun y15 =>
  (bif (bif (!(y11 == y13)) then true else (!y15)) then
    some false
  else
    (bif (!y13) then
      some (bif (bif (bif (bif (bif (bif (bif (bif (decide (y3.2.2 = 1)) then (decide (y5.2 = 1)) else false) then (decide (y7.2 = 1)) else false) then (decide (y9.2 = 1)) else false) then (decide (((y3.1.length : Nat) : Int) = 0)) else false) then (decide (((y3.2.1.length : Nat) : Int) = 0)) else false) then (decide (((y5.1.length : Nat) : Int) = 0)) else false) then (decide (y7.1 = 0)) else false) then (decide (y9.1 = 0)) else false)
    else
      (gd (!(bif (!decide (y7.2 = 0)) then true else (!decide (y9.2 = 0)))) (ref15_Parts y1)).bind fun y17 =>
      (gd (!(bif (bif (!decide (y7.2 = 0)) then true else (!decide (y9.2 = 0))) then true else (!decide (y7.1 = y17)))) (ref15_Loops y1)).bind fun y19 =>
      (bif (bif (bif (bif (!decide (y7.2 = 0)) then true else (!decide (y9.2 = 0))) then true else (!decide (y7.1 = y17))) then true else (!decide (y9.1 = y19))) then
        some false
      else
        (bif (bif (decide (a1 < 0)) then true else (decide (y1.Segs ≤ a1))) then
          some (bif (bif (bif (bif (decide (y3.2.2 = 3)) then (decide (y5.2 = 3)) else false) then (decide (((y3.1.length : Nat) : Int) = 0)) else false) then (decide (((y3.2.1.length : Nat) : Int) = 0)) else false) then (decide (((y5.1.length : Nat) : Int) = 0)) else false)
        else
          (gd (bif (decide (y3.2.2 = 0)) then (decide (y5.2 = 0)) else false) (ref15_Hosts y1 a1)).bind fun y21 =>
          (gd (bif (decide (y3.2.2 = 0)) then (decide (y5.2 = 0)) else false) (ref15_Stations y3.1 y21)).bind fun y23 =>
          (gd (bif (bif (decide (y3.2.2 = 0)) then (decide (y5.2 = 0)) else false) then y23 else false) (ref15_Ports y1 a1)).bind fun y25 =>
          (gd (bif (bif (decide (y3.2.2 = 0)) then (decide (y5.2 = 0)) else false) then y23 else false) (ref15_Pairs y3.2.1 y25)).bind fun y27 =>
          (gd (bif (bif (bif (decide (y3.2.2 = 0)) then (decide (y5.2 = 0)) else false) then y23 else false) then y27 else false) (ref15_Part y1 a1)).bind fun y29 =>
          (gd (bif (bif (bif (decide (y3.2.2 = 0)) then (decide (y5.2 = 0)) else false) then y23 else false) then y27 else false) (ref06_Same y5.1 y29)).bind fun y31 =>
          some (bif (bif (bif (bif (decide (y3.2.2 = 0)) then (decide (y5.2 = 0)) else false) then y23 else false) then y27 else false) then y31 else false)))))

theorem c_law15_LanTells (a0 : LanT) (a1 : Int) (r : Bool) (h : law15_LanTells a0 a1 = some r) : CallP Try.prog 16 [(LV.agg [(I a0.Segs), (LV.ro 2 (a0.Plans.map PlanT.cells)), (LV.ro 2 (a0.Hosts.map HostT.cells))]), (I a1)] (LV.bool r) := by
  unfold law15_LanTells at h
  refine .intro (by repeat' first | exact True.intro | assumption | refine ⟨?_, ?_⟩) (.intro TT_ok Try.func16 rfl rfl [0, 1, 2, 4, 5, 6, 7, 8, 9, 10, 11, 12, 13, 47, 50, 105, 113] rfl ?_)
  conv => whnf
  replace h := bindS h
  obtain ⟨y1, hy1, h⟩ := h
  have c2 := c_law15_few a0 _ hy1
  replace h := bindS h
  obtain ⟨y3, hy3, h⟩ := h
  have c4 := c_lan_On y1 a1 _ hy3
  replace h := bindS h
  obtain ⟨y5, hy5, h⟩ := h
  have c6 := c_lan_Part y1 a1 _ hy5
  replace h := bindS h
  obtain ⟨y7, hy7, h⟩ := h
  have c8 := c_lan_Parts y1 _ hy7
  replace h := bindS h
  obtain ⟨y9, hy9, h⟩ := h
  have c10 := c_lan_Loops y1 _ hy9
  replace h := bindS h
  obtain ⟨y11, hy11, h⟩ := h
  have c12 := c_lan_Right y1 _ hy11
  replace h := bindS h
  obtain ⟨y13, hy13, h⟩ := h
  have c14 := c_ref15_Right y1 _ hy13
  replace h := bindS h
  obtain ⟨y15, hy15, h⟩ := h
  have c16 := fun (hg : (!(!(y11 == y13))) = true) => c_law15_alive  _ (gdS hg hy15)
  repeat' first | with_reducible rfl | with_reducible exact True.intro | with_reducible assumption | refine parkI ?_ | (refine ⟨_, c16, ?_⟩; conv => whnf) | (refine CallP.use c2 ?_; conv => whnf) | (refine ⟨_, _, CallP.at c2, ?_⟩; conv => whnf) | (refine ⟨_, fun _ => c2, ?_⟩; conv => whnf) | (refine CallP.use c4 ?_; conv => whnf) | (refine ⟨_, _, CallP.at c4, ?_⟩; conv => whnf) | (refine ⟨_, fun _ => c4, ?_⟩; conv => whnf) | (refine CallP.use c6 ?_; conv => whnf) | (refine ⟨_, _, CallP.at c6, ?_⟩; conv => whnf) | (refine ⟨_, fun _ => c6, ?_⟩; conv => whnf) | (refine CallP.use c8 ?_; conv => whnf) | (refine ⟨_, _, CallP.at c8, ?_⟩; conv => whnf) | (refine ⟨_, fun _ => c8, ?_⟩; conv => whnf) | (refine CallP.use c10 ?_; conv => whnf) | (refine ⟨_, _, CallP.at c10, ?_⟩; conv => whnf) | (refine ⟨_, fun _ => c10, ?_⟩; conv => whnf) | (refine CallP.use c12 ?_; conv => whnf) | (refine ⟨_, _, CallP.at c12, ?_⟩; conv => whnf) | (refine ⟨_, fun _ => c12, ?_⟩; conv => whnf) | (refine CallP.use c14 ?_; conv => whnf) | (refine ⟨_, _, CallP.at c14, ?_⟩; conv => whnf) | (refine ⟨_, fun _ => c14, ?_⟩; conv => whnf) | (refine W.drawn TT_ok hmix1 rfl ?_; conv => whnf) | exact (congrArg Bool.not h) | exact fun _ => True.intro | exact (rfl : (_ : Nat) = _) | exact (rfl : (_ : LV) = _) | exact NLss_map' _ | refine NLss_app ?_ ?_ | refine NLss_rep ?_ | refine NLss_set ?_ ?_ | refine NLss_take ?_ | refine NLss_drop ?_ | (refine And.intro ?_ ?_ <;> conv => whnf) | (intro h; (conv => whnf) <;> first | with_reducible rfl | assumption | exact h | exact (congrArg Bool.not h) | (refine ⟨h, True.intro⟩) | (refine ⟨congrArg Bool.not h, True.intro⟩) | (refine ⟨by assumption, True.intro⟩)) | (intro h; exact (Bool.false_ne_true (h.symm.trans (by assumption))).elim) | (intro h; exact (Bool.false_ne_true (Eq.trans (Eq.symm (by assumption)) h)).elim) | (intros; simp_all; done) | (intros; exfalso; simp_all; done) | (refine gand ?_ h; assumption) | (simp only [se_map, se_byL]; exact rfl) | (simp only [se_map, se_byL, se_len, se_ch, List.length_map]; done) | fail
  refine parkE (fun hc => ?_) (fun hc => ?_)
  · replace h := condT hc h
    conv => whnf
    have e := Option.some.inj h
    subst e
    repeat' first | with_reducible rfl | with_reducible exact True.intro | with_reducible assumption | (refine W.drawn TT_ok hmix1 rfl ?_; conv => whnf) | exact (congrArg Bool.not h) | exact fun _ => True.intro | exact (rfl : (_ : Nat) = _) | exact (rfl : (_ : LV) = _) | exact NLss_map' _ | refine NLss_app ?_ ?_ | refine NLss_rep ?_ | refine NLss_set ?_ ?_ | refine NLss_take ?_ | refine NLss_drop ?_ | (refine And.intro ?_ ?_ <;> conv => whnf) | (intro h; (conv => whnf) <;> first | with_reducible rfl | assumption | exact h | exact (congrArg Bool.not h) | (refine ⟨h, True.intro⟩) | (refine ⟨congrArg Bool.not h, True.intro⟩) | (refine ⟨by assumption, True.intro⟩)) | (intro h; exact (Bool.false_ne_true (h.symm.trans (by assumption))).elim) | (intro h; exact (Bool.false_ne_true (Eq.trans (Eq.symm (by assumption)) h)).elim) | (intros; simp_all; done) | (intros; exfalso; simp_all; done) | (refine gand ?_ h; assumption) | (simp only [se_map, se_byL]; exact rfl) | (simp only [se_map, se_byL, se_len, se_ch, List.length_map]; done) | fail
  · replace h := condF hc h
    conv => whnf
    repeat' first | with_reducible rfl | with_reducible exact True.intro | with_reducible assumption | refine parkI ?_ | (refine CallP.use c14 ?_; conv => whnf) | (refine ⟨_, _, CallP.at c14, ?_⟩; conv => whnf) | (refine ⟨_, fun _ => c14, ?_⟩; conv => whnf) | (refine W.drawn TT_ok hmix1 rfl ?_; conv => whnf) | exact (congrArg Bool.not h) | exact fun _ => True.intro | exact (rfl : (_ : Nat) = _) | exact (rfl : (_ : LV) = _) | exact NLss_map' _ | refine NLss_app ?_ ?_ | refine NLss_rep ?_ | refine NLss_set ?_ ?_ | refine NLss_take ?_ | refine NLss_drop ?_ | (refine And.intro ?_ ?_ <;> conv => whnf) | (intro h; (conv => whnf) <;> first | with_reducible rfl | assumption | exact h | exact (congrArg Bool.not h) | (refine ⟨h, True.intro⟩) | (refine ⟨congrArg Bool.not h, True.intro⟩) | (refine ⟨by assumption, True.intro⟩)) | (intro h; exact (Bool.false_ne_true (h.symm.trans (by assumption))).elim) | (intro h; exact (Bool.false_ne_true (Eq.trans (Eq.symm (by assumption)) h)).elim) | (intros; simp_all; done) | (intros; exfalso; simp_all; done) | (refine gand ?_ h; assumption) | (simp only [se_map, se_byL]; exact rfl) | (simp only [se_map, se_byL, se_len, se_ch, List.length_map]; done) | fail
    refine parkE (fun hc => ?_) (fun hc => ?_)
    · replace h := condT hc h
      conv => whnf
      have e := Option.some.inj h
      subst e
      repeat' first | with_reducible rfl | with_reducible exact True.intro | with_reducible assumption | (refine W.drawn TT_ok hmix1 rfl ?_; conv => whnf) | exact (congrArg Bool.not h) | exact fun _ => True.intro | exact (rfl : (_ : Nat) = _) | exact (rfl : (_ : LV) = _) | exact NLss_map' _ | refine NLss_app ?_ ?_ | refine NLss_rep ?_ | refine NLss_set ?_ ?_ | refine NLss_take ?_ | refine NLss_drop ?_ | (refine And.intro ?_ ?_ <;> conv => whnf) | (intro h; (conv => whnf) <;> first | with_reducible rfl | assumption | exact h | exact (congrArg Bool.not h) | (refine ⟨h, True.intro⟩) | (refine ⟨congrArg Bool.not h, True.intro⟩) | (refine ⟨by assumption, True.intro⟩)) | (intro h; exact (Bool.false_ne_true (h.symm.trans (by assumption))).elim) | (intro h; exact (Bool.false_ne_true (Eq.trans (Eq.symm (by assumption)) h)).elim) | (intros; simp_all; done) | (intros; exfalso; simp_all; done) | (refine gand ?_ h; assumption) | (simp only [se_map, se_byL]; exact rfl) | (simp only [se_map, se_byL, se_len, se_ch, List.length_map]; done) | fail
    · replace h := condF hc h
      conv => whnf
      replace h := bindS h
      obtain ⟨y17, hy17, h⟩ := h
      have c18 := fun (hg : (!(bif (!decide (y7.2 = 0)) then true else (!decide (y9.2 = 0)))) = true) => c_ref15_Parts y1 _ (gdS hg hy17)
      replace h := bindS h
      obtain ⟨y19, hy19, h⟩ := h
      have c20 := fun (hg : (!(bif (bif (!decide (y7.2 = 0)) then true else (!decide (y9.2 = 0))) then true else (!decide (y7.1 = y17)))) = true) => c_ref15_Loops y1 _ (gdS hg hy19)
      repeat' first | with_reducible rfl | with_reducible exact True.intro | with_reducible assumption | refine parkI ?_ | (refine ⟨_, c18, ?_⟩; conv => whnf) | (refine ⟨_, c20, ?_⟩; conv => whnf) | (refine W.drawn TT_ok hmix1 rfl ?_; conv => whnf) | exact (congrArg Bool.not h) | exact fun _ => True.intro | exact (rfl : (_ : Nat) = _) | exact (rfl : (_ : LV) = _) | exact NLss_map' _ | refine NLss_app ?_ ?_ | refine NLss_rep ?_ | refine NLss_set ?_ ?_ | refine NLss_take ?_ | refine NLss_drop ?_ | (refine And.intro ?_ ?_ <;> conv => whnf) | (intro h; (conv => whnf) <;> first | with_reducible rfl | assumption | exact h | exact (congrArg Bool.not h) | (refine ⟨h, True.intro⟩) | (refine ⟨congrArg Bool.not h, True.intro⟩) | (refine ⟨by assumption, True.intro⟩)) | (intro h; exact (Bool.false_ne_true (h.symm.trans (by assumption))).elim) | (intro h; exact (Bool.false_ne_true (Eq.trans (Eq.symm (by assumption)) h)).elim) | (intros; simp_all; done) | (intros; exfalso; simp_all; done) | (refine gand ?_ h; assumption) | (simp only [se_map, se_byL]; exact rfl) | (simp only [se_map, se_byL, se_len, se_ch, List.length_map]; done) | fail
      refine parkE (fun hc => ?_) (fun hc => ?_)
      · replace h := condT hc h
        conv => whnf
        have e := Option.some.inj h
        subst e
        repeat' first | with_reducible rfl | with_reducible exact True.intro | with_reducible assumption | (refine W.drawn TT_ok hmix1 rfl ?_; conv => whnf) | exact (congrArg Bool.not h) | exact fun _ => True.intro | exact (rfl : (_ : Nat) = _) | exact (rfl : (_ : LV) = _) | exact NLss_map' _ | refine NLss_app ?_ ?_ | refine NLss_rep ?_ | refine NLss_set ?_ ?_ | refine NLss_take ?_ | refine NLss_drop ?_ | (refine And.intro ?_ ?_ <;> conv => whnf) | (intro h; (conv => whnf) <;> first | with_reducible rfl | assumption | exact h | exact (congrArg Bool.not h) | (refine ⟨h, True.intro⟩) | (refine ⟨congrArg Bool.not h, True.intro⟩) | (refine ⟨by assumption, True.intro⟩)) | (intro h; exact (Bool.false_ne_true (h.symm.trans (by assumption))).elim) | (intro h; exact (Bool.false_ne_true (Eq.trans (Eq.symm (by assumption)) h)).elim) | (intros; simp_all; done) | (intros; exfalso; simp_all; done) | (refine gand ?_ h; assumption) | (simp only [se_map, se_byL]; exact rfl) | (simp only [se_map, se_byL, se_len, se_ch, List.length_map]; done) | fail
      · replace h := condF hc h
        conv => whnf
        repeat' first | with_reducible rfl | with_reducible exact True.intro | with_reducible assumption | refine parkI ?_ | (refine W.drawn TT_ok hmix1 rfl ?_; conv => whnf) | exact (congrArg Bool.not h) | exact fun _ => True.intro | exact (rfl : (_ : Nat) = _) | exact (rfl : (_ : LV) = _) | exact NLss_map' _ | refine NLss_app ?_ ?_ | refine NLss_rep ?_ | refine NLss_set ?_ ?_ | refine NLss_take ?_ | refine NLss_drop ?_ | (refine And.intro ?_ ?_ <;> conv => whnf) | (intro h; (conv => whnf) <;> first | with_reducible rfl | assumption | exact h | exact (congrArg Bool.not h) | (refine ⟨h, True.intro⟩) | (refine ⟨congrArg Bool.not h, True.intro⟩) | (refine ⟨by assumption, True.intro⟩)) | (intro h; exact (Bool.false_ne_true (h.symm.trans (by assumption))).elim) | (intro h; exact (Bool.false_ne_true (Eq.trans (Eq.symm (by assumption)) h)).elim) | (intros; simp_all; done) | (intros; exfalso; simp_all; done) | (refine gand ?_ h; assumption) | (simp only [se_map, se_byL]; exact rfl) | (simp only [se_map, se_byL, se_len, se_ch, List.length_map]; done) | fail
        refine parkE (fun hc => ?_) (fun hc => ?_)
        · replace h := condT hc h
          conv => whnf
          have e := Option.some.inj h
          subst e
          repeat' first | with_reducible rfl | with_reducible exact True.intro | with_reducible assumption | (refine W.drawn TT_ok hmix1 rfl ?_; conv => whnf) | exact (congrArg Bool.not h) | exact fun _ => True.intro | exact (rfl : (_ : Nat) = _) | exact (rfl : (_ : LV) = _) | exact NLss_map' _ | refine NLss_app ?_ ?_ | refine NLss_rep ?_ | refine NLss_set ?_ ?_ | refine NLss_take ?_ | refine NLss_drop ?_ | (refine And.intro ?_ ?_ <;> conv => whnf) | (intro h; (conv => whnf) <;> first | with_reducible rfl | assumption | exact h | exact (congrArg Bool.not h) | (refine ⟨h, True.intro⟩) | (refine ⟨congrArg Bool.not h, True.intro⟩) | (refine ⟨by assumption, True.intro⟩)) | (intro h; exact (Bool.false_ne_true (h.symm.trans (by assumption))).elim) | (intro h; exact (Bool.false_ne_true (Eq.trans (Eq.symm (by assumption)) h)).elim) | (intros; simp_all; done) | (intros; exfalso; simp_all; done) | (refine gand ?_ h; assumption) | (simp only [se_map, se_byL]; exact rfl) | (simp only [se_map, se_byL, se_len, se_ch, List.length_map]; done) | fail
        · replace h := condF hc h
          conv => whnf
          replace h := bindS h
          obtain ⟨y21, hy21, h⟩ := h
          have c22 := fun (hg : (bif (decide (y3.2.2 = 0)) then (decide (y5.2 = 0)) else false) = true) => c_ref15_Hosts y1 a1 _ (gdS hg hy21)
          replace h := bindS h
          obtain ⟨y23, hy23, h⟩ := h
          have c24 := fun (hg : (bif (decide (y3.2.2 = 0)) then (decide (y5.2 = 0)) else false) = true) => c_ref15_Stations y3.1 y21 _ (gdS hg hy23)
          replace h := bindS h
          obtain ⟨y25, hy25, h⟩ := h
          have c26 := fun (hg : (bif (bif (decide (y3.2.2 = 0)) then (decide (y5.2 = 0)) else false) then y23 else false) = true) => c_ref15_Ports y1 a1 _ (gdS hg hy25)
          replace h := bindS h
          obtain ⟨y27, hy27, h⟩ := h
          have c28 := fun (hg : (bif (bif (decide (y3.2.2 = 0)) then (decide (y5.2 = 0)) else false) then y23 else false) = true) => c_ref15_Pairs y3.2.1 y25 _ (gdS hg hy27)
          replace h := bindS h
          obtain ⟨y29, hy29, h⟩ := h
          have c30 := fun (hg : (bif (bif (bif (decide (y3.2.2 = 0)) then (decide (y5.2 = 0)) else false) then y23 else false) then y27 else false) = true) => c_ref15_Part y1 a1 _ (gdS hg hy29)
          replace h := bindS h
          obtain ⟨y31, hy31, h⟩ := h
          have c32 := fun (hg : (bif (bif (bif (decide (y3.2.2 = 0)) then (decide (y5.2 = 0)) else false) then y23 else false) then y27 else false) = true) => c_ref06_Same y5.1 y29 _ (gdS hg hy31)
          have e := Option.some.inj h
          subst e
          repeat' first | with_reducible rfl | with_reducible exact True.intro | with_reducible assumption | (refine ⟨_, c22, ?_⟩; conv => whnf) | (refine ⟨_, c24, ?_⟩; conv => whnf) | (refine ⟨_, c26, ?_⟩; conv => whnf) | (refine ⟨_, c28, ?_⟩; conv => whnf) | (refine ⟨_, c30, ?_⟩; conv => whnf) | (refine ⟨_, c32, ?_⟩; conv => whnf) | (refine W.drawn TT_ok hmix1 rfl ?_; conv => whnf) | exact (congrArg Bool.not h) | exact fun _ => True.intro | exact (rfl : (_ : Nat) = _) | exact (rfl : (_ : LV) = _) | exact NLss_map' _ | refine NLss_app ?_ ?_ | refine NLss_rep ?_ | refine NLss_set ?_ ?_ | refine NLss_take ?_ | refine NLss_drop ?_ | (refine And.intro ?_ ?_ <;> conv => whnf) | (intro h; (conv => whnf) <;> first | with_reducible rfl | assumption | exact h | exact (congrArg Bool.not h) | (refine ⟨h, True.intro⟩) | (refine ⟨congrArg Bool.not h, True.intro⟩) | (refine ⟨by assumption, True.intro⟩)) | (intro h; exact (Bool.false_ne_true (h.symm.trans (by assumption))).elim) | (intro h; exact (Bool.false_ne_true (Eq.trans (Eq.symm (by assumption)) h)).elim) | (intros; simp_all; done) | (intros; exfalso; simp_all; done) | (refine gand ?_ h; assumption) | (simp only [se_map, se_byL]; exact rfl) | (simp only [se_map, se_byL, se_len, se_ch, List.length_map]; done) | fail

end Go.RX
