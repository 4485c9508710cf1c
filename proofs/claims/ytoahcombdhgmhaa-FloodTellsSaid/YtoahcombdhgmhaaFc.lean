/- Plain functions, and what says that the program's functions compute them. -/
import Derived.Test.YtoahcombdhgmhaaFa
import Derived.Test.YtoahcombdhgmhaaLr
import Derived.Test.YtoahcombdhgmhaaRev
import Derived.Test.YtoahcombdhgmhaaRXB
set_option linter.unusedVariables false
set_option linter.unusedSimpArgs false
open Go Go.RX Go.Proofs
namespace Go.RX
set_option maxRecDepth 10000
set_option maxHeartbeats 4000000
attribute [local irreducible] CallW CallP LoopW W IntKind.wrap bitI
def flood_Copies_1 (a0 : Int) (q1 : (List Int)) : Option Bool :=
  (gix q1 a0).bind fun v7 =>
  some (decide (0 ≤ v7))

theorem c_flood_Copies_1 (a0 : Int) (q1 : (List Int)) (r : Bool) (h : flood_Copies_1 a0 q1 = some r) : CallP Try.prog 211 [(I a0), (LV.rptr [(LV.ro 1 (q1.map iC))])] (LV.bool r) := by
  unfold flood_Copies_1 at h
  refine .intro (by repeat' first | exact True.intro | assumption | refine ⟨?_, ?_⟩) (.intro TT_ok Try.func211 rfl rfl [0, 1, 3] rfl ?_)
  conv => whnf
  replace h := bindS h
  obtain ⟨v7, hv7, h⟩ := h
  have i8 := gixF (f := iC) hv7
  have e := Option.some.inj h
  subst e
  repeat' first | with_reducible rfl | with_reducible exact True.intro | with_reducible assumption | (refine ⟨_, i8, ?_⟩; conv => whnf) | exact (congrArg Bool.not h) | exact fun _ => True.intro | exact (rfl : (_ : Nat) = _) | exact (rfl : (_ : LV) = _) | exact NLss_map' _ | refine NLss_app ?_ ?_ | refine NLss_rep ?_ | refine NLss_set ?_ ?_ | refine NLss_take ?_ | refine NLss_drop ?_ | (refine And.intro ?_ ?_ <;> conv => whnf) | (intro h; (conv => whnf) <;> first | with_reducible rfl | assumption | exact h | exact (congrArg Bool.not h) | (refine ⟨h, True.intro⟩) | (refine ⟨congrArg Bool.not h, True.intro⟩) | (refine ⟨by assumption, True.intro⟩)) | (intro h; exact (Bool.false_ne_true (h.symm.trans (by assumption))).elim) | (intro h; exact (Bool.false_ne_true (Eq.trans (Eq.symm (by assumption)) h)).elim) | (intros; simp_all; done) | (intros; exfalso; simp_all; done) | (refine gand ?_ h; assumption) | (simp only [se_map, se_byL]; exact rfl) | (simp only [se_map, se_byL, se_len, se_ch, List.length_map]; done) | fail

def flood_Copies_b22 (a0 : LanT) (a1 : (List (List Bool))) (y3 : (List Int)) (k22 : Nat) (x22 : PlanT) (s22 : Int) : Option (Step (Int × Int) Int) :=
  (flood_opens a0 a1 ((k22 : Nat) : Int)).bind fun y5 =>
  (slices_ContainsFunc_int y5 (fun x0_ => flood_Copies_1 x0_ y3)).bind fun y9 =>
  (bif y9 then
    some (.nxt (IntKind.i64.wrap (s22 + (IntKind.i64.wrap (((y5.length : Nat) : Int) - 1)))))
  else
    some (.nxt s22))

def flood_Copies (a0 : LanT) (a1 : (List (List Bool))) (a2 : Int) : Option (Int × Int) :=
  (flood_may a0 a1 ([a2] : (List Int))).bind fun y1 =>
  (bif (!decide (y1 = 0)) then
    some (0, y1)
  else
    (flood_steps a0 a1 a2).bind fun y3 =>
    aft (rangeL (flood_Copies_b22 a0 a1 y3) a0.Plans 0) fun s22 =>
    some (s22, 0))

theorem c_flood_Copies (a0 : LanT) (a1 : (List (List Bool))) (a2 : Int) (r : (Int × Int)) (h : flood_Copies a0 a1 a2 = some r) : CallP Try.prog 107 [(LV.agg [(I a0.Segs), (LV.ro 2 (a0.Plans.map PlanT.cells)), (LV.ro 2 (a0.Hosts.map HostT.cells))]), (LV.ro 1 (a1.map (roC 1 bC))), (I a2)] (LV.tup [(I r.1), (I r.2)]) := by
  unfold flood_Copies at h
  refine .intro (by repeat' first | exact True.intro | assumption | refine ⟨?_, ?_⟩) (.intro TT_ok Try.func107 rfl rfl [0, 1, 2, 3, 6, 7, 8, 9, 10, 11, 12, 19, 27, 28, 29, 37, 1000210] rfl ?_)
  conv => whnf
  replace h := bindS h
  obtain ⟨y1, hy1, h⟩ := h
  have c2 : CallP Try.prog 207 [(LV.agg [(I a0.Segs), (LV.ro 2 (a0.Plans.map PlanT.cells)), (LV.ro 2 (a0.Hosts.map HostT.cells))]), (LV.ro 1 (a1.map (roC 1 bC))), (LV.ro 1 [[(I a2)]])] (I y1) := by first | exact c_flood_may a0 a1 ([a2] : (List Int)) _ hy1 | (simpa only [se_map, se_byL, se_len, se_ch, List.length_map] using c_flood_may a0 a1 ([a2] : (List Int)) _ hy1)
  repeat' first | with_reducible rfl | with_reducible exact True.intro | with_reducible assumption | refine parkI ?_ | (refine CallP.use c2 ?_; conv => whnf) | exact (rfl : (_ : Nat) = _) | exact NLss_map' _ | refine NLss_app ?_ ?_ | refine NLss_rep ?_ | refine NLss_set ?_ ?_ | refine NLss_take ?_ | refine NLss_drop ?_ | (refine And.intro ?_ ?_ <;> conv => whnf) | (simp only [se_map, se_byL]; exact rfl) | (simp only [se_map, se_byL, se_len, se_ch, List.length_map]; done) | fail
  refine parkE (fun hc => ?_) (fun hc => ?_)
  · replace h := condT hc h
    conv => whnf
    have e := Option.some.inj h
    subst e
    repeat' first | with_reducible rfl | with_reducible exact True.intro | with_reducible assumption | exact (congrArg Bool.not h) | exact fun _ => True.intro | exact (rfl : (_ : Nat) = _) | exact (rfl : (_ : LV) = _) | exact NLss_map' _ | refine NLss_app ?_ ?_ | refine NLss_rep ?_ | refine NLss_set ?_ ?_ | refine NLss_take ?_ | refine NLss_drop ?_ | (refine And.intro ?_ ?_ <;> conv => whnf) | (intro h; (conv => whnf) <;> first | with_reducible rfl | assumption | exact h | exact (congrArg Bool.not h) | (refine ⟨h, True.intro⟩) | (refine ⟨congrArg Bool.not h, True.intro⟩) | (refine ⟨by assumption, True.intro⟩)) | (intro h; exact (Bool.false_ne_true (h.symm.trans (by assumption))).elim) | (intro h; exact (Bool.false_ne_true (Eq.trans (Eq.symm (by assumption)) h)).elim) | (intros; simp_all; done) | (intros; exfalso; simp_all; done) | (refine gand ?_ h; assumption) | (simp only [se_map, se_byL]; exact rfl) | (simp only [se_map, se_byL, se_len, se_ch, List.length_map]; done) | fail
  · replace h := condF hc h
    conv => whnf
    replace h := bindS h
    obtain ⟨y3, hy3, h⟩ := h
    have c4 := cf_flood_steps a0 a1 a2 _ hy3
    repeat' first | with_reducible rfl | with_reducible exact True.intro | with_reducible assumption | refine parkI ?_ | (refine CallW.done (CallF.at c4 (by repeat' first | exact True.intro | assumption | refine ⟨?_, ?_⟩) (NLss_map' _)) ?_; conv => whnf) | (refine ⟨_, _, CallF.at c4 (by repeat' first | exact True.intro | assumption | refine ⟨?_, ?_⟩) (NLss_map' _), ?_⟩; conv => whnf) | (refine And.intro ?_ ?_ <;> conv => whnf) | fail
    replace h := aftS h
    obtain ⟨O22, hO22, r22⟩ := h
    refine LoopW.norm [(1, (LV.ro 1 (a1.map (roC 1 bC)))), (3, (LV.ptr 0 0 0)), (9, (LV.ptr 3 0 0)), (10, (I 0)), (27, (I (((a0.Plans.map PlanT.cells).length : Nat) : Int))), (28, (I ((0 : Nat) : Int)))] 4 [(0, (.row 47 3 [[(I a0.Segs), (LV.ro 2 (a0.Plans.map PlanT.cells)), (LV.ro 2 (a0.Hosts.map HostT.cells))]])), (3, (.row 41 1 [[(LV.sl 2 0 (y3.map iC).length)]])), (2, (.row 3 1 (y3.map iC)))] ⟨rfl, rfl, rfl, rfl, rfl, rfl, trivial⟩ ⟨⟨rfl, rfl, (by repeat' first | exact True.intro | exact rfl | exact NLs_bels (by assumption) | refine ⟨?_, ?_⟩)⟩, ⟨⟨rfl, rfl, (by repeat' first | exact True.intro | exact rfl | exact NLs_bels (by assumption) | refine ⟨?_, ?_⟩)⟩, ⟨⟨rfl, rfl, NLss_bel (NLss_map' _)⟩, trivial⟩⟩⟩ (by repeat' first | exact True.intro | exact rfl | exact NLs_bels (by assumption) | refine ⟨?_, ?_⟩) rfl ?_
    refine LoopW.forR (fun k22 s22 => [(1, (LV.ro 1 (a1.map (roC 1 bC)))), (3, (LV.ptr 0 0 0)), (9, (LV.ptr 3 0 0)), (10, (I s22)), (27, (I (((a0.Plans.map PlanT.cells).length : Nat) : Int))), (28, (I ((k22 : Nat) : Int)))]) (fun s22 => ⟨4, [(0, (.row 47 3 [[(I a0.Segs), (LV.ro 2 (a0.Plans.map PlanT.cells)), (LV.ro 2 (a0.Hosts.map HostT.cells))]])), (3, (.row 41 1 [[(LV.sl 2 0 (y3.map iC).length)]])), (2, (.row 3 1 (y3.map iC)))]⟩) hO22 (fun hl22 s22 hs22 => ?_) (fun hl22 k22 x22 s22 o22 hk22 hx22 b22 K22 hret22 hbrk22 => ?_)
    · rw [hs22] at r22
      dsimp only [aftM] at r22
      have hd : decide (((a0.Plans.length : Nat) : Int) < (((a0.Plans.map PlanT.cells).length : Nat) : Int)) = false := by rw [decide_eq_false_iff_not]; (try simp only [se_len, se_ch, List.length_map]); omega
      refine LoopW.round TT_ok [0, 1, 2, 3, 6, 7, 8, 9, 10, 11, 12, 19, 27, 28, 29, 37, 1000210] ?_
      conv => whnf
      repeat' first | with_reducible rfl | with_reducible exact True.intro | with_reducible assumption | refine parkI ?_ | (refine And.intro ?_ ?_ <;> conv => whnf) | fail
      refine parkE (fun hc => ?_) (fun hc => ?_)
      · exact (Bool.false_ne_true (hd.symm.trans hc)).elim
      · clear hd
        conv => whnf
        have e := Option.some.inj r22
        subst e
        repeat' first | with_reducible rfl | with_reducible exact True.intro | with_reducible assumption | exact (congrArg Bool.not h) | exact fun _ => True.intro | exact (rfl : (_ : Nat) = _) | exact (rfl : (_ : LV) = _) | exact NLss_map' _ | refine NLss_app ?_ ?_ | refine NLss_rep ?_ | refine NLss_set ?_ ?_ | refine NLss_take ?_ | refine NLss_drop ?_ | (refine And.intro ?_ ?_ <;> conv => whnf) | (intro h; (conv => whnf) <;> first | with_reducible rfl | assumption | exact h | exact (congrArg Bool.not h) | (refine ⟨h, True.intro⟩) | (refine ⟨congrArg Bool.not h, True.intro⟩) | (refine ⟨by assumption, True.intro⟩)) | (intro h; exact (Bool.false_ne_true (h.symm.trans (by assumption))).elim) | (intro h; exact (Bool.false_ne_true (Eq.trans (Eq.symm (by assumption)) h)).elim) | (intros; simp_all; done) | (intros; exfalso; simp_all; done) | (refine gand ?_ h; assumption) | (simp only [se_map, se_byL]; exact rfl) | (simp only [se_map, se_byL, se_len, se_ch, List.length_map]; done) | fail
    · unfold flood_Copies_b22 at b22
      have hd : decide (((k22 : Nat) : Int) < (((a0.Plans.map PlanT.cells).length : Nat) : Int)) = true := by rw [decide_eq_true_eq]; (try simp only [se_len, se_ch, List.length_map] at hk22); (try simp only [se_len, se_ch, List.length_map]); omega
      refine LoopW.round TT_ok [0, 1, 2, 3, 6, 7, 8, 9, 10, 11, 12, 19, 27, 28, 29, 37, 1000210] ?_
      conv => whnf
      repeat' first | with_reducible rfl | with_reducible exact True.intro | with_reducible assumption | refine parkI ?_ | (refine And.intro ?_ ?_ <;> conv => whnf) | fail
      refine parkE (fun hc => ?_) (fun hc => ?_)
      · clear hd
        conv => whnf
        replace b22 := bindS b22
        obtain ⟨y5, hy5, b22⟩ := b22
        have c6 := cf_flood_opens a0 a1 ((k22 : Nat) : Int) _ hy5
        replace b22 := bindS b22
        obtain ⟨y9, hy9, b22⟩ := b22
        have c10 := c_slices_ContainsFunc_int y5 211 [] [(LV.rptr [(LV.ro 1 (y3.map iC))])] (fun x0_ => flood_Copies_1 x0_ y3) (fun x0_ r h => c_flood_Copies_1 x0_ y3 r h) (by repeat' first | exact True.intro | refine ⟨?_, ?_⟩) _ hy9
        repeat' first | with_reducible rfl | with_reducible exact True.intro | with_reducible assumption | refine parkI ?_ | (refine CallW.done (CallF.at c6 (by repeat' first | exact True.intro | assumption | refine ⟨?_, ?_⟩) (NLss_map' _)) ?_; conv => whnf) | (refine ⟨_, _, CallF.at c6 (by repeat' first | exact True.intro | assumption | refine ⟨?_, ?_⟩) (NLss_map' _), ?_⟩; conv => whnf) | (refine CallW.done (CallP.lendG c10 (by repeat' first | exact True.intro | refine ⟨?_, ?_⟩) (show Lents _ [(LV.sl 4 0 (y5.map iC).length), (LV.func (.func 211) [] [(LV.ptr 3 0 0)])] [(LV.ro 1 (y5.map iC)), (LV.func (.func 211) [] [(LV.rptr [(LV.ro 1 (y3.map iC))])])] from ⟨Lent.sl rfl (by repeat' first | exact True.intro | exact rfl | assumption | exact NLss_map' _ | refine NLss_app ?_ ?_ | refine NLss_set ?_ ?_ | refine NLss_rep ?_ | refine NLss_take ?_ | refine NLss_drop ?_ | refine ⟨?_, ?_⟩), .func True.intro ⟨.box rfl ⟨Lent.sl rfl (by repeat' first | exact True.intro | exact rfl | assumption | exact NLss_map' _ | refine NLss_app ?_ ?_ | refine NLss_set ?_ ?_ | refine NLss_rep ?_ | refine NLss_take ?_ | refine NLss_drop ?_ | refine ⟨?_, ?_⟩), True.intro⟩, True.intro⟩, True.intro⟩)) ?_; conv => whnf) | (refine And.intro ?_ ?_ <;> conv => whnf) | fail
        refine parkE (fun hc => ?_) (fun hc => ?_)
        · replace b22 := condT hc b22
          conv => whnf
          repeat' first | with_reducible rfl | with_reducible exact True.intro | with_reducible assumption | refine parkI ?_ | (refine And.intro ?_ ?_ <;> conv => whnf) | fail
          have e := Option.some.inj b22
          refine LoopW.norm [(1, (LV.ro 1 (a1.map (roC 1 bC)))), (3, (LV.ptr 0 0 0)), (9, (LV.ptr 3 0 0)), (10, (I (IntKind.i64.wrap (s22 + (IntKind.i64.wrap (((y5.length : Nat) : Int) - 1)))))), (27, (I (((a0.Plans.map PlanT.cells).length : Nat) : Int))), (28, (I ((k22 + 1 : Nat) : Int)))] 4 [(0, (.row 47 3 [[(I a0.Segs), (LV.ro 2 (a0.Plans.map PlanT.cells)), (LV.ro 2 (a0.Hosts.map HostT.cells))]])), (3, (.row 41 1 [[(LV.sl 2 0 (y3.map iC).length)]])), (2, (.row 3 1 (y3.map iC)))] ⟨rfl, rfl, rfl, (by simp only [se_map, se_byL, se_len, se_ch, List.length_map] : ((I (IntKind.i64.wrap (s22 + (IntKind.i64.wrap ((((y5.map iC).length : Nat) : Int) - 1))))) : LV) = (I (IntKind.i64.wrap (s22 + (IntKind.i64.wrap (((y5.length : Nat) : Int) - 1)))))), rfl, (congrArg (LV.int .i64) (w64_nat _ (by omega))), trivial⟩ ⟨⟨rfl, rfl, (by repeat' first | exact True.intro | exact rfl | exact NLs_bels (by assumption) | refine ⟨?_, ?_⟩)⟩, ⟨⟨rfl, rfl, (by repeat' first | exact True.intro | exact rfl | exact NLs_bels (by assumption) | refine ⟨?_, ?_⟩)⟩, ⟨⟨rfl, rfl, NLss_bel (NLss_map' _)⟩, trivial⟩⟩⟩ (by repeat' first | exact True.intro | exact rfl | exact NLs_bels (by assumption) | refine ⟨?_, ?_⟩) rfl (K22 _ e.symm)
        · replace b22 := condF hc b22
          conv => whnf
          repeat' first | with_reducible rfl | with_reducible exact True.intro | with_reducible assumption | refine parkI ?_ | (refine And.intro ?_ ?_ <;> conv => whnf) | fail
          have e := Option.some.inj b22
          refine LoopW.norm [(1, (LV.ro 1 (a1.map (roC 1 bC)))), (3, (LV.ptr 0 0 0)), (9, (LV.ptr 3 0 0)), (10, (I s22)), (27, (I (((a0.Plans.map PlanT.cells).length : Nat) : Int))), (28, (I ((k22 + 1 : Nat) : Int)))] 4 [(0, (.row 47 3 [[(I a0.Segs), (LV.ro 2 (a0.Plans.map PlanT.cells)), (LV.ro 2 (a0.Hosts.map HostT.cells))]])), (3, (.row 41 1 [[(LV.sl 2 0 (y3.map iC).length)]])), (2, (.row 3 1 (y3.map iC)))] ⟨rfl, rfl, rfl, rfl, rfl, (congrArg (LV.int .i64) (w64_nat _ (by omega))), trivial⟩ ⟨⟨rfl, rfl, (by repeat' first | exact True.intro | exact rfl | exact NLs_bels (by assumption) | refine ⟨?_, ?_⟩)⟩, ⟨⟨rfl, rfl, (by repeat' first | exact True.intro | exact rfl | exact NLs_bels (by assumption) | refine ⟨?_, ?_⟩)⟩, ⟨⟨rfl, rfl, NLss_bel (NLss_map' _)⟩, trivial⟩⟩⟩ (by repeat' first | exact True.intro | exact rfl | exact NLs_bels (by assumption) | refine ⟨?_, ?_⟩) rfl (K22 _ e.symm)
      · exact (Bool.false_ne_true (hc.symm.trans hd)).elim

def flood_Path_1 (a0 : Int) (q1 : (List Int)) (q2 : Int) : Option Bool :=
  (gix q1 a0).bind fun v22 =>
  (gix q1 q2).bind fun v24 =>
  some (decide (v22 = (IntKind.i64.wrap (v24 - 1))))

theorem c_flood_Path_1 (a0 : Int) (q1 : (List Int)) (q2 : Int) (r : Bool) (h : flood_Path_1 a0 q1 q2 = some r) : CallP Try.prog 214 [(I a0), (LV.rptr [(LV.ro 1 (q1.map iC))]), (LV.rptr [(I q2)])] (LV.bool r) := by
  unfold flood_Path_1 at h
  refine .intro (by repeat' first | exact True.intro | assumption | refine ⟨?_, ?_⟩) (.intro TT_ok Try.func214 rfl rfl [0, 1, 2, 4] rfl ?_)
  conv => whnf
  replace h := bindS h
  obtain ⟨v22, hv22, h⟩ := h
  have i23 := gixF (f := iC) hv22
  replace h := bindS h
  obtain ⟨v24, hv24, h⟩ := h
  have i25 := gixF (f := iC) hv24
  have e := Option.some.inj h
  subst e
  repeat' first | with_reducible rfl | with_reducible exact True.intro | with_reducible assumption | (refine ⟨_, i23, ?_⟩; conv => whnf) | (refine ⟨_, i25, ?_⟩; conv => whnf) | (refine W.drawn TT_ok hmix1 rfl ?_; conv => whnf) | exact (congrArg Bool.not h) | exact fun _ => True.intro | exact (rfl : (_ : Nat) = _) | exact (rfl : (_ : LV) = _) | exact NLss_map' _ | refine NLss_app ?_ ?_ | refine NLss_rep ?_ | refine NLss_set ?_ ?_ | refine NLss_take ?_ | refine NLss_drop ?_ | (refine And.intro ?_ ?_ <;> conv => whnf) | (intro h; (conv => whnf) <;> first | with_reducible rfl | assumption | exact h | exact (congrArg Bool.not h) | (refine ⟨h, True.intro⟩) | (refine ⟨congrArg Bool.not h, True.intro⟩) | (refine ⟨by assumption, True.intro⟩)) | (intro h; exact (Bool.false_ne_true (h.symm.trans (by assumption))).elim) | (intro h; exact (Bool.false_ne_true (Eq.trans (Eq.symm (by assumption)) h)).elim) | (intros; simp_all; done) | (intros; exfalso; simp_all; done) | (refine gand ?_ h; assumption) | (simp only [se_map, se_byL]; exact rfl) | (simp only [se_map, se_byL, se_len, se_ch, List.length_map]; done) | fail

def flood_Path_b23 (a2 : Int) (y13 : (List Int)) (y18 : (List (List Int))) (s23 : ((List Int) × Int)) : Option (Step ((List Int) × Int) ((List Int) × Int)) :=
  (bif (!decide (s23.2 = a2)) then
    (flood_neighbours_1 s23.2 y18).bind fun y20 =>
    (slices_IndexFunc_int y20 (fun x0_ => flood_Path_1 x0_ y13 s23.2)).bind fun y26 =>
    grd ((0 : Int) ≤ y26 ∧ y26 < ((y20.length : Nat) : Int)) <|
    (gixN y20 (y26 : Int).toNat).bind fun v29 =>
    grd (fits ((s23.1 ++ ([v29] : (List Int))) : List Int).length 8) <|
    some (.nxt ((s23.1 ++ ([v29] : (List Int))), v29))
  else
    some (.brk (s23.1, s23.2)))

def flood_Path (a0 : LanT) (a1 : (List (List Bool))) (a2 : Int) (a3 : Int) : Option ((List Int) × Int) :=
  (flood_may a0 a1 ([a2, a3] : (List Int))).bind fun y11 =>
  (bif (!decide (y11 = 0)) then
    some ([], y11)
  else
    (flood_steps a0 a1 a2).bind fun y13 =>
    grd ((0 : Int) ≤ a3 ∧ a3 < ((y13.length : Nat) : Int)) <|
    (gixN y13 (a3 : Int).toNat).bind fun v16 =>
    (bif (decide (v16 < 0)) then
      some ([], 4)
    else
      (flood_neighbours a0 a1).bind fun y18 =>
      aft (loopF 1000000 (flood_Path_b23 a2 y13 y18) (([a3] : (List Int)), a3)) fun s23 =>
      (slices_Reverse_int s23.1).bind fun y35 =>
      some (y35, 0)))

theorem c_flood_Path (a0 : LanT) (a1 : (List (List Bool))) (a2 : Int) (a3 : Int) (r : ((List Int) × Int)) (h : flood_Path a0 a1 a2 a3 = some r) : CallP Try.prog 108 [(LV.agg [(I a0.Segs), (LV.ro 2 (a0.Plans.map PlanT.cells)), (LV.ro 2 (a0.Hosts.map HostT.cells))]), (LV.ro 1 (a1.map (roC 1 bC))), (I a2), (I a3)] (LV.tup [(LV.ro 1 (r.1.map iC)), (I r.2)]) := by
  unfold flood_Path at h
  refine .intro (by repeat' first | exact True.intro | assumption | refine ⟨?_, ?_⟩) (.intro TT_ok Try.func108 rfl rfl [0, 1, 2, 3, 4, 8, 9, 10, 11, 12, 13, 14, 15, 16, 24, 34, 43, 58, 1000213, 1000215, 2000215] rfl ?_)
  conv => whnf
  replace h := bindS h
  obtain ⟨y11, hy11, h⟩ := h
  have c12 : CallP Try.prog 207 [(LV.agg [(I a0.Segs), (LV.ro 2 (a0.Plans.map PlanT.cells)), (LV.ro 2 (a0.Hosts.map HostT.cells))]), (LV.ro 1 (a1.map (roC 1 bC))), (LV.ro 1 [[(I a2)], [(I a3)]])] (I y11) := by first | exact c_flood_may a0 a1 ([a2, a3] : (List Int)) _ hy11 | (simpa only [se_map, se_byL, se_len, se_ch, List.length_map] using c_flood_may a0 a1 ([a2, a3] : (List Int)) _ hy11)
  repeat' first | with_reducible rfl | with_reducible exact True.intro | with_reducible assumption | refine parkI ?_ | (refine CallP.use c12 ?_; conv => whnf) | exact (rfl : (_ : Nat) = _) | exact NLss_map' _ | refine NLss_app ?_ ?_ | refine NLss_rep ?_ | refine NLss_set ?_ ?_ | refine NLss_take ?_ | refine NLss_drop ?_ | (refine And.intro ?_ ?_ <;> conv => whnf) | (simp only [se_map, se_byL]; exact rfl) | (simp only [se_map, se_byL, se_len, se_ch, List.length_map]; done) | fail
  refine parkE (fun hc => ?_) (fun hc => ?_)
  · replace h := condT hc h
    conv => whnf
    have e := Option.some.inj h
    subst e
    repeat' first | with_reducible rfl | with_reducible exact True.intro | with_reducible assumption | exact (congrArg Bool.not h) | exact fun _ => True.intro | exact (rfl : (_ : Nat) = _) | exact (rfl : (_ : LV) = _) | exact NLss_map' _ | refine NLss_app ?_ ?_ | refine NLss_rep ?_ | refine NLss_set ?_ ?_ | refine NLss_take ?_ | refine NLss_drop ?_ | (refine And.intro ?_ ?_ <;> conv => whnf) | (intro h; (conv => whnf) <;> first | with_reducible rfl | assumption | exact h | exact (congrArg Bool.not h) | (refine ⟨h, True.intro⟩) | (refine ⟨congrArg Bool.not h, True.intro⟩) | (refine ⟨by assumption, True.intro⟩)) | (intro h; exact (Bool.false_ne_true (h.symm.trans (by assumption))).elim) | (intro h; exact (Bool.false_ne_true (Eq.trans (Eq.symm (by assumption)) h)).elim) | (intros; simp_all; done) | (intros; exfalso; simp_all; done) | (refine gand ?_ h; assumption) | (simp only [se_map, se_byL]; exact rfl) | (simp only [se_map, se_byL, se_len, se_ch, List.length_map]; done) | fail
  · replace h := condF hc h
    conv => whnf
    replace h := bindS h
    obtain ⟨y13, hy13, h⟩ := h
    have c14 := cf_flood_steps a0 a1 a2 _ hy13
    replace h := grdS h
    obtain ⟨g15, h⟩ := h
    replace g15 : (0 : Int) ≤ a3 ∧ a3 < (((y13.map iC).length : Nat) : Int) := by simpa only [se_len, se_ch, List.length_map] using g15
    replace h := bindS h
    obtain ⟨v16, hv16, h⟩ := h
    have i17 : nth (y13.map iC) (0 + ((a3 : Int).toNat)) = some [(I v16)] := by simpa only [se_map, se_len, se_ch, List.length_map, nth_eq, Nat.zero_add, List.getElem?_map] using gixNF (f := iC) hv16
    repeat' first | with_reducible rfl | with_reducible exact True.intro | with_reducible assumption | refine parkI ?_ | exact g15 | (refine CallW.done (CallF.at c14 (by repeat' first | exact True.intro | assumption | refine ⟨?_, ?_⟩) (NLss_map' _)) ?_; conv => whnf) | (refine ⟨_, _, CallF.at c14 (by repeat' first | exact True.intro | assumption | refine ⟨?_, ?_⟩) (NLss_map' _), ?_⟩; conv => whnf) | (rw [i17]; conv => whnf) | (refine And.intro ?_ ?_ <;> conv => whnf) | fail
    refine parkE (fun hc => ?_) (fun hc => ?_)
    · replace h := condT hc h
      conv => whnf
      have e := Option.some.inj h
      subst e
      repeat' first | with_reducible rfl | with_reducible exact True.intro | with_reducible assumption | exact (congrArg Bool.not h) | exact fun _ => True.intro | exact (rfl : (_ : Nat) = _) | exact (rfl : (_ : LV) = _) | exact NLss_map' _ | refine NLss_app ?_ ?_ | refine NLss_rep ?_ | refine NLss_set ?_ ?_ | refine NLss_take ?_ | refine NLss_drop ?_ | (refine And.intro ?_ ?_ <;> conv => whnf) | (intro h; (conv => whnf) <;> first | with_reducible rfl | assumption | exact h | exact (congrArg Bool.not h) | (refine ⟨h, True.intro⟩) | (refine ⟨congrArg Bool.not h, True.intro⟩) | (refine ⟨by assumption, True.intro⟩)) | (intro h; exact (Bool.false_ne_true (h.symm.trans (by assumption))).elim) | (intro h; exact (Bool.false_ne_true (Eq.trans (Eq.symm (by assumption)) h)).elim) | (intros; simp_all; done) | (intros; exfalso; simp_all; done) | (refine gand ?_ h; assumption) | (simp only [se_map, se_byL]; exact rfl) | (simp only [se_map, se_byL, se_len, se_ch, List.length_map]; done) | fail
    · replace h := condF hc h
      conv => whnf
      replace h := bindS h
      obtain ⟨y18, hy18, h⟩ := h
      have c19 := c_flood_neighbours a0 a1 _ hy18
      repeat' first | with_reducible rfl | with_reducible exact True.intro | with_reducible assumption | refine parkI ?_ | (refine CallP.use c19 ?_; conv => whnf) | (refine And.intro ?_ ?_ <;> conv => whnf) | fail
      replace h := aftS h
      obtain ⟨O23, hO23, r23⟩ := h
      refine LoopW.norm [(2, (I a2)), (11, (LV.ptr 3 0 0)), (12, (LV.func (.func 281) [] [(LV.rptr [(LV.ro 1 (y18.map (roC 1 iC)))])])), (13, (LV.sl 4 0 ((([a3] : (List Int)), a3).1.map iC).length)), (14, (LV.ptr 5 0 0))] 6 [(3, (.row 41 1 [[(LV.sl 2 0 (y13.map iC).length)]])), (2, (.row 3 1 (y13.map iC))), (4, (.row 3 1 ((([a3] : (List Int)), a3).1.map iC))), (5, (.row 3 1 [[(I (([a3] : (List Int)), a3).2)]]))] ⟨rfl, rfl, rfl, (by exact congrArg (LV.sl 4 0) (by first | (simp only [se_map, se_byL, se_len, se_ch, List.length_map]; done) | ((try simp only [se_map, se_byL, se_len, se_ch, List.length_map]); (try simp only [se_len, se_ch, List.length_map] at *); omega) : 1 = ((([a3] : (List Int)), a3).1.map iC).length)), rfl, trivial⟩ ⟨⟨rfl, rfl, (by repeat' first | exact True.intro | exact rfl | exact NLs_bels (by assumption) | refine ⟨?_, ?_⟩)⟩, ⟨⟨rfl, rfl, NLss_bel (NLss_map' _)⟩, ⟨⟨(congrArg (fun q => some (Blk.row 3 1 q)) (by simp only [se_map, se_byL, se_len, se_ch, List.length_map] : ([[(I a3)]] : List (List LV)) = ((([a3] : (List Int)), a3).1.map iC))), rfl, NLss_bel (NLss_map' _)⟩, ⟨⟨(congrArg (fun q => some (Blk.row 3 1 q)) (by simp only [se_map, se_byL, se_len, se_ch, List.length_map] : ([[(I a3)]] : List (List LV)) = [[(I (([a3] : (List Int)), a3).2)]])), rfl, (by repeat' first | exact True.intro | exact rfl | exact NLs_bels (by assumption) | refine ⟨?_, ?_⟩)⟩, trivial⟩⟩⟩⟩ (by repeat' first | exact True.intro | exact rfl | exact NLs_bels (by assumption) | refine ⟨?_, ?_⟩) rfl ?_
      refine LoopW.forF (fun s23 => [(2, (I a2)), (11, (LV.ptr 3 0 0)), (12, (LV.func (.func 281) [] [(LV.rptr [(LV.ro 1 (y18.map (roC 1 iC)))])])), (13, (LV.sl 4 0 (s23.1.map iC).length)), (14, (LV.ptr 5 0 0))]) (fun s23 => ⟨6, [(3, (.row 41 1 [[(LV.sl 2 0 (y13.map iC).length)]])), (2, (.row 3 1 (y13.map iC))), (4, (.row 3 1 (s23.1.map iC))), (5, (.row 3 1 [[(I s23.2)]]))]⟩) hO23 (fun s23 o23 b23 K23 hret23 hbrk23 => ?_)
      unfold flood_Path_b23 at b23
      refine LoopW.round TT_ok [0, 1, 2, 3, 4, 8, 9, 10, 11, 12, 13, 14, 15, 16, 24, 34, 43, 58, 1000213, 1000215, 2000215] ?_
      conv => whnf
      repeat' first | with_reducible rfl | with_reducible exact True.intro | with_reducible assumption | refine parkI ?_ | (refine And.intro ?_ ?_ <;> conv => whnf) | fail
      refine parkE (fun hc => ?_) (fun hc => ?_)
      · replace b23 := condT hc b23
        conv => whnf
        replace b23 := bindS b23
        obtain ⟨y20, hy20, b23⟩ := b23
        have c21 : CallF Try.prog 281 [(I s23.2), (LV.rptr [(LV.ro 1 (y18.map (roC 1 iC)))])] 3 1 (y20.map iC) := by first | exact cf_flood_neighbours_1 s23.2 y18 _ hy20 | (simpa only [se_map, se_byL, se_len, se_ch, List.length_map] using cf_flood_neighbours_1 s23.2 y18 _ hy20)
        replace b23 := bindS b23
        obtain ⟨y26, hy26, b23⟩ := b23
        have c27 := c_slices_IndexFunc_int y20 214 [] [(LV.rptr [(LV.ro 1 (y13.map iC))]), (LV.rptr [(I s23.2)])] (fun x0_ => flood_Path_1 x0_ y13 s23.2) (fun x0_ r h => c_flood_Path_1 x0_ y13 s23.2 r h) (by repeat' first | exact True.intro | refine ⟨?_, ?_⟩) _ hy26
        replace b23 := grdS b23
        obtain ⟨g28, b23⟩ := b23
        replace g28 : (0 : Int) ≤ y26 ∧ y26 < (((y20.map iC).length : Nat) : Int) := by simpa only [se_len, se_ch, List.length_map] using g28
        replace b23 := bindS b23
        obtain ⟨v29, hv29, b23⟩ := b23
        have i30 : nth (y20.map iC) (0 + ((y26 : Int).toNat)) = some [(I v29)] := by simpa only [se_map, se_len, se_ch, List.length_map, nth_eq, Nat.zero_add, List.getElem?_map] using gixNF (f := iC) hv29
        replace b23 := grdS b23
        obtain ⟨g31, b23⟩ := b23
        replace g31 : fits (((s23.1.map iC) ++ [[(I v29)]])).length 8 := by simpa only [se_len, se_ch, List.length_map] using g31
        repeat' first | with_reducible rfl | with_reducible exact True.intro | with_reducible assumption | refine parkI ?_ | exact g28 | exact g31 | (refine CallW.done (CallF.at c21 (by repeat' first | exact True.intro | assumption | refine ⟨?_, ?_⟩) (NLss_map' _)) ?_; conv => whnf) | (refine ⟨_, _, CallF.at c21 (by repeat' first | exact True.intro | assumption | refine ⟨?_, ?_⟩) (NLss_map' _), ?_⟩; conv => whnf) | (refine CallW.done (CallP.lendG c27 (by repeat' first | exact True.intro | refine ⟨?_, ?_⟩) (show Lents _ [(LV.sl 6 0 (y20.map iC).length), (LV.func (.func 214) [] [(LV.ptr 3 0 0), (LV.ptr 5 0 0)])] [(LV.ro 1 (y20.map iC)), (LV.func (.func 214) [] [(LV.rptr [(LV.ro 1 (y13.map iC))]), (LV.rptr [(I s23.2)])])] from ⟨Lent.sl rfl (by repeat' first | exact True.intro | exact rfl | assumption | exact NLss_map' _ | refine NLss_app ?_ ?_ | refine NLss_set ?_ ?_ | refine NLss_rep ?_ | refine NLss_take ?_ | refine NLss_drop ?_ | refine ⟨?_, ?_⟩), .func True.intro ⟨.box rfl ⟨Lent.sl rfl (by repeat' first | exact True.intro | exact rfl | assumption | exact NLss_map' _ | refine NLss_app ?_ ?_ | refine NLss_set ?_ ?_ | refine NLss_rep ?_ | refine NLss_take ?_ | refine NLss_drop ?_ | refine ⟨?_, ?_⟩), True.intro⟩, .box rfl ⟨.of (by repeat' first | exact True.intro | assumption | refine ⟨?_, ?_⟩), True.intro⟩, True.intro⟩, True.intro⟩)) ?_; conv => whnf) | (rw [i30]; conv => whnf) | exact (rfl : (_ : Nat) = _) | exact NLss_map' _ | refine NLss_app ?_ ?_ | refine NLss_rep ?_ | refine NLss_set ?_ ?_ | refine NLss_take ?_ | refine NLss_drop ?_ | (refine And.intro ?_ ?_ <;> conv => whnf) | (simp only [se_map, se_byL]; exact rfl) | (simp only [se_map, se_byL, se_len, se_ch, List.length_map]; done) | fail
        have e := Option.some.inj b23
        refine LoopW.ren [(3, 3), (2, 2), (8, 4), (9, 5)] [(2, (I a2)), (11, (LV.ptr 3 0 0)), (12, (LV.func (.func 281) [] [(LV.rptr [(LV.ro 1 (y18.map (roC 1 iC)))])])), (13, (LV.sl 4 0 (((s23.1 ++ ([v29] : (List Int))), v29).1.map iC).length)), (14, (LV.ptr 5 0 0))] 6 [(3, (.row 41 1 [[(LV.sl 2 0 (y13.map iC).length)]])), (2, (.row 3 1 (y13.map iC))), (4, (.row 3 1 (((s23.1 ++ ([v29] : (List Int))), v29).1.map iC))), (5, (.row 3 1 [[(I ((s23.1 ++ ([v29] : (List Int))), v29).2)]]))] rfl ⟨rfl, rfl, rfl, (by exact congrArg (LV.sl 4 0) (by first | (simp only [se_map, se_byL, se_len, se_ch, List.length_map]; done) | ((try simp only [se_map, se_byL, se_len, se_ch, List.length_map]); (try simp only [se_len, se_ch, List.length_map] at *); omega) : (((s23.1.map iC) ++ [[(I v29)]])).length = (((s23.1 ++ ([v29] : (List Int))), v29).1.map iC).length)), rfl, trivial⟩ ⟨⟨rfl, rfl, .inr (by first | exact rfl | (show [[(LV.sl 2 0 (y13.map iC).length)]] = [[(LV.sl 2 0 (y13.map iC).length)]]; simp only [se_map, se_byL, se_len, se_ch, List.length_map]))⟩, rfl, rfl, ⟨⟨rfl, rfl, .inl ⟨rfl, (by repeat' first | exact NLss_map' _ | refine NLss_app ?_ ?_ | refine NLss_set ?_ ?_ | refine NLss_rep ?_ | refine NLss_take ?_ | refine NLss_drop ?_ | exact True.intro | refine ⟨?_, ?_⟩)⟩⟩, rfl, rfl, ⟨⟨rfl, rfl, .inl ⟨(by simp only [se_map, se_byL, se_len, se_ch, List.length_map] : (((s23.1.map iC) ++ [[(I v29)]]) : List (List LV)) = (((s23.1 ++ ([v29] : (List Int))), v29).1.map iC)), (by repeat' first | exact NLss_map' _ | refine NLss_app ?_ ?_ | refine NLss_set ?_ ?_ | refine NLss_rep ?_ | refine NLss_take ?_ | refine NLss_drop ?_ | exact True.intro | refine ⟨?_, ?_⟩)⟩⟩, rfl, rfl, ⟨⟨rfl, rfl, .inl ⟨(by simp only [se_map, se_byL, se_len, se_ch, List.length_map] : ([[(I v29)]] : List (List LV)) = [[(I ((s23.1 ++ ([v29] : (List Int))), v29).2)]]), (by repeat' first | exact NLss_map' _ | refine NLss_app ?_ ?_ | refine NLss_set ?_ ?_ | refine NLss_rep ?_ | refine NLss_take ?_ | refine NLss_drop ?_ | exact True.intro | refine ⟨?_, ?_⟩)⟩⟩, rfl, rfl, trivial⟩⟩⟩⟩ rfl (K23 _ e.symm)
      · replace b23 := condF hc b23
        conv => whnf
        have e := Option.some.inj b23
        replace e := hbrk23 _ e.symm
        rw [e] at r23
        dsimp only [aftM] at r23
        replace r23 := bindS r23
        obtain ⟨y32, hy32, r23⟩ := r23
        have c33 := w_slices_Reverse_int s23.1 _ hy32
        have l34 := slices_Reverse_int_len hy32
        have e := Option.some.inj r23
        subst e
        repeat' first | with_reducible rfl | with_reducible exact True.intro | with_reducible assumption | (refine CallW.frame (nx2 := 6) (l2 := [(4, (.row 3 1 (y32.map iC)))]) [(4, 0)] [(0, 4)] c33 rfl rfl ⟨⟨rfl, rfl, .inl ⟨rfl, (by repeat' first | exact NLss_map' _ | refine NLss_app ?_ ?_ | refine NLss_set ?_ ?_ | refine NLss_rep ?_ | refine NLss_take ?_ | refine NLss_drop ?_ | exact True.intro | refine ⟨?_, ?_⟩)⟩⟩, rfl, rfl, trivial⟩ rfl rfl ⟨⟨rfl, rfl, .inl ⟨rfl, (by repeat' first | exact NLss_map' _ | refine NLss_app ?_ ?_ | refine NLss_set ?_ ?_ | refine NLss_rep ?_ | refine NLss_take ?_ | refine NLss_drop ?_ | exact True.intro | refine ⟨?_, ?_⟩)⟩⟩, rfl, rfl, trivial⟩ ?_; conv => whnf) | exact (congrArg Bool.not h) | exact fun _ => True.intro | exact (rfl : (_ : Nat) = _) | exact (rfl : (_ : LV) = _) | exact NLss_map' _ | refine NLss_app ?_ ?_ | refine NLss_rep ?_ | refine NLss_set ?_ ?_ | refine NLss_take ?_ | refine NLss_drop ?_ | (refine And.intro ?_ ?_ <;> conv => whnf) | (intro h; (conv => whnf) <;> first | with_reducible rfl | assumption | exact h | exact (congrArg Bool.not h) | (refine ⟨h, True.intro⟩) | (refine ⟨congrArg Bool.not h, True.intro⟩) | (refine ⟨by assumption, True.intro⟩)) | (intro h; exact (Bool.false_ne_true (h.symm.trans (by assumption))).elim) | (intro h; exact (Bool.false_ne_true (Eq.trans (Eq.symm (by assumption)) h)).elim) | (intros; simp_all; done) | (intros; exfalso; simp_all; done) | (refine gand ?_ h; assumption) | (simp only [se_map, se_byL]; exact rfl) | (simp only [se_map, se_byL, se_len, se_ch, List.length_map]; done) | fail

end Go.RX
