/- Plain functions, and what says that the program's functions compute them. -/
import Derived.Test.YtoahcombdhgmhaaLa
import Derived.Test.YtoahcombdhgmhaaLh
import Derived.Test.YtoahcombdhgmhaaRXB
set_option linter.unusedVariables false
set_option linter.unusedSimpArgs false
open Go Go.RX Go.Proofs
namespace Go.RX
set_option maxRecDepth 10000
set_option maxHeartbeats 4000000
attribute [local irreducible] CallW CallP LoopW W IntKind.wrap bitI
def law17_few_b14  (k14 : Nat) (x14 : PlanT) (s14 : (List PlanT)) : Option (Step LanT (List PlanT)) :=
  grd ((0 : Int) ≤ (mn ((x14.Ports.length : Nat) : Int) 10) ∧ (mn ((x14.Ports.length : Nat) : Int) 10) ≤ ((x14.Ports.length : Nat) : Int)) <|
  grd (fits ((s14 ++ ([(⟨x14.ID, (x14.Ports.take ((mn ((x14.Ports.length : Nat) : Int) 10) : Int).toNat)⟩ : PlanT)] : (List PlanT))) : List PlanT).length 32) <|
  some (.nxt (s14 ++ ([(⟨x14.ID, (x14.Ports.take ((mn ((x14.Ports.length : Nat) : Int) 10) : Int).toNat)⟩ : PlanT)] : (List PlanT))))

def law17_few (a0 : LanT) : Option LanT :=
  grd ((0 : Int) ≤ (mn ((a0.Plans.length : Nat) : Int) 8) ∧ (mn ((a0.Plans.length : Nat) : Int) 8) ≤ ((a0.Plans.length : Nat) : Int)) <|
  aft (rangeL (law17_few_b14 ) (a0.Plans.take ((mn ((a0.Plans.length : Nat) : Int) 8) : Int).toNat) ([] : (List PlanT))) fun s14 =>
  grd ((0 : Int) ≤ (mn ((a0.Hosts.length : Nat) : Int) 12) ∧ (mn ((a0.Hosts.length : Nat) : Int) 12) ≤ ((a0.Hosts.length : Nat) : Int)) <|
  some (⟨a0.Segs, s14, (a0.Hosts.take ((mn ((a0.Hosts.length : Nat) : Int) 12) : Int).toNat)⟩ : LanT)

theorem c_law17_few (a0 : LanT) (r : LanT) (h : law17_few a0 = some r) : CallP Try.prog 102 [(LV.agg [(I a0.Segs), (LV.ro 2 (a0.Plans.map PlanT.cells)), (LV.ro 2 (a0.Hosts.map HostT.cells))])] (LV.agg [(I r.Segs), (LV.ro 2 (r.Plans.map PlanT.cells)), (LV.ro 2 (r.Hosts.map HostT.cells))]) := by
  unfold law17_few at h
  refine .intro (by repeat' first | exact True.intro | assumption | refine ⟨?_, ?_⟩) (.intro TT_ok Try.func102 rfl rfl [0, 1, 2, 3, 5, 12, 13, 14, 15] rfl ?_)
  conv => whnf
  replace h := grdS h
  obtain ⟨g1, h⟩ := h
  replace g1 : (0 : Int) ≤ (mn (((a0.Plans.map PlanT.cells).length : Nat) : Int) 8) ∧ (mn (((a0.Plans.map PlanT.cells).length : Nat) : Int) 8) ≤ (((a0.Plans.map PlanT.cells).length : Nat) : Int) := by simpa only [se_len, se_ch, List.length_map] using g1
  repeat' first | with_reducible rfl | with_reducible exact True.intro | with_reducible assumption | refine parkI ?_ | exact g1 | (refine W.drawnM (id := 8) 0 TT_ok hmix1 [0, 0, 0, 0, 0, 0, 0, 0, 0, 0, 1, 1] [0, 0, 0, 0, 0, 1, 1, 1, 0, 1, 1, 2] rfl ?_; conv => whnf) | exact (congrArg Bool.not h) | exact fun _ => True.intro | exact (rfl : (_ : Nat) = _) | exact (rfl : (_ : LV) = _) | exact NLss_map' _ | refine NLss_app ?_ ?_ | refine NLss_set ?_ ?_ | (refine And.intro ?_ ?_ <;> conv => whnf) | (intro h; (conv => whnf) <;> first | with_reducible rfl | assumption | exact h | exact (congrArg Bool.not h) | (refine ⟨h, True.intro⟩) | (refine ⟨congrArg Bool.not h, True.intro⟩) | (refine ⟨by assumption, True.intro⟩)) | (intro h; exact (Bool.false_ne_true (h.symm.trans (by assumption))).elim) | (intros; simp_all; done) | (refine gand ?_ h; assumption) | (simp only [se_map, se_byL]; exact rfl) | (simp only [se_map, se_byL, se_len, se_ch, List.length_map]; done) | fail
  replace h := aftS h
  obtain ⟨O14, hO14, r14⟩ := h
  refine LoopW.virt 3 53 2 rfl ?_
  refine LoopW.norm [(1, (LV.ptr 0 0 0)), (2, (LV.ptr 1 0 0)), (3, (LV.sl 2 0 (([] : (List PlanT)).map PlanT.cells).length)), (12, (LV.ro 2 ((a0.Plans.map PlanT.cells).take ((mn (((a0.Plans.map PlanT.cells).length : Nat) : Int) 8) : Int).toNat))), (13, (I ((((a0.Plans.map PlanT.cells).take ((mn (((a0.Plans.map PlanT.cells).length : Nat) : Int) 8) : Int).toNat).length : Nat) : Int))), (14, (I ((0 : Nat) : Int)))] 3 [(0, (.row 47 3 [[(I a0.Segs), (LV.ro 2 (a0.Plans.map PlanT.cells)), (LV.ro 2 (a0.Hosts.map HostT.cells))]])), (1, (.row 47 3 [[(I 0), LV.nils, LV.nils]])), (2, (.row 53 2 (([] : (List PlanT)).map PlanT.cells)))] ⟨rfl, rfl, (by exact congrArg (LV.sl 2 0) (by first | (simp only [se_map, se_byL, se_len, se_ch, List.length_map]; done) | ((try simp only [se_map, se_byL, se_len, se_ch, List.length_map]); (try simp only [se_len, se_ch, List.length_map] at *); omega) : 0 = (([] : (List PlanT)).map PlanT.cells).length)), rfl, rfl, rfl, trivial⟩ ⟨⟨rfl, rfl, (by repeat' first | exact True.intro | exact rfl | exact NLs_bels (by assumption) | refine ⟨?_, ?_⟩)⟩, ⟨⟨rfl, rfl, (by repeat' first | exact True.intro | exact rfl | exact NLs_bels (by assumption) | refine ⟨?_, ?_⟩)⟩, ⟨⟨(congrArg (fun q => some (Blk.row 53 2 q)) (by simp only [se_map, se_byL, se_len, se_ch, List.length_map] : ([] : List (List LV)) = (([] : (List PlanT)).map PlanT.cells))), rfl, NLss_bel (NLss_map' _)⟩, trivial⟩⟩⟩ (by repeat' first | exact True.intro | exact rfl | exact NLs_bels (by assumption) | refine ⟨?_, ?_⟩) rfl ?_
  refine LoopW.forR (fun k14 s14 => [(1, (LV.ptr 0 0 0)), (2, (LV.ptr 1 0 0)), (3, (LV.sl 2 0 (s14.map PlanT.cells).length)), (12, (LV.ro 2 ((a0.Plans.map PlanT.cells).take ((mn (((a0.Plans.map PlanT.cells).length : Nat) : Int) 8) : Int).toNat))), (13, (I ((((a0.Plans.map PlanT.cells).take ((mn (((a0.Plans.map PlanT.cells).length : Nat) : Int) 8) : Int).toNat).length : Nat) : Int))), (14, (I ((k14 : Nat) : Int)))]) (fun s14 => ⟨3, [(0, (.row 47 3 [[(I a0.Segs), (LV.ro 2 (a0.Plans.map PlanT.cells)), (LV.ro 2 (a0.Hosts.map HostT.cells))]])), (1, (.row 47 3 [[(I 0), LV.nils, LV.nils]])), (2, (.row 53 2 (s14.map PlanT.cells)))]⟩) hO14 (fun hl14 s14 hs14 => ?_) (fun hl14 k14 x14 s14 o14 hk14 hx14 b14 K14 hret14 hbrk14 => ?_)
  · rw [hs14] at r14
    dsimp only [aftM] at r14
    have hd : decide ((((a0.Plans.take ((mn ((a0.Plans.length : Nat) : Int) 8) : Int).toNat).length : Nat) : Int) < ((((a0.Plans.map PlanT.cells).take ((mn (((a0.Plans.map PlanT.cells).length : Nat) : Int) 8) : Int).toNat).length : Nat) : Int)) = false := by rw [decide_eq_false_iff_not]; (try simp only [se_len, se_ch, List.length_map]); omega
    refine LoopW.round TT_ok [0, 1, 2, 3, 5, 12, 13, 14, 15] ?_
    conv => whnf
    repeat' first | with_reducible rfl | with_reducible exact True.intro | with_reducible assumption | refine parkI ?_ | (refine W.drawnM (id := 8) 0 TT_ok hmix1 [0, 0, 0, 0, 0, 0, 0, 0, 0, 0, 1, 1] [0, 0, 0, 0, 0, 1, 1, 1, 0, 1, 1, 2] rfl ?_; conv => whnf) | exact (congrArg Bool.not h) | exact fun _ => True.intro | exact (rfl : (_ : Nat) = _) | exact (rfl : (_ : LV) = _) | exact NLss_map' _ | refine NLss_app ?_ ?_ | refine NLss_set ?_ ?_ | (refine And.intro ?_ ?_ <;> conv => whnf) | (intro h; (conv => whnf) <;> first | with_reducible rfl | assumption | exact h | exact (congrArg Bool.not h) | (refine ⟨h, True.intro⟩) | (refine ⟨congrArg Bool.not h, True.intro⟩) | (refine ⟨by assumption, True.intro⟩)) | (intro h; exact (Bool.false_ne_true (h.symm.trans (by assumption))).elim) | (intros; simp_all; done) | (refine gand ?_ h; assumption) | (simp only [se_map, se_byL]; exact rfl) | (simp only [se_map, se_byL, se_len, se_ch, List.length_map]; done) | fail
    refine parkE (fun hc => ?_) (fun hc => ?_)
    · exact (Bool.false_ne_true (hd.symm.trans hc)).elim
    · clear hd
      conv => whnf
      replace r14 := grdS r14
      obtain ⟨g4, r14⟩ := r14
      replace g4 : (0 : Int) ≤ (mn (((a0.Hosts.map HostT.cells).length : Nat) : Int) 12) ∧ (mn (((a0.Hosts.map HostT.cells).length : Nat) : Int) 12) ≤ (((a0.Hosts.map HostT.cells).length : Nat) : Int) := by simpa only [se_len, se_ch, List.length_map] using g4
      have e := Option.some.inj r14
      subst e
      repeat' first | with_reducible rfl | with_reducible exact True.intro | with_reducible assumption | exact g4 | (refine W.drawnM (id := 8) 0 TT_ok hmix1 [0, 0, 0, 0, 0, 0, 0, 0, 0, 0, 1, 1] [0, 0, 0, 0, 0, 1, 1, 1, 0, 1, 1, 2] rfl ?_; conv => whnf) | exact (congrArg Bool.not h) | exact fun _ => True.intro | exact (rfl : (_ : Nat) = _) | exact (rfl : (_ : LV) = _) | exact NLss_map' _ | refine NLss_app ?_ ?_ | refine NLss_set ?_ ?_ | (refine And.intro ?_ ?_ <;> conv => whnf) | (intro h; (conv => whnf) <;> first | with_reducible rfl | assumption | exact h | exact (congrArg Bool.not h) | (refine ⟨h, True.intro⟩) | (refine ⟨congrArg Bool.not h, True.intro⟩) | (refine ⟨by assumption, True.intro⟩)) | (intro h; exact (Bool.false_ne_true (h.symm.trans (by assumption))).elim) | (intros; simp_all; done) | (refine gand ?_ h; assumption) | (simp only [se_map, se_byL]; exact rfl) | (simp only [se_map, se_byL, se_len, se_ch, List.length_map]; done) | fail
  · unfold law17_few_b14 at b14
    have fx14 : (0 : Int) ≤ ((k14 : Nat) : Int) ∧ (((a0.Plans.map PlanT.cells).take ((mn (((a0.Plans.map PlanT.cells).length : Nat) : Int) 8) : Int).toNat))[((k14 : Nat) : Int).toNat]? = some (PlanT.cells x14) := by (have h0 := kixF (f := PlanT.cells) hx14); simpa only [se_map, se_len, se_byL, List.length_map] using h0
    have hd : decide (((k14 : Nat) : Int) < ((((a0.Plans.map PlanT.cells).take ((mn (((a0.Plans.map PlanT.cells).length : Nat) : Int) 8) : Int).toNat).length : Nat) : Int)) = true := by rw [decide_eq_true_eq]; (try simp only [se_len, se_ch, List.length_map] at hk14); (try simp only [se_len, se_ch, List.length_map]); omega
    refine LoopW.round TT_ok [0, 1, 2, 3, 5, 12, 13, 14, 15] ?_
    conv => whnf
    repeat' first | with_reducible rfl | with_reducible exact True.intro | with_reducible assumption | refine parkI ?_ | (refine W.drawnM (id := 8) 0 TT_ok hmix1 [0, 0, 0, 0, 0, 0, 0, 0, 0, 0, 1, 1] [0, 0, 0, 0, 0, 1, 1, 1, 0, 1, 1, 2] rfl ?_; conv => whnf) | exact (congrArg Bool.not h) | exact fun _ => True.intro | exact (rfl : (_ : Nat) = _) | exact (rfl : (_ : LV) = _) | exact NLss_map' _ | refine NLss_app ?_ ?_ | refine NLss_set ?_ ?_ | (refine And.intro ?_ ?_ <;> conv => whnf) | (intro h; (conv => whnf) <;> first | with_reducible rfl | assumption | exact h | exact (congrArg Bool.not h) | (refine ⟨h, True.intro⟩) | (refine ⟨congrArg Bool.not h, True.intro⟩) | (refine ⟨by assumption, True.intro⟩)) | (intro h; exact (Bool.false_ne_true (h.symm.trans (by assumption))).elim) | (intros; simp_all; done) | (refine gand ?_ h; assumption) | (simp only [se_map, se_byL]; exact rfl) | (simp only [se_map, se_byL, se_len, se_ch, List.length_map]; done) | fail
    refine parkE (fun hc => ?_) (fun hc => ?_)
    · clear hd
      conv => whnf
      replace b14 := grdS b14
      obtain ⟨g2, b14⟩ := b14
      replace g2 : (0 : Int) ≤ (mn (((x14.Ports.map LinkT.cells).length : Nat) : Int) 10) ∧ (mn (((x14.Ports.map LinkT.cells).length : Nat) : Int) 10) ≤ (((x14.Ports.map LinkT.cells).length : Nat) : Int) := by simpa only [se_len, se_ch, List.length_map] using g2
      replace b14 := grdS b14
      obtain ⟨g3, b14⟩ := b14
      replace g3 : fits (((s14.map PlanT.cells) ++ [[(I x14.ID), (LV.ro 3 ((x14.Ports.map LinkT.cells).take ((mn (((x14.Ports.map LinkT.cells).length : Nat) : Int) 10) : Int).toNat))]])).length 32 := by simpa only [se_len, se_ch, List.length_map] using g3
      repeat' first | with_reducible rfl | with_reducible exact True.intro | with_reducible assumption | refine parkI ?_ | (refine ⟨_, fx14, ?_⟩; conv => whnf) | exact g2 | exact g3 | (refine W.drawnM (id := 8) 0 TT_ok hmix1 [0, 0, 0, 0, 0, 0, 0, 0, 0, 0, 1, 1] [0, 0, 0, 0, 0, 1, 1, 1, 0, 1, 1, 2] rfl ?_; conv => whnf) | exact (congrArg Bool.not h) | exact fun _ => True.intro | exact (rfl : (_ : Nat) = _) | exact (rfl : (_ : LV) = _) | exact NLss_map' _ | refine NLss_app ?_ ?_ | refine NLss_set ?_ ?_ | (refine And.intro ?_ ?_ <;> conv => whnf) | (intro h; (conv => whnf) <;> first | with_reducible rfl | assumption | exact h | exact (congrArg Bool.not h) | (refine ⟨h, True.intro⟩) | (refine ⟨congrArg Bool.not h, True.intro⟩) | (refine ⟨by assumption, True.intro⟩)) | (intro h; exact (Bool.false_ne_true (h.symm.trans (by assumption))).elim) | (intros; simp_all; done) | (refine gand ?_ h; assumption) | (simp only [se_map, se_byL]; exact rfl) | (simp only [se_map, se_byL, se_len, se_ch, List.length_map]; done) | fail
      have e := Option.some.inj b14
      refine LoopW.ren [(0, 0), (1, 1), (5, 2)] [(1, (LV.ptr 0 0 0)), (2, (LV.ptr 1 0 0)), (3, (LV.sl 2 0 ((s14 ++ ([(⟨x14.ID, (x14.Ports.take ((mn ((x14.Ports.length : Nat) : Int) 10) : Int).toNat)⟩ : PlanT)] : (List PlanT))).map PlanT.cells).length)), (12, (LV.ro 2 ((a0.Plans.map PlanT.cells).take ((mn (((a0.Plans.map PlanT.cells).length : Nat) : Int) 8) : Int).toNat))), (13, (I ((((a0.Plans.map PlanT.cells).take ((mn (((a0.Plans.map PlanT.cells).length : Nat) : Int) 8) : Int).toNat).length : Nat) : Int))), (14, (I ((k14 + 1 : Nat) : Int)))] 3 [(0, (.row 47 3 [[(I a0.Segs), (LV.ro 2 (a0.Plans.map PlanT.cells)), (LV.ro 2 (a0.Hosts.map HostT.cells))]])), (1, (.row 47 3 [[(I 0), LV.nils, LV.nils]])), (2, (.row 53 2 ((s14 ++ ([(⟨x14.ID, (x14.Ports.take ((mn ((x14.Ports.length : Nat) : Int) 10) : Int).toNat)⟩ : PlanT)] : (List PlanT))).map PlanT.cells)))] rfl ⟨rfl, rfl, (by exact congrArg (LV.sl 2 0) (by first | (simp only [se_map, se_byL, se_len, se_ch, List.length_map]; done) | ((try simp only [se_map, se_byL, se_len, se_ch, List.length_map]); (try simp only [se_len, se_ch, List.length_map] at *); omega) : (((s14.map PlanT.cells) ++ [[(I x14.ID), (LV.ro 3 ((x14.Ports.map LinkT.cells).take ((mn (((x14.Ports.map LinkT.cells).length : Nat) : Int) 10) : Int).toNat))]])).length = ((s14 ++ ([(⟨x14.ID, (x14.Ports.take ((mn ((x14.Ports.length : Nat) : Int) 10) : Int).toNat)⟩ : PlanT)] : (List PlanT))).map PlanT.cells).length)), rfl, rfl, (congrArg (LV.int .i64) (w64_nat _ (by omega))), trivial⟩ ⟨⟨rfl, rfl, .inl ⟨rfl, (by repeat' first | exact NLss_map' _ | refine NLss_app ?_ ?_ | refine NLss_set ?_ ?_ | exact True.intro | refine ⟨?_, ?_⟩)⟩⟩, rfl, rfl, ⟨⟨rfl, rfl, .inl ⟨rfl, (by repeat' first | exact NLss_map' _ | refine NLss_app ?_ ?_ | refine NLss_set ?_ ?_ | exact True.intro | refine ⟨?_, ?_⟩)⟩⟩, rfl, rfl, ⟨⟨rfl, rfl, .inl ⟨(by first | (simp only [se_map, se_byL, se_len, se_ch, List.length_map]; done) | (simp only [se_map, se_byL, se_len, se_ch, List.length_map, PlanT.cells]; done) : (((s14.map PlanT.cells) ++ [[(I x14.ID), (LV.ro 3 ((x14.Ports.map LinkT.cells).take ((mn (((x14.Ports.map LinkT.cells).length : Nat) : Int) 10) : Int).toNat))]]) : List (List LV)) = ((s14 ++ ([(⟨x14.ID, (x14.Ports.take ((mn ((x14.Ports.length : Nat) : Int) 10) : Int).toNat)⟩ : PlanT)] : (List PlanT))).map PlanT.cells)), (by repeat' first | exact NLss_map' _ | refine NLss_app ?_ ?_ | refine NLss_set ?_ ?_ | exact True.intro | refine ⟨?_, ?_⟩)⟩⟩, rfl, rfl, trivial⟩⟩⟩ rfl (K14 _ e.symm)
    · exact (Bool.false_ne_true (hc.symm.trans hd)).elim

def law17_rows_b15  (k15 : Nat) (x15 : (List Bool)) (s15 : (List (List Bool))) : Option (Step (List (List Bool)) (List (List Bool))) :=
  grd ((0 : Int) ≤ (mn ((x15.length : Nat) : Int) 10) ∧ (mn ((x15.length : Nat) : Int) 10) ≤ ((x15.length : Nat) : Int)) <|
  grd (fits ((s15 ++ ([(x15.take ((mn ((x15.length : Nat) : Int) 10) : Int).toNat)] : (List (List Bool)))) : List (List Bool)).length 24) <|
  some (.nxt (s15 ++ ([(x15.take ((mn ((x15.length : Nat) : Int) 10) : Int).toNat)] : (List (List Bool)))))

def law17_rows (a0 : (List (List Bool))) : Option (List (List Bool)) :=
  grd ((0 : Int) ≤ (mn ((a0.length : Nat) : Int) 8) ∧ (mn ((a0.length : Nat) : Int) 8) ≤ ((a0.length : Nat) : Int)) <|
  aft (rangeL (law17_rows_b15 ) (a0.take ((mn ((a0.length : Nat) : Int) 8) : Int).toNat) ([] : (List (List Bool)))) fun s15 =>
  some s15

theorem cf_law17_rows (a0 : (List (List Bool))) (r : (List (List Bool))) (h : law17_rows a0 = some r) : CallF Try.prog 103 [(LV.ro 1 (a0.map (roC 1 bC)))] 73 1 (r.map (roC 1 bC)) := by
  unfold law17_rows at h
  refine CallF.of (NLss_map' _) (CallW.intro TT_ok Try.func103 rfl rfl [0, 2, 3, 5, 10, 11, 12, 13] rfl ?_)
  conv => whnf
  replace h := grdS h
  obtain ⟨g5, h⟩ := h
  replace g5 : (0 : Int) ≤ (mn (((a0.map (roC 1 bC)).length : Nat) : Int) 8) ∧ (mn (((a0.map (roC 1 bC)).length : Nat) : Int) 8) ≤ (((a0.map (roC 1 bC)).length : Nat) : Int) := by simpa only [se_len, se_ch, List.length_map] using g5
  repeat' first | with_reducible rfl | with_reducible exact True.intro | with_reducible assumption | refine parkI ?_ | exact g5 | (refine And.intro ?_ ?_ <;> conv => whnf) | fail
  replace h := aftS h
  obtain ⟨O15, hO15, r15⟩ := h
  refine LoopW.virt 3 73 1 rfl ?_
  refine LoopW.norm [(3, (LV.sl 0 0 (([] : (List (List Bool))).map (roC 1 bC)).length)), (10, (LV.ro 1 ((a0.map (roC 1 bC)).take ((mn (((a0.map (roC 1 bC)).length : Nat) : Int) 8) : Int).toNat))), (11, (I ((((a0.map (roC 1 bC)).take ((mn (((a0.map (roC 1 bC)).length : Nat) : Int) 8) : Int).toNat).length : Nat) : Int))), (12, (I ((0 : Nat) : Int)))] 1 [(0, (.row 73 1 (([] : (List (List Bool))).map (roC 1 bC))))] ⟨(by exact congrArg (LV.sl 0 0) (by first | (simp only [se_map, se_byL, se_len, se_ch, List.length_map]; done) | ((try simp only [se_map, se_byL, se_len, se_ch, List.length_map]); (try simp only [se_len, se_ch, List.length_map] at *); omega) : 0 = (([] : (List (List Bool))).map (roC 1 bC)).length)), rfl, rfl, rfl, trivial⟩ ⟨⟨(congrArg (fun q => some (Blk.row 73 1 q)) (by first | (simp only [se_map, se_byL, se_len, se_ch, List.length_map]; done) | (simp only [se_map, se_byL, se_len, se_ch, List.length_map, roC]; done) : ([] : List (List LV)) = (([] : (List (List Bool))).map (roC 1 bC)))), rfl, NLss_bel (NLss_map' _)⟩, trivial⟩ (by repeat' first | exact True.intro | exact rfl | exact NLs_bels (by assumption) | refine ⟨?_, ?_⟩) rfl ?_
  refine LoopW.forR (fun k15 s15 => [(3, (LV.sl 0 0 (s15.map (roC 1 bC)).length)), (10, (LV.ro 1 ((a0.map (roC 1 bC)).take ((mn (((a0.map (roC 1 bC)).length : Nat) : Int) 8) : Int).toNat))), (11, (I ((((a0.map (roC 1 bC)).take ((mn (((a0.map (roC 1 bC)).length : Nat) : Int) 8) : Int).toNat).length : Nat) : Int))), (12, (I ((k15 : Nat) : Int)))]) (fun s15 => ⟨1, [(0, (.row 73 1 (s15.map (roC 1 bC))))]⟩) hO15 (fun hl15 s15 hs15 => ?_) (fun hl15 k15 x15 s15 o15 hk15 hx15 b15 K15 hret15 hbrk15 => ?_)
  · rw [hs15] at r15
    dsimp only [aftM] at r15
    have hd : decide ((((a0.take ((mn ((a0.length : Nat) : Int) 8) : Int).toNat).length : Nat) : Int) < ((((a0.map (roC 1 bC)).take ((mn (((a0.map (roC 1 bC)).length : Nat) : Int) 8) : Int).toNat).length : Nat) : Int)) = false := by rw [decide_eq_false_iff_not]; (try simp only [se_len, se_ch, List.length_map]); omega
    refine LoopW.round TT_ok [0, 2, 3, 5, 10, 11, 12, 13] ?_
    conv => whnf
    repeat' first | with_reducible rfl | with_reducible exact True.intro | with_reducible assumption | refine parkI ?_ | (refine And.intro ?_ ?_ <;> conv => whnf) | fail
    refine parkE (fun hc => ?_) (fun hc => ?_)
    · exact (Bool.false_ne_true (hd.symm.trans hc)).elim
    · clear hd
      conv => whnf
      have e := Option.some.inj r15
      subst e
      repeat' first | with_reducible rfl | with_reducible exact True.intro | with_reducible assumption | exact Or.inr ⟨_, rfl, congrArg (fun q => some (Blk.row 73 1 q)) rfl⟩ | exact (congrArg Bool.not h) | exact fun _ => True.intro | exact (rfl : (_ : Nat) = _) | exact (rfl : (_ : LV) = _) | exact NLss_map' _ | refine NLss_app ?_ ?_ | refine NLss_set ?_ ?_ | (refine And.intro ?_ ?_ <;> conv => whnf) | (intro h; (conv => whnf) <;> first | with_reducible rfl | assumption | exact h | exact (congrArg Bool.not h) | (refine ⟨h, True.intro⟩) | (refine ⟨congrArg Bool.not h, True.intro⟩) | (refine ⟨by assumption, True.intro⟩)) | (intro h; exact (Bool.false_ne_true (h.symm.trans (by assumption))).elim) | (intros; simp_all; done) | (refine gand ?_ h; assumption) | (simp only [se_map, se_byL]; exact rfl) | (simp only [se_map, se_byL, se_len, se_ch, List.length_map]; done) | fail
  · unfold law17_rows_b15 at b15
    have fx15 : (0 : Int) ≤ ((k15 : Nat) : Int) ∧ (((a0.map (roC 1 bC)).take ((mn (((a0.map (roC 1 bC)).length : Nat) : Int) 8) : Int).toNat))[((k15 : Nat) : Int).toNat]? = some ((roC 1 bC) x15) := by (have h0 := kixF (f := (roC 1 bC)) hx15); simpa only [se_map, se_len, se_byL, List.length_map] using h0
    have hd : decide (((k15 : Nat) : Int) < ((((a0.map (roC 1 bC)).take ((mn (((a0.map (roC 1 bC)).length : Nat) : Int) 8) : Int).toNat).length : Nat) : Int)) = true := by rw [decide_eq_true_eq]; (try simp only [se_len, se_ch, List.length_map] at hk15); (try simp only [se_len, se_ch, List.length_map]); omega
    refine LoopW.round TT_ok [0, 2, 3, 5, 10, 11, 12, 13] ?_
    conv => whnf
    repeat' first | with_reducible rfl | with_reducible exact True.intro | with_reducible assumption | refine parkI ?_ | (refine And.intro ?_ ?_ <;> conv => whnf) | fail
    refine parkE (fun hc => ?_) (fun hc => ?_)
    · clear hd
      conv => whnf
      replace b15 := grdS b15
      obtain ⟨g6, b15⟩ := b15
      replace g6 : (0 : Int) ≤ (mn (((x15.map bC).length : Nat) : Int) 10) ∧ (mn (((x15.map bC).length : Nat) : Int) 10) ≤ (((x15.map bC).length : Nat) : Int) := by simpa only [se_len, se_ch, List.length_map] using g6
      replace b15 := grdS b15
      obtain ⟨g7, b15⟩ := b15
      replace g7 : fits (((s15.map (roC 1 bC)) ++ [[(LV.ro 1 ((x15.map bC).take ((mn (((x15.map bC).length : Nat) : Int) 10) : Int).toNat))]])).length 24 := by simpa only [se_len, se_ch, List.length_map] using g7
      repeat' first | with_reducible rfl | with_reducible exact True.intro | with_reducible assumption | refine parkI ?_ | (refine ⟨_, fx15, ?_⟩; conv => whnf) | exact g6 | exact g7 | exact (rfl : (_ : Nat) = _) | exact NLss_map' _ | refine NLss_app ?_ ?_ | refine NLss_set ?_ ?_ | (refine And.intro ?_ ?_ <;> conv => whnf) | (simp only [se_map, se_byL]; exact rfl) | (simp only [se_map, se_byL, se_len, se_ch, List.length_map]; done) | fail
      have e := Option.some.inj b15
      refine LoopW.ren [(2, 0)] [(3, (LV.sl 0 0 ((s15 ++ ([(x15.take ((mn ((x15.length : Nat) : Int) 10) : Int).toNat)] : (List (List Bool)))).map (roC 1 bC)).length)), (10, (LV.ro 1 ((a0.map (roC 1 bC)).take ((mn (((a0.map (roC 1 bC)).length : Nat) : Int) 8) : Int).toNat))), (11, (I ((((a0.map (roC 1 bC)).take ((mn (((a0.map (roC 1 bC)).length : Nat) : Int) 8) : Int).toNat).length : Nat) : Int))), (12, (I ((k15 + 1 : Nat) : Int)))] 1 [(0, (.row 73 1 ((s15 ++ ([(x15.take ((mn ((x15.length : Nat) : Int) 10) : Int).toNat)] : (List (List Bool)))).map (roC 1 bC))))] rfl ⟨(by exact congrArg (LV.sl 0 0) (by first | (simp only [se_map, se_byL, se_len, se_ch, List.length_map]; done) | ((try simp only [se_map, se_byL, se_len, se_ch, List.length_map]); (try simp only [se_len, se_ch, List.length_map] at *); omega) : (((s15.map (roC 1 bC)) ++ [[(LV.ro 1 ((x15.map bC).take ((mn (((x15.map bC).length : Nat) : Int) 10) : Int).toNat))]])).length = ((s15 ++ ([(x15.take ((mn ((x15.length : Nat) : Int) 10) : Int).toNat)] : (List (List Bool)))).map (roC 1 bC)).length)), rfl, rfl, (congrArg (LV.int .i64) (w64_nat _ (by omega))), trivial⟩ ⟨⟨rfl, rfl, .inl ⟨(by first | (simp only [se_map, se_byL, se_len, se_ch, List.length_map]; done) | (simp only [se_map, se_byL, se_len, se_ch, List.length_map, roC]; done) : (((s15.map (roC 1 bC)) ++ [[(LV.ro 1 ((x15.map bC).take ((mn (((x15.map bC).length : Nat) : Int) 10) : Int).toNat))]]) : List (List LV)) = ((s15 ++ ([(x15.take ((mn ((x15.length : Nat) : Int) 10) : Int).toNat)] : (List (List Bool)))).map (roC 1 bC))), (by repeat' first | exact NLss_map' _ | refine NLss_app ?_ ?_ | refine NLss_set ?_ ?_ | exact True.intro | refine ⟨?_, ?_⟩)⟩⟩, rfl, rfl, trivial⟩ rfl (K15 _ e.symm)
    · exact (Bool.false_ne_true (hc.symm.trans hd)).elim

theorem c_law17_rows (a0 : (List (List Bool))) (r : (List (List Bool))) (h : law17_rows a0 = some r) : CallP Try.prog 103 [(LV.ro 1 (a0.map (roC 1 bC)))] (LV.ro 1 (r.map (roC 1 bC))) := by
  exact CallF.toP (cf_law17_rows a0 r h) (by repeat' first | exact True.intro | assumption | refine ⟨?_, ?_⟩) (NLss_map' _)

def slices_IndexFunc_int_b17 (q1 : (Int → Option Bool)) (k17 : Nat) (x17 : Int) (s17 : Unit) : Option (Step Int Unit) :=
  (q1 x17).bind fun y12 =>
  (bif y12 then
    some (.ret ((k17 : Nat) : Int))
  else
    some (.nxt ()))

def slices_IndexFunc_int (a0 : (List Int)) (q1 : (Int → Option Bool)) : Option Int :=
  aft (rangeL (slices_IndexFunc_int_b17 q1) a0 ()) fun s17 =>
  some (-1)

theorem c_slices_IndexFunc_int (a0 : (List Int)) (fn1 : Nat) (ff1 fc1 : List LV) (q1 : (Int → Option Bool)) (hq1 : ∀ (x0 : Int) (r : Bool), q1 x0 = some r → CallP Try.prog fn1 (ff1 ++ [(I x0)] ++ fc1) (LV.bool r)) (hn1 : NLs ff1 ∧ NLs fc1) (r : Int) (h : slices_IndexFunc_int a0 q1 = some r) : CallP Try.prog 213 [(LV.ro 1 (a0.map iC)), (LV.func (.func fn1) ff1 fc1)] (I r) := by
  have hnA1 := hn1.1
  have hnB1 := hn1.2
  unfold slices_IndexFunc_int at h
  refine .intro (by repeat' first | exact True.intro | assumption | refine ⟨?_, ?_⟩) (.intro TT_ok Try.func213 rfl rfl [0, 1, 4, 5, 7, 8, 9, 16] rfl ?_)
  conv => whnf
  repeat' first | with_reducible rfl | with_reducible exact True.intro | with_reducible assumption | refine parkI ?_ | (refine And.intro ?_ ?_ <;> conv => whnf) | fail
  replace h := aftS h
  obtain ⟨O17, hO17, r17⟩ := h
  refine LoopW.norm [(0, (LV.ro 1 (a0.map iC))), (1, (LV.func (.func fn1) ff1 fc1)), (7, (I (((a0.map iC).length : Nat) : Int))), (8, (I ((0 : Nat) : Int)))] 0 [] ⟨rfl, rfl, rfl, rfl, trivial⟩ trivial (by repeat' first | exact True.intro | exact rfl | exact NLs_bels (by assumption) | refine ⟨?_, ?_⟩) rfl ?_
  refine LoopW.forR (fun k17 s17 => [(0, (LV.ro 1 (a0.map iC))), (1, (LV.func (.func fn1) ff1 fc1)), (7, (I (((a0.map iC).length : Nat) : Int))), (8, (I ((k17 : Nat) : Int)))]) (fun s17 => ⟨0, []⟩) hO17 (fun hl17 s17 hs17 => ?_) (fun hl17 k17 x17 s17 o17 hk17 hx17 b17 K17 hret17 hbrk17 => ?_)
  · rw [hs17] at r17
    dsimp only [aftM] at r17
    have hd : decide (((a0.length : Nat) : Int) < (((a0.map iC).length : Nat) : Int)) = false := by rw [decide_eq_false_iff_not]; (try simp only [se_len, se_ch, List.length_map]); omega
    refine LoopW.round TT_ok [0, 1, 4, 5, 7, 8, 9, 16] ?_
    conv => whnf
    repeat' first | with_reducible rfl | with_reducible exact True.intro | with_reducible assumption | refine parkI ?_ | (refine And.intro ?_ ?_ <;> conv => whnf) | fail
    refine parkE (fun hc => ?_) (fun hc => ?_)
    · exact (Bool.false_ne_true (hd.symm.trans hc)).elim
    · clear hd
      conv => whnf
      have e := Option.some.inj r17
      subst e
      repeat' first | with_reducible rfl | with_reducible exact True.intro | with_reducible assumption | exact (congrArg Bool.not h) | exact fun _ => True.intro | exact (rfl : (_ : Nat) = _) | exact (rfl : (_ : LV) = _) | exact NLss_map' _ | refine NLss_app ?_ ?_ | refine NLss_set ?_ ?_ | (refine And.intro ?_ ?_ <;> conv => whnf) | (intro h; (conv => whnf) <;> first | with_reducible rfl | assumption | exact h | exact (congrArg Bool.not h) | (refine ⟨h, True.intro⟩) | (refine ⟨congrArg Bool.not h, True.intro⟩) | (refine ⟨by assumption, True.intro⟩)) | (intro h; exact (Bool.false_ne_true (h.symm.trans (by assumption))).elim) | (intros; simp_all; done) | (refine gand ?_ h; assumption) | (simp only [se_map, se_byL]; exact rfl) | (simp only [se_map, se_byL, se_len, se_ch, List.length_map]; done) | fail
  · unfold slices_IndexFunc_int_b17 at b17
    have hd : decide (((k17 : Nat) : Int) < (((a0.map iC).length : Nat) : Int)) = true := by rw [decide_eq_true_eq]; (try simp only [se_len, se_ch, List.length_map] at hk17); (try simp only [se_len, se_ch, List.length_map]); omega
    refine LoopW.round TT_ok [0, 1, 4, 5, 7, 8, 9, 16] ?_
    conv => whnf
    repeat' first | with_reducible rfl | with_reducible exact True.intro | with_reducible assumption | refine parkI ?_ | (refine And.intro ?_ ?_ <;> conv => whnf) | fail
    refine parkE (fun hc => ?_) (fun hc => ?_)
    · clear hd
      conv => whnf
      replace b17 := bindS b17
      obtain ⟨y12, hy12, b17⟩ := b17
      have c13 := hq1 x17 _ hy12
      repeat' first | with_reducible rfl | with_reducible exact True.intro | with_reducible assumption | refine parkI ?_ | (refine ⟨_, (kixF (f := iC) hx17), ?_⟩; conv => whnf) | (refine CallP.use c13 ?_; conv => whnf) | (refine frzB_call rfl (slN_nil hn1) ?_; conv => whnf) | (refine And.intro ?_ ?_ <;> conv => whnf) | fail
      refine parkE (fun hc => ?_) (fun hc => ?_)
      · replace b17 := condT hc b17
        conv => whnf
        have e := Option.some.inj b17
        replace e := hret17 _ e.symm
        rw [e] at r17
        replace e := Option.some.inj r17
        subst e
        repeat' first | with_reducible rfl | with_reducible exact True.intro | with_reducible assumption | exact (congrArg Bool.not h) | exact fun _ => True.intro | exact (rfl : (_ : Nat) = _) | exact (rfl : (_ : LV) = _) | exact NLss_map' _ | refine NLss_app ?_ ?_ | refine NLss_set ?_ ?_ | (refine And.intro ?_ ?_ <;> conv => whnf) | (intro h; (conv => whnf) <;> first | with_reducible rfl | assumption | exact h | exact (congrArg Bool.not h) | (refine ⟨h, True.intro⟩) | (refine ⟨congrArg Bool.not h, True.intro⟩) | (refine ⟨by assumption, True.intro⟩)) | (intro h; exact (Bool.false_ne_true (h.symm.trans (by assumption))).elim) | (intros; simp_all; done) | (refine gand ?_ h; assumption) | (simp only [se_map, se_byL]; exact rfl) | (simp only [se_map, se_byL, se_len, se_ch, List.length_map]; done) | fail
      · replace b17 := condF hc b17
        conv => whnf
        repeat' first | with_reducible rfl | with_reducible exact True.intro | with_reducible assumption | refine parkI ?_ | (refine And.intro ?_ ?_ <;> conv => whnf) | fail
        have e := Option.some.inj b17
        refine LoopW.norm [(0, (LV.ro 1 (a0.map iC))), (1, (LV.func (.func fn1) ff1 fc1)), (7, (I (((a0.map iC).length : Nat) : Int))), (8, (I ((k17 + 1 : Nat) : Int)))] 0 [] ⟨rfl, rfl, rfl, (congrArg (LV.int .i64) (w64_nat _ (by omega))), trivial⟩ trivial (by repeat' first | exact True.intro | exact rfl | exact NLs_bels (by assumption) | refine ⟨?_, ?_⟩) rfl (K17 _ e.symm)
    · exact (Bool.false_ne_true (hc.symm.trans hd)).elim

def slices_ContainsFunc_int (a0 : (List Int)) (q1 : (Int → Option Bool)) : Option Bool :=
  (slices_IndexFunc_int a0 q1).bind fun y15 =>
  some (decide (0 ≤ y15))

theorem c_slices_ContainsFunc_int (a0 : (List Int)) (fn1 : Nat) (ff1 fc1 : List LV) (q1 : (Int → Option Bool)) (hq1 : ∀ (x0 : Int) (r : Bool), q1 x0 = some r → CallP Try.prog fn1 (ff1 ++ [(I x0)] ++ fc1) (LV.bool r)) (hn1 : NLs ff1 ∧ NLs fc1) (r : Bool) (h : slices_ContainsFunc_int a0 q1 = some r) : CallP Try.prog 210 [(LV.ro 1 (a0.map iC)), (LV.func (.func fn1) ff1 fc1)] (LV.bool r) := by
  have hnA1 := hn1.1
  have hnB1 := hn1.2
  unfold slices_ContainsFunc_int at h
  refine .intro (by repeat' first | exact True.intro | assumption | refine ⟨?_, ?_⟩) (.intro TT_ok Try.func210 rfl rfl [0, 1, 4] rfl ?_)
  conv => whnf
  have n14 : slNs [(LV.ro 1 (a0.map iC)), (LV.func (.func fn1) ff1 fc1)] = [] := slNs_nil (by repeat' first | exact True.intro | assumption | refine ⟨?_, ?_⟩)
  replace h := bindS h
  obtain ⟨y15, hy15, h⟩ := h
  have c16 := c_slices_IndexFunc_int a0 fn1 ff1 fc1 q1 hq1 hn1 _ hy15
  have e := Option.some.inj h
  subst e
  repeat' first | with_reducible rfl | with_reducible exact True.intro | with_reducible assumption | (refine CallP.use c16 ?_; conv => whnf) | (refine frzB_call n14 rfl ?_; conv => whnf) | (refine frz_nil n14 ?_; conv => whnf) | exact (congrArg Bool.not h) | exact fun _ => True.intro | exact (rfl : (_ : Nat) = _) | exact (rfl : (_ : LV) = _) | exact NLss_map' _ | refine NLss_app ?_ ?_ | refine NLss_set ?_ ?_ | (refine And.intro ?_ ?_ <;> conv => whnf) | (intro h; (conv => whnf) <;> first | with_reducible rfl | assumption | exact h | exact (congrArg Bool.not h) | (refine ⟨h, True.intro⟩) | (refine ⟨congrArg Bool.not h, True.intro⟩) | (refine ⟨by assumption, True.intro⟩)) | (intro h; exact (Bool.false_ne_true (h.symm.trans (by assumption))).elim) | (intros; simp_all; done) | (refine gand ?_ h; assumption) | (simp only [se_map, se_byL]; exact rfl) | (simp only [se_map, se_byL, se_len, se_ch, List.length_map]; done) | fail

def flood_may_1 (a0 : Int) (q1 : LanT) : Option Bool :=
  some (bif (decide (a0 < 0)) then true else (decide (q1.Segs ≤ a0)))

theorem c_flood_may_1 (a0 : Int) (q1 : LanT) (r : Bool) (h : flood_may_1 a0 q1 = some r) : CallP Try.prog 279 [(I a0), (LV.rptr [(I q1.Segs), (LV.ro 2 (q1.Plans.map PlanT.cells)), (LV.ro 2 (q1.Hosts.map HostT.cells))])] (LV.bool r) := by
  unfold flood_may_1 at h
  refine .intro (by repeat' first | exact True.intro | assumption | refine ⟨?_, ?_⟩) (.intro TT_ok Try.func279 rfl rfl [0, 1, 3] rfl ?_)
  conv => whnf
  have e := Option.some.inj h
  subst e
  repeat' first | with_reducible rfl | with_reducible exact True.intro | with_reducible assumption | exact (congrArg Bool.not h) | exact fun _ => True.intro | exact (rfl : (_ : Nat) = _) | exact (rfl : (_ : LV) = _) | exact NLss_map' _ | refine NLss_app ?_ ?_ | refine NLss_set ?_ ?_ | (refine And.intro ?_ ?_ <;> conv => whnf) | (intro h; (conv => whnf) <;> first | with_reducible rfl | assumption | exact h | exact (congrArg Bool.not h) | (refine ⟨h, True.intro⟩) | (refine ⟨congrArg Bool.not h, True.intro⟩) | (refine ⟨by assumption, True.intro⟩)) | (intro h; exact (Bool.false_ne_true (h.symm.trans (by assumption))).elim) | (intros; simp_all; done) | (refine gand ?_ h; assumption) | (simp only [se_map, se_byL]; exact rfl) | (simp only [se_map, se_byL, se_len, se_ch, List.length_map]; done) | fail

def flood_may_b16 (a1 : (List (List Bool))) (k16 : Nat) (x16 : PlanT) (s16 : Unit) : Option (Step Int Unit) :=
  (gix a1 ((k16 : Nat) : Int)).bind fun v10 =>
  (bif (!decide (((v10.length : Nat) : Int) = ((x16.Ports.length : Nat) : Int))) then
    some (.ret 1)
  else
    some (.nxt ()))

def flood_may (a0 : LanT) (a1 : (List (List Bool))) (a2 : (List Int)) : Option Int :=
  (lan_Right a0).bind fun y8 =>
  (bif (bif (!y8) then true else (!decide (((a1.length : Nat) : Int) = ((a0.Plans.length : Nat) : Int)))) then
    some 1
  else
    aft (rangeL (flood_may_b16 a1) a0.Plans ()) fun s16 =>
    (slices_ContainsFunc_int a2 (fun x0_ => flood_may_1 x0_ a0)).bind fun y17 =>
    (bif y17 then
      some 3
    else
      some 0))

theorem c_flood_may (a0 : LanT) (a1 : (List (List Bool))) (a2 : (List Int)) (r : Int) (h : flood_may a0 a1 a2 = some r) : CallP Try.prog 207 [(LV.agg [(I a0.Segs), (LV.ro 2 (a0.Plans.map PlanT.cells)), (LV.ro 2 (a0.Hosts.map HostT.cells))]), (LV.ro 1 (a1.map (roC 1 bC))), (LV.ro 1 (a2.map iC))] (I r) := by
  unfold flood_may at h
  refine .intro (by repeat' first | exact True.intro | assumption | refine ⟨?_, ?_⟩) (.intro TT_ok Try.func207 rfl rfl [0, 1, 2, 3, 6, 7, 8, 19, 21, 22, 23, 24, 36, 40] rfl ?_)
  conv => whnf
  replace h := bindS h
  obtain ⟨y8, hy8, h⟩ := h
  have c9 := c_lan_Right a0 _ hy8
  repeat' first | with_reducible rfl | with_reducible exact True.intro | with_reducible assumption | refine parkI ?_ | (refine CallP.use c9 ?_; conv => whnf) | (refine ⟨_, _, CallP.at c9, ?_⟩; conv => whnf) | (refine ⟨_, fun _ => c9, ?_⟩; conv => whnf) | (refine W.drawn TT_ok hmix1 rfl ?_; conv => whnf) | exact (congrArg Bool.not h) | exact fun _ => True.intro | exact (rfl : (_ : Nat) = _) | exact (rfl : (_ : LV) = _) | exact NLss_map' _ | refine NLss_app ?_ ?_ | refine NLss_set ?_ ?_ | (refine And.intro ?_ ?_ <;> conv => whnf) | (intro h; (conv => whnf) <;> first | with_reducible rfl | assumption | exact h | exact (congrArg Bool.not h) | (refine ⟨h, True.intro⟩) | (refine ⟨congrArg Bool.not h, True.intro⟩) | (refine ⟨by assumption, True.intro⟩)) | (intro h; exact (Bool.false_ne_true (h.symm.trans (by assumption))).elim) | (intros; simp_all; done) | (refine gand ?_ h; assumption) | (simp only [se_map, se_byL]; exact rfl) | (simp only [se_map, se_byL, se_len, se_ch, List.length_map]; done) | fail
  refine parkE (fun hc => ?_) (fun hc => ?_)
  · replace h := condT (by first | exact hc | simpa only [se_len, se_ch, List.length_map] using hc) h
    conv => whnf
    have e := Option.some.inj h
    subst e
    repeat' first | with_reducible rfl | with_reducible exact True.intro | with_reducible assumption | (refine W.drawn TT_ok hmix1 rfl ?_; conv => whnf) | exact (congrArg Bool.not h) | exact fun _ => True.intro | exact (rfl : (_ : Nat) = _) | exact (rfl : (_ : LV) = _) | exact NLss_map' _ | refine NLss_app ?_ ?_ | refine NLss_set ?_ ?_ | (refine And.intro ?_ ?_ <;> conv => whnf) | (intro h; (conv => whnf) <;> first | with_reducible rfl | assumption | exact h | exact (congrArg Bool.not h) | (refine ⟨h, True.intro⟩) | (refine ⟨congrArg Bool.not h, True.intro⟩) | (refine ⟨by assumption, True.intro⟩)) | (intro h; exact (Bool.false_ne_true (h.symm.trans (by assumption))).elim) | (intros; simp_all; done) | (refine gand ?_ h; assumption) | (simp only [se_map, se_byL]; exact rfl) | (simp only [se_map, se_byL, se_len, se_ch, List.length_map]; done) | fail
  · replace h := condF (by first | exact hc | simpa only [se_len, se_ch, List.length_map] using hc) h
    conv => whnf
    repeat' first | with_reducible rfl | with_reducible exact True.intro | with_reducible assumption | refine parkI ?_ | (refine W.drawn TT_ok hmix1 rfl ?_; conv => whnf) | exact (congrArg Bool.not h) | exact fun _ => True.intro | exact (rfl : (_ : Nat) = _) | exact (rfl : (_ : LV) = _) | exact NLss_map' _ | refine NLss_app ?_ ?_ | refine NLss_set ?_ ?_ | (refine And.intro ?_ ?_ <;> conv => whnf) | (intro h; (conv => whnf) <;> first | with_reducible rfl | assumption | exact h | exact (congrArg Bool.not h) | (refine ⟨h, True.intro⟩) | (refine ⟨congrArg Bool.not h, True.intro⟩) | (refine ⟨by assumption, True.intro⟩)) | (intro h; exact (Bool.false_ne_true (h.symm.trans (by assumption))).elim) | (intros; simp_all; done) | (refine gand ?_ h; assumption) | (simp only [se_map, se_byL]; exact rfl) | (simp only [se_map, se_byL, se_len, se_ch, List.length_map]; done) | fail
    replace h := aftS h
    obtain ⟨O16, hO16, r16⟩ := h
    refine LoopW.norm [(1, (LV.ro 1 (a1.map (roC 1 bC)))), (2, (LV.ro 1 (a2.map iC))), (3, (LV.ptr 0 0 0)), (21, (LV.ro 2 (a0.Plans.map PlanT.cells))), (22, (I (((a0.Plans.map PlanT.cells).length : Nat) : Int))), (23, (I ((0 : Nat) : Int)))] 1 [(0, (.row 47 3 [[(I a0.Segs), (LV.ro 2 (a0.Plans.map PlanT.cells)), (LV.ro 2 (a0.Hosts.map HostT.cells))]]))] ⟨rfl, rfl, rfl, rfl, rfl, rfl, trivial⟩ ⟨⟨rfl, rfl, (by repeat' first | exact True.intro | exact rfl | exact NLs_bels (by assumption) | refine ⟨?_, ?_⟩)⟩, trivial⟩ (by repeat' first | exact True.intro | exact rfl | exact NLs_bels (by assumption) | refine ⟨?_, ?_⟩) rfl ?_
    refine LoopW.forR (fun k16 s16 => [(1, (LV.ro 1 (a1.map (roC 1 bC)))), (2, (LV.ro 1 (a2.map iC))), (3, (LV.ptr 0 0 0)), (21, (LV.ro 2 (a0.Plans.map PlanT.cells))), (22, (I (((a0.Plans.map PlanT.cells).length : Nat) : Int))), (23, (I ((k16 : Nat) : Int)))]) (fun s16 => ⟨1, [(0, (.row 47 3 [[(I a0.Segs), (LV.ro 2 (a0.Plans.map PlanT.cells)), (LV.ro 2 (a0.Hosts.map HostT.cells))]]))]⟩) hO16 (fun hl16 s16 hs16 => ?_) (fun hl16 k16 x16 s16 o16 hk16 hx16 b16 K16 hret16 hbrk16 => ?_)
    · rw [hs16] at r16
      dsimp only [aftM] at r16
      have hd : decide (((a0.Plans.length : Nat) : Int) < (((a0.Plans.map PlanT.cells).length : Nat) : Int)) = false := by rw [decide_eq_false_iff_not]; (try simp only [se_len, se_ch, List.length_map]); omega
      refine LoopW.round TT_ok [0, 1, 2, 3, 6, 7, 8, 19, 21, 22, 23, 24, 36, 40] ?_
      conv => whnf
      repeat' first | with_reducible rfl | with_reducible exact True.intro | with_reducible assumption | refine parkI ?_ | (refine W.drawn TT_ok hmix1 rfl ?_; conv => whnf) | exact (congrArg Bool.not h) | exact fun _ => True.intro | exact (rfl : (_ : Nat) = _) | exact (rfl : (_ : LV) = _) | exact NLss_map' _ | refine NLss_app ?_ ?_ | refine NLss_set ?_ ?_ | (refine And.intro ?_ ?_ <;> conv => whnf) | (intro h; (conv => whnf) <;> first | with_reducible rfl | assumption | exact h | exact (congrArg Bool.not h) | (refine ⟨h, True.intro⟩) | (refine ⟨congrArg Bool.not h, True.intro⟩) | (refine ⟨by assumption, True.intro⟩)) | (intro h; exact (Bool.false_ne_true (h.symm.trans (by assumption))).elim) | (intros; simp_all; done) | (refine gand ?_ h; assumption) | (simp only [se_map, se_byL]; exact rfl) | (simp only [se_map, se_byL, se_len, se_ch, List.length_map]; done) | fail
      refine parkE (fun hc => ?_) (fun hc => ?_)
      · exact (Bool.false_ne_true (hd.symm.trans hc)).elim
      · clear hd
        conv => whnf
        replace r16 := bindS r16
        obtain ⟨y17, hy17, r16⟩ := r16
        have c18 := c_slices_ContainsFunc_int a2 279 [] [(LV.rptr [(I a0.Segs), (LV.ro 2 (a0.Plans.map PlanT.cells)), (LV.ro 2 (a0.Hosts.map HostT.cells))])] (fun x0_ => flood_may_1 x0_ a0) (fun x0_ r h => c_flood_may_1 x0_ a0 r h) (by repeat' first | exact True.intro | refine ⟨?_, ?_⟩) _ hy17
        repeat' first | with_reducible rfl | with_reducible exact True.intro | with_reducible assumption | refine parkI ?_ | (refine CallP.use c18 ?_; conv => whnf) | (refine ⟨_, _, CallP.at c18, ?_⟩; conv => whnf) | (refine ⟨_, fun _ => c18, ?_⟩; conv => whnf) | (refine W.drawn TT_ok hmix1 rfl ?_; conv => whnf) | exact (congrArg Bool.not h) | exact fun _ => True.intro | exact (rfl : (_ : Nat) = _) | exact (rfl : (_ : LV) = _) | exact NLss_map' _ | refine NLss_app ?_ ?_ | refine NLss_set ?_ ?_ | (refine And.intro ?_ ?_ <;> conv => whnf) | (intro h; (conv => whnf) <;> first | with_reducible rfl | assumption | exact h | exact (congrArg Bool.not h) | (refine ⟨h, True.intro⟩) | (refine ⟨congrArg Bool.not h, True.intro⟩) | (refine ⟨by assumption, True.intro⟩)) | (intro h; exact (Bool.false_ne_true (h.symm.trans (by assumption))).elim) | (intros; simp_all; done) | (refine gand ?_ h; assumption) | (simp only [se_map, se_byL]; exact rfl) | (simp only [se_map, se_byL, se_len, se_ch, List.length_map]; done) | fail
        refine parkE (fun hc => ?_) (fun hc => ?_)
        · replace r16 := condT hc r16
          conv => whnf
          have e := Option.some.inj r16
          subst e
          repeat' first | with_reducible rfl | with_reducible exact True.intro | with_reducible assumption | (refine W.drawn TT_ok hmix1 rfl ?_; conv => whnf) | exact (congrArg Bool.not h) | exact fun _ => True.intro | exact (rfl : (_ : Nat) = _) | exact (rfl : (_ : LV) = _) | exact NLss_map' _ | refine NLss_app ?_ ?_ | refine NLss_set ?_ ?_ | (refine And.intro ?_ ?_ <;> conv => whnf) | (intro h; (conv => whnf) <;> first | with_reducible rfl | assumption | exact h | exact (congrArg Bool.not h) | (refine ⟨h, True.intro⟩) | (refine ⟨congrArg Bool.not h, True.intro⟩) | (refine ⟨by assumption, True.intro⟩)) | (intro h; exact (Bool.false_ne_true (h.symm.trans (by assumption))).elim) | (intros; simp_all; done) | (refine gand ?_ h; assumption) | (simp only [se_map, se_byL]; exact rfl) | (simp only [se_map, se_byL, se_len, se_ch, List.length_map]; done) | fail
        · replace r16 := condF hc r16
          conv => whnf
          have e := Option.some.inj r16
          subst e
          repeat' first | with_reducible rfl | with_reducible exact True.intro | with_reducible assumption | (refine W.drawn TT_ok hmix1 rfl ?_; conv => whnf) | exact (congrArg Bool.not h) | exact fun _ => True.intro | exact (rfl : (_ : Nat) = _) | exact (rfl : (_ : LV) = _) | exact NLss_map' _ | refine NLss_app ?_ ?_ | refine NLss_set ?_ ?_ | (refine And.intro ?_ ?_ <;> conv => whnf) | (intro h; (conv => whnf) <;> first | with_reducible rfl | assumption | exact h | exact (congrArg Bool.not h) | (refine ⟨h, True.intro⟩) | (refine ⟨congrArg Bool.not h, True.intro⟩) | (refine ⟨by assumption, True.intro⟩)) | (intro h; exact (Bool.false_ne_true (h.symm.trans (by assumption))).elim) | (intros; simp_all; done) | (refine gand ?_ h; assumption) | (simp only [se_map, se_byL]; exact rfl) | (simp only [se_map, se_byL, se_len, se_ch, List.length_map]; done) | fail
    · unfold flood_may_b16 at b16
      have hd : decide (((k16 : Nat) : Int) < (((a0.Plans.map PlanT.cells).length : Nat) : Int)) = true := by rw [decide_eq_true_eq]; (try simp only [se_len, se_ch, List.length_map] at hk16); (try simp only [se_len, se_ch, List.length_map]); omega
      refine LoopW.round TT_ok [0, 1, 2, 3, 6, 7, 8, 19, 21, 22, 23, 24, 36, 40] ?_
      conv => whnf
      repeat' first | with_reducible rfl | with_reducible exact True.intro | with_reducible assumption | refine parkI ?_ | (refine W.drawn TT_ok hmix1 rfl ?_; conv => whnf) | exact (congrArg Bool.not h) | exact fun _ => True.intro | exact (rfl : (_ : Nat) = _) | exact (rfl : (_ : LV) = _) | exact NLss_map' _ | refine NLss_app ?_ ?_ | refine NLss_set ?_ ?_ | (refine And.intro ?_ ?_ <;> conv => whnf) | (intro h; (conv => whnf) <;> first | with_reducible rfl | assumption | exact h | exact (congrArg Bool.not h) | (refine ⟨h, True.intro⟩) | (refine ⟨congrArg Bool.not h, True.intro⟩) | (refine ⟨by assumption, True.intro⟩)) | (intro h; exact (Bool.false_ne_true (h.symm.trans (by assumption))).elim) | (intros; simp_all; done) | (refine gand ?_ h; assumption) | (simp only [se_map, se_byL]; exact rfl) | (simp only [se_map, se_byL, se_len, se_ch, List.length_map]; done) | fail
      refine parkE (fun hc => ?_) (fun hc => ?_)
      · clear hd
        conv => whnf
        replace b16 := bindS b16
        obtain ⟨v10, hv10, b16⟩ := b16
        have i11 := gixF (f := (roC 1 bC)) hv10
        repeat' first | with_reducible rfl | with_reducible exact True.intro | with_reducible assumption | refine parkI ?_ | (refine ⟨_, (kixF (f := PlanT.cells) hx16), ?_⟩; conv => whnf) | (refine ⟨_, i11, ?_⟩; conv => whnf) | (refine W.drawn TT_ok hmix1 rfl ?_; conv => whnf) | exact (congrArg Bool.not h) | exact fun _ => True.intro | exact (rfl : (_ : Nat) = _) | exact (rfl : (_ : LV) = _) | exact NLss_map' _ | refine NLss_app ?_ ?_ | refine NLss_set ?_ ?_ | (refine And.intro ?_ ?_ <;> conv => whnf) | (intro h; (conv => whnf) <;> first | with_reducible rfl | assumption | exact h | exact (congrArg Bool.not h) | (refine ⟨h, True.intro⟩) | (refine ⟨congrArg Bool.not h, True.intro⟩) | (refine ⟨by assumption, True.intro⟩)) | (intro h; exact (Bool.false_ne_true (h.symm.trans (by assumption))).elim) | (intros; simp_all; done) | (refine gand ?_ h; assumption) | (simp only [se_map, se_byL]; exact rfl) | (simp only [se_map, se_byL, se_len, se_ch, List.length_map]; done) | fail
        refine parkE (fun hc => ?_) (fun hc => ?_)
        · replace b16 := condT (by first | exact hc | simpa only [se_len, se_ch, List.length_map] using hc) b16
          conv => whnf
          have e := Option.some.inj b16
          replace e := hret16 _ e.symm
          rw [e] at r16
          replace e := Option.some.inj r16
          subst e
          repeat' first | with_reducible rfl | with_reducible exact True.intro | with_reducible assumption | (refine W.drawn TT_ok hmix1 rfl ?_; conv => whnf) | exact (congrArg Bool.not h) | exact fun _ => True.intro | exact (rfl : (_ : Nat) = _) | exact (rfl : (_ : LV) = _) | exact NLss_map' _ | refine NLss_app ?_ ?_ | refine NLss_set ?_ ?_ | (refine And.intro ?_ ?_ <;> conv => whnf) | (intro h; (conv => whnf) <;> first | with_reducible rfl | assumption | exact h | exact (congrArg Bool.not h) | (refine ⟨h, True.intro⟩) | (refine ⟨congrArg Bool.not h, True.intro⟩) | (refine ⟨by assumption, True.intro⟩)) | (intro h; exact (Bool.false_ne_true (h.symm.trans (by assumption))).elim) | (intros; simp_all; done) | (refine gand ?_ h; assumption) | (simp only [se_map, se_byL]; exact rfl) | (simp only [se_map, se_byL, se_len, se_ch, List.length_map]; done) | fail
        · replace b16 := condF (by first | exact hc | simpa only [se_len, se_ch, List.length_map] using hc) b16
          conv => whnf
          repeat' first | with_reducible rfl | with_reducible exact True.intro | with_reducible assumption | refine parkI ?_ | (refine W.drawn TT_ok hmix1 rfl ?_; conv => whnf) | exact (congrArg Bool.not h) | exact fun _ => True.intro | exact (rfl : (_ : Nat) = _) | exact (rfl : (_ : LV) = _) | exact NLss_map' _ | refine NLss_app ?_ ?_ | refine NLss_set ?_ ?_ | (refine And.intro ?_ ?_ <;> conv => whnf) | (intro h; (conv => whnf) <;> first | with_reducible rfl | assumption | exact h | exact (congrArg Bool.not h) | (refine ⟨h, True.intro⟩) | (refine ⟨congrArg Bool.not h, True.intro⟩) | (refine ⟨by assumption, True.intro⟩)) | (intro h; exact (Bool.false_ne_true (h.symm.trans (by assumption))).elim) | (intros; simp_all; done) | (refine gand ?_ h; assumption) | (simp only [se_map, se_byL]; exact rfl) | (simp only [se_map, se_byL, se_len, se_ch, List.length_map]; done) | fail
          have e := Option.some.inj b16
          refine LoopW.norm [(1, (LV.ro 1 (a1.map (roC 1 bC)))), (2, (LV.ro 1 (a2.map iC))), (3, (LV.ptr 0 0 0)), (21, (LV.ro 2 (a0.Plans.map PlanT.cells))), (22, (I (((a0.Plans.map PlanT.cells).length : Nat) : Int))), (23, (I ((k16 + 1 : Nat) : Int)))] 1 [(0, (.row 47 3 [[(I a0.Segs), (LV.ro 2 (a0.Plans.map PlanT.cells)), (LV.ro 2 (a0.Hosts.map HostT.cells))]]))] ⟨rfl, rfl, rfl, rfl, rfl, (congrArg (LV.int .i64) (w64_nat _ (by omega))), trivial⟩ ⟨⟨rfl, rfl, (by repeat' first | exact True.intro | exact rfl | exact NLs_bels (by assumption) | refine ⟨?_, ?_⟩)⟩, trivial⟩ (by repeat' first | exact True.intro | exact rfl | exact NLs_bels (by assumption) | refine ⟨?_, ?_⟩) rfl (K16 _ e.symm)
      · exact (Bool.false_ne_true (hc.symm.trans hd)).elim

def math_bits_Mul64 (a0 : Int) (a1 : Int) : Option (Int × Int) :=
  some ((IntKind.u64.wrap ((IntKind.u64.wrap ((IntKind.u64.wrap (((a0).fdiv (2 ^ (min (32 : Int).toNat 64))) * ((a1).fdiv (2 ^ (min (32 : Int).toNat 64))))) + (((IntKind.u64.wrap ((IntKind.u64.wrap (((a0).fdiv (2 ^ (min (32 : Int).toNat 64))) * (bitI .and IntKind.u64 a1 4294967295))) + (((IntKind.u64.wrap ((bitI .and IntKind.u64 a0 4294967295) * (bitI .and IntKind.u64 a1 4294967295)))).fdiv (2 ^ (min (32 : Int).toNat 64)))))).fdiv (2 ^ (min (32 : Int).toNat 64))))) + (((IntKind.u64.wrap ((bitI .and IntKind.u64 (IntKind.u64.wrap ((IntKind.u64.wrap (((a0).fdiv (2 ^ (min (32 : Int).toNat 64))) * (bitI .and IntKind.u64 a1 4294967295))) + (((IntKind.u64.wrap ((bitI .and IntKind.u64 a0 4294967295) * (bitI .and IntKind.u64 a1 4294967295)))).fdiv (2 ^ (min (32 : Int).toNat 64))))) 4294967295) + (IntKind.u64.wrap ((bitI .and IntKind.u64 a0 4294967295) * ((a1).fdiv (2 ^ (min (32 : Int).toNat 64)))))))).fdiv (2 ^ (min (32 : Int).toNat 64))))), (IntKind.u64.wrap (a0 * a1)))

theorem c_math_bits_Mul64 (a0 : Int) (a1 : Int) (r : (Int × Int)) (h : math_bits_Mul64 a0 a1 = some r) : CallP Try.prog 301 [(LV.int .u64 a0), (LV.int .u64 a1)] (LV.tup [(LV.int .u64 r.1), (LV.int .u64 r.2)]) := by
  unfold math_bits_Mul64 at h
  refine .intro (by repeat' first | exact True.intro | assumption | refine ⟨?_, ?_⟩) (.intro TT_ok Try.func301 rfl rfl [0, 1, 4, 5, 6, 7, 8, 9, 10, 11, 12, 13] rfl ?_)
  conv => whnf
  have e := Option.some.inj h
  subst e
  repeat' first | with_reducible rfl | with_reducible exact True.intro | with_reducible assumption | exact (by decide : (0 : Int) ≤ 32) | exact (by decide : (0 : Int) ≤ 32) | exact (by decide : (0 : Int) ≤ 32) | exact (by decide : (0 : Int) ≤ 32) | exact (by decide : (0 : Int) ≤ 32) | exact (congrArg Bool.not h) | exact fun _ => True.intro | exact (rfl : (_ : Nat) = _) | exact (rfl : (_ : LV) = _) | exact NLss_map' _ | refine NLss_app ?_ ?_ | refine NLss_set ?_ ?_ | (refine And.intro ?_ ?_ <;> conv => whnf) | (intro h; (conv => whnf) <;> first | with_reducible rfl | assumption | exact h | exact (congrArg Bool.not h) | (refine ⟨h, True.intro⟩) | (refine ⟨congrArg Bool.not h, True.intro⟩) | (refine ⟨by assumption, True.intro⟩)) | (intro h; exact (Bool.false_ne_true (h.symm.trans (by assumption))).elim) | (intros; simp_all; done) | (refine gand ?_ h; assumption) | (simp only [se_map, se_byL]; exact rfl) | (simp only [se_map, se_byL, se_len, se_ch, List.length_map]; done) | fail

def math_bits_Mul (a0 : Int) (a1 : Int) : Option (Int × Int) :=
  (math_bits_Mul64 a0 a1).bind fun y21 =>
  some (y21.1, y21.2)

theorem c_math_bits_Mul (a0 : Int) (a1 : Int) (r : (Int × Int)) (h : math_bits_Mul a0 a1 = some r) : CallP Try.prog 252 [(LV.int .u64 a0), (LV.int .u64 a1)] (LV.tup [(LV.int .u64 r.1), (LV.int .u64 r.2)]) := by
  unfold math_bits_Mul at h
  refine .intro (by repeat' first | exact True.intro | assumption | refine ⟨?_, ?_⟩) (.intro TT_ok Try.func252 rfl rfl [0, 1, 4, 5, 6, 7, 8, 9] rfl ?_)
  conv => whnf
  repeat' first | with_reducible rfl | with_reducible exact True.intro | with_reducible assumption | refine parkI ?_ | (refine And.intro ?_ ?_ <;> conv => whnf) | fail
  refine parkE (fun hc => ?_) (fun hc => ?_)
  · exact (Bool.false_ne_true (((rfl : false = false)).symm.trans hc)).elim
  · conv => whnf
    replace h := bindS h
    obtain ⟨y21, hy21, h⟩ := h
    have c22 := c_math_bits_Mul64 a0 a1 _ hy21
    have e := Option.some.inj h
    subst e
    repeat' first | with_reducible rfl | with_reducible exact True.intro | with_reducible assumption | (refine CallP.use c22 ?_; conv => whnf) | exact (congrArg Bool.not h) | exact fun _ => True.intro | exact (rfl : (_ : Nat) = _) | exact (rfl : (_ : LV) = _) | exact NLss_map' _ | refine NLss_app ?_ ?_ | refine NLss_set ?_ ?_ | (refine And.intro ?_ ?_ <;> conv => whnf) | (intro h; (conv => whnf) <;> first | with_reducible rfl | assumption | exact h | exact (congrArg Bool.not h) | (refine ⟨h, True.intro⟩) | (refine ⟨congrArg Bool.not h, True.intro⟩) | (refine ⟨by assumption, True.intro⟩)) | (intro h; exact (Bool.false_ne_true (h.symm.trans (by assumption))).elim) | (intros; simp_all; done) | (refine gand ?_ h; assumption) | (simp only [se_map, se_byL]; exact rfl) | (simp only [se_map, se_byL, se_len, se_ch, List.length_map]; done) | fail

def slices_Repeat_int_b18  (s18 : (Int × (List Int))) : Option (Step (List Int) (Int × (List Int))) :=
  (bif (decide (s18.1 < ((s18.2.length : Nat) : Int))) then
    grd ((0 : Int) ≤ s18.1 ∧ s18.1 < ((s18.2.length : Nat) : Int)) <|
    grd ((0 : Int) ≤ s18.1 ∧ s18.1 ≤ ((s18.2.length : Nat) : Int)) <|
    some (.nxt ((IntKind.i64.wrap (s18.1 + ((min (s18.1 : Int).toNat (s18.2.length - (s18.1 : Int).toNat) : Nat) : Int))), (s18.2.take (s18.1 : Int).toNat ++ s18.2.take (min (s18.1 : Int).toNat (s18.2.length - (s18.1 : Int).toNat)) ++ s18.2.drop ((s18.1 : Int).toNat + min (s18.1 : Int).toNat (s18.2.length - (s18.1 : Int).toNat)))))
  else
    some (.brk (s18.1, s18.2)))

def slices_Repeat_int (a0 : (List Int)) (a1 : Int) : Option (List Int) :=
  (bif (decide (a1 < 0)) then
    none
  else
    (math_bits_Mul (IntKind.u64.wrap ((a0.length : Nat) : Int)) (IntKind.u64.wrap a1)).bind fun y21 =>
    (bif (bif (decide (0 < y21.1)) then true else (decide (9223372036854775807 < y21.2))) then
      none
    else
      grd ((0 : Int) ≤ (IntKind.i64.wrap y21.2) ∧ (IntKind.i64.wrap y21.2) ≤ (IntKind.i64.wrap y21.2) ∧ fits ((IntKind.i64.wrap y21.2)).toNat 8) <|
      aft (loopF 1000000 (slices_Repeat_int_b18 ) (((min a0.length (List.replicate ((IntKind.i64.wrap y21.2)).toNat 0).length : Nat) : Int), (a0.take (List.replicate ((IntKind.i64.wrap y21.2)).toNat 0).length ++ (List.replicate ((IntKind.i64.wrap y21.2)).toNat 0).drop a0.length))) fun s18 =>
      some s18.2))

theorem cf_slices_Repeat_int (a0 : (List Int)) (a1 : Int) (r : (List Int)) (h : slices_Repeat_int a0 a1 = some r) : CallF Try.prog 280 [(LV.ro 1 (a0.map iC)), (I a1)] 3 1 (r.map iC) := by
  unfold slices_Repeat_int at h
  refine CallF.of (NLss_map' _) (CallW.intro TT_ok Try.func280 rfl rfl [0, 1, 4, 5, 6, 7, 8, 10, 26, 37] rfl ?_)
  conv => whnf
  repeat' first | with_reducible rfl | with_reducible exact True.intro | with_reducible assumption | refine parkI ?_ | (refine W.drawnM (id := 9) 0 TT_ok hmix1 [0, 0, 0, 0, 0, 0, 0, 0, 1, 1] [1, 0, 0, 0, 0, 0, 0, 1, 1, 1] rfl ?_; conv => whnf) | exact (congrArg Bool.not h) | exact fun _ => True.intro | exact (rfl : (_ : Nat) = _) | exact (rfl : (_ : LV) = _) | exact NLss_map' _ | refine NLss_app ?_ ?_ | refine NLss_set ?_ ?_ | (refine And.intro ?_ ?_ <;> conv => whnf) | (intro h; (conv => whnf) <;> first | with_reducible rfl | assumption | exact h | exact (congrArg Bool.not h) | (refine ⟨h, True.intro⟩) | (refine ⟨congrArg Bool.not h, True.intro⟩) | (refine ⟨by assumption, True.intro⟩)) | (intro h; exact (Bool.false_ne_true (h.symm.trans (by assumption))).elim) | (intros; simp_all; done) | (refine gand ?_ h; assumption) | (simp only [se_map, se_byL]; exact rfl) | (simp only [se_map, se_byL, se_len, se_ch, List.length_map]; done) | fail
  refine parkE (fun hc => ?_) (fun hc => ?_)
  · replace h := condT hc h
    conv => whnf
    cases h
  · replace h := condF hc h
    conv => whnf
    replace h := bindS h
    obtain ⟨y21, hy21, h⟩ := h
    have c22 : CallP Try.prog 252 [(LV.int .u64 (IntKind.u64.wrap (((a0.map iC).length : Nat) : Int))), (LV.int .u64 (IntKind.u64.wrap a1))] (LV.tup [(LV.int .u64 y21.1), (LV.int .u64 y21.2)]) := by first | exact c_math_bits_Mul (IntKind.u64.wrap ((a0.length : Nat) : Int)) (IntKind.u64.wrap a1) _ hy21 | (simpa only [se_map, se_byL, se_len, se_ch, List.length_map] using c_math_bits_Mul (IntKind.u64.wrap ((a0.length : Nat) : Int)) (IntKind.u64.wrap a1) _ hy21)
    repeat' first | with_reducible rfl | with_reducible exact True.intro | with_reducible assumption | refine parkI ?_ | (refine CallP.use c22 ?_; conv => whnf) | (refine ⟨_, _, CallP.at c22, ?_⟩; conv => whnf) | (refine ⟨_, fun _ => c22, ?_⟩; conv => whnf) | (refine W.drawnM (id := 9) 0 TT_ok hmix1 [0, 0, 0, 0, 0, 0, 0, 0, 1, 1] [1, 0, 0, 0, 0, 0, 0, 1, 1, 1] rfl ?_; conv => whnf) | exact (congrArg Bool.not h) | exact fun _ => True.intro | exact (rfl : (_ : Nat) = _) | exact (rfl : (_ : LV) = _) | exact NLss_map' _ | refine NLss_app ?_ ?_ | refine NLss_set ?_ ?_ | (refine And.intro ?_ ?_ <;> conv => whnf) | (intro h; (conv => whnf) <;> first | with_reducible rfl | assumption | exact h | exact (congrArg Bool.not h) | (refine ⟨h, True.intro⟩) | (refine ⟨congrArg Bool.not h, True.intro⟩) | (refine ⟨by assumption, True.intro⟩)) | (intro h; exact (Bool.false_ne_true (h.symm.trans (by assumption))).elim) | (intros; simp_all; done) | (refine gand ?_ h; assumption) | (simp only [se_map, se_byL]; exact rfl) | (simp only [se_map, se_byL, se_len, se_ch, List.length_map]; done) | fail
    refine parkE (fun hc => ?_) (fun hc => ?_)
    · replace h := condT hc h
      conv => whnf
      cases h
    · replace h := condF hc h
      conv => whnf
      replace h := grdS h
      obtain ⟨g23, h⟩ := h
      repeat' first | with_reducible rfl | with_reducible exact True.intro | with_reducible assumption | refine parkI ?_ | exact g23 | (refine W.drawnM (id := 9) 0 TT_ok hmix1 [0, 0, 0, 0, 0, 0, 0, 0, 1, 1] [1, 0, 0, 0, 0, 0, 0, 1, 1, 1] rfl ?_; conv => whnf) | exact (congrArg Bool.not h) | exact fun _ => True.intro | exact (rfl : (_ : Nat) = _) | exact (rfl : (_ : LV) = _) | exact NLss_map' _ | refine NLss_app ?_ ?_ | refine NLss_set ?_ ?_ | (refine And.intro ?_ ?_ <;> conv => whnf) | (intro h; (conv => whnf) <;> first | with_reducible rfl | assumption | exact h | exact (congrArg Bool.not h) | (refine ⟨h, True.intro⟩) | (refine ⟨congrArg Bool.not h, True.intro⟩) | (refine ⟨by assumption, True.intro⟩)) | (intro h; exact (Bool.false_ne_true (h.symm.trans (by assumption))).elim) | (intros; simp_all; done) | (refine gand ?_ h; assumption) | (simp only [se_map, se_byL]; exact rfl) | (simp only [se_map, se_byL, se_len, se_ch, List.length_map]; done) | fail
      replace h := aftS h
      obtain ⟨O18, hO18, r18⟩ := h
      refine LoopW.norm [(7, (LV.sl 0 0 ((((min a0.length (List.replicate ((IntKind.i64.wrap y21.2)).toNat 0).length : Nat) : Int), (a0.take (List.replicate ((IntKind.i64.wrap y21.2)).toNat 0).length ++ (List.replicate ((IntKind.i64.wrap y21.2)).toNat 0).drop a0.length)).2.map iC).length)), (8, (I (((min a0.length (List.replicate ((IntKind.i64.wrap y21.2)).toNat 0).length : Nat) : Int), (a0.take (List.replicate ((IntKind.i64.wrap y21.2)).toNat 0).length ++ (List.replicate ((IntKind.i64.wrap y21.2)).toNat 0).drop a0.length)).1))] 1 [(0, (.row 3 1 ((((min a0.length (List.replicate ((IntKind.i64.wrap y21.2)).toNat 0).length : Nat) : Int), (a0.take (List.replicate ((IntKind.i64.wrap y21.2)).toNat 0).length ++ (List.replicate ((IntKind.i64.wrap y21.2)).toNat 0).drop a0.length)).2.map iC)))] ⟨(by exact congrArg (LV.sl 0 0) (by first | (simp only [se_map, se_byL, se_len, se_ch, List.length_map]; done) | ((try simp only [se_map, se_byL, se_len, se_ch, List.length_map]); (try simp only [se_len, se_ch, List.length_map] at *); omega) : ((IntKind.i64.wrap y21.2)).toNat = ((((min a0.length (List.replicate ((IntKind.i64.wrap y21.2)).toNat 0).length : Nat) : Int), (a0.take (List.replicate ((IntKind.i64.wrap y21.2)).toNat 0).length ++ (List.replicate ((IntKind.i64.wrap y21.2)).toNat 0).drop a0.length)).2.map iC).length)), (by simp only [se_map, se_byL, se_len, se_ch, List.length_map] : ((I ((min (a0.map iC).length (List.replicate ((IntKind.i64.wrap y21.2)).toNat [(I 0)]).length : Nat) : Int)) : LV) = (I (((min a0.length (List.replicate ((IntKind.i64.wrap y21.2)).toNat 0).length : Nat) : Int), (a0.take (List.replicate ((IntKind.i64.wrap y21.2)).toNat 0).length ++ (List.replicate ((IntKind.i64.wrap y21.2)).toNat 0).drop a0.length)).1)), trivial⟩ ⟨⟨(by first | exact (congrArg (fun q => some (Blk.row 3 1 q)) (by simp only [se_map, se_byL, se_len, se_ch, List.length_map] : (((a0.map iC).take (List.replicate ((IntKind.i64.wrap y21.2)).toNat [(I 0)]).length ++ (List.replicate ((IntKind.i64.wrap y21.2)).toNat [(I 0)]).drop (a0.map iC).length) : List (List LV)) = ((((min a0.length (List.replicate ((IntKind.i64.wrap y21.2)).toNat 0).length : Nat) : Int), (a0.take (List.replicate ((IntKind.i64.wrap y21.2)).toNat 0).length ++ (List.replicate ((IntKind.i64.wrap y21.2)).toNat 0).drop a0.length)).2.map iC))) | exact Eq.trans (b := some (Blk.row 3 1 ((a0.map iC).take (List.replicate ((IntKind.i64.wrap y21.2)).toNat [(I 0)]).length ++ (List.replicate ((IntKind.i64.wrap y21.2)).toNat [(I 0)]).drop (a0.map iC).length))) rfl (congrArg (fun q => some (Blk.row 3 1 q)) (by simp only [se_map, se_byL, se_len, se_ch, List.length_map] : (((a0.map iC).take (List.replicate ((IntKind.i64.wrap y21.2)).toNat [(I 0)]).length ++ (List.replicate ((IntKind.i64.wrap y21.2)).toNat [(I 0)]).drop (a0.map iC).length) : List (List LV)) = ((((min a0.length (List.replicate ((IntKind.i64.wrap y21.2)).toNat 0).length : Nat) : Int), (a0.take (List.replicate ((IntKind.i64.wrap y21.2)).toNat 0).length ++ (List.replicate ((IntKind.i64.wrap y21.2)).toNat 0).drop a0.length)).2.map iC)))), rfl, NLss_bel (NLss_map' _)⟩, trivial⟩ (by repeat' first | exact True.intro | exact rfl | exact NLs_bels (by assumption) | refine ⟨?_, ?_⟩) rfl ?_
      refine LoopW.forF (fun s18 => [(7, (LV.sl 0 0 (s18.2.map iC).length)), (8, (I s18.1))]) (fun s18 => ⟨1, [(0, (.row 3 1 (s18.2.map iC)))]⟩) hO18 (fun s18 o18 b18 K18 hret18 hbrk18 => ?_)
      unfold slices_Repeat_int_b18 at b18
      refine LoopW.round TT_ok [0, 1, 4, 5, 6, 7, 8, 10, 26, 37] ?_
      conv => whnf
      repeat' first | with_reducible rfl | with_reducible exact True.intro | with_reducible assumption | refine parkI ?_ | (refine W.drawnM (id := 9) 0 TT_ok hmix1 [0, 0, 0, 0, 0, 0, 0, 0, 1, 1] [1, 0, 0, 0, 0, 0, 0, 1, 1, 1] rfl ?_; conv => whnf) | exact (congrArg Bool.not h) | exact fun _ => True.intro | exact (rfl : (_ : Nat) = _) | exact (rfl : (_ : LV) = _) | exact NLss_map' _ | refine NLss_app ?_ ?_ | refine NLss_set ?_ ?_ | (refine And.intro ?_ ?_ <;> conv => whnf) | (intro h; (conv => whnf) <;> first | with_reducible rfl | assumption | exact h | exact (congrArg Bool.not h) | (refine ⟨h, True.intro⟩) | (refine ⟨congrArg Bool.not h, True.intro⟩) | (refine ⟨by assumption, True.intro⟩)) | (intro h; exact (Bool.false_ne_true (h.symm.trans (by assumption))).elim) | (intros; simp_all; done) | (refine gand ?_ h; assumption) | (simp only [se_map, se_byL]; exact rfl) | (simp only [se_map, se_byL, se_len, se_ch, List.length_map]; done) | fail
      refine parkE (fun hc => ?_) (fun hc => ?_)
      · replace b18 := condT (by first | exact hc | simpa only [se_len, se_ch, List.length_map] using hc) b18
        conv => whnf
        replace b18 := grdS b18
        obtain ⟨g24, b18⟩ := b18
        replace g24 : (0 : Int) ≤ s18.1 ∧ s18.1 < (((s18.2.map iC).length : Nat) : Int) := by simpa only [se_len, se_ch, List.length_map] using g24
        replace b18 := grdS b18
        obtain ⟨g25, b18⟩ := b18
        replace g25 : (0 : Int) ≤ s18.1 ∧ s18.1 ≤ (((s18.2.map iC).length : Nat) : Int) := by simpa only [se_len, se_ch, List.length_map] using g25
        have l26 : (0 + (s18.1 : Int).toNat) + ((s18.2.map iC).length - (s18.1 : Int).toNat) = (s18.2.map iC).length := by (try simp only [se_len, se_ch, List.length_map]); (try simp only [se_len, se_ch, List.length_map] at *); omega
        have l27 : (s18.1 : Int).toNat ≤ (s18.2.map iC).length := by (try simp only [se_len, se_ch, List.length_map]); (try simp only [se_len, se_ch, List.length_map] at *); omega
        repeat' first | with_reducible rfl | with_reducible exact True.intro | with_reducible assumption | refine parkI ?_ | exact g24 | exact g25 | exact l26 | exact l27 | (refine W.drawnM (id := 9) 0 TT_ok hmix1 [0, 0, 0, 0, 0, 0, 0, 0, 1, 1] [1, 0, 0, 0, 0, 0, 0, 1, 1, 1] rfl ?_; conv => whnf) | exact (congrArg Bool.not h) | exact fun _ => True.intro | exact (rfl : (_ : Nat) = _) | exact (rfl : (_ : LV) = _) | exact NLss_map' _ | refine NLss_app ?_ ?_ | refine NLss_set ?_ ?_ | (refine And.intro ?_ ?_ <;> conv => whnf) | (intro h; (conv => whnf) <;> first | with_reducible rfl | assumption | exact h | exact (congrArg Bool.not h) | (refine ⟨h, True.intro⟩) | (refine ⟨congrArg Bool.not h, True.intro⟩) | (refine ⟨by assumption, True.intro⟩)) | (intro h; exact (Bool.false_ne_true (h.symm.trans (by assumption))).elim) | (intros; simp_all; done) | (refine gand ?_ h; assumption) | (simp only [se_map, se_byL]; exact rfl) | (simp only [se_map, se_byL, se_len, se_ch, List.length_map]; done) | fail
        have e := Option.some.inj b18
        refine LoopW.norm [(7, (LV.sl 0 0 (((IntKind.i64.wrap (s18.1 + ((min (s18.1 : Int).toNat (s18.2.length - (s18.1 : Int).toNat) : Nat) : Int))), (s18.2.take (s18.1 : Int).toNat ++ s18.2.take (min (s18.1 : Int).toNat (s18.2.length - (s18.1 : Int).toNat)) ++ s18.2.drop ((s18.1 : Int).toNat + min (s18.1 : Int).toNat (s18.2.length - (s18.1 : Int).toNat)))).2.map iC).length)), (8, (I ((IntKind.i64.wrap (s18.1 + ((min (s18.1 : Int).toNat (s18.2.length - (s18.1 : Int).toNat) : Nat) : Int))), (s18.2.take (s18.1 : Int).toNat ++ s18.2.take (min (s18.1 : Int).toNat (s18.2.length - (s18.1 : Int).toNat)) ++ s18.2.drop ((s18.1 : Int).toNat + min (s18.1 : Int).toNat (s18.2.length - (s18.1 : Int).toNat)))).1))] 1 [(0, (.row 3 1 (((IntKind.i64.wrap (s18.1 + ((min (s18.1 : Int).toNat (s18.2.length - (s18.1 : Int).toNat) : Nat) : Int))), (s18.2.take (s18.1 : Int).toNat ++ s18.2.take (min (s18.1 : Int).toNat (s18.2.length - (s18.1 : Int).toNat)) ++ s18.2.drop ((s18.1 : Int).toNat + min (s18.1 : Int).toNat (s18.2.length - (s18.1 : Int).toNat)))).2.map iC)))] ⟨(by exact congrArg (LV.sl 0 0) (by first | (simp only [se_map, se_byL, se_len, se_ch, List.length_map]; done) | ((try simp only [se_map, se_byL, se_len, se_ch, List.length_map]); (try simp only [se_len, se_ch, List.length_map] at *); omega) : (s18.2.map iC).length = (((IntKind.i64.wrap (s18.1 + ((min (s18.1 : Int).toNat (s18.2.length - (s18.1 : Int).toNat) : Nat) : Int))), (s18.2.take (s18.1 : Int).toNat ++ s18.2.take (min (s18.1 : Int).toNat (s18.2.length - (s18.1 : Int).toNat)) ++ s18.2.drop ((s18.1 : Int).toNat + min (s18.1 : Int).toNat (s18.2.length - (s18.1 : Int).toNat)))).2.map iC).length)), (by simp only [se_map, se_byL, se_len, se_ch, List.length_map] : ((I (IntKind.i64.wrap (s18.1 + ((min (s18.1 : Int).toNat ((s18.2.map iC).length - (s18.1 : Int).toNat) : Nat) : Int)))) : LV) = (I ((IntKind.i64.wrap (s18.1 + ((min (s18.1 : Int).toNat (s18.2.length - (s18.1 : Int).toNat) : Nat) : Int))), (s18.2.take (s18.1 : Int).toNat ++ s18.2.take (min (s18.1 : Int).toNat (s18.2.length - (s18.1 : Int).toNat)) ++ s18.2.drop ((s18.1 : Int).toNat + min (s18.1 : Int).toNat (s18.2.length - (s18.1 : Int).toNat)))).1)), trivial⟩ ⟨⟨(by first | exact (congrArg (fun q => some (Blk.row 3 1 q)) (by first | (simp only [se_map, se_byL, se_len, se_ch, List.length_map]; done) | (simp only [se_map, se_byL, se_len, se_ch, List.length_map, Nat.zero_add]; done) : (((s18.2.map iC).take (0 + (s18.1 : Int).toNat) ++ (s18.2.map iC).take (min (s18.1 : Int).toNat ((s18.2.map iC).length - (s18.1 : Int).toNat)) ++ (s18.2.map iC).drop ((0 + (s18.1 : Int).toNat) + min (s18.1 : Int).toNat ((s18.2.map iC).length - (s18.1 : Int).toNat))) : List (List LV)) = (((IntKind.i64.wrap (s18.1 + ((min (s18.1 : Int).toNat (s18.2.length - (s18.1 : Int).toNat) : Nat) : Int))), (s18.2.take (s18.1 : Int).toNat ++ s18.2.take (min (s18.1 : Int).toNat (s18.2.length - (s18.1 : Int).toNat)) ++ s18.2.drop ((s18.1 : Int).toNat + min (s18.1 : Int).toNat (s18.2.length - (s18.1 : Int).toNat)))).2.map iC))) | exact Eq.trans (b := some (Blk.row 3 1 ((s18.2.map iC).take (0 + (s18.1 : Int).toNat) ++ (s18.2.map iC).take (min (s18.1 : Int).toNat ((s18.2.map iC).length - (s18.1 : Int).toNat)) ++ (s18.2.map iC).drop ((0 + (s18.1 : Int).toNat) + min (s18.1 : Int).toNat ((s18.2.map iC).length - (s18.1 : Int).toNat))))) rfl (congrArg (fun q => some (Blk.row 3 1 q)) (by first | (simp only [se_map, se_byL, se_len, se_ch, List.length_map]; done) | (simp only [se_map, se_byL, se_len, se_ch, List.length_map, Nat.zero_add]; done) : (((s18.2.map iC).take (0 + (s18.1 : Int).toNat) ++ (s18.2.map iC).take (min (s18.1 : Int).toNat ((s18.2.map iC).length - (s18.1 : Int).toNat)) ++ (s18.2.map iC).drop ((0 + (s18.1 : Int).toNat) + min (s18.1 : Int).toNat ((s18.2.map iC).length - (s18.1 : Int).toNat))) : List (List LV)) = (((IntKind.i64.wrap (s18.1 + ((min (s18.1 : Int).toNat (s18.2.length - (s18.1 : Int).toNat) : Nat) : Int))), (s18.2.take (s18.1 : Int).toNat ++ s18.2.take (min (s18.1 : Int).toNat (s18.2.length - (s18.1 : Int).toNat)) ++ s18.2.drop ((s18.1 : Int).toNat + min (s18.1 : Int).toNat (s18.2.length - (s18.1 : Int).toNat)))).2.map iC)))), rfl, NLss_bel (NLss_map' _)⟩, trivial⟩ (by repeat' first | exact True.intro | exact rfl | exact NLs_bels (by assumption) | refine ⟨?_, ?_⟩) rfl (K18 _ e.symm)
      · replace b18 := condF (by first | exact hc | simpa only [se_len, se_ch, List.length_map] using hc) b18
        conv => whnf
        have e := Option.some.inj b18
        replace e := hbrk18 _ e.symm
        rw [e] at r18
        dsimp only [aftM] at r18
        have e := Option.some.inj r18
        subst e
        repeat' first | with_reducible rfl | with_reducible exact True.intro | with_reducible assumption | exact Or.inr ⟨_, rfl, congrArg (fun q => some (Blk.row 3 1 q)) rfl⟩ | (refine W.drawnM (id := 9) 0 TT_ok hmix1 [0, 0, 0, 0, 0, 0, 0, 0, 1, 1] [1, 0, 0, 0, 0, 0, 0, 1, 1, 1] rfl ?_; conv => whnf) | exact (congrArg Bool.not h) | exact fun _ => True.intro | exact (rfl : (_ : Nat) = _) | exact (rfl : (_ : LV) = _) | exact NLss_map' _ | refine NLss_app ?_ ?_ | refine NLss_set ?_ ?_ | (refine And.intro ?_ ?_ <;> conv => whnf) | (intro h; (conv => whnf) <;> first | with_reducible rfl | assumption | exact h | exact (congrArg Bool.not h) | (refine ⟨h, True.intro⟩) | (refine ⟨congrArg Bool.not h, True.intro⟩) | (refine ⟨by assumption, True.intro⟩)) | (intro h; exact (Bool.false_ne_true (h.symm.trans (by assumption))).elim) | (intros; simp_all; done) | (refine gand ?_ h; assumption) | (simp only [se_map, se_byL]; exact rfl) | (simp only [se_map, se_byL, se_len, se_ch, List.length_map]; done) | fail

theorem c_slices_Repeat_int (a0 : (List Int)) (a1 : Int) (r : (List Int)) (h : slices_Repeat_int a0 a1 = some r) : CallP Try.prog 280 [(LV.ro 1 (a0.map iC)), (I a1)] (LV.ro 1 (r.map iC)) := by
  exact CallF.toP (cf_slices_Repeat_int a0 a1 r h) (by repeat' first | exact True.intro | assumption | refine ⟨?_, ?_⟩) (NLss_map' _)

def flood_opens_b20 (a1 : (List (List Bool))) (a2 : Int) (k20 : Nat) (x20 : LinkT) (s20 : (List Int)) : Option (Step (List Int) (List Int)) :=
  (gd x20.Up (gix a1 a2)).bind fun v35 =>
  (gd x20.Up (gix v35 ((k20 : Nat) : Int))).bind fun v37 =>
  (bif (bif x20.Up then v37 else false) then
    grd (fits ((s20 ++ ([x20.Seg] : (List Int))) : List Int).length 8) <|
    some (.nxt (s20 ++ ([x20.Seg] : (List Int))))
  else
    some (.nxt s20))

def flood_opens (a0 : LanT) (a1 : (List (List Bool))) (a2 : Int) : Option (List Int) :=
  (gix a0.Plans a2).bind fun v33 =>
  aft (rangeL (flood_opens_b20 a1 a2) v33.Ports ([] : (List Int))) fun s20 =>
  some s20

theorem cf_flood_opens (a0 : LanT) (a1 : (List (List Bool))) (a2 : Int) (r : (List Int)) (h : flood_opens a0 a1 a2 = some r) : CallF Try.prog 209 [(LV.agg [(I a0.Segs), (LV.ro 2 (a0.Plans.map PlanT.cells)), (LV.ro 2 (a0.Hosts.map HostT.cells))]), (LV.ro 1 (a1.map (roC 1 bC))), (I a2)] 3 1 (r.map iC) := by
  unfold flood_opens at h
  refine CallF.of (NLss_map' _) (CallW.intro TT_ok Try.func209 rfl rfl [0, 1, 2, 3, 6, 7, 8, 9, 15, 16, 17, 18, 32] rfl ?_)
  conv => whnf
  replace h := bindS h
  obtain ⟨v33, hv33, h⟩ := h
  have i34 := gixF (f := PlanT.cells) hv33
  repeat' first | with_reducible rfl | with_reducible exact True.intro | with_reducible assumption | refine parkI ?_ | (refine ⟨_, i34, ?_⟩; conv => whnf) | (refine And.intro ?_ ?_ <;> conv => whnf) | fail
  replace h := aftS h
  obtain ⟨O20, hO20, r20⟩ := h
  refine LoopW.virt 7 3 1 rfl ?_
  refine LoopW.norm [(1, (LV.ro 1 (a1.map (roC 1 bC)))), (2, (I a2)), (7, (LV.sl 1 0 (([] : (List Int)).map iC).length)), (15, (LV.ro 3 (v33.Ports.map LinkT.cells))), (16, (I (((v33.Ports.map LinkT.cells).length : Nat) : Int))), (17, (I ((0 : Nat) : Int)))] 2 [(1, (.row 3 1 (([] : (List Int)).map iC)))] ⟨rfl, rfl, (by exact congrArg (LV.sl 1 0) (by first | (simp only [se_map, se_byL, se_len, se_ch, List.length_map]; done) | ((try simp only [se_map, se_byL, se_len, se_ch, List.length_map]); (try simp only [se_len, se_ch, List.length_map] at *); omega) : 0 = (([] : (List Int)).map iC).length)), rfl, rfl, rfl, trivial⟩ ⟨⟨(congrArg (fun q => some (Blk.row 3 1 q)) (by simp only [se_map, se_byL, se_len, se_ch, List.length_map] : ([] : List (List LV)) = (([] : (List Int)).map iC))), rfl, NLss_bel (NLss_map' _)⟩, trivial⟩ (by repeat' first | exact True.intro | exact rfl | exact NLs_bels (by assumption) | refine ⟨?_, ?_⟩) rfl ?_
  refine LoopW.forR (fun k20 s20 => [(1, (LV.ro 1 (a1.map (roC 1 bC)))), (2, (I a2)), (7, (LV.sl 1 0 (s20.map iC).length)), (15, (LV.ro 3 (v33.Ports.map LinkT.cells))), (16, (I (((v33.Ports.map LinkT.cells).length : Nat) : Int))), (17, (I ((k20 : Nat) : Int)))]) (fun s20 => ⟨2, [(1, (.row 3 1 (s20.map iC)))]⟩) hO20 (fun hl20 s20 hs20 => ?_) (fun hl20 k20 x20 s20 o20 hk20 hx20 b20 K20 hret20 hbrk20 => ?_)
  · rw [hs20] at r20
    dsimp only [aftM] at r20
    have hd : decide (((v33.Ports.length : Nat) : Int) < (((v33.Ports.map LinkT.cells).length : Nat) : Int)) = false := by rw [decide_eq_false_iff_not]; (try simp only [se_len, se_ch, List.length_map]); omega
    refine LoopW.round TT_ok [0, 1, 2, 3, 6, 7, 8, 9, 15, 16, 17, 18, 32] ?_
    conv => whnf
    repeat' first | with_reducible rfl | with_reducible exact True.intro | with_reducible assumption | refine parkI ?_ | (refine And.intro ?_ ?_ <;> conv => whnf) | fail
    refine parkE (fun hc => ?_) (fun hc => ?_)
    · exact (Bool.false_ne_true (hd.symm.trans hc)).elim
    · clear hd
      conv => whnf
      have e := Option.some.inj r20
      subst e
      repeat' first | with_reducible rfl | with_reducible exact True.intro | with_reducible assumption | exact Or.inr ⟨_, rfl, congrArg (fun q => some (Blk.row 3 1 q)) rfl⟩ | exact (congrArg Bool.not h) | exact fun _ => True.intro | exact (rfl : (_ : Nat) = _) | exact (rfl : (_ : LV) = _) | exact NLss_map' _ | refine NLss_app ?_ ?_ | refine NLss_set ?_ ?_ | (refine And.intro ?_ ?_ <;> conv => whnf) | (intro h; (conv => whnf) <;> first | with_reducible rfl | assumption | exact h | exact (congrArg Bool.not h) | (refine ⟨h, True.intro⟩) | (refine ⟨congrArg Bool.not h, True.intro⟩) | (refine ⟨by assumption, True.intro⟩)) | (intro h; exact (Bool.false_ne_true (h.symm.trans (by assumption))).elim) | (intros; simp_all; done) | (refine gand ?_ h; assumption) | (simp only [se_map, se_byL]; exact rfl) | (simp only [se_map, se_byL, se_len, se_ch, List.length_map]; done) | fail
  · unfold flood_opens_b20 at b20
    have hd : decide (((k20 : Nat) : Int) < (((v33.Ports.map LinkT.cells).length : Nat) : Int)) = true := by rw [decide_eq_true_eq]; (try simp only [se_len, se_ch, List.length_map] at hk20); (try simp only [se_len, se_ch, List.length_map]); omega
    refine LoopW.round TT_ok [0, 1, 2, 3, 6, 7, 8, 9, 15, 16, 17, 18, 32] ?_
    conv => whnf
    repeat' first | with_reducible rfl | with_reducible exact True.intro | with_reducible assumption | refine parkI ?_ | (refine And.intro ?_ ?_ <;> conv => whnf) | fail
    refine parkE (fun hc => ?_) (fun hc => ?_)
    · clear hd
      conv => whnf
      replace b20 := bindS b20
      obtain ⟨v35, hv35, b20⟩ := b20
      have i36 := fun hg => gixF (f := (roC 1 bC)) (gdS hg hv35)
      replace b20 := bindS b20
      obtain ⟨v37, hv37, b20⟩ := b20
      have i38 := fun hg => gixF (f := bC) (gdS hg hv37)
      repeat' first | with_reducible rfl | with_reducible exact True.intro | with_reducible assumption | refine parkI ?_ | (refine ⟨_, (kixF (f := LinkT.cells) hx20), ?_⟩; conv => whnf) | (refine ⟨_, i36, ?_⟩; conv => whnf) | (refine ⟨_, i38, ?_⟩; conv => whnf) | exact (congrArg Bool.not h) | exact fun _ => True.intro | (refine And.intro ?_ ?_ <;> conv => whnf) | (intro h; (conv => whnf) <;> first | with_reducible rfl | assumption | exact h | exact (congrArg Bool.not h) | (refine ⟨h, True.intro⟩) | (refine ⟨congrArg Bool.not h, True.intro⟩) | (refine ⟨by assumption, True.intro⟩)) | (intro h; exact (Bool.false_ne_true (h.symm.trans (by assumption))).elim) | (intros; simp_all; done) | (refine gand ?_ h; assumption) | fail
      refine parkE (fun hc => ?_) (fun hc => ?_)
      · replace b20 := condT hc b20
        conv => whnf
        replace b20 := grdS b20
        obtain ⟨g39, b20⟩ := b20
        replace g39 : fits (((s20.map iC) ++ [[(I x20.Seg)]])).length 8 := by simpa only [se_len, se_ch, List.length_map] using g39
        repeat' first | with_reducible rfl | with_reducible exact True.intro | with_reducible assumption | refine parkI ?_ | exact g39 | exact (rfl : (_ : Nat) = _) | exact NLss_map' _ | refine NLss_app ?_ ?_ | refine NLss_set ?_ ?_ | (refine And.intro ?_ ?_ <;> conv => whnf) | (simp only [se_map, se_byL]; exact rfl) | (simp only [se_map, se_byL, se_len, se_ch, List.length_map]; done) | fail
        have e := Option.some.inj b20
        refine LoopW.ren [(4, 1)] [(1, (LV.ro 1 (a1.map (roC 1 bC)))), (2, (I a2)), (7, (LV.sl 1 0 ((s20 ++ ([x20.Seg] : (List Int))).map iC).length)), (15, (LV.ro 3 (v33.Ports.map LinkT.cells))), (16, (I (((v33.Ports.map LinkT.cells).length : Nat) : Int))), (17, (I ((k20 + 1 : Nat) : Int)))] 2 [(1, (.row 3 1 ((s20 ++ ([x20.Seg] : (List Int))).map iC)))] rfl ⟨rfl, rfl, (by exact congrArg (LV.sl 1 0) (by first | (simp only [se_map, se_byL, se_len, se_ch, List.length_map]; done) | ((try simp only [se_map, se_byL, se_len, se_ch, List.length_map]); (try simp only [se_len, se_ch, List.length_map] at *); omega) : (((s20.map iC) ++ [[(I x20.Seg)]])).length = ((s20 ++ ([x20.Seg] : (List Int))).map iC).length)), rfl, rfl, (congrArg (LV.int .i64) (w64_nat _ (by omega))), trivial⟩ ⟨⟨rfl, rfl, .inl ⟨(by simp only [se_map, se_byL, se_len, se_ch, List.length_map] : (((s20.map iC) ++ [[(I x20.Seg)]]) : List (List LV)) = ((s20 ++ ([x20.Seg] : (List Int))).map iC)), (by repeat' first | exact NLss_map' _ | refine NLss_app ?_ ?_ | refine NLss_set ?_ ?_ | exact True.intro | refine ⟨?_, ?_⟩)⟩⟩, rfl, rfl, trivial⟩ rfl (K20 _ e.symm)
      · replace b20 := condF hc b20
        conv => whnf
        repeat' first | with_reducible rfl | with_reducible exact True.intro | with_reducible assumption | refine parkI ?_ | (refine And.intro ?_ ?_ <;> conv => whnf) | fail
        have e := Option.some.inj b20
        refine LoopW.norm [(1, (LV.ro 1 (a1.map (roC 1 bC)))), (2, (I a2)), (7, (LV.sl 1 0 (s20.map iC).length)), (15, (LV.ro 3 (v33.Ports.map LinkT.cells))), (16, (I (((v33.Ports.map LinkT.cells).length : Nat) : Int))), (17, (I ((k20 + 1 : Nat) : Int)))] 2 [(1, (.row 3 1 (s20.map iC)))] ⟨rfl, rfl, rfl, rfl, rfl, (congrArg (LV.int .i64) (w64_nat _ (by omega))), trivial⟩ ⟨⟨rfl, rfl, NLss_bel (NLss_map' _)⟩, trivial⟩ (by repeat' first | exact True.intro | exact rfl | exact NLs_bels (by assumption) | refine ⟨?_, ?_⟩) rfl (K20 _ e.symm)
    · exact (Bool.false_ne_true (hc.symm.trans hd)).elim

theorem c_flood_opens (a0 : LanT) (a1 : (List (List Bool))) (a2 : Int) (r : (List Int)) (h : flood_opens a0 a1 a2 = some r) : CallP Try.prog 209 [(LV.agg [(I a0.Segs), (LV.ro 2 (a0.Plans.map PlanT.cells)), (LV.ro 2 (a0.Hosts.map HostT.cells))]), (LV.ro 1 (a1.map (roC 1 bC))), (I a2)] (LV.ro 1 (r.map iC)) := by
  exact CallF.toP (cf_flood_opens a0 a1 a2 r h) (by repeat' first | exact True.intro | assumption | refine ⟨?_, ?_⟩) (NLss_map' _)

def flood_neighbours_b19 (a0 : LanT) (a1 : (List (List Bool))) (k19 : Nat) (x19 : PlanT) (s19 : (List (List Int))) : Option (Step (List (List Int)) (List (List Int))) :=
  (flood_opens a0 a1 ((k19 : Nat) : Int)).bind fun y40 =>
  grd (fits ((s19 ++ ([y40] : (List (List Int)))) : List (List Int)).length 24) <|
  some (.nxt (s19 ++ ([y40] : (List (List Int)))))

def flood_neighbours (a0 : LanT) (a1 : (List (List Bool))) : Option (List (List Int)) :=
  aft (rangeL (flood_neighbours_b19 a0 a1) a0.Plans ([] : List (List Int))) fun s19 =>
  some s19

theorem c_flood_neighbours (a0 : LanT) (a1 : (List (List Bool))) (r : (List (List Int))) (h : flood_neighbours a0 a1 = some r) : CallP Try.prog 212 [(LV.agg [(I a0.Segs), (LV.ro 2 (a0.Plans.map PlanT.cells)), (LV.ro 2 (a0.Hosts.map HostT.cells))]), (LV.ro 1 (a1.map (roC 1 bC)))] (LV.func (.func 281) [] [(LV.rptr [(LV.ro 1 (r.map (roC 1 iC)))])]) := by
  unfold flood_neighbours at h
  refine .intro (by repeat' first | exact True.intro | assumption | refine ⟨?_, ?_⟩) (.intro TT_ok Try.func212 rfl rfl [0, 1, 2, 4, 5, 6, 9, 10, 11] rfl ?_)
  conv => whnf
  repeat' first | with_reducible rfl | with_reducible exact True.intro | with_reducible assumption | refine parkI ?_ | (refine W.drawnM (id := 5) 0 TT_ok hmix1 [0, 0, 0, 0, 0, 0, 1, 2] [1, 0, 0, 0, 0, 1, 2, 3] rfl ?_; conv => whnf) | exact (congrArg Bool.not h) | exact fun _ => True.intro | exact (rfl : (_ : Nat) = _) | exact (rfl : (_ : LV) = _) | exact NLss_map' _ | refine NLss_app ?_ ?_ | refine NLss_set ?_ ?_ | (refine And.intro ?_ ?_ <;> conv => whnf) | (intro h; (conv => whnf) <;> first | with_reducible rfl | assumption | exact h | exact (congrArg Bool.not h) | (refine ⟨h, True.intro⟩) | (refine ⟨congrArg Bool.not h, True.intro⟩) | (refine ⟨by assumption, True.intro⟩)) | (intro h; exact (Bool.false_ne_true (h.symm.trans (by assumption))).elim) | (intros; simp_all; done) | (refine gand ?_ h; assumption) | (simp only [se_map, se_byL]; exact rfl) | (simp only [se_map, se_byL, se_len, se_ch, List.length_map]; done) | fail
  replace h := aftS h
  obtain ⟨O19, hO19, r19⟩ := h
  refine LoopW.virtB 1 57 41 1 rfl rfl ?_
  refine LoopW.norm [(1, (LV.ro 1 (a1.map (roC 1 bC)))), (2, (LV.ptr 0 0 0)), (5, (LV.ptr 1 0 0)), (9, (I (((a0.Plans.map PlanT.cells).length : Nat) : Int))), (10, (I ((0 : Nat) : Int)))] 3 [(0, (.row 47 3 [[(I a0.Segs), (LV.ro 2 (a0.Plans.map PlanT.cells)), (LV.ro 2 (a0.Hosts.map HostT.cells))]])), (1, (.row 57 1 [[(LV.sl 2 0 (([] : List (List Int)).map (roC 1 iC)).length)]])), (2, (.row 41 1 (([] : List (List Int)).map (roC 1 iC))))] ⟨rfl, rfl, rfl, rfl, rfl, trivial⟩ ⟨⟨rfl, rfl, (by repeat' first | exact True.intro | exact rfl | exact NLs_bels (by assumption) | refine ⟨?_, ?_⟩)⟩, ⟨⟨(congrArg (fun q => some (Blk.row 57 1 q)) (by first | (simp only [se_map, se_byL, se_len, se_ch, List.length_map]; done) | (simp only [se_map, se_byL, se_len, se_ch, List.length_map, roC]; done) : ([[(LV.sl 2 0 0)]] : List (List LV)) = [[(LV.sl 2 0 (([] : List (List Int)).map (roC 1 iC)).length)]])), rfl, (by repeat' first | exact True.intro | exact rfl | exact NLs_bels (by assumption) | refine ⟨?_, ?_⟩)⟩, ⟨⟨(congrArg (fun q => some (Blk.row 41 1 q)) (by first | (simp only [se_map, se_byL, se_len, se_ch, List.length_map]; done) | (simp only [se_map, se_byL, se_len, se_ch, List.length_map, roC]; done) : ([] : List (List LV)) = (([] : List (List Int)).map (roC 1 iC)))), rfl, NLss_bel (NLss_map' _)⟩, trivial⟩⟩⟩ (by repeat' first | exact True.intro | exact rfl | exact NLs_bels (by assumption) | refine ⟨?_, ?_⟩) rfl ?_
  refine LoopW.forR (fun k19 s19 => [(1, (LV.ro 1 (a1.map (roC 1 bC)))), (2, (LV.ptr 0 0 0)), (5, (LV.ptr 1 0 0)), (9, (I (((a0.Plans.map PlanT.cells).length : Nat) : Int))), (10, (I ((k19 : Nat) : Int)))]) (fun s19 => ⟨3, [(0, (.row 47 3 [[(I a0.Segs), (LV.ro 2 (a0.Plans.map PlanT.cells)), (LV.ro 2 (a0.Hosts.map HostT.cells))]])), (1, (.row 57 1 [[(LV.sl 2 0 (s19.map (roC 1 iC)).length)]])), (2, (.row 41 1 (s19.map (roC 1 iC))))]⟩) hO19 (fun hl19 s19 hs19 => ?_) (fun hl19 k19 x19 s19 o19 hk19 hx19 b19 K19 hret19 hbrk19 => ?_)
  · rw [hs19] at r19
    dsimp only [aftM] at r19
    have hd : decide (((a0.Plans.length : Nat) : Int) < (((a0.Plans.map PlanT.cells).length : Nat) : Int)) = false := by rw [decide_eq_false_iff_not]; (try simp only [se_len, se_ch, List.length_map]); omega
    refine LoopW.round TT_ok [0, 1, 2, 4, 5, 6, 9, 10, 11] ?_
    conv => whnf
    repeat' first | with_reducible rfl | with_reducible exact True.intro | with_reducible assumption | refine parkI ?_ | (refine W.drawnM (id := 5) 0 TT_ok hmix1 [0, 0, 0, 0, 0, 0, 1, 2] [1, 0, 0, 0, 0, 1, 2, 3] rfl ?_; conv => whnf) | exact (congrArg Bool.not h) | exact fun _ => True.intro | exact (rfl : (_ : Nat) = _) | exact (rfl : (_ : LV) = _) | exact NLss_map' _ | refine NLss_app ?_ ?_ | refine NLss_set ?_ ?_ | (refine And.intro ?_ ?_ <;> conv => whnf) | (intro h; (conv => whnf) <;> first | with_reducible rfl | assumption | exact h | exact (congrArg Bool.not h) | (refine ⟨h, True.intro⟩) | (refine ⟨congrArg Bool.not h, True.intro⟩) | (refine ⟨by assumption, True.intro⟩)) | (intro h; exact (Bool.false_ne_true (h.symm.trans (by assumption))).elim) | (intros; simp_all; done) | (refine gand ?_ h; assumption) | (simp only [se_map, se_byL]; exact rfl) | (simp only [se_map, se_byL, se_len, se_ch, List.length_map]; done) | fail
    refine parkE (fun hc => ?_) (fun hc => ?_)
    · exact (Bool.false_ne_true (hd.symm.trans hc)).elim
    · clear hd
      conv => whnf
      have e := Option.some.inj r19
      subst e
      repeat' first | with_reducible rfl | with_reducible exact True.intro | with_reducible assumption | (refine W.drawnM (id := 5) 0 TT_ok hmix1 [0, 0, 0, 0, 0, 0, 1, 2] [1, 0, 0, 0, 0, 1, 2, 3] rfl ?_; conv => whnf) | exact (congrArg Bool.not h) | exact fun _ => True.intro | exact (rfl : (_ : Nat) = _) | exact (rfl : (_ : LV) = _) | exact NLss_map' _ | refine NLss_app ?_ ?_ | refine NLss_set ?_ ?_ | (refine And.intro ?_ ?_ <;> conv => whnf) | (intro h; (conv => whnf) <;> first | with_reducible rfl | assumption | exact h | exact (congrArg Bool.not h) | (refine ⟨h, True.intro⟩) | (refine ⟨congrArg Bool.not h, True.intro⟩) | (refine ⟨by assumption, True.intro⟩)) | (intro h; exact (Bool.false_ne_true (h.symm.trans (by assumption))).elim) | (intros; simp_all; done) | (refine gand ?_ h; assumption) | (simp only [se_map, se_byL]; exact rfl) | (simp only [se_map, se_byL, se_len, se_ch, List.length_map]; done) | fail
  · unfold flood_neighbours_b19 at b19
    have hd : decide (((k19 : Nat) : Int) < (((a0.Plans.map PlanT.cells).length : Nat) : Int)) = true := by rw [decide_eq_true_eq]; (try simp only [se_len, se_ch, List.length_map] at hk19); (try simp only [se_len, se_ch, List.length_map]); omega
    refine LoopW.round TT_ok [0, 1, 2, 4, 5, 6, 9, 10, 11] ?_
    conv => whnf
    repeat' first | with_reducible rfl | with_reducible exact True.intro | with_reducible assumption | refine parkI ?_ | (refine W.drawnM (id := 5) 0 TT_ok hmix1 [0, 0, 0, 0, 0, 0, 1, 2] [1, 0, 0, 0, 0, 1, 2, 3] rfl ?_; conv => whnf) | exact (congrArg Bool.not h) | exact fun _ => True.intro | exact (rfl : (_ : Nat) = _) | exact (rfl : (_ : LV) = _) | exact NLss_map' _ | refine NLss_app ?_ ?_ | refine NLss_set ?_ ?_ | (refine And.intro ?_ ?_ <;> conv => whnf) | (intro h; (conv => whnf) <;> first | with_reducible rfl | assumption | exact h | exact (congrArg Bool.not h) | (refine ⟨h, True.intro⟩) | (refine ⟨congrArg Bool.not h, True.intro⟩) | (refine ⟨by assumption, True.intro⟩)) | (intro h; exact (Bool.false_ne_true (h.symm.trans (by assumption))).elim) | (intros; simp_all; done) | (refine gand ?_ h; assumption) | (simp only [se_map, se_byL]; exact rfl) | (simp only [se_map, se_byL, se_len, se_ch, List.length_map]; done) | fail
    refine parkE (fun hc => ?_) (fun hc => ?_)
    · clear hd
      conv => whnf
      replace b19 := bindS b19
      obtain ⟨y40, hy40, b19⟩ := b19
      have c41 := c_flood_opens a0 a1 ((k19 : Nat) : Int) _ hy40
      replace b19 := grdS b19
      obtain ⟨g42, b19⟩ := b19
      replace g42 : fits (((s19.map (roC 1 iC)) ++ [[(LV.ro 1 (y40.map iC))]])).length 24 := by simpa only [se_len, se_ch, List.length_map] using g42
      repeat' first | with_reducible rfl | with_reducible exact True.intro | with_reducible assumption | refine parkI ?_ | exact g42 | (refine CallP.use c41 ?_; conv => whnf) | (refine ⟨_, _, CallP.at c41, ?_⟩; conv => whnf) | (refine ⟨_, fun _ => c41, ?_⟩; conv => whnf) | (refine W.drawnM (id := 5) 0 TT_ok hmix1 [0, 0, 0, 0, 0, 0, 1, 2] [1, 0, 0, 0, 0, 1, 2, 3] rfl ?_; conv => whnf) | exact (congrArg Bool.not h) | exact fun _ => True.intro | exact (rfl : (_ : Nat) = _) | exact (rfl : (_ : LV) = _) | exact NLss_map' _ | refine NLss_app ?_ ?_ | refine NLss_set ?_ ?_ | (refine And.intro ?_ ?_ <;> conv => whnf) | (intro h; (conv => whnf) <;> first | with_reducible rfl | assumption | exact h | exact (congrArg Bool.not h) | (refine ⟨h, True.intro⟩) | (refine ⟨congrArg Bool.not h, True.intro⟩) | (refine ⟨by assumption, True.intro⟩)) | (intro h; exact (Bool.false_ne_true (h.symm.trans (by assumption))).elim) | (intros; simp_all; done) | (refine gand ?_ h; assumption) | (simp only [se_map, se_byL]; exact rfl) | (simp only [se_map, se_byL, se_len, se_ch, List.length_map]; done) | fail
      have e := Option.some.inj b19
      refine LoopW.ren [(0, 0), (1, 1), (4, 2)] [(1, (LV.ro 1 (a1.map (roC 1 bC)))), (2, (LV.ptr 0 0 0)), (5, (LV.ptr 1 0 0)), (9, (I (((a0.Plans.map PlanT.cells).length : Nat) : Int))), (10, (I ((k19 + 1 : Nat) : Int)))] 3 [(0, (.row 47 3 [[(I a0.Segs), (LV.ro 2 (a0.Plans.map PlanT.cells)), (LV.ro 2 (a0.Hosts.map HostT.cells))]])), (1, (.row 57 1 [[(LV.sl 2 0 ((s19 ++ ([y40] : (List (List Int)))).map (roC 1 iC)).length)]])), (2, (.row 41 1 ((s19 ++ ([y40] : (List (List Int)))).map (roC 1 iC))))] rfl ⟨rfl, rfl, rfl, rfl, (congrArg (LV.int .i64) (w64_nat _ (by omega))), trivial⟩ ⟨⟨rfl, rfl, .inl ⟨rfl, (by repeat' first | exact NLss_map' _ | refine NLss_app ?_ ?_ | refine NLss_set ?_ ?_ | exact True.intro | refine ⟨?_, ?_⟩)⟩⟩, rfl, rfl, ⟨⟨rfl, rfl, .inr (by first | exact rfl | (show [[(LV.sl 2 0 (((s19.map (roC 1 iC)) ++ [[(LV.ro 1 (y40.map iC))]])).length)]] = [[(LV.sl 2 0 ((s19 ++ ([y40] : (List (List Int)))).map (roC 1 iC)).length)]]; simp only [se_map, se_byL, se_len, se_ch, List.length_map]))⟩, rfl, rfl, ⟨⟨rfl, rfl, .inl ⟨(by first | (simp only [se_map, se_byL, se_len, se_ch, List.length_map]; done) | (simp only [se_map, se_byL, se_len, se_ch, List.length_map, roC]; done) : (((s19.map (roC 1 iC)) ++ [[(LV.ro 1 (y40.map iC))]]) : List (List LV)) = ((s19 ++ ([y40] : (List (List Int)))).map (roC 1 iC))), (by repeat' first | exact NLss_map' _ | refine NLss_app ?_ ?_ | refine NLss_set ?_ ?_ | exact True.intro | refine ⟨?_, ?_⟩)⟩⟩, rfl, rfl, trivial⟩⟩⟩ rfl (K19 _ e.symm)
    · exact (Bool.false_ne_true (hc.symm.trans hd)).elim

def slices_Compact_int_b24 (s23 : (Int × (List Int))) (s24 : (Int × Int × (List Int))) : Option (Step (Step (List Int) (Int × (List Int))) (Int × Int × (List Int))) :=
  (bif (decide (s24.2.1 < (((s24.2.2.length - (s23.1 : Int).toNat) : Nat) : Int))) then
    grd ((0 : Int) ≤ s24.2.1 ∧ s24.2.1 < (((s24.2.2.length - (s23.1 : Int).toNat) : Nat) : Int)) <|
    (gixN s24.2.2 ((s23.1 : Int).toNat + (s24.2.1 : Int).toNat)).bind fun v62 =>
    grd ((0 : Int) ≤ (IntKind.i64.wrap (s24.2.1 - 1)) ∧ (IntKind.i64.wrap (s24.2.1 - 1)) < (((s24.2.2.length - (s23.1 : Int).toNat) : Nat) : Int)) <|
    (gixN s24.2.2 ((s23.1 : Int).toNat + ((IntKind.i64.wrap (s24.2.1 - 1)) : Int).toNat)).bind fun v65 =>
    (bif (!decide (v62 = v65)) then
      grd ((0 : Int) ≤ s24.2.1 ∧ s24.2.1 < (((s24.2.2.length - (s23.1 : Int).toNat) : Nat) : Int)) <|
      grd ((0 : Int) ≤ s24.1 ∧ s24.1 < ((s24.2.2.length : Nat) : Int)) <|
      (gixN s24.2.2 (s24.1 : Int).toNat).bind fun v69 =>
      some (.nxt ((IntKind.i64.wrap (s24.1 + 1)), (IntKind.i64.wrap (s24.2.1 + 1)), (s24.2.2.set (s24.1 : Int).toNat v62)))
    else
      some (.nxt (s24.1, (IntKind.i64.wrap (s24.2.1 + 1)), s24.2.2)))
  else
    some (.brk (s24.1, s24.2.1, s24.2.2)))

def slices_Compact_int_b23  (s23 : (Int × (List Int))) : Option (Step (List Int) (Int × (List Int))) :=
  (bif (decide (s23.1 < ((s23.2.length : Nat) : Int))) then
    grd ((0 : Int) ≤ s23.1 ∧ s23.1 < ((s23.2.length : Nat) : Int)) <|
    (gixN s23.2 (s23.1 : Int).toNat).bind fun v55 =>
    grd ((0 : Int) ≤ (IntKind.i64.wrap (s23.1 - 1)) ∧ (IntKind.i64.wrap (s23.1 - 1)) < ((s23.2.length : Nat) : Int)) <|
    (gixN s23.2 ((IntKind.i64.wrap (s23.1 - 1)) : Int).toNat).bind fun v58 =>
    (bif (decide (v55 = v58)) then
      grd ((0 : Int) ≤ s23.1 ∧ s23.1 < ((s23.2.length : Nat) : Int)) <|
      aft (loopF 1000000 (slices_Compact_int_b24 s23) (s23.1, 1, s23.2)) fun s24 =>
      grd ((0 : Int) ≤ s24.1 ∧ s24.1 < ((s24.2.2.length : Nat) : Int)) <|
      grd ((0 : Int) ≤ s24.1 ∧ s24.1 ≤ ((s24.2.2.length : Nat) : Int)) <|
      some (.ret (s24.2.2.take (s24.1 : Int).toNat))
    else
      some (.nxt ((IntKind.i64.wrap (s23.1 + 1)), s23.2)))
  else
    some (.brk (s23.1, s23.2)))

def slices_Compact_int (a0 : (List Int)) : Option (List Int) :=
  (bif (decide (((a0.length : Nat) : Int) < 2)) then
    some a0
  else
    aft (loopF 1000000 (slices_Compact_int_b23 ) (1, a0)) fun s23 =>
    some s23.2)

theorem w_slices_Compact_int (a0 : (List Int)) (r : (List Int)) (h : slices_Compact_int a0 = some r) : CallW Try.prog 282 [(LV.sl 0 0 (a0.map iC).length)] ⟨1, [(0, (.row 3 1 (a0.map iC)))]⟩ (fun lv H' => lv = (LV.sl 0 0 (r.map iC).length) ∧ H' = ⟨1, [(0, (.row 3 1 (r.map iC)))]⟩) := by
  unfold slices_Compact_int at h
  refine CallW.shrink (CallW.intro TT_ok Try.func282 rfl rfl [0, 2, 3, 4, 5, 8, 13, 25, 32, 44] rfl ?_)
  conv => whnf
  repeat' first | with_reducible rfl | with_reducible exact True.intro | with_reducible assumption | refine parkI ?_ | (refine W.drawn TT_ok hmix1 rfl ?_; conv => whnf) | exact (congrArg Bool.not h) | exact fun _ => True.intro | exact (rfl : (_ : Nat) = _) | exact (rfl : (_ : LV) = _) | exact NLss_map' _ | refine NLss_app ?_ ?_ | refine NLss_set ?_ ?_ | (refine And.intro ?_ ?_ <;> conv => whnf) | (intro h; (conv => whnf) <;> first | with_reducible rfl | assumption | exact h | exact (congrArg Bool.not h) | (refine ⟨h, True.intro⟩) | (refine ⟨congrArg Bool.not h, True.intro⟩) | (refine ⟨by assumption, True.intro⟩)) | (intro h; exact (Bool.false_ne_true (h.symm.trans (by assumption))).elim) | (intros; simp_all; done) | (refine gand ?_ h; assumption) | (simp only [se_map, se_byL]; exact rfl) | (simp only [se_map, se_byL, se_len, se_ch, List.length_map]; done) | fail
  refine parkE (fun hc => ?_) (fun hc => ?_)
  · replace h := condT (by first | exact hc | simpa only [se_len, se_ch, List.length_map] using hc) h
    conv => whnf
    have e := Option.some.inj h
    subst e
    repeat' first | with_reducible rfl | with_reducible exact True.intro | with_reducible assumption | exact ⟨[(0, (.row 3 1 (a0.map iC)))], ⟨⟨rfl, rfl, NLss_bel (NLss_map' _)⟩, trivial⟩, (by repeat' first | exact True.intro | exact rfl | exact NLs_bels (by assumption) | refine ⟨?_, ?_⟩), rfl, rfl⟩ | (refine W.drawn TT_ok hmix1 rfl ?_; conv => whnf) | exact (congrArg Bool.not h) | exact fun _ => True.intro | exact (rfl : (_ : Nat) = _) | exact (rfl : (_ : LV) = _) | exact NLss_map' _ | refine NLss_app ?_ ?_ | refine NLss_set ?_ ?_ | (refine And.intro ?_ ?_ <;> conv => whnf) | (intro h; (conv => whnf) <;> first | with_reducible rfl | assumption | exact h | exact (congrArg Bool.not h) | (refine ⟨h, True.intro⟩) | (refine ⟨congrArg Bool.not h, True.intro⟩) | (refine ⟨by assumption, True.intro⟩)) | (intro h; exact (Bool.false_ne_true (h.symm.trans (by assumption))).elim) | (intros; simp_all; done) | (refine gand ?_ h; assumption) | (simp only [se_map, se_byL]; exact rfl) | (simp only [se_map, se_byL, se_len, se_ch, List.length_map]; done) | fail
  · replace h := condF (by first | exact hc | simpa only [se_len, se_ch, List.length_map] using hc) h
    conv => whnf
    repeat' first | with_reducible rfl | with_reducible exact True.intro | with_reducible assumption | refine parkI ?_ | (refine W.drawn TT_ok hmix1 rfl ?_; conv => whnf) | exact (congrArg Bool.not h) | exact fun _ => True.intro | exact (rfl : (_ : Nat) = _) | exact (rfl : (_ : LV) = _) | exact NLss_map' _ | refine NLss_app ?_ ?_ | refine NLss_set ?_ ?_ | (refine And.intro ?_ ?_ <;> conv => whnf) | (intro h; (conv => whnf) <;> first | with_reducible rfl | assumption | exact h | exact (congrArg Bool.not h) | (refine ⟨h, True.intro⟩) | (refine ⟨congrArg Bool.not h, True.intro⟩) | (refine ⟨by assumption, True.intro⟩)) | (intro h; exact (Bool.false_ne_true (h.symm.trans (by assumption))).elim) | (intros; simp_all; done) | (refine gand ?_ h; assumption) | (simp only [se_map, se_byL]; exact rfl) | (simp only [se_map, se_byL, se_len, se_ch, List.length_map]; done) | fail
    replace h := aftS h
    obtain ⟨O23, hO23, r23⟩ := h
    refine LoopW.norm [(0, (LV.sl 0 0 ((1, a0).2.map iC).length)), (3, (I (1, a0).1))] 1 [(0, (.row 3 1 ((1, a0).2.map iC)))] ⟨(by exact congrArg (LV.sl 0 0) (by first | (simp only [se_map, se_byL, se_len, se_ch, List.length_map]; done) | ((try simp only [se_map, se_byL, se_len, se_ch, List.length_map]); (try simp only [se_len, se_ch, List.length_map] at *); omega) : (a0.map iC).length = ((1, a0).2.map iC).length)), (by simp only [se_map, se_byL, se_len, se_ch, List.length_map] : ((I 1) : LV) = (I (1, a0).1)), trivial⟩ ⟨⟨(congrArg (fun q => some (Blk.row 3 1 q)) (by simp only [se_map, se_byL, se_len, se_ch, List.length_map] : ((a0.map iC) : List (List LV)) = ((1, a0).2.map iC))), rfl, NLss_bel (NLss_map' _)⟩, trivial⟩ (by repeat' first | exact True.intro | exact rfl | exact NLs_bels (by assumption) | refine ⟨?_, ?_⟩) rfl ?_
    refine LoopW.forF (fun s23 => [(0, (LV.sl 0 0 (s23.2.map iC).length)), (3, (I s23.1))]) (fun s23 => ⟨1, [(0, (.row 3 1 (s23.2.map iC)))]⟩) hO23 (fun s23 o23 b23 K23 hret23 hbrk23 => ?_)
    unfold slices_Compact_int_b23 at b23
    refine LoopW.round TT_ok [0, 2, 3, 4, 5, 8, 13, 25, 32, 44] ?_
    conv => whnf
    repeat' first | with_reducible rfl | with_reducible exact True.intro | with_reducible assumption | refine parkI ?_ | (refine W.drawn TT_ok hmix1 rfl ?_; conv => whnf) | exact (congrArg Bool.not h) | exact fun _ => True.intro | exact (rfl : (_ : Nat) = _) | exact (rfl : (_ : LV) = _) | exact NLss_map' _ | refine NLss_app ?_ ?_ | refine NLss_set ?_ ?_ | (refine And.intro ?_ ?_ <;> conv => whnf) | (intro h; (conv => whnf) <;> first | with_reducible rfl | assumption | exact h | exact (congrArg Bool.not h) | (refine ⟨h, True.intro⟩) | (refine ⟨congrArg Bool.not h, True.intro⟩) | (refine ⟨by assumption, True.intro⟩)) | (intro h; exact (Bool.false_ne_true (h.symm.trans (by assumption))).elim) | (intros; simp_all; done) | (refine gand ?_ h; assumption) | (simp only [se_map, se_byL]; exact rfl) | (simp only [se_map, se_byL, se_len, se_ch, List.length_map]; done) | fail
    refine parkE (fun hc => ?_) (fun hc => ?_)
    · replace b23 := condT (by first | exact hc | simpa only [se_len, se_ch, List.length_map] using hc) b23
      conv => whnf
      replace b23 := grdS b23
      obtain ⟨g54, b23⟩ := b23
      replace g54 : (0 : Int) ≤ s23.1 ∧ s23.1 < (((s23.2.map iC).length : Nat) : Int) := by simpa only [se_len, se_ch, List.length_map] using g54
      replace b23 := bindS b23
      obtain ⟨v55, hv55, b23⟩ := b23
      have i56 : nth (s23.2.map iC) (0 + ((s23.1 : Int).toNat)) = some [(I v55)] := by simpa only [se_map, se_len, se_ch, List.length_map, nth_eq, Nat.zero_add, List.getElem?_map] using gixNF (f := iC) hv55
      replace b23 := grdS b23
      obtain ⟨g57, b23⟩ := b23
      replace g57 : (0 : Int) ≤ (IntKind.i64.wrap (s23.1 - 1)) ∧ (IntKind.i64.wrap (s23.1 - 1)) < (((s23.2.map iC).length : Nat) : Int) := by simpa only [se_len, se_ch, List.length_map] using g57
      replace b23 := bindS b23
      obtain ⟨v58, hv58, b23⟩ := b23
      have i59 : nth (s23.2.map iC) (0 + (((IntKind.i64.wrap (s23.1 - 1)) : Int).toNat)) = some [(I v58)] := by simpa only [se_map, se_len, se_ch, List.length_map, nth_eq, Nat.zero_add, List.getElem?_map] using gixNF (f := iC) hv58
      repeat' first | with_reducible rfl | with_reducible exact True.intro | with_reducible assumption | refine parkI ?_ | exact g54 | exact g57 | (rw [i56]; conv => whnf) | (rw [i59]; conv => whnf) | (refine W.drawn TT_ok hmix1 rfl ?_; conv => whnf) | exact (congrArg Bool.not h) | exact fun _ => True.intro | exact (rfl : (_ : Nat) = _) | exact (rfl : (_ : LV) = _) | exact NLss_map' _ | refine NLss_app ?_ ?_ | refine NLss_set ?_ ?_ | (refine And.intro ?_ ?_ <;> conv => whnf) | (intro h; (conv => whnf) <;> first | with_reducible rfl | assumption | exact h | exact (congrArg Bool.not h) | (refine ⟨h, True.intro⟩) | (refine ⟨congrArg Bool.not h, True.intro⟩) | (refine ⟨by assumption, True.intro⟩)) | (intro h; exact (Bool.false_ne_true (h.symm.trans (by assumption))).elim) | (intros; simp_all; done) | (refine gand ?_ h; assumption) | (simp only [se_map, se_byL]; exact rfl) | (simp only [se_map, se_byL, se_len, se_ch, List.length_map]; done) | fail
      refine parkE (fun hc => ?_) (fun hc => ?_)
      · replace b23 := condT hc b23
        conv => whnf
        replace b23 := grdS b23
        obtain ⟨g60, b23⟩ := b23
        replace g60 : (0 : Int) ≤ s23.1 ∧ s23.1 < (((s23.2.map iC).length : Nat) : Int) := by simpa only [se_len, se_ch, List.length_map] using g60
        repeat' first | with_reducible rfl | with_reducible exact True.intro | with_reducible assumption | refine parkI ?_ | exact g60 | (refine W.drawn TT_ok hmix1 rfl ?_; conv => whnf) | exact (congrArg Bool.not h) | exact fun _ => True.intro | exact (rfl : (_ : Nat) = _) | exact (rfl : (_ : LV) = _) | exact NLss_map' _ | refine NLss_app ?_ ?_ | refine NLss_set ?_ ?_ | (refine And.intro ?_ ?_ <;> conv => whnf) | (intro h; (conv => whnf) <;> first | with_reducible rfl | assumption | exact h | exact (congrArg Bool.not h) | (refine ⟨h, True.intro⟩) | (refine ⟨congrArg Bool.not h, True.intro⟩) | (refine ⟨by assumption, True.intro⟩)) | (intro h; exact (Bool.false_ne_true (h.symm.trans (by assumption))).elim) | (intros; simp_all; done) | (refine gand ?_ h; assumption) | (simp only [se_map, se_byL]; exact rfl) | (simp only [se_map, se_byL, se_len, se_ch, List.length_map]; done) | fail
        replace b23 := aftS b23
        obtain ⟨O24, hO24, r24⟩ := b23
        refine LoopW.norm [(0, (LV.sl 0 0 ((s23.1, 1, s23.2).2.2.map iC).length)), (3, (I (s23.1, 1, s23.2).1)), (4, (LV.sl 0 (0 + (s23.1 : Int).toNat) (((s23.1, 1, s23.2).2.2.map iC).length - (s23.1 : Int).toNat))), (5, (I (s23.1, 1, s23.2).2.1))] 1 [(0, (.row 3 1 ((s23.1, 1, s23.2).2.2.map iC)))] ⟨(by exact congrArg (LV.sl 0 0) (by first | (simp only [se_map, se_byL, se_len, se_ch, List.length_map]; done) | ((try simp only [se_map, se_byL, se_len, se_ch, List.length_map]); (try simp only [se_len, se_ch, List.length_map] at *); omega) : (s23.2.map iC).length = ((s23.1, 1, s23.2).2.2.map iC).length)), (by simp only [se_map, se_byL, se_len, se_ch, List.length_map] : ((I s23.1) : LV) = (I (s23.1, 1, s23.2).1)), (by simp only [se_map, se_byL, se_len, se_ch, List.length_map] : ((LV.sl 0 (0 + (s23.1 : Int).toNat) ((s23.2.map iC).length - (s23.1 : Int).toNat)) : LV) = (LV.sl 0 (0 + (s23.1 : Int).toNat) (((s23.1, 1, s23.2).2.2.map iC).length - (s23.1 : Int).toNat))), (by simp only [se_map, se_byL, se_len, se_ch, List.length_map] : ((I 1) : LV) = (I (s23.1, 1, s23.2).2.1)), trivial⟩ ⟨⟨(congrArg (fun q => some (Blk.row 3 1 q)) (by simp only [se_map, se_byL, se_len, se_ch, List.length_map] : ((s23.2.map iC) : List (List LV)) = ((s23.1, 1, s23.2).2.2.map iC))), rfl, NLss_bel (NLss_map' _)⟩, trivial⟩ (by repeat' first | exact True.intro | exact rfl | exact NLs_bels (by assumption) | refine ⟨?_, ?_⟩) rfl ?_
        refine LoopW.forF (fun s24 => [(0, (LV.sl 0 0 (s24.2.2.map iC).length)), (3, (I s24.1)), (4, (LV.sl 0 (0 + (s23.1 : Int).toNat) ((s24.2.2.map iC).length - (s23.1 : Int).toNat))), (5, (I s24.2.1))]) (fun s24 => ⟨1, [(0, (.row 3 1 (s24.2.2.map iC)))]⟩) hO24 (fun s24 o24 b24 K24 hret24 hbrk24 => ?_)
        unfold slices_Compact_int_b24 at b24
        refine LoopW.round TT_ok [0, 2, 3, 4, 5, 8, 13, 25, 32, 44] ?_
        conv => whnf
        repeat' first | with_reducible rfl | with_reducible exact True.intro | with_reducible assumption | refine parkI ?_ | (refine W.drawn TT_ok hmix1 rfl ?_; conv => whnf) | exact (congrArg Bool.not h) | exact fun _ => True.intro | exact (rfl : (_ : Nat) = _) | exact (rfl : (_ : LV) = _) | exact NLss_map' _ | refine NLss_app ?_ ?_ | refine NLss_set ?_ ?_ | (refine And.intro ?_ ?_ <;> conv => whnf) | (intro h; (conv => whnf) <;> first | with_reducible rfl | assumption | exact h | exact (congrArg Bool.not h) | (refine ⟨h, True.intro⟩) | (refine ⟨congrArg Bool.not h, True.intro⟩) | (refine ⟨by assumption, True.intro⟩)) | (intro h; exact (Bool.false_ne_true (h.symm.trans (by assumption))).elim) | (intros; simp_all; done) | (refine gand ?_ h; assumption) | (simp only [se_map, se_byL]; exact rfl) | (simp only [se_map, se_byL, se_len, se_ch, List.length_map]; done) | fail
        refine parkE (fun hc => ?_) (fun hc => ?_)
        · replace b24 := condT (by first | exact hc | simpa only [se_len, se_ch, List.length_map] using hc) b24
          conv => whnf
          replace b24 := grdS b24
          obtain ⟨g61, b24⟩ := b24
          replace g61 : (0 : Int) ≤ s24.2.1 ∧ s24.2.1 < ((((s24.2.2.map iC).length - (s23.1 : Int).toNat) : Nat) : Int) := by simpa only [se_len, se_ch, List.length_map] using g61
          replace b24 := bindS b24
          obtain ⟨v62, hv62, b24⟩ := b24
          have i63 : nth (s24.2.2.map iC) ((0 + (s23.1 : Int).toNat) + ((s24.2.1 : Int).toNat)) = some [(I v62)] := by simpa only [se_map, se_len, se_ch, List.length_map, nth_eq, Nat.zero_add, List.getElem?_map] using gixNF (f := iC) hv62
          replace b24 := grdS b24
          obtain ⟨g64, b24⟩ := b24
          replace g64 : (0 : Int) ≤ (IntKind.i64.wrap (s24.2.1 - 1)) ∧ (IntKind.i64.wrap (s24.2.1 - 1)) < ((((s24.2.2.map iC).length - (s23.1 : Int).toNat) : Nat) : Int) := by simpa only [se_len, se_ch, List.length_map] using g64
          replace b24 := bindS b24
          obtain ⟨v65, hv65, b24⟩ := b24
          have i66 : nth (s24.2.2.map iC) ((0 + (s23.1 : Int).toNat) + (((IntKind.i64.wrap (s24.2.1 - 1)) : Int).toNat)) = some [(I v65)] := by simpa only [se_map, se_len, se_ch, List.length_map, nth_eq, Nat.zero_add, List.getElem?_map] using gixNF (f := iC) hv65
          repeat' first | with_reducible rfl | with_reducible exact True.intro | with_reducible assumption | refine parkI ?_ | exact g61 | exact g64 | (rw [i63]; conv => whnf) | (rw [i66]; conv => whnf) | (refine W.drawn TT_ok hmix1 rfl ?_; conv => whnf) | exact (congrArg Bool.not h) | exact fun _ => True.intro | exact (rfl : (_ : Nat) = _) | exact (rfl : (_ : LV) = _) | exact NLss_map' _ | refine NLss_app ?_ ?_ | refine NLss_set ?_ ?_ | (refine And.intro ?_ ?_ <;> conv => whnf) | (intro h; (conv => whnf) <;> first | with_reducible rfl | assumption | exact h | exact (congrArg Bool.not h) | (refine ⟨h, True.intro⟩) | (refine ⟨congrArg Bool.not h, True.intro⟩) | (refine ⟨by assumption, True.intro⟩)) | (intro h; exact (Bool.false_ne_true (h.symm.trans (by assumption))).elim) | (intros; simp_all; done) | (refine gand ?_ h; assumption) | (simp only [se_map, se_byL]; exact rfl) | (simp only [se_map, se_byL, se_len, se_ch, List.length_map]; done) | fail
          refine parkE (fun hc => ?_) (fun hc => ?_)
          · replace b24 := condT hc b24
            conv => whnf
            replace b24 := grdS b24
            obtain ⟨g67, b24⟩ := b24
            replace g67 : (0 : Int) ≤ s24.2.1 ∧ s24.2.1 < ((((s24.2.2.map iC).length - (s23.1 : Int).toNat) : Nat) : Int) := by simpa only [se_len, se_ch, List.length_map] using g67
            replace b24 := grdS b24
            obtain ⟨g68, b24⟩ := b24
            replace g68 : (0 : Int) ≤ s24.1 ∧ s24.1 < (((s24.2.2.map iC).length : Nat) : Int) := by simpa only [se_len, se_ch, List.length_map] using g68
            replace b24 := bindS b24
            obtain ⟨v69, hv69, b24⟩ := b24
            have i70 : nth (s24.2.2.map iC) (0 + ((s24.1 : Int).toNat)) = some [(I v69)] := by simpa only [se_map, se_len, se_ch, List.length_map, nth_eq, Nat.zero_add, List.getElem?_map] using gixNF (f := iC) hv69
            repeat' first | with_reducible rfl | with_reducible exact True.intro | with_reducible assumption | refine parkI ?_ | exact g67 | exact g68 | (rw [i63]; conv => whnf) | (rw [i70]; conv => whnf) | (refine W.drawn TT_ok hmix1 rfl ?_; conv => whnf) | exact (congrArg Bool.not h) | exact fun _ => True.intro | exact (rfl : (_ : Nat) = _) | exact (rfl : (_ : LV) = _) | exact NLss_map' _ | refine NLss_app ?_ ?_ | refine NLss_set ?_ ?_ | (refine And.intro ?_ ?_ <;> conv => whnf) | (intro h; (conv => whnf) <;> first | with_reducible rfl | assumption | exact h | exact (congrArg Bool.not h) | (refine ⟨h, True.intro⟩) | (refine ⟨congrArg Bool.not h, True.intro⟩) | (refine ⟨by assumption, True.intro⟩)) | (intro h; exact (Bool.false_ne_true (h.symm.trans (by assumption))).elim) | (intros; simp_all; done) | (refine gand ?_ h; assumption) | (simp only [se_map, se_byL]; exact rfl) | (simp only [se_map, se_byL, se_len, se_ch, List.length_map]; done) | fail
            have e := Option.some.inj b24
            refine LoopW.norm [(0, (LV.sl 0 0 (((IntKind.i64.wrap (s24.1 + 1)), (IntKind.i64.wrap (s24.2.1 + 1)), (s24.2.2.set (s24.1 : Int).toNat v62)).2.2.map iC).length)), (3, (I ((IntKind.i64.wrap (s24.1 + 1)), (IntKind.i64.wrap (s24.2.1 + 1)), (s24.2.2.set (s24.1 : Int).toNat v62)).1)), (4, (LV.sl 0 (0 + (s23.1 : Int).toNat) ((((IntKind.i64.wrap (s24.1 + 1)), (IntKind.i64.wrap (s24.2.1 + 1)), (s24.2.2.set (s24.1 : Int).toNat v62)).2.2.map iC).length - (s23.1 : Int).toNat))), (5, (I ((IntKind.i64.wrap (s24.1 + 1)), (IntKind.i64.wrap (s24.2.1 + 1)), (s24.2.2.set (s24.1 : Int).toNat v62)).2.1))] 1 [(0, (.row 3 1 (((IntKind.i64.wrap (s24.1 + 1)), (IntKind.i64.wrap (s24.2.1 + 1)), (s24.2.2.set (s24.1 : Int).toNat v62)).2.2.map iC)))] ⟨(by exact congrArg (LV.sl 0 0) (by first | (simp only [se_map, se_byL, se_len, se_ch, List.length_map]; done) | ((try simp only [se_map, se_byL, se_len, se_ch, List.length_map]); (try simp only [se_len, se_ch, List.length_map] at *); omega) : (s24.2.2.map iC).length = (((IntKind.i64.wrap (s24.1 + 1)), (IntKind.i64.wrap (s24.2.1 + 1)), (s24.2.2.set (s24.1 : Int).toNat v62)).2.2.map iC).length)), (by simp only [se_map, se_byL, se_len, se_ch, List.length_map] : ((I (IntKind.i64.wrap (s24.1 + 1))) : LV) = (I ((IntKind.i64.wrap (s24.1 + 1)), (IntKind.i64.wrap (s24.2.1 + 1)), (s24.2.2.set (s24.1 : Int).toNat v62)).1)), (by simp only [se_map, se_byL, se_len, se_ch, List.length_map] : ((LV.sl 0 (0 + (s23.1 : Int).toNat) ((s24.2.2.map iC).length - (s23.1 : Int).toNat)) : LV) = (LV.sl 0 (0 + (s23.1 : Int).toNat) ((((IntKind.i64.wrap (s24.1 + 1)), (IntKind.i64.wrap (s24.2.1 + 1)), (s24.2.2.set (s24.1 : Int).toNat v62)).2.2.map iC).length - (s23.1 : Int).toNat))), (by simp only [se_map, se_byL, se_len, se_ch, List.length_map] : ((I (IntKind.i64.wrap (s24.2.1 + 1))) : LV) = (I ((IntKind.i64.wrap (s24.1 + 1)), (IntKind.i64.wrap (s24.2.1 + 1)), (s24.2.2.set (s24.1 : Int).toNat v62)).2.1)), trivial⟩ ⟨⟨(congrArg (fun q => some (Blk.row 3 1 q)) (by simp only [se_map, se_byL, se_len, se_ch, List.length_map] : ((setN (s24.2.2.map iC) (0 + ((s24.1 : Int).toNat)) [(I v62)]) : List (List LV)) = (((IntKind.i64.wrap (s24.1 + 1)), (IntKind.i64.wrap (s24.2.1 + 1)), (s24.2.2.set (s24.1 : Int).toNat v62)).2.2.map iC))), rfl, NLss_bel (NLss_map' _)⟩, trivial⟩ (by repeat' first | exact True.intro | exact rfl | exact NLs_bels (by assumption) | refine ⟨?_, ?_⟩) rfl (K24 _ e.symm)
          · replace b24 := condF hc b24
            conv => whnf
            repeat' first | with_reducible rfl | with_reducible exact True.intro | with_reducible assumption | refine parkI ?_ | (refine W.drawn TT_ok hmix1 rfl ?_; conv => whnf) | exact (congrArg Bool.not h) | exact fun _ => True.intro | exact (rfl : (_ : Nat) = _) | exact (rfl : (_ : LV) = _) | exact NLss_map' _ | refine NLss_app ?_ ?_ | refine NLss_set ?_ ?_ | (refine And.intro ?_ ?_ <;> conv => whnf) | (intro h; (conv => whnf) <;> first | with_reducible rfl | assumption | exact h | exact (congrArg Bool.not h) | (refine ⟨h, True.intro⟩) | (refine ⟨congrArg Bool.not h, True.intro⟩) | (refine ⟨by assumption, True.intro⟩)) | (intro h; exact (Bool.false_ne_true (h.symm.trans (by assumption))).elim) | (intros; simp_all; done) | (refine gand ?_ h; assumption) | (simp only [se_map, se_byL]; exact rfl) | (simp only [se_map, se_byL, se_len, se_ch, List.length_map]; done) | fail
            have e := Option.some.inj b24
            refine LoopW.norm [(0, (LV.sl 0 0 ((s24.1, (IntKind.i64.wrap (s24.2.1 + 1)), s24.2.2).2.2.map iC).length)), (3, (I (s24.1, (IntKind.i64.wrap (s24.2.1 + 1)), s24.2.2).1)), (4, (LV.sl 0 (0 + (s23.1 : Int).toNat) (((s24.1, (IntKind.i64.wrap (s24.2.1 + 1)), s24.2.2).2.2.map iC).length - (s23.1 : Int).toNat))), (5, (I (s24.1, (IntKind.i64.wrap (s24.2.1 + 1)), s24.2.2).2.1))] 1 [(0, (.row 3 1 ((s24.1, (IntKind.i64.wrap (s24.2.1 + 1)), s24.2.2).2.2.map iC)))] ⟨(by exact congrArg (LV.sl 0 0) (by first | (simp only [se_map, se_byL, se_len, se_ch, List.length_map]; done) | ((try simp only [se_map, se_byL, se_len, se_ch, List.length_map]); (try simp only [se_len, se_ch, List.length_map] at *); omega) : (s24.2.2.map iC).length = ((s24.1, (IntKind.i64.wrap (s24.2.1 + 1)), s24.2.2).2.2.map iC).length)), (by simp only [se_map, se_byL, se_len, se_ch, List.length_map] : ((I s24.1) : LV) = (I (s24.1, (IntKind.i64.wrap (s24.2.1 + 1)), s24.2.2).1)), (by simp only [se_map, se_byL, se_len, se_ch, List.length_map] : ((LV.sl 0 (0 + (s23.1 : Int).toNat) ((s24.2.2.map iC).length - (s23.1 : Int).toNat)) : LV) = (LV.sl 0 (0 + (s23.1 : Int).toNat) (((s24.1, (IntKind.i64.wrap (s24.2.1 + 1)), s24.2.2).2.2.map iC).length - (s23.1 : Int).toNat))), (by simp only [se_map, se_byL, se_len, se_ch, List.length_map] : ((I (IntKind.i64.wrap (s24.2.1 + 1))) : LV) = (I (s24.1, (IntKind.i64.wrap (s24.2.1 + 1)), s24.2.2).2.1)), trivial⟩ ⟨⟨(congrArg (fun q => some (Blk.row 3 1 q)) (by simp only [se_map, se_byL, se_len, se_ch, List.length_map] : ((s24.2.2.map iC) : List (List LV)) = ((s24.1, (IntKind.i64.wrap (s24.2.1 + 1)), s24.2.2).2.2.map iC))), rfl, NLss_bel (NLss_map' _)⟩, trivial⟩ (by repeat' first | exact True.intro | exact rfl | exact NLs_bels (by assumption) | refine ⟨?_, ?_⟩) rfl (K24 _ e.symm)
        · replace b24 := condF (by first | exact hc | simpa only [se_len, se_ch, List.length_map] using hc) b24
          conv => whnf
          have e := Option.some.inj b24
          replace e := hbrk24 _ e.symm
          rw [e] at r24
          dsimp only [aftM] at r24
          replace r24 := grdS r24
          obtain ⟨g71, r24⟩ := r24
          replace g71 : (0 : Int) ≤ s24.1 ∧ s24.1 < (((s24.2.2.map iC).length : Nat) : Int) := by simpa only [se_len, se_ch, List.length_map] using g71
          have l72 : (0 + (s24.1 : Int).toNat) + ((s24.2.2.map iC).length - (s24.1 : Int).toNat) = (s24.2.2.map iC).length := by (try simp only [se_len, se_ch, List.length_map]); (try simp only [se_len, se_ch, List.length_map] at *); omega
          replace r24 := grdS r24
          obtain ⟨g73, r24⟩ := r24
          replace g73 : (0 : Int) ≤ s24.1 ∧ s24.1 ≤ (((s24.2.2.map iC).length : Nat) : Int) := by simpa only [se_len, se_ch, List.length_map] using g73
          have e := Option.some.inj r24
          replace e := hret23 _ e.symm
          rw [e] at r23
          replace e := Option.some.inj r23
          subst e
          repeat' first | with_reducible rfl | with_reducible exact True.intro | with_reducible assumption | exact ⟨[(0, (.row 3 1 ((s24.2.2.take (s24.1 : Int).toNat).map iC)))], ⟨⟨(congrArg (fun q => some (Blk.row 3 1 q)) (by first | (simp only [se_map, se_byL, se_len, se_ch, List.length_map]; done) | (simp only [se_map, se_byL, se_len, se_ch, List.length_map, Nat.zero_add]; done) : (((s24.2.2.map iC).take (0 + (s24.1 : Int).toNat)) : List (List LV)) = ((s24.2.2.take (s24.1 : Int).toNat).map iC))), rfl, NLss_bel (NLss_map' _)⟩, trivial⟩, (by repeat' first | exact True.intro | exact rfl | exact NLs_bels (by assumption) | refine ⟨?_, ?_⟩), (congrArg (LV.sl 0 0) (by (try simp only [se_map, se_byL, se_len, se_ch, List.length_map]); first | done | rfl | omega | (simp only [se_len, se_ch, List.length_map] at *; omega) : (s24.1 : Int).toNat = ((s24.2.2.take (s24.1 : Int).toNat).map iC).length)), rfl⟩ | exact g71 | exact g73 | exact l72 | (refine W.drawn TT_ok hmix1 rfl ?_; conv => whnf) | exact (congrArg Bool.not h) | exact fun _ => True.intro | exact (rfl : (_ : Nat) = _) | exact (rfl : (_ : LV) = _) | exact NLss_map' _ | refine NLss_app ?_ ?_ | refine NLss_set ?_ ?_ | (refine And.intro ?_ ?_ <;> conv => whnf) | (intro h; (conv => whnf) <;> first | with_reducible rfl | assumption | exact h | exact (congrArg Bool.not h) | (refine ⟨h, True.intro⟩) | (refine ⟨congrArg Bool.not h, True.intro⟩) | (refine ⟨by assumption, True.intro⟩)) | (intro h; exact (Bool.false_ne_true (h.symm.trans (by assumption))).elim) | (intros; simp_all; done) | (refine gand ?_ h; assumption) | (simp only [se_map, se_byL]; exact rfl) | (simp only [se_map, se_byL, se_len, se_ch, List.length_map]; done) | fail
      · replace b23 := condF hc b23
        conv => whnf
        repeat' first | with_reducible rfl | with_reducible exact True.intro | with_reducible assumption | refine parkI ?_ | (refine W.drawn TT_ok hmix1 rfl ?_; conv => whnf) | exact (congrArg Bool.not h) | exact fun _ => True.intro | exact (rfl : (_ : Nat) = _) | exact (rfl : (_ : LV) = _) | exact NLss_map' _ | refine NLss_app ?_ ?_ | refine NLss_set ?_ ?_ | (refine And.intro ?_ ?_ <;> conv => whnf) | (intro h; (conv => whnf) <;> first | with_reducible rfl | assumption | exact h | exact (congrArg Bool.not h) | (refine ⟨h, True.intro⟩) | (refine ⟨congrArg Bool.not h, True.intro⟩) | (refine ⟨by assumption, True.intro⟩)) | (intro h; exact (Bool.false_ne_true (h.symm.trans (by assumption))).elim) | (intros; simp_all; done) | (refine gand ?_ h; assumption) | (simp only [se_map, se_byL]; exact rfl) | (simp only [se_map, se_byL, se_len, se_ch, List.length_map]; done) | fail
        have e := Option.some.inj b23
        refine LoopW.norm [(0, (LV.sl 0 0 (((IntKind.i64.wrap (s23.1 + 1)), s23.2).2.map iC).length)), (3, (I ((IntKind.i64.wrap (s23.1 + 1)), s23.2).1))] 1 [(0, (.row 3 1 (((IntKind.i64.wrap (s23.1 + 1)), s23.2).2.map iC)))] ⟨(by exact congrArg (LV.sl 0 0) (by first | (simp only [se_map, se_byL, se_len, se_ch, List.length_map]; done) | ((try simp only [se_map, se_byL, se_len, se_ch, List.length_map]); (try simp only [se_len, se_ch, List.length_map] at *); omega) : (s23.2.map iC).length = (((IntKind.i64.wrap (s23.1 + 1)), s23.2).2.map iC).length)), (by simp only [se_map, se_byL, se_len, se_ch, List.length_map] : ((I (IntKind.i64.wrap (s23.1 + 1))) : LV) = (I ((IntKind.i64.wrap (s23.1 + 1)), s23.2).1)), trivial⟩ ⟨⟨(congrArg (fun q => some (Blk.row 3 1 q)) (by simp only [se_map, se_byL, se_len, se_ch, List.length_map] : ((s23.2.map iC) : List (List LV)) = (((IntKind.i64.wrap (s23.1 + 1)), s23.2).2.map iC))), rfl, NLss_bel (NLss_map' _)⟩, trivial⟩ (by repeat' first | exact True.intro | exact rfl | exact NLs_bels (by assumption) | refine ⟨?_, ?_⟩) rfl (K23 _ e.symm)
    · replace b23 := condF (by first | exact hc | simpa only [se_len, se_ch, List.length_map] using hc) b23
      conv => whnf
      have e := Option.some.inj b23
      replace e := hbrk23 _ e.symm
      rw [e] at r23
      dsimp only [aftM] at r23
      have e := Option.some.inj r23
      subst e
      repeat' first | with_reducible rfl | with_reducible exact True.intro | with_reducible assumption | exact ⟨[(0, (.row 3 1 (s23.2.map iC)))], ⟨⟨rfl, rfl, NLss_bel (NLss_map' _)⟩, trivial⟩, (by repeat' first | exact True.intro | exact rfl | exact NLs_bels (by assumption) | refine ⟨?_, ?_⟩), rfl, rfl⟩ | (refine W.drawn TT_ok hmix1 rfl ?_; conv => whnf) | exact (congrArg Bool.not h) | exact fun _ => True.intro | exact (rfl : (_ : Nat) = _) | exact (rfl : (_ : LV) = _) | exact NLss_map' _ | refine NLss_app ?_ ?_ | refine NLss_set ?_ ?_ | (refine And.intro ?_ ?_ <;> conv => whnf) | (intro h; (conv => whnf) <;> first | with_reducible rfl | assumption | exact h | exact (congrArg Bool.not h) | (refine ⟨h, True.intro⟩) | (refine ⟨congrArg Bool.not h, True.intro⟩) | (refine ⟨by assumption, True.intro⟩)) | (intro h; exact (Bool.false_ne_true (h.symm.trans (by assumption))).elim) | (intros; simp_all; done) | (refine gand ?_ h; assumption) | (simp only [se_map, se_byL]; exact rfl) | (simp only [se_map, se_byL, se_len, se_ch, List.length_map]; done) | fail

def flood_neighbours_1_b22 (a0 : Int) (k22 : Nat) (x22 : (List Int)) (s22 : (List Int)) : Option (Step (List Int) (List Int)) :=
  (slices_Contains_int x22 a0).bind fun y48 =>
  (bif y48 then
    grd (fits ((s22 ++ x22) : List Int).length 8) <|
    some (.nxt (s22 ++ x22))
  else
    some (.nxt s22))

def flood_neighbours_1 (a0 : Int) (q1 : (List (List Int))) : Option (List Int) :=
  aft (rangeL (flood_neighbours_1_b22 a0) q1 ([] : (List Int))) fun s22 =>
  (slices_Sort_int s22).bind fun y51 =>
  (slices_Compact_int y51).bind fun y54 =>
  some y54

theorem cf_flood_neighbours_1 (a0 : Int) (q1 : (List (List Int))) (r : (List Int)) (h : flood_neighbours_1 a0 q1 = some r) : CallF Try.prog 281 [(I a0), (LV.rptr [(LV.ro 1 (q1.map (roC 1 iC)))])] 3 1 (r.map iC) := by
  unfold flood_neighbours_1 at h
  refine CallF.of (NLss_map' _) (CallW.intro TT_ok Try.func281 rfl rfl [0, 1, 3, 4, 6, 7, 8, 9, 10, 15, 1000267, 1000282, 2000267, 2000282] rfl ?_)
  conv => whnf
  repeat' first | with_reducible rfl | with_reducible exact True.intro | with_reducible assumption | refine parkI ?_ | (refine And.intro ?_ ?_ <;> conv => whnf) | fail
  replace h := aftS h
  obtain ⟨O22, hO22, r22⟩ := h
  refine LoopW.virt 4 3 1 rfl ?_
  refine LoopW.norm [(0, (I a0)), (4, (LV.sl 0 0 (([] : (List Int)).map iC).length)), (7, (LV.ro 1 (q1.map (roC 1 iC)))), (8, (I (((q1.map (roC 1 iC)).length : Nat) : Int))), (9, (I ((0 : Nat) : Int)))] 1 [(0, (.row 3 1 (([] : (List Int)).map iC)))] ⟨rfl, (by exact congrArg (LV.sl 0 0) (by first | (simp only [se_map, se_byL, se_len, se_ch, List.length_map]; done) | ((try simp only [se_map, se_byL, se_len, se_ch, List.length_map]); (try simp only [se_len, se_ch, List.length_map] at *); omega) : 0 = (([] : (List Int)).map iC).length)), rfl, rfl, rfl, trivial⟩ ⟨⟨(congrArg (fun q => some (Blk.row 3 1 q)) (by simp only [se_map, se_byL, se_len, se_ch, List.length_map] : ([] : List (List LV)) = (([] : (List Int)).map iC))), rfl, NLss_bel (NLss_map' _)⟩, trivial⟩ (by repeat' first | exact True.intro | exact rfl | exact NLs_bels (by assumption) | refine ⟨?_, ?_⟩) rfl ?_
  refine LoopW.forR (fun k22 s22 => [(0, (I a0)), (4, (LV.sl 0 0 (s22.map iC).length)), (7, (LV.ro 1 (q1.map (roC 1 iC)))), (8, (I (((q1.map (roC 1 iC)).length : Nat) : Int))), (9, (I ((k22 : Nat) : Int)))]) (fun s22 => ⟨1, [(0, (.row 3 1 (s22.map iC)))]⟩) hO22 (fun hl22 s22 hs22 => ?_) (fun hl22 k22 x22 s22 o22 hk22 hx22 b22 K22 hret22 hbrk22 => ?_)
  · rw [hs22] at r22
    dsimp only [aftM] at r22
    have hd : decide (((q1.length : Nat) : Int) < (((q1.map (roC 1 iC)).length : Nat) : Int)) = false := by rw [decide_eq_false_iff_not]; (try simp only [se_len, se_ch, List.length_map]); omega
    refine LoopW.round TT_ok [0, 1, 3, 4, 6, 7, 8, 9, 10, 15, 1000267, 1000282, 2000267, 2000282] ?_
    conv => whnf
    repeat' first | with_reducible rfl | with_reducible exact True.intro | with_reducible assumption | refine parkI ?_ | (refine And.intro ?_ ?_ <;> conv => whnf) | fail
    refine parkE (fun hc => ?_) (fun hc => ?_)
    · exact (Bool.false_ne_true (hd.symm.trans hc)).elim
    · clear hd
      conv => whnf
      replace r22 := bindS r22
      obtain ⟨y51, hy51, r22⟩ := r22
      have c52 := w_slices_Sort_int s22 _ hy51
      have l53 := slices_Sort_int_len hy51
      replace r22 := bindS r22
      obtain ⟨y54, hy54, r22⟩ := r22
      have c55 := w_slices_Compact_int y51 _ hy54
      have l56 : (y51.map iC).length = (s22.map iC).length := by (try simp only [se_map, se_byL, se_len, se_ch, List.length_map]); first | done | omega | (simp only [se_len, se_ch, List.length_map] at *; omega)
      rw [l56] at c55
      have e := Option.some.inj r22
      subst e
      repeat' first | with_reducible rfl | with_reducible exact True.intro | with_reducible assumption | (refine CallW.frame (nx2 := 1) (l2 := [(0, (.row 3 1 (y51.map iC)))]) [(0, 0)] [(0, 0)] c52 rfl rfl ⟨⟨rfl, rfl, .inl ⟨rfl, (by repeat' first | exact NLss_map' _ | refine NLss_app ?_ ?_ | refine NLss_set ?_ ?_ | exact True.intro | refine ⟨?_, ?_⟩)⟩⟩, rfl, rfl, trivial⟩ rfl rfl ⟨⟨rfl, rfl, .inl ⟨rfl, (by repeat' first | exact NLss_map' _ | refine NLss_app ?_ ?_ | refine NLss_set ?_ ?_ | exact True.intro | refine ⟨?_, ?_⟩)⟩⟩, rfl, rfl, trivial⟩ ?_; conv => whnf) | (refine CallW.frame (nx2 := 1) (l2 := [(0, (.row 3 1 (y54.map iC)))]) [(0, 0)] [(0, 0)] c55 rfl rfl ⟨⟨rfl, rfl, .inl ⟨rfl, (by repeat' first | exact NLss_map' _ | refine NLss_app ?_ ?_ | refine NLss_set ?_ ?_ | exact True.intro | refine ⟨?_, ?_⟩)⟩⟩, rfl, rfl, trivial⟩ rfl rfl ⟨⟨rfl, rfl, .inl ⟨rfl, (by repeat' first | exact NLss_map' _ | refine NLss_app ?_ ?_ | refine NLss_set ?_ ?_ | exact True.intro | refine ⟨?_, ?_⟩)⟩⟩, rfl, rfl, trivial⟩ ?_; conv => whnf) | exact Or.inr ⟨_, rfl, congrArg (fun q => some (Blk.row 3 1 q)) rfl⟩ | exact (congrArg Bool.not h) | exact fun _ => True.intro | exact (rfl : (_ : Nat) = _) | exact (rfl : (_ : LV) = _) | exact NLss_map' _ | refine NLss_app ?_ ?_ | refine NLss_set ?_ ?_ | (refine And.intro ?_ ?_ <;> conv => whnf) | (intro h; (conv => whnf) <;> first | with_reducible rfl | assumption | exact h | exact (congrArg Bool.not h) | (refine ⟨h, True.intro⟩) | (refine ⟨congrArg Bool.not h, True.intro⟩) | (refine ⟨by assumption, True.intro⟩)) | (intro h; exact (Bool.false_ne_true (h.symm.trans (by assumption))).elim) | (intros; simp_all; done) | (refine gand ?_ h; assumption) | (simp only [se_map, se_byL]; exact rfl) | (simp only [se_map, se_byL, se_len, se_ch, List.length_map]; done) | fail
  · unfold flood_neighbours_1_b22 at b22
    have hd : decide (((k22 : Nat) : Int) < (((q1.map (roC 1 iC)).length : Nat) : Int)) = true := by rw [decide_eq_true_eq]; (try simp only [se_len, se_ch, List.length_map] at hk22); (try simp only [se_len, se_ch, List.length_map]); omega
    refine LoopW.round TT_ok [0, 1, 3, 4, 6, 7, 8, 9, 10, 15, 1000267, 1000282, 2000267, 2000282] ?_
    conv => whnf
    repeat' first | with_reducible rfl | with_reducible exact True.intro | with_reducible assumption | refine parkI ?_ | (refine And.intro ?_ ?_ <;> conv => whnf) | fail
    refine parkE (fun hc => ?_) (fun hc => ?_)
    · clear hd
      conv => whnf
      replace b22 := bindS b22
      obtain ⟨y48, hy48, b22⟩ := b22
      have c49 := c_slices_Contains_int x22 a0 _ hy48
      repeat' first | with_reducible rfl | with_reducible exact True.intro | with_reducible assumption | refine parkI ?_ | (refine ⟨_, (kixF (f := (roC 1 iC)) hx22), ?_⟩; conv => whnf) | (refine CallP.use c49 ?_; conv => whnf) | (refine And.intro ?_ ?_ <;> conv => whnf) | fail
      refine parkE (fun hc => ?_) (fun hc => ?_)
      · replace b22 := condT hc b22
        conv => whnf
        replace b22 := grdS b22
        obtain ⟨g50, b22⟩ := b22
        replace g50 : fits (((s22.map iC) ++ (x22.map iC))).length 8 := by simpa only [se_len, se_ch, List.length_map] using g50
        repeat' first | with_reducible rfl | with_reducible exact True.intro | with_reducible assumption | refine parkI ?_ | exact g50 | exact (rfl : (_ : Nat) = _) | exact NLss_map' _ | refine NLss_app ?_ ?_ | refine NLss_set ?_ ?_ | (refine And.intro ?_ ?_ <;> conv => whnf) | (simp only [se_map, se_byL]; exact rfl) | (simp only [se_map, se_byL, se_len, se_ch, List.length_map]; done) | fail
        have e := Option.some.inj b22
        refine LoopW.ren [(1, 0)] [(0, (I a0)), (4, (LV.sl 0 0 ((s22 ++ x22).map iC).length)), (7, (LV.ro 1 (q1.map (roC 1 iC)))), (8, (I (((q1.map (roC 1 iC)).length : Nat) : Int))), (9, (I ((k22 + 1 : Nat) : Int)))] 1 [(0, (.row 3 1 ((s22 ++ x22).map iC)))] rfl ⟨rfl, (by exact congrArg (LV.sl 0 0) (by first | (simp only [se_map, se_byL, se_len, se_ch, List.length_map]; done) | ((try simp only [se_map, se_byL, se_len, se_ch, List.length_map]); (try simp only [se_len, se_ch, List.length_map] at *); omega) : (((s22.map iC) ++ (x22.map iC))).length = ((s22 ++ x22).map iC).length)), rfl, rfl, (congrArg (LV.int .i64) (w64_nat _ (by omega))), trivial⟩ ⟨⟨rfl, rfl, .inl ⟨(by simp only [se_map, se_byL, se_len, se_ch, List.length_map] : (((s22.map iC) ++ (x22.map iC)) : List (List LV)) = ((s22 ++ x22).map iC)), (by repeat' first | exact NLss_map' _ | refine NLss_app ?_ ?_ | refine NLss_set ?_ ?_ | exact True.intro | refine ⟨?_, ?_⟩)⟩⟩, rfl, rfl, trivial⟩ rfl (K22 _ e.symm)
      · replace b22 := condF hc b22
        conv => whnf
        repeat' first | with_reducible rfl | with_reducible exact True.intro | with_reducible assumption | refine parkI ?_ | (refine And.intro ?_ ?_ <;> conv => whnf) | fail
        have e := Option.some.inj b22
        refine LoopW.norm [(0, (I a0)), (4, (LV.sl 0 0 (s22.map iC).length)), (7, (LV.ro 1 (q1.map (roC 1 iC)))), (8, (I (((q1.map (roC 1 iC)).length : Nat) : Int))), (9, (I ((k22 + 1 : Nat) : Int)))] 1 [(0, (.row 3 1 (s22.map iC)))] ⟨rfl, rfl, rfl, rfl, (congrArg (LV.int .i64) (w64_nat _ (by omega))), trivial⟩ ⟨⟨rfl, rfl, NLss_bel (NLss_map' _)⟩, trivial⟩ (by repeat' first | exact True.intro | exact rfl | exact NLs_bels (by assumption) | refine ⟨?_, ?_⟩) rfl (K22 _ e.symm)
    · exact (Bool.false_ne_true (hc.symm.trans hd)).elim

theorem c_flood_neighbours_1 (a0 : Int) (q1 : (List (List Int))) (r : (List Int)) (h : flood_neighbours_1 a0 q1 = some r) : CallP Try.prog 281 [(I a0), (LV.rptr [(LV.ro 1 (q1.map (roC 1 iC)))])] (LV.ro 1 (r.map iC)) := by
  exact CallF.toP (cf_flood_neighbours_1 a0 q1 r h) (by repeat' first | exact True.intro | assumption | refine ⟨?_, ?_⟩) (NLss_map' _)

def flood_steps_b19 (s18 : ((List Int) × Int × (List Int))) (y31 : (List Int)) (k19 : Nat) (s19 : ((List Int) × (List Int))) : Option (Step (Step (List Int) ((List Int) × Int × (List Int))) ((List Int) × (List Int))) :=
  grd ((0 : Int) ≤ ((k19 : Nat) : Int) ∧ ((k19 : Nat) : Int) < ((y31.length : Nat) : Int)) <|
  (gixN y31 (((k19 : Nat) : Int) : Int).toNat).bind fun v34 =>
  grd ((0 : Int) ≤ v34 ∧ v34 < ((s19.2.length : Nat) : Int)) <|
  (gixN s19.2 (v34 : Int).toNat).bind fun v37 =>
  (bif (decide (v37 < 0)) then
    grd ((0 : Int) ≤ s18.2.1 ∧ s18.2.1 < ((s19.1.length : Nat) : Int)) <|
    (gixN s19.1 (s18.2.1 : Int).toNat).bind fun v40 =>
    grd ((0 : Int) ≤ v40 ∧ v40 < ((s19.2.length : Nat) : Int)) <|
    (gixN s19.2 (v40 : Int).toNat).bind fun v43 =>
    grd ((0 : Int) ≤ v34 ∧ v34 < ((s19.2.length : Nat) : Int)) <|
    grd (fits ((s19.1 ++ ([v34] : (List Int))) : List Int).length 8) <|
    some (.nxt ((s19.1 ++ ([v34] : (List Int))), (s19.2.set (v34 : Int).toNat (IntKind.i64.wrap (v43 + 1)))))
  else
    some (.nxt (s19.1, s19.2)))

def flood_steps_b18 (y26 : (List (List Int))) (s18 : ((List Int) × Int × (List Int))) : Option (Step (List Int) ((List Int) × Int × (List Int))) :=
  (bif (decide (s18.2.1 < ((s18.1.length : Nat) : Int))) then
    grd ((0 : Int) ≤ s18.2.1 ∧ s18.2.1 < ((s18.1.length : Nat) : Int)) <|
    (gixN s18.1 (s18.2.1 : Int).toNat).bind fun v29 =>
    (flood_neighbours_1 v29 y26).bind fun y31 =>
    aft (rangeN (flood_steps_b19 s18 y31) ((y31.length : Nat) : Int) (s18.1, s18.2.2)) fun s19 =>
    some (.nxt (s19.1, (IntKind.i64.wrap (s18.2.1 + 1)), s19.2))
  else
    some (.brk (s18.1, s18.2.1, s18.2.2)))

def flood_steps (a0 : LanT) (a1 : (List (List Bool))) (a2 : Int) : Option (List Int) :=
  (slices_Repeat_int ([(-1)] : (List Int)) a0.Segs).bind fun y21 =>
  grd ((0 : Int) ≤ a2 ∧ a2 < ((y21.length : Nat) : Int)) <|
  (gixN y21 (a2 : Int).toNat).bind fun v24 =>
  (flood_neighbours a0 a1).bind fun y26 =>
  aft (loopF 1000000 (flood_steps_b18 y26) (([a2] : (List Int)), 0, (y21.set (a2 : Int).toNat 0))) fun s18 =>
  some s18.2.2

theorem cf_flood_steps (a0 : LanT) (a1 : (List (List Bool))) (a2 : Int) (r : (List Int)) (h : flood_steps a0 a1 a2 = some r) : CallF Try.prog 208 [(LV.agg [(I a0.Segs), (LV.ro 2 (a0.Plans.map PlanT.cells)), (LV.ro 2 (a0.Hosts.map HostT.cells))]), (LV.ro 1 (a1.map (roC 1 bC))), (I a2)] 3 1 (r.map iC) := by
  unfold flood_steps at h
  refine CallF.of (NLss_map' _) (CallW.intro TT_ok Try.func208 rfl rfl [0, 1, 2, 3, 6, 7, 8, 9, 10, 12, 28, 36, 37, 38, 39, 46] rfl ?_)
  conv => whnf
  replace h := bindS h
  obtain ⟨y21, hy21, h⟩ := h
  have c22 : CallF Try.prog 280 [(LV.ro 1 [[(I (-1))]]), (I a0.Segs)] 3 1 (y21.map iC) := by first | exact cf_slices_Repeat_int ([(-1)] : (List Int)) a0.Segs _ hy21 | (simpa only [se_map, se_byL, se_len, se_ch, List.length_map] using cf_slices_Repeat_int ([(-1)] : (List Int)) a0.Segs _ hy21)
  replace h := grdS h
  obtain ⟨g23, h⟩ := h
  replace g23 : (0 : Int) ≤ a2 ∧ a2 < (((y21.map iC).length : Nat) : Int) := by simpa only [se_len, se_ch, List.length_map] using g23
  replace h := bindS h
  obtain ⟨v24, hv24, h⟩ := h
  have i25 : nth (y21.map iC) (0 + ((a2 : Int).toNat)) = some [(I v24)] := by simpa only [se_map, se_len, se_ch, List.length_map, nth_eq, Nat.zero_add, List.getElem?_map] using gixNF (f := iC) hv24
  replace h := bindS h
  obtain ⟨y26, hy26, h⟩ := h
  have c27 := c_flood_neighbours a0 a1 _ hy26
  repeat' first | with_reducible rfl | with_reducible exact True.intro | with_reducible assumption | refine parkI ?_ | exact g23 | (refine CallP.use c27 ?_; conv => whnf) | (refine CallW.done (CallF.at c22 (by repeat' first | exact True.intro | assumption | refine ⟨?_, ?_⟩) (NLss_map' _)) ?_; conv => whnf) | (refine ⟨_, _, CallF.at c22 (by repeat' first | exact True.intro | assumption | refine ⟨?_, ?_⟩) (NLss_map' _), ?_⟩; conv => whnf) | (rw [i25]; conv => whnf) | exact (rfl : (_ : Nat) = _) | exact NLss_map' _ | refine NLss_app ?_ ?_ | refine NLss_set ?_ ?_ | (refine And.intro ?_ ?_ <;> conv => whnf) | (simp only [se_map, se_byL]; exact rfl) | (simp only [se_map, se_byL, se_len, se_ch, List.length_map]; done) | fail
  replace h := aftS h
  obtain ⟨O18, hO18, r18⟩ := h
  refine LoopW.norm [(7, (LV.sl 2 0 ((([a2] : (List Int)), 0, (y21.set (a2 : Int).toNat 0)).2.2.map iC).length)), (8, (LV.func (.func 281) [] [(LV.rptr [(LV.ro 1 (y26.map (roC 1 iC)))])])), (9, (LV.sl 3 0 ((([a2] : (List Int)), 0, (y21.set (a2 : Int).toNat 0)).1.map iC).length)), (10, (I (([a2] : (List Int)), 0, (y21.set (a2 : Int).toNat 0)).2.1))] 4 [(2, (.row 3 1 ((([a2] : (List Int)), 0, (y21.set (a2 : Int).toNat 0)).2.2.map iC))), (3, (.row 3 1 ((([a2] : (List Int)), 0, (y21.set (a2 : Int).toNat 0)).1.map iC)))] ⟨(by exact congrArg (LV.sl 2 0) (by first | (simp only [se_map, se_byL, se_len, se_ch, List.length_map]; done) | ((try simp only [se_map, se_byL, se_len, se_ch, List.length_map]); (try simp only [se_len, se_ch, List.length_map] at *); omega) : (y21.map iC).length = ((([a2] : (List Int)), 0, (y21.set (a2 : Int).toNat 0)).2.2.map iC).length)), rfl, (by exact congrArg (LV.sl 3 0) (by first | (simp only [se_map, se_byL, se_len, se_ch, List.length_map]; done) | ((try simp only [se_map, se_byL, se_len, se_ch, List.length_map]); (try simp only [se_len, se_ch, List.length_map] at *); omega) : 1 = ((([a2] : (List Int)), 0, (y21.set (a2 : Int).toNat 0)).1.map iC).length)), (by simp only [se_map, se_byL, se_len, se_ch, List.length_map] : ((I 0) : LV) = (I (([a2] : (List Int)), 0, (y21.set (a2 : Int).toNat 0)).2.1)), trivial⟩ ⟨⟨(congrArg (fun q => some (Blk.row 3 1 q)) (by simp only [se_map, se_byL, se_len, se_ch, List.length_map] : ((setN (y21.map iC) (0 + ((a2 : Int).toNat)) [(I 0)]) : List (List LV)) = ((([a2] : (List Int)), 0, (y21.set (a2 : Int).toNat 0)).2.2.map iC))), rfl, NLss_bel (NLss_map' _)⟩, ⟨⟨(congrArg (fun q => some (Blk.row 3 1 q)) (by simp only [se_map, se_byL, se_len, se_ch, List.length_map] : ([[(I a2)]] : List (List LV)) = ((([a2] : (List Int)), 0, (y21.set (a2 : Int).toNat 0)).1.map iC))), rfl, NLss_bel (NLss_map' _)⟩, trivial⟩⟩ (by repeat' first | exact True.intro | exact rfl | exact NLs_bels (by assumption) | refine ⟨?_, ?_⟩) rfl ?_
  refine LoopW.forF (fun s18 => [(7, (LV.sl 2 0 (s18.2.2.map iC).length)), (8, (LV.func (.func 281) [] [(LV.rptr [(LV.ro 1 (y26.map (roC 1 iC)))])])), (9, (LV.sl 3 0 (s18.1.map iC).length)), (10, (I s18.2.1))]) (fun s18 => ⟨4, [(2, (.row 3 1 (s18.2.2.map iC))), (3, (.row 3 1 (s18.1.map iC)))]⟩) hO18 (fun s18 o18 b18 K18 hret18 hbrk18 => ?_)
  unfold flood_steps_b18 at b18
  refine LoopW.round TT_ok [0, 1, 2, 3, 6, 7, 8, 9, 10, 12, 28, 36, 37, 38, 39, 46] ?_
  conv => whnf
  repeat' first | with_reducible rfl | with_reducible exact True.intro | with_reducible assumption | refine parkI ?_ | (refine And.intro ?_ ?_ <;> conv => whnf) | fail
  refine parkE (fun hc => ?_) (fun hc => ?_)
  · replace b18 := condT (by first | exact hc | simpa only [se_len, se_ch, List.length_map] using hc) b18
    conv => whnf
    replace b18 := grdS b18
    obtain ⟨g28, b18⟩ := b18
    replace g28 : (0 : Int) ≤ s18.2.1 ∧ s18.2.1 < (((s18.1.map iC).length : Nat) : Int) := by simpa only [se_len, se_ch, List.length_map] using g28
    replace b18 := bindS b18
    obtain ⟨v29, hv29, b18⟩ := b18
    have i30 : nth (s18.1.map iC) (0 + ((s18.2.1 : Int).toNat)) = some [(I v29)] := by simpa only [se_map, se_len, se_ch, List.length_map, nth_eq, Nat.zero_add, List.getElem?_map] using gixNF (f := iC) hv29
    replace b18 := bindS b18
    obtain ⟨y31, hy31, b18⟩ := b18
    have c32 : CallF Try.prog 281 [(I v29), (LV.rptr [(LV.ro 1 (y26.map (roC 1 iC)))])] 3 1 (y31.map iC) := by first | exact cf_flood_neighbours_1 v29 y26 _ hy31 | (simpa only [se_map, se_byL, se_len, se_ch, List.length_map] using cf_flood_neighbours_1 v29 y26 _ hy31)
    repeat' first | with_reducible rfl | with_reducible exact True.intro | with_reducible assumption | refine parkI ?_ | exact g28 | (rw [i30]; conv => whnf) | (refine CallW.done (CallF.at c32 (by repeat' first | exact True.intro | assumption | refine ⟨?_, ?_⟩) (NLss_map' _)) ?_; conv => whnf) | (refine ⟨_, _, CallF.at c32 (by repeat' first | exact True.intro | assumption | refine ⟨?_, ?_⟩) (NLss_map' _), ?_⟩; conv => whnf) | (refine And.intro ?_ ?_ <;> conv => whnf) | fail
    replace b18 := aftS b18
    obtain ⟨O19, hO19, r19⟩ := b18
    refine LoopW.norm [(7, (LV.sl 2 0 ((s18.1, s18.2.2).2.map iC).length)), (8, (LV.func (.func 281) [] [(LV.rptr [(LV.ro 1 (y26.map (roC 1 iC)))])])), (9, (LV.sl 3 0 ((s18.1, s18.2.2).1.map iC).length)), (10, (I s18.2.1)), (36, (LV.sl 4 0 (y31.map iC).length)), (37, (I (((y31.map iC).length : Nat) : Int))), (38, (I ((0 : Nat) : Int)))] 5 [(2, (.row 3 1 ((s18.1, s18.2.2).2.map iC))), (3, (.row 3 1 ((s18.1, s18.2.2).1.map iC))), (4, (.row 3 1 (y31.map iC)))] ⟨(by exact congrArg (LV.sl 2 0) (by first | (simp only [se_map, se_byL, se_len, se_ch, List.length_map]; done) | ((try simp only [se_map, se_byL, se_len, se_ch, List.length_map]); (try simp only [se_len, se_ch, List.length_map] at *); omega) : (s18.2.2.map iC).length = ((s18.1, s18.2.2).2.map iC).length)), rfl, (by exact congrArg (LV.sl 3 0) (by first | (simp only [se_map, se_byL, se_len, se_ch, List.length_map]; done) | ((try simp only [se_map, se_byL, se_len, se_ch, List.length_map]); (try simp only [se_len, se_ch, List.length_map] at *); omega) : (s18.1.map iC).length = ((s18.1, s18.2.2).1.map iC).length)), rfl, rfl, rfl, rfl, trivial⟩ ⟨⟨(congrArg (fun q => some (Blk.row 3 1 q)) (by simp only [se_map, se_byL, se_len, se_ch, List.length_map] : ((s18.2.2.map iC) : List (List LV)) = ((s18.1, s18.2.2).2.map iC))), rfl, NLss_bel (NLss_map' _)⟩, ⟨⟨(congrArg (fun q => some (Blk.row 3 1 q)) (by simp only [se_map, se_byL, se_len, se_ch, List.length_map] : ((s18.1.map iC) : List (List LV)) = ((s18.1, s18.2.2).1.map iC))), rfl, NLss_bel (NLss_map' _)⟩, ⟨⟨rfl, rfl, NLss_bel (NLss_map' _)⟩, trivial⟩⟩⟩ (by repeat' first | exact True.intro | exact rfl | exact NLs_bels (by assumption) | refine ⟨?_, ?_⟩) rfl ?_
    refine LoopW.forN (fun k19 s19 => [(7, (LV.sl 2 0 (s19.2.map iC).length)), (8, (LV.func (.func 281) [] [(LV.rptr [(LV.ro 1 (y26.map (roC 1 iC)))])])), (9, (LV.sl 3 0 (s19.1.map iC).length)), (10, (I s18.2.1)), (36, (LV.sl 4 0 (y31.map iC).length)), (37, (I (((y31.map iC).length : Nat) : Int))), (38, (I ((k19 : Nat) : Int)))]) (fun s19 => ⟨5, [(2, (.row 3 1 (s19.2.map iC))), (3, (.row 3 1 (s19.1.map iC))), (4, (.row 3 1 (y31.map iC)))]⟩) hO19 (fun hl19 s19 hs19 => ?_) (fun hl19 k19 s19 o19 hk19 b19 K19 hret19 hbrk19 => ?_)
    · rw [hs19] at r19
      dsimp only [aftM] at r19
      have hd : decide ((((((y31.length : Nat) : Int)).toNat : Nat) : Int) < (((y31.map iC).length : Nat) : Int)) = false := by rw [decide_eq_false_iff_not]; (try simp only [se_len, se_ch, List.length_map]); omega
      refine LoopW.round TT_ok [0, 1, 2, 3, 6, 7, 8, 9, 10, 12, 28, 36, 37, 38, 39, 46] ?_
      conv => whnf
      repeat' first | with_reducible rfl | with_reducible exact True.intro | with_reducible assumption | refine parkI ?_ | (refine And.intro ?_ ?_ <;> conv => whnf) | fail
      refine parkE (fun hc => ?_) (fun hc => ?_)
      · exact (Bool.false_ne_true (hd.symm.trans hc)).elim
      · clear hd
        conv => whnf
        repeat' first | with_reducible rfl | with_reducible exact True.intro | with_reducible assumption | refine parkI ?_ | (refine And.intro ?_ ?_ <;> conv => whnf) | fail
        have e := Option.some.inj r19
        refine LoopW.norm [(7, (LV.sl 2 0 ((s19.1, (IntKind.i64.wrap (s18.2.1 + 1)), s19.2).2.2.map iC).length)), (8, (LV.func (.func 281) [] [(LV.rptr [(LV.ro 1 (y26.map (roC 1 iC)))])])), (9, (LV.sl 3 0 ((s19.1, (IntKind.i64.wrap (s18.2.1 + 1)), s19.2).1.map iC).length)), (10, (I (s19.1, (IntKind.i64.wrap (s18.2.1 + 1)), s19.2).2.1))] 4 [(2, (.row 3 1 ((s19.1, (IntKind.i64.wrap (s18.2.1 + 1)), s19.2).2.2.map iC))), (3, (.row 3 1 ((s19.1, (IntKind.i64.wrap (s18.2.1 + 1)), s19.2).1.map iC)))] ⟨(by exact congrArg (LV.sl 2 0) (by first | (simp only [se_map, se_byL, se_len, se_ch, List.length_map]; done) | ((try simp only [se_map, se_byL, se_len, se_ch, List.length_map]); (try simp only [se_len, se_ch, List.length_map] at *); omega) : (s19.2.map iC).length = ((s19.1, (IntKind.i64.wrap (s18.2.1 + 1)), s19.2).2.2.map iC).length)), rfl, (by exact congrArg (LV.sl 3 0) (by first | (simp only [se_map, se_byL, se_len, se_ch, List.length_map]; done) | ((try simp only [se_map, se_byL, se_len, se_ch, List.length_map]); (try simp only [se_len, se_ch, List.length_map] at *); omega) : (s19.1.map iC).length = ((s19.1, (IntKind.i64.wrap (s18.2.1 + 1)), s19.2).1.map iC).length)), (by simp only [se_map, se_byL, se_len, se_ch, List.length_map] : ((I (IntKind.i64.wrap (s18.2.1 + 1))) : LV) = (I (s19.1, (IntKind.i64.wrap (s18.2.1 + 1)), s19.2).2.1)), trivial⟩ ⟨⟨(congrArg (fun q => some (Blk.row 3 1 q)) (by simp only [se_map, se_byL, se_len, se_ch, List.length_map] : ((s19.2.map iC) : List (List LV)) = ((s19.1, (IntKind.i64.wrap (s18.2.1 + 1)), s19.2).2.2.map iC))), rfl, NLss_bel (NLss_map' _)⟩, ⟨⟨(congrArg (fun q => some (Blk.row 3 1 q)) (by simp only [se_map, se_byL, se_len, se_ch, List.length_map] : ((s19.1.map iC) : List (List LV)) = ((s19.1, (IntKind.i64.wrap (s18.2.1 + 1)), s19.2).1.map iC))), rfl, NLss_bel (NLss_map' _)⟩, trivial⟩⟩ (by repeat' first | exact True.intro | exact rfl | exact NLs_bels (by assumption) | refine ⟨?_, ?_⟩) rfl (K18 _ e.symm)
    · unfold flood_steps_b19 at b19
      have hd : decide (((k19 : Nat) : Int) < (((y31.map iC).length : Nat) : Int)) = true := by rw [decide_eq_true_eq]; (try simp only [se_len, se_ch, List.length_map] at hk19); (try simp only [se_len, se_ch, List.length_map]); omega
      refine LoopW.round TT_ok [0, 1, 2, 3, 6, 7, 8, 9, 10, 12, 28, 36, 37, 38, 39, 46] ?_
      conv => whnf
      repeat' first | with_reducible rfl | with_reducible exact True.intro | with_reducible assumption | refine parkI ?_ | (refine And.intro ?_ ?_ <;> conv => whnf) | fail
      refine parkE (fun hc => ?_) (fun hc => ?_)
      · clear hd
        conv => whnf
        replace b19 := grdS b19
        obtain ⟨g33, b19⟩ := b19
        replace g33 : (0 : Int) ≤ ((k19 : Nat) : Int) ∧ ((k19 : Nat) : Int) < (((y31.map iC).length : Nat) : Int) := by simpa only [se_len, se_ch, List.length_map] using g33
        replace b19 := bindS b19
        obtain ⟨v34, hv34, b19⟩ := b19
        have i35 : nth (y31.map iC) (0 + ((((k19 : Nat) : Int) : Int).toNat)) = some [(I v34)] := by simpa only [se_map, se_len, se_ch, List.length_map, nth_eq, Nat.zero_add, List.getElem?_map] using gixNF (f := iC) hv34
        replace b19 := grdS b19
        obtain ⟨g36, b19⟩ := b19
        replace g36 : (0 : Int) ≤ v34 ∧ v34 < (((s19.2.map iC).length : Nat) : Int) := by simpa only [se_len, se_ch, List.length_map] using g36
        replace b19 := bindS b19
        obtain ⟨v37, hv37, b19⟩ := b19
        have i38 : nth (s19.2.map iC) (0 + ((v34 : Int).toNat)) = some [(I v37)] := by simpa only [se_map, se_len, se_ch, List.length_map, nth_eq, Nat.zero_add, List.getElem?_map] using gixNF (f := iC) hv37
        repeat' first | with_reducible rfl | with_reducible exact True.intro | with_reducible assumption | refine parkI ?_ | exact g33 | exact g36 | (rw [i35]; conv => whnf) | (rw [i38]; conv => whnf) | (refine And.intro ?_ ?_ <;> conv => whnf) | fail
        refine parkE (fun hc => ?_) (fun hc => ?_)
        · replace b19 := condT hc b19
          conv => whnf
          replace b19 := grdS b19
          obtain ⟨g39, b19⟩ := b19
          replace g39 : (0 : Int) ≤ s18.2.1 ∧ s18.2.1 < (((s19.1.map iC).length : Nat) : Int) := by simpa only [se_len, se_ch, List.length_map] using g39
          replace b19 := bindS b19
          obtain ⟨v40, hv40, b19⟩ := b19
          have i41 : nth (s19.1.map iC) (0 + ((s18.2.1 : Int).toNat)) = some [(I v40)] := by simpa only [se_map, se_len, se_ch, List.length_map, nth_eq, Nat.zero_add, List.getElem?_map] using gixNF (f := iC) hv40
          replace b19 := grdS b19
          obtain ⟨g42, b19⟩ := b19
          replace g42 : (0 : Int) ≤ v40 ∧ v40 < (((s19.2.map iC).length : Nat) : Int) := by simpa only [se_len, se_ch, List.length_map] using g42
          replace b19 := bindS b19
          obtain ⟨v43, hv43, b19⟩ := b19
          have i44 : nth (s19.2.map iC) (0 + ((v40 : Int).toNat)) = some [(I v43)] := by simpa only [se_map, se_len, se_ch, List.length_map, nth_eq, Nat.zero_add, List.getElem?_map] using gixNF (f := iC) hv43
          replace b19 := grdS b19
          obtain ⟨g45, b19⟩ := b19
          replace g45 : (0 : Int) ≤ v34 ∧ v34 < (((s19.2.map iC).length : Nat) : Int) := by simpa only [se_len, se_ch, List.length_map] using g45
          replace b19 := grdS b19
          obtain ⟨g46, b19⟩ := b19
          replace g46 : fits (((s19.1.map iC) ++ [[(I v34)]])).length 8 := by simpa only [se_len, se_ch, List.length_map] using g46
          repeat' first | with_reducible rfl | with_reducible exact True.intro | with_reducible assumption | refine parkI ?_ | exact g39 | exact g42 | exact g45 | exact g46 | (rw [i41]; conv => whnf) | (rw [i44]; conv => whnf) | (rw [i38]; conv => whnf) | exact (rfl : (_ : Nat) = _) | exact NLss_map' _ | refine NLss_app ?_ ?_ | refine NLss_set ?_ ?_ | (refine And.intro ?_ ?_ <;> conv => whnf) | (simp only [se_map, se_byL]; exact rfl) | (simp only [se_map, se_byL, se_len, se_ch, List.length_map]; done) | fail
          have e := Option.some.inj b19
          refine LoopW.ren [(2, 2), (6, 3), (4, 4)] [(7, (LV.sl 2 0 (((s19.1 ++ ([v34] : (List Int))), (s19.2.set (v34 : Int).toNat (IntKind.i64.wrap (v43 + 1)))).2.map iC).length)), (8, (LV.func (.func 281) [] [(LV.rptr [(LV.ro 1 (y26.map (roC 1 iC)))])])), (9, (LV.sl 3 0 (((s19.1 ++ ([v34] : (List Int))), (s19.2.set (v34 : Int).toNat (IntKind.i64.wrap (v43 + 1)))).1.map iC).length)), (10, (I s18.2.1)), (36, (LV.sl 4 0 (y31.map iC).length)), (37, (I (((y31.map iC).length : Nat) : Int))), (38, (I ((k19 + 1 : Nat) : Int)))] 5 [(2, (.row 3 1 (((s19.1 ++ ([v34] : (List Int))), (s19.2.set (v34 : Int).toNat (IntKind.i64.wrap (v43 + 1)))).2.map iC))), (3, (.row 3 1 (((s19.1 ++ ([v34] : (List Int))), (s19.2.set (v34 : Int).toNat (IntKind.i64.wrap (v43 + 1)))).1.map iC))), (4, (.row 3 1 (y31.map iC)))] rfl ⟨(by exact congrArg (LV.sl 2 0) (by first | (simp only [se_map, se_byL, se_len, se_ch, List.length_map]; done) | ((try simp only [se_map, se_byL, se_len, se_ch, List.length_map]); (try simp only [se_len, se_ch, List.length_map] at *); omega) : (s19.2.map iC).length = (((s19.1 ++ ([v34] : (List Int))), (s19.2.set (v34 : Int).toNat (IntKind.i64.wrap (v43 + 1)))).2.map iC).length)), rfl, (by exact congrArg (LV.sl 3 0) (by first | (simp only [se_map, se_byL, se_len, se_ch, List.length_map]; done) | ((try simp only [se_map, se_byL, se_len, se_ch, List.length_map]); (try simp only [se_len, se_ch, List.length_map] at *); omega) : (((s19.1.map iC) ++ [[(I v34)]])).length = (((s19.1 ++ ([v34] : (List Int))), (s19.2.set (v34 : Int).toNat (IntKind.i64.wrap (v43 + 1)))).1.map iC).length)), rfl, rfl, rfl, (congrArg (LV.int .i64) (w64_nat _ (by omega))), trivial⟩ ⟨⟨rfl, rfl, .inl ⟨(by simp only [se_map, se_byL, se_len, se_ch, List.length_map] : ((setN (s19.2.map iC) (0 + ((v34 : Int).toNat)) [(I (IntKind.i64.wrap (v43 + 1)))]) : List (List LV)) = (((s19.1 ++ ([v34] : (List Int))), (s19.2.set (v34 : Int).toNat (IntKind.i64.wrap (v43 + 1)))).2.map iC)), (by repeat' first | exact NLss_map' _ | refine NLss_app ?_ ?_ | refine NLss_set ?_ ?_ | exact True.intro | refine ⟨?_, ?_⟩)⟩⟩, rfl, rfl, ⟨⟨rfl, rfl, .inl ⟨(by simp only [se_map, se_byL, se_len, se_ch, List.length_map] : (((s19.1.map iC) ++ [[(I v34)]]) : List (List LV)) = (((s19.1 ++ ([v34] : (List Int))), (s19.2.set (v34 : Int).toNat (IntKind.i64.wrap (v43 + 1)))).1.map iC)), (by repeat' first | exact NLss_map' _ | refine NLss_app ?_ ?_ | refine NLss_set ?_ ?_ | exact True.intro | refine ⟨?_, ?_⟩)⟩⟩, rfl, rfl, ⟨⟨rfl, rfl, .inl ⟨rfl, (by repeat' first | exact NLss_map' _ | refine NLss_app ?_ ?_ | refine NLss_set ?_ ?_ | exact True.intro | refine ⟨?_, ?_⟩)⟩⟩, rfl, rfl, trivial⟩⟩⟩ rfl (K19 _ e.symm)
        · replace b19 := condF hc b19
          conv => whnf
          repeat' first | with_reducible rfl | with_reducible exact True.intro | with_reducible assumption | refine parkI ?_ | (refine And.intro ?_ ?_ <;> conv => whnf) | fail
          have e := Option.some.inj b19
          refine LoopW.norm [(7, (LV.sl 2 0 ((s19.1, s19.2).2.map iC).length)), (8, (LV.func (.func 281) [] [(LV.rptr [(LV.ro 1 (y26.map (roC 1 iC)))])])), (9, (LV.sl 3 0 ((s19.1, s19.2).1.map iC).length)), (10, (I s18.2.1)), (36, (LV.sl 4 0 (y31.map iC).length)), (37, (I (((y31.map iC).length : Nat) : Int))), (38, (I ((k19 + 1 : Nat) : Int)))] 5 [(2, (.row 3 1 ((s19.1, s19.2).2.map iC))), (3, (.row 3 1 ((s19.1, s19.2).1.map iC))), (4, (.row 3 1 (y31.map iC)))] ⟨(by exact congrArg (LV.sl 2 0) (by first | (simp only [se_map, se_byL, se_len, se_ch, List.length_map]; done) | ((try simp only [se_map, se_byL, se_len, se_ch, List.length_map]); (try simp only [se_len, se_ch, List.length_map] at *); omega) : (s19.2.map iC).length = ((s19.1, s19.2).2.map iC).length)), rfl, (by exact congrArg (LV.sl 3 0) (by first | (simp only [se_map, se_byL, se_len, se_ch, List.length_map]; done) | ((try simp only [se_map, se_byL, se_len, se_ch, List.length_map]); (try simp only [se_len, se_ch, List.length_map] at *); omega) : (s19.1.map iC).length = ((s19.1, s19.2).1.map iC).length)), rfl, rfl, rfl, (congrArg (LV.int .i64) (w64_nat _ (by omega))), trivial⟩ ⟨⟨(congrArg (fun q => some (Blk.row 3 1 q)) (by simp only [se_map, se_byL, se_len, se_ch, List.length_map] : ((s19.2.map iC) : List (List LV)) = ((s19.1, s19.2).2.map iC))), rfl, NLss_bel (NLss_map' _)⟩, ⟨⟨(congrArg (fun q => some (Blk.row 3 1 q)) (by simp only [se_map, se_byL, se_len, se_ch, List.length_map] : ((s19.1.map iC) : List (List LV)) = ((s19.1, s19.2).1.map iC))), rfl, NLss_bel (NLss_map' _)⟩, ⟨⟨rfl, rfl, NLss_bel (NLss_map' _)⟩, trivial⟩⟩⟩ (by repeat' first | exact True.intro | exact rfl | exact NLs_bels (by assumption) | refine ⟨?_, ?_⟩) rfl (K19 _ e.symm)
      · exact (Bool.false_ne_true (hc.symm.trans hd)).elim
  · replace b18 := condF (by first | exact hc | simpa only [se_len, se_ch, List.length_map] using hc) b18
    conv => whnf
    have e := Option.some.inj b18
    replace e := hbrk18 _ e.symm
    rw [e] at r18
    dsimp only [aftM] at r18
    have e := Option.some.inj r18
    subst e
    repeat' first | with_reducible rfl | with_reducible exact True.intro | with_reducible assumption | exact Or.inr ⟨_, rfl, congrArg (fun q => some (Blk.row 3 1 q)) rfl⟩ | exact (congrArg Bool.not h) | exact fun _ => True.intro | exact (rfl : (_ : Nat) = _) | exact (rfl : (_ : LV) = _) | exact NLss_map' _ | refine NLss_app ?_ ?_ | refine NLss_set ?_ ?_ | (refine And.intro ?_ ?_ <;> conv => whnf) | (intro h; (conv => whnf) <;> first | with_reducible rfl | assumption | exact h | exact (congrArg Bool.not h) | (refine ⟨h, True.intro⟩) | (refine ⟨congrArg Bool.not h, True.intro⟩) | (refine ⟨by assumption, True.intro⟩)) | (intro h; exact (Bool.false_ne_true (h.symm.trans (by assumption))).elim) | (intros; simp_all; done) | (refine gand ?_ h; assumption) | (simp only [se_map, se_byL]; exact rfl) | (simp only [se_map, se_byL, se_len, se_ch, List.length_map]; done) | fail

theorem c_flood_steps (a0 : LanT) (a1 : (List (List Bool))) (a2 : Int) (r : (List Int)) (h : flood_steps a0 a1 a2 = some r) : CallP Try.prog 208 [(LV.agg [(I a0.Segs), (LV.ro 2 (a0.Plans.map PlanT.cells)), (LV.ro 2 (a0.Hosts.map HostT.cells))]), (LV.ro 1 (a1.map (roC 1 bC))), (I a2)] (LV.ro 1 (r.map iC)) := by
  exact CallF.toP (cf_flood_steps a0 a1 a2 r h) (by repeat' first | exact True.intro | assumption | refine ⟨?_, ?_⟩) (NLss_map' _)

def flood_Steps (a0 : LanT) (a1 : (List (List Bool))) (a2 : Int) : Option ((List Int) × Int) :=
  (flood_may a0 a1 ([a2] : (List Int))).bind fun y19 =>
  (bif (!decide (y19 = 0)) then
    some ([], y19)
  else
    (flood_steps a0 a1 a2).bind fun y47 =>
    some (y47, 0))

theorem c_flood_Steps (a0 : LanT) (a1 : (List (List Bool))) (a2 : Int) (r : ((List Int) × Int)) (h : flood_Steps a0 a1 a2 = some r) : CallP Try.prog 104 [(LV.agg [(I a0.Segs), (LV.ro 2 (a0.Plans.map PlanT.cells)), (LV.ro 2 (a0.Hosts.map HostT.cells))]), (LV.ro 1 (a1.map (roC 1 bC))), (I a2)] (LV.tup [(LV.ro 1 (r.1.map iC)), (I r.2)]) := by
  unfold flood_Steps at h
  refine .intro (by repeat' first | exact True.intro | assumption | refine ⟨?_, ?_⟩) (.intro TT_ok Try.func104 rfl rfl [0, 1, 2, 3, 6, 7, 8, 15] rfl ?_)
  conv => whnf
  replace h := bindS h
  obtain ⟨y19, hy19, h⟩ := h
  have c20 : CallP Try.prog 207 [(LV.agg [(I a0.Segs), (LV.ro 2 (a0.Plans.map PlanT.cells)), (LV.ro 2 (a0.Hosts.map HostT.cells))]), (LV.ro 1 (a1.map (roC 1 bC))), (LV.ro 1 [[(I a2)]])] (I y19) := by first | exact c_flood_may a0 a1 ([a2] : (List Int)) _ hy19 | (simpa only [se_map, se_byL, se_len, se_ch, List.length_map] using c_flood_may a0 a1 ([a2] : (List Int)) _ hy19)
  repeat' first | with_reducible rfl | with_reducible exact True.intro | with_reducible assumption | refine parkI ?_ | (refine CallP.use c20 ?_; conv => whnf) | exact (rfl : (_ : Nat) = _) | exact NLss_map' _ | refine NLss_app ?_ ?_ | refine NLss_set ?_ ?_ | (refine And.intro ?_ ?_ <;> conv => whnf) | (simp only [se_map, se_byL]; exact rfl) | (simp only [se_map, se_byL, se_len, se_ch, List.length_map]; done) | fail
  refine parkE (fun hc => ?_) (fun hc => ?_)
  · replace h := condT hc h
    conv => whnf
    have e := Option.some.inj h
    subst e
    repeat' first | with_reducible rfl | with_reducible exact True.intro | with_reducible assumption | exact (congrArg Bool.not h) | exact fun _ => True.intro | exact (rfl : (_ : Nat) = _) | exact (rfl : (_ : LV) = _) | exact NLss_map' _ | refine NLss_app ?_ ?_ | refine NLss_set ?_ ?_ | (refine And.intro ?_ ?_ <;> conv => whnf) | (intro h; (conv => whnf) <;> first | with_reducible rfl | assumption | exact h | exact (congrArg Bool.not h) | (refine ⟨h, True.intro⟩) | (refine ⟨congrArg Bool.not h, True.intro⟩) | (refine ⟨by assumption, True.intro⟩)) | (intro h; exact (Bool.false_ne_true (h.symm.trans (by assumption))).elim) | (intros; simp_all; done) | (refine gand ?_ h; assumption) | (simp only [se_map, se_byL]; exact rfl) | (simp only [se_map, se_byL, se_len, se_ch, List.length_map]; done) | fail
  · replace h := condF hc h
    conv => whnf
    replace h := bindS h
    obtain ⟨y47, hy47, h⟩ := h
    have c48 := cf_flood_steps a0 a1 a2 _ hy47
    have e := Option.some.inj h
    subst e
    repeat' first | with_reducible rfl | with_reducible exact True.intro | with_reducible assumption | (refine CallW.done (CallF.at c48 (by repeat' first | exact True.intro | assumption | refine ⟨?_, ?_⟩) (NLss_map' _)) ?_; conv => whnf) | (refine ⟨_, _, CallF.at c48 (by repeat' first | exact True.intro | assumption | refine ⟨?_, ?_⟩) (NLss_map' _), ?_⟩; conv => whnf) | exact (congrArg Bool.not h) | exact fun _ => True.intro | exact (rfl : (_ : Nat) = _) | exact (rfl : (_ : LV) = _) | exact NLss_map' _ | refine NLss_app ?_ ?_ | refine NLss_set ?_ ?_ | (refine And.intro ?_ ?_ <;> conv => whnf) | (intro h; (conv => whnf) <;> first | with_reducible rfl | assumption | exact h | exact (congrArg Bool.not h) | (refine ⟨h, True.intro⟩) | (refine ⟨congrArg Bool.not h, True.intro⟩) | (refine ⟨by assumption, True.intro⟩)) | (intro h; exact (Bool.false_ne_true (h.symm.trans (by assumption))).elim) | (intros; simp_all; done) | (refine gand ?_ h; assumption) | (simp only [se_map, se_byL]; exact rfl) | (simp only [se_map, se_byL, se_len, se_ch, List.length_map]; done) | fail

def law17_alive  : Option Bool :=
  (flood_Steps (⟨2, ([(⟨1, ([(⟨0, 1, true⟩ : LinkT), (⟨1, 1, true⟩ : LinkT)] : (List LinkT))⟩ : PlanT)] : (List PlanT)), []⟩ : LanT) ([([true, true] : (List Bool))] : (List (List Bool))) 0).bind fun y49 =>
  (bif (decide (y49.2 = 0)) then
    (ref06_Same y49.1 ([0, 1] : (List Int))).bind fun y51 =>
    some (bif (decide (y49.2 = 0)) then y51 else false)
  else
    some false)

theorem c_law17_alive  (r : Bool) (h : law17_alive  = some r) : CallP Try.prog 105 [] (LV.bool r) := by
  unfold law17_alive at h
  refine .intro (by repeat' first | exact True.intro | assumption | refine ⟨?_, ?_⟩) (.intro TT_ok Try.func105 rfl rfl [0, 1, 2, 3, 3000002] rfl ?_)
  conv => whnf
  replace h := bindS h
  obtain ⟨y49, hy49, h⟩ := h
  have c50 : CallP Try.prog 104 [(LV.agg [(I 2), (LV.ro 2 [[(I 1), (LV.ro 3 [[(I 0), (I 1), (LV.bool true)], [(I 1), (I 1), (LV.bool true)]])]]), (LV.ro 2 ([] : List (List LV)))]), (LV.ro 1 [[(LV.ro 1 [[(LV.bool true)], [(LV.bool true)]])]]), (I 0)] (LV.tup [(LV.ro 1 (y49.1.map iC)), (I y49.2)]) := by first | exact c_flood_Steps (⟨2, ([(⟨1, ([(⟨0, 1, true⟩ : LinkT), (⟨1, 1, true⟩ : LinkT)] : (List LinkT))⟩ : PlanT)] : (List PlanT)), []⟩ : LanT) ([([true, true] : (List Bool))] : (List (List Bool))) 0 _ hy49 | (simpa only [se_map, se_byL, se_len, se_ch, List.length_map] using c_flood_Steps (⟨2, ([(⟨1, ([(⟨0, 1, true⟩ : LinkT), (⟨1, 1, true⟩ : LinkT)] : (List LinkT))⟩ : PlanT)] : (List PlanT)), []⟩ : LanT) ([([true, true] : (List Bool))] : (List (List Bool))) 0 _ hy49) | (simpa only [se_map, se_byL, se_len, se_ch, List.length_map, LanT.cells, LinkT.cells, PlanT.cells] using c_flood_Steps (⟨2, ([(⟨1, ([(⟨0, 1, true⟩ : LinkT), (⟨1, 1, true⟩ : LinkT)] : (List LinkT))⟩ : PlanT)] : (List PlanT)), []⟩ : LanT) ([([true, true] : (List Bool))] : (List (List Bool))) 0 _ hy49)
  repeat' first | with_reducible rfl | with_reducible exact True.intro | with_reducible assumption | refine parkI ?_ | (refine CallP.use (CallP.up c50 (by repeat' first | exact Up.refl _ | exact Up.nil _ | exact True.intro | refine Up.agg ?_ | refine ⟨?_, ?_⟩)) ?_; conv => whnf) | exact (congrArg Bool.not h) | exact fun _ => True.intro | exact (rfl : (_ : Nat) = _) | exact NLss_map' _ | refine NLss_app ?_ ?_ | refine NLss_set ?_ ?_ | (refine And.intro ?_ ?_ <;> conv => whnf) | (intro h; (conv => whnf) <;> first | with_reducible rfl | assumption | exact h | exact (congrArg Bool.not h) | (refine ⟨h, True.intro⟩) | (refine ⟨congrArg Bool.not h, True.intro⟩) | (refine ⟨by assumption, True.intro⟩)) | (intro h; exact (Bool.false_ne_true (h.symm.trans (by assumption))).elim) | (intros; simp_all; done) | (refine gand ?_ h; assumption) | (simp only [se_map, se_byL]; exact rfl) | (simp only [se_map, se_byL, se_len, se_ch, List.length_map]; done) | fail
  refine parkE (fun hg1_ => ?_) (fun hg1_ => ?_)
  · replace h := condT (by first | exact hg1_ | simpa only [se_len, se_ch, List.length_map] using hg1_) h
    conv => whnf
    replace h := bindS h
    obtain ⟨y51, hy51, h⟩ := h
    have c52 : CallP Try.prog 68 [(LV.ro 1 (y49.1.map iC)), (LV.ro 1 [[(I 0)], [(I 1)]])] (LV.bool y51) := by first | exact c_ref06_Same y49.1 ([0, 1] : (List Int)) _ hy51 | (simpa only [se_map, se_byL, se_len, se_ch, List.length_map] using c_ref06_Same y49.1 ([0, 1] : (List Int)) _ hy51)
    have e := Option.some.inj h
    subst e
    repeat' first | with_reducible rfl | with_reducible exact True.intro | with_reducible assumption | (refine CallP.use c52 ?_; conv => whnf) | exact (congrArg Bool.not h) | exact fun _ => True.intro | exact (rfl : (_ : Nat) = _) | exact (rfl : (_ : LV) = _) | exact NLss_map' _ | refine NLss_app ?_ ?_ | refine NLss_set ?_ ?_ | (refine And.intro ?_ ?_ <;> conv => whnf) | (intro h; (conv => whnf) <;> first | with_reducible rfl | assumption | exact h | exact (congrArg Bool.not h) | (refine ⟨h, True.intro⟩) | (refine ⟨congrArg Bool.not h, True.intro⟩) | (refine ⟨by assumption, True.intro⟩)) | (intro h; exact (Bool.false_ne_true (h.symm.trans (by assumption))).elim) | (intros; simp_all; done) | (refine gand ?_ h; assumption) | (simp only [se_map, se_byL]; exact rfl) | (simp only [se_map, se_byL, se_len, se_ch, List.length_map]; done) | (intro hq_; conv => whnf) | fail
  · replace h := condF (by first | exact hg1_ | simpa only [se_len, se_ch, List.length_map] using hg1_) h
    conv => whnf
    have e := Option.some.inj h
    subst e
    repeat' first | with_reducible rfl | with_reducible exact True.intro | with_reducible assumption | exact (by first | exact hg1_ | simpa using hg1_ : _ = false) | (refine ⟨?_, True.intro⟩; first | exact hg1_ | (simpa using hg1_; done)) | exact (congrArg Bool.not h) | exact fun _ => True.intro | exact (rfl : (_ : Nat) = _) | exact (rfl : (_ : LV) = _) | exact NLss_map' _ | refine NLss_app ?_ ?_ | refine NLss_set ?_ ?_ | (refine And.intro ?_ ?_ <;> conv => whnf) | (intro h; (conv => whnf) <;> first | with_reducible rfl | assumption | exact h | exact (congrArg Bool.not h) | (refine ⟨h, True.intro⟩) | (refine ⟨congrArg Bool.not h, True.intro⟩) | (refine ⟨by assumption, True.intro⟩)) | (intro h; exact (Bool.false_ne_true (h.symm.trans (by assumption))).elim) | (intros; simp_all; done) | (refine gand ?_ h; assumption) | (simp only [se_map, se_byL]; exact rfl) | (simp only [se_map, se_byL, se_len, se_ch, List.length_map]; done) | (intro hq_; conv => whnf) | fail

def flood_Reach_b20 (y53 : (List Int)) (k20 : Nat) (s20 : (List Int)) : Option (Step ((List Int) × Int) (List Int)) :=
  grd ((0 : Int) ≤ ((k20 : Nat) : Int) ∧ ((k20 : Nat) : Int) < ((y53.length : Nat) : Int)) <|
  (gixN y53 (((k20 : Nat) : Int) : Int).toNat).bind fun v56 =>
  (bif (decide (0 ≤ v56)) then
    grd (fits ((s20 ++ ([((k20 : Nat) : Int)] : (List Int))) : List Int).length 8) <|
    some (.nxt (s20 ++ ([((k20 : Nat) : Int)] : (List Int))))
  else
    some (.nxt s20))

def flood_Reach (a0 : LanT) (a1 : (List (List Bool))) (a2 : Int) : Option ((List Int) × Int) :=
  (flood_may a0 a1 ([a2] : (List Int))).bind fun y51 =>
  (bif (!decide (y51 = 0)) then
    some ([], y51)
  else
    (flood_steps a0 a1 a2).bind fun y53 =>
    aft (rangeN (flood_Reach_b20 y53) a0.Segs ([] : (List Int))) fun s20 =>
    some (s20, 0))

theorem c_flood_Reach (a0 : LanT) (a1 : (List (List Bool))) (a2 : Int) (r : ((List Int) × Int)) (h : flood_Reach a0 a1 a2 = some r) : CallP Try.prog 106 [(LV.agg [(I a0.Segs), (LV.ro 2 (a0.Plans.map PlanT.cells)), (LV.ro 2 (a0.Hosts.map HostT.cells))]), (LV.ro 1 (a1.map (roC 1 bC))), (I a2)] (LV.tup [(LV.ro 1 (r.1.map iC)), (I r.2)]) := by
  unfold flood_Reach at h
  refine .intro (by repeat' first | exact True.intro | assumption | refine ⟨?_, ?_⟩) (.intro TT_ok Try.func106 rfl rfl [0, 1, 2, 3, 6, 7, 8, 9, 10, 11, 18, 25, 26, 27, 33] rfl ?_)
  conv => whnf
  replace h := bindS h
  obtain ⟨y51, hy51, h⟩ := h
  have c52 : CallP Try.prog 207 [(LV.agg [(I a0.Segs), (LV.ro 2 (a0.Plans.map PlanT.cells)), (LV.ro 2 (a0.Hosts.map HostT.cells))]), (LV.ro 1 (a1.map (roC 1 bC))), (LV.ro 1 [[(I a2)]])] (I y51) := by first | exact c_flood_may a0 a1 ([a2] : (List Int)) _ hy51 | (simpa only [se_map, se_byL, se_len, se_ch, List.length_map] using c_flood_may a0 a1 ([a2] : (List Int)) _ hy51)
  repeat' first | with_reducible rfl | with_reducible exact True.intro | with_reducible assumption | refine parkI ?_ | (refine CallP.use c52 ?_; conv => whnf) | exact (rfl : (_ : Nat) = _) | exact NLss_map' _ | refine NLss_app ?_ ?_ | refine NLss_set ?_ ?_ | (refine And.intro ?_ ?_ <;> conv => whnf) | (simp only [se_map, se_byL]; exact rfl) | (simp only [se_map, se_byL, se_len, se_ch, List.length_map]; done) | fail
  refine parkE (fun hc => ?_) (fun hc => ?_)
  · replace h := condT hc h
    conv => whnf
    have e := Option.some.inj h
    subst e
    repeat' first | with_reducible rfl | with_reducible exact True.intro | with_reducible assumption | exact (congrArg Bool.not h) | exact fun _ => True.intro | exact (rfl : (_ : Nat) = _) | exact (rfl : (_ : LV) = _) | exact NLss_map' _ | refine NLss_app ?_ ?_ | refine NLss_set ?_ ?_ | (refine And.intro ?_ ?_ <;> conv => whnf) | (intro h; (conv => whnf) <;> first | with_reducible rfl | assumption | exact h | exact (congrArg Bool.not h) | (refine ⟨h, True.intro⟩) | (refine ⟨congrArg Bool.not h, True.intro⟩) | (refine ⟨by assumption, True.intro⟩)) | (intro h; exact (Bool.false_ne_true (h.symm.trans (by assumption))).elim) | (intros; simp_all; done) | (refine gand ?_ h; assumption) | (simp only [se_map, se_byL]; exact rfl) | (simp only [se_map, se_byL, se_len, se_ch, List.length_map]; done) | fail
  · replace h := condF hc h
    conv => whnf
    replace h := bindS h
    obtain ⟨y53, hy53, h⟩ := h
    have c54 := cf_flood_steps a0 a1 a2 _ hy53
    repeat' first | with_reducible rfl | with_reducible exact True.intro | with_reducible assumption | refine parkI ?_ | (refine CallW.done (CallF.at c54 (by repeat' first | exact True.intro | assumption | refine ⟨?_, ?_⟩) (NLss_map' _)) ?_; conv => whnf) | (refine ⟨_, _, CallF.at c54 (by repeat' first | exact True.intro | assumption | refine ⟨?_, ?_⟩) (NLss_map' _), ?_⟩; conv => whnf) | (refine And.intro ?_ ?_ <;> conv => whnf) | fail
    replace h := aftS h
    obtain ⟨O20, hO20, r20⟩ := h
    refine LoopW.virt 9 3 1 rfl ?_
    refine LoopW.norm [(9, (LV.sl 3 0 (([] : (List Int)).map iC).length)), (10, (LV.sl 2 0 (y53.map iC).length)), (25, (I a0.Segs)), (26, (I ((0 : Nat) : Int)))] 4 [(3, (.row 3 1 (([] : (List Int)).map iC))), (2, (.row 3 1 (y53.map iC)))] ⟨(by exact congrArg (LV.sl 3 0) (by first | (simp only [se_map, se_byL, se_len, se_ch, List.length_map]; done) | ((try simp only [se_map, se_byL, se_len, se_ch, List.length_map]); (try simp only [se_len, se_ch, List.length_map] at *); omega) : 0 = (([] : (List Int)).map iC).length)), rfl, rfl, rfl, trivial⟩ ⟨⟨(congrArg (fun q => some (Blk.row 3 1 q)) (by simp only [se_map, se_byL, se_len, se_ch, List.length_map] : ([] : List (List LV)) = (([] : (List Int)).map iC))), rfl, NLss_bel (NLss_map' _)⟩, ⟨⟨rfl, rfl, NLss_bel (NLss_map' _)⟩, trivial⟩⟩ (by repeat' first | exact True.intro | exact rfl | exact NLs_bels (by assumption) | refine ⟨?_, ?_⟩) rfl ?_
    refine LoopW.forN (fun k20 s20 => [(9, (LV.sl 3 0 (s20.map iC).length)), (10, (LV.sl 2 0 (y53.map iC).length)), (25, (I a0.Segs)), (26, (I ((k20 : Nat) : Int)))]) (fun s20 => ⟨4, [(3, (.row 3 1 (s20.map iC))), (2, (.row 3 1 (y53.map iC)))]⟩) hO20 (fun hl20 s20 hs20 => ?_) (fun hl20 k20 s20 o20 hk20 b20 K20 hret20 hbrk20 => ?_)
    · rw [hs20] at r20
      dsimp only [aftM] at r20
      have hd : decide ((((a0.Segs).toNat : Nat) : Int) < a0.Segs) = false := by rw [decide_eq_false_iff_not]; (try simp only [se_len, se_ch, List.length_map]); omega
      refine LoopW.round TT_ok [0, 1, 2, 3, 6, 7, 8, 9, 10, 11, 18, 25, 26, 27, 33] ?_
      conv => whnf
      repeat' first | with_reducible rfl | with_reducible exact True.intro | with_reducible assumption | refine parkI ?_ | (refine And.intro ?_ ?_ <;> conv => whnf) | fail
      refine parkE (fun hc => ?_) (fun hc => ?_)
      · exact (Bool.false_ne_true (hd.symm.trans hc)).elim
      · clear hd
        conv => whnf
        have e := Option.some.inj r20
        subst e
        repeat' first | with_reducible rfl | with_reducible exact True.intro | with_reducible assumption | exact (congrArg Bool.not h) | exact fun _ => True.intro | exact (rfl : (_ : Nat) = _) | exact (rfl : (_ : LV) = _) | exact NLss_map' _ | refine NLss_app ?_ ?_ | refine NLss_set ?_ ?_ | (refine And.intro ?_ ?_ <;> conv => whnf) | (intro h; (conv => whnf) <;> first | with_reducible rfl | assumption | exact h | exact (congrArg Bool.not h) | (refine ⟨h, True.intro⟩) | (refine ⟨congrArg Bool.not h, True.intro⟩) | (refine ⟨by assumption, True.intro⟩)) | (intro h; exact (Bool.false_ne_true (h.symm.trans (by assumption))).elim) | (intros; simp_all; done) | (refine gand ?_ h; assumption) | (simp only [se_map, se_byL]; exact rfl) | (simp only [se_map, se_byL, se_len, se_ch, List.length_map]; done) | fail
    · unfold flood_Reach_b20 at b20
      have hd : decide (((k20 : Nat) : Int) < a0.Segs) = true := by rw [decide_eq_true_eq]; (try simp only [se_len, se_ch, List.length_map] at hk20); (try simp only [se_len, se_ch, List.length_map]); omega
      refine LoopW.round TT_ok [0, 1, 2, 3, 6, 7, 8, 9, 10, 11, 18, 25, 26, 27, 33] ?_
      conv => whnf
      repeat' first | with_reducible rfl | with_reducible exact True.intro | with_reducible assumption | refine parkI ?_ | (refine And.intro ?_ ?_ <;> conv => whnf) | fail
      refine parkE (fun hc => ?_) (fun hc => ?_)
      · clear hd
        conv => whnf
        replace b20 := grdS b20
        obtain ⟨g55, b20⟩ := b20
        replace g55 : (0 : Int) ≤ ((k20 : Nat) : Int) ∧ ((k20 : Nat) : Int) < (((y53.map iC).length : Nat) : Int) := by simpa only [se_len, se_ch, List.length_map] using g55
        replace b20 := bindS b20
        obtain ⟨v56, hv56, b20⟩ := b20
        have i57 : nth (y53.map iC) (0 + ((((k20 : Nat) : Int) : Int).toNat)) = some [(I v56)] := by simpa only [se_map, se_len, se_ch, List.length_map, nth_eq, Nat.zero_add, List.getElem?_map] using gixNF (f := iC) hv56
        repeat' first | with_reducible rfl | with_reducible exact True.intro | with_reducible assumption | refine parkI ?_ | exact g55 | (rw [i57]; conv => whnf) | (refine And.intro ?_ ?_ <;> conv => whnf) | fail
        refine parkE (fun hc => ?_) (fun hc => ?_)
        · replace b20 := condT hc b20
          conv => whnf
          replace b20 := grdS b20
          obtain ⟨g58, b20⟩ := b20
          replace g58 : fits (((s20.map iC) ++ [[(I ((k20 : Nat) : Int))]])).length 8 := by simpa only [se_len, se_ch, List.length_map] using g58
          repeat' first | with_reducible rfl | with_reducible exact True.intro | with_reducible assumption | refine parkI ?_ | exact g58 | exact (rfl : (_ : Nat) = _) | exact NLss_map' _ | refine NLss_app ?_ ?_ | refine NLss_set ?_ ?_ | (refine And.intro ?_ ?_ <;> conv => whnf) | (simp only [se_map, se_byL]; exact rfl) | (simp only [se_map, se_byL, se_len, se_ch, List.length_map]; done) | fail
          have e := Option.some.inj b20
          refine LoopW.ren [(5, 3), (2, 2)] [(9, (LV.sl 3 0 ((s20 ++ ([((k20 : Nat) : Int)] : (List Int))).map iC).length)), (10, (LV.sl 2 0 (y53.map iC).length)), (25, (I a0.Segs)), (26, (I ((k20 + 1 : Nat) : Int)))] 4 [(3, (.row 3 1 ((s20 ++ ([((k20 : Nat) : Int)] : (List Int))).map iC))), (2, (.row 3 1 (y53.map iC)))] rfl ⟨(by exact congrArg (LV.sl 3 0) (by first | (simp only [se_map, se_byL, se_len, se_ch, List.length_map]; done) | ((try simp only [se_map, se_byL, se_len, se_ch, List.length_map]); (try simp only [se_len, se_ch, List.length_map] at *); omega) : (((s20.map iC) ++ [[(I ((k20 : Nat) : Int))]])).length = ((s20 ++ ([((k20 : Nat) : Int)] : (List Int))).map iC).length)), rfl, rfl, (congrArg (LV.int .i64) (w64_nat _ (by omega))), trivial⟩ ⟨⟨rfl, rfl, .inl ⟨(by simp only [se_map, se_byL, se_len, se_ch, List.length_map] : (((s20.map iC) ++ [[(I ((k20 : Nat) : Int))]]) : List (List LV)) = ((s20 ++ ([((k20 : Nat) : Int)] : (List Int))).map iC)), (by repeat' first | exact NLss_map' _ | refine NLss_app ?_ ?_ | refine NLss_set ?_ ?_ | exact True.intro | refine ⟨?_, ?_⟩)⟩⟩, rfl, rfl, ⟨⟨rfl, rfl, .inl ⟨rfl, (by repeat' first | exact NLss_map' _ | refine NLss_app ?_ ?_ | refine NLss_set ?_ ?_ | exact True.intro | refine ⟨?_, ?_⟩)⟩⟩, rfl, rfl, trivial⟩⟩ rfl (K20 _ e.symm)
        · replace b20 := condF hc b20
          conv => whnf
          repeat' first | with_reducible rfl | with_reducible exact True.intro | with_reducible assumption | refine parkI ?_ | (refine And.intro ?_ ?_ <;> conv => whnf) | fail
          have e := Option.some.inj b20
          refine LoopW.norm [(9, (LV.sl 3 0 (s20.map iC).length)), (10, (LV.sl 2 0 (y53.map iC).length)), (25, (I a0.Segs)), (26, (I ((k20 + 1 : Nat) : Int)))] 4 [(3, (.row 3 1 (s20.map iC))), (2, (.row 3 1 (y53.map iC)))] ⟨rfl, rfl, rfl, (congrArg (LV.int .i64) (w64_nat _ (by omega))), trivial⟩ ⟨⟨rfl, rfl, NLss_bel (NLss_map' _)⟩, ⟨⟨rfl, rfl, NLss_bel (NLss_map' _)⟩, trivial⟩⟩ (by repeat' first | exact True.intro | exact rfl | exact NLs_bels (by assumption) | refine ⟨?_, ?_⟩) rfl (K20 _ e.symm)
      · exact (Bool.false_ne_true (hc.symm.trans hd)).elim

end Go.RX
