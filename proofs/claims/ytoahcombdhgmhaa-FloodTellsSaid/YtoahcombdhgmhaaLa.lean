/- Plain functions, and what says that the program's functions compute them. -/
import Derived.Test.YtoahcombdhgmhaaSrt
set_option linter.unusedVariables false
set_option linter.unusedSimpArgs false
open Go Go.RX Go.Proofs
namespace Go.RX
set_option maxRecDepth 10000
set_option maxHeartbeats 4000000
attribute [local irreducible] CallW CallP LoopW W IntKind.wrap bitI
def law15_few_b1  (k1 : Nat) (x1 : PlanT) (s1 : (List PlanT)) : Option (Step LanT (List PlanT)) :=
  grd ((0 : Int) ≤ (mn ((x1.Ports.length : Nat) : Int) 10) ∧ (mn ((x1.Ports.length : Nat) : Int) 10) ≤ ((x1.Ports.length : Nat) : Int)) <|
  grd (fits ((s1 ++ ([(⟨x1.ID, (x1.Ports.take ((mn ((x1.Ports.length : Nat) : Int) 10) : Int).toNat)⟩ : PlanT)] : (List PlanT))) : List PlanT).length 32) <|
  some (.nxt (s1 ++ ([(⟨x1.ID, (x1.Ports.take ((mn ((x1.Ports.length : Nat) : Int) 10) : Int).toNat)⟩ : PlanT)] : (List PlanT))))

def law15_few (a0 : LanT) : Option LanT :=
  grd ((0 : Int) ≤ (mn ((a0.Plans.length : Nat) : Int) 8) ∧ (mn ((a0.Plans.length : Nat) : Int) 8) ≤ ((a0.Plans.length : Nat) : Int)) <|
  aft (rangeL (law15_few_b1 ) (a0.Plans.take ((mn ((a0.Plans.length : Nat) : Int) 8) : Int).toNat) ([] : (List PlanT))) fun s1 =>
  grd ((0 : Int) ≤ (mn ((a0.Hosts.length : Nat) : Int) 12) ∧ (mn ((a0.Hosts.length : Nat) : Int) 12) ≤ ((a0.Hosts.length : Nat) : Int)) <|
  some (⟨a0.Segs, s1, (a0.Hosts.take ((mn ((a0.Hosts.length : Nat) : Int) 12) : Int).toNat)⟩ : LanT)

theorem c_law15_few (a0 : LanT) (r : LanT) (h : law15_few a0 = some r) : CallP Try.prog 72 [(LV.agg [(I a0.Segs), (LV.ro 2 (a0.Plans.map PlanT.cells)), (LV.ro 2 (a0.Hosts.map HostT.cells))])] (LV.agg [(I r.Segs), (LV.ro 2 (r.Plans.map PlanT.cells)), (LV.ro 2 (r.Hosts.map HostT.cells))]) := by
  unfold law15_few at h
  refine .intro (by repeat' first | exact True.intro | assumption | refine ⟨?_, ?_⟩) (.intro TT_ok Try.func72 rfl rfl [0, 1, 2, 3, 5, 12, 13, 14, 15] rfl ?_)
  conv => whnf
  replace h := grdS h
  obtain ⟨g1, h⟩ := h
  replace g1 : (0 : Int) ≤ (mn (((a0.Plans.map PlanT.cells).length : Nat) : Int) 8) ∧ (mn (((a0.Plans.map PlanT.cells).length : Nat) : Int) 8) ≤ (((a0.Plans.map PlanT.cells).length : Nat) : Int) := by simpa only [se_len, se_ch, List.length_map] using g1
  repeat' first | with_reducible rfl | with_reducible exact True.intro | with_reducible assumption | refine parkI ?_ | exact g1 | (refine W.drawnM (id := 8) 0 TT_ok hmix1 [0, 0, 0, 0, 0, 0, 0, 0, 0, 0, 1, 1] [0, 0, 0, 0, 0, 1, 1, 1, 0, 1, 1, 2] rfl ?_; conv => whnf) | exact (congrArg Bool.not h) | exact fun _ => True.intro | exact (rfl : (_ : Nat) = _) | exact (rfl : (_ : LV) = _) | exact NLss_map' _ | refine NLss_app ?_ ?_ | refine NLss_set ?_ ?_ | (refine And.intro ?_ ?_ <;> conv => whnf) | (intro h; (conv => whnf) <;> first | with_reducible rfl | assumption | exact h | exact (congrArg Bool.not h) | (refine ⟨h, True.intro⟩) | (refine ⟨congrArg Bool.not h, True.intro⟩) | (refine ⟨by assumption, True.intro⟩)) | (intro h; exact (Bool.false_ne_true (h.symm.trans (by assumption))).elim) | (intros; simp_all; done) | (refine gand ?_ h; assumption) | (simp only [se_map, se_byL]; exact rfl) | (simp only [se_map, se_byL, se_len, se_ch, List.length_map]; done) | fail
  replace h := aftS h
  obtain ⟨O1, hO1, r1⟩ := h
  refine LoopW.virt 3 53 2 rfl ?_
  refine LoopW.norm [(1, (LV.ptr 0 0 0)), (2, (LV.ptr 1 0 0)), (3, (LV.sl 2 0 (([] : (List PlanT)).map PlanT.cells).length)), (12, (LV.ro 2 ((a0.Plans.map PlanT.cells).take ((mn (((a0.Plans.map PlanT.cells).length : Nat) : Int) 8) : Int).toNat))), (13, (I ((((a0.Plans.map PlanT.cells).take ((mn (((a0.Plans.map PlanT.cells).length : Nat) : Int) 8) : Int).toNat).length : Nat) : Int))), (14, (I ((0 : Nat) : Int)))] 3 [(0, (.row 47 3 [[(I a0.Segs), (LV.ro 2 (a0.Plans.map PlanT.cells)), (LV.ro 2 (a0.Hosts.map HostT.cells))]])), (1, (.row 47 3 [[(I 0), LV.nils, LV.nils]])), (2, (.row 53 2 (([] : (List PlanT)).map PlanT.cells)))] ⟨rfl, rfl, (by exact congrArg (LV.sl 2 0) (by first | (simp only [se_map, se_byL, se_len, se_ch, List.length_map]; done) | ((try simp only [se_map, se_byL, se_len, se_ch, List.length_map]); (try simp only [se_len, se_ch, List.length_map] at *); omega) : 0 = (([] : (List PlanT)).map PlanT.cells).length)), rfl, rfl, rfl, trivial⟩ ⟨⟨rfl, rfl, (by repeat' first | exact True.intro | exact rfl | exact NLs_bels (by assumption) | refine ⟨?_, ?_⟩)⟩, ⟨⟨rfl, rfl, (by repeat' first | exact True.intro | exact rfl | exact NLs_bels (by assumption) | refine ⟨?_, ?_⟩)⟩, ⟨⟨(congrArg (fun q => some (Blk.row 53 2 q)) (by simp only [se_map, se_byL, se_len, se_ch, List.length_map] : ([] : List (List LV)) = (([] : (List PlanT)).map PlanT.cells))), rfl, NLss_bel (NLss_map' _)⟩, trivial⟩⟩⟩ (by repeat' first | exact True.intro | exact rfl | exact NLs_bels (by assumption) | refine ⟨?_, ?_⟩) rfl ?_
  refine LoopW.forR (fun k1 s1 => [(1, (LV.ptr 0 0 0)), (2, (LV.ptr 1 0 0)), (3, (LV.sl 2 0 (s1.map PlanT.cells).length)), (12, (LV.ro 2 ((a0.Plans.map PlanT.cells).take ((mn (((a0.Plans.map PlanT.cells).length : Nat) : Int) 8) : Int).toNat))), (13, (I ((((a0.Plans.map PlanT.cells).take ((mn (((a0.Plans.map PlanT.cells).length : Nat) : Int) 8) : Int).toNat).length : Nat) : Int))), (14, (I ((k1 : Nat) : Int)))]) (fun s1 => ⟨3, [(0, (.row 47 3 [[(I a0.Segs), (LV.ro 2 (a0.Plans.map PlanT.cells)), (LV.ro 2 (a0.Hosts.map HostT.cells))]])), (1, (.row 47 3 [[(I 0), LV.nils, LV.nils]])), (2, (.row 53 2 (s1.map PlanT.cells)))]⟩) hO1 (fun hl1 s1 hs1 => ?_) (fun hl1 k1 x1 s1 o1 hk1 hx1 b1 K1 hret1 hbrk1 => ?_)
  · rw [hs1] at r1
    dsimp only [aftM] at r1
    have hd : decide ((((a0.Plans.take ((mn ((a0.Plans.length : Nat) : Int) 8) : Int).toNat).length : Nat) : Int) < ((((a0.Plans.map PlanT.cells).take ((mn (((a0.Plans.map PlanT.cells).length : Nat) : Int) 8) : Int).toNat).length : Nat) : Int)) = false := by rw [decide_eq_false_iff_not]; (try simp only [se_len, se_ch, List.length_map]); omega
    refine LoopW.round TT_ok [0, 1, 2, 3, 5, 12, 13, 14, 15] ?_
    conv => whnf
    repeat' first | with_reducible rfl | with_reducible exact True.intro | with_reducible assumption | refine parkI ?_ | (refine W.drawnM (id := 8) 0 TT_ok hmix1 [0, 0, 0, 0, 0, 0, 0, 0, 0, 0, 1, 1] [0, 0, 0, 0, 0, 1, 1, 1, 0, 1, 1, 2] rfl ?_; conv => whnf) | exact (congrArg Bool.not h) | exact fun _ => True.intro | exact (rfl : (_ : Nat) = _) | exact (rfl : (_ : LV) = _) | exact NLss_map' _ | refine NLss_app ?_ ?_ | refine NLss_set ?_ ?_ | (refine And.intro ?_ ?_ <;> conv => whnf) | (intro h; (conv => whnf) <;> first | with_reducible rfl | assumption | exact h | exact (congrArg Bool.not h) | (refine ⟨h, True.intro⟩) | (refine ⟨congrArg Bool.not h, True.intro⟩) | (refine ⟨by assumption, True.intro⟩)) | (intro h; exact (Bool.false_ne_true (h.symm.trans (by assumption))).elim) | (intros; simp_all; done) | (refine gand ?_ h; assumption) | (simp only [se_map, se_byL]; exact rfl) | (simp only [se_map, se_byL, se_len, se_ch, List.length_map]; done) | fail
    refine parkE (fun hc => ?_) (fun hc => ?_)
    · exact (Bool.false_ne_true (hd.symm.trans hc)).elim
    · clear hd
      conv => whnf
      replace r1 := grdS r1
      obtain ⟨g4, r1⟩ := r1
      replace g4 : (0 : Int) ≤ (mn (((a0.Hosts.map HostT.cells).length : Nat) : Int) 12) ∧ (mn (((a0.Hosts.map HostT.cells).length : Nat) : Int) 12) ≤ (((a0.Hosts.map HostT.cells).length : Nat) : Int) := by simpa only [se_len, se_ch, List.length_map] using g4
      have e := Option.some.inj r1
      subst e
      repeat' first | with_reducible rfl | with_reducible exact True.intro | with_reducible assumption | exact g4 | (refine W.drawnM (id := 8) 0 TT_ok hmix1 [0, 0, 0, 0, 0, 0, 0, 0, 0, 0, 1, 1] [0, 0, 0, 0, 0, 1, 1, 1, 0, 1, 1, 2] rfl ?_; conv => whnf) | exact (congrArg Bool.not h) | exact fun _ => True.intro | exact (rfl : (_ : Nat) = _) | exact (rfl : (_ : LV) = _) | exact NLss_map' _ | refine NLss_app ?_ ?_ | refine NLss_set ?_ ?_ | (refine And.intro ?_ ?_ <;> conv => whnf) | (intro h; (conv => whnf) <;> first | with_reducible rfl | assumption | exact h | exact (congrArg Bool.not h) | (refine ⟨h, True.intro⟩) | (refine ⟨congrArg Bool.not h, True.intro⟩) | (refine ⟨by assumption, True.intro⟩)) | (intro h; exact (Bool.false_ne_true (h.symm.trans (by assumption))).elim) | (intros; simp_all; done) | (refine gand ?_ h; assumption) | (simp only [se_map, se_byL]; exact rfl) | (simp only [se_map, se_byL, se_len, se_ch, List.length_map]; done) | fail
  · unfold law15_few_b1 at b1
    have fx1 : (0 : Int) ≤ ((k1 : Nat) : Int) ∧ (((a0.Plans.map PlanT.cells).take ((mn (((a0.Plans.map PlanT.cells).length : Nat) : Int) 8) : Int).toNat))[((k1 : Nat) : Int).toNat]? = some (PlanT.cells x1) := by (have h0 := kixF (f := PlanT.cells) hx1); simpa only [se_map, se_len, se_byL, List.length_map] using h0
    have hd : decide (((k1 : Nat) : Int) < ((((a0.Plans.map PlanT.cells).take ((mn (((a0.Plans.map PlanT.cells).length : Nat) : Int) 8) : Int).toNat).length : Nat) : Int)) = true := by rw [decide_eq_true_eq]; (try simp only [se_len, se_ch, List.length_map] at hk1); (try simp only [se_len, se_ch, List.length_map]); omega
    refine LoopW.round TT_ok [0, 1, 2, 3, 5, 12, 13, 14, 15] ?_
    conv => whnf
    repeat' first | with_reducible rfl | with_reducible exact True.intro | with_reducible assumption | refine parkI ?_ | (refine W.drawnM (id := 8) 0 TT_ok hmix1 [0, 0, 0, 0, 0, 0, 0, 0, 0, 0, 1, 1] [0, 0, 0, 0, 0, 1, 1, 1, 0, 1, 1, 2] rfl ?_; conv => whnf) | exact (congrArg Bool.not h) | exact fun _ => True.intro | exact (rfl : (_ : Nat) = _) | exact (rfl : (_ : LV) = _) | exact NLss_map' _ | refine NLss_app ?_ ?_ | refine NLss_set ?_ ?_ | (refine And.intro ?_ ?_ <;> conv => whnf) | (intro h; (conv => whnf) <;> first | with_reducible rfl | assumption | exact h | exact (congrArg Bool.not h) | (refine ⟨h, True.intro⟩) | (refine ⟨congrArg Bool.not h, True.intro⟩) | (refine ⟨by assumption, True.intro⟩)) | (intro h; exact (Bool.false_ne_true (h.symm.trans (by assumption))).elim) | (intros; simp_all; done) | (refine gand ?_ h; assumption) | (simp only [se_map, se_byL]; exact rfl) | (simp only [se_map, se_byL, se_len, se_ch, List.length_map]; done) | fail
    refine parkE (fun hc => ?_) (fun hc => ?_)
    · clear hd
      conv => whnf
      replace b1 := grdS b1
      obtain ⟨g2, b1⟩ := b1
      replace g2 : (0 : Int) ≤ (mn (((x1.Ports.map LinkT.cells).length : Nat) : Int) 10) ∧ (mn (((x1.Ports.map LinkT.cells).length : Nat) : Int) 10) ≤ (((x1.Ports.map LinkT.cells).length : Nat) : Int) := by simpa only [se_len, se_ch, List.length_map] using g2
      replace b1 := grdS b1
      obtain ⟨g3, b1⟩ := b1
      replace g3 : fits (((s1.map PlanT.cells) ++ [[(I x1.ID), (LV.ro 3 ((x1.Ports.map LinkT.cells).take ((mn (((x1.Ports.map LinkT.cells).length : Nat) : Int) 10) : Int).toNat))]])).length 32 := by simpa only [se_len, se_ch, List.length_map] using g3
      repeat' first | with_reducible rfl | with_reducible exact True.intro | with_reducible assumption | refine parkI ?_ | (refine ⟨_, fx1, ?_⟩; conv => whnf) | exact g2 | exact g3 | (refine W.drawnM (id := 8) 0 TT_ok hmix1 [0, 0, 0, 0, 0, 0, 0, 0, 0, 0, 1, 1] [0, 0, 0, 0, 0, 1, 1, 1, 0, 1, 1, 2] rfl ?_; conv => whnf) | exact (congrArg Bool.not h) | exact fun _ => True.intro | exact (rfl : (_ : Nat) = _) | exact (rfl : (_ : LV) = _) | exact NLss_map' _ | refine NLss_app ?_ ?_ | refine NLss_set ?_ ?_ | (refine And.intro ?_ ?_ <;> conv => whnf) | (intro h; (conv => whnf) <;> first | with_reducible rfl | assumption | exact h | exact (congrArg Bool.not h) | (refine ⟨h, True.intro⟩) | (refine ⟨congrArg Bool.not h, True.intro⟩) | (refine ⟨by assumption, True.intro⟩)) | (intro h; exact (Bool.false_ne_true (h.symm.trans (by assumption))).elim) | (intros; simp_all; done) | (refine gand ?_ h; assumption) | (simp only [se_map, se_byL]; exact rfl) | (simp only [se_map, se_byL, se_len, se_ch, List.length_map]; done) | fail
      have e := Option.some.inj b1
      refine LoopW.ren [(0, 0), (1, 1), (5, 2)] [(1, (LV.ptr 0 0 0)), (2, (LV.ptr 1 0 0)), (3, (LV.sl 2 0 ((s1 ++ ([(⟨x1.ID, (x1.Ports.take ((mn ((x1.Ports.length : Nat) : Int) 10) : Int).toNat)⟩ : PlanT)] : (List PlanT))).map PlanT.cells).length)), (12, (LV.ro 2 ((a0.Plans.map PlanT.cells).take ((mn (((a0.Plans.map PlanT.cells).length : Nat) : Int) 8) : Int).toNat))), (13, (I ((((a0.Plans.map PlanT.cells).take ((mn (((a0.Plans.map PlanT.cells).length : Nat) : Int) 8) : Int).toNat).length : Nat) : Int))), (14, (I ((k1 + 1 : Nat) : Int)))] 3 [(0, (.row 47 3 [[(I a0.Segs), (LV.ro 2 (a0.Plans.map PlanT.cells)), (LV.ro 2 (a0.Hosts.map HostT.cells))]])), (1, (.row 47 3 [[(I 0), LV.nils, LV.nils]])), (2, (.row 53 2 ((s1 ++ ([(⟨x1.ID, (x1.Ports.take ((mn ((x1.Ports.length : Nat) : Int) 10) : Int).toNat)⟩ : PlanT)] : (List PlanT))).map PlanT.cells)))] rfl ⟨rfl, rfl, (by exact congrArg (LV.sl 2 0) (by first | (simp only [se_map, se_byL, se_len, se_ch, List.length_map]; done) | ((try simp only [se_map, se_byL, se_len, se_ch, List.length_map]); (try simp only [se_len, se_ch, List.length_map] at *); omega) : (((s1.map PlanT.cells) ++ [[(I x1.ID), (LV.ro 3 ((x1.Ports.map LinkT.cells).take ((mn (((x1.Ports.map LinkT.cells).length : Nat) : Int) 10) : Int).toNat))]])).length = ((s1 ++ ([(⟨x1.ID, (x1.Ports.take ((mn ((x1.Ports.length : Nat) : Int) 10) : Int).toNat)⟩ : PlanT)] : (List PlanT))).map PlanT.cells).length)), rfl, rfl, (congrArg (LV.int .i64) (w64_nat _ (by omega))), trivial⟩ ⟨⟨rfl, rfl, .inl ⟨rfl, (by repeat' first | exact NLss_map' _ | refine NLss_app ?_ ?_ | refine NLss_set ?_ ?_ | exact True.intro | refine ⟨?_, ?_⟩)⟩⟩, rfl, rfl, ⟨⟨rfl, rfl, .inl ⟨rfl, (by repeat' first | exact NLss_map' _ | refine NLss_app ?_ ?_ | refine NLss_set ?_ ?_ | exact True.intro | refine ⟨?_, ?_⟩)⟩⟩, rfl, rfl, ⟨⟨rfl, rfl, .inl ⟨(by first | (simp only [se_map, se_byL, se_len, se_ch, List.length_map]; done) | (simp only [se_map, se_byL, se_len, se_ch, List.length_map, PlanT.cells]; done) : (((s1.map PlanT.cells) ++ [[(I x1.ID), (LV.ro 3 ((x1.Ports.map LinkT.cells).take ((mn (((x1.Ports.map LinkT.cells).length : Nat) : Int) 10) : Int).toNat))]]) : List (List LV)) = ((s1 ++ ([(⟨x1.ID, (x1.Ports.take ((mn ((x1.Ports.length : Nat) : Int) 10) : Int).toNat)⟩ : PlanT)] : (List PlanT))).map PlanT.cells)), (by repeat' first | exact NLss_map' _ | refine NLss_app ?_ ?_ | refine NLss_set ?_ ?_ | exact True.intro | refine ⟨?_, ?_⟩)⟩⟩, rfl, rfl, trivial⟩⟩⟩ rfl (K1 _ e.symm)
    · exact (Bool.false_ne_true (hc.symm.trans hd)).elim

def lan_in (a0 : Int) (a1 : Int) (a2 : Int) : Option Bool :=
  some (bif (decide (a1 ≤ a0)) then (decide (a0 ≤ a2)) else false)

theorem c_lan_in (a0 : Int) (a1 : Int) (a2 : Int) (r : Bool) (h : lan_in a0 a1 a2 = some r) : CallP Try.prog 196 [(I a0), (I a1), (I a2)] (LV.bool r) := by
  unfold lan_in at h
  refine .intro (by repeat' first | exact True.intro | assumption | refine ⟨?_, ?_⟩) (.intro TT_ok Try.func196 rfl rfl [0, 1, 2, 6] rfl ?_)
  conv => whnf
  have e := Option.some.inj h
  subst e
  repeat' first | with_reducible rfl | with_reducible exact True.intro | with_reducible assumption | exact (congrArg Bool.not h) | exact fun _ => True.intro | exact (rfl : (_ : Nat) = _) | exact (rfl : (_ : LV) = _) | exact NLss_map' _ | refine NLss_app ?_ ?_ | refine NLss_set ?_ ?_ | (refine And.intro ?_ ?_ <;> conv => whnf) | (intro h; (conv => whnf) <;> first | with_reducible rfl | assumption | exact h | exact (congrArg Bool.not h) | (refine ⟨h, True.intro⟩) | (refine ⟨congrArg Bool.not h, True.intro⟩) | (refine ⟨by assumption, True.intro⟩)) | (intro h; exact (Bool.false_ne_true (h.symm.trans (by assumption))).elim) | (intros; simp_all; done) | (refine gand ?_ h; assumption) | (simp only [se_map, se_byL]; exact rfl) | (simp only [se_map, se_byL, se_len, se_ch, List.length_map]; done) | fail

theorem ke_3 (a b : Int) : eqL TT 8 3 (I a) (I b) = some (decide (a = b)) := rfl

def slices_IndexFunc_Link_b3 (q1 : (LinkT → Option Bool)) (k3 : Nat) (x3 : LinkT) (s3 : Unit) : Option (Step Int Unit) :=
  (q1 x3).bind fun y11 =>
  (bif y11 then
    some (.ret ((k3 : Nat) : Int))
  else
    some (.nxt ()))

def slices_IndexFunc_Link (a0 : (List LinkT)) (q1 : (LinkT → Option Bool)) : Option Int :=
  aft (rangeL (slices_IndexFunc_Link_b3 q1) a0 ()) fun s3 =>
  some (-1)

theorem c_slices_IndexFunc_Link (a0 : (List LinkT)) (fn1 : Nat) (ff1 fc1 : List LV) (q1 : (LinkT → Option Bool)) (hq1 : ∀ (x0 : LinkT) (r : Bool), q1 x0 = some r → CallP Try.prog fn1 (ff1 ++ [(LV.agg [(I x0.Seg), (I x0.Cost), (LV.bool x0.Up)])] ++ fc1) (LV.bool r)) (hn1 : NLs ff1 ∧ NLs fc1) (r : Int) (h : slices_IndexFunc_Link a0 q1 = some r) : CallP Try.prog 303 [(LV.ro 3 (a0.map LinkT.cells)), (LV.func (.func fn1) ff1 fc1)] (I r) := by
  have hnA1 := hn1.1
  have hnB1 := hn1.2
  unfold slices_IndexFunc_Link at h
  refine .intro (by repeat' first | exact True.intro | assumption | refine ⟨?_, ?_⟩) (.intro TT_ok Try.func303 rfl rfl [0, 1, 4, 5, 7, 8, 9, 16] rfl ?_)
  conv => whnf
  repeat' first | with_reducible rfl | with_reducible exact True.intro | with_reducible assumption | refine parkI ?_ | (refine And.intro ?_ ?_ <;> conv => whnf) | fail
  replace h := aftS h
  obtain ⟨O3, hO3, r3⟩ := h
  refine LoopW.norm [(0, (LV.ro 3 (a0.map LinkT.cells))), (1, (LV.func (.func fn1) ff1 fc1)), (7, (I (((a0.map LinkT.cells).length : Nat) : Int))), (8, (I ((0 : Nat) : Int)))] 0 [] ⟨rfl, rfl, rfl, rfl, trivial⟩ trivial (by repeat' first | exact True.intro | exact rfl | exact NLs_bels (by assumption) | refine ⟨?_, ?_⟩) rfl ?_
  refine LoopW.forR (fun k3 s3 => [(0, (LV.ro 3 (a0.map LinkT.cells))), (1, (LV.func (.func fn1) ff1 fc1)), (7, (I (((a0.map LinkT.cells).length : Nat) : Int))), (8, (I ((k3 : Nat) : Int)))]) (fun s3 => ⟨0, []⟩) hO3 (fun hl3 s3 hs3 => ?_) (fun hl3 k3 x3 s3 o3 hk3 hx3 b3 K3 hret3 hbrk3 => ?_)
  · rw [hs3] at r3
    dsimp only [aftM] at r3
    have hd : decide (((a0.length : Nat) : Int) < (((a0.map LinkT.cells).length : Nat) : Int)) = false := by rw [decide_eq_false_iff_not]; (try simp only [se_len, se_ch, List.length_map]); omega
    refine LoopW.round TT_ok [0, 1, 4, 5, 7, 8, 9, 16] ?_
    conv => whnf
    repeat' first | with_reducible rfl | with_reducible exact True.intro | with_reducible assumption | refine parkI ?_ | (refine And.intro ?_ ?_ <;> conv => whnf) | fail
    refine parkE (fun hc => ?_) (fun hc => ?_)
    · exact (Bool.false_ne_true (hd.symm.trans hc)).elim
    · clear hd
      conv => whnf
      have e := Option.some.inj r3
      subst e
      repeat' first | with_reducible rfl | with_reducible exact True.intro | with_reducible assumption | exact (congrArg Bool.not h) | exact fun _ => True.intro | exact (rfl : (_ : Nat) = _) | exact (rfl : (_ : LV) = _) | exact NLss_map' _ | refine NLss_app ?_ ?_ | refine NLss_set ?_ ?_ | (refine And.intro ?_ ?_ <;> conv => whnf) | (intro h; (conv => whnf) <;> first | with_reducible rfl | assumption | exact h | exact (congrArg Bool.not h) | (refine ⟨h, True.intro⟩) | (refine ⟨congrArg Bool.not h, True.intro⟩) | (refine ⟨by assumption, True.intro⟩)) | (intro h; exact (Bool.false_ne_true (h.symm.trans (by assumption))).elim) | (intros; simp_all; done) | (refine gand ?_ h; assumption) | (simp only [se_map, se_byL]; exact rfl) | (simp only [se_map, se_byL, se_len, se_ch, List.length_map]; done) | fail
  · unfold slices_IndexFunc_Link_b3 at b3
    have hd : decide (((k3 : Nat) : Int) < (((a0.map LinkT.cells).length : Nat) : Int)) = true := by rw [decide_eq_true_eq]; (try simp only [se_len, se_ch, List.length_map] at hk3); (try simp only [se_len, se_ch, List.length_map]); omega
    refine LoopW.round TT_ok [0, 1, 4, 5, 7, 8, 9, 16] ?_
    conv => whnf
    repeat' first | with_reducible rfl | with_reducible exact True.intro | with_reducible assumption | refine parkI ?_ | (refine And.intro ?_ ?_ <;> conv => whnf) | fail
    refine parkE (fun hc => ?_) (fun hc => ?_)
    · clear hd
      conv => whnf
      replace b3 := bindS b3
      obtain ⟨y11, hy11, b3⟩ := b3
      have c12 := hq1 x3 _ hy11
      repeat' first | with_reducible rfl | with_reducible exact True.intro | with_reducible assumption | refine parkI ?_ | (refine ⟨_, (kixF (f := LinkT.cells) hx3), ?_⟩; conv => whnf) | (refine CallP.use c12 ?_; conv => whnf) | (refine frzB_call rfl (slN_nil hn1) ?_; conv => whnf) | (refine And.intro ?_ ?_ <;> conv => whnf) | fail
      refine parkE (fun hc => ?_) (fun hc => ?_)
      · replace b3 := condT hc b3
        conv => whnf
        have e := Option.some.inj b3
        replace e := hret3 _ e.symm
        rw [e] at r3
        replace e := Option.some.inj r3
        subst e
        repeat' first | with_reducible rfl | with_reducible exact True.intro | with_reducible assumption | exact (congrArg Bool.not h) | exact fun _ => True.intro | exact (rfl : (_ : Nat) = _) | exact (rfl : (_ : LV) = _) | exact NLss_map' _ | refine NLss_app ?_ ?_ | refine NLss_set ?_ ?_ | (refine And.intro ?_ ?_ <;> conv => whnf) | (intro h; (conv => whnf) <;> first | with_reducible rfl | assumption | exact h | exact (congrArg Bool.not h) | (refine ⟨h, True.intro⟩) | (refine ⟨congrArg Bool.not h, True.intro⟩) | (refine ⟨by assumption, True.intro⟩)) | (intro h; exact (Bool.false_ne_true (h.symm.trans (by assumption))).elim) | (intros; simp_all; done) | (refine gand ?_ h; assumption) | (simp only [se_map, se_byL]; exact rfl) | (simp only [se_map, se_byL, se_len, se_ch, List.length_map]; done) | fail
      · replace b3 := condF hc b3
        conv => whnf
        repeat' first | with_reducible rfl | with_reducible exact True.intro | with_reducible assumption | refine parkI ?_ | (refine And.intro ?_ ?_ <;> conv => whnf) | fail
        have e := Option.some.inj b3
        refine LoopW.norm [(0, (LV.ro 3 (a0.map LinkT.cells))), (1, (LV.func (.func fn1) ff1 fc1)), (7, (I (((a0.map LinkT.cells).length : Nat) : Int))), (8, (I ((k3 + 1 : Nat) : Int)))] 0 [] ⟨rfl, rfl, rfl, (congrArg (LV.int .i64) (w64_nat _ (by omega))), trivial⟩ trivial (by repeat' first | exact True.intro | exact rfl | exact NLs_bels (by assumption) | refine ⟨?_, ?_⟩) rfl (K3 _ e.symm)
    · exact (Bool.false_ne_true (hc.symm.trans hd)).elim

def slices_ContainsFunc_Link (a0 : (List LinkT)) (q1 : (LinkT → Option Bool)) : Option Bool :=
  (slices_IndexFunc_Link a0 q1).bind fun y14 =>
  some (decide (0 ≤ y14))

theorem c_slices_ContainsFunc_Link (a0 : (List LinkT)) (fn1 : Nat) (ff1 fc1 : List LV) (q1 : (LinkT → Option Bool)) (hq1 : ∀ (x0 : LinkT) (r : Bool), q1 x0 = some r → CallP Try.prog fn1 (ff1 ++ [(LV.agg [(I x0.Seg), (I x0.Cost), (LV.bool x0.Up)])] ++ fc1) (LV.bool r)) (hn1 : NLs ff1 ∧ NLs fc1) (r : Bool) (h : slices_ContainsFunc_Link a0 q1 = some r) : CallP Try.prog 266 [(LV.ro 3 (a0.map LinkT.cells)), (LV.func (.func fn1) ff1 fc1)] (LV.bool r) := by
  have hnA1 := hn1.1
  have hnB1 := hn1.2
  unfold slices_ContainsFunc_Link at h
  refine .intro (by repeat' first | exact True.intro | assumption | refine ⟨?_, ?_⟩) (.intro TT_ok Try.func266 rfl rfl [0, 1, 4] rfl ?_)
  conv => whnf
  have n13 : slNs [(LV.ro 3 (a0.map LinkT.cells)), (LV.func (.func fn1) ff1 fc1)] = [] := slNs_nil (by repeat' first | exact True.intro | assumption | refine ⟨?_, ?_⟩)
  replace h := bindS h
  obtain ⟨y14, hy14, h⟩ := h
  have c15 := c_slices_IndexFunc_Link a0 fn1 ff1 fc1 q1 hq1 hn1 _ hy14
  have e := Option.some.inj h
  subst e
  repeat' first | with_reducible rfl | with_reducible exact True.intro | with_reducible assumption | (refine CallP.use c15 ?_; conv => whnf) | (refine frzB_call n13 rfl ?_; conv => whnf) | (refine frz_nil n13 ?_; conv => whnf) | exact (congrArg Bool.not h) | exact fun _ => True.intro | exact (rfl : (_ : Nat) = _) | exact (rfl : (_ : LV) = _) | exact NLss_map' _ | refine NLss_app ?_ ?_ | refine NLss_set ?_ ?_ | (refine And.intro ?_ ?_ <;> conv => whnf) | (intro h; (conv => whnf) <;> first | with_reducible rfl | assumption | exact h | exact (congrArg Bool.not h) | (refine ⟨h, True.intro⟩) | (refine ⟨congrArg Bool.not h, True.intro⟩) | (refine ⟨by assumption, True.intro⟩)) | (intro h; exact (Bool.false_ne_true (h.symm.trans (by assumption))).elim) | (intros; simp_all; done) | (refine gand ?_ h; assumption) | (simp only [se_map, se_byL]; exact rfl) | (simp only [se_map, se_byL, se_len, se_ch, List.length_map]; done) | fail

def lan_isPlan_1 (a0 : LinkT) (q1 : Int) : Option Bool :=
  (lan_in a0.Seg 0 (IntKind.i64.wrap (q1 - 1))).bind fun y16 =>
  (gd (!(!y16)) (lan_in a0.Cost 1 1000)).bind fun y18 =>
  some (bif (!y16) then true else (!y18))

theorem c_lan_isPlan_1 (a0 : LinkT) (q1 : Int) (r : Bool) (h : lan_isPlan_1 a0 q1 = some r) : CallP Try.prog 268 [(LV.agg [(I a0.Seg), (I a0.Cost), (LV.bool a0.Up)]), (LV.rptr [(I q1)])] (LV.bool r) := by
  unfold lan_isPlan_1 at h
  refine .intro (by repeat' first | exact True.intro | assumption | refine ⟨?_, ?_⟩) (.intro TT_ok Try.func268 rfl rfl [0, 1, 2, 3] rfl ?_)
  conv => whnf
  replace h := bindS h
  obtain ⟨y16, hy16, h⟩ := h
  have c17 := c_lan_in a0.Seg 0 (IntKind.i64.wrap (q1 - 1)) _ hy16
  replace h := bindS h
  obtain ⟨y18, hy18, h⟩ := h
  have c19 := fun (hg : (!(!y16)) = true) => c_lan_in a0.Cost 1 1000 _ (gdS hg hy18)
  have e := Option.some.inj h
  subst e
  repeat' first | with_reducible rfl | with_reducible exact True.intro | with_reducible assumption | (refine ⟨_, c19, ?_⟩; conv => whnf) | (refine CallP.use c17 ?_; conv => whnf) | exact (congrArg Bool.not h) | exact fun _ => True.intro | exact (rfl : (_ : Nat) = _) | exact (rfl : (_ : LV) = _) | exact NLss_map' _ | refine NLss_app ?_ ?_ | refine NLss_set ?_ ?_ | (refine And.intro ?_ ?_ <;> conv => whnf) | (intro h; (conv => whnf) <;> first | with_reducible rfl | assumption | exact h | exact (congrArg Bool.not h) | (refine ⟨h, True.intro⟩) | (refine ⟨congrArg Bool.not h, True.intro⟩) | (refine ⟨by assumption, True.intro⟩)) | (intro h; exact (Bool.false_ne_true (h.symm.trans (by assumption))).elim) | (intros; simp_all; done) | (refine gand ?_ h; assumption) | (simp only [se_map, se_byL]; exact rfl) | (simp only [se_map, se_byL, se_len, se_ch, List.length_map]; done) | fail

def lan_isPlan (a0 : PlanT) (a1 : Int) : Option Bool :=
  (lan_in a0.ID 0 65535).bind fun y7 =>
  (gd y7 (lan_in ((a0.Ports.length : Nat) : Int) 1 8)).bind fun y9 =>
  (bif (bif y7 then y9 else false) then
    (slices_ContainsFunc_Link a0.Ports (fun x0_ => lan_isPlan_1 x0_ a1)).bind fun y20 =>
    some (bif (bif y7 then y9 else false) then (!y20) else false)
  else
    some false)

theorem c_lan_isPlan (a0 : PlanT) (a1 : Int) (r : Bool) (h : lan_isPlan a0 a1 = some r) : CallP Try.prog 197 [(LV.agg [(I a0.ID), (LV.ro 3 (a0.Ports.map LinkT.cells))]), (I a1)] (LV.bool r) := by
  unfold lan_isPlan at h
  refine .intro (by repeat' first | exact True.intro | assumption | refine ⟨?_, ?_⟩) (.intro TT_ok Try.func197 rfl rfl [0, 1, 2, 3, 4, 5] rfl ?_)
  conv => whnf
  replace h := bindS h
  obtain ⟨y7, hy7, h⟩ := h
  have c8 := c_lan_in a0.ID 0 65535 _ hy7
  replace h := bindS h
  obtain ⟨y9, hy9, h⟩ := h
  have c10 : y7 = true → CallP Try.prog 196 [(I (((a0.Ports.map LinkT.cells).length : Nat) : Int)), (I 1), (I 8)] (LV.bool y9) := by simpa only [se_map, se_byL, se_len, se_ch, List.length_map] using fun (hg : y7 = true) => c_lan_in ((a0.Ports.length : Nat) : Int) 1 8 _ (gdS hg hy9)
  repeat' first | with_reducible rfl | with_reducible exact True.intro | with_reducible assumption | refine parkI ?_ | (refine ⟨_, c10, ?_⟩; conv => whnf) | (refine CallP.use c8 ?_; conv => whnf) | exact (congrArg Bool.not h) | exact fun _ => True.intro | (refine And.intro ?_ ?_ <;> conv => whnf) | (intro h; (conv => whnf) <;> first | with_reducible rfl | assumption | exact h | exact (congrArg Bool.not h) | (refine ⟨h, True.intro⟩) | (refine ⟨congrArg Bool.not h, True.intro⟩) | (refine ⟨by assumption, True.intro⟩)) | (intro h; exact (Bool.false_ne_true (h.symm.trans (by assumption))).elim) | (intros; simp_all; done) | (refine gand ?_ h; assumption) | fail
  refine parkE (fun hg1_ => ?_) (fun hg1_ => ?_)
  · replace h := condT (by first | exact hg1_ | simpa only [se_len, se_ch, List.length_map] using hg1_) h
    conv => whnf
    replace h := bindS h
    obtain ⟨y20, hy20, h⟩ := h
    have c21 := c_slices_ContainsFunc_Link a0.Ports 268 [] [(LV.rptr [(I a1)])] (fun x0_ => lan_isPlan_1 x0_ a1) (fun x0_ r h => c_lan_isPlan_1 x0_ a1 r h) (by repeat' first | exact True.intro | refine ⟨?_, ?_⟩) _ hy20
    have e := Option.some.inj h
    subst e
    repeat' first | with_reducible rfl | with_reducible exact True.intro | with_reducible assumption | (refine CallP.use c21 ?_; conv => whnf) | exact (congrArg Bool.not h) | exact fun _ => True.intro | exact (rfl : (_ : Nat) = _) | exact (rfl : (_ : LV) = _) | exact NLss_map' _ | refine NLss_app ?_ ?_ | refine NLss_set ?_ ?_ | (refine And.intro ?_ ?_ <;> conv => whnf) | (intro h; (conv => whnf) <;> first | with_reducible rfl | assumption | exact h | exact (congrArg Bool.not h) | (refine ⟨h, True.intro⟩) | (refine ⟨congrArg Bool.not h, True.intro⟩) | (refine ⟨by assumption, True.intro⟩)) | (intro h; exact (Bool.false_ne_true (h.symm.trans (by assumption))).elim) | (intros; simp_all; done) | (refine gand ?_ h; assumption) | (simp only [se_map, se_byL]; exact rfl) | (simp only [se_map, se_byL, se_len, se_ch, List.length_map]; done) | (intro hq_; conv => whnf) | fail
  · replace h := condF (by first | exact hg1_ | simpa only [se_len, se_ch, List.length_map] using hg1_) h
    conv => whnf
    have e := Option.some.inj h
    subst e
    repeat' first | with_reducible rfl | with_reducible exact True.intro | with_reducible assumption | exact (by first | exact hg1_ | simpa using hg1_ : _ = false) | (refine ⟨?_, True.intro⟩; first | exact hg1_ | (simpa using hg1_; done)) | exact (congrArg Bool.not h) | exact fun _ => True.intro | exact (rfl : (_ : Nat) = _) | exact (rfl : (_ : LV) = _) | exact NLss_map' _ | refine NLss_app ?_ ?_ | refine NLss_set ?_ ?_ | (refine And.intro ?_ ?_ <;> conv => whnf) | (intro h; (conv => whnf) <;> first | with_reducible rfl | assumption | exact h | exact (congrArg Bool.not h) | (refine ⟨h, True.intro⟩) | (refine ⟨congrArg Bool.not h, True.intro⟩) | (refine ⟨by assumption, True.intro⟩)) | (intro h; exact (Bool.false_ne_true (h.symm.trans (by assumption))).elim) | (intros; simp_all; done) | (refine gand ?_ h; assumption) | (simp only [se_map, se_byL]; exact rfl) | (simp only [se_map, se_byL, se_len, se_ch, List.length_map]; done) | (intro hq_; conv => whnf) | fail

def mac_Right (a0 : Int) : Option Bool :=
  some (bif (decide (0 ≤ a0)) then (decide (a0 ≤ 281474976710655)) else false)

theorem c_mac_Right (a0 : Int) (r : Bool) (h : mac_Right a0 = some r) : CallP Try.prog 269 [(I a0)] (LV.bool r) := by
  unfold mac_Right at h
  refine .intro (by repeat' first | exact True.intro | assumption | refine ⟨?_, ?_⟩) (.intro TT_ok Try.func269 rfl rfl [0, 2] rfl ?_)
  conv => whnf
  have e := Option.some.inj h
  subst e
  repeat' first | with_reducible rfl | with_reducible exact True.intro | with_reducible assumption | exact (congrArg Bool.not h) | exact fun _ => True.intro | exact (rfl : (_ : Nat) = _) | exact (rfl : (_ : LV) = _) | exact NLss_map' _ | refine NLss_app ?_ ?_ | refine NLss_set ?_ ?_ | (refine And.intro ?_ ?_ <;> conv => whnf) | (intro h; (conv => whnf) <;> first | with_reducible rfl | assumption | exact h | exact (congrArg Bool.not h) | (refine ⟨h, True.intro⟩) | (refine ⟨congrArg Bool.not h, True.intro⟩) | (refine ⟨by assumption, True.intro⟩)) | (intro h; exact (Bool.false_ne_true (h.symm.trans (by assumption))).elim) | (intros; simp_all; done) | (refine gand ?_ h; assumption) | (simp only [se_map, se_byL]; exact rfl) | (simp only [se_map, se_byL, se_len, se_ch, List.length_map]; done) | fail

def mac_Class (a0 : Int) : Option (Int × Int) :=
  (mac_Right a0).bind fun y10 =>
  (bif (!y10) then
    some (0, 1)
  else
    (bif (decide ((bitI .andNot IntKind.i64 a0 15) = 1652522221568)) then
      some (2, 0)
    else
      some ((bitI .and IntKind.i64 ((a0).fdiv (2 ^ (min (40 : Int).toNat 64))) 1), 0)))

theorem c_mac_Class (a0 : Int) (r : (Int × Int)) (h : mac_Class a0 = some r) : CallP Try.prog 198 [(I a0)] (LV.tup [(I r.1), (I r.2)]) := by
  unfold mac_Class at h
  refine .intro (by repeat' first | exact True.intro | assumption | refine ⟨?_, ?_⟩) (.intro TT_ok Try.func198 rfl rfl [0, 2, 3, 4, 8] rfl ?_)
  conv => whnf
  replace h := bindS h
  obtain ⟨y10, hy10, h⟩ := h
  have c11 := c_mac_Right a0 _ hy10
  repeat' first | with_reducible rfl | with_reducible exact True.intro | with_reducible assumption | refine parkI ?_ | (refine CallP.use c11 ?_; conv => whnf) | (refine And.intro ?_ ?_ <;> conv => whnf) | fail
  refine parkE (fun hc => ?_) (fun hc => ?_)
  · replace h := condT hc h
    conv => whnf
    have e := Option.some.inj h
    subst e
    repeat' first | with_reducible rfl | with_reducible exact True.intro | with_reducible assumption | exact (congrArg Bool.not h) | exact fun _ => True.intro | exact (rfl : (_ : Nat) = _) | exact (rfl : (_ : LV) = _) | exact NLss_map' _ | refine NLss_app ?_ ?_ | refine NLss_set ?_ ?_ | (refine And.intro ?_ ?_ <;> conv => whnf) | (intro h; (conv => whnf) <;> first | with_reducible rfl | assumption | exact h | exact (congrArg Bool.not h) | (refine ⟨h, True.intro⟩) | (refine ⟨congrArg Bool.not h, True.intro⟩) | (refine ⟨by assumption, True.intro⟩)) | (intro h; exact (Bool.false_ne_true (h.symm.trans (by assumption))).elim) | (intros; simp_all; done) | (refine gand ?_ h; assumption) | (simp only [se_map, se_byL]; exact rfl) | (simp only [se_map, se_byL, se_len, se_ch, List.length_map]; done) | fail
  · replace h := condF hc h
    conv => whnf
    repeat' first | with_reducible rfl | with_reducible exact True.intro | with_reducible assumption | refine parkI ?_ | (refine And.intro ?_ ?_ <;> conv => whnf) | fail
    refine parkE (fun hc => ?_) (fun hc => ?_)
    · replace h := condT hc h
      conv => whnf
      have e := Option.some.inj h
      subst e
      repeat' first | with_reducible rfl | with_reducible exact True.intro | with_reducible assumption | exact (congrArg Bool.not h) | exact fun _ => True.intro | exact (rfl : (_ : Nat) = _) | exact (rfl : (_ : LV) = _) | exact NLss_map' _ | refine NLss_app ?_ ?_ | refine NLss_set ?_ ?_ | (refine And.intro ?_ ?_ <;> conv => whnf) | (intro h; (conv => whnf) <;> first | with_reducible rfl | assumption | exact h | exact (congrArg Bool.not h) | (refine ⟨h, True.intro⟩) | (refine ⟨congrArg Bool.not h, True.intro⟩) | (refine ⟨by assumption, True.intro⟩)) | (intro h; exact (Bool.false_ne_true (h.symm.trans (by assumption))).elim) | (intros; simp_all; done) | (refine gand ?_ h; assumption) | (simp only [se_map, se_byL]; exact rfl) | (simp only [se_map, se_byL, se_len, se_ch, List.length_map]; done) | fail
    · replace h := condF hc h
      conv => whnf
      have e := Option.some.inj h
      subst e
      repeat' first | with_reducible rfl | with_reducible exact True.intro | with_reducible assumption | exact (by decide : (0 : Int) ≤ 40) | exact (congrArg Bool.not h) | exact fun _ => True.intro | exact (rfl : (_ : Nat) = _) | exact (rfl : (_ : LV) = _) | exact NLss_map' _ | refine NLss_app ?_ ?_ | refine NLss_set ?_ ?_ | (refine And.intro ?_ ?_ <;> conv => whnf) | (intro h; (conv => whnf) <;> first | with_reducible rfl | assumption | exact h | exact (congrArg Bool.not h) | (refine ⟨h, True.intro⟩) | (refine ⟨congrArg Bool.not h, True.intro⟩) | (refine ⟨by assumption, True.intro⟩)) | (intro h; exact (Bool.false_ne_true (h.symm.trans (by assumption))).elim) | (intros; simp_all; done) | (refine gand ?_ h; assumption) | (simp only [se_map, se_byL]; exact rfl) | (simp only [se_map, se_byL, se_len, se_ch, List.length_map]; done) | fail

def lan_Right_b2 (a0 : LanT) (k2 : Nat) (x2 : PlanT) (s2 : (List (Int × Int))) : Option (Step Bool (List (Int × Int))) :=
  (gd (!(decide (1 < (IntKind.i64.wrap ((mget s2 x2.ID 0) + 1))))) (lan_isPlan x2 a0.Segs)).bind fun y11 =>
  (bif (bif (decide (1 < (IntKind.i64.wrap ((mget s2 x2.ID 0) + 1)))) then true else (!y11)) then
    some (.ret false)
  else
    some (.nxt (mput s2 x2.ID (IntKind.i64.wrap ((mget s2 x2.ID 0) + 1)))))

def lan_Right_b4 (a0 : LanT) (k4 : Nat) (x4 : HostT) (s4 : (List (Int × Int))) : Option (Step Bool (List (Int × Int))) :=
  (mac_Class x4.Mac).bind fun y12 =>
  (gd (!(bif (bif (decide (1 < (IntKind.i64.wrap ((mget s4 x4.Mac 0) + 1)))) then true else (!decide (y12.2 = 0))) then true else (!decide (y12.1 = 0)))) (lan_in x4.Seg 0 (IntKind.i64.wrap (a0.Segs - 1)))).bind fun y14 =>
  (bif (bif (bif (bif (decide (1 < (IntKind.i64.wrap ((mget s4 x4.Mac 0) + 1)))) then true else (!decide (y12.2 = 0))) then true else (!decide (y12.1 = 0))) then true else (!y14)) then
    some (.ret false)
  else
    some (.nxt (mput s4 x4.Mac (IntKind.i64.wrap ((mget s4 x4.Mac 0) + 1)))))

def lan_Right (a0 : LanT) : Option Bool :=
  (lan_in a0.Segs 1 8).bind fun y5 =>
  (bif (bif (bif (!y5) then true else (decide (6 < ((a0.Plans.length : Nat) : Int)))) then true else (decide (8 < ((a0.Hosts.length : Nat) : Int)))) then
    some false
  else
    aft (rangeL (lan_Right_b2 a0) a0.Plans ([] : List (Int × Int))) fun s2 =>
    aft (rangeL (lan_Right_b4 a0) a0.Hosts ([] : List (Int × Int))) fun s4 =>
    some true)

theorem c_lan_Right (a0 : LanT) (r : Bool) (h : lan_Right a0 = some r) : CallP Try.prog 76 [(LV.agg [(I a0.Segs), (LV.ro 2 (a0.Plans.map PlanT.cells)), (LV.ro 2 (a0.Hosts.map HostT.cells))])] (LV.bool r) := by
  unfold lan_Right at h
  refine .intro (by repeat' first | exact True.intro | assumption | refine ⟨?_, ?_⟩) (.intro TT_ok Try.func76 rfl rfl [0, 1, 2, 3, 4, 6, 8, 9, 10, 26, 30, 31, 32, 33, 52, 55, 56, 57, 58, 93] rfl ?_)
  conv => whnf
  replace h := bindS h
  obtain ⟨y5, hy5, h⟩ := h
  have c6 := c_lan_in a0.Segs 1 8 _ hy5
  repeat' first | with_reducible rfl | with_reducible exact True.intro | with_reducible assumption | refine parkI ?_ | (refine CallP.use c6 ?_; conv => whnf) | exact (congrArg Bool.not h) | exact fun _ => True.intro | (refine And.intro ?_ ?_ <;> conv => whnf) | (intro h; (conv => whnf) <;> first | with_reducible rfl | assumption | exact h | exact (congrArg Bool.not h) | (refine ⟨h, True.intro⟩) | (refine ⟨congrArg Bool.not h, True.intro⟩) | (refine ⟨by assumption, True.intro⟩)) | (intro h; exact (Bool.false_ne_true (h.symm.trans (by assumption))).elim) | (intros; simp_all; done) | (refine gand ?_ h; assumption) | fail
  refine parkE (fun hc => ?_) (fun hc => ?_)
  · replace h := condT (by first | exact hc | simpa only [se_len, se_ch, List.length_map] using hc) h
    conv => whnf
    have e := Option.some.inj h
    subst e
    repeat' first | with_reducible rfl | with_reducible exact True.intro | with_reducible assumption | exact (congrArg Bool.not h) | exact fun _ => True.intro | exact (rfl : (_ : Nat) = _) | exact (rfl : (_ : LV) = _) | exact NLss_map' _ | refine NLss_app ?_ ?_ | refine NLss_set ?_ ?_ | (refine And.intro ?_ ?_ <;> conv => whnf) | (intro h; (conv => whnf) <;> first | with_reducible rfl | assumption | exact h | exact (congrArg Bool.not h) | (refine ⟨h, True.intro⟩) | (refine ⟨congrArg Bool.not h, True.intro⟩) | (refine ⟨by assumption, True.intro⟩)) | (intro h; exact (Bool.false_ne_true (h.symm.trans (by assumption))).elim) | (intros; simp_all; done) | (refine gand ?_ h; assumption) | (simp only [se_map, se_byL]; exact rfl) | (simp only [se_map, se_byL, se_len, se_ch, List.length_map]; done) | fail
  · replace h := condF (by first | exact hc | simpa only [se_len, se_ch, List.length_map] using hc) h
    conv => whnf
    repeat' first | with_reducible rfl | with_reducible exact True.intro | with_reducible assumption | refine parkI ?_ | (refine And.intro ?_ ?_ <;> conv => whnf) | fail
    replace h := aftS h
    obtain ⟨O2, hO2, r2⟩ := h
    refine LoopW.norm [(1, (LV.ptr 0 0 0)), (3, (LV.map 1)), (4, (LV.map 2)), (30, (LV.ro 2 (a0.Plans.map PlanT.cells))), (31, (I (((a0.Plans.map PlanT.cells).length : Nat) : Int))), (32, (I ((0 : Nat) : Int)))] 3 [(0, (.row 47 3 [[(I a0.Segs), (LV.ro 2 (a0.Plans.map PlanT.cells)), (LV.ro 2 (a0.Hosts.map HostT.cells))]])), (1, (.mp (([] : List (Int × Int)).map (mpC I I)))), (2, (.mp ([] : List (LV × LV))))] ⟨rfl, rfl, rfl, rfl, rfl, rfl, trivial⟩ ⟨⟨rfl, rfl, (by repeat' first | exact True.intro | exact rfl | exact NLs_bels (by assumption) | refine ⟨?_, ?_⟩)⟩, ⟨⟨(congrArg (fun q => some (Blk.mp q)) (by simp only [se_mp] : (([] : List (LV × LV)) : List (LV × LV)) = (([] : List (Int × Int)).map (mpC I I)))), rfl, bel_mp (f := I) (g := I) (fun _ => by repeat' first | exact True.intro | refine ⟨?_, ?_⟩) (fun _ => by repeat' first | exact True.intro | refine ⟨?_, ?_⟩) _ _⟩, ⟨⟨rfl, rfl, (by intro p hp; cases hp)⟩, trivial⟩⟩⟩ (by repeat' first | exact True.intro | exact rfl | exact NLs_bels (by assumption) | refine ⟨?_, ?_⟩) rfl ?_
    refine LoopW.forR (fun k2 s2 => [(1, (LV.ptr 0 0 0)), (3, (LV.map 1)), (4, (LV.map 2)), (30, (LV.ro 2 (a0.Plans.map PlanT.cells))), (31, (I (((a0.Plans.map PlanT.cells).length : Nat) : Int))), (32, (I ((k2 : Nat) : Int)))]) (fun s2 => ⟨3, [(0, (.row 47 3 [[(I a0.Segs), (LV.ro 2 (a0.Plans.map PlanT.cells)), (LV.ro 2 (a0.Hosts.map HostT.cells))]])), (1, (.mp (s2.map (mpC I I)))), (2, (.mp ([] : List (LV × LV))))]⟩) hO2 (fun hl2 s2 hs2 => ?_) (fun hl2 k2 x2 s2 o2 hk2 hx2 b2 K2 hret2 hbrk2 => ?_)
    · rw [hs2] at r2
      dsimp only [aftM] at r2
      have hd : decide (((a0.Plans.length : Nat) : Int) < (((a0.Plans.map PlanT.cells).length : Nat) : Int)) = false := by rw [decide_eq_false_iff_not]; (try simp only [se_len, se_ch, List.length_map]); omega
      refine LoopW.round TT_ok [0, 1, 2, 3, 4, 6, 8, 9, 10, 26, 30, 31, 32, 33, 52, 55, 56, 57, 58, 93] ?_
      conv => whnf
      repeat' first | with_reducible rfl | with_reducible exact True.intro | with_reducible assumption | refine parkI ?_ | (refine And.intro ?_ ?_ <;> conv => whnf) | fail
      refine parkE (fun hc => ?_) (fun hc => ?_)
      · exact (Bool.false_ne_true (hd.symm.trans hc)).elim
      · clear hd
        conv => whnf
        repeat' first | with_reducible rfl | with_reducible exact True.intro | with_reducible assumption | refine parkI ?_ | (refine And.intro ?_ ?_ <;> conv => whnf) | fail
        replace r2 := aftS r2
        obtain ⟨O4, hO4, r4⟩ := r2
        refine LoopW.norm [(1, (LV.ptr 0 0 0)), (4, (LV.map 2)), (55, (LV.ro 2 (a0.Hosts.map HostT.cells))), (56, (I (((a0.Hosts.map HostT.cells).length : Nat) : Int))), (57, (I ((0 : Nat) : Int)))] 3 [(0, (.row 47 3 [[(I a0.Segs), (LV.ro 2 (a0.Plans.map PlanT.cells)), (LV.ro 2 (a0.Hosts.map HostT.cells))]])), (2, (.mp (([] : List (Int × Int)).map (mpC I I))))] ⟨rfl, rfl, rfl, rfl, rfl, trivial⟩ ⟨⟨rfl, rfl, (by repeat' first | exact True.intro | exact rfl | exact NLs_bels (by assumption) | refine ⟨?_, ?_⟩)⟩, ⟨⟨(congrArg (fun q => some (Blk.mp q)) (by simp only [se_mp] : (([] : List (LV × LV)) : List (LV × LV)) = (([] : List (Int × Int)).map (mpC I I)))), rfl, bel_mp (f := I) (g := I) (fun _ => by repeat' first | exact True.intro | refine ⟨?_, ?_⟩) (fun _ => by repeat' first | exact True.intro | refine ⟨?_, ?_⟩) _ _⟩, trivial⟩⟩ (by repeat' first | exact True.intro | exact rfl | exact NLs_bels (by assumption) | refine ⟨?_, ?_⟩) rfl ?_
        refine LoopW.forR (fun k4 s4 => [(1, (LV.ptr 0 0 0)), (4, (LV.map 2)), (55, (LV.ro 2 (a0.Hosts.map HostT.cells))), (56, (I (((a0.Hosts.map HostT.cells).length : Nat) : Int))), (57, (I ((k4 : Nat) : Int)))]) (fun s4 => ⟨3, [(0, (.row 47 3 [[(I a0.Segs), (LV.ro 2 (a0.Plans.map PlanT.cells)), (LV.ro 2 (a0.Hosts.map HostT.cells))]])), (2, (.mp (s4.map (mpC I I))))]⟩) hO4 (fun hl4 s4 hs4 => ?_) (fun hl4 k4 x4 s4 o4 hk4 hx4 b4 K4 hret4 hbrk4 => ?_)
        · rw [hs4] at r4
          dsimp only [aftM] at r4
          have hd : decide (((a0.Hosts.length : Nat) : Int) < (((a0.Hosts.map HostT.cells).length : Nat) : Int)) = false := by rw [decide_eq_false_iff_not]; (try simp only [se_len, se_ch, List.length_map]); omega
          refine LoopW.round TT_ok [0, 1, 2, 3, 4, 6, 8, 9, 10, 26, 30, 31, 32, 33, 52, 55, 56, 57, 58, 93] ?_
          conv => whnf
          repeat' first | with_reducible rfl | with_reducible exact True.intro | with_reducible assumption | refine parkI ?_ | (refine And.intro ?_ ?_ <;> conv => whnf) | fail
          refine parkE (fun hc => ?_) (fun hc => ?_)
          · exact (Bool.false_ne_true (hd.symm.trans hc)).elim
          · clear hd
            conv => whnf
            have e := Option.some.inj r4
            subst e
            repeat' first | with_reducible rfl | with_reducible exact True.intro | with_reducible assumption | exact (congrArg Bool.not h) | exact fun _ => True.intro | exact (rfl : (_ : Nat) = _) | exact (rfl : (_ : LV) = _) | exact NLss_map' _ | refine NLss_app ?_ ?_ | refine NLss_set ?_ ?_ | (refine And.intro ?_ ?_ <;> conv => whnf) | (intro h; (conv => whnf) <;> first | with_reducible rfl | assumption | exact h | exact (congrArg Bool.not h) | (refine ⟨h, True.intro⟩) | (refine ⟨congrArg Bool.not h, True.intro⟩) | (refine ⟨by assumption, True.intro⟩)) | (intro h; exact (Bool.false_ne_true (h.symm.trans (by assumption))).elim) | (intros; simp_all; done) | (refine gand ?_ h; assumption) | (simp only [se_map, se_byL]; exact rfl) | (simp only [se_map, se_byL, se_len, se_ch, List.length_map]; done) | fail
        · unfold lan_Right_b4 at b4
          have hd : decide (((k4 : Nat) : Int) < (((a0.Hosts.map HostT.cells).length : Nat) : Int)) = true := by rw [decide_eq_true_eq]; (try simp only [se_len, se_ch, List.length_map] at hk4); (try simp only [se_len, se_ch, List.length_map]); omega
          refine LoopW.round TT_ok [0, 1, 2, 3, 4, 6, 8, 9, 10, 26, 30, 31, 32, 33, 52, 55, 56, 57, 58, 93] ?_
          conv => whnf
          repeat' first | with_reducible rfl | with_reducible exact True.intro | with_reducible assumption | refine parkI ?_ | (refine And.intro ?_ ?_ <;> conv => whnf) | fail
          refine parkE (fun hc => ?_) (fun hc => ?_)
          · clear hd
            conv => whnf
            replace b4 := bindS b4
            obtain ⟨y12, hy12, b4⟩ := b4
            have c13 := c_mac_Class x4.Mac _ hy12
            rcases m3_ : mfind s4 x4.Mac with _ | ⟨w3_, u3_⟩
            · try simp only [mget_none m3_, mput_none m3_, mhas_none m3_, mget_mput] at b4
              have f14 : Finds TT 3 ((s4.map (mpC I I)) ++ [((I x4.Mac), (I (IntKind.i64.wrap (0 + 1))))]) (I x4.Mac) (some (s4.length, (I (IntKind.i64.wrap (0 + 1))))) := by simpa only [se_mp] using finds_some (f := I) (g := I) ke_3 (mfind_app m3_ (IntKind.i64.wrap (0 + 1)))
              replace b4 := bindS b4
              obtain ⟨y15, hy15, b4⟩ := b4
              have c16 := fun (hg : (!(bif (bif (decide (1 < (IntKind.i64.wrap (0 + 1)))) then true else (!decide (y12.2 = 0))) then true else (!decide (y12.1 = 0)))) = true) => c_lan_in x4.Seg 0 (IntKind.i64.wrap (a0.Segs - 1)) _ (gdS hg hy15)
              repeat' first | with_reducible rfl | with_reducible exact True.intro | with_reducible assumption | refine parkI ?_ | (refine ⟨_, (kixF (f := HostT.cells) hx4), ?_⟩; conv => whnf) | (refine ⟨_, (finds_none (g := I) ke_3 m3_), ?_⟩; conv => whnf) | (refine ⟨_, f14, ?_⟩; conv => whnf) | (refine ⟨_, c16, ?_⟩; conv => whnf) | (refine CallP.use c13 ?_; conv => whnf) | exact (congrArg Bool.not h) | exact fun _ => True.intro | (refine And.intro ?_ ?_ <;> conv => whnf) | (intro h; (conv => whnf) <;> first | with_reducible rfl | assumption | exact h | exact (congrArg Bool.not h) | (refine ⟨h, True.intro⟩) | (refine ⟨congrArg Bool.not h, True.intro⟩) | (refine ⟨by assumption, True.intro⟩)) | (intro h; exact (Bool.false_ne_true (h.symm.trans (by assumption))).elim) | (intros; simp_all; done) | (refine gand ?_ h; assumption) | fail
              refine parkE (fun hc => ?_) (fun hc => ?_)
              · replace b4 := condT hc b4
                conv => whnf
                have e := Option.some.inj b4
                replace e := hret4 _ e.symm
                rw [e] at r4
                replace e := Option.some.inj r4
                subst e
                repeat' first | with_reducible rfl | with_reducible exact True.intro | with_reducible assumption | exact (congrArg Bool.not h) | exact fun _ => True.intro | exact (rfl : (_ : Nat) = _) | exact (rfl : (_ : LV) = _) | exact NLss_map' _ | refine NLss_app ?_ ?_ | refine NLss_set ?_ ?_ | (refine And.intro ?_ ?_ <;> conv => whnf) | (intro h; (conv => whnf) <;> first | with_reducible rfl | assumption | exact h | exact (congrArg Bool.not h) | (refine ⟨h, True.intro⟩) | (refine ⟨congrArg Bool.not h, True.intro⟩) | (refine ⟨by assumption, True.intro⟩)) | (intro h; exact (Bool.false_ne_true (h.symm.trans (by assumption))).elim) | (intros; simp_all; done) | (refine gand ?_ h; assumption) | (simp only [se_map, se_byL]; exact rfl) | (simp only [se_map, se_byL, se_len, se_ch, List.length_map]; done) | fail
              · replace b4 := condF hc b4
                conv => whnf
                repeat' first | with_reducible rfl | with_reducible exact True.intro | with_reducible assumption | refine parkI ?_ | (refine And.intro ?_ ?_ <;> conv => whnf) | fail
                have e := Option.some.inj b4
                refine LoopW.norm [(1, (LV.ptr 0 0 0)), (4, (LV.map 2)), (55, (LV.ro 2 (a0.Hosts.map HostT.cells))), (56, (I (((a0.Hosts.map HostT.cells).length : Nat) : Int))), (57, (I ((k4 + 1 : Nat) : Int)))] 3 [(0, (.row 47 3 [[(I a0.Segs), (LV.ro 2 (a0.Plans.map PlanT.cells)), (LV.ro 2 (a0.Hosts.map HostT.cells))]])), (2, (.mp ((s4 ++ [(x4.Mac, (IntKind.i64.wrap (0 + 1)))]).map (mpC I I))))] ⟨rfl, rfl, rfl, rfl, (congrArg (LV.int .i64) (w64_nat _ (by omega))), trivial⟩ ⟨⟨rfl, rfl, (by repeat' first | exact True.intro | exact rfl | exact NLs_bels (by assumption) | refine ⟨?_, ?_⟩)⟩, ⟨⟨(congrArg (fun q => some (Blk.mp q)) (by simp only [se_mp] : (((s4.map (mpC I I)) ++ [((I x4.Mac), (I (IntKind.i64.wrap (0 + 1))))]) : List (LV × LV)) = ((s4 ++ [(x4.Mac, (IntKind.i64.wrap (0 + 1)))]).map (mpC I I)))), rfl, bel_mp (f := I) (g := I) (fun _ => by repeat' first | exact True.intro | refine ⟨?_, ?_⟩) (fun _ => by repeat' first | exact True.intro | refine ⟨?_, ?_⟩) _ _⟩, trivial⟩⟩ (by repeat' first | exact True.intro | exact rfl | exact NLs_bels (by assumption) | refine ⟨?_, ?_⟩) rfl (K4 _ e.symm)
            · try simp only [mget_some m3_, mput_some m3_, mhas_some m3_, mget_mput] at b4
              have f14 : Finds TT 3 (setN (s4.map (mpC I I)) w3_ ((I x4.Mac), (I (IntKind.i64.wrap (u3_ + 1))))) (I x4.Mac) (some (w3_, (I (IntKind.i64.wrap (u3_ + 1))))) := by simpa only [se_mp] using finds_some (f := I) (g := I) ke_3 (mfind_set m3_ (IntKind.i64.wrap (u3_ + 1)))
              replace b4 := bindS b4
              obtain ⟨y15, hy15, b4⟩ := b4
              have c16 := fun (hg : (!(bif (bif (decide (1 < (IntKind.i64.wrap (u3_ + 1)))) then true else (!decide (y12.2 = 0))) then true else (!decide (y12.1 = 0)))) = true) => c_lan_in x4.Seg 0 (IntKind.i64.wrap (a0.Segs - 1)) _ (gdS hg hy15)
              repeat' first | with_reducible rfl | with_reducible exact True.intro | with_reducible assumption | refine parkI ?_ | (refine ⟨_, (kixF (f := HostT.cells) hx4), ?_⟩; conv => whnf) | (refine ⟨_, (finds_some (g := I) ke_3 m3_), ?_⟩; conv => whnf) | (refine ⟨_, f14, ?_⟩; conv => whnf) | (refine ⟨_, c16, ?_⟩; conv => whnf) | (refine CallP.use c13 ?_; conv => whnf) | exact (congrArg Bool.not h) | exact fun _ => True.intro | (refine And.intro ?_ ?_ <;> conv => whnf) | (intro h; (conv => whnf) <;> first | with_reducible rfl | assumption | exact h | exact (congrArg Bool.not h) | (refine ⟨h, True.intro⟩) | (refine ⟨congrArg Bool.not h, True.intro⟩) | (refine ⟨by assumption, True.intro⟩)) | (intro h; exact (Bool.false_ne_true (h.symm.trans (by assumption))).elim) | (intros; simp_all; done) | (refine gand ?_ h; assumption) | fail
              refine parkE (fun hc => ?_) (fun hc => ?_)
              · replace b4 := condT hc b4
                conv => whnf
                have e := Option.some.inj b4
                replace e := hret4 _ e.symm
                rw [e] at r4
                replace e := Option.some.inj r4
                subst e
                repeat' first | with_reducible rfl | with_reducible exact True.intro | with_reducible assumption | exact (congrArg Bool.not h) | exact fun _ => True.intro | exact (rfl : (_ : Nat) = _) | exact (rfl : (_ : LV) = _) | exact NLss_map' _ | refine NLss_app ?_ ?_ | refine NLss_set ?_ ?_ | (refine And.intro ?_ ?_ <;> conv => whnf) | (intro h; (conv => whnf) <;> first | with_reducible rfl | assumption | exact h | exact (congrArg Bool.not h) | (refine ⟨h, True.intro⟩) | (refine ⟨congrArg Bool.not h, True.intro⟩) | (refine ⟨by assumption, True.intro⟩)) | (intro h; exact (Bool.false_ne_true (h.symm.trans (by assumption))).elim) | (intros; simp_all; done) | (refine gand ?_ h; assumption) | (simp only [se_map, se_byL]; exact rfl) | (simp only [se_map, se_byL, se_len, se_ch, List.length_map]; done) | fail
              · replace b4 := condF hc b4
                conv => whnf
                repeat' first | with_reducible rfl | with_reducible exact True.intro | with_reducible assumption | refine parkI ?_ | (refine And.intro ?_ ?_ <;> conv => whnf) | fail
                have e := Option.some.inj b4
                refine LoopW.norm [(1, (LV.ptr 0 0 0)), (4, (LV.map 2)), (55, (LV.ro 2 (a0.Hosts.map HostT.cells))), (56, (I (((a0.Hosts.map HostT.cells).length : Nat) : Int))), (57, (I ((k4 + 1 : Nat) : Int)))] 3 [(0, (.row 47 3 [[(I a0.Segs), (LV.ro 2 (a0.Plans.map PlanT.cells)), (LV.ro 2 (a0.Hosts.map HostT.cells))]])), (2, (.mp ((s4.set w3_ (x4.Mac, (IntKind.i64.wrap (u3_ + 1)))).map (mpC I I))))] ⟨rfl, rfl, rfl, rfl, (congrArg (LV.int .i64) (w64_nat _ (by omega))), trivial⟩ ⟨⟨rfl, rfl, (by repeat' first | exact True.intro | exact rfl | exact NLs_bels (by assumption) | refine ⟨?_, ?_⟩)⟩, ⟨⟨(congrArg (fun q => some (Blk.mp q)) (by simp only [se_mp] : ((setN (s4.map (mpC I I)) w3_ ((I x4.Mac), (I (IntKind.i64.wrap (u3_ + 1))))) : List (LV × LV)) = ((s4.set w3_ (x4.Mac, (IntKind.i64.wrap (u3_ + 1)))).map (mpC I I)))), rfl, bel_mp (f := I) (g := I) (fun _ => by repeat' first | exact True.intro | refine ⟨?_, ?_⟩) (fun _ => by repeat' first | exact True.intro | refine ⟨?_, ?_⟩) _ _⟩, trivial⟩⟩ (by repeat' first | exact True.intro | exact rfl | exact NLs_bels (by assumption) | refine ⟨?_, ?_⟩) rfl (K4 _ e.symm)
          · exact (Bool.false_ne_true (hc.symm.trans hd)).elim
    · unfold lan_Right_b2 at b2
      have hd : decide (((k2 : Nat) : Int) < (((a0.Plans.map PlanT.cells).length : Nat) : Int)) = true := by rw [decide_eq_true_eq]; (try simp only [se_len, se_ch, List.length_map] at hk2); (try simp only [se_len, se_ch, List.length_map]); omega
      refine LoopW.round TT_ok [0, 1, 2, 3, 4, 6, 8, 9, 10, 26, 30, 31, 32, 33, 52, 55, 56, 57, 58, 93] ?_
      conv => whnf
      repeat' first | with_reducible rfl | with_reducible exact True.intro | with_reducible assumption | refine parkI ?_ | (refine And.intro ?_ ?_ <;> conv => whnf) | fail
      refine parkE (fun hc => ?_) (fun hc => ?_)
      · clear hd
        conv => whnf
        rcases m2_ : mfind s2 x2.ID with _ | ⟨w2_, u2_⟩
        · try simp only [mget_none m2_, mput_none m2_, mhas_none m2_, mget_mput] at b2
          have f7 : Finds TT 3 ((s2.map (mpC I I)) ++ [((I x2.ID), (I (IntKind.i64.wrap (0 + 1))))]) (I x2.ID) (some (s2.length, (I (IntKind.i64.wrap (0 + 1))))) := by simpa only [se_mp] using finds_some (f := I) (g := I) ke_3 (mfind_app m2_ (IntKind.i64.wrap (0 + 1)))
          replace b2 := bindS b2
          obtain ⟨y8, hy8, b2⟩ := b2
          have c9 := fun (hg : (!(decide (1 < (IntKind.i64.wrap (0 + 1))))) = true) => c_lan_isPlan x2 a0.Segs _ (gdS hg hy8)
          repeat' first | with_reducible rfl | with_reducible exact True.intro | with_reducible assumption | refine parkI ?_ | (refine ⟨_, (kixF (f := PlanT.cells) hx2), ?_⟩; conv => whnf) | (refine ⟨_, (finds_none (g := I) ke_3 m2_), ?_⟩; conv => whnf) | (refine ⟨_, f7, ?_⟩; conv => whnf) | (refine ⟨_, c9, ?_⟩; conv => whnf) | exact (congrArg Bool.not h) | exact fun _ => True.intro | (refine And.intro ?_ ?_ <;> conv => whnf) | (intro h; (conv => whnf) <;> first | with_reducible rfl | assumption | exact h | exact (congrArg Bool.not h) | (refine ⟨h, True.intro⟩) | (refine ⟨congrArg Bool.not h, True.intro⟩) | (refine ⟨by assumption, True.intro⟩)) | (intro h; exact (Bool.false_ne_true (h.symm.trans (by assumption))).elim) | (intros; simp_all; done) | (refine gand ?_ h; assumption) | fail
          refine parkE (fun hc => ?_) (fun hc => ?_)
          · replace b2 := condT hc b2
            conv => whnf
            have e := Option.some.inj b2
            replace e := hret2 _ e.symm
            rw [e] at r2
            replace e := Option.some.inj r2
            subst e
            repeat' first | with_reducible rfl | with_reducible exact True.intro | with_reducible assumption | exact (congrArg Bool.not h) | exact fun _ => True.intro | exact (rfl : (_ : Nat) = _) | exact (rfl : (_ : LV) = _) | exact NLss_map' _ | refine NLss_app ?_ ?_ | refine NLss_set ?_ ?_ | (refine And.intro ?_ ?_ <;> conv => whnf) | (intro h; (conv => whnf) <;> first | with_reducible rfl | assumption | exact h | exact (congrArg Bool.not h) | (refine ⟨h, True.intro⟩) | (refine ⟨congrArg Bool.not h, True.intro⟩) | (refine ⟨by assumption, True.intro⟩)) | (intro h; exact (Bool.false_ne_true (h.symm.trans (by assumption))).elim) | (intros; simp_all; done) | (refine gand ?_ h; assumption) | (simp only [se_map, se_byL]; exact rfl) | (simp only [se_map, se_byL, se_len, se_ch, List.length_map]; done) | fail
          · replace b2 := condF hc b2
            conv => whnf
            repeat' first | with_reducible rfl | with_reducible exact True.intro | with_reducible assumption | refine parkI ?_ | (refine And.intro ?_ ?_ <;> conv => whnf) | fail
            have e := Option.some.inj b2
            refine LoopW.norm [(1, (LV.ptr 0 0 0)), (3, (LV.map 1)), (4, (LV.map 2)), (30, (LV.ro 2 (a0.Plans.map PlanT.cells))), (31, (I (((a0.Plans.map PlanT.cells).length : Nat) : Int))), (32, (I ((k2 + 1 : Nat) : Int)))] 3 [(0, (.row 47 3 [[(I a0.Segs), (LV.ro 2 (a0.Plans.map PlanT.cells)), (LV.ro 2 (a0.Hosts.map HostT.cells))]])), (1, (.mp ((s2 ++ [(x2.ID, (IntKind.i64.wrap (0 + 1)))]).map (mpC I I)))), (2, (.mp ([] : List (LV × LV))))] ⟨rfl, rfl, rfl, rfl, rfl, (congrArg (LV.int .i64) (w64_nat _ (by omega))), trivial⟩ ⟨⟨rfl, rfl, (by repeat' first | exact True.intro | exact rfl | exact NLs_bels (by assumption) | refine ⟨?_, ?_⟩)⟩, ⟨⟨(congrArg (fun q => some (Blk.mp q)) (by simp only [se_mp] : (((s2.map (mpC I I)) ++ [((I x2.ID), (I (IntKind.i64.wrap (0 + 1))))]) : List (LV × LV)) = ((s2 ++ [(x2.ID, (IntKind.i64.wrap (0 + 1)))]).map (mpC I I)))), rfl, bel_mp (f := I) (g := I) (fun _ => by repeat' first | exact True.intro | refine ⟨?_, ?_⟩) (fun _ => by repeat' first | exact True.intro | refine ⟨?_, ?_⟩) _ _⟩, ⟨⟨rfl, rfl, (by intro p hp; cases hp)⟩, trivial⟩⟩⟩ (by repeat' first | exact True.intro | exact rfl | exact NLs_bels (by assumption) | refine ⟨?_, ?_⟩) rfl (K2 _ e.symm)
        · try simp only [mget_some m2_, mput_some m2_, mhas_some m2_, mget_mput] at b2
          have f7 : Finds TT 3 (setN (s2.map (mpC I I)) w2_ ((I x2.ID), (I (IntKind.i64.wrap (u2_ + 1))))) (I x2.ID) (some (w2_, (I (IntKind.i64.wrap (u2_ + 1))))) := by simpa only [se_mp] using finds_some (f := I) (g := I) ke_3 (mfind_set m2_ (IntKind.i64.wrap (u2_ + 1)))
          replace b2 := bindS b2
          obtain ⟨y8, hy8, b2⟩ := b2
          have c9 := fun (hg : (!(decide (1 < (IntKind.i64.wrap (u2_ + 1))))) = true) => c_lan_isPlan x2 a0.Segs _ (gdS hg hy8)
          repeat' first | with_reducible rfl | with_reducible exact True.intro | with_reducible assumption | refine parkI ?_ | (refine ⟨_, (kixF (f := PlanT.cells) hx2), ?_⟩; conv => whnf) | (refine ⟨_, (finds_some (g := I) ke_3 m2_), ?_⟩; conv => whnf) | (refine ⟨_, f7, ?_⟩; conv => whnf) | (refine ⟨_, c9, ?_⟩; conv => whnf) | exact (congrArg Bool.not h) | exact fun _ => True.intro | (refine And.intro ?_ ?_ <;> conv => whnf) | (intro h; (conv => whnf) <;> first | with_reducible rfl | assumption | exact h | exact (congrArg Bool.not h) | (refine ⟨h, True.intro⟩) | (refine ⟨congrArg Bool.not h, True.intro⟩) | (refine ⟨by assumption, True.intro⟩)) | (intro h; exact (Bool.false_ne_true (h.symm.trans (by assumption))).elim) | (intros; simp_all; done) | (refine gand ?_ h; assumption) | fail
          refine parkE (fun hc => ?_) (fun hc => ?_)
          · replace b2 := condT hc b2
            conv => whnf
            have e := Option.some.inj b2
            replace e := hret2 _ e.symm
            rw [e] at r2
            replace e := Option.some.inj r2
            subst e
            repeat' first | with_reducible rfl | with_reducible exact True.intro | with_reducible assumption | exact (congrArg Bool.not h) | exact fun _ => True.intro | exact (rfl : (_ : Nat) = _) | exact (rfl : (_ : LV) = _) | exact NLss_map' _ | refine NLss_app ?_ ?_ | refine NLss_set ?_ ?_ | (refine And.intro ?_ ?_ <;> conv => whnf) | (intro h; (conv => whnf) <;> first | with_reducible rfl | assumption | exact h | exact (congrArg Bool.not h) | (refine ⟨h, True.intro⟩) | (refine ⟨congrArg Bool.not h, True.intro⟩) | (refine ⟨by assumption, True.intro⟩)) | (intro h; exact (Bool.false_ne_true (h.symm.trans (by assumption))).elim) | (intros; simp_all; done) | (refine gand ?_ h; assumption) | (simp only [se_map, se_byL]; exact rfl) | (simp only [se_map, se_byL, se_len, se_ch, List.length_map]; done) | fail
          · replace b2 := condF hc b2
            conv => whnf
            repeat' first | with_reducible rfl | with_reducible exact True.intro | with_reducible assumption | refine parkI ?_ | (refine And.intro ?_ ?_ <;> conv => whnf) | fail
            have e := Option.some.inj b2
            refine LoopW.norm [(1, (LV.ptr 0 0 0)), (3, (LV.map 1)), (4, (LV.map 2)), (30, (LV.ro 2 (a0.Plans.map PlanT.cells))), (31, (I (((a0.Plans.map PlanT.cells).length : Nat) : Int))), (32, (I ((k2 + 1 : Nat) : Int)))] 3 [(0, (.row 47 3 [[(I a0.Segs), (LV.ro 2 (a0.Plans.map PlanT.cells)), (LV.ro 2 (a0.Hosts.map HostT.cells))]])), (1, (.mp ((s2.set w2_ (x2.ID, (IntKind.i64.wrap (u2_ + 1)))).map (mpC I I)))), (2, (.mp ([] : List (LV × LV))))] ⟨rfl, rfl, rfl, rfl, rfl, (congrArg (LV.int .i64) (w64_nat _ (by omega))), trivial⟩ ⟨⟨rfl, rfl, (by repeat' first | exact True.intro | exact rfl | exact NLs_bels (by assumption) | refine ⟨?_, ?_⟩)⟩, ⟨⟨(congrArg (fun q => some (Blk.mp q)) (by simp only [se_mp] : ((setN (s2.map (mpC I I)) w2_ ((I x2.ID), (I (IntKind.i64.wrap (u2_ + 1))))) : List (LV × LV)) = ((s2.set w2_ (x2.ID, (IntKind.i64.wrap (u2_ + 1)))).map (mpC I I)))), rfl, bel_mp (f := I) (g := I) (fun _ => by repeat' first | exact True.intro | refine ⟨?_, ?_⟩) (fun _ => by repeat' first | exact True.intro | refine ⟨?_, ?_⟩) _ _⟩, ⟨⟨rfl, rfl, (by intro p hp; cases hp)⟩, trivial⟩⟩⟩ (by repeat' first | exact True.intro | exact rfl | exact NLs_bels (by assumption) | refine ⟨?_, ?_⟩) rfl (K2 _ e.symm)
      · exact (Bool.false_ne_true (hc.symm.trans hd)).elim

def slices_Index_int_b8 (a1 : Int) (k8 : Nat) (x8 : Int) (s8 : Unit) : Option (Step Int Unit) :=
  (bif (decide (a1 = x8)) then
    some (.ret ((k8 : Nat) : Int))
  else
    some (.nxt ()))

def slices_Index_int (a0 : (List Int)) (a1 : Int) : Option Int :=
  aft (rangeL (slices_Index_int_b8 a1) a0 ()) fun s8 =>
  some (-1)

theorem c_slices_Index_int (a0 : (List Int)) (a1 : Int) (r : Int) (h : slices_Index_int a0 a1 = some r) : CallP Try.prog 286 [(LV.ro 1 (a0.map iC)), (I a1)] (I r) := by
  unfold slices_Index_int at h
  refine .intro (by repeat' first | exact True.intro | assumption | refine ⟨?_, ?_⟩) (.intro TT_ok Try.func286 rfl rfl [0, 1, 4, 5, 7, 8, 9, 16] rfl ?_)
  conv => whnf
  repeat' first | with_reducible rfl | with_reducible exact True.intro | with_reducible assumption | refine parkI ?_ | (refine And.intro ?_ ?_ <;> conv => whnf) | fail
  replace h := aftS h
  obtain ⟨O8, hO8, r8⟩ := h
  refine LoopW.norm [(0, (LV.ro 1 (a0.map iC))), (1, (I a1)), (7, (I (((a0.map iC).length : Nat) : Int))), (8, (I ((0 : Nat) : Int)))] 0 [] ⟨rfl, rfl, rfl, rfl, trivial⟩ trivial (by repeat' first | exact True.intro | exact rfl | exact NLs_bels (by assumption) | refine ⟨?_, ?_⟩) rfl ?_
  refine LoopW.forR (fun k8 s8 => [(0, (LV.ro 1 (a0.map iC))), (1, (I a1)), (7, (I (((a0.map iC).length : Nat) : Int))), (8, (I ((k8 : Nat) : Int)))]) (fun s8 => ⟨0, []⟩) hO8 (fun hl8 s8 hs8 => ?_) (fun hl8 k8 x8 s8 o8 hk8 hx8 b8 K8 hret8 hbrk8 => ?_)
  · rw [hs8] at r8
    dsimp only [aftM] at r8
    have hd : decide (((a0.length : Nat) : Int) < (((a0.map iC).length : Nat) : Int)) = false := by rw [decide_eq_false_iff_not]; (try simp only [se_len, se_ch, List.length_map]); omega
    refine LoopW.round TT_ok [0, 1, 4, 5, 7, 8, 9, 16] ?_
    conv => whnf
    repeat' first | with_reducible rfl | with_reducible exact True.intro | with_reducible assumption | refine parkI ?_ | (refine And.intro ?_ ?_ <;> conv => whnf) | fail
    refine parkE (fun hc => ?_) (fun hc => ?_)
    · exact (Bool.false_ne_true (hd.symm.trans hc)).elim
    · clear hd
      conv => whnf
      have e := Option.some.inj r8
      subst e
      repeat' first | with_reducible rfl | with_reducible exact True.intro | with_reducible assumption | exact (congrArg Bool.not h) | exact fun _ => True.intro | exact (rfl : (_ : Nat) = _) | exact (rfl : (_ : LV) = _) | exact NLss_map' _ | refine NLss_app ?_ ?_ | refine NLss_set ?_ ?_ | (refine And.intro ?_ ?_ <;> conv => whnf) | (intro h; (conv => whnf) <;> first | with_reducible rfl | assumption | exact h | exact (congrArg Bool.not h) | (refine ⟨h, True.intro⟩) | (refine ⟨congrArg Bool.not h, True.intro⟩) | (refine ⟨by assumption, True.intro⟩)) | (intro h; exact (Bool.false_ne_true (h.symm.trans (by assumption))).elim) | (intros; simp_all; done) | (refine gand ?_ h; assumption) | (simp only [se_map, se_byL]; exact rfl) | (simp only [se_map, se_byL, se_len, se_ch, List.length_map]; done) | fail
  · unfold slices_Index_int_b8 at b8
    have hd : decide (((k8 : Nat) : Int) < (((a0.map iC).length : Nat) : Int)) = true := by rw [decide_eq_true_eq]; (try simp only [se_len, se_ch, List.length_map] at hk8); (try simp only [se_len, se_ch, List.length_map]); omega
    refine LoopW.round TT_ok [0, 1, 4, 5, 7, 8, 9, 16] ?_
    conv => whnf
    repeat' first | with_reducible rfl | with_reducible exact True.intro | with_reducible assumption | refine parkI ?_ | (refine And.intro ?_ ?_ <;> conv => whnf) | fail
    refine parkE (fun hc => ?_) (fun hc => ?_)
    · clear hd
      conv => whnf
      repeat' first | with_reducible rfl | with_reducible exact True.intro | with_reducible assumption | refine parkI ?_ | (refine ⟨_, (kixF (f := iC) hx8), ?_⟩; conv => whnf) | (refine And.intro ?_ ?_ <;> conv => whnf) | fail
      refine parkE (fun hc => ?_) (fun hc => ?_)
      · replace b8 := condT hc b8
        conv => whnf
        have e := Option.some.inj b8
        replace e := hret8 _ e.symm
        rw [e] at r8
        replace e := Option.some.inj r8
        subst e
        repeat' first | with_reducible rfl | with_reducible exact True.intro | with_reducible assumption | exact (congrArg Bool.not h) | exact fun _ => True.intro | exact (rfl : (_ : Nat) = _) | exact (rfl : (_ : LV) = _) | exact NLss_map' _ | refine NLss_app ?_ ?_ | refine NLss_set ?_ ?_ | (refine And.intro ?_ ?_ <;> conv => whnf) | (intro h; (conv => whnf) <;> first | with_reducible rfl | assumption | exact h | exact (congrArg Bool.not h) | (refine ⟨h, True.intro⟩) | (refine ⟨congrArg Bool.not h, True.intro⟩) | (refine ⟨by assumption, True.intro⟩)) | (intro h; exact (Bool.false_ne_true (h.symm.trans (by assumption))).elim) | (intros; simp_all; done) | (refine gand ?_ h; assumption) | (simp only [se_map, se_byL]; exact rfl) | (simp only [se_map, se_byL, se_len, se_ch, List.length_map]; done) | fail
      · replace b8 := condF hc b8
        conv => whnf
        repeat' first | with_reducible rfl | with_reducible exact True.intro | with_reducible assumption | refine parkI ?_ | (refine And.intro ?_ ?_ <;> conv => whnf) | fail
        have e := Option.some.inj b8
        refine LoopW.norm [(0, (LV.ro 1 (a0.map iC))), (1, (I a1)), (7, (I (((a0.map iC).length : Nat) : Int))), (8, (I ((k8 + 1 : Nat) : Int)))] 0 [] ⟨rfl, rfl, rfl, (congrArg (LV.int .i64) (w64_nat _ (by omega))), trivial⟩ trivial (by repeat' first | exact True.intro | exact rfl | exact NLs_bels (by assumption) | refine ⟨?_, ?_⟩) rfl (K8 _ e.symm)
    · exact (Bool.false_ne_true (hc.symm.trans hd)).elim

def slices_Contains_int (a0 : (List Int)) (a1 : Int) : Option Bool :=
  (slices_Index_int a0 a1).bind fun y19 =>
  some (decide (0 ≤ y19))

theorem c_slices_Contains_int (a0 : (List Int)) (a1 : Int) (r : Bool) (h : slices_Contains_int a0 a1 = some r) : CallP Try.prog 220 [(LV.ro 1 (a0.map iC)), (I a1)] (LV.bool r) := by
  unfold slices_Contains_int at h
  refine .intro (by repeat' first | exact True.intro | assumption | refine ⟨?_, ?_⟩) (.intro TT_ok Try.func220 rfl rfl [0, 1, 4] rfl ?_)
  conv => whnf
  replace h := bindS h
  obtain ⟨y19, hy19, h⟩ := h
  have c20 := c_slices_Index_int a0 a1 _ hy19
  have e := Option.some.inj h
  subst e
  repeat' first | with_reducible rfl | with_reducible exact True.intro | with_reducible assumption | (refine CallP.use c20 ?_; conv => whnf) | exact (congrArg Bool.not h) | exact fun _ => True.intro | exact (rfl : (_ : Nat) = _) | exact (rfl : (_ : LV) = _) | exact NLss_map' _ | refine NLss_app ?_ ?_ | refine NLss_set ?_ ?_ | (refine And.intro ?_ ?_ <;> conv => whnf) | (intro h; (conv => whnf) <;> first | with_reducible rfl | assumption | exact h | exact (congrArg Bool.not h) | (refine ⟨h, True.intro⟩) | (refine ⟨congrArg Bool.not h, True.intro⟩) | (refine ⟨by assumption, True.intro⟩)) | (intro h; exact (Bool.false_ne_true (h.symm.trans (by assumption))).elim) | (intros; simp_all; done) | (refine gand ?_ h; assumption) | (simp only [se_map, se_byL]; exact rfl) | (simp only [se_map, se_byL, se_len, se_ch, List.length_map]; done) | fail

def lan_part_1 (a0 : LinkT) (q1 : (List Int)) : Option Bool :=
  (gd a0.Up (slices_Contains_int q1 a0.Seg)).bind fun y21 =>
  some (bif a0.Up then y21 else false)

theorem c_lan_part_1 (a0 : LinkT) (q1 : (List Int)) (r : Bool) (h : lan_part_1 a0 q1 = some r) : CallP Try.prog 265 [(LV.agg [(I a0.Seg), (I a0.Cost), (LV.bool a0.Up)]), (LV.rptr [(LV.ro 1 (q1.map iC))])] (LV.bool r) := by
  unfold lan_part_1 at h
  refine .intro (by repeat' first | exact True.intro | assumption | refine ⟨?_, ?_⟩) (.intro TT_ok Try.func265 rfl rfl [0, 1, 2, 3] rfl ?_)
  conv => whnf
  replace h := bindS h
  obtain ⟨y21, hy21, h⟩ := h
  have c22 := fun (hg : a0.Up = true) => c_slices_Contains_int q1 a0.Seg _ (gdS hg hy21)
  have e := Option.some.inj h
  subst e
  repeat' first | with_reducible rfl | with_reducible exact True.intro | with_reducible assumption | (refine ⟨_, c22, ?_⟩; conv => whnf) | exact (congrArg Bool.not h) | exact fun _ => True.intro | exact (rfl : (_ : Nat) = _) | exact (rfl : (_ : LV) = _) | exact NLss_map' _ | refine NLss_app ?_ ?_ | refine NLss_set ?_ ?_ | (refine And.intro ?_ ?_ <;> conv => whnf) | (intro h; (conv => whnf) <;> first | with_reducible rfl | assumption | exact h | exact (congrArg Bool.not h) | (refine ⟨h, True.intro⟩) | (refine ⟨congrArg Bool.not h, True.intro⟩) | (refine ⟨by assumption, True.intro⟩)) | (intro h; exact (Bool.false_ne_true (h.symm.trans (by assumption))).elim) | (intros; simp_all; done) | (refine gand ?_ h; assumption) | (simp only [se_map, se_byL]; exact rfl) | (simp only [se_map, se_byL, se_len, se_ch, List.length_map]; done) | fail

def lan_part_b8  (k8 : Nat) (x8 : LinkT) (s8 : (List Int)) : Option (Step (Step (Step (List Int) (List Int)) (List Int)) (List Int)) :=
  (bif x8.Up then
    (slices_Contains_int s8 x8.Seg).bind fun y21 =>
    (bif (bif x8.Up then (!y21) else false) then
      grd (fits ((s8 ++ ([x8.Seg] : (List Int))) : List Int).length 8) <|
      some (.ret (.ret (.nxt (s8 ++ ([x8.Seg] : (List Int))))))
    else
      some (.nxt s8))
  else
    some (.nxt s8))

def lan_part_b7  (k7 : Nat) (x7 : PlanT) (s7 : (List Int)) : Option (Step (Step (List Int) (List Int)) (List Int)) :=
  (slices_ContainsFunc_Link x7.Ports (fun x0_ => lan_part_1 x0_ s7)).bind fun y19 =>
  (bif (!y19) then
    some (.nxt s7)
  else
    aft (rangeL (lan_part_b8 ) x7.Ports s7) fun s8 =>
    some (.nxt s8))

def lan_part_b6 (a0 : LanT) (s6 : (List Int)) : Option (Step (List Int) (List Int)) :=
  aft (rangeL (lan_part_b7 ) a0.Plans s6) fun s7 =>
  (slices_Sort_int s7).bind fun y21 =>
  some (.ret y21)

def lan_part (a0 : LanT) (a1 : Int) : Option (List Int) :=
  aft (loopF 1000000 (lan_part_b6 a0) ([a1] : (List Int))) fun s6 =>
  none

theorem cf_lan_part (a0 : LanT) (a1 : Int) (r : (List Int)) (h : lan_part a0 a1 = some r) : CallF Try.prog 195 [(LV.agg [(I a0.Segs), (LV.ro 2 (a0.Plans.map PlanT.cells)), (LV.ro 2 (a0.Hosts.map HostT.cells))]), (I a1)] 3 1 (r.map iC) := by
  unfold lan_part at h
  refine CallF.of (NLss_map' _) (CallW.intro TT_ok Try.func195 rfl rfl [0, 1, 2, 4, 5, 7, 8, 10, 11, 12, 13, 14, 15, 16, 17, 18, 19, 20, 21, 22, 23, 24, 25, 26, 27, 28, 29, 30, 31, 32, 33, 34, 35, 36, 37, 38, 39, 40, 41, 42, 43, 44, 45, 46, 47, 48, 49, 51, 1000220, 1000266, 1000267, 2000267] rfl ?_)
  conv => whnf
  repeat' first | with_reducible rfl | with_reducible exact True.intro | with_reducible assumption | refine parkI ?_ | (refine And.intro ?_ ?_ <;> conv => whnf) | fail
  replace h := aftS h
  obtain ⟨O6, hO6, r6⟩ := h
  refine LoopW.norm [(2, (LV.ptr 0 0 0)), (5, (LV.ptr 2 0 0))] 3 [(0, (.row 47 3 [[(I a0.Segs), (LV.ro 2 (a0.Plans.map PlanT.cells)), (LV.ro 2 (a0.Hosts.map HostT.cells))]])), (2, (.row 41 1 [[(LV.sl 1 0 (([a1] : (List Int)).map iC).length)]])), (1, (.row 3 1 (([a1] : (List Int)).map iC)))] ⟨rfl, rfl, trivial⟩ ⟨⟨rfl, rfl, (by repeat' first | exact True.intro | exact rfl | exact NLs_bels (by assumption) | refine ⟨?_, ?_⟩)⟩, ⟨⟨(congrArg (fun q => some (Blk.row 41 1 q)) (by simp only [se_map, se_byL, se_len, se_ch, List.length_map] : ([[(LV.sl 1 0 1)]] : List (List LV)) = [[(LV.sl 1 0 (([a1] : (List Int)).map iC).length)]])), rfl, (by repeat' first | exact True.intro | exact rfl | exact NLs_bels (by assumption) | refine ⟨?_, ?_⟩)⟩, ⟨⟨(congrArg (fun q => some (Blk.row 3 1 q)) (by simp only [se_map, se_byL, se_len, se_ch, List.length_map] : ([[(I a1)]] : List (List LV)) = (([a1] : (List Int)).map iC))), rfl, NLss_bel (NLss_map' _)⟩, trivial⟩⟩⟩ (by repeat' first | exact True.intro | exact rfl | exact NLs_bels (by assumption) | refine ⟨?_, ?_⟩) rfl ?_
  refine LoopW.forF (fun s6 => [(2, (LV.ptr 0 0 0)), (5, (LV.ptr 2 0 0))]) (fun s6 => ⟨3, [(0, (.row 47 3 [[(I a0.Segs), (LV.ro 2 (a0.Plans.map PlanT.cells)), (LV.ro 2 (a0.Hosts.map HostT.cells))]])), (2, (.row 41 1 [[(LV.sl 1 0 (s6.map iC).length)]])), (1, (.row 3 1 (s6.map iC)))]⟩) hO6 (fun s6 o6 b6 K6 hret6 hbrk6 => ?_)
  unfold lan_part_b6 at b6
  refine LoopW.round TT_ok [0, 1, 2, 4, 5, 7, 8, 10, 11, 12, 13, 14, 15, 16, 17, 18, 19, 20, 21, 22, 23, 24, 25, 26, 27, 28, 29, 30, 31, 32, 33, 34, 35, 36, 37, 38, 39, 40, 41, 42, 43, 44, 45, 46, 47, 48, 49, 51, 1000220, 1000266, 1000267, 2000267] ?_
  conv => whnf
  repeat' first | with_reducible rfl | with_reducible exact True.intro | with_reducible assumption | refine parkI ?_ | (refine And.intro ?_ ?_ <;> conv => whnf) | fail
  replace b6 := aftS b6
  obtain ⟨O7, hO7, r7⟩ := b6
  refine LoopW.norm [(2, (LV.ptr 0 0 0)), (5, (LV.ptr 2 0 0)), (14, (LV.ro 2 (a0.Plans.map PlanT.cells))), (15, (I (((a0.Plans.map PlanT.cells).length : Nat) : Int))), (16, (I ((0 : Nat) : Int)))] 3 [(0, (.row 47 3 [[(I a0.Segs), (LV.ro 2 (a0.Plans.map PlanT.cells)), (LV.ro 2 (a0.Hosts.map HostT.cells))]])), (2, (.row 41 1 [[(LV.sl 1 0 (s6.map iC).length)]])), (1, (.row 3 1 (s6.map iC)))] ⟨rfl, rfl, rfl, rfl, rfl, trivial⟩ ⟨⟨rfl, rfl, (by repeat' first | exact True.intro | exact rfl | exact NLs_bels (by assumption) | refine ⟨?_, ?_⟩)⟩, ⟨⟨rfl, rfl, (by repeat' first | exact True.intro | exact rfl | exact NLs_bels (by assumption) | refine ⟨?_, ?_⟩)⟩, ⟨⟨rfl, rfl, NLss_bel (NLss_map' _)⟩, trivial⟩⟩⟩ (by repeat' first | exact True.intro | exact rfl | exact NLs_bels (by assumption) | refine ⟨?_, ?_⟩) rfl ?_
  refine LoopW.forR (fun k7 s7 => [(2, (LV.ptr 0 0 0)), (5, (LV.ptr 2 0 0)), (14, (LV.ro 2 (a0.Plans.map PlanT.cells))), (15, (I (((a0.Plans.map PlanT.cells).length : Nat) : Int))), (16, (I ((k7 : Nat) : Int)))]) (fun s7 => ⟨3, [(0, (.row 47 3 [[(I a0.Segs), (LV.ro 2 (a0.Plans.map PlanT.cells)), (LV.ro 2 (a0.Hosts.map HostT.cells))]])), (2, (.row 41 1 [[(LV.sl 1 0 (s7.map iC).length)]])), (1, (.row 3 1 (s7.map iC)))]⟩) hO7 (fun hl7 s7 hs7 => ?_) (fun hl7 k7 x7 s7 o7 hk7 hx7 b7 K7 hret7 hbrk7 => ?_)
  · rw [hs7] at r7
    dsimp only [aftM] at r7
    have hd : decide (((a0.Plans.length : Nat) : Int) < (((a0.Plans.map PlanT.cells).length : Nat) : Int)) = false := by rw [decide_eq_false_iff_not]; (try simp only [se_len, se_ch, List.length_map]); omega
    refine LoopW.round TT_ok [0, 1, 2, 4, 5, 7, 8, 10, 11, 12, 13, 14, 15, 16, 17, 18, 19, 20, 21, 22, 23, 24, 25, 26, 27, 28, 29, 30, 31, 32, 33, 34, 35, 36, 37, 38, 39, 40, 41, 42, 43, 44, 45, 46, 47, 48, 49, 51, 1000220, 1000266, 1000267, 2000267] ?_
    conv => whnf
    repeat' first | with_reducible rfl | with_reducible exact True.intro | with_reducible assumption | refine parkI ?_ | (refine And.intro ?_ ?_ <;> conv => whnf) | fail
    refine parkE (fun hc => ?_) (fun hc => ?_)
    · exact (Bool.false_ne_true (hd.symm.trans hc)).elim
    · clear hd
      conv => whnf
      replace r7 := bindS r7
      obtain ⟨y21, hy21, r7⟩ := r7
      have c22 := w_slices_Sort_int s7 _ hy21
      have l23 := slices_Sort_int_len hy21
      have e := Option.some.inj r7
      replace e := hret6 _ e.symm
      rw [e] at r6
      replace e := Option.some.inj r6
      subst e
      repeat' first | with_reducible rfl | with_reducible exact True.intro | with_reducible assumption | (refine CallW.frame (nx2 := 3) (l2 := [(1, (.row 3 1 (y21.map iC)))]) [(1, 0)] [(0, 1)] c22 rfl rfl ⟨⟨rfl, rfl, .inl ⟨rfl, (by repeat' first | exact NLss_map' _ | refine NLss_app ?_ ?_ | refine NLss_set ?_ ?_ | exact True.intro | refine ⟨?_, ?_⟩)⟩⟩, rfl, rfl, trivial⟩ rfl rfl ⟨⟨rfl, rfl, .inl ⟨rfl, (by repeat' first | exact NLss_map' _ | refine NLss_app ?_ ?_ | refine NLss_set ?_ ?_ | exact True.intro | refine ⟨?_, ?_⟩)⟩⟩, rfl, rfl, trivial⟩ ?_; conv => whnf) | exact Or.inr ⟨_, (congrArg (LV.sl _ 0) (by (try simp only [se_map, se_byL, se_len, se_ch, List.length_map]); first | rfl | omega | (simp only [se_len, se_ch, List.length_map] at *; omega) : (s7.map iC).length = (y21.map iC).length)), congrArg (fun q => some (Blk.row 3 1 q)) rfl⟩ | exact (congrArg Bool.not h) | exact fun _ => True.intro | exact (rfl : (_ : Nat) = _) | exact (rfl : (_ : LV) = _) | exact NLss_map' _ | refine NLss_app ?_ ?_ | refine NLss_set ?_ ?_ | (refine And.intro ?_ ?_ <;> conv => whnf) | (intro h; (conv => whnf) <;> first | with_reducible rfl | assumption | exact h | exact (congrArg Bool.not h) | (refine ⟨h, True.intro⟩) | (refine ⟨congrArg Bool.not h, True.intro⟩) | (refine ⟨by assumption, True.intro⟩)) | (intro h; exact (Bool.false_ne_true (h.symm.trans (by assumption))).elim) | (intros; simp_all; done) | (refine gand ?_ h; assumption) | (simp only [se_map, se_byL]; exact rfl) | (simp only [se_map, se_byL, se_len, se_ch, List.length_map]; done) | fail
  · unfold lan_part_b7 at b7
    have hd : decide (((k7 : Nat) : Int) < (((a0.Plans.map PlanT.cells).length : Nat) : Int)) = true := by rw [decide_eq_true_eq]; (try simp only [se_len, se_ch, List.length_map] at hk7); (try simp only [se_len, se_ch, List.length_map]); omega
    refine LoopW.round TT_ok [0, 1, 2, 4, 5, 7, 8, 10, 11, 12, 13, 14, 15, 16, 17, 18, 19, 20, 21, 22, 23, 24, 25, 26, 27, 28, 29, 30, 31, 32, 33, 34, 35, 36, 37, 38, 39, 40, 41, 42, 43, 44, 45, 46, 47, 48, 49, 51, 1000220, 1000266, 1000267, 2000267] ?_
    conv => whnf
    repeat' first | with_reducible rfl | with_reducible exact True.intro | with_reducible assumption | refine parkI ?_ | (refine And.intro ?_ ?_ <;> conv => whnf) | fail
    refine parkE (fun hc => ?_) (fun hc => ?_)
    · clear hd
      conv => whnf
      replace b7 := bindS b7
      obtain ⟨y19, hy19, b7⟩ := b7
      have c20 := c_slices_ContainsFunc_Link x7.Ports 265 [] [(LV.rptr [(LV.ro 1 (s7.map iC))])] (fun x0_ => lan_part_1 x0_ s7) (fun x0_ r h => c_lan_part_1 x0_ s7 r h) (by repeat' first | exact True.intro | refine ⟨?_, ?_⟩) _ hy19
      repeat' first | with_reducible rfl | with_reducible exact True.intro | with_reducible assumption | refine parkI ?_ | (refine ⟨_, (kixF (f := PlanT.cells) hx7), ?_⟩; conv => whnf) | (refine CallW.done (CallP.lendG c20 (by repeat' first | exact True.intro | refine ⟨?_, ?_⟩) (show Lents _ [(LV.ro 3 (x7.Ports.map LinkT.cells)), (LV.func (.func 265) [] [(LV.ptr 2 0 0)])] [(LV.ro 3 (x7.Ports.map LinkT.cells)), (LV.func (.func 265) [] [(LV.rptr [(LV.ro 1 (s7.map iC))])])] from ⟨.of (by repeat' first | exact True.intro | assumption | refine ⟨?_, ?_⟩), .func True.intro ⟨.box rfl ⟨Lent.sl rfl (by repeat' first | exact True.intro | exact rfl | assumption | exact NLss_map' _ | refine NLss_app ?_ ?_ | refine NLss_set ?_ ?_ | refine ⟨?_, ?_⟩), True.intro⟩, True.intro⟩, True.intro⟩)) ?_; conv => whnf) | (refine And.intro ?_ ?_ <;> conv => whnf) | fail
      refine parkE (fun hc => ?_) (fun hc => ?_)
      · replace b7 := condT hc b7
        conv => whnf
        repeat' first | with_reducible rfl | with_reducible exact True.intro | with_reducible assumption | refine parkI ?_ | (refine And.intro ?_ ?_ <;> conv => whnf) | fail
        have e := Option.some.inj b7
        refine LoopW.norm [(2, (LV.ptr 0 0 0)), (5, (LV.ptr 2 0 0)), (14, (LV.ro 2 (a0.Plans.map PlanT.cells))), (15, (I (((a0.Plans.map PlanT.cells).length : Nat) : Int))), (16, (I ((k7 + 1 : Nat) : Int)))] 3 [(0, (.row 47 3 [[(I a0.Segs), (LV.ro 2 (a0.Plans.map PlanT.cells)), (LV.ro 2 (a0.Hosts.map HostT.cells))]])), (2, (.row 41 1 [[(LV.sl 1 0 (s7.map iC).length)]])), (1, (.row 3 1 (s7.map iC)))] ⟨rfl, rfl, rfl, rfl, (congrArg (LV.int .i64) (w64_nat _ (by omega))), trivial⟩ ⟨⟨rfl, rfl, (by repeat' first | exact True.intro | exact rfl | exact NLs_bels (by assumption) | refine ⟨?_, ?_⟩)⟩, ⟨⟨rfl, rfl, (by repeat' first | exact True.intro | exact rfl | exact NLs_bels (by assumption) | refine ⟨?_, ?_⟩)⟩, ⟨⟨rfl, rfl, NLss_bel (NLss_map' _)⟩, trivial⟩⟩⟩ (by repeat' first | exact True.intro | exact rfl | exact NLs_bels (by assumption) | refine ⟨?_, ?_⟩) rfl (K7 _ e.symm)
      · replace b7 := condF hc b7
        conv => whnf
        repeat' first | with_reducible rfl | with_reducible exact True.intro | with_reducible assumption | refine parkI ?_ | (refine And.intro ?_ ?_ <;> conv => whnf) | fail
        replace b7 := aftS b7
        obtain ⟨O8, hO8, r8⟩ := b7
        refine LoopW.norm [(2, (LV.ptr 0 0 0)), (5, (LV.ptr 2 0 0)), (14, (LV.ro 2 (a0.Plans.map PlanT.cells))), (15, (I (((a0.Plans.map PlanT.cells).length : Nat) : Int))), (16, (I ((k7 : Nat) : Int))), (27, (LV.ro 3 (x7.Ports.map LinkT.cells))), (28, (I (((x7.Ports.map LinkT.cells).length : Nat) : Int))), (29, (I ((0 : Nat) : Int)))] 3 [(0, (.row 47 3 [[(I a0.Segs), (LV.ro 2 (a0.Plans.map PlanT.cells)), (LV.ro 2 (a0.Hosts.map HostT.cells))]])), (2, (.row 41 1 [[(LV.sl 1 0 (s7.map iC).length)]])), (1, (.row 3 1 (s7.map iC)))] ⟨rfl, rfl, rfl, rfl, rfl, rfl, rfl, rfl, trivial⟩ ⟨⟨rfl, rfl, (by repeat' first | exact True.intro | exact rfl | exact NLs_bels (by assumption) | refine ⟨?_, ?_⟩)⟩, ⟨⟨rfl, rfl, (by repeat' first | exact True.intro | exact rfl | exact NLs_bels (by assumption) | refine ⟨?_, ?_⟩)⟩, ⟨⟨rfl, rfl, NLss_bel (NLss_map' _)⟩, trivial⟩⟩⟩ (by repeat' first | exact True.intro | exact rfl | exact NLs_bels (by assumption) | refine ⟨?_, ?_⟩) rfl ?_
        refine LoopW.forR (fun k8 s8 => [(2, (LV.ptr 0 0 0)), (5, (LV.ptr 2 0 0)), (14, (LV.ro 2 (a0.Plans.map PlanT.cells))), (15, (I (((a0.Plans.map PlanT.cells).length : Nat) : Int))), (16, (I ((k7 : Nat) : Int))), (27, (LV.ro 3 (x7.Ports.map LinkT.cells))), (28, (I (((x7.Ports.map LinkT.cells).length : Nat) : Int))), (29, (I ((k8 : Nat) : Int)))]) (fun s8 => ⟨3, [(0, (.row 47 3 [[(I a0.Segs), (LV.ro 2 (a0.Plans.map PlanT.cells)), (LV.ro 2 (a0.Hosts.map HostT.cells))]])), (2, (.row 41 1 [[(LV.sl 1 0 (s8.map iC).length)]])), (1, (.row 3 1 (s8.map iC)))]⟩) hO8 (fun hl8 s8 hs8 => ?_) (fun hl8 k8 x8 s8 o8 hk8 hx8 b8 K8 hret8 hbrk8 => ?_)
        · rw [hs8] at r8
          dsimp only [aftM] at r8
          have hd : decide (((x7.Ports.length : Nat) : Int) < (((x7.Ports.map LinkT.cells).length : Nat) : Int)) = false := by rw [decide_eq_false_iff_not]; (try simp only [se_len, se_ch, List.length_map]); omega
          refine LoopW.round TT_ok [0, 1, 2, 4, 5, 7, 8, 10, 11, 12, 13, 14, 15, 16, 17, 18, 19, 20, 21, 22, 23, 24, 25, 26, 27, 28, 29, 30, 31, 32, 33, 34, 35, 36, 37, 38, 39, 40, 41, 42, 43, 44, 45, 46, 47, 48, 49, 51, 1000220, 1000266, 1000267, 2000267] ?_
          conv => whnf
          repeat' first | with_reducible rfl | with_reducible exact True.intro | with_reducible assumption | refine parkI ?_ | (refine And.intro ?_ ?_ <;> conv => whnf) | fail
          refine parkE (fun hc => ?_) (fun hc => ?_)
          · exact (Bool.false_ne_true (hd.symm.trans hc)).elim
          · clear hd
            conv => whnf
            repeat' first | with_reducible rfl | with_reducible exact True.intro | with_reducible assumption | refine parkI ?_ | (refine And.intro ?_ ?_ <;> conv => whnf) | fail
            have e := Option.some.inj r8
            refine LoopW.norm [(2, (LV.ptr 0 0 0)), (5, (LV.ptr 2 0 0)), (14, (LV.ro 2 (a0.Plans.map PlanT.cells))), (15, (I (((a0.Plans.map PlanT.cells).length : Nat) : Int))), (16, (I ((k7 + 1 : Nat) : Int)))] 3 [(0, (.row 47 3 [[(I a0.Segs), (LV.ro 2 (a0.Plans.map PlanT.cells)), (LV.ro 2 (a0.Hosts.map HostT.cells))]])), (2, (.row 41 1 [[(LV.sl 1 0 (s8.map iC).length)]])), (1, (.row 3 1 (s8.map iC)))] ⟨rfl, rfl, rfl, rfl, (congrArg (LV.int .i64) (w64_nat _ (by omega))), trivial⟩ ⟨⟨rfl, rfl, (by repeat' first | exact True.intro | exact rfl | exact NLs_bels (by assumption) | refine ⟨?_, ?_⟩)⟩, ⟨⟨rfl, rfl, (by repeat' first | exact True.intro | exact rfl | exact NLs_bels (by assumption) | refine ⟨?_, ?_⟩)⟩, ⟨⟨rfl, rfl, NLss_bel (NLss_map' _)⟩, trivial⟩⟩⟩ (by repeat' first | exact True.intro | exact rfl | exact NLs_bels (by assumption) | refine ⟨?_, ?_⟩) rfl (K7 _ e.symm)
        · unfold lan_part_b8 at b8
          have hd : decide (((k8 : Nat) : Int) < (((x7.Ports.map LinkT.cells).length : Nat) : Int)) = true := by rw [decide_eq_true_eq]; (try simp only [se_len, se_ch, List.length_map] at hk8); (try simp only [se_len, se_ch, List.length_map]); omega
          refine LoopW.round TT_ok [0, 1, 2, 4, 5, 7, 8, 10, 11, 12, 13, 14, 15, 16, 17, 18, 19, 20, 21, 22, 23, 24, 25, 26, 27, 28, 29, 30, 31, 32, 33, 34, 35, 36, 37, 38, 39, 40, 41, 42, 43, 44, 45, 46, 47, 48, 49, 51, 1000220, 1000266, 1000267, 2000267] ?_
          conv => whnf
          repeat' first | with_reducible rfl | with_reducible exact True.intro | with_reducible assumption | refine parkI ?_ | (refine And.intro ?_ ?_ <;> conv => whnf) | fail
          refine parkE (fun hc => ?_) (fun hc => ?_)
          · clear hd
            conv => whnf
            repeat' first | with_reducible rfl | with_reducible exact True.intro | with_reducible assumption | refine parkI ?_ | (refine ⟨_, (kixF (f := LinkT.cells) hx8), ?_⟩; conv => whnf) | exact (congrArg Bool.not h) | exact fun _ => True.intro | (refine And.intro ?_ ?_ <;> conv => whnf) | (intro h; (conv => whnf) <;> first | with_reducible rfl | assumption | exact h | exact (congrArg Bool.not h) | (refine ⟨h, True.intro⟩) | (refine ⟨congrArg Bool.not h, True.intro⟩) | (refine ⟨by assumption, True.intro⟩)) | (intro h; exact (Bool.false_ne_true (h.symm.trans (by assumption))).elim) | (intros; simp_all; done) | (refine gand ?_ h; assumption) | fail
            refine parkE (fun hg5_ => ?_) (fun hg5_ => ?_)
            · replace b8 := condT (by first | exact hg5_ | simpa only [se_len, se_ch, List.length_map] using hg5_) b8
              conv => whnf
              replace b8 := bindS b8
              obtain ⟨y21, hy21, b8⟩ := b8
              have c22 := c_slices_Contains_int s8 x8.Seg _ hy21
              repeat' first | with_reducible rfl | with_reducible exact True.intro | with_reducible assumption | refine parkI ?_ | (refine CallW.done (CallP.lendG c22 (by repeat' first | exact True.intro | refine ⟨?_, ?_⟩) (show Lents _ [(LV.sl 1 0 (s8.map iC).length), (I x8.Seg)] [(LV.ro 1 (s8.map iC)), (I x8.Seg)] from ⟨Lent.sl rfl (by repeat' first | exact True.intro | exact rfl | assumption | exact NLss_map' _ | refine NLss_app ?_ ?_ | refine NLss_set ?_ ?_ | refine ⟨?_, ?_⟩), .of (by repeat' first | exact True.intro | assumption | refine ⟨?_, ?_⟩), True.intro⟩)) ?_; conv => whnf) | exact (congrArg Bool.not h) | exact fun _ => True.intro | (refine And.intro ?_ ?_ <;> conv => whnf) | (intro h; (conv => whnf) <;> first | with_reducible rfl | assumption | exact h | exact (congrArg Bool.not h) | (refine ⟨h, True.intro⟩) | (refine ⟨congrArg Bool.not h, True.intro⟩) | (refine ⟨by assumption, True.intro⟩)) | (intro h; exact (Bool.false_ne_true (h.symm.trans (by assumption))).elim) | (intros; simp_all; done) | (refine gand ?_ h; assumption) | (intro hq_; conv => whnf) | fail
              refine parkE (fun hc => ?_) (fun hc => ?_)
              · replace b8 := condT hc b8
                conv => whnf
                replace b8 := grdS b8
                obtain ⟨g23, b8⟩ := b8
                replace g23 : fits (((s8.map iC) ++ [[(I x8.Seg)]])).length 8 := by simpa only [se_len, se_ch, List.length_map] using g23
                repeat' first | with_reducible rfl | with_reducible exact True.intro | with_reducible assumption | refine parkI ?_ | exact g23 | exact (rfl : (_ : Nat) = _) | exact NLss_map' _ | refine NLss_app ?_ ?_ | refine NLss_set ?_ ?_ | (refine And.intro ?_ ?_ <;> conv => whnf) | (simp only [se_map, se_byL]; exact rfl) | (simp only [se_map, se_byL, se_len, se_ch, List.length_map]; done) | (intro hq_; conv => whnf) | fail
                have e := Option.some.inj b8
                replace e := hret8 _ e.symm
                rw [e] at r8
                replace e := Option.some.inj r8
                replace e := hret7 _ e.symm
                rw [e] at r7
                replace e := Option.some.inj r7
                refine LoopW.ren [(0, 0), (2, 2), (5, 1)] [(2, (LV.ptr 0 0 0)), (5, (LV.ptr 2 0 0))] 3 [(0, (.row 47 3 [[(I a0.Segs), (LV.ro 2 (a0.Plans.map PlanT.cells)), (LV.ro 2 (a0.Hosts.map HostT.cells))]])), (2, (.row 41 1 [[(LV.sl 1 0 ((s8 ++ ([x8.Seg] : (List Int))).map iC).length)]])), (1, (.row 3 1 ((s8 ++ ([x8.Seg] : (List Int))).map iC)))] rfl ⟨rfl, rfl, trivial⟩ ⟨⟨rfl, rfl, .inl ⟨rfl, (by repeat' first | exact NLss_map' _ | refine NLss_app ?_ ?_ | refine NLss_set ?_ ?_ | exact True.intro | refine ⟨?_, ?_⟩)⟩⟩, rfl, rfl, ⟨⟨rfl, rfl, .inr (by first | exact rfl | (show [[(LV.sl 1 0 (((s8.map iC) ++ [[(I x8.Seg)]])).length)]] = [[(LV.sl 1 0 ((s8 ++ ([x8.Seg] : (List Int))).map iC).length)]]; simp only [se_map, se_byL, se_len, se_ch, List.length_map]))⟩, rfl, rfl, ⟨⟨rfl, rfl, .inl ⟨(by simp only [se_map, se_byL, se_len, se_ch, List.length_map] : (((s8.map iC) ++ [[(I x8.Seg)]]) : List (List LV)) = ((s8 ++ ([x8.Seg] : (List Int))).map iC)), (by repeat' first | exact NLss_map' _ | refine NLss_app ?_ ?_ | refine NLss_set ?_ ?_ | exact True.intro | refine ⟨?_, ?_⟩)⟩⟩, rfl, rfl, trivial⟩⟩⟩ rfl (K6 _ e.symm)
              · replace b8 := condF hc b8
                conv => whnf
                repeat' first | with_reducible rfl | with_reducible exact True.intro | with_reducible assumption | refine parkI ?_ | (refine And.intro ?_ ?_ <;> conv => whnf) | (intro hq_; conv => whnf) | fail
                have e := Option.some.inj b8
                refine LoopW.norm [(2, (LV.ptr 0 0 0)), (5, (LV.ptr 2 0 0)), (14, (LV.ro 2 (a0.Plans.map PlanT.cells))), (15, (I (((a0.Plans.map PlanT.cells).length : Nat) : Int))), (16, (I ((k7 : Nat) : Int))), (27, (LV.ro 3 (x7.Ports.map LinkT.cells))), (28, (I (((x7.Ports.map LinkT.cells).length : Nat) : Int))), (29, (I ((k8 + 1 : Nat) : Int)))] 3 [(0, (.row 47 3 [[(I a0.Segs), (LV.ro 2 (a0.Plans.map PlanT.cells)), (LV.ro 2 (a0.Hosts.map HostT.cells))]])), (2, (.row 41 1 [[(LV.sl 1 0 (s8.map iC).length)]])), (1, (.row 3 1 (s8.map iC)))] ⟨rfl, rfl, rfl, rfl, rfl, rfl, rfl, (congrArg (LV.int .i64) (w64_nat _ (by omega))), trivial⟩ ⟨⟨rfl, rfl, (by repeat' first | exact True.intro | exact rfl | exact NLs_bels (by assumption) | refine ⟨?_, ?_⟩)⟩, ⟨⟨rfl, rfl, (by repeat' first | exact True.intro | exact rfl | exact NLs_bels (by assumption) | refine ⟨?_, ?_⟩)⟩, ⟨⟨rfl, rfl, NLss_bel (NLss_map' _)⟩, trivial⟩⟩⟩ (by repeat' first | exact True.intro | exact rfl | exact NLs_bels (by assumption) | refine ⟨?_, ?_⟩) rfl (K8 _ e.symm)
            · replace b8 := condF (by first | exact hg5_ | simpa only [se_len, se_ch, List.length_map] using hg5_) b8
              conv => whnf
              repeat' first | with_reducible rfl | with_reducible exact True.intro | with_reducible assumption | refine parkI ?_ | exact (by first | exact hg5_ | simpa using hg5_ : _ = false) | (refine ⟨?_, True.intro⟩; first | exact hg5_ | (simpa using hg5_; done)) | exact (congrArg Bool.not h) | exact fun _ => True.intro | (refine And.intro ?_ ?_ <;> conv => whnf) | (intro h; (conv => whnf) <;> first | with_reducible rfl | assumption | exact h | exact (congrArg Bool.not h) | (refine ⟨h, True.intro⟩) | (refine ⟨congrArg Bool.not h, True.intro⟩) | (refine ⟨by assumption, True.intro⟩)) | (intro h; exact (Bool.false_ne_true (h.symm.trans (by assumption))).elim) | (intros; simp_all; done) | (refine gand ?_ h; assumption) | (intro hq_; conv => whnf) | fail
              refine parkE (fun hc => ?_) (fun hc => ?_)
              · exact (Bool.false_ne_true (((rfl : false = false)).symm.trans hc)).elim
              · conv => whnf
                repeat' first | with_reducible rfl | with_reducible exact True.intro | with_reducible assumption | refine parkI ?_ | (refine And.intro ?_ ?_ <;> conv => whnf) | (intro hq_; conv => whnf) | fail
                have e := Option.some.inj b8
                refine LoopW.norm [(2, (LV.ptr 0 0 0)), (5, (LV.ptr 2 0 0)), (14, (LV.ro 2 (a0.Plans.map PlanT.cells))), (15, (I (((a0.Plans.map PlanT.cells).length : Nat) : Int))), (16, (I ((k7 : Nat) : Int))), (27, (LV.ro 3 (x7.Ports.map LinkT.cells))), (28, (I (((x7.Ports.map LinkT.cells).length : Nat) : Int))), (29, (I ((k8 + 1 : Nat) : Int)))] 3 [(0, (.row 47 3 [[(I a0.Segs), (LV.ro 2 (a0.Plans.map PlanT.cells)), (LV.ro 2 (a0.Hosts.map HostT.cells))]])), (2, (.row 41 1 [[(LV.sl 1 0 (s8.map iC).length)]])), (1, (.row 3 1 (s8.map iC)))] ⟨rfl, rfl, rfl, rfl, rfl, rfl, rfl, (congrArg (LV.int .i64) (w64_nat _ (by omega))), trivial⟩ ⟨⟨rfl, rfl, (by repeat' first | exact True.intro | exact rfl | exact NLs_bels (by assumption) | refine ⟨?_, ?_⟩)⟩, ⟨⟨rfl, rfl, (by repeat' first | exact True.intro | exact rfl | exact NLs_bels (by assumption) | refine ⟨?_, ?_⟩)⟩, ⟨⟨rfl, rfl, NLss_bel (NLss_map' _)⟩, trivial⟩⟩⟩ (by repeat' first | exact True.intro | exact rfl | exact NLs_bels (by assumption) | refine ⟨?_, ?_⟩) rfl (K8 _ e.symm)
          · exact (Bool.false_ne_true (hc.symm.trans hd)).elim
    · exact (Bool.false_ne_true (hc.symm.trans hd)).elim

theorem c_lan_part (a0 : LanT) (a1 : Int) (r : (List Int)) (h : lan_part a0 a1 = some r) : CallP Try.prog 195 [(LV.agg [(I a0.Segs), (LV.ro 2 (a0.Plans.map PlanT.cells)), (LV.ro 2 (a0.Hosts.map HostT.cells))]), (I a1)] (LV.ro 1 (r.map iC)) := by
  exact CallF.toP (cf_lan_part a0 a1 r h) (by repeat' first | exact True.intro | assumption | refine ⟨?_, ?_⟩) (NLss_map' _)

def lan_Parts_b9 (y24 : (List Int)) (k9 : Nat) (s9 : (List (Int × Bool))) : Option (Step (Step (Int × Int) (Int × (List (Int × Bool)))) (List (Int × Bool))) :=
  grd ((0 : Int) ≤ ((k9 : Nat) : Int) ∧ ((k9 : Nat) : Int) < ((y24.length : Nat) : Int)) <|
  (gixN y24 (((k9 : Nat) : Int) : Int).toNat).bind fun v27 =>
  some (.nxt (mput s9 v27 true))

def lan_Parts_b5 (a0 : LanT) (k5 : Nat) (s5 : (Int × (List (Int × Bool)))) : Option (Step (Int × Int) (Int × (List (Int × Bool)))) :=
  (bif (mget s5.2 ((k5 : Nat) : Int) false) then
    some (.nxt (s5.1, s5.2))
  else
    (lan_part a0 ((k5 : Nat) : Int)).bind fun y24 =>
    aft (rangeN (lan_Parts_b9 y24) ((y24.length : Nat) : Int) s5.2) fun s9 =>
    some (.nxt ((IntKind.i64.wrap (s5.1 + 1)), s9)))

def lan_Parts (a0 : LanT) : Option (Int × Int) :=
  (lan_Right a0).bind fun y17 =>
  (bif (!y17) then
    some (0, 1)
  else
    aft (rangeN (lan_Parts_b5 a0) a0.Segs (0, ([] : List (Int × Bool)))) fun s5 =>
    some (s5.1, 0))

theorem c_lan_Parts (a0 : LanT) (r : (Int × Int)) (h : lan_Parts a0 = some r) : CallP Try.prog 74 [(LV.agg [(I a0.Segs), (LV.ro 2 (a0.Plans.map PlanT.cells)), (LV.ro 2 (a0.Hosts.map HostT.cells))])] (LV.tup [(I r.1), (I r.2)]) := by
  unfold lan_Parts at h
  refine .intro (by repeat' first | exact True.intro | assumption | refine ⟨?_, ?_⟩) (.intro TT_ok Try.func74 rfl rfl [0, 1, 2, 3, 4, 5, 6, 8, 11, 14, 15, 16, 20, 25, 26, 27, 28] rfl ?_)
  conv => whnf
  replace h := bindS h
  obtain ⟨y17, hy17, h⟩ := h
  have c18 := c_lan_Right a0 _ hy17
  repeat' first | with_reducible rfl | with_reducible exact True.intro | with_reducible assumption | refine parkI ?_ | (refine CallP.use c18 ?_; conv => whnf) | (refine And.intro ?_ ?_ <;> conv => whnf) | fail
  refine parkE (fun hc => ?_) (fun hc => ?_)
  · replace h := condT hc h
    conv => whnf
    have e := Option.some.inj h
    subst e
    repeat' first | with_reducible rfl | with_reducible exact True.intro | with_reducible assumption | exact (congrArg Bool.not h) | exact fun _ => True.intro | exact (rfl : (_ : Nat) = _) | exact (rfl : (_ : LV) = _) | exact NLss_map' _ | refine NLss_app ?_ ?_ | refine NLss_set ?_ ?_ | (refine And.intro ?_ ?_ <;> conv => whnf) | (intro h; (conv => whnf) <;> first | with_reducible rfl | assumption | exact h | exact (congrArg Bool.not h) | (refine ⟨h, True.intro⟩) | (refine ⟨congrArg Bool.not h, True.intro⟩) | (refine ⟨by assumption, True.intro⟩)) | (intro h; exact (Bool.false_ne_true (h.symm.trans (by assumption))).elim) | (intros; simp_all; done) | (refine gand ?_ h; assumption) | (simp only [se_map, se_byL]; exact rfl) | (simp only [se_map, se_byL, se_len, se_ch, List.length_map]; done) | fail
  · replace h := condF hc h
    conv => whnf
    repeat' first | with_reducible rfl | with_reducible exact True.intro | with_reducible assumption | refine parkI ?_ | (refine And.intro ?_ ?_ <;> conv => whnf) | fail
    replace h := aftS h
    obtain ⟨O5, hO5, r5⟩ := h
    refine LoopW.norm [(1, (LV.ptr 0 0 0)), (4, (I (0, ([] : List (Int × Bool))).1)), (5, (LV.map 1)), (14, (I a0.Segs)), (15, (I ((0 : Nat) : Int)))] 2 [(0, (.row 47 3 [[(I a0.Segs), (LV.ro 2 (a0.Plans.map PlanT.cells)), (LV.ro 2 (a0.Hosts.map HostT.cells))]])), (1, (.mp ((0, ([] : List (Int × Bool))).2.map (mpC I (fun z : Bool => (LV.bool z))))))] ⟨rfl, (by simp only [se_map, se_byL, se_len, se_ch, List.length_map] : ((I 0) : LV) = (I (0, ([] : List (Int × Bool))).1)), rfl, rfl, rfl, trivial⟩ ⟨⟨rfl, rfl, (by repeat' first | exact True.intro | exact rfl | exact NLs_bels (by assumption) | refine ⟨?_, ?_⟩)⟩, ⟨⟨(congrArg (fun q => some (Blk.mp q)) (by simp only [se_mp] : (([] : List (LV × LV)) : List (LV × LV)) = ((0, ([] : List (Int × Bool))).2.map (mpC I (fun z : Bool => (LV.bool z)))))), rfl, bel_mp (f := I) (g := (fun z : Bool => (LV.bool z))) (fun _ => by repeat' first | exact True.intro | refine ⟨?_, ?_⟩) (fun _ => by repeat' first | exact True.intro | refine ⟨?_, ?_⟩) _ _⟩, trivial⟩⟩ (by repeat' first | exact True.intro | exact rfl | exact NLs_bels (by assumption) | refine ⟨?_, ?_⟩) rfl ?_
    refine LoopW.forN (fun k5 s5 => [(1, (LV.ptr 0 0 0)), (4, (I s5.1)), (5, (LV.map 1)), (14, (I a0.Segs)), (15, (I ((k5 : Nat) : Int)))]) (fun s5 => ⟨2, [(0, (.row 47 3 [[(I a0.Segs), (LV.ro 2 (a0.Plans.map PlanT.cells)), (LV.ro 2 (a0.Hosts.map HostT.cells))]])), (1, (.mp (s5.2.map (mpC I (fun z : Bool => (LV.bool z))))))]⟩) hO5 (fun hl5 s5 hs5 => ?_) (fun hl5 k5 s5 o5 hk5 b5 K5 hret5 hbrk5 => ?_)
    · rw [hs5] at r5
      dsimp only [aftM] at r5
      have hd : decide ((((a0.Segs).toNat : Nat) : Int) < a0.Segs) = false := by rw [decide_eq_false_iff_not]; (try simp only [se_len, se_ch, List.length_map]); omega
      refine LoopW.round TT_ok [0, 1, 2, 3, 4, 5, 6, 8, 11, 14, 15, 16, 20, 25, 26, 27, 28] ?_
      conv => whnf
      repeat' first | with_reducible rfl | with_reducible exact True.intro | with_reducible assumption | refine parkI ?_ | (refine And.intro ?_ ?_ <;> conv => whnf) | fail
      refine parkE (fun hc => ?_) (fun hc => ?_)
      · exact (Bool.false_ne_true (hd.symm.trans hc)).elim
      · clear hd
        conv => whnf
        have e := Option.some.inj r5
        subst e
        repeat' first | with_reducible rfl | with_reducible exact True.intro | with_reducible assumption | exact (congrArg Bool.not h) | exact fun _ => True.intro | exact (rfl : (_ : Nat) = _) | exact (rfl : (_ : LV) = _) | exact NLss_map' _ | refine NLss_app ?_ ?_ | refine NLss_set ?_ ?_ | (refine And.intro ?_ ?_ <;> conv => whnf) | (intro h; (conv => whnf) <;> first | with_reducible rfl | assumption | exact h | exact (congrArg Bool.not h) | (refine ⟨h, True.intro⟩) | (refine ⟨congrArg Bool.not h, True.intro⟩) | (refine ⟨by assumption, True.intro⟩)) | (intro h; exact (Bool.false_ne_true (h.symm.trans (by assumption))).elim) | (intros; simp_all; done) | (refine gand ?_ h; assumption) | (simp only [se_map, se_byL]; exact rfl) | (simp only [se_map, se_byL, se_len, se_ch, List.length_map]; done) | fail
    · unfold lan_Parts_b5 at b5
      have hd : decide (((k5 : Nat) : Int) < a0.Segs) = true := by rw [decide_eq_true_eq]; (try simp only [se_len, se_ch, List.length_map] at hk5); (try simp only [se_len, se_ch, List.length_map]); omega
      refine LoopW.round TT_ok [0, 1, 2, 3, 4, 5, 6, 8, 11, 14, 15, 16, 20, 25, 26, 27, 28] ?_
      conv => whnf
      repeat' first | with_reducible rfl | with_reducible exact True.intro | with_reducible assumption | refine parkI ?_ | (refine And.intro ?_ ?_ <;> conv => whnf) | fail
      refine parkE (fun hc => ?_) (fun hc => ?_)
      · clear hd
        conv => whnf
        rcases m7_ : mfind s5.2 ((k5 : Nat) : Int) with _ | ⟨w7_, u7_⟩
        · try simp only [mget_none m7_, mput_none m7_, mhas_none m7_, mget_mput] at b5
          repeat' first | with_reducible rfl | with_reducible exact True.intro | with_reducible assumption | refine parkI ?_ | (refine ⟨_, (finds_none (g := (fun z : Bool => (LV.bool z))) ke_3 m7_), ?_⟩; conv => whnf) | (refine And.intro ?_ ?_ <;> conv => whnf) | fail
          refine parkE (fun hc => ?_) (fun hc => ?_)
          · exact (Bool.false_ne_true (((rfl : false = false)).symm.trans hc)).elim
          · conv => whnf
            replace b5 := bindS b5
            obtain ⟨y19, hy19, b5⟩ := b5
            have c20 := cf_lan_part a0 ((k5 : Nat) : Int) _ hy19
            repeat' first | with_reducible rfl | with_reducible exact True.intro | with_reducible assumption | refine parkI ?_ | (refine CallW.done (CallF.at c20 (by repeat' first | exact True.intro | assumption | refine ⟨?_, ?_⟩) (NLss_map' _)) ?_; conv => whnf) | (refine ⟨_, _, CallF.at c20 (by repeat' first | exact True.intro | assumption | refine ⟨?_, ?_⟩) (NLss_map' _), ?_⟩; conv => whnf) | (refine And.intro ?_ ?_ <;> conv => whnf) | fail
            replace b5 := aftS b5
            obtain ⟨O9, hO9, r9⟩ := b5
            refine LoopW.norm [(1, (LV.ptr 0 0 0)), (4, (I (IntKind.i64.wrap (s5.1 + 1)))), (5, (LV.map 1)), (14, (I a0.Segs)), (15, (I ((k5 : Nat) : Int))), (25, (LV.sl 2 0 (y19.map iC).length)), (26, (I (((y19.map iC).length : Nat) : Int))), (27, (I ((0 : Nat) : Int)))] 3 [(0, (.row 47 3 [[(I a0.Segs), (LV.ro 2 (a0.Plans.map PlanT.cells)), (LV.ro 2 (a0.Hosts.map HostT.cells))]])), (1, (.mp (s5.2.map (mpC I (fun z : Bool => (LV.bool z)))))), (2, (.row 3 1 (y19.map iC)))] ⟨rfl, rfl, rfl, rfl, rfl, rfl, rfl, rfl, trivial⟩ ⟨⟨rfl, rfl, (by repeat' first | exact True.intro | exact rfl | exact NLs_bels (by assumption) | refine ⟨?_, ?_⟩)⟩, ⟨⟨rfl, rfl, bel_mp (f := I) (g := (fun z : Bool => (LV.bool z))) (fun _ => by repeat' first | exact True.intro | refine ⟨?_, ?_⟩) (fun _ => by repeat' first | exact True.intro | refine ⟨?_, ?_⟩) _ _⟩, ⟨⟨rfl, rfl, NLss_bel (NLss_map' _)⟩, trivial⟩⟩⟩ (by repeat' first | exact True.intro | exact rfl | exact NLs_bels (by assumption) | refine ⟨?_, ?_⟩) rfl ?_
            refine LoopW.forN (fun k9 s9 => [(1, (LV.ptr 0 0 0)), (4, (I (IntKind.i64.wrap (s5.1 + 1)))), (5, (LV.map 1)), (14, (I a0.Segs)), (15, (I ((k5 : Nat) : Int))), (25, (LV.sl 2 0 (y19.map iC).length)), (26, (I (((y19.map iC).length : Nat) : Int))), (27, (I ((k9 : Nat) : Int)))]) (fun s9 => ⟨3, [(0, (.row 47 3 [[(I a0.Segs), (LV.ro 2 (a0.Plans.map PlanT.cells)), (LV.ro 2 (a0.Hosts.map HostT.cells))]])), (1, (.mp (s9.map (mpC I (fun z : Bool => (LV.bool z)))))), (2, (.row 3 1 (y19.map iC)))]⟩) hO9 (fun hl9 s9 hs9 => ?_) (fun hl9 k9 s9 o9 hk9 b9 K9 hret9 hbrk9 => ?_)
            · rw [hs9] at r9
              dsimp only [aftM] at r9
              have hd : decide ((((((y19.length : Nat) : Int)).toNat : Nat) : Int) < (((y19.map iC).length : Nat) : Int)) = false := by rw [decide_eq_false_iff_not]; (try simp only [se_len, se_ch, List.length_map]); omega
              refine LoopW.round TT_ok [0, 1, 2, 3, 4, 5, 6, 8, 11, 14, 15, 16, 20, 25, 26, 27, 28] ?_
              conv => whnf
              repeat' first | with_reducible rfl | with_reducible exact True.intro | with_reducible assumption | refine parkI ?_ | (refine And.intro ?_ ?_ <;> conv => whnf) | fail
              refine parkE (fun hc => ?_) (fun hc => ?_)
              · exact (Bool.false_ne_true (hd.symm.trans hc)).elim
              · clear hd
                conv => whnf
                repeat' first | with_reducible rfl | with_reducible exact True.intro | with_reducible assumption | refine parkI ?_ | (refine And.intro ?_ ?_ <;> conv => whnf) | fail
                have e := Option.some.inj r9
                refine LoopW.norm [(1, (LV.ptr 0 0 0)), (4, (I ((IntKind.i64.wrap (s5.1 + 1)), s9).1)), (5, (LV.map 1)), (14, (I a0.Segs)), (15, (I ((k5 + 1 : Nat) : Int)))] 2 [(0, (.row 47 3 [[(I a0.Segs), (LV.ro 2 (a0.Plans.map PlanT.cells)), (LV.ro 2 (a0.Hosts.map HostT.cells))]])), (1, (.mp (((IntKind.i64.wrap (s5.1 + 1)), s9).2.map (mpC I (fun z : Bool => (LV.bool z))))))] ⟨rfl, (by simp only [se_map, se_byL, se_len, se_ch, List.length_map] : ((I (IntKind.i64.wrap (s5.1 + 1))) : LV) = (I ((IntKind.i64.wrap (s5.1 + 1)), s9).1)), rfl, rfl, (congrArg (LV.int .i64) (w64_nat _ (by omega))), trivial⟩ ⟨⟨rfl, rfl, (by repeat' first | exact True.intro | exact rfl | exact NLs_bels (by assumption) | refine ⟨?_, ?_⟩)⟩, ⟨⟨(congrArg (fun q => some (Blk.mp q)) (by simp only [se_mp] : ((s9.map (mpC I (fun z : Bool => (LV.bool z)))) : List (LV × LV)) = (((IntKind.i64.wrap (s5.1 + 1)), s9).2.map (mpC I (fun z : Bool => (LV.bool z)))))), rfl, bel_mp (f := I) (g := (fun z : Bool => (LV.bool z))) (fun _ => by repeat' first | exact True.intro | refine ⟨?_, ?_⟩) (fun _ => by repeat' first | exact True.intro | refine ⟨?_, ?_⟩) _ _⟩, trivial⟩⟩ (by repeat' first | exact True.intro | exact rfl | exact NLs_bels (by assumption) | refine ⟨?_, ?_⟩) rfl (K5 _ e.symm)
            · unfold lan_Parts_b9 at b9
              have hd : decide (((k9 : Nat) : Int) < (((y19.map iC).length : Nat) : Int)) = true := by rw [decide_eq_true_eq]; (try simp only [se_len, se_ch, List.length_map] at hk9); (try simp only [se_len, se_ch, List.length_map]); omega
              refine LoopW.round TT_ok [0, 1, 2, 3, 4, 5, 6, 8, 11, 14, 15, 16, 20, 25, 26, 27, 28] ?_
              conv => whnf
              repeat' first | with_reducible rfl | with_reducible exact True.intro | with_reducible assumption | refine parkI ?_ | (refine And.intro ?_ ?_ <;> conv => whnf) | fail
              refine parkE (fun hc => ?_) (fun hc => ?_)
              · clear hd
                conv => whnf
                replace b9 := grdS b9
                obtain ⟨g21, b9⟩ := b9
                replace g21 : (0 : Int) ≤ ((k9 : Nat) : Int) ∧ ((k9 : Nat) : Int) < (((y19.map iC).length : Nat) : Int) := by simpa only [se_len, se_ch, List.length_map] using g21
                replace b9 := bindS b9
                obtain ⟨v22, hv22, b9⟩ := b9
                have i23 : nth (y19.map iC) (0 + ((((k9 : Nat) : Int) : Int).toNat)) = some [(I v22)] := by simpa only [se_map, se_len, se_ch, List.length_map, nth_eq, Nat.zero_add, List.getElem?_map] using gixNF (f := iC) hv22
                rcases m8_ : mfind s9 v22 with _ | ⟨w8_, u8_⟩
                · try simp only [mget_none m8_, mput_none m8_, mhas_none m8_, mget_mput] at b9
                  have f24 : Finds TT 3 ((s9.map (mpC I (fun z : Bool => (LV.bool z)))) ++ [((I v22), (LV.bool true))]) (I v22) (some (s9.length, (LV.bool true))) := by simpa only [se_mp] using finds_some (f := I) (g := (fun z : Bool => (LV.bool z))) ke_3 (mfind_app m8_ true)
                  repeat' first | with_reducible rfl | with_reducible exact True.intro | with_reducible assumption | refine parkI ?_ | (refine ⟨_, (finds_none (g := (fun z : Bool => (LV.bool z))) ke_3 m8_), ?_⟩; conv => whnf) | exact g21 | (rw [i23]; conv => whnf) | (refine And.intro ?_ ?_ <;> conv => whnf) | fail
                  have e := Option.some.inj b9
                  refine LoopW.norm [(1, (LV.ptr 0 0 0)), (4, (I (IntKind.i64.wrap (s5.1 + 1)))), (5, (LV.map 1)), (14, (I a0.Segs)), (15, (I ((k5 : Nat) : Int))), (25, (LV.sl 2 0 (y19.map iC).length)), (26, (I (((y19.map iC).length : Nat) : Int))), (27, (I ((k9 + 1 : Nat) : Int)))] 3 [(0, (.row 47 3 [[(I a0.Segs), (LV.ro 2 (a0.Plans.map PlanT.cells)), (LV.ro 2 (a0.Hosts.map HostT.cells))]])), (1, (.mp ((s9 ++ [(v22, true)]).map (mpC I (fun z : Bool => (LV.bool z)))))), (2, (.row 3 1 (y19.map iC)))] ⟨rfl, rfl, rfl, rfl, rfl, rfl, rfl, (congrArg (LV.int .i64) (w64_nat _ (by omega))), trivial⟩ ⟨⟨rfl, rfl, (by repeat' first | exact True.intro | exact rfl | exact NLs_bels (by assumption) | refine ⟨?_, ?_⟩)⟩, ⟨⟨(congrArg (fun q => some (Blk.mp q)) (by simp only [se_mp] : (((s9.map (mpC I (fun z : Bool => (LV.bool z)))) ++ [((I v22), (LV.bool true))]) : List (LV × LV)) = ((s9 ++ [(v22, true)]).map (mpC I (fun z : Bool => (LV.bool z)))))), rfl, bel_mp (f := I) (g := (fun z : Bool => (LV.bool z))) (fun _ => by repeat' first | exact True.intro | refine ⟨?_, ?_⟩) (fun _ => by repeat' first | exact True.intro | refine ⟨?_, ?_⟩) _ _⟩, ⟨⟨rfl, rfl, NLss_bel (NLss_map' _)⟩, trivial⟩⟩⟩ (by repeat' first | exact True.intro | exact rfl | exact NLs_bels (by assumption) | refine ⟨?_, ?_⟩) rfl (K9 _ e.symm)
                · try simp only [mget_some m8_, mput_some m8_, mhas_some m8_, mget_mput] at b9
                  have f24 : Finds TT 3 (setN (s9.map (mpC I (fun z : Bool => (LV.bool z)))) w8_ ((I v22), (LV.bool true))) (I v22) (some (w8_, (LV.bool true))) := by simpa only [se_mp] using finds_some (f := I) (g := (fun z : Bool => (LV.bool z))) ke_3 (mfind_set m8_ true)
                  repeat' first | with_reducible rfl | with_reducible exact True.intro | with_reducible assumption | refine parkI ?_ | (refine ⟨_, (finds_some (g := (fun z : Bool => (LV.bool z))) ke_3 m8_), ?_⟩; conv => whnf) | exact g21 | (rw [i23]; conv => whnf) | (refine And.intro ?_ ?_ <;> conv => whnf) | fail
                  have e := Option.some.inj b9
                  refine LoopW.norm [(1, (LV.ptr 0 0 0)), (4, (I (IntKind.i64.wrap (s5.1 + 1)))), (5, (LV.map 1)), (14, (I a0.Segs)), (15, (I ((k5 : Nat) : Int))), (25, (LV.sl 2 0 (y19.map iC).length)), (26, (I (((y19.map iC).length : Nat) : Int))), (27, (I ((k9 + 1 : Nat) : Int)))] 3 [(0, (.row 47 3 [[(I a0.Segs), (LV.ro 2 (a0.Plans.map PlanT.cells)), (LV.ro 2 (a0.Hosts.map HostT.cells))]])), (1, (.mp ((s9.set w8_ (v22, true)).map (mpC I (fun z : Bool => (LV.bool z)))))), (2, (.row 3 1 (y19.map iC)))] ⟨rfl, rfl, rfl, rfl, rfl, rfl, rfl, (congrArg (LV.int .i64) (w64_nat _ (by omega))), trivial⟩ ⟨⟨rfl, rfl, (by repeat' first | exact True.intro | exact rfl | exact NLs_bels (by assumption) | refine ⟨?_, ?_⟩)⟩, ⟨⟨(congrArg (fun q => some (Blk.mp q)) (by simp only [se_mp] : ((setN (s9.map (mpC I (fun z : Bool => (LV.bool z)))) w8_ ((I v22), (LV.bool true))) : List (LV × LV)) = ((s9.set w8_ (v22, true)).map (mpC I (fun z : Bool => (LV.bool z)))))), rfl, bel_mp (f := I) (g := (fun z : Bool => (LV.bool z))) (fun _ => by repeat' first | exact True.intro | refine ⟨?_, ?_⟩) (fun _ => by repeat' first | exact True.intro | refine ⟨?_, ?_⟩) _ _⟩, ⟨⟨rfl, rfl, NLss_bel (NLss_map' _)⟩, trivial⟩⟩⟩ (by repeat' first | exact True.intro | exact rfl | exact NLs_bels (by assumption) | refine ⟨?_, ?_⟩) rfl (K9 _ e.symm)
              · exact (Bool.false_ne_true (hc.symm.trans hd)).elim
        · try simp only [mget_some m7_, mput_some m7_, mhas_some m7_, mget_mput] at b5
          repeat' first | with_reducible rfl | with_reducible exact True.intro | with_reducible assumption | refine parkI ?_ | (refine ⟨_, (finds_some (g := (fun z : Bool => (LV.bool z))) ke_3 m7_), ?_⟩; conv => whnf) | (refine And.intro ?_ ?_ <;> conv => whnf) | fail
          refine parkE (fun hc => ?_) (fun hc => ?_)
          · replace b5 := condT hc b5
            conv => whnf
            repeat' first | with_reducible rfl | with_reducible exact True.intro | with_reducible assumption | refine parkI ?_ | (refine And.intro ?_ ?_ <;> conv => whnf) | fail
            have e := Option.some.inj b5
            refine LoopW.norm [(1, (LV.ptr 0 0 0)), (4, (I (s5.1, s5.2).1)), (5, (LV.map 1)), (14, (I a0.Segs)), (15, (I ((k5 + 1 : Nat) : Int)))] 2 [(0, (.row 47 3 [[(I a0.Segs), (LV.ro 2 (a0.Plans.map PlanT.cells)), (LV.ro 2 (a0.Hosts.map HostT.cells))]])), (1, (.mp ((s5.1, s5.2).2.map (mpC I (fun z : Bool => (LV.bool z))))))] ⟨rfl, (by simp only [se_map, se_byL, se_len, se_ch, List.length_map] : ((I s5.1) : LV) = (I (s5.1, s5.2).1)), rfl, rfl, (congrArg (LV.int .i64) (w64_nat _ (by omega))), trivial⟩ ⟨⟨rfl, rfl, (by repeat' first | exact True.intro | exact rfl | exact NLs_bels (by assumption) | refine ⟨?_, ?_⟩)⟩, ⟨⟨(congrArg (fun q => some (Blk.mp q)) (by simp only [se_mp] : ((s5.2.map (mpC I (fun z : Bool => (LV.bool z)))) : List (LV × LV)) = ((s5.1, s5.2).2.map (mpC I (fun z : Bool => (LV.bool z)))))), rfl, bel_mp (f := I) (g := (fun z : Bool => (LV.bool z))) (fun _ => by repeat' first | exact True.intro | refine ⟨?_, ?_⟩) (fun _ => by repeat' first | exact True.intro | refine ⟨?_, ?_⟩) _ _⟩, trivial⟩⟩ (by repeat' first | exact True.intro | exact rfl | exact NLs_bels (by assumption) | refine ⟨?_, ?_⟩) rfl (K5 _ e.symm)
          · replace b5 := condF hc b5
            conv => whnf
            replace b5 := bindS b5
            obtain ⟨y19, hy19, b5⟩ := b5
            have c20 := cf_lan_part a0 ((k5 : Nat) : Int) _ hy19
            repeat' first | with_reducible rfl | with_reducible exact True.intro | with_reducible assumption | refine parkI ?_ | (refine CallW.done (CallF.at c20 (by repeat' first | exact True.intro | assumption | refine ⟨?_, ?_⟩) (NLss_map' _)) ?_; conv => whnf) | (refine ⟨_, _, CallF.at c20 (by repeat' first | exact True.intro | assumption | refine ⟨?_, ?_⟩) (NLss_map' _), ?_⟩; conv => whnf) | (refine And.intro ?_ ?_ <;> conv => whnf) | fail
            replace b5 := aftS b5
            obtain ⟨O9, hO9, r9⟩ := b5
            refine LoopW.norm [(1, (LV.ptr 0 0 0)), (4, (I (IntKind.i64.wrap (s5.1 + 1)))), (5, (LV.map 1)), (14, (I a0.Segs)), (15, (I ((k5 : Nat) : Int))), (25, (LV.sl 2 0 (y19.map iC).length)), (26, (I (((y19.map iC).length : Nat) : Int))), (27, (I ((0 : Nat) : Int)))] 3 [(0, (.row 47 3 [[(I a0.Segs), (LV.ro 2 (a0.Plans.map PlanT.cells)), (LV.ro 2 (a0.Hosts.map HostT.cells))]])), (1, (.mp (s5.2.map (mpC I (fun z : Bool => (LV.bool z)))))), (2, (.row 3 1 (y19.map iC)))] ⟨rfl, rfl, rfl, rfl, rfl, rfl, rfl, rfl, trivial⟩ ⟨⟨rfl, rfl, (by repeat' first | exact True.intro | exact rfl | exact NLs_bels (by assumption) | refine ⟨?_, ?_⟩)⟩, ⟨⟨rfl, rfl, bel_mp (f := I) (g := (fun z : Bool => (LV.bool z))) (fun _ => by repeat' first | exact True.intro | refine ⟨?_, ?_⟩) (fun _ => by repeat' first | exact True.intro | refine ⟨?_, ?_⟩) _ _⟩, ⟨⟨rfl, rfl, NLss_bel (NLss_map' _)⟩, trivial⟩⟩⟩ (by repeat' first | exact True.intro | exact rfl | exact NLs_bels (by assumption) | refine ⟨?_, ?_⟩) rfl ?_
            refine LoopW.forN (fun k9 s9 => [(1, (LV.ptr 0 0 0)), (4, (I (IntKind.i64.wrap (s5.1 + 1)))), (5, (LV.map 1)), (14, (I a0.Segs)), (15, (I ((k5 : Nat) : Int))), (25, (LV.sl 2 0 (y19.map iC).length)), (26, (I (((y19.map iC).length : Nat) : Int))), (27, (I ((k9 : Nat) : Int)))]) (fun s9 => ⟨3, [(0, (.row 47 3 [[(I a0.Segs), (LV.ro 2 (a0.Plans.map PlanT.cells)), (LV.ro 2 (a0.Hosts.map HostT.cells))]])), (1, (.mp (s9.map (mpC I (fun z : Bool => (LV.bool z)))))), (2, (.row 3 1 (y19.map iC)))]⟩) hO9 (fun hl9 s9 hs9 => ?_) (fun hl9 k9 s9 o9 hk9 b9 K9 hret9 hbrk9 => ?_)
            · rw [hs9] at r9
              dsimp only [aftM] at r9
              have hd : decide ((((((y19.length : Nat) : Int)).toNat : Nat) : Int) < (((y19.map iC).length : Nat) : Int)) = false := by rw [decide_eq_false_iff_not]; (try simp only [se_len, se_ch, List.length_map]); omega
              refine LoopW.round TT_ok [0, 1, 2, 3, 4, 5, 6, 8, 11, 14, 15, 16, 20, 25, 26, 27, 28] ?_
              conv => whnf
              repeat' first | with_reducible rfl | with_reducible exact True.intro | with_reducible assumption | refine parkI ?_ | (refine And.intro ?_ ?_ <;> conv => whnf) | fail
              refine parkE (fun hc => ?_) (fun hc => ?_)
              · exact (Bool.false_ne_true (hd.symm.trans hc)).elim
              · clear hd
                conv => whnf
                repeat' first | with_reducible rfl | with_reducible exact True.intro | with_reducible assumption | refine parkI ?_ | (refine And.intro ?_ ?_ <;> conv => whnf) | fail
                have e := Option.some.inj r9
                refine LoopW.norm [(1, (LV.ptr 0 0 0)), (4, (I ((IntKind.i64.wrap (s5.1 + 1)), s9).1)), (5, (LV.map 1)), (14, (I a0.Segs)), (15, (I ((k5 + 1 : Nat) : Int)))] 2 [(0, (.row 47 3 [[(I a0.Segs), (LV.ro 2 (a0.Plans.map PlanT.cells)), (LV.ro 2 (a0.Hosts.map HostT.cells))]])), (1, (.mp (((IntKind.i64.wrap (s5.1 + 1)), s9).2.map (mpC I (fun z : Bool => (LV.bool z))))))] ⟨rfl, (by simp only [se_map, se_byL, se_len, se_ch, List.length_map] : ((I (IntKind.i64.wrap (s5.1 + 1))) : LV) = (I ((IntKind.i64.wrap (s5.1 + 1)), s9).1)), rfl, rfl, (congrArg (LV.int .i64) (w64_nat _ (by omega))), trivial⟩ ⟨⟨rfl, rfl, (by repeat' first | exact True.intro | exact rfl | exact NLs_bels (by assumption) | refine ⟨?_, ?_⟩)⟩, ⟨⟨(congrArg (fun q => some (Blk.mp q)) (by simp only [se_mp] : ((s9.map (mpC I (fun z : Bool => (LV.bool z)))) : List (LV × LV)) = (((IntKind.i64.wrap (s5.1 + 1)), s9).2.map (mpC I (fun z : Bool => (LV.bool z)))))), rfl, bel_mp (f := I) (g := (fun z : Bool => (LV.bool z))) (fun _ => by repeat' first | exact True.intro | refine ⟨?_, ?_⟩) (fun _ => by repeat' first | exact True.intro | refine ⟨?_, ?_⟩) _ _⟩, trivial⟩⟩ (by repeat' first | exact True.intro | exact rfl | exact NLs_bels (by assumption) | refine ⟨?_, ?_⟩) rfl (K5 _ e.symm)
            · unfold lan_Parts_b9 at b9
              have hd : decide (((k9 : Nat) : Int) < (((y19.map iC).length : Nat) : Int)) = true := by rw [decide_eq_true_eq]; (try simp only [se_len, se_ch, List.length_map] at hk9); (try simp only [se_len, se_ch, List.length_map]); omega
              refine LoopW.round TT_ok [0, 1, 2, 3, 4, 5, 6, 8, 11, 14, 15, 16, 20, 25, 26, 27, 28] ?_
              conv => whnf
              repeat' first | with_reducible rfl | with_reducible exact True.intro | with_reducible assumption | refine parkI ?_ | (refine And.intro ?_ ?_ <;> conv => whnf) | fail
              refine parkE (fun hc => ?_) (fun hc => ?_)
              · clear hd
                conv => whnf
                replace b9 := grdS b9
                obtain ⟨g21, b9⟩ := b9
                replace g21 : (0 : Int) ≤ ((k9 : Nat) : Int) ∧ ((k9 : Nat) : Int) < (((y19.map iC).length : Nat) : Int) := by simpa only [se_len, se_ch, List.length_map] using g21
                replace b9 := bindS b9
                obtain ⟨v22, hv22, b9⟩ := b9
                have i23 : nth (y19.map iC) (0 + ((((k9 : Nat) : Int) : Int).toNat)) = some [(I v22)] := by simpa only [se_map, se_len, se_ch, List.length_map, nth_eq, Nat.zero_add, List.getElem?_map] using gixNF (f := iC) hv22
                rcases m9_ : mfind s9 v22 with _ | ⟨w9_, u9_⟩
                · try simp only [mget_none m9_, mput_none m9_, mhas_none m9_, mget_mput] at b9
                  have f24 : Finds TT 3 ((s9.map (mpC I (fun z : Bool => (LV.bool z)))) ++ [((I v22), (LV.bool true))]) (I v22) (some (s9.length, (LV.bool true))) := by simpa only [se_mp] using finds_some (f := I) (g := (fun z : Bool => (LV.bool z))) ke_3 (mfind_app m9_ true)
                  repeat' first | with_reducible rfl | with_reducible exact True.intro | with_reducible assumption | refine parkI ?_ | (refine ⟨_, (finds_none (g := (fun z : Bool => (LV.bool z))) ke_3 m9_), ?_⟩; conv => whnf) | exact g21 | (rw [i23]; conv => whnf) | (refine And.intro ?_ ?_ <;> conv => whnf) | fail
                  have e := Option.some.inj b9
                  refine LoopW.norm [(1, (LV.ptr 0 0 0)), (4, (I (IntKind.i64.wrap (s5.1 + 1)))), (5, (LV.map 1)), (14, (I a0.Segs)), (15, (I ((k5 : Nat) : Int))), (25, (LV.sl 2 0 (y19.map iC).length)), (26, (I (((y19.map iC).length : Nat) : Int))), (27, (I ((k9 + 1 : Nat) : Int)))] 3 [(0, (.row 47 3 [[(I a0.Segs), (LV.ro 2 (a0.Plans.map PlanT.cells)), (LV.ro 2 (a0.Hosts.map HostT.cells))]])), (1, (.mp ((s9 ++ [(v22, true)]).map (mpC I (fun z : Bool => (LV.bool z)))))), (2, (.row 3 1 (y19.map iC)))] ⟨rfl, rfl, rfl, rfl, rfl, rfl, rfl, (congrArg (LV.int .i64) (w64_nat _ (by omega))), trivial⟩ ⟨⟨rfl, rfl, (by repeat' first | exact True.intro | exact rfl | exact NLs_bels (by assumption) | refine ⟨?_, ?_⟩)⟩, ⟨⟨(congrArg (fun q => some (Blk.mp q)) (by simp only [se_mp] : (((s9.map (mpC I (fun z : Bool => (LV.bool z)))) ++ [((I v22), (LV.bool true))]) : List (LV × LV)) = ((s9 ++ [(v22, true)]).map (mpC I (fun z : Bool => (LV.bool z)))))), rfl, bel_mp (f := I) (g := (fun z : Bool => (LV.bool z))) (fun _ => by repeat' first | exact True.intro | refine ⟨?_, ?_⟩) (fun _ => by repeat' first | exact True.intro | refine ⟨?_, ?_⟩) _ _⟩, ⟨⟨rfl, rfl, NLss_bel (NLss_map' _)⟩, trivial⟩⟩⟩ (by repeat' first | exact True.intro | exact rfl | exact NLs_bels (by assumption) | refine ⟨?_, ?_⟩) rfl (K9 _ e.symm)
                · try simp only [mget_some m9_, mput_some m9_, mhas_some m9_, mget_mput] at b9
                  have f24 : Finds TT 3 (setN (s9.map (mpC I (fun z : Bool => (LV.bool z)))) w9_ ((I v22), (LV.bool true))) (I v22) (some (w9_, (LV.bool true))) := by simpa only [se_mp] using finds_some (f := I) (g := (fun z : Bool => (LV.bool z))) ke_3 (mfind_set m9_ true)
                  repeat' first | with_reducible rfl | with_reducible exact True.intro | with_reducible assumption | refine parkI ?_ | (refine ⟨_, (finds_some (g := (fun z : Bool => (LV.bool z))) ke_3 m9_), ?_⟩; conv => whnf) | exact g21 | (rw [i23]; conv => whnf) | (refine And.intro ?_ ?_ <;> conv => whnf) | fail
                  have e := Option.some.inj b9
                  refine LoopW.norm [(1, (LV.ptr 0 0 0)), (4, (I (IntKind.i64.wrap (s5.1 + 1)))), (5, (LV.map 1)), (14, (I a0.Segs)), (15, (I ((k5 : Nat) : Int))), (25, (LV.sl 2 0 (y19.map iC).length)), (26, (I (((y19.map iC).length : Nat) : Int))), (27, (I ((k9 + 1 : Nat) : Int)))] 3 [(0, (.row 47 3 [[(I a0.Segs), (LV.ro 2 (a0.Plans.map PlanT.cells)), (LV.ro 2 (a0.Hosts.map HostT.cells))]])), (1, (.mp ((s9.set w9_ (v22, true)).map (mpC I (fun z : Bool => (LV.bool z)))))), (2, (.row 3 1 (y19.map iC)))] ⟨rfl, rfl, rfl, rfl, rfl, rfl, rfl, (congrArg (LV.int .i64) (w64_nat _ (by omega))), trivial⟩ ⟨⟨rfl, rfl, (by repeat' first | exact True.intro | exact rfl | exact NLs_bels (by assumption) | refine ⟨?_, ?_⟩)⟩, ⟨⟨(congrArg (fun q => some (Blk.mp q)) (by simp only [se_mp] : ((setN (s9.map (mpC I (fun z : Bool => (LV.bool z)))) w9_ ((I v22), (LV.bool true))) : List (LV × LV)) = ((s9.set w9_ (v22, true)).map (mpC I (fun z : Bool => (LV.bool z)))))), rfl, bel_mp (f := I) (g := (fun z : Bool => (LV.bool z))) (fun _ => by repeat' first | exact True.intro | refine ⟨?_, ?_⟩) (fun _ => by repeat' first | exact True.intro | refine ⟨?_, ?_⟩) _ _⟩, ⟨⟨rfl, rfl, NLss_bel (NLss_map' _)⟩, trivial⟩⟩⟩ (by repeat' first | exact True.intro | exact rfl | exact NLs_bels (by assumption) | refine ⟨?_, ?_⟩) rfl (K9 _ e.symm)
              · exact (Bool.false_ne_true (hc.symm.trans hd)).elim
      · exact (Bool.false_ne_true (hc.symm.trans hd)).elim

def lan_Loops_b11  (k11 : Nat) (x11 : LinkT) (s11 : Int) : Option (Step (Step (Int × Int) Int) Int) :=
  (bif x11.Up then
    some (.nxt (IntKind.i64.wrap (s11 + 1)))
  else
    some (.nxt s11))

def lan_Loops_b10  (k10 : Nat) (x10 : PlanT) (s10 : Int) : Option (Step (Int × Int) Int) :=
  aft (rangeL (lan_Loops_b11 ) x10.Ports 0) fun s11 =>
  some (.nxt (IntKind.i64.wrap (s10 + (mx (IntKind.i64.wrap (s11 - 1)) 0))))

def lan_Loops (a0 : LanT) : Option (Int × Int) :=
  (lan_Parts a0).bind fun y25 =>
  (bif (!decide (y25.2 = 0)) then
    some (0, y25.2)
  else
    aft (rangeL (lan_Loops_b10 ) a0.Plans (IntKind.i64.wrap (y25.1 - a0.Segs))) fun s10 =>
    some (s10, 0))

theorem c_lan_Loops (a0 : LanT) (r : (Int × Int)) (h : lan_Loops a0 = some r) : CallP Try.prog 73 [(LV.agg [(I a0.Segs), (LV.ro 2 (a0.Plans.map PlanT.cells)), (LV.ro 2 (a0.Hosts.map HostT.cells))])] (LV.tup [(I r.1), (I r.2)]) := by
  unfold lan_Loops at h
  refine .intro (by repeat' first | exact True.intro | assumption | refine ⟨?_, ?_⟩) (.intro TT_ok Try.func73 rfl rfl [0, 1, 2, 3, 4, 5, 7, 8, 10, 17, 24, 25, 26, 27, 31, 32, 33, 34, 38] rfl ?_)
  conv => whnf
  replace h := bindS h
  obtain ⟨y25, hy25, h⟩ := h
  have c26 := c_lan_Parts a0 _ hy25
  repeat' first | with_reducible rfl | with_reducible exact True.intro | with_reducible assumption | refine parkI ?_ | (refine CallP.use c26 ?_; conv => whnf) | (refine And.intro ?_ ?_ <;> conv => whnf) | fail
  refine parkE (fun hc => ?_) (fun hc => ?_)
  · replace h := condT hc h
    conv => whnf
    have e := Option.some.inj h
    subst e
    repeat' first | with_reducible rfl | with_reducible exact True.intro | with_reducible assumption | exact (congrArg Bool.not h) | exact fun _ => True.intro | exact (rfl : (_ : Nat) = _) | exact (rfl : (_ : LV) = _) | exact NLss_map' _ | refine NLss_app ?_ ?_ | refine NLss_set ?_ ?_ | (refine And.intro ?_ ?_ <;> conv => whnf) | (intro h; (conv => whnf) <;> first | with_reducible rfl | assumption | exact h | exact (congrArg Bool.not h) | (refine ⟨h, True.intro⟩) | (refine ⟨congrArg Bool.not h, True.intro⟩) | (refine ⟨by assumption, True.intro⟩)) | (intro h; exact (Bool.false_ne_true (h.symm.trans (by assumption))).elim) | (intros; simp_all; done) | (refine gand ?_ h; assumption) | (simp only [se_map, se_byL]; exact rfl) | (simp only [se_map, se_byL, se_len, se_ch, List.length_map]; done) | fail
  · replace h := condF hc h
    conv => whnf
    repeat' first | with_reducible rfl | with_reducible exact True.intro | with_reducible assumption | refine parkI ?_ | (refine And.intro ?_ ?_ <;> conv => whnf) | fail
    replace h := aftS h
    obtain ⟨O10, hO10, r10⟩ := h
    refine LoopW.norm [(4, (I (IntKind.i64.wrap (y25.1 - a0.Segs)))), (24, (LV.ro 2 (a0.Plans.map PlanT.cells))), (25, (I (((a0.Plans.map PlanT.cells).length : Nat) : Int))), (26, (I ((0 : Nat) : Int)))] 0 [] ⟨rfl, rfl, rfl, rfl, trivial⟩ trivial (by repeat' first | exact True.intro | exact rfl | exact NLs_bels (by assumption) | refine ⟨?_, ?_⟩) rfl ?_
    refine LoopW.forR (fun k10 s10 => [(4, (I s10)), (24, (LV.ro 2 (a0.Plans.map PlanT.cells))), (25, (I (((a0.Plans.map PlanT.cells).length : Nat) : Int))), (26, (I ((k10 : Nat) : Int)))]) (fun s10 => ⟨0, []⟩) hO10 (fun hl10 s10 hs10 => ?_) (fun hl10 k10 x10 s10 o10 hk10 hx10 b10 K10 hret10 hbrk10 => ?_)
    · rw [hs10] at r10
      dsimp only [aftM] at r10
      have hd : decide (((a0.Plans.length : Nat) : Int) < (((a0.Plans.map PlanT.cells).length : Nat) : Int)) = false := by rw [decide_eq_false_iff_not]; (try simp only [se_len, se_ch, List.length_map]); omega
      refine LoopW.round TT_ok [0, 1, 2, 3, 4, 5, 7, 8, 10, 17, 24, 25, 26, 27, 31, 32, 33, 34, 38] ?_
      conv => whnf
      repeat' first | with_reducible rfl | with_reducible exact True.intro | with_reducible assumption | refine parkI ?_ | (refine And.intro ?_ ?_ <;> conv => whnf) | fail
      refine parkE (fun hc => ?_) (fun hc => ?_)
      · exact (Bool.false_ne_true (hd.symm.trans hc)).elim
      · clear hd
        conv => whnf
        have e := Option.some.inj r10
        subst e
        repeat' first | with_reducible rfl | with_reducible exact True.intro | with_reducible assumption | exact (congrArg Bool.not h) | exact fun _ => True.intro | exact (rfl : (_ : Nat) = _) | exact (rfl : (_ : LV) = _) | exact NLss_map' _ | refine NLss_app ?_ ?_ | refine NLss_set ?_ ?_ | (refine And.intro ?_ ?_ <;> conv => whnf) | (intro h; (conv => whnf) <;> first | with_reducible rfl | assumption | exact h | exact (congrArg Bool.not h) | (refine ⟨h, True.intro⟩) | (refine ⟨congrArg Bool.not h, True.intro⟩) | (refine ⟨by assumption, True.intro⟩)) | (intro h; exact (Bool.false_ne_true (h.symm.trans (by assumption))).elim) | (intros; simp_all; done) | (refine gand ?_ h; assumption) | (simp only [se_map, se_byL]; exact rfl) | (simp only [se_map, se_byL, se_len, se_ch, List.length_map]; done) | fail
    · unfold lan_Loops_b10 at b10
      have hd : decide (((k10 : Nat) : Int) < (((a0.Plans.map PlanT.cells).length : Nat) : Int)) = true := by rw [decide_eq_true_eq]; (try simp only [se_len, se_ch, List.length_map] at hk10); (try simp only [se_len, se_ch, List.length_map]); omega
      refine LoopW.round TT_ok [0, 1, 2, 3, 4, 5, 7, 8, 10, 17, 24, 25, 26, 27, 31, 32, 33, 34, 38] ?_
      conv => whnf
      repeat' first | with_reducible rfl | with_reducible exact True.intro | with_reducible assumption | refine parkI ?_ | (refine And.intro ?_ ?_ <;> conv => whnf) | fail
      refine parkE (fun hc => ?_) (fun hc => ?_)
      · clear hd
        conv => whnf
        repeat' first | with_reducible rfl | with_reducible exact True.intro | with_reducible assumption | refine parkI ?_ | (refine ⟨_, (kixF (f := PlanT.cells) hx10), ?_⟩; conv => whnf) | (refine And.intro ?_ ?_ <;> conv => whnf) | fail
        replace b10 := aftS b10
        obtain ⟨O11, hO11, r11⟩ := b10
        refine LoopW.norm [(4, (I s10)), (8, (I 0)), (24, (LV.ro 2 (a0.Plans.map PlanT.cells))), (25, (I (((a0.Plans.map PlanT.cells).length : Nat) : Int))), (26, (I ((k10 : Nat) : Int))), (31, (LV.ro 3 (x10.Ports.map LinkT.cells))), (32, (I (((x10.Ports.map LinkT.cells).length : Nat) : Int))), (33, (I ((0 : Nat) : Int)))] 0 [] ⟨rfl, rfl, rfl, rfl, rfl, rfl, rfl, rfl, trivial⟩ trivial (by repeat' first | exact True.intro | exact rfl | exact NLs_bels (by assumption) | refine ⟨?_, ?_⟩) rfl ?_
        refine LoopW.forR (fun k11 s11 => [(4, (I s10)), (8, (I s11)), (24, (LV.ro 2 (a0.Plans.map PlanT.cells))), (25, (I (((a0.Plans.map PlanT.cells).length : Nat) : Int))), (26, (I ((k10 : Nat) : Int))), (31, (LV.ro 3 (x10.Ports.map LinkT.cells))), (32, (I (((x10.Ports.map LinkT.cells).length : Nat) : Int))), (33, (I ((k11 : Nat) : Int)))]) (fun s11 => ⟨0, []⟩) hO11 (fun hl11 s11 hs11 => ?_) (fun hl11 k11 x11 s11 o11 hk11 hx11 b11 K11 hret11 hbrk11 => ?_)
        · rw [hs11] at r11
          dsimp only [aftM] at r11
          have hd : decide (((x10.Ports.length : Nat) : Int) < (((x10.Ports.map LinkT.cells).length : Nat) : Int)) = false := by rw [decide_eq_false_iff_not]; (try simp only [se_len, se_ch, List.length_map]); omega
          refine LoopW.round TT_ok [0, 1, 2, 3, 4, 5, 7, 8, 10, 17, 24, 25, 26, 27, 31, 32, 33, 34, 38] ?_
          conv => whnf
          repeat' first | with_reducible rfl | with_reducible exact True.intro | with_reducible assumption | refine parkI ?_ | (refine And.intro ?_ ?_ <;> conv => whnf) | fail
          refine parkE (fun hc => ?_) (fun hc => ?_)
          · exact (Bool.false_ne_true (hd.symm.trans hc)).elim
          · clear hd
            conv => whnf
            repeat' first | with_reducible rfl | with_reducible exact True.intro | with_reducible assumption | refine parkI ?_ | (refine And.intro ?_ ?_ <;> conv => whnf) | fail
            have e := Option.some.inj r11
            refine LoopW.norm [(4, (I (IntKind.i64.wrap (s10 + (mx (IntKind.i64.wrap (s11 - 1)) 0))))), (24, (LV.ro 2 (a0.Plans.map PlanT.cells))), (25, (I (((a0.Plans.map PlanT.cells).length : Nat) : Int))), (26, (I ((k10 + 1 : Nat) : Int)))] 0 [] ⟨rfl, rfl, rfl, (congrArg (LV.int .i64) (w64_nat _ (by omega))), trivial⟩ trivial (by repeat' first | exact True.intro | exact rfl | exact NLs_bels (by assumption) | refine ⟨?_, ?_⟩) rfl (K10 _ e.symm)
        · unfold lan_Loops_b11 at b11
          have hd : decide (((k11 : Nat) : Int) < (((x10.Ports.map LinkT.cells).length : Nat) : Int)) = true := by rw [decide_eq_true_eq]; (try simp only [se_len, se_ch, List.length_map] at hk11); (try simp only [se_len, se_ch, List.length_map]); omega
          refine LoopW.round TT_ok [0, 1, 2, 3, 4, 5, 7, 8, 10, 17, 24, 25, 26, 27, 31, 32, 33, 34, 38] ?_
          conv => whnf
          repeat' first | with_reducible rfl | with_reducible exact True.intro | with_reducible assumption | refine parkI ?_ | (refine And.intro ?_ ?_ <;> conv => whnf) | fail
          refine parkE (fun hc => ?_) (fun hc => ?_)
          · clear hd
            conv => whnf
            repeat' first | with_reducible rfl | with_reducible exact True.intro | with_reducible assumption | refine parkI ?_ | (refine ⟨_, (kixF (f := LinkT.cells) hx11), ?_⟩; conv => whnf) | (refine And.intro ?_ ?_ <;> conv => whnf) | fail
            refine parkE (fun hc => ?_) (fun hc => ?_)
            · replace b11 := condT hc b11
              conv => whnf
              repeat' first | with_reducible rfl | with_reducible exact True.intro | with_reducible assumption | refine parkI ?_ | (refine And.intro ?_ ?_ <;> conv => whnf) | fail
              have e := Option.some.inj b11
              refine LoopW.norm [(4, (I s10)), (8, (I (IntKind.i64.wrap (s11 + 1)))), (24, (LV.ro 2 (a0.Plans.map PlanT.cells))), (25, (I (((a0.Plans.map PlanT.cells).length : Nat) : Int))), (26, (I ((k10 : Nat) : Int))), (31, (LV.ro 3 (x10.Ports.map LinkT.cells))), (32, (I (((x10.Ports.map LinkT.cells).length : Nat) : Int))), (33, (I ((k11 + 1 : Nat) : Int)))] 0 [] ⟨rfl, rfl, rfl, rfl, rfl, rfl, rfl, (congrArg (LV.int .i64) (w64_nat _ (by omega))), trivial⟩ trivial (by repeat' first | exact True.intro | exact rfl | exact NLs_bels (by assumption) | refine ⟨?_, ?_⟩) rfl (K11 _ e.symm)
            · replace b11 := condF hc b11
              conv => whnf
              repeat' first | with_reducible rfl | with_reducible exact True.intro | with_reducible assumption | refine parkI ?_ | (refine And.intro ?_ ?_ <;> conv => whnf) | fail
              have e := Option.some.inj b11
              refine LoopW.norm [(4, (I s10)), (8, (I s11)), (24, (LV.ro 2 (a0.Plans.map PlanT.cells))), (25, (I (((a0.Plans.map PlanT.cells).length : Nat) : Int))), (26, (I ((k10 : Nat) : Int))), (31, (LV.ro 3 (x10.Ports.map LinkT.cells))), (32, (I (((x10.Ports.map LinkT.cells).length : Nat) : Int))), (33, (I ((k11 + 1 : Nat) : Int)))] 0 [] ⟨rfl, rfl, rfl, rfl, rfl, rfl, rfl, (congrArg (LV.int .i64) (w64_nat _ (by omega))), trivial⟩ trivial (by repeat' first | exact True.intro | exact rfl | exact NLs_bels (by assumption) | refine ⟨?_, ?_⟩) rfl (K11 _ e.symm)
          · exact (Bool.false_ne_true (hc.symm.trans hd)).elim
      · exact (Bool.false_ne_true (hc.symm.trans hd)).elim

def law15_alive  : Option Bool :=
  (lan_Loops (⟨2, ([(⟨1, ([(⟨0, 1, true⟩ : LinkT), (⟨1, 1, true⟩ : LinkT)] : (List LinkT))⟩ : PlanT), (⟨2, ([(⟨0, 1, true⟩ : LinkT), (⟨1, 1, true⟩ : LinkT)] : (List LinkT))⟩ : PlanT)] : (List PlanT)), []⟩ : LanT)).bind fun y27 =>
  some (bif (decide (y27.2 = 0)) then (decide (y27.1 = 1)) else false)

theorem c_law15_alive  (r : Bool) (h : law15_alive  = some r) : CallP Try.prog 75 [] (LV.bool r) := by
  unfold law15_alive at h
  refine .intro (by repeat' first | exact True.intro | assumption | refine ⟨?_, ?_⟩) (.intro TT_ok Try.func75 rfl rfl [0, 1, 2, 3] rfl ?_)
  conv => whnf
  replace h := bindS h
  obtain ⟨y27, hy27, h⟩ := h
  have c28 : CallP Try.prog 73 [(LV.agg [(I 2), (LV.ro 2 [[(I 1), (LV.ro 3 [[(I 0), (I 1), (LV.bool true)], [(I 1), (I 1), (LV.bool true)]])], [(I 2), (LV.ro 3 [[(I 0), (I 1), (LV.bool true)], [(I 1), (I 1), (LV.bool true)]])]]), (LV.ro 2 ([] : List (List LV)))])] (LV.tup [(I y27.1), (I y27.2)]) := by first | exact c_lan_Loops (⟨2, ([(⟨1, ([(⟨0, 1, true⟩ : LinkT), (⟨1, 1, true⟩ : LinkT)] : (List LinkT))⟩ : PlanT), (⟨2, ([(⟨0, 1, true⟩ : LinkT), (⟨1, 1, true⟩ : LinkT)] : (List LinkT))⟩ : PlanT)] : (List PlanT)), []⟩ : LanT) _ hy27 | (simpa only [se_map, se_byL, se_len, se_ch, List.length_map] using c_lan_Loops (⟨2, ([(⟨1, ([(⟨0, 1, true⟩ : LinkT), (⟨1, 1, true⟩ : LinkT)] : (List LinkT))⟩ : PlanT), (⟨2, ([(⟨0, 1, true⟩ : LinkT), (⟨1, 1, true⟩ : LinkT)] : (List LinkT))⟩ : PlanT)] : (List PlanT)), []⟩ : LanT) _ hy27) | (simpa only [se_map, se_byL, se_len, se_ch, List.length_map, LanT.cells, LinkT.cells, PlanT.cells] using c_lan_Loops (⟨2, ([(⟨1, ([(⟨0, 1, true⟩ : LinkT), (⟨1, 1, true⟩ : LinkT)] : (List LinkT))⟩ : PlanT), (⟨2, ([(⟨0, 1, true⟩ : LinkT), (⟨1, 1, true⟩ : LinkT)] : (List LinkT))⟩ : PlanT)] : (List PlanT)), []⟩ : LanT) _ hy27)
  have e := Option.some.inj h
  subst e
  repeat' first | with_reducible rfl | with_reducible exact True.intro | with_reducible assumption | (refine CallP.use (CallP.up c28 (by repeat' first | exact Up.refl _ | exact Up.nil _ | exact True.intro | refine Up.agg ?_ | refine ⟨?_, ?_⟩)) ?_; conv => whnf) | exact (congrArg Bool.not h) | exact fun _ => True.intro | exact (rfl : (_ : Nat) = _) | exact (rfl : (_ : LV) = _) | exact NLss_map' _ | refine NLss_app ?_ ?_ | refine NLss_set ?_ ?_ | (refine And.intro ?_ ?_ <;> conv => whnf) | (intro h; (conv => whnf) <;> first | with_reducible rfl | assumption | exact h | exact (congrArg Bool.not h) | (refine ⟨h, True.intro⟩) | (refine ⟨congrArg Bool.not h, True.intro⟩) | (refine ⟨by assumption, True.intro⟩)) | (intro h; exact (Bool.false_ne_true (h.symm.trans (by assumption))).elim) | (intros; simp_all; done) | (refine gand ?_ h; assumption) | (simp only [se_map, se_byL]; exact rfl) | (simp only [se_map, se_byL, se_len, se_ch, List.length_map]; done) | fail

def lan_may (a0 : LanT) (a1 : Int) : Option Int :=
  (lan_Right a0).bind fun y29 =>
  (bif (!y29) then
    some 1
  else
    (lan_in a1 0 (IntKind.i64.wrap (a0.Segs - 1))).bind fun y31 =>
    (bif (!y31) then
      some 3
    else
      some 0))

theorem c_lan_may (a0 : LanT) (a1 : Int) (r : Int) (h : lan_may a0 a1 = some r) : CallP Try.prog 154 [(LV.agg [(I a0.Segs), (LV.ro 2 (a0.Plans.map PlanT.cells)), (LV.ro 2 (a0.Hosts.map HostT.cells))]), (I a1)] (I r) := by
  unfold lan_may at h
  refine .intro (by repeat' first | exact True.intro | assumption | refine ⟨?_, ?_⟩) (.intro TT_ok Try.func154 rfl rfl [0, 1, 2, 4, 5, 9] rfl ?_)
  conv => whnf
  replace h := bindS h
  obtain ⟨y29, hy29, h⟩ := h
  have c30 := c_lan_Right a0 _ hy29
  repeat' first | with_reducible rfl | with_reducible exact True.intro | with_reducible assumption | refine parkI ?_ | (refine CallP.use c30 ?_; conv => whnf) | (refine And.intro ?_ ?_ <;> conv => whnf) | fail
  refine parkE (fun hc => ?_) (fun hc => ?_)
  · replace h := condT hc h
    conv => whnf
    have e := Option.some.inj h
    subst e
    repeat' first | with_reducible rfl | with_reducible exact True.intro | with_reducible assumption | exact (congrArg Bool.not h) | exact fun _ => True.intro | exact (rfl : (_ : Nat) = _) | exact (rfl : (_ : LV) = _) | exact NLss_map' _ | refine NLss_app ?_ ?_ | refine NLss_set ?_ ?_ | (refine And.intro ?_ ?_ <;> conv => whnf) | (intro h; (conv => whnf) <;> first | with_reducible rfl | assumption | exact h | exact (congrArg Bool.not h) | (refine ⟨h, True.intro⟩) | (refine ⟨congrArg Bool.not h, True.intro⟩) | (refine ⟨by assumption, True.intro⟩)) | (intro h; exact (Bool.false_ne_true (h.symm.trans (by assumption))).elim) | (intros; simp_all; done) | (refine gand ?_ h; assumption) | (simp only [se_map, se_byL]; exact rfl) | (simp only [se_map, se_byL, se_len, se_ch, List.length_map]; done) | fail
  · replace h := condF hc h
    conv => whnf
    replace h := bindS h
    obtain ⟨y31, hy31, h⟩ := h
    have c32 := c_lan_in a1 0 (IntKind.i64.wrap (a0.Segs - 1)) _ hy31
    repeat' first | with_reducible rfl | with_reducible exact True.intro | with_reducible assumption | refine parkI ?_ | (refine CallP.use c32 ?_; conv => whnf) | (refine And.intro ?_ ?_ <;> conv => whnf) | fail
    refine parkE (fun hc => ?_) (fun hc => ?_)
    · replace h := condT hc h
      conv => whnf
      have e := Option.some.inj h
      subst e
      repeat' first | with_reducible rfl | with_reducible exact True.intro | with_reducible assumption | exact (congrArg Bool.not h) | exact fun _ => True.intro | exact (rfl : (_ : Nat) = _) | exact (rfl : (_ : LV) = _) | exact NLss_map' _ | refine NLss_app ?_ ?_ | refine NLss_set ?_ ?_ | (refine And.intro ?_ ?_ <;> conv => whnf) | (intro h; (conv => whnf) <;> first | with_reducible rfl | assumption | exact h | exact (congrArg Bool.not h) | (refine ⟨h, True.intro⟩) | (refine ⟨congrArg Bool.not h, True.intro⟩) | (refine ⟨by assumption, True.intro⟩)) | (intro h; exact (Bool.false_ne_true (h.symm.trans (by assumption))).elim) | (intros; simp_all; done) | (refine gand ?_ h; assumption) | (simp only [se_map, se_byL]; exact rfl) | (simp only [se_map, se_byL, se_len, se_ch, List.length_map]; done) | fail
    · replace h := condF hc h
      conv => whnf
      have e := Option.some.inj h
      subst e
      repeat' first | with_reducible rfl | with_reducible exact True.intro | with_reducible assumption | exact (congrArg Bool.not h) | exact fun _ => True.intro | exact (rfl : (_ : Nat) = _) | exact (rfl : (_ : LV) = _) | exact NLss_map' _ | refine NLss_app ?_ ?_ | refine NLss_set ?_ ?_ | (refine And.intro ?_ ?_ <;> conv => whnf) | (intro h; (conv => whnf) <;> first | with_reducible rfl | assumption | exact h | exact (congrArg Bool.not h) | (refine ⟨h, True.intro⟩) | (refine ⟨congrArg Bool.not h, True.intro⟩) | (refine ⟨by assumption, True.intro⟩)) | (intro h; exact (Bool.false_ne_true (h.symm.trans (by assumption))).elim) | (intros; simp_all; done) | (refine gand ?_ h; assumption) | (simp only [se_map, se_byL]; exact rfl) | (simp only [se_map, se_byL, se_len, se_ch, List.length_map]; done) | fail

def lan_Part (a0 : LanT) (a1 : Int) : Option ((List Int) × Int) :=
  (lan_may a0 a1).bind fun y33 =>
  (bif (!decide (y33 = 0)) then
    some ([], y33)
  else
    (lan_part a0 a1).bind fun y35 =>
    some (y35, 0))

theorem c_lan_Part (a0 : LanT) (a1 : Int) (r : ((List Int) × Int)) (h : lan_Part a0 a1 = some r) : CallP Try.prog 77 [(LV.agg [(I a0.Segs), (LV.ro 2 (a0.Plans.map PlanT.cells)), (LV.ro 2 (a0.Hosts.map HostT.cells))]), (I a1)] (LV.tup [(LV.ro 1 (r.1.map iC)), (I r.2)]) := by
  unfold lan_Part at h
  refine .intro (by repeat' first | exact True.intro | assumption | refine ⟨?_, ?_⟩) (.intro TT_ok Try.func77 rfl rfl [0, 1, 2, 4, 5, 6, 11] rfl ?_)
  conv => whnf
  replace h := bindS h
  obtain ⟨y33, hy33, h⟩ := h
  have c34 := c_lan_may a0 a1 _ hy33
  repeat' first | with_reducible rfl | with_reducible exact True.intro | with_reducible assumption | refine parkI ?_ | (refine CallP.use c34 ?_; conv => whnf) | (refine And.intro ?_ ?_ <;> conv => whnf) | fail
  refine parkE (fun hc => ?_) (fun hc => ?_)
  · replace h := condT hc h
    conv => whnf
    have e := Option.some.inj h
    subst e
    repeat' first | with_reducible rfl | with_reducible exact True.intro | with_reducible assumption | exact (congrArg Bool.not h) | exact fun _ => True.intro | exact (rfl : (_ : Nat) = _) | exact (rfl : (_ : LV) = _) | exact NLss_map' _ | refine NLss_app ?_ ?_ | refine NLss_set ?_ ?_ | (refine And.intro ?_ ?_ <;> conv => whnf) | (intro h; (conv => whnf) <;> first | with_reducible rfl | assumption | exact h | exact (congrArg Bool.not h) | (refine ⟨h, True.intro⟩) | (refine ⟨congrArg Bool.not h, True.intro⟩) | (refine ⟨by assumption, True.intro⟩)) | (intro h; exact (Bool.false_ne_true (h.symm.trans (by assumption))).elim) | (intros; simp_all; done) | (refine gand ?_ h; assumption) | (simp only [se_map, se_byL]; exact rfl) | (simp only [se_map, se_byL, se_len, se_ch, List.length_map]; done) | fail
  · replace h := condF hc h
    conv => whnf
    replace h := bindS h
    obtain ⟨y35, hy35, h⟩ := h
    have c36 := cf_lan_part a0 a1 _ hy35
    have e := Option.some.inj h
    subst e
    repeat' first | with_reducible rfl | with_reducible exact True.intro | with_reducible assumption | (refine CallW.done (CallF.at c36 (by repeat' first | exact True.intro | assumption | refine ⟨?_, ?_⟩) (NLss_map' _)) ?_; conv => whnf) | (refine ⟨_, _, CallF.at c36 (by repeat' first | exact True.intro | assumption | refine ⟨?_, ?_⟩) (NLss_map' _), ?_⟩; conv => whnf) | exact (congrArg Bool.not h) | exact fun _ => True.intro | exact (rfl : (_ : Nat) = _) | exact (rfl : (_ : LV) = _) | exact NLss_map' _ | refine NLss_app ?_ ?_ | refine NLss_set ?_ ?_ | (refine And.intro ?_ ?_ <;> conv => whnf) | (intro h; (conv => whnf) <;> first | with_reducible rfl | assumption | exact h | exact (congrArg Bool.not h) | (refine ⟨h, True.intro⟩) | (refine ⟨congrArg Bool.not h, True.intro⟩) | (refine ⟨by assumption, True.intro⟩)) | (intro h; exact (Bool.false_ne_true (h.symm.trans (by assumption))).elim) | (intros; simp_all; done) | (refine gand ?_ h; assumption) | (simp only [se_map, se_byL]; exact rfl) | (simp only [se_map, se_byL, se_len, se_ch, List.length_map]; done) | fail

end Go.RX
