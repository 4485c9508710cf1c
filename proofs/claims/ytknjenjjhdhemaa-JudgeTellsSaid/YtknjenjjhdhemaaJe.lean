/- Plain functions, and what says that the program's functions compute them. -/
import Derived.Test.YtknjenjjhdhemaaJd
set_option linter.unusedVariables false
set_option linter.unusedSimpArgs false
open Go Go.RX Go.Proofs
namespace Go.RX
set_option maxRecDepth 10000
set_option maxHeartbeats 4000000
attribute [local irreducible] CallW CallP LoopW W IntKind.wrap bitI
def law20_cut_c0  (k32 : Nat) (x32 : PlanT) (s32 : (List PlanT)) : Option (Step LanT (List PlanT)) :=
  grd ((0 : Int) ≤ (mn ((x32.Ports.length : Nat) : Int) 10) ∧ (mn ((x32.Ports.length : Nat) : Int) 10) ≤ ((x32.Ports.length : Nat) : Int)) <|
  grd (fits ((s32 ++ ([(⟨x32.ID, (x32.Ports.take ((mn ((x32.Ports.length : Nat) : Int) 10) : Int).toNat)⟩ : PlanT)] : (List PlanT))) : List PlanT).length 32) <|
  some (.nxt (s32 ++ ([(⟨x32.ID, (x32.Ports.take ((mn ((x32.Ports.length : Nat) : Int) 10) : Int).toNat)⟩ : PlanT)] : (List PlanT))))

def law20_cut (a0 : LanT) : Option LanT :=
  grd ((0 : Int) ≤ (mn ((a0.Plans.length : Nat) : Int) 8) ∧ (mn ((a0.Plans.length : Nat) : Int) 8) ≤ ((a0.Plans.length : Nat) : Int)) <|
  aft (rangeL (law20_cut_c0 ) (a0.Plans.take ((mn ((a0.Plans.length : Nat) : Int) 8) : Int).toNat) ([] : (List PlanT))) fun s32 =>
  grd ((0 : Int) ≤ (mn ((a0.Hosts.length : Nat) : Int) 12) ∧ (mn ((a0.Hosts.length : Nat) : Int) 12) ≤ ((a0.Hosts.length : Nat) : Int)) <|
  some (⟨a0.Segs, s32, (a0.Hosts.take ((mn ((a0.Hosts.length : Nat) : Int) 12) : Int).toNat)⟩ : LanT)

theorem c_law20_cut (a0 : LanT) (r : LanT) (h : law20_cut a0 = some r) : CallP Try.prog 22 [(LV.agg [(I a0.Segs), (LV.ro 2 (a0.Plans.map PlanT.cells)), (LV.ro 2 (a0.Hosts.map HostT.cells))])] (LV.agg [(I r.Segs), (LV.ro 2 (r.Plans.map PlanT.cells)), (LV.ro 2 (r.Hosts.map HostT.cells))]) := by
  unfold law20_cut at h
  refine .intro nlA (.intro TT_ok Try.func22 rfl rfl [0, 1, 2, 3, 5, 12, 13, 14, 15] rfl ?_)
  conv => whnf
  replace h := grdS h
  obtain ⟨g1, h⟩ := h
  replace g1 : (0 : Int) ≤ (mn (((a0.Plans.map PlanT.cells).length : Nat) : Int) 8) ∧ (mn (((a0.Plans.map PlanT.cells).length : Nat) : Int) 8) ≤ (((a0.Plans.map PlanT.cells).length : Nat) : Int) := by simpa only [se_len, se_ch, List.length_map] using g1
  repeat' first | with_reducible rfl | with_reducible exact True.intro | with_reducible assumption | refine parkI ?_ | exact g1 | (refine W.drawnM (id := 8) 0 TT_ok hmix1 [0, 0, 0, 0, 0, 0, 0, 0, 0, 0, 1, 1] [0, 0, 0, 0, 0, 1, 1, 1, 0, 1, 1, 2] rfl ?_; conv => whnf) | exact clA _ | (refine And.intro ?_ ?_ <;> conv => whnf) | exact clG _ | (refine gand ?_ h; assumption) | exact clN _ | fail
  replace h := aftS h
  obtain ⟨O32, hO32, r32⟩ := h
  refine LoopW.virt 3 87 2 rfl ?_
  refine LoopW.norm [(1, (LV.ptr 0 0 0)), (2, (LV.ptr 1 0 0)), (3, (LV.sl 2 0 (([] : (List PlanT)).map PlanT.cells).length)), (12, (LV.ro 2 ((a0.Plans.map PlanT.cells).take ((mn (((a0.Plans.map PlanT.cells).length : Nat) : Int) 8) : Int).toNat))), (13, (I ((((a0.Plans.map PlanT.cells).take ((mn (((a0.Plans.map PlanT.cells).length : Nat) : Int) 8) : Int).toNat).length : Nat) : Int))), (14, (I ((0 : Nat) : Int)))] 3 [(0, (.row 47 3 [[(I a0.Segs), (LV.ro 2 (a0.Plans.map PlanT.cells)), (LV.ro 2 (a0.Hosts.map HostT.cells))]])), (1, (.row 47 3 [[(I 0), LV.nils, LV.nils]])), (2, (.row 87 2 (([] : (List PlanT)).map PlanT.cells)))] ⟨rfl, rfl, (by exact congrArg (LV.sl 2 0) (clL _ : 0 = (([] : (List PlanT)).map PlanT.cells).length)), rfl, rfl, rfl, trivial⟩ ⟨⟨rfl, rfl, blT⟩, ⟨⟨rfl, rfl, blT⟩, ⟨⟨(congrArg (fun q => some (Blk.row 87 2 q)) (smT : ([] : List (List LV)) = (([] : (List PlanT)).map PlanT.cells))), rfl, NLss_bel (NLss_map' _)⟩, trivial⟩⟩⟩ blT rfl ?_
  refine LoopW.forR (fun k32 s32 => [(1, (LV.ptr 0 0 0)), (2, (LV.ptr 1 0 0)), (3, (LV.sl 2 0 (s32.map PlanT.cells).length)), (12, (LV.ro 2 ((a0.Plans.map PlanT.cells).take ((mn (((a0.Plans.map PlanT.cells).length : Nat) : Int) 8) : Int).toNat))), (13, (I ((((a0.Plans.map PlanT.cells).take ((mn (((a0.Plans.map PlanT.cells).length : Nat) : Int) 8) : Int).toNat).length : Nat) : Int))), (14, (I ((k32 : Nat) : Int)))]) (fun s32 => ⟨3, [(0, (.row 47 3 [[(I a0.Segs), (LV.ro 2 (a0.Plans.map PlanT.cells)), (LV.ro 2 (a0.Hosts.map HostT.cells))]])), (1, (.row 47 3 [[(I 0), LV.nils, LV.nils]])), (2, (.row 87 2 (s32.map PlanT.cells)))]⟩) hO32 (fun hl32 s32 hs32 => ?_) (fun hl32 k32 x32 s32 o32 hk32 hx32 b32 K32 hret32 hbrk32 => ?_)
  · rw [hs32] at r32
    dsimp only [aftM] at r32
    have hd : decide ((((a0.Plans.take ((mn ((a0.Plans.length : Nat) : Int) 8) : Int).toNat).length : Nat) : Int) < ((((a0.Plans.map PlanT.cells).take ((mn (((a0.Plans.map PlanT.cells).length : Nat) : Int) 8) : Int).toNat).length : Nat) : Int)) = false := by rw [decide_eq_false_iff_not]; (try simp only [se_len, se_ch, List.length_map]); omega
    refine LoopW.round TT_ok [0, 1, 2, 3, 5, 12, 13, 14, 15] ?_
    conv => whnf
    repeat' first | with_reducible rfl | with_reducible exact True.intro | with_reducible assumption | refine parkI ?_ | (refine W.drawnM (id := 8) 0 TT_ok hmix1 [0, 0, 0, 0, 0, 0, 0, 0, 0, 0, 1, 1] [0, 0, 0, 0, 0, 1, 1, 1, 0, 1, 1, 2] rfl ?_; conv => whnf) | exact clA _ | (refine And.intro ?_ ?_ <;> conv => whnf) | exact clG _ | (refine gand ?_ h; assumption) | exact clN _ | fail
    refine parkE (fun hc => ?_) (fun hc => ?_)
    · exact (Bool.false_ne_true (hd.symm.trans hc)).elim
    · clear hd
      conv => whnf
      replace r32 := grdS r32
      obtain ⟨g4, r32⟩ := r32
      replace g4 : (0 : Int) ≤ (mn (((a0.Hosts.map HostT.cells).length : Nat) : Int) 12) ∧ (mn (((a0.Hosts.map HostT.cells).length : Nat) : Int) 12) ≤ (((a0.Hosts.map HostT.cells).length : Nat) : Int) := by simpa only [se_len, se_ch, List.length_map] using g4
      have e := Option.some.inj r32
      subst e
      repeat' first | with_reducible rfl | with_reducible exact True.intro | with_reducible assumption | exact g4 | (refine W.drawnM (id := 8) 0 TT_ok hmix1 [0, 0, 0, 0, 0, 0, 0, 0, 0, 0, 1, 1] [0, 0, 0, 0, 0, 1, 1, 1, 0, 1, 1, 2] rfl ?_; conv => whnf) | exact clA _ | (refine And.intro ?_ ?_ <;> conv => whnf) | exact clG _ | (refine gand ?_ h; assumption) | exact clN _ | fail
  · unfold law20_cut_c0 at b32
    have fx32 : (0 : Int) ≤ ((k32 : Nat) : Int) ∧ (((a0.Plans.map PlanT.cells).take ((mn (((a0.Plans.map PlanT.cells).length : Nat) : Int) 8) : Int).toNat))[((k32 : Nat) : Int).toNat]? = some (PlanT.cells x32) := by (have h0 := kixF (f := PlanT.cells) hx32); simpa only [se_map, se_len, se_byL, List.length_map] using h0
    have hd : decide (((k32 : Nat) : Int) < ((((a0.Plans.map PlanT.cells).take ((mn (((a0.Plans.map PlanT.cells).length : Nat) : Int) 8) : Int).toNat).length : Nat) : Int)) = true := by rw [decide_eq_true_eq]; (try simp only [se_len, se_ch, List.length_map] at hk32); (try simp only [se_len, se_ch, List.length_map]); omega
    refine LoopW.round TT_ok [0, 1, 2, 3, 5, 12, 13, 14, 15] ?_
    conv => whnf
    repeat' first | with_reducible rfl | with_reducible exact True.intro | with_reducible assumption | refine parkI ?_ | (refine W.drawnM (id := 8) 0 TT_ok hmix1 [0, 0, 0, 0, 0, 0, 0, 0, 0, 0, 1, 1] [0, 0, 0, 0, 0, 1, 1, 1, 0, 1, 1, 2] rfl ?_; conv => whnf) | exact clA _ | (refine And.intro ?_ ?_ <;> conv => whnf) | exact clG _ | (refine gand ?_ h; assumption) | exact clN _ | fail
    refine parkE (fun hc => ?_) (fun hc => ?_)
    · clear hd
      conv => whnf
      replace b32 := grdS b32
      obtain ⟨g2, b32⟩ := b32
      replace g2 : (0 : Int) ≤ (mn (((x32.Ports.map LinkT.cells).length : Nat) : Int) 10) ∧ (mn (((x32.Ports.map LinkT.cells).length : Nat) : Int) 10) ≤ (((x32.Ports.map LinkT.cells).length : Nat) : Int) := by simpa only [se_len, se_ch, List.length_map] using g2
      replace b32 := grdS b32
      obtain ⟨g3, b32⟩ := b32
      replace g3 : fits (((s32.map PlanT.cells) ++ [[(I x32.ID), (LV.ro 3 ((x32.Ports.map LinkT.cells).take ((mn (((x32.Ports.map LinkT.cells).length : Nat) : Int) 10) : Int).toNat))]])).length 32 := by simpa only [se_len, se_ch, List.length_map] using g3
      repeat' first | with_reducible rfl | with_reducible exact True.intro | with_reducible assumption | refine parkI ?_ | (refine ⟨_, fx32, ?_⟩; conv => whnf) | exact g2 | exact g3 | (refine W.drawnM (id := 8) 0 TT_ok hmix1 [0, 0, 0, 0, 0, 0, 0, 0, 0, 0, 1, 1] [0, 0, 0, 0, 0, 1, 1, 1, 0, 1, 1, 2] rfl ?_; conv => whnf) | exact clA _ | (refine And.intro ?_ ?_ <;> conv => whnf) | exact clG _ | (refine gand ?_ h; assumption) | exact clN _ | fail
      have e := Option.some.inj b32
      refine LoopW.ren [(0, 0), (1, 1), (5, 2)] [(1, (LV.ptr 0 0 0)), (2, (LV.ptr 1 0 0)), (3, (LV.sl 2 0 ((s32 ++ ([(⟨x32.ID, (x32.Ports.take ((mn ((x32.Ports.length : Nat) : Int) 10) : Int).toNat)⟩ : PlanT)] : (List PlanT))).map PlanT.cells).length)), (12, (LV.ro 2 ((a0.Plans.map PlanT.cells).take ((mn (((a0.Plans.map PlanT.cells).length : Nat) : Int) 8) : Int).toNat))), (13, (I ((((a0.Plans.map PlanT.cells).take ((mn (((a0.Plans.map PlanT.cells).length : Nat) : Int) 8) : Int).toNat).length : Nat) : Int))), (14, (I ((k32 + 1 : Nat) : Int)))] 3 [(0, (.row 47 3 [[(I a0.Segs), (LV.ro 2 (a0.Plans.map PlanT.cells)), (LV.ro 2 (a0.Hosts.map HostT.cells))]])), (1, (.row 47 3 [[(I 0), LV.nils, LV.nils]])), (2, (.row 87 2 ((s32 ++ ([(⟨x32.ID, (x32.Ports.take ((mn ((x32.Ports.length : Nat) : Int) 10) : Int).toNat)⟩ : PlanT)] : (List PlanT))).map PlanT.cells)))] rfl ⟨rfl, rfl, (by exact congrArg (LV.sl 2 0) (clL _ : (((s32.map PlanT.cells) ++ [[(I x32.ID), (LV.ro 3 ((x32.Ports.map LinkT.cells).take ((mn (((x32.Ports.map LinkT.cells).length : Nat) : Int) 10) : Int).toNat))]])).length = ((s32 ++ ([(⟨x32.ID, (x32.Ports.take ((mn ((x32.Ports.length : Nat) : Int) 10) : Int).toNat)⟩ : PlanT)] : (List PlanT))).map PlanT.cells).length)), rfl, rfl, (congrArg (LV.int .i64) (w64_nat _ (by omega))), trivial⟩ ⟨⟨rfl, rfl, .inl ⟨rfl, nlT⟩⟩, rfl, rfl, ⟨⟨rfl, rfl, .inl ⟨rfl, nlT⟩⟩, rfl, rfl, ⟨⟨rfl, rfl, .inl ⟨(by first | (simp only [se_map, se_byL, se_len, se_ch, List.length_map]; done) | (simp only [se_map, se_byL, se_len, se_ch, List.length_map, PlanT.cells]; done) : (((s32.map PlanT.cells) ++ [[(I x32.ID), (LV.ro 3 ((x32.Ports.map LinkT.cells).take ((mn (((x32.Ports.map LinkT.cells).length : Nat) : Int) 10) : Int).toNat))]]) : List (List LV)) = ((s32 ++ ([(⟨x32.ID, (x32.Ports.take ((mn ((x32.Ports.length : Nat) : Int) 10) : Int).toNat)⟩ : PlanT)] : (List PlanT))).map PlanT.cells)), nlT⟩⟩, rfl, rfl, trivial⟩⟩⟩ rfl (K32 _ e.symm)
    · exact (Bool.false_ne_true (hc.symm.trans hd)).elim

def law20_rows_c0  (k33 : Nat) (x33 : (List Bool)) (s33 : (List (List Bool))) : Option (Step (List (List Bool)) (List (List Bool))) :=
  grd ((0 : Int) ≤ (mn ((x33.length : Nat) : Int) 10) ∧ (mn ((x33.length : Nat) : Int) 10) ≤ ((x33.length : Nat) : Int)) <|
  grd (fits ((s33 ++ ([(x33.take ((mn ((x33.length : Nat) : Int) 10) : Int).toNat)] : (List (List Bool)))) : List (List Bool)).length 24) <|
  some (.nxt (s33 ++ ([(x33.take ((mn ((x33.length : Nat) : Int) 10) : Int).toNat)] : (List (List Bool)))))

def law20_rows (a0 : (List (List Bool))) : Option (List (List Bool)) :=
  grd ((0 : Int) ≤ (mn ((a0.length : Nat) : Int) 8) ∧ (mn ((a0.length : Nat) : Int) 8) ≤ ((a0.length : Nat) : Int)) <|
  aft (rangeL (law20_rows_c0 ) (a0.take ((mn ((a0.length : Nat) : Int) 8) : Int).toNat) ([] : (List (List Bool)))) fun s33 =>
  some s33

theorem cf_law20_rows (a0 : (List (List Bool))) (r : (List (List Bool))) (h : law20_rows a0 = some r) : CallF Try.prog 23 [(LV.ro 1 (a0.map (roC 1 bC)))] 88 1 (r.map (roC 1 bC)) := by
  unfold law20_rows at h
  refine CallF.of (NLss_map' _) (CallW.intro TT_ok Try.func23 rfl rfl [0, 2, 3, 5, 10, 11, 12, 13] rfl ?_)
  conv => whnf
  replace h := grdS h
  obtain ⟨g3, h⟩ := h
  replace g3 : (0 : Int) ≤ (mn (((a0.map (roC 1 bC)).length : Nat) : Int) 8) ∧ (mn (((a0.map (roC 1 bC)).length : Nat) : Int) 8) ≤ (((a0.map (roC 1 bC)).length : Nat) : Int) := by simpa only [se_len, se_ch, List.length_map] using g3
  repeat' first | with_reducible rfl | with_reducible exact True.intro | with_reducible assumption | refine parkI ?_ | exact g3 | (refine And.intro ?_ ?_ <;> conv => whnf) | fail
  replace h := aftS h
  obtain ⟨O33, hO33, r33⟩ := h
  refine LoopW.virt 3 88 1 rfl ?_
  refine LoopW.norm [(3, (LV.sl 0 0 (([] : (List (List Bool))).map (roC 1 bC)).length)), (10, (LV.ro 1 ((a0.map (roC 1 bC)).take ((mn (((a0.map (roC 1 bC)).length : Nat) : Int) 8) : Int).toNat))), (11, (I ((((a0.map (roC 1 bC)).take ((mn (((a0.map (roC 1 bC)).length : Nat) : Int) 8) : Int).toNat).length : Nat) : Int))), (12, (I ((0 : Nat) : Int)))] 1 [(0, (.row 88 1 (([] : (List (List Bool))).map (roC 1 bC))))] ⟨(by exact congrArg (LV.sl 0 0) (clL _ : 0 = (([] : (List (List Bool))).map (roC 1 bC)).length)), rfl, rfl, rfl, trivial⟩ ⟨⟨(congrArg (fun q => some (Blk.row 88 1 q)) (by first | (simp only [se_map, se_byL, se_len, se_ch, List.length_map]; done) | (simp only [se_map, se_byL, se_len, se_ch, List.length_map, roC]; done) : ([] : List (List LV)) = (([] : (List (List Bool))).map (roC 1 bC)))), rfl, NLss_bel (NLss_map' _)⟩, trivial⟩ blT rfl ?_
  refine LoopW.forR (fun k33 s33 => [(3, (LV.sl 0 0 (s33.map (roC 1 bC)).length)), (10, (LV.ro 1 ((a0.map (roC 1 bC)).take ((mn (((a0.map (roC 1 bC)).length : Nat) : Int) 8) : Int).toNat))), (11, (I ((((a0.map (roC 1 bC)).take ((mn (((a0.map (roC 1 bC)).length : Nat) : Int) 8) : Int).toNat).length : Nat) : Int))), (12, (I ((k33 : Nat) : Int)))]) (fun s33 => ⟨1, [(0, (.row 88 1 (s33.map (roC 1 bC))))]⟩) hO33 (fun hl33 s33 hs33 => ?_) (fun hl33 k33 x33 s33 o33 hk33 hx33 b33 K33 hret33 hbrk33 => ?_)
  · rw [hs33] at r33
    dsimp only [aftM] at r33
    have hd : decide ((((a0.take ((mn ((a0.length : Nat) : Int) 8) : Int).toNat).length : Nat) : Int) < ((((a0.map (roC 1 bC)).take ((mn (((a0.map (roC 1 bC)).length : Nat) : Int) 8) : Int).toNat).length : Nat) : Int)) = false := by rw [decide_eq_false_iff_not]; (try simp only [se_len, se_ch, List.length_map]); omega
    refine LoopW.round TT_ok [0, 2, 3, 5, 10, 11, 12, 13] ?_
    conv => whnf
    repeat' first | with_reducible rfl | with_reducible exact True.intro | with_reducible assumption | refine parkI ?_ | (refine And.intro ?_ ?_ <;> conv => whnf) | fail
    refine parkE (fun hc => ?_) (fun hc => ?_)
    · exact (Bool.false_ne_true (hd.symm.trans hc)).elim
    · clear hd
      conv => whnf
      have e := Option.some.inj r33
      subst e
      repeat' first | with_reducible rfl | with_reducible exact True.intro | with_reducible assumption | exact Or.inr ⟨_, rfl, congrArg (fun q => some (Blk.row 88 1 q)) rfl⟩ | exact clA _ | (refine And.intro ?_ ?_ <;> conv => whnf) | exact clG _ | (refine gand ?_ h; assumption) | exact clN _ | fail
  · unfold law20_rows_c0 at b33
    have fx33 : (0 : Int) ≤ ((k33 : Nat) : Int) ∧ (((a0.map (roC 1 bC)).take ((mn (((a0.map (roC 1 bC)).length : Nat) : Int) 8) : Int).toNat))[((k33 : Nat) : Int).toNat]? = some ((roC 1 bC) x33) := by (have h0 := kixF (f := (roC 1 bC)) hx33); simpa only [se_map, se_len, se_byL, List.length_map] using h0
    have hd : decide (((k33 : Nat) : Int) < ((((a0.map (roC 1 bC)).take ((mn (((a0.map (roC 1 bC)).length : Nat) : Int) 8) : Int).toNat).length : Nat) : Int)) = true := by rw [decide_eq_true_eq]; (try simp only [se_len, se_ch, List.length_map] at hk33); (try simp only [se_len, se_ch, List.length_map]); omega
    refine LoopW.round TT_ok [0, 2, 3, 5, 10, 11, 12, 13] ?_
    conv => whnf
    repeat' first | with_reducible rfl | with_reducible exact True.intro | with_reducible assumption | refine parkI ?_ | (refine And.intro ?_ ?_ <;> conv => whnf) | fail
    refine parkE (fun hc => ?_) (fun hc => ?_)
    · clear hd
      conv => whnf
      replace b33 := grdS b33
      obtain ⟨g4, b33⟩ := b33
      replace g4 : (0 : Int) ≤ (mn (((x33.map bC).length : Nat) : Int) 10) ∧ (mn (((x33.map bC).length : Nat) : Int) 10) ≤ (((x33.map bC).length : Nat) : Int) := by simpa only [se_len, se_ch, List.length_map] using g4
      replace b33 := grdS b33
      obtain ⟨g5, b33⟩ := b33
      replace g5 : fits (((s33.map (roC 1 bC)) ++ [[(LV.ro 1 ((x33.map bC).take ((mn (((x33.map bC).length : Nat) : Int) 10) : Int).toNat))]])).length 24 := by simpa only [se_len, se_ch, List.length_map] using g5
      repeat' first | with_reducible rfl | with_reducible exact True.intro | with_reducible assumption | refine parkI ?_ | (refine ⟨_, fx33, ?_⟩; conv => whnf) | exact g4 | exact g5 | exact clA _ | (refine And.intro ?_ ?_ <;> conv => whnf) | exact clN _ | fail
      have e := Option.some.inj b33
      refine LoopW.ren [(2, 0)] [(3, (LV.sl 0 0 ((s33 ++ ([(x33.take ((mn ((x33.length : Nat) : Int) 10) : Int).toNat)] : (List (List Bool)))).map (roC 1 bC)).length)), (10, (LV.ro 1 ((a0.map (roC 1 bC)).take ((mn (((a0.map (roC 1 bC)).length : Nat) : Int) 8) : Int).toNat))), (11, (I ((((a0.map (roC 1 bC)).take ((mn (((a0.map (roC 1 bC)).length : Nat) : Int) 8) : Int).toNat).length : Nat) : Int))), (12, (I ((k33 + 1 : Nat) : Int)))] 1 [(0, (.row 88 1 ((s33 ++ ([(x33.take ((mn ((x33.length : Nat) : Int) 10) : Int).toNat)] : (List (List Bool)))).map (roC 1 bC))))] rfl ⟨(by exact congrArg (LV.sl 0 0) (clL _ : (((s33.map (roC 1 bC)) ++ [[(LV.ro 1 ((x33.map bC).take ((mn (((x33.map bC).length : Nat) : Int) 10) : Int).toNat))]])).length = ((s33 ++ ([(x33.take ((mn ((x33.length : Nat) : Int) 10) : Int).toNat)] : (List (List Bool)))).map (roC 1 bC)).length)), rfl, rfl, (congrArg (LV.int .i64) (w64_nat _ (by omega))), trivial⟩ ⟨⟨rfl, rfl, .inl ⟨(by first | (simp only [se_map, se_byL, se_len, se_ch, List.length_map]; done) | (simp only [se_map, se_byL, se_len, se_ch, List.length_map, roC]; done) : (((s33.map (roC 1 bC)) ++ [[(LV.ro 1 ((x33.map bC).take ((mn (((x33.map bC).length : Nat) : Int) 10) : Int).toNat))]]) : List (List LV)) = ((s33 ++ ([(x33.take ((mn ((x33.length : Nat) : Int) 10) : Int).toNat)] : (List (List Bool)))).map (roC 1 bC))), nlT⟩⟩, rfl, rfl, trivial⟩ rfl (K33 _ e.symm)
    · exact (Bool.false_ne_true (hc.symm.trans hd)).elim

theorem c_law20_rows (a0 : (List (List Bool))) (r : (List (List Bool))) (h : law20_rows a0 = some r) : CallP Try.prog 23 [(LV.ro 1 (a0.map (roC 1 bC)))] (LV.ro 1 (r.map (roC 1 bC))) := by
  exact CallF.toP (cf_law20_rows a0 r h) nlA (NLss_map' _)

def law20_few_c0  (k34 : Nat) (x34 : CopyT) (s34 : (List CopyT)) : Option (Step (List CopyT) (List CopyT)) :=
  grd ((0 : Int) ≤ (mn ((x34.Raw.size : Nat) : Int) 130) ∧ (mn ((x34.Raw.size : Nat) : Int) 130) ≤ ((x34.Raw.size : Nat) : Int)) <|
  grd (fits ((s34 ++ ([(⟨x34.At, x34.Seg, x34.Bridge, x34.Port, (x34.Raw.extract 0 ((mn ((x34.Raw.size : Nat) : Int) 130) : Int).toNat)⟩ : CopyT)] : (List CopyT))) : List CopyT).length 48) <|
  some (.nxt (s34 ++ ([(⟨x34.At, x34.Seg, x34.Bridge, x34.Port, (x34.Raw.extract 0 ((mn ((x34.Raw.size : Nat) : Int) 130) : Int).toNat)⟩ : CopyT)] : (List CopyT))))

def law20_few (a0 : (List CopyT)) : Option (List CopyT) :=
  grd ((0 : Int) ≤ (mn ((a0.length : Nat) : Int) 60) ∧ (mn ((a0.length : Nat) : Int) 60) ≤ ((a0.length : Nat) : Int)) <|
  aft (rangeL (law20_few_c0 ) (a0.take ((mn ((a0.length : Nat) : Int) 60) : Int).toNat) ([] : (List CopyT))) fun s34 =>
  some s34

theorem cf_law20_few (a0 : (List CopyT)) (r : (List CopyT)) (h : law20_few a0 = some r) : CallF Try.prog 24 [(LV.ro 5 (a0.map CopyT.cells))] 90 5 (r.map CopyT.cells) := by
  unfold law20_few at h
  refine CallF.of (NLss_map' _) (CallW.intro TT_ok Try.func24 rfl rfl [0, 2, 3, 5, 10, 11, 12, 13] rfl ?_)
  conv => whnf
  replace h := grdS h
  obtain ⟨g5, h⟩ := h
  replace g5 : (0 : Int) ≤ (mn (((a0.map CopyT.cells).length : Nat) : Int) 60) ∧ (mn (((a0.map CopyT.cells).length : Nat) : Int) 60) ≤ (((a0.map CopyT.cells).length : Nat) : Int) := by simpa only [se_len, se_ch, List.length_map] using g5
  repeat' first | with_reducible rfl | with_reducible exact True.intro | with_reducible assumption | refine parkI ?_ | exact g5 | (refine And.intro ?_ ?_ <;> conv => whnf) | fail
  replace h := aftS h
  obtain ⟨O34, hO34, r34⟩ := h
  refine LoopW.virt 3 90 5 rfl ?_
  refine LoopW.norm [(3, (LV.sl 0 0 (([] : (List CopyT)).map CopyT.cells).length)), (10, (LV.ro 5 ((a0.map CopyT.cells).take ((mn (((a0.map CopyT.cells).length : Nat) : Int) 60) : Int).toNat))), (11, (I ((((a0.map CopyT.cells).take ((mn (((a0.map CopyT.cells).length : Nat) : Int) 60) : Int).toNat).length : Nat) : Int))), (12, (I ((0 : Nat) : Int)))] 1 [(0, (.row 90 5 (([] : (List CopyT)).map CopyT.cells)))] ⟨(by exact congrArg (LV.sl 0 0) (clL _ : 0 = (([] : (List CopyT)).map CopyT.cells).length)), rfl, rfl, rfl, trivial⟩ ⟨⟨(congrArg (fun q => some (Blk.row 90 5 q)) (smT : ([] : List (List LV)) = (([] : (List CopyT)).map CopyT.cells))), rfl, NLss_bel (NLss_map' _)⟩, trivial⟩ blT rfl ?_
  refine LoopW.forR (fun k34 s34 => [(3, (LV.sl 0 0 (s34.map CopyT.cells).length)), (10, (LV.ro 5 ((a0.map CopyT.cells).take ((mn (((a0.map CopyT.cells).length : Nat) : Int) 60) : Int).toNat))), (11, (I ((((a0.map CopyT.cells).take ((mn (((a0.map CopyT.cells).length : Nat) : Int) 60) : Int).toNat).length : Nat) : Int))), (12, (I ((k34 : Nat) : Int)))]) (fun s34 => ⟨1, [(0, (.row 90 5 (s34.map CopyT.cells)))]⟩) hO34 (fun hl34 s34 hs34 => ?_) (fun hl34 k34 x34 s34 o34 hk34 hx34 b34 K34 hret34 hbrk34 => ?_)
  · rw [hs34] at r34
    dsimp only [aftM] at r34
    have hd : decide ((((a0.take ((mn ((a0.length : Nat) : Int) 60) : Int).toNat).length : Nat) : Int) < ((((a0.map CopyT.cells).take ((mn (((a0.map CopyT.cells).length : Nat) : Int) 60) : Int).toNat).length : Nat) : Int)) = false := by rw [decide_eq_false_iff_not]; (try simp only [se_len, se_ch, List.length_map]); omega
    refine LoopW.round TT_ok [0, 2, 3, 5, 10, 11, 12, 13] ?_
    conv => whnf
    repeat' first | with_reducible rfl | with_reducible exact True.intro | with_reducible assumption | refine parkI ?_ | (refine And.intro ?_ ?_ <;> conv => whnf) | fail
    refine parkE (fun hc => ?_) (fun hc => ?_)
    · exact (Bool.false_ne_true (hd.symm.trans hc)).elim
    · clear hd
      conv => whnf
      have e := Option.some.inj r34
      subst e
      repeat' first | with_reducible rfl | with_reducible exact True.intro | with_reducible assumption | exact Or.inr ⟨_, rfl, congrArg (fun q => some (Blk.row 90 5 q)) rfl⟩ | exact clA _ | (refine And.intro ?_ ?_ <;> conv => whnf) | exact clG _ | (refine gand ?_ h; assumption) | exact clN _ | fail
  · unfold law20_few_c0 at b34
    have fx34 : (0 : Int) ≤ ((k34 : Nat) : Int) ∧ (((a0.map CopyT.cells).take ((mn (((a0.map CopyT.cells).length : Nat) : Int) 60) : Int).toNat))[((k34 : Nat) : Int).toNat]? = some (CopyT.cells x34) := by (have h0 := kixF (f := CopyT.cells) hx34); simpa only [se_map, se_len, se_byL, List.length_map] using h0
    have hd : decide (((k34 : Nat) : Int) < ((((a0.map CopyT.cells).take ((mn (((a0.map CopyT.cells).length : Nat) : Int) 60) : Int).toNat).length : Nat) : Int)) = true := by rw [decide_eq_true_eq]; (try simp only [se_len, se_ch, List.length_map] at hk34); (try simp only [se_len, se_ch, List.length_map]); omega
    refine LoopW.round TT_ok [0, 2, 3, 5, 10, 11, 12, 13] ?_
    conv => whnf
    repeat' first | with_reducible rfl | with_reducible exact True.intro | with_reducible assumption | refine parkI ?_ | (refine And.intro ?_ ?_ <;> conv => whnf) | fail
    refine parkE (fun hc => ?_) (fun hc => ?_)
    · clear hd
      conv => whnf
      replace b34 := grdS b34
      obtain ⟨g6, b34⟩ := b34
      replace b34 := grdS b34
      obtain ⟨g7, b34⟩ := b34
      replace g7 : fits (((s34.map CopyT.cells) ++ [[(I x34.At), (I x34.Seg), (I x34.Bridge), (I x34.Port), (LV.str (x34.Raw.extract 0 ((mn ((x34.Raw.size : Nat) : Int) 130) : Int).toNat))]])).length 48 := by simpa only [se_len, se_ch, List.length_map] using g7
      repeat' first | with_reducible rfl | with_reducible exact True.intro | with_reducible assumption | refine parkI ?_ | (refine ⟨_, fx34, ?_⟩; conv => whnf) | exact g6 | exact g7 | exact clA _ | (refine And.intro ?_ ?_ <;> conv => whnf) | exact clN _ | fail
      have e := Option.some.inj b34
      refine LoopW.ren [(3, 0)] [(3, (LV.sl 0 0 ((s34 ++ ([(⟨x34.At, x34.Seg, x34.Bridge, x34.Port, (x34.Raw.extract 0 ((mn ((x34.Raw.size : Nat) : Int) 130) : Int).toNat)⟩ : CopyT)] : (List CopyT))).map CopyT.cells).length)), (10, (LV.ro 5 ((a0.map CopyT.cells).take ((mn (((a0.map CopyT.cells).length : Nat) : Int) 60) : Int).toNat))), (11, (I ((((a0.map CopyT.cells).take ((mn (((a0.map CopyT.cells).length : Nat) : Int) 60) : Int).toNat).length : Nat) : Int))), (12, (I ((k34 + 1 : Nat) : Int)))] 1 [(0, (.row 90 5 ((s34 ++ ([(⟨x34.At, x34.Seg, x34.Bridge, x34.Port, (x34.Raw.extract 0 ((mn ((x34.Raw.size : Nat) : Int) 130) : Int).toNat)⟩ : CopyT)] : (List CopyT))).map CopyT.cells)))] rfl ⟨(by exact congrArg (LV.sl 0 0) (clL _ : (((s34.map CopyT.cells) ++ [[(I x34.At), (I x34.Seg), (I x34.Bridge), (I x34.Port), (LV.str (x34.Raw.extract 0 ((mn ((x34.Raw.size : Nat) : Int) 130) : Int).toNat))]])).length = ((s34 ++ ([(⟨x34.At, x34.Seg, x34.Bridge, x34.Port, (x34.Raw.extract 0 ((mn ((x34.Raw.size : Nat) : Int) 130) : Int).toNat)⟩ : CopyT)] : (List CopyT))).map CopyT.cells).length)), rfl, rfl, (congrArg (LV.int .i64) (w64_nat _ (by omega))), trivial⟩ ⟨⟨rfl, rfl, .inl ⟨(by first | (simp only [se_map, se_byL, se_len, se_ch, List.length_map]; done) | (simp only [se_map, se_byL, se_len, se_ch, List.length_map, CopyT.cells]; done) : (((s34.map CopyT.cells) ++ [[(I x34.At), (I x34.Seg), (I x34.Bridge), (I x34.Port), (LV.str (x34.Raw.extract 0 ((mn ((x34.Raw.size : Nat) : Int) 130) : Int).toNat))]]) : List (List LV)) = ((s34 ++ ([(⟨x34.At, x34.Seg, x34.Bridge, x34.Port, (x34.Raw.extract 0 ((mn ((x34.Raw.size : Nat) : Int) 130) : Int).toNat)⟩ : CopyT)] : (List CopyT))).map CopyT.cells)), nlT⟩⟩, rfl, rfl, trivial⟩ rfl (K34 _ e.symm)
    · exact (Bool.false_ne_true (hc.symm.trans hd)).elim

theorem c_law20_few (a0 : (List CopyT)) (r : (List CopyT)) (h : law20_few a0 = some r) : CallP Try.prog 24 [(LV.ro 5 (a0.map CopyT.cells))] (LV.ro 5 (r.map CopyT.cells)) := by
  exact CallF.toP (cf_law20_few a0 r h) nlA (NLss_map' _)

def law20_alive  : Option Bool :=
  (judge_Twice ([(⟨0, 0, 0, 0, (⟨#[120]⟩ : ByteArray)⟩ : CopyT), (⟨0, 1, 0, 0, (⟨#[120]⟩ : ByteArray)⟩ : CopyT), (⟨0, 0, 0, 0, (⟨#[120]⟩ : ByteArray)⟩ : CopyT)] : (List CopyT))).bind fun y18 =>
  some (decide (y18 = 2))

theorem c_law20_alive  (r : Bool) (h : law20_alive  = some r) : CallP Try.prog 30 [] (LV.bool r) := by
  unfold law20_alive at h
  refine .intro nlA (.intro TT_ok Try.func30 rfl rfl [0] rfl ?_)
  conv => whnf
  replace h := bindS h
  obtain ⟨y18, hy18, h⟩ := h
  have c19 : CallP Try.prog 28 [(LV.ro 5 [[(I 0), (I 0), (I 0), (I 0), (LV.str (⟨#[120]⟩ : ByteArray))], [(I 0), (I 1), (I 0), (I 0), (LV.str (⟨#[120]⟩ : ByteArray))], [(I 0), (I 0), (I 0), (I 0), (LV.str (⟨#[120]⟩ : ByteArray))]])] (I y18) := by first | exact c_judge_Twice ([(⟨0, 0, 0, 0, (⟨#[120]⟩ : ByteArray)⟩ : CopyT), (⟨0, 1, 0, 0, (⟨#[120]⟩ : ByteArray)⟩ : CopyT), (⟨0, 0, 0, 0, (⟨#[120]⟩ : ByteArray)⟩ : CopyT)] : (List CopyT)) _ hy18 | (simpa only [se_map, se_byL, se_len, se_ch, List.length_map] using c_judge_Twice ([(⟨0, 0, 0, 0, (⟨#[120]⟩ : ByteArray)⟩ : CopyT), (⟨0, 1, 0, 0, (⟨#[120]⟩ : ByteArray)⟩ : CopyT), (⟨0, 0, 0, 0, (⟨#[120]⟩ : ByteArray)⟩ : CopyT)] : (List CopyT)) _ hy18) | (simpa only [se_map, se_byL, se_len, se_ch, List.length_map, CopyT.cells] using c_judge_Twice ([(⟨0, 0, 0, 0, (⟨#[120]⟩ : ByteArray)⟩ : CopyT), (⟨0, 1, 0, 0, (⟨#[120]⟩ : ByteArray)⟩ : CopyT), (⟨0, 0, 0, 0, (⟨#[120]⟩ : ByteArray)⟩ : CopyT)] : (List CopyT)) _ hy18)
  have e := Option.some.inj h
  subst e
  repeat' first | with_reducible rfl | with_reducible exact True.intro | with_reducible assumption | (refine CallP.use c19 ?_; conv => whnf) | exact clA _ | (refine And.intro ?_ ?_ <;> conv => whnf) | exact clG _ | (refine gand ?_ h; assumption) | exact clN _ | fail

def law20_JudgeTells (a0 : LanT) (a1 : (List (List Bool))) (a2 : (List CopyT)) (a3 : ByteArray) (a4 : Int) (a5 : Int) : Option Bool :=
  (law20_cut a0).bind fun y1 =>
  (law20_rows a1).bind fun y3 =>
  (law20_few a2).bind fun y5 =>
  grd ((0 : Int) ≤ (mn ((a3.size : Nat) : Int) 130) ∧ (mn ((a3.size : Nat) : Int) 130) ≤ ((a3.size : Nat) : Int)) <|
  (judge_Where y5 (a3.extract 0 ((mn ((a3.size : Nat) : Int) 130) : Int).toNat) a4).bind fun y8 =>
  (judge_Stray y1 y3 y5).bind fun y10 =>
  (judge_Hears y1 y5 a5).bind fun y12 =>
  (judge_Twice y5).bind fun y14 =>
  (ref20_Twice y5).bind fun y16 =>
  (gd (!(!decide (y14 = y16))) (law20_alive )).bind fun y18 =>
  (bif (bif (!decide (y14 = y16)) then true else (!y18)) then
    some false
  else
    (bif (bif (decide (a4 < 1)) then true else (decide (8 < a4))) then
      (bif (bif (!decide (y8.2 = 2)) then true else (!decide (((y8.1.length : Nat) : Int) = 0))) then
        some false
      else
        (ref17_May y1 y3).bind fun y20 =>
        (gd (!(!y20)) (ref20_Segs y5 y1.Segs)).bind fun y22 =>
        (bif (bif (!y20) then true else (!y22)) then
          (bif (bif (!decide (y10.2 = 1)) then true else (!decide (y10.1 = 0))) then
            some false
          else
            (ref15_Right y1).bind fun y24 =>
            (bif (!y24) then
              some (bif (decide (y12.2 = 1)) then (decide (((y12.1.length : Nat) : Int) = 0)) else false)
            else
              (bif (bif (decide (a5 < 0)) then true else (decide (((y1.Hosts.length : Nat) : Int) ≤ a5))) then
                some (bif (decide (y12.2 = 3)) then (decide (((y12.1.length : Nat) : Int) = 0)) else false)
              else
                (gd (decide (y12.2 = 0)) (ref20_Hears y1 y5 a5)).bind fun y26 =>
                (gd (decide (y12.2 = 0)) (ref06_Same y12.1 y26)).bind fun y28 =>
                some (bif (decide (y12.2 = 0)) then y28 else false))))
        else
          (gd (!(!decide (y10.2 = 0))) (ref20_Stray y1 y3 y5)).bind fun y30 =>
          (bif (bif (!decide (y10.2 = 0)) then true else (!decide (y10.1 = y30))) then
            some false
          else
            (ref15_Right y1).bind fun y32 =>
            (bif (!y32) then
              some (bif (decide (y12.2 = 1)) then (decide (((y12.1.length : Nat) : Int) = 0)) else false)
            else
              (bif (bif (decide (a5 < 0)) then true else (decide (((y1.Hosts.length : Nat) : Int) ≤ a5))) then
                some (bif (decide (y12.2 = 3)) then (decide (((y12.1.length : Nat) : Int) = 0)) else false)
              else
                (gd (decide (y12.2 = 0)) (ref20_Hears y1 y5 a5)).bind fun y34 =>
                (gd (decide (y12.2 = 0)) (ref06_Same y12.1 y34)).bind fun y36 =>
                some (bif (decide (y12.2 = 0)) then y36 else false))))))
    else
      (ref20_Segs y5 a4).bind fun y38 =>
      (bif (!y38) then
        (bif (bif (!decide (y8.2 = 1)) then true else (!decide (((y8.1.length : Nat) : Int) = 0))) then
          some false
        else
          (ref17_May y1 y3).bind fun y40 =>
          (gd (!(!y40)) (ref20_Segs y5 y1.Segs)).bind fun y42 =>
          (bif (bif (!y40) then true else (!y42)) then
            (bif (bif (!decide (y10.2 = 1)) then true else (!decide (y10.1 = 0))) then
              some false
            else
              (ref15_Right y1).bind fun y44 =>
              (bif (!y44) then
                some (bif (decide (y12.2 = 1)) then (decide (((y12.1.length : Nat) : Int) = 0)) else false)
              else
                (bif (bif (decide (a5 < 0)) then true else (decide (((y1.Hosts.length : Nat) : Int) ≤ a5))) then
                  some (bif (decide (y12.2 = 3)) then (decide (((y12.1.length : Nat) : Int) = 0)) else false)
                else
                  (gd (decide (y12.2 = 0)) (ref20_Hears y1 y5 a5)).bind fun y46 =>
                  (gd (decide (y12.2 = 0)) (ref06_Same y12.1 y46)).bind fun y48 =>
                  some (bif (decide (y12.2 = 0)) then y48 else false))))
          else
            (gd (!(!decide (y10.2 = 0))) (ref20_Stray y1 y3 y5)).bind fun y50 =>
            (bif (bif (!decide (y10.2 = 0)) then true else (!decide (y10.1 = y50))) then
              some false
            else
              (ref15_Right y1).bind fun y52 =>
              (bif (!y52) then
                some (bif (decide (y12.2 = 1)) then (decide (((y12.1.length : Nat) : Int) = 0)) else false)
              else
                (bif (bif (decide (a5 < 0)) then true else (decide (((y1.Hosts.length : Nat) : Int) ≤ a5))) then
                  some (bif (decide (y12.2 = 3)) then (decide (((y12.1.length : Nat) : Int) = 0)) else false)
                else
                  (gd (decide (y12.2 = 0)) (ref20_Hears y1 y5 a5)).bind fun y54 =>
                  (gd (decide (y12.2 = 0)) (ref06_Same y12.1 y54)).bind fun y56 =>
                  some (bif (decide (y12.2 = 0)) then y56 else false))))))
      else
        (gd (!(!decide (y8.2 = 0))) (ref20_Where y5 (a3.extract 0 ((mn ((a3.size : Nat) : Int) 130) : Int).toNat) a4)).bind fun y58 =>
        (gd (!(!decide (y8.2 = 0))) (ref06_Same y8.1 y58)).bind fun y60 =>
        (bif (bif (!decide (y8.2 = 0)) then true else (!y60)) then
          some false
        else
          (ref17_May y1 y3).bind fun y62 =>
          (gd (!(!y62)) (ref20_Segs y5 y1.Segs)).bind fun y64 =>
          (bif (bif (!y62) then true else (!y64)) then
            (bif (bif (!decide (y10.2 = 1)) then true else (!decide (y10.1 = 0))) then
              some false
            else
              (ref15_Right y1).bind fun y66 =>
              (bif (!y66) then
                some (bif (decide (y12.2 = 1)) then (decide (((y12.1.length : Nat) : Int) = 0)) else false)
              else
                (bif (bif (decide (a5 < 0)) then true else (decide (((y1.Hosts.length : Nat) : Int) ≤ a5))) then
                  some (bif (decide (y12.2 = 3)) then (decide (((y12.1.length : Nat) : Int) = 0)) else false)
                else
                  (gd (decide (y12.2 = 0)) (ref20_Hears y1 y5 a5)).bind fun y68 =>
                  (gd (decide (y12.2 = 0)) (ref06_Same y12.1 y68)).bind fun y70 =>
                  some (bif (decide (y12.2 = 0)) then y70 else false))))
          else
            (gd (!(!decide (y10.2 = 0))) (ref20_Stray y1 y3 y5)).bind fun y72 =>
            (bif (bif (!decide (y10.2 = 0)) then true else (!decide (y10.1 = y72))) then
              some false
            else
              (ref15_Right y1).bind fun y74 =>
              (bif (!y74) then
                some (bif (decide (y12.2 = 1)) then (decide (((y12.1.length : Nat) : Int) = 0)) else false)
              else
                (bif (bif (decide (a5 < 0)) then true else (decide (((y1.Hosts.length : Nat) : Int) ≤ a5))) then
                  some (bif (decide (y12.2 = 3)) then (decide (((y12.1.length : Nat) : Int) = 0)) else false)
                else
                  (gd (decide (y12.2 = 0)) (ref20_Hears y1 y5 a5)).bind fun y76 =>
                  (gd (decide (y12.2 = 0)) (ref06_Same y12.1 y76)).bind fun y78 =>
                  some (bif (decide (y12.2 = 0)) then y78 else false)))))))))

theorem c_law20_JudgeTells (a0 : LanT) (a1 : (List (List Bool))) (a2 : (List CopyT)) (a3 : ByteArray) (a4 : Int) (a5 : Int) (r : Bool) (h : law20_JudgeTells a0 a1 a2 a3 a4 a5 = some r) : CallP Try.prog 5 [(LV.agg [(I a0.Segs), (LV.ro 2 (a0.Plans.map PlanT.cells)), (LV.ro 2 (a0.Hosts.map HostT.cells))]), (LV.ro 1 (a1.map (roC 1 bC))), (LV.ro 5 (a2.map CopyT.cells)), (LV.str a3), (I a4), (I a5)] (LV.bool r) := by
  unfold law20_JudgeTells at h
  refine .intro nlA (.intro TT_ok Try.func5 rfl rfl [0, 1, 2, 3, 4, 5, 6, 12, 13, 14, 15, 16, 17, 18, 59, 60, 73, 74, 85, 86, 108, 114, 124, 125, 136] rfl ?_)
  conv => whnf
  replace h := bindS h
  obtain ⟨y1, hy1, h⟩ := h
  have c2 := c_law20_cut a0 _ hy1
  replace h := bindS h
  obtain ⟨y3, hy3, h⟩ := h
  have c4 := c_law20_rows a1 _ hy3
  replace h := bindS h
  obtain ⟨y5, hy5, h⟩ := h
  have c6 := c_law20_few a2 _ hy5
  replace h := grdS h
  obtain ⟨g7, h⟩ := h
  replace h := bindS h
  obtain ⟨y8, hy8, h⟩ := h
  have c9 := c_judge_Where y5 (a3.extract 0 ((mn ((a3.size : Nat) : Int) 130) : Int).toNat) a4 _ hy8
  replace h := bindS h
  obtain ⟨y10, hy10, h⟩ := h
  have c11 := c_judge_Stray y1 y3 y5 _ hy10
  replace h := bindS h
  obtain ⟨y12, hy12, h⟩ := h
  have c13 := c_judge_Hears y1 y5 a5 _ hy12
  replace h := bindS h
  obtain ⟨y14, hy14, h⟩ := h
  have c15 := c_judge_Twice y5 _ hy14
  replace h := bindS h
  obtain ⟨y16, hy16, h⟩ := h
  have c17 := c_ref20_Twice y5 _ hy16
  replace h := bindS h
  obtain ⟨y18, hy18, h⟩ := h
  have c19 := fun (hg : (!(!decide (y14 = y16))) = true) => c_law20_alive  _ (gdS hg hy18)
  repeat' first | with_reducible rfl | with_reducible exact True.intro | with_reducible assumption | refine parkI ?_ | (refine ⟨_, c19, ?_⟩; conv => whnf) | exact g7 | (refine CallP.use c2 ?_; conv => whnf) | (refine ⟨_, _, CallP.at c2, ?_⟩; conv => whnf) | (refine ⟨_, fun _ => c2, ?_⟩; conv => whnf) | (refine CallP.use c4 ?_; conv => whnf) | (refine ⟨_, _, CallP.at c4, ?_⟩; conv => whnf) | (refine ⟨_, fun _ => c4, ?_⟩; conv => whnf) | (refine CallP.use c6 ?_; conv => whnf) | (refine ⟨_, _, CallP.at c6, ?_⟩; conv => whnf) | (refine ⟨_, fun _ => c6, ?_⟩; conv => whnf) | (refine CallP.use c9 ?_; conv => whnf) | (refine ⟨_, _, CallP.at c9, ?_⟩; conv => whnf) | (refine ⟨_, fun _ => c9, ?_⟩; conv => whnf) | (refine CallP.use c11 ?_; conv => whnf) | (refine ⟨_, _, CallP.at c11, ?_⟩; conv => whnf) | (refine ⟨_, fun _ => c11, ?_⟩; conv => whnf) | (refine CallP.use c13 ?_; conv => whnf) | (refine ⟨_, _, CallP.at c13, ?_⟩; conv => whnf) | (refine ⟨_, fun _ => c13, ?_⟩; conv => whnf) | (refine CallP.use c15 ?_; conv => whnf) | (refine ⟨_, _, CallP.at c15, ?_⟩; conv => whnf) | (refine ⟨_, fun _ => c15, ?_⟩; conv => whnf) | (refine CallP.use c17 ?_; conv => whnf) | (refine ⟨_, _, CallP.at c17, ?_⟩; conv => whnf) | (refine ⟨_, fun _ => c17, ?_⟩; conv => whnf) | (refine W.drawnM (id := 1) 0 TT_ok hmix1 [0, 0, 0, 0, 0, 0, 0, 0, 0, 0, 0, 0, 1, 1, 1] [0, 0, 0, 0, 0, 0, 1, 1, 1, 1, 1, 1, 1, 1, 1] rfl ?_; conv => whnf) | exact clA _ | (refine And.intro ?_ ?_ <;> conv => whnf) | exact clG _ | (refine gand ?_ h; assumption) | exact clN _ | fail
  refine parkE (fun hc => ?_) (fun hc => ?_)
  · replace h := condT hc h
    conv => whnf
    have e := Option.some.inj h
    subst e
    repeat' first | with_reducible rfl | with_reducible exact True.intro | with_reducible assumption | (refine W.drawnM (id := 1) 0 TT_ok hmix1 [0, 0, 0, 0, 0, 0, 0, 0, 0, 0, 0, 0, 1, 1, 1] [0, 0, 0, 0, 0, 0, 1, 1, 1, 1, 1, 1, 1, 1, 1] rfl ?_; conv => whnf) | exact clA _ | (refine And.intro ?_ ?_ <;> conv => whnf) | exact clG _ | (refine gand ?_ h; assumption) | exact clN _ | fail
  · replace h := condF hc h
    conv => whnf
    repeat' first | with_reducible rfl | with_reducible exact True.intro | with_reducible assumption | refine parkI ?_ | (refine W.drawnM (id := 1) 0 TT_ok hmix1 [0, 0, 0, 0, 0, 0, 0, 0, 0, 0, 0, 0, 1, 1, 1] [0, 0, 0, 0, 0, 0, 1, 1, 1, 1, 1, 1, 1, 1, 1] rfl ?_; conv => whnf) | exact clA _ | (refine And.intro ?_ ?_ <;> conv => whnf) | exact clG _ | (refine gand ?_ h; assumption) | exact clN _ | fail
    refine parkE (fun hc => ?_) (fun hc => ?_)
    · replace h := condT hc h
      conv => whnf
      repeat' first | with_reducible rfl | with_reducible exact True.intro | with_reducible assumption | refine parkI ?_ | (refine W.drawnM (id := 1) 0 TT_ok hmix1 [0, 0, 0, 0, 0, 0, 0, 0, 0, 0, 0, 0, 1, 1, 1] [0, 0, 0, 0, 0, 0, 1, 1, 1, 1, 1, 1, 1, 1, 1] rfl ?_; conv => whnf) | exact clA _ | (refine And.intro ?_ ?_ <;> conv => whnf) | exact clG _ | (refine gand ?_ h; assumption) | exact clN _ | fail
      refine parkE (fun hc => ?_) (fun hc => ?_)
      · replace h := condT (by first | exact hc | (simpa only [se_len, se_ch, List.length_map] using hc; done) | (have h0 : (bif (!decide (y8.2 = 2)) then true else (!decide ((((y8.1.map iC).length : Nat) : Int) = 0))) = true := hc; simpa only [se_len, se_ch, List.length_map] using h0)) h
        conv => whnf
        have e := Option.some.inj h
        subst e
        repeat' first | with_reducible rfl | with_reducible exact True.intro | with_reducible assumption | (refine W.drawnM (id := 1) 0 TT_ok hmix1 [0, 0, 0, 0, 0, 0, 0, 0, 0, 0, 0, 0, 1, 1, 1] [0, 0, 0, 0, 0, 0, 1, 1, 1, 1, 1, 1, 1, 1, 1] rfl ?_; conv => whnf) | exact clA _ | (refine And.intro ?_ ?_ <;> conv => whnf) | exact clG _ | (refine gand ?_ h; assumption) | exact clN _ | fail
      · replace h := condF (by first | exact hc | (simpa only [se_len, se_ch, List.length_map] using hc; done) | (have h0 : (bif (!decide (y8.2 = 2)) then true else (!decide ((((y8.1.map iC).length : Nat) : Int) = 0))) = false := hc; simpa only [se_len, se_ch, List.length_map] using h0)) h
        conv => whnf
        replace h := bindS h
        obtain ⟨y20, hy20, h⟩ := h
        have c21 := c_ref17_May y1 y3 _ hy20
        replace h := bindS h
        obtain ⟨y22, hy22, h⟩ := h
        have c23 := fun (hg : (!(!y20)) = true) => c_ref20_Segs y5 y1.Segs _ (gdS hg hy22)
        repeat' first | with_reducible rfl | with_reducible exact True.intro | with_reducible assumption | refine parkI ?_ | (refine ⟨_, c23, ?_⟩; conv => whnf) | (refine CallP.use c21 ?_; conv => whnf) | (refine ⟨_, _, CallP.at c21, ?_⟩; conv => whnf) | (refine ⟨_, fun _ => c21, ?_⟩; conv => whnf) | (refine W.drawnM (id := 1) 0 TT_ok hmix1 [0, 0, 0, 0, 0, 0, 0, 0, 0, 0, 0, 0, 1, 1, 1] [0, 0, 0, 0, 0, 0, 1, 1, 1, 1, 1, 1, 1, 1, 1] rfl ?_; conv => whnf) | exact clA _ | (refine And.intro ?_ ?_ <;> conv => whnf) | exact clG _ | (refine gand ?_ h; assumption) | exact clN _ | fail
        refine parkE (fun hc => ?_) (fun hc => ?_)
        · replace h := condT hc h
          conv => whnf
          repeat' first | with_reducible rfl | with_reducible exact True.intro | with_reducible assumption | refine parkI ?_ | (refine W.drawnM (id := 1) 0 TT_ok hmix1 [0, 0, 0, 0, 0, 0, 0, 0, 0, 0, 0, 0, 1, 1, 1] [0, 0, 0, 0, 0, 0, 1, 1, 1, 1, 1, 1, 1, 1, 1] rfl ?_; conv => whnf) | exact clA _ | (refine And.intro ?_ ?_ <;> conv => whnf) | exact clG _ | (refine gand ?_ h; assumption) | exact clN _ | fail
          refine parkE (fun hc => ?_) (fun hc => ?_)
          · replace h := condT hc h
            conv => whnf
            have e := Option.some.inj h
            subst e
            repeat' first | with_reducible rfl | with_reducible exact True.intro | with_reducible assumption | (refine W.drawnM (id := 1) 0 TT_ok hmix1 [0, 0, 0, 0, 0, 0, 0, 0, 0, 0, 0, 0, 1, 1, 1] [0, 0, 0, 0, 0, 0, 1, 1, 1, 1, 1, 1, 1, 1, 1] rfl ?_; conv => whnf) | exact clA _ | (refine And.intro ?_ ?_ <;> conv => whnf) | exact clG _ | (refine gand ?_ h; assumption) | exact clN _ | fail
          · replace h := condF hc h
            conv => whnf
            replace h := bindS h
            obtain ⟨y24, hy24, h⟩ := h
            have c25 := c_ref15_Right y1 _ hy24
            repeat' first | with_reducible rfl | with_reducible exact True.intro | with_reducible assumption | refine parkI ?_ | (refine CallP.use c25 ?_; conv => whnf) | (refine ⟨_, _, CallP.at c25, ?_⟩; conv => whnf) | (refine ⟨_, fun _ => c25, ?_⟩; conv => whnf) | (refine W.drawnM (id := 1) 0 TT_ok hmix1 [0, 0, 0, 0, 0, 0, 0, 0, 0, 0, 0, 0, 1, 1, 1] [0, 0, 0, 0, 0, 0, 1, 1, 1, 1, 1, 1, 1, 1, 1] rfl ?_; conv => whnf) | exact clA _ | (refine And.intro ?_ ?_ <;> conv => whnf) | exact clG _ | (refine gand ?_ h; assumption) | exact clN _ | fail
            refine parkE (fun hc => ?_) (fun hc => ?_)
            · replace h := condT hc h
              conv => whnf
              have e := Option.some.inj h
              subst e
              repeat' first | with_reducible rfl | with_reducible exact True.intro | with_reducible assumption | (refine W.drawnM (id := 1) 0 TT_ok hmix1 [0, 0, 0, 0, 0, 0, 0, 0, 0, 0, 0, 0, 1, 1, 1] [0, 0, 0, 0, 0, 0, 1, 1, 1, 1, 1, 1, 1, 1, 1] rfl ?_; conv => whnf) | exact clA _ | (refine And.intro ?_ ?_ <;> conv => whnf) | exact clG _ | (refine gand ?_ h; assumption) | exact clN _ | fail
            · replace h := condF hc h
              conv => whnf
              repeat' first | with_reducible rfl | with_reducible exact True.intro | with_reducible assumption | refine parkI ?_ | (refine W.drawnM (id := 1) 0 TT_ok hmix1 [0, 0, 0, 0, 0, 0, 0, 0, 0, 0, 0, 0, 1, 1, 1] [0, 0, 0, 0, 0, 0, 1, 1, 1, 1, 1, 1, 1, 1, 1] rfl ?_; conv => whnf) | exact clA _ | (refine And.intro ?_ ?_ <;> conv => whnf) | exact clG _ | (refine gand ?_ h; assumption) | exact clN _ | fail
              refine parkE (fun hc => ?_) (fun hc => ?_)
              · replace h := condT (by first | exact hc | (simpa only [se_len, se_ch, List.length_map] using hc; done) | (have h0 : (bif (decide (a5 < 0)) then true else (decide ((((y1.Hosts.map HostT.cells).length : Nat) : Int) ≤ a5))) = true := hc; simpa only [se_len, se_ch, List.length_map] using h0)) h
                conv => whnf
                have e := Option.some.inj h
                subst e
                repeat' first | with_reducible rfl | with_reducible exact True.intro | with_reducible assumption | (refine W.drawnM (id := 1) 0 TT_ok hmix1 [0, 0, 0, 0, 0, 0, 0, 0, 0, 0, 0, 0, 1, 1, 1] [0, 0, 0, 0, 0, 0, 1, 1, 1, 1, 1, 1, 1, 1, 1] rfl ?_; conv => whnf) | exact clA _ | (refine And.intro ?_ ?_ <;> conv => whnf) | exact clG _ | (refine gand ?_ h; assumption) | exact clN _ | fail
              · replace h := condF (by first | exact hc | (simpa only [se_len, se_ch, List.length_map] using hc; done) | (have h0 : (bif (decide (a5 < 0)) then true else (decide ((((y1.Hosts.map HostT.cells).length : Nat) : Int) ≤ a5))) = false := hc; simpa only [se_len, se_ch, List.length_map] using h0)) h
                conv => whnf
                replace h := bindS h
                obtain ⟨y26, hy26, h⟩ := h
                have c27 := fun (hg : (decide (y12.2 = 0)) = true) => c_ref20_Hears y1 y5 a5 _ (gdS hg hy26)
                replace h := bindS h
                obtain ⟨y28, hy28, h⟩ := h
                have c29 := fun (hg : (decide (y12.2 = 0)) = true) => c_ref06_Same y12.1 y26 _ (gdS hg hy28)
                have e := Option.some.inj h
                subst e
                repeat' first | with_reducible rfl | with_reducible exact True.intro | with_reducible assumption | (refine ⟨_, c27, ?_⟩; conv => whnf) | (refine ⟨_, c29, ?_⟩; conv => whnf) | (refine W.drawnM (id := 1) 0 TT_ok hmix1 [0, 0, 0, 0, 0, 0, 0, 0, 0, 0, 0, 0, 1, 1, 1] [0, 0, 0, 0, 0, 0, 1, 1, 1, 1, 1, 1, 1, 1, 1] rfl ?_; conv => whnf) | exact clA _ | (refine And.intro ?_ ?_ <;> conv => whnf) | exact clG _ | (refine gand ?_ h; assumption) | exact clN _ | fail
        · replace h := condF hc h
          conv => whnf
          replace h := bindS h
          obtain ⟨y30, hy30, h⟩ := h
          have c31 := fun (hg : (!(!decide (y10.2 = 0))) = true) => c_ref20_Stray y1 y3 y5 _ (gdS hg hy30)
          repeat' first | with_reducible rfl | with_reducible exact True.intro | with_reducible assumption | refine parkI ?_ | (refine ⟨_, c31, ?_⟩; conv => whnf) | (refine W.drawnM (id := 1) 0 TT_ok hmix1 [0, 0, 0, 0, 0, 0, 0, 0, 0, 0, 0, 0, 1, 1, 1] [0, 0, 0, 0, 0, 0, 1, 1, 1, 1, 1, 1, 1, 1, 1] rfl ?_; conv => whnf) | exact clA _ | (refine And.intro ?_ ?_ <;> conv => whnf) | exact clG _ | (refine gand ?_ h; assumption) | exact clN _ | fail
          refine parkE (fun hc => ?_) (fun hc => ?_)
          · replace h := condT hc h
            conv => whnf
            have e := Option.some.inj h
            subst e
            repeat' first | with_reducible rfl | with_reducible exact True.intro | with_reducible assumption | (refine W.drawnM (id := 1) 0 TT_ok hmix1 [0, 0, 0, 0, 0, 0, 0, 0, 0, 0, 0, 0, 1, 1, 1] [0, 0, 0, 0, 0, 0, 1, 1, 1, 1, 1, 1, 1, 1, 1] rfl ?_; conv => whnf) | exact clA _ | (refine And.intro ?_ ?_ <;> conv => whnf) | exact clG _ | (refine gand ?_ h; assumption) | exact clN _ | fail
          · replace h := condF hc h
            conv => whnf
            replace h := bindS h
            obtain ⟨y32, hy32, h⟩ := h
            have c33 := c_ref15_Right y1 _ hy32
            repeat' first | with_reducible rfl | with_reducible exact True.intro | with_reducible assumption | refine parkI ?_ | (refine CallP.use c33 ?_; conv => whnf) | (refine ⟨_, _, CallP.at c33, ?_⟩; conv => whnf) | (refine ⟨_, fun _ => c33, ?_⟩; conv => whnf) | (refine W.drawnM (id := 1) 0 TT_ok hmix1 [0, 0, 0, 0, 0, 0, 0, 0, 0, 0, 0, 0, 1, 1, 1] [0, 0, 0, 0, 0, 0, 1, 1, 1, 1, 1, 1, 1, 1, 1] rfl ?_; conv => whnf) | exact clA _ | (refine And.intro ?_ ?_ <;> conv => whnf) | exact clG _ | (refine gand ?_ h; assumption) | exact clN _ | fail
            refine parkE (fun hc => ?_) (fun hc => ?_)
            · replace h := condT hc h
              conv => whnf
              have e := Option.some.inj h
              subst e
              repeat' first | with_reducible rfl | with_reducible exact True.intro | with_reducible assumption | (refine W.drawnM (id := 1) 0 TT_ok hmix1 [0, 0, 0, 0, 0, 0, 0, 0, 0, 0, 0, 0, 1, 1, 1] [0, 0, 0, 0, 0, 0, 1, 1, 1, 1, 1, 1, 1, 1, 1] rfl ?_; conv => whnf) | exact clA _ | (refine And.intro ?_ ?_ <;> conv => whnf) | exact clG _ | (refine gand ?_ h; assumption) | exact clN _ | fail
            · replace h := condF hc h
              conv => whnf
              repeat' first | with_reducible rfl | with_reducible exact True.intro | with_reducible assumption | refine parkI ?_ | (refine W.drawnM (id := 1) 0 TT_ok hmix1 [0, 0, 0, 0, 0, 0, 0, 0, 0, 0, 0, 0, 1, 1, 1] [0, 0, 0, 0, 0, 0, 1, 1, 1, 1, 1, 1, 1, 1, 1] rfl ?_; conv => whnf) | exact clA _ | (refine And.intro ?_ ?_ <;> conv => whnf) | exact clG _ | (refine gand ?_ h; assumption) | exact clN _ | fail
              refine parkE (fun hc => ?_) (fun hc => ?_)
              · replace h := condT (by first | exact hc | (simpa only [se_len, se_ch, List.length_map] using hc; done) | (have h0 : (bif (decide (a5 < 0)) then true else (decide ((((y1.Hosts.map HostT.cells).length : Nat) : Int) ≤ a5))) = true := hc; simpa only [se_len, se_ch, List.length_map] using h0)) h
                conv => whnf
                have e := Option.some.inj h
                subst e
                repeat' first | with_reducible rfl | with_reducible exact True.intro | with_reducible assumption | (refine W.drawnM (id := 1) 0 TT_ok hmix1 [0, 0, 0, 0, 0, 0, 0, 0, 0, 0, 0, 0, 1, 1, 1] [0, 0, 0, 0, 0, 0, 1, 1, 1, 1, 1, 1, 1, 1, 1] rfl ?_; conv => whnf) | exact clA _ | (refine And.intro ?_ ?_ <;> conv => whnf) | exact clG _ | (refine gand ?_ h; assumption) | exact clN _ | fail
              · replace h := condF (by first | exact hc | (simpa only [se_len, se_ch, List.length_map] using hc; done) | (have h0 : (bif (decide (a5 < 0)) then true else (decide ((((y1.Hosts.map HostT.cells).length : Nat) : Int) ≤ a5))) = false := hc; simpa only [se_len, se_ch, List.length_map] using h0)) h
                conv => whnf
                replace h := bindS h
                obtain ⟨y34, hy34, h⟩ := h
                have c35 := fun (hg : (decide (y12.2 = 0)) = true) => c_ref20_Hears y1 y5 a5 _ (gdS hg hy34)
                replace h := bindS h
                obtain ⟨y36, hy36, h⟩ := h
                have c37 := fun (hg : (decide (y12.2 = 0)) = true) => c_ref06_Same y12.1 y34 _ (gdS hg hy36)
                have e := Option.some.inj h
                subst e
                repeat' first | with_reducible rfl | with_reducible exact True.intro | with_reducible assumption | (refine ⟨_, c35, ?_⟩; conv => whnf) | (refine ⟨_, c37, ?_⟩; conv => whnf) | (refine W.drawnM (id := 1) 0 TT_ok hmix1 [0, 0, 0, 0, 0, 0, 0, 0, 0, 0, 0, 0, 1, 1, 1] [0, 0, 0, 0, 0, 0, 1, 1, 1, 1, 1, 1, 1, 1, 1] rfl ?_; conv => whnf) | exact clA _ | (refine And.intro ?_ ?_ <;> conv => whnf) | exact clG _ | (refine gand ?_ h; assumption) | exact clN _ | fail
    · replace h := condF hc h
      conv => whnf
      replace h := bindS h
      obtain ⟨y38, hy38, h⟩ := h
      have c39 := c_ref20_Segs y5 a4 _ hy38
      repeat' first | with_reducible rfl | with_reducible exact True.intro | with_reducible assumption | refine parkI ?_ | (refine CallP.use c39 ?_; conv => whnf) | (refine ⟨_, _, CallP.at c39, ?_⟩; conv => whnf) | (refine ⟨_, fun _ => c39, ?_⟩; conv => whnf) | (refine W.drawnM (id := 1) 0 TT_ok hmix1 [0, 0, 0, 0, 0, 0, 0, 0, 0, 0, 0, 0, 1, 1, 1] [0, 0, 0, 0, 0, 0, 1, 1, 1, 1, 1, 1, 1, 1, 1] rfl ?_; conv => whnf) | exact clA _ | (refine And.intro ?_ ?_ <;> conv => whnf) | exact clG _ | (refine gand ?_ h; assumption) | exact clN _ | fail
      refine parkE (fun hc => ?_) (fun hc => ?_)
      · replace h := condT hc h
        conv => whnf
        repeat' first | with_reducible rfl | with_reducible exact True.intro | with_reducible assumption | refine parkI ?_ | (refine W.drawnM (id := 1) 0 TT_ok hmix1 [0, 0, 0, 0, 0, 0, 0, 0, 0, 0, 0, 0, 1, 1, 1] [0, 0, 0, 0, 0, 0, 1, 1, 1, 1, 1, 1, 1, 1, 1] rfl ?_; conv => whnf) | exact clA _ | (refine And.intro ?_ ?_ <;> conv => whnf) | exact clG _ | (refine gand ?_ h; assumption) | exact clN _ | fail
        refine parkE (fun hc => ?_) (fun hc => ?_)
        · replace h := condT (by first | exact hc | (simpa only [se_len, se_ch, List.length_map] using hc; done) | (have h0 : (bif (!decide (y8.2 = 1)) then true else (!decide ((((y8.1.map iC).length : Nat) : Int) = 0))) = true := hc; simpa only [se_len, se_ch, List.length_map] using h0)) h
          conv => whnf
          have e := Option.some.inj h
          subst e
          repeat' first | with_reducible rfl | with_reducible exact True.intro | with_reducible assumption | (refine W.drawnM (id := 1) 0 TT_ok hmix1 [0, 0, 0, 0, 0, 0, 0, 0, 0, 0, 0, 0, 1, 1, 1] [0, 0, 0, 0, 0, 0, 1, 1, 1, 1, 1, 1, 1, 1, 1] rfl ?_; conv => whnf) | exact clA _ | (refine And.intro ?_ ?_ <;> conv => whnf) | exact clG _ | (refine gand ?_ h; assumption) | exact clN _ | fail
        · replace h := condF (by first | exact hc | (simpa only [se_len, se_ch, List.length_map] using hc; done) | (have h0 : (bif (!decide (y8.2 = 1)) then true else (!decide ((((y8.1.map iC).length : Nat) : Int) = 0))) = false := hc; simpa only [se_len, se_ch, List.length_map] using h0)) h
          conv => whnf
          replace h := bindS h
          obtain ⟨y40, hy40, h⟩ := h
          have c41 := c_ref17_May y1 y3 _ hy40
          replace h := bindS h
          obtain ⟨y42, hy42, h⟩ := h
          have c43 := fun (hg : (!(!y40)) = true) => c_ref20_Segs y5 y1.Segs _ (gdS hg hy42)
          repeat' first | with_reducible rfl | with_reducible exact True.intro | with_reducible assumption | refine parkI ?_ | (refine ⟨_, c43, ?_⟩; conv => whnf) | (refine CallP.use c41 ?_; conv => whnf) | (refine ⟨_, _, CallP.at c41, ?_⟩; conv => whnf) | (refine ⟨_, fun _ => c41, ?_⟩; conv => whnf) | (refine W.drawnM (id := 1) 0 TT_ok hmix1 [0, 0, 0, 0, 0, 0, 0, 0, 0, 0, 0, 0, 1, 1, 1] [0, 0, 0, 0, 0, 0, 1, 1, 1, 1, 1, 1, 1, 1, 1] rfl ?_; conv => whnf) | exact clA _ | (refine And.intro ?_ ?_ <;> conv => whnf) | exact clG _ | (refine gand ?_ h; assumption) | exact clN _ | fail
          refine parkE (fun hc => ?_) (fun hc => ?_)
          · replace h := condT hc h
            conv => whnf
            repeat' first | with_reducible rfl | with_reducible exact True.intro | with_reducible assumption | refine parkI ?_ | (refine W.drawnM (id := 1) 0 TT_ok hmix1 [0, 0, 0, 0, 0, 0, 0, 0, 0, 0, 0, 0, 1, 1, 1] [0, 0, 0, 0, 0, 0, 1, 1, 1, 1, 1, 1, 1, 1, 1] rfl ?_; conv => whnf) | exact clA _ | (refine And.intro ?_ ?_ <;> conv => whnf) | exact clG _ | (refine gand ?_ h; assumption) | exact clN _ | fail
            refine parkE (fun hc => ?_) (fun hc => ?_)
            · replace h := condT hc h
              conv => whnf
              have e := Option.some.inj h
              subst e
              repeat' first | with_reducible rfl | with_reducible exact True.intro | with_reducible assumption | (refine W.drawnM (id := 1) 0 TT_ok hmix1 [0, 0, 0, 0, 0, 0, 0, 0, 0, 0, 0, 0, 1, 1, 1] [0, 0, 0, 0, 0, 0, 1, 1, 1, 1, 1, 1, 1, 1, 1] rfl ?_; conv => whnf) | exact clA _ | (refine And.intro ?_ ?_ <;> conv => whnf) | exact clG _ | (refine gand ?_ h; assumption) | exact clN _ | fail
            · replace h := condF hc h
              conv => whnf
              replace h := bindS h
              obtain ⟨y44, hy44, h⟩ := h
              have c45 := c_ref15_Right y1 _ hy44
              repeat' first | with_reducible rfl | with_reducible exact True.intro | with_reducible assumption | refine parkI ?_ | (refine CallP.use c45 ?_; conv => whnf) | (refine ⟨_, _, CallP.at c45, ?_⟩; conv => whnf) | (refine ⟨_, fun _ => c45, ?_⟩; conv => whnf) | (refine W.drawnM (id := 1) 0 TT_ok hmix1 [0, 0, 0, 0, 0, 0, 0, 0, 0, 0, 0, 0, 1, 1, 1] [0, 0, 0, 0, 0, 0, 1, 1, 1, 1, 1, 1, 1, 1, 1] rfl ?_; conv => whnf) | exact clA _ | (refine And.intro ?_ ?_ <;> conv => whnf) | exact clG _ | (refine gand ?_ h; assumption) | exact clN _ | fail
              refine parkE (fun hc => ?_) (fun hc => ?_)
              · replace h := condT hc h
                conv => whnf
                have e := Option.some.inj h
                subst e
                repeat' first | with_reducible rfl | with_reducible exact True.intro | with_reducible assumption | (refine W.drawnM (id := 1) 0 TT_ok hmix1 [0, 0, 0, 0, 0, 0, 0, 0, 0, 0, 0, 0, 1, 1, 1] [0, 0, 0, 0, 0, 0, 1, 1, 1, 1, 1, 1, 1, 1, 1] rfl ?_; conv => whnf) | exact clA _ | (refine And.intro ?_ ?_ <;> conv => whnf) | exact clG _ | (refine gand ?_ h; assumption) | exact clN _ | fail
              · replace h := condF hc h
                conv => whnf
                repeat' first | with_reducible rfl | with_reducible exact True.intro | with_reducible assumption | refine parkI ?_ | (refine W.drawnM (id := 1) 0 TT_ok hmix1 [0, 0, 0, 0, 0, 0, 0, 0, 0, 0, 0, 0, 1, 1, 1] [0, 0, 0, 0, 0, 0, 1, 1, 1, 1, 1, 1, 1, 1, 1] rfl ?_; conv => whnf) | exact clA _ | (refine And.intro ?_ ?_ <;> conv => whnf) | exact clG _ | (refine gand ?_ h; assumption) | exact clN _ | fail
                refine parkE (fun hc => ?_) (fun hc => ?_)
                · replace h := condT (by first | exact hc | (simpa only [se_len, se_ch, List.length_map] using hc; done) | (have h0 : (bif (decide (a5 < 0)) then true else (decide ((((y1.Hosts.map HostT.cells).length : Nat) : Int) ≤ a5))) = true := hc; simpa only [se_len, se_ch, List.length_map] using h0)) h
                  conv => whnf
                  have e := Option.some.inj h
                  subst e
                  repeat' first | with_reducible rfl | with_reducible exact True.intro | with_reducible assumption | (refine W.drawnM (id := 1) 0 TT_ok hmix1 [0, 0, 0, 0, 0, 0, 0, 0, 0, 0, 0, 0, 1, 1, 1] [0, 0, 0, 0, 0, 0, 1, 1, 1, 1, 1, 1, 1, 1, 1] rfl ?_; conv => whnf) | exact clA _ | (refine And.intro ?_ ?_ <;> conv => whnf) | exact clG _ | (refine gand ?_ h; assumption) | exact clN _ | fail
                · replace h := condF (by first | exact hc | (simpa only [se_len, se_ch, List.length_map] using hc; done) | (have h0 : (bif (decide (a5 < 0)) then true else (decide ((((y1.Hosts.map HostT.cells).length : Nat) : Int) ≤ a5))) = false := hc; simpa only [se_len, se_ch, List.length_map] using h0)) h
                  conv => whnf
                  replace h := bindS h
                  obtain ⟨y46, hy46, h⟩ := h
                  have c47 := fun (hg : (decide (y12.2 = 0)) = true) => c_ref20_Hears y1 y5 a5 _ (gdS hg hy46)
                  replace h := bindS h
                  obtain ⟨y48, hy48, h⟩ := h
                  have c49 := fun (hg : (decide (y12.2 = 0)) = true) => c_ref06_Same y12.1 y46 _ (gdS hg hy48)
                  have e := Option.some.inj h
                  subst e
                  repeat' first | with_reducible rfl | with_reducible exact True.intro | with_reducible assumption | (refine ⟨_, c47, ?_⟩; conv => whnf) | (refine ⟨_, c49, ?_⟩; conv => whnf) | (refine W.drawnM (id := 1) 0 TT_ok hmix1 [0, 0, 0, 0, 0, 0, 0, 0, 0, 0, 0, 0, 1, 1, 1] [0, 0, 0, 0, 0, 0, 1, 1, 1, 1, 1, 1, 1, 1, 1] rfl ?_; conv => whnf) | exact clA _ | (refine And.intro ?_ ?_ <;> conv => whnf) | exact clG _ | (refine gand ?_ h; assumption) | exact clN _ | fail
          · replace h := condF hc h
            conv => whnf
            replace h := bindS h
            obtain ⟨y50, hy50, h⟩ := h
            have c51 := fun (hg : (!(!decide (y10.2 = 0))) = true) => c_ref20_Stray y1 y3 y5 _ (gdS hg hy50)
            repeat' first | with_reducible rfl | with_reducible exact True.intro | with_reducible assumption | refine parkI ?_ | (refine ⟨_, c51, ?_⟩; conv => whnf) | (refine W.drawnM (id := 1) 0 TT_ok hmix1 [0, 0, 0, 0, 0, 0, 0, 0, 0, 0, 0, 0, 1, 1, 1] [0, 0, 0, 0, 0, 0, 1, 1, 1, 1, 1, 1, 1, 1, 1] rfl ?_; conv => whnf) | exact clA _ | (refine And.intro ?_ ?_ <;> conv => whnf) | exact clG _ | (refine gand ?_ h; assumption) | exact clN _ | fail
            refine parkE (fun hc => ?_) (fun hc => ?_)
            · replace h := condT hc h
              conv => whnf
              have e := Option.some.inj h
              subst e
              repeat' first | with_reducible rfl | with_reducible exact True.intro | with_reducible assumption | (refine W.drawnM (id := 1) 0 TT_ok hmix1 [0, 0, 0, 0, 0, 0, 0, 0, 0, 0, 0, 0, 1, 1, 1] [0, 0, 0, 0, 0, 0, 1, 1, 1, 1, 1, 1, 1, 1, 1] rfl ?_; conv => whnf) | exact clA _ | (refine And.intro ?_ ?_ <;> conv => whnf) | exact clG _ | (refine gand ?_ h; assumption) | exact clN _ | fail
            · replace h := condF hc h
              conv => whnf
              replace h := bindS h
              obtain ⟨y52, hy52, h⟩ := h
              have c53 := c_ref15_Right y1 _ hy52
              repeat' first | with_reducible rfl | with_reducible exact True.intro | with_reducible assumption | refine parkI ?_ | (refine CallP.use c53 ?_; conv => whnf) | (refine ⟨_, _, CallP.at c53, ?_⟩; conv => whnf) | (refine ⟨_, fun _ => c53, ?_⟩; conv => whnf) | (refine W.drawnM (id := 1) 0 TT_ok hmix1 [0, 0, 0, 0, 0, 0, 0, 0, 0, 0, 0, 0, 1, 1, 1] [0, 0, 0, 0, 0, 0, 1, 1, 1, 1, 1, 1, 1, 1, 1] rfl ?_; conv => whnf) | exact clA _ | (refine And.intro ?_ ?_ <;> conv => whnf) | exact clG _ | (refine gand ?_ h; assumption) | exact clN _ | fail
              refine parkE (fun hc => ?_) (fun hc => ?_)
              · replace h := condT hc h
                conv => whnf
                have e := Option.some.inj h
                subst e
                repeat' first | with_reducible rfl | with_reducible exact True.intro | with_reducible assumption | (refine W.drawnM (id := 1) 0 TT_ok hmix1 [0, 0, 0, 0, 0, 0, 0, 0, 0, 0, 0, 0, 1, 1, 1] [0, 0, 0, 0, 0, 0, 1, 1, 1, 1, 1, 1, 1, 1, 1] rfl ?_; conv => whnf) | exact clA _ | (refine And.intro ?_ ?_ <;> conv => whnf) | exact clG _ | (refine gand ?_ h; assumption) | exact clN _ | fail
              · replace h := condF hc h
                conv => whnf
                repeat' first | with_reducible rfl | with_reducible exact True.intro | with_reducible assumption | refine parkI ?_ | (refine W.drawnM (id := 1) 0 TT_ok hmix1 [0, 0, 0, 0, 0, 0, 0, 0, 0, 0, 0, 0, 1, 1, 1] [0, 0, 0, 0, 0, 0, 1, 1, 1, 1, 1, 1, 1, 1, 1] rfl ?_; conv => whnf) | exact clA _ | (refine And.intro ?_ ?_ <;> conv => whnf) | exact clG _ | (refine gand ?_ h; assumption) | exact clN _ | fail
                refine parkE (fun hc => ?_) (fun hc => ?_)
                · replace h := condT (by first | exact hc | (simpa only [se_len, se_ch, List.length_map] using hc; done) | (have h0 : (bif (decide (a5 < 0)) then true else (decide ((((y1.Hosts.map HostT.cells).length : Nat) : Int) ≤ a5))) = true := hc; simpa only [se_len, se_ch, List.length_map] using h0)) h
                  conv => whnf
                  have e := Option.some.inj h
                  subst e
                  repeat' first | with_reducible rfl | with_reducible exact True.intro | with_reducible assumption | (refine W.drawnM (id := 1) 0 TT_ok hmix1 [0, 0, 0, 0, 0, 0, 0, 0, 0, 0, 0, 0, 1, 1, 1] [0, 0, 0, 0, 0, 0, 1, 1, 1, 1, 1, 1, 1, 1, 1] rfl ?_; conv => whnf) | exact clA _ | (refine And.intro ?_ ?_ <;> conv => whnf) | exact clG _ | (refine gand ?_ h; assumption) | exact clN _ | fail
                · replace h := condF (by first | exact hc | (simpa only [se_len, se_ch, List.length_map] using hc; done) | (have h0 : (bif (decide (a5 < 0)) then true else (decide ((((y1.Hosts.map HostT.cells).length : Nat) : Int) ≤ a5))) = false := hc; simpa only [se_len, se_ch, List.length_map] using h0)) h
                  conv => whnf
                  replace h := bindS h
                  obtain ⟨y54, hy54, h⟩ := h
                  have c55 := fun (hg : (decide (y12.2 = 0)) = true) => c_ref20_Hears y1 y5 a5 _ (gdS hg hy54)
                  replace h := bindS h
                  obtain ⟨y56, hy56, h⟩ := h
                  have c57 := fun (hg : (decide (y12.2 = 0)) = true) => c_ref06_Same y12.1 y54 _ (gdS hg hy56)
                  have e := Option.some.inj h
                  subst e
                  repeat' first | with_reducible rfl | with_reducible exact True.intro | with_reducible assumption | (refine ⟨_, c55, ?_⟩; conv => whnf) | (refine ⟨_, c57, ?_⟩; conv => whnf) | (refine W.drawnM (id := 1) 0 TT_ok hmix1 [0, 0, 0, 0, 0, 0, 0, 0, 0, 0, 0, 0, 1, 1, 1] [0, 0, 0, 0, 0, 0, 1, 1, 1, 1, 1, 1, 1, 1, 1] rfl ?_; conv => whnf) | exact clA _ | (refine And.intro ?_ ?_ <;> conv => whnf) | exact clG _ | (refine gand ?_ h; assumption) | exact clN _ | fail
      · replace h := condF hc h
        conv => whnf
        replace h := bindS h
        obtain ⟨y58, hy58, h⟩ := h
        have c59 := fun (hg : (!(!decide (y8.2 = 0))) = true) => c_ref20_Where y5 (a3.extract 0 ((mn ((a3.size : Nat) : Int) 130) : Int).toNat) a4 _ (gdS hg hy58)
        replace h := bindS h
        obtain ⟨y60, hy60, h⟩ := h
        have c61 := fun (hg : (!(!decide (y8.2 = 0))) = true) => c_ref06_Same y8.1 y58 _ (gdS hg hy60)
        repeat' first | with_reducible rfl | with_reducible exact True.intro | with_reducible assumption | refine parkI ?_ | (refine ⟨_, c59, ?_⟩; conv => whnf) | (refine ⟨_, c61, ?_⟩; conv => whnf) | (refine W.drawnM (id := 1) 0 TT_ok hmix1 [0, 0, 0, 0, 0, 0, 0, 0, 0, 0, 0, 0, 1, 1, 1] [0, 0, 0, 0, 0, 0, 1, 1, 1, 1, 1, 1, 1, 1, 1] rfl ?_; conv => whnf) | exact clA _ | (refine And.intro ?_ ?_ <;> conv => whnf) | exact clG _ | (refine gand ?_ h; assumption) | exact clN _ | fail
        refine parkE (fun hc => ?_) (fun hc => ?_)
        · replace h := condT hc h
          conv => whnf
          have e := Option.some.inj h
          subst e
          repeat' first | with_reducible rfl | with_reducible exact True.intro | with_reducible assumption | (refine W.drawnM (id := 1) 0 TT_ok hmix1 [0, 0, 0, 0, 0, 0, 0, 0, 0, 0, 0, 0, 1, 1, 1] [0, 0, 0, 0, 0, 0, 1, 1, 1, 1, 1, 1, 1, 1, 1] rfl ?_; conv => whnf) | exact clA _ | (refine And.intro ?_ ?_ <;> conv => whnf) | exact clG _ | (refine gand ?_ h; assumption) | exact clN _ | fail
        · replace h := condF hc h
          conv => whnf
          replace h := bindS h
          obtain ⟨y62, hy62, h⟩ := h
          have c63 := c_ref17_May y1 y3 _ hy62
          replace h := bindS h
          obtain ⟨y64, hy64, h⟩ := h
          have c65 := fun (hg : (!(!y62)) = true) => c_ref20_Segs y5 y1.Segs _ (gdS hg hy64)
          repeat' first | with_reducible rfl | with_reducible exact True.intro | with_reducible assumption | refine parkI ?_ | (refine ⟨_, c65, ?_⟩; conv => whnf) | (refine CallP.use c63 ?_; conv => whnf) | (refine ⟨_, _, CallP.at c63, ?_⟩; conv => whnf) | (refine ⟨_, fun _ => c63, ?_⟩; conv => whnf) | (refine W.drawnM (id := 1) 0 TT_ok hmix1 [0, 0, 0, 0, 0, 0, 0, 0, 0, 0, 0, 0, 1, 1, 1] [0, 0, 0, 0, 0, 0, 1, 1, 1, 1, 1, 1, 1, 1, 1] rfl ?_; conv => whnf) | exact clA _ | (refine And.intro ?_ ?_ <;> conv => whnf) | exact clG _ | (refine gand ?_ h; assumption) | exact clN _ | fail
          refine parkE (fun hc => ?_) (fun hc => ?_)
          · replace h := condT hc h
            conv => whnf
            repeat' first | with_reducible rfl | with_reducible exact True.intro | with_reducible assumption | refine parkI ?_ | (refine W.drawnM (id := 1) 0 TT_ok hmix1 [0, 0, 0, 0, 0, 0, 0, 0, 0, 0, 0, 0, 1, 1, 1] [0, 0, 0, 0, 0, 0, 1, 1, 1, 1, 1, 1, 1, 1, 1] rfl ?_; conv => whnf) | exact clA _ | (refine And.intro ?_ ?_ <;> conv => whnf) | exact clG _ | (refine gand ?_ h; assumption) | exact clN _ | fail
            refine parkE (fun hc => ?_) (fun hc => ?_)
            · replace h := condT hc h
              conv => whnf
              have e := Option.some.inj h
              subst e
              repeat' first | with_reducible rfl | with_reducible exact True.intro | with_reducible assumption | (refine W.drawnM (id := 1) 0 TT_ok hmix1 [0, 0, 0, 0, 0, 0, 0, 0, 0, 0, 0, 0, 1, 1, 1] [0, 0, 0, 0, 0, 0, 1, 1, 1, 1, 1, 1, 1, 1, 1] rfl ?_; conv => whnf) | exact clA _ | (refine And.intro ?_ ?_ <;> conv => whnf) | exact clG _ | (refine gand ?_ h; assumption) | exact clN _ | fail
            · replace h := condF hc h
              conv => whnf
              replace h := bindS h
              obtain ⟨y66, hy66, h⟩ := h
              have c67 := c_ref15_Right y1 _ hy66
              repeat' first | with_reducible rfl | with_reducible exact True.intro | with_reducible assumption | refine parkI ?_ | (refine CallP.use c67 ?_; conv => whnf) | (refine ⟨_, _, CallP.at c67, ?_⟩; conv => whnf) | (refine ⟨_, fun _ => c67, ?_⟩; conv => whnf) | (refine W.drawnM (id := 1) 0 TT_ok hmix1 [0, 0, 0, 0, 0, 0, 0, 0, 0, 0, 0, 0, 1, 1, 1] [0, 0, 0, 0, 0, 0, 1, 1, 1, 1, 1, 1, 1, 1, 1] rfl ?_; conv => whnf) | exact clA _ | (refine And.intro ?_ ?_ <;> conv => whnf) | exact clG _ | (refine gand ?_ h; assumption) | exact clN _ | fail
              refine parkE (fun hc => ?_) (fun hc => ?_)
              · replace h := condT hc h
                conv => whnf
                have e := Option.some.inj h
                subst e
                repeat' first | with_reducible rfl | with_reducible exact True.intro | with_reducible assumption | (refine W.drawnM (id := 1) 0 TT_ok hmix1 [0, 0, 0, 0, 0, 0, 0, 0, 0, 0, 0, 0, 1, 1, 1] [0, 0, 0, 0, 0, 0, 1, 1, 1, 1, 1, 1, 1, 1, 1] rfl ?_; conv => whnf) | exact clA _ | (refine And.intro ?_ ?_ <;> conv => whnf) | exact clG _ | (refine gand ?_ h; assumption) | exact clN _ | fail
              · replace h := condF hc h
                conv => whnf
                repeat' first | with_reducible rfl | with_reducible exact True.intro | with_reducible assumption | refine parkI ?_ | (refine W.drawnM (id := 1) 0 TT_ok hmix1 [0, 0, 0, 0, 0, 0, 0, 0, 0, 0, 0, 0, 1, 1, 1] [0, 0, 0, 0, 0, 0, 1, 1, 1, 1, 1, 1, 1, 1, 1] rfl ?_; conv => whnf) | exact clA _ | (refine And.intro ?_ ?_ <;> conv => whnf) | exact clG _ | (refine gand ?_ h; assumption) | exact clN _ | fail
                refine parkE (fun hc => ?_) (fun hc => ?_)
                · replace h := condT (by first | exact hc | (simpa only [se_len, se_ch, List.length_map] using hc; done) | (have h0 : (bif (decide (a5 < 0)) then true else (decide ((((y1.Hosts.map HostT.cells).length : Nat) : Int) ≤ a5))) = true := hc; simpa only [se_len, se_ch, List.length_map] using h0)) h
                  conv => whnf
                  have e := Option.some.inj h
                  subst e
                  repeat' first | with_reducible rfl | with_reducible exact True.intro | with_reducible assumption | (refine W.drawnM (id := 1) 0 TT_ok hmix1 [0, 0, 0, 0, 0, 0, 0, 0, 0, 0, 0, 0, 1, 1, 1] [0, 0, 0, 0, 0, 0, 1, 1, 1, 1, 1, 1, 1, 1, 1] rfl ?_; conv => whnf) | exact clA _ | (refine And.intro ?_ ?_ <;> conv => whnf) | exact clG _ | (refine gand ?_ h; assumption) | exact clN _ | fail
                · replace h := condF (by first | exact hc | (simpa only [se_len, se_ch, List.length_map] using hc; done) | (have h0 : (bif (decide (a5 < 0)) then true else (decide ((((y1.Hosts.map HostT.cells).length : Nat) : Int) ≤ a5))) = false := hc; simpa only [se_len, se_ch, List.length_map] using h0)) h
                  conv => whnf
                  replace h := bindS h
                  obtain ⟨y68, hy68, h⟩ := h
                  have c69 := fun (hg : (decide (y12.2 = 0)) = true) => c_ref20_Hears y1 y5 a5 _ (gdS hg hy68)
                  replace h := bindS h
                  obtain ⟨y70, hy70, h⟩ := h
                  have c71 := fun (hg : (decide (y12.2 = 0)) = true) => c_ref06_Same y12.1 y68 _ (gdS hg hy70)
                  have e := Option.some.inj h
                  subst e
                  repeat' first | with_reducible rfl | with_reducible exact True.intro | with_reducible assumption | (refine ⟨_, c69, ?_⟩; conv => whnf) | (refine ⟨_, c71, ?_⟩; conv => whnf) | (refine W.drawnM (id := 1) 0 TT_ok hmix1 [0, 0, 0, 0, 0, 0, 0, 0, 0, 0, 0, 0, 1, 1, 1] [0, 0, 0, 0, 0, 0, 1, 1, 1, 1, 1, 1, 1, 1, 1] rfl ?_; conv => whnf) | exact clA _ | (refine And.intro ?_ ?_ <;> conv => whnf) | exact clG _ | (refine gand ?_ h; assumption) | exact clN _ | fail
          · replace h := condF hc h
            conv => whnf
            replace h := bindS h
            obtain ⟨y72, hy72, h⟩ := h
            have c73 := fun (hg : (!(!decide (y10.2 = 0))) = true) => c_ref20_Stray y1 y3 y5 _ (gdS hg hy72)
            repeat' first | with_reducible rfl | with_reducible exact True.intro | with_reducible assumption | refine parkI ?_ | (refine ⟨_, c73, ?_⟩; conv => whnf) | (refine W.drawnM (id := 1) 0 TT_ok hmix1 [0, 0, 0, 0, 0, 0, 0, 0, 0, 0, 0, 0, 1, 1, 1] [0, 0, 0, 0, 0, 0, 1, 1, 1, 1, 1, 1, 1, 1, 1] rfl ?_; conv => whnf) | exact clA _ | (refine And.intro ?_ ?_ <;> conv => whnf) | exact clG _ | (refine gand ?_ h; assumption) | exact clN _ | fail
            refine parkE (fun hc => ?_) (fun hc => ?_)
            · replace h := condT hc h
              conv => whnf
              have e := Option.some.inj h
              subst e
              repeat' first | with_reducible rfl | with_reducible exact True.intro | with_reducible assumption | (refine W.drawnM (id := 1) 0 TT_ok hmix1 [0, 0, 0, 0, 0, 0, 0, 0, 0, 0, 0, 0, 1, 1, 1] [0, 0, 0, 0, 0, 0, 1, 1, 1, 1, 1, 1, 1, 1, 1] rfl ?_; conv => whnf) | exact clA _ | (refine And.intro ?_ ?_ <;> conv => whnf) | exact clG _ | (refine gand ?_ h; assumption) | exact clN _ | fail
            · replace h := condF hc h
              conv => whnf
              replace h := bindS h
              obtain ⟨y74, hy74, h⟩ := h
              have c75 := c_ref15_Right y1 _ hy74
              repeat' first | with_reducible rfl | with_reducible exact True.intro | with_reducible assumption | refine parkI ?_ | (refine CallP.use c75 ?_; conv => whnf) | (refine ⟨_, _, CallP.at c75, ?_⟩; conv => whnf) | (refine ⟨_, fun _ => c75, ?_⟩; conv => whnf) | (refine W.drawnM (id := 1) 0 TT_ok hmix1 [0, 0, 0, 0, 0, 0, 0, 0, 0, 0, 0, 0, 1, 1, 1] [0, 0, 0, 0, 0, 0, 1, 1, 1, 1, 1, 1, 1, 1, 1] rfl ?_; conv => whnf) | exact clA _ | (refine And.intro ?_ ?_ <;> conv => whnf) | exact clG _ | (refine gand ?_ h; assumption) | exact clN _ | fail
              refine parkE (fun hc => ?_) (fun hc => ?_)
              · replace h := condT hc h
                conv => whnf
                have e := Option.some.inj h
                subst e
                repeat' first | with_reducible rfl | with_reducible exact True.intro | with_reducible assumption | (refine W.drawnM (id := 1) 0 TT_ok hmix1 [0, 0, 0, 0, 0, 0, 0, 0, 0, 0, 0, 0, 1, 1, 1] [0, 0, 0, 0, 0, 0, 1, 1, 1, 1, 1, 1, 1, 1, 1] rfl ?_; conv => whnf) | exact clA _ | (refine And.intro ?_ ?_ <;> conv => whnf) | exact clG _ | (refine gand ?_ h; assumption) | exact clN _ | fail
              · replace h := condF hc h
                conv => whnf
                repeat' first | with_reducible rfl | with_reducible exact True.intro | with_reducible assumption | refine parkI ?_ | (refine W.drawnM (id := 1) 0 TT_ok hmix1 [0, 0, 0, 0, 0, 0, 0, 0, 0, 0, 0, 0, 1, 1, 1] [0, 0, 0, 0, 0, 0, 1, 1, 1, 1, 1, 1, 1, 1, 1] rfl ?_; conv => whnf) | exact clA _ | (refine And.intro ?_ ?_ <;> conv => whnf) | exact clG _ | (refine gand ?_ h; assumption) | exact clN _ | fail
                refine parkE (fun hc => ?_) (fun hc => ?_)
                · replace h := condT (by first | exact hc | (simpa only [se_len, se_ch, List.length_map] using hc; done) | (have h0 : (bif (decide (a5 < 0)) then true else (decide ((((y1.Hosts.map HostT.cells).length : Nat) : Int) ≤ a5))) = true := hc; simpa only [se_len, se_ch, List.length_map] using h0)) h
                  conv => whnf
                  have e := Option.some.inj h
                  subst e
                  repeat' first | with_reducible rfl | with_reducible exact True.intro | with_reducible assumption | (refine W.drawnM (id := 1) 0 TT_ok hmix1 [0, 0, 0, 0, 0, 0, 0, 0, 0, 0, 0, 0, 1, 1, 1] [0, 0, 0, 0, 0, 0, 1, 1, 1, 1, 1, 1, 1, 1, 1] rfl ?_; conv => whnf) | exact clA _ | (refine And.intro ?_ ?_ <;> conv => whnf) | exact clG _ | (refine gand ?_ h; assumption) | exact clN _ | fail
                · replace h := condF (by first | exact hc | (simpa only [se_len, se_ch, List.length_map] using hc; done) | (have h0 : (bif (decide (a5 < 0)) then true else (decide ((((y1.Hosts.map HostT.cells).length : Nat) : Int) ≤ a5))) = false := hc; simpa only [se_len, se_ch, List.length_map] using h0)) h
                  conv => whnf
                  replace h := bindS h
                  obtain ⟨y76, hy76, h⟩ := h
                  have c77 := fun (hg : (decide (y12.2 = 0)) = true) => c_ref20_Hears y1 y5 a5 _ (gdS hg hy76)
                  replace h := bindS h
                  obtain ⟨y78, hy78, h⟩ := h
                  have c79 := fun (hg : (decide (y12.2 = 0)) = true) => c_ref06_Same y12.1 y76 _ (gdS hg hy78)
                  have e := Option.some.inj h
                  subst e
                  repeat' first | with_reducible rfl | with_reducible exact True.intro | with_reducible assumption | (refine ⟨_, c77, ?_⟩; conv => whnf) | (refine ⟨_, c79, ?_⟩; conv => whnf) | (refine W.drawnM (id := 1) 0 TT_ok hmix1 [0, 0, 0, 0, 0, 0, 0, 0, 0, 0, 0, 0, 1, 1, 1] [0, 0, 0, 0, 0, 0, 1, 1, 1, 1, 1, 1, 1, 1, 1] rfl ?_; conv => whnf) | exact clA _ | (refine And.intro ?_ ?_ <;> conv => whnf) | exact clG _ | (refine gand ?_ h; assumption) | exact clN _ | fail

end Go.RX
