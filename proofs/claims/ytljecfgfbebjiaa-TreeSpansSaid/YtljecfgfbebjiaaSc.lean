/- Plain functions, and what says that the program's functions compute them. -/
import Derived.Test.YtljecfgfbebjiaaSa
import Derived.Test.YtljecfgfbebjiaaKd
set_option linter.unusedVariables false
set_option linter.unusedSimpArgs false
open Go Go.RX Go.Proofs
namespace Go.RX
set_option maxRecDepth 10000
set_option maxHeartbeats 4000000
attribute [local irreducible] CallW CallP LoopW W IntKind.wrap bitI
def law16_shaped_c0 (a1 : (List (List Bool))) (k31 : Nat) (x31 : PlanT) (s31 : Unit) : Option (Step Bool Unit) :=
 (gix a1 ((k31 : Nat) : Int)).bind fun v7 =>
 (bif (!decide (((v7.length : Nat) : Int) = ((x31.Ports.length : Nat) : Int))) then
  some (.ret false)
 else
  some (.nxt ()))

def law16_shaped (a0 : LanT) (a1 : (List (List Bool))) : Option Bool :=
 (bif (!decide (((a1.length : Nat) : Int) = ((a0.Plans.length : Nat) : Int))) then
  some false
 else
  aft (rangeL (law16_shaped_c0 a1) a0.Plans ()) fun s31 =>
  some true)

theorem c_law16_shaped (a0 : LanT) (a1 : (List (List Bool))) (r : Bool) (h : law16_shaped a0 a1 = some r) : CallP Try.prog 21 [(LV.agg [(I a0.Segs), (LV.ro 2 (a0.Plans.map PlanT.cells)), (LV.ro 2 (a0.Hosts.map HostT.cells))]), (LV.ro 1 (a1.map (roC 1 bC)))] (LV.bool r) := by
 unfold law16_shaped at h
 refine .intro nlA (.intro TT_ok Try.func21 rfl rfl [0, 1, 2, 4, 5, 6, 12, 14, 15, 16, 17, 29] rfl ?_)
 conv => whnf
 repeat' first | exact rA _ | refine parkI ?_ | (refine W.drawn TT_ok hmix1 rfl ?_; conv => whnf) | exact clA _ | (refine And.intro ?_ ?_ <;> conv => whnf) | exact clG _ | (refine gand ?_ h; assumption) | exact clN _ | fail
 refine parkE (fun hc => ?_) (fun hc => ?_)
 ·replace h := condT (by first | exact hc | (simpa only [se_len, se_ch, List.length_map] using hc; done) | (have h0 : (!decide ((((a1.map (roC 1 bC)).length : Nat) : Int) = (((a0.Plans.map PlanT.cells).length : Nat) : Int))) = true := hc; simpa only [se_len, se_ch, List.length_map] using h0)) h
  conv => whnf
  have e := Option.some.inj h
  subst e
  repeat' first | exact rA _ | (refine W.drawn TT_ok hmix1 rfl ?_; conv => whnf) | exact clA _ | (refine And.intro ?_ ?_ <;> conv => whnf) | exact clG _ | (refine gand ?_ h; assumption) | exact clN _ | fail
 ·replace h := condF (by first | exact hc | (simpa only [se_len, se_ch, List.length_map] using hc; done) | (have h0 : (!decide ((((a1.map (roC 1 bC)).length : Nat) : Int) = (((a0.Plans.map PlanT.cells).length : Nat) : Int))) = false := hc; simpa only [se_len, se_ch, List.length_map] using h0)) h
  conv => whnf
  repeat' first | exact rA _ | refine parkI ?_ | (refine W.drawn TT_ok hmix1 rfl ?_; conv => whnf) | exact clA _ | (refine And.intro ?_ ?_ <;> conv => whnf) | exact clG _ | (refine gand ?_ h; assumption) | exact clN _ | fail
  replace h := aftS h
  obtain ⟨O31, hO31, r31⟩ := h
  refine LoopW.norm [(1, (LV.ro 1 (a1.map (roC 1 bC)))), (14, (LV.ro 2 (a0.Plans.map PlanT.cells))), (15, (I (((a0.Plans.map PlanT.cells).length : Nat) : Int))), (16, (I ((0 : Nat) : Int)))] 0 [] ⟨rfl, rfl, rfl, rfl, trivial⟩ trivial blT rfl ?_
  refine LoopW.forR (fun k31 s31 => [(1, (LV.ro 1 (a1.map (roC 1 bC)))), (14, (LV.ro 2 (a0.Plans.map PlanT.cells))), (15, (I (((a0.Plans.map PlanT.cells).length : Nat) : Int))), (16, (I ((k31 : Nat) : Int)))]) (fun s31 => ⟨0, []⟩) hO31 (fun hl31 s31 hs31 => ?_) (fun hl31 k31 x31 s31 o31 hk31 hx31 b31 K31 hret31 hbrk31 => ?_)
  ·rw [hs31] at r31
   dsimp only [aftM] at r31
   have hd : decide (((a0.Plans.length : Nat) : Int) < (((a0.Plans.map PlanT.cells).length : Nat) : Int)) = false := by rw [decide_eq_false_iff_not]; (try simp only [se_len, se_ch, List.length_map]); omega
   refine LoopW.round TT_ok [0, 1, 2, 4, 5, 6, 12, 14, 15, 16, 17, 29] ?_
   conv => whnf
   repeat' first | exact rA _ | refine parkI ?_ | (refine W.drawn TT_ok hmix1 rfl ?_; conv => whnf) | exact clA _ | (refine And.intro ?_ ?_ <;> conv => whnf) | exact clG _ | (refine gand ?_ h; assumption) | exact clN _ | fail
   refine parkE (fun hc => ?_) (fun hc => ?_)
   ·exact (Bool.false_ne_true (hd.symm.trans hc)).elim
   ·clear hd
    conv => whnf
    have e := Option.some.inj r31
    subst e
    repeat' first | exact rA _ | (refine W.drawn TT_ok hmix1 rfl ?_; conv => whnf) | exact clA _ | (refine And.intro ?_ ?_ <;> conv => whnf) | exact clG _ | (refine gand ?_ h; assumption) | exact clN _ | fail
  ·unfold law16_shaped_c0 at b31
   have hd : decide (((k31 : Nat) : Int) < (((a0.Plans.map PlanT.cells).length : Nat) : Int)) = true := by rw [decide_eq_true_eq]; (try simp only [se_len, se_ch, List.length_map] at hk31); (try simp only [se_len, se_ch, List.length_map]); omega
   refine LoopW.round TT_ok [0, 1, 2, 4, 5, 6, 12, 14, 15, 16, 17, 29] ?_
   conv => whnf
   repeat' first | exact rA _ | refine parkI ?_ | (refine W.drawn TT_ok hmix1 rfl ?_; conv => whnf) | exact clA _ | (refine And.intro ?_ ?_ <;> conv => whnf) | exact clG _ | (refine gand ?_ h; assumption) | exact clN _ | fail
   refine parkE (fun hc => ?_) (fun hc => ?_)
   ·clear hd
    conv => whnf
    replace b31 := bindS b31
    obtain ⟨v7, hv7, b31⟩ := b31
    have i8 := gixF (f := (roC 1 bC)) hv7
    repeat' first | exact rA _ | refine parkI ?_ | (refine ⟨_, (kixF (f := PlanT.cells) hx31), ?_⟩; conv => whnf) | (refine ⟨_, i8, ?_⟩; conv => whnf) | (refine W.drawn TT_ok hmix1 rfl ?_; conv => whnf) | exact clA _ | (refine And.intro ?_ ?_ <;> conv => whnf) | exact clG _ | (refine gand ?_ h; assumption) | exact clN _ | fail
    refine parkE (fun hc => ?_) (fun hc => ?_)
    ·replace b31 := condT (by first | exact hc | (simpa only [se_len, se_ch, List.length_map] using hc; done) | (have h0 : (!decide ((((v7.map bC).length : Nat) : Int) = (((x31.Ports.map LinkT.cells).length : Nat) : Int))) = true := hc; simpa only [se_len, se_ch, List.length_map] using h0)) b31
     conv => whnf
     have e := Option.some.inj b31
     replace e := hret31 _ e.symm
     rw [e] at r31
     replace e := Option.some.inj r31
     subst e
     repeat' first | exact rA _ | (refine W.drawn TT_ok hmix1 rfl ?_; conv => whnf) | exact clA _ | (refine And.intro ?_ ?_ <;> conv => whnf) | exact clG _ | (refine gand ?_ h; assumption) | exact clN _ | fail
    ·replace b31 := condF (by first | exact hc | (simpa only [se_len, se_ch, List.length_map] using hc; done) | (have h0 : (!decide ((((v7.map bC).length : Nat) : Int) = (((x31.Ports.map LinkT.cells).length : Nat) : Int))) = false := hc; simpa only [se_len, se_ch, List.length_map] using h0)) b31
     conv => whnf
     repeat' first | exact rA _ | refine parkI ?_ | (refine W.drawn TT_ok hmix1 rfl ?_; conv => whnf) | exact clA _ | (refine And.intro ?_ ?_ <;> conv => whnf) | exact clG _ | (refine gand ?_ h; assumption) | exact clN _ | fail
     have e := Option.some.inj b31
     refine LoopW.norm [(1, (LV.ro 1 (a1.map (roC 1 bC)))), (14, (LV.ro 2 (a0.Plans.map PlanT.cells))), (15, (I (((a0.Plans.map PlanT.cells).length : Nat) : Int))), (16, (I ((k31 + 1 : Nat) : Int)))] 0 [] ⟨rfl, rfl, rfl, (congrArg (LV.int .i64) (w64_nat _ (by omega))), trivial⟩ trivial blT rfl (K31 _ e.symm)
   ·exact (Bool.false_ne_true (hc.symm.trans hd)).elim

def law16_closed_c1 (a1 : (List (List Bool))) (k32 : Nat) (k33 : Nat) (x33 : LinkT) (s33 : (List LinkT)) : Option (Step (Step LanT (List PlanT)) (List LinkT)) :=
 (gd x33.Up (gix a1 ((k32 : Nat) : Int))).bind fun v11 =>
 (gd x33.Up (gix v11 ((k33 : Nat) : Int))).bind fun v13 =>
 grd (fits ((s33 ++ ([(⟨x33.Seg, x33.Cost, (bif x33.Up then v13 else false)⟩ : LinkT)] : (List LinkT))) : List LinkT).length 24) <|
 some (.nxt (s33 ++ ([(⟨x33.Seg, x33.Cost, (bif x33.Up then v13 else false)⟩ : LinkT)] : (List LinkT))))

def law16_closed_c0 (a1 : (List (List Bool))) (k32 : Nat) (x32 : PlanT) (s32 : (List PlanT)) : Option (Step LanT (List PlanT)) :=
 aft (rangeL (law16_closed_c1 a1 k32) x32.Ports ([] : (List LinkT))) fun s33 =>
 grd (fits ((s32 ++ ([(⟨x32.ID, s33⟩ : PlanT)] : (List PlanT))) : List PlanT).length 32) <|
 some (.nxt (s32 ++ ([(⟨x32.ID, s33⟩ : PlanT)] : (List PlanT))))

def law16_closed (a0 : LanT) (a1 : (List (List Bool))) : Option LanT :=
 aft (rangeL (law16_closed_c0 a1) a0.Plans ([] : (List PlanT))) fun s32 =>
 some (⟨a0.Segs, s32, a0.Hosts⟩ : LanT)

theorem c_law16_closed (a0 : LanT) (a1 : (List (List Bool))) (r : LanT) (h : law16_closed a0 a1 = some r) : CallP Try.prog 22 [(LV.agg [(I a0.Segs), (LV.ro 2 (a0.Plans.map PlanT.cells)), (LV.ro 2 (a0.Hosts.map HostT.cells))]), (LV.ro 1 (a1.map (roC 1 bC)))] (LV.agg [(I r.Segs), (LV.ro 2 (r.Plans.map PlanT.cells)), (LV.ro 2 (r.Hosts.map HostT.cells))]) := by
 unfold law16_closed at h
 refine .intro nlA (.intro TT_ok Try.func22 rfl rfl [0, 1, 2, 4, 5, 6, 7, 8, 9, 10, 12, 13, 14, 15, 20, 21, 22, 23] rfl ?_)
 conv => whnf
 repeat' first | exact rA _ | refine parkI ?_ | (refine And.intro ?_ ?_ <;> conv => whnf) | fail
 replace h := aftS h
 obtain ⟨O32, hO32, r32⟩ := h
 refine LoopW.virt 5 33 2 rfl ?_
 refine LoopW.norm [(1, (LV.ro 1 (a1.map (roC 1 bC)))), (2, (LV.ptr 0 0 0)), (4, (LV.ptr 1 0 0)), (5, (LV.sl 2 0 (([] : (List PlanT)).map PlanT.cells).length)), (12, (LV.ro 2 (a0.Plans.map PlanT.cells))), (13, (I (((a0.Plans.map PlanT.cells).length : Nat) : Int))), (14, (I ((0 : Nat) : Int)))] 3 [(0, (.row 25 3 [[(I a0.Segs), (LV.ro 2 (a0.Plans.map PlanT.cells)), (LV.ro 2 (a0.Hosts.map HostT.cells))]])), (1, (.row 25 3 [[(I 0), LV.nils, LV.nils]])), (2, (.row 33 2 (([] : (List PlanT)).map PlanT.cells)))] ⟨rfl, rfl, rfl, (by exact congrArg (LV.sl 2 0) (clL _ : 0 = (([] : (List PlanT)).map PlanT.cells).length)), rfl, rfl, rfl, trivial⟩ ⟨⟨rfl, rfl, blT⟩, ⟨⟨rfl, rfl, blT⟩, ⟨⟨(congrArg (fun q => some (Blk.row 33 2 q)) (smT : ([] : List (List LV)) = (([] : (List PlanT)).map PlanT.cells))), rfl, NLss_bel (NLss_map' _)⟩, trivial⟩⟩⟩ blT rfl ?_
 refine LoopW.forR (fun k32 s32 => [(1, (LV.ro 1 (a1.map (roC 1 bC)))), (2, (LV.ptr 0 0 0)), (4, (LV.ptr 1 0 0)), (5, (LV.sl 2 0 (s32.map PlanT.cells).length)), (12, (LV.ro 2 (a0.Plans.map PlanT.cells))), (13, (I (((a0.Plans.map PlanT.cells).length : Nat) : Int))), (14, (I ((k32 : Nat) : Int)))]) (fun s32 => ⟨3, [(0, (.row 25 3 [[(I a0.Segs), (LV.ro 2 (a0.Plans.map PlanT.cells)), (LV.ro 2 (a0.Hosts.map HostT.cells))]])), (1, (.row 25 3 [[(I 0), LV.nils, LV.nils]])), (2, (.row 33 2 (s32.map PlanT.cells)))]⟩) hO32 (fun hl32 s32 hs32 => ?_) (fun hl32 k32 x32 s32 o32 hk32 hx32 b32 K32 hret32 hbrk32 => ?_)
 ·rw [hs32] at r32
  dsimp only [aftM] at r32
  have hd : decide (((a0.Plans.length : Nat) : Int) < (((a0.Plans.map PlanT.cells).length : Nat) : Int)) = false := by rw [decide_eq_false_iff_not]; (try simp only [se_len, se_ch, List.length_map]); omega
  refine LoopW.round TT_ok [0, 1, 2, 4, 5, 6, 7, 8, 9, 10, 12, 13, 14, 15, 20, 21, 22, 23] ?_
  conv => whnf
  repeat' first | exact rA _ | refine parkI ?_ | (refine And.intro ?_ ?_ <;> conv => whnf) | fail
  refine parkE (fun hc => ?_) (fun hc => ?_)
  ·exact (Bool.false_ne_true (hd.symm.trans hc)).elim
  ·clear hd
   conv => whnf
   have e := Option.some.inj r32
   subst e
   repeat' first | exact rA _ | exact clA _ | (refine And.intro ?_ ?_ <;> conv => whnf) | exact clG _ | (refine gand ?_ h; assumption) | exact clN _ | fail
 ·unfold law16_closed_c0 at b32
  have hd : decide (((k32 : Nat) : Int) < (((a0.Plans.map PlanT.cells).length : Nat) : Int)) = true := by rw [decide_eq_true_eq]; (try simp only [se_len, se_ch, List.length_map] at hk32); (try simp only [se_len, se_ch, List.length_map]); omega
  refine LoopW.round TT_ok [0, 1, 2, 4, 5, 6, 7, 8, 9, 10, 12, 13, 14, 15, 20, 21, 22, 23] ?_
  conv => whnf
  repeat' first | exact rA _ | refine parkI ?_ | (refine And.intro ?_ ?_ <;> conv => whnf) | fail
  refine parkE (fun hc => ?_) (fun hc => ?_)
  ·clear hd
   conv => whnf
   repeat' first | exact rA _ | refine parkI ?_ | (refine ⟨_, (kixF (f := PlanT.cells) hx32), ?_⟩; conv => whnf) | (refine And.intro ?_ ?_ <;> conv => whnf) | fail
   replace b32 := aftS b32
   obtain ⟨O33, hO33, r33⟩ := b32
   refine LoopW.virt 8 35 3 rfl ?_
   refine LoopW.norm [(1, (LV.ro 1 (a1.map (roC 1 bC)))), (2, (LV.ptr 0 0 0)), (4, (LV.ptr 1 0 0)), (5, (LV.sl 2 0 (s32.map PlanT.cells).length)), (6, (I ((k32 : Nat) : Int))), (7, (LV.ptr 3 0 0)), (8, (LV.sl 4 0 (([] : (List LinkT)).map LinkT.cells).length)), (12, (LV.ro 2 (a0.Plans.map PlanT.cells))), (13, (I (((a0.Plans.map PlanT.cells).length : Nat) : Int))), (14, (I ((k32 : Nat) : Int))), (20, (LV.ro 3 (x32.Ports.map LinkT.cells))), (21, (I (((x32.Ports.map LinkT.cells).length : Nat) : Int))), (22, (I ((0 : Nat) : Int)))] 5 [(0, (.row 25 3 [[(I a0.Segs), (LV.ro 2 (a0.Plans.map PlanT.cells)), (LV.ro 2 (a0.Hosts.map HostT.cells))]])), (1, (.row 25 3 [[(I 0), LV.nils, LV.nils]])), (2, (.row 33 2 (s32.map PlanT.cells))), (3, (.row 33 2 [[(I x32.ID), (LV.ro 3 (x32.Ports.map LinkT.cells))]])), (4, (.row 35 3 (([] : (List LinkT)).map LinkT.cells)))] ⟨rfl, rfl, rfl, rfl, rfl, rfl, (by exact congrArg (LV.sl 4 0) (clL _ : 0 = (([] : (List LinkT)).map LinkT.cells).length)), rfl, rfl, rfl, rfl, rfl, rfl, trivial⟩ ⟨⟨rfl, rfl, blT⟩, ⟨⟨rfl, rfl, blT⟩, ⟨⟨rfl, rfl, NLss_bel (NLss_map' _)⟩, ⟨⟨rfl, rfl, blT⟩, ⟨⟨(congrArg (fun q => some (Blk.row 35 3 q)) (smT : ([] : List (List LV)) = (([] : (List LinkT)).map LinkT.cells))), rfl, NLss_bel (NLss_map' _)⟩, trivial⟩⟩⟩⟩⟩ blT rfl ?_
   refine LoopW.forR (fun k33 s33 => [(1, (LV.ro 1 (a1.map (roC 1 bC)))), (2, (LV.ptr 0 0 0)), (4, (LV.ptr 1 0 0)), (5, (LV.sl 2 0 (s32.map PlanT.cells).length)), (6, (I ((k32 : Nat) : Int))), (7, (LV.ptr 3 0 0)), (8, (LV.sl 4 0 (s33.map LinkT.cells).length)), (12, (LV.ro 2 (a0.Plans.map PlanT.cells))), (13, (I (((a0.Plans.map PlanT.cells).length : Nat) : Int))), (14, (I ((k32 : Nat) : Int))), (20, (LV.ro 3 (x32.Ports.map LinkT.cells))), (21, (I (((x32.Ports.map LinkT.cells).length : Nat) : Int))), (22, (I ((k33 : Nat) : Int)))]) (fun s33 => ⟨5, [(0, (.row 25 3 [[(I a0.Segs), (LV.ro 2 (a0.Plans.map PlanT.cells)), (LV.ro 2 (a0.Hosts.map HostT.cells))]])), (1, (.row 25 3 [[(I 0), LV.nils, LV.nils]])), (2, (.row 33 2 (s32.map PlanT.cells))), (3, (.row 33 2 [[(I x32.ID), (LV.ro 3 (x32.Ports.map LinkT.cells))]])), (4, (.row 35 3 (s33.map LinkT.cells)))]⟩) hO33 (fun hl33 s33 hs33 => ?_) (fun hl33 k33 x33 s33 o33 hk33 hx33 b33 K33 hret33 hbrk33 => ?_)
   ·rw [hs33] at r33
    dsimp only [aftM] at r33
    have hd : decide (((x32.Ports.length : Nat) : Int) < (((x32.Ports.map LinkT.cells).length : Nat) : Int)) = false := by rw [decide_eq_false_iff_not]; (try simp only [se_len, se_ch, List.length_map]); omega
    refine LoopW.round TT_ok [0, 1, 2, 4, 5, 6, 7, 8, 9, 10, 12, 13, 14, 15, 20, 21, 22, 23] ?_
    conv => whnf
    repeat' first | exact rA _ | refine parkI ?_ | (refine And.intro ?_ ?_ <;> conv => whnf) | fail
    refine parkE (fun hc => ?_) (fun hc => ?_)
    ·exact (Bool.false_ne_true (hd.symm.trans hc)).elim
    ·clear hd
     conv => whnf
     replace r33 := grdS r33
     obtain ⟨g16, r33⟩ := r33
     replace g16 : fits (((s32.map PlanT.cells) ++ [[(I x32.ID), (LV.ro 3 (s33.map LinkT.cells))]])).length 32 := by simpa only [se_len, se_ch, List.length_map] using g16
     repeat' first | exact rA _ | refine parkI ?_ | exact g16 | exact clA _ | (refine And.intro ?_ ?_ <;> conv => whnf) | exact clN _ | fail
     have e := Option.some.inj r33
     refine LoopW.ren [(0, 0), (1, 1), (6, 2)] [(1, (LV.ro 1 (a1.map (roC 1 bC)))), (2, (LV.ptr 0 0 0)), (4, (LV.ptr 1 0 0)), (5, (LV.sl 2 0 ((s32 ++ ([(⟨x32.ID, s33⟩ : PlanT)] : (List PlanT))).map PlanT.cells).length)), (12, (LV.ro 2 (a0.Plans.map PlanT.cells))), (13, (I (((a0.Plans.map PlanT.cells).length : Nat) : Int))), (14, (I ((k32 + 1 : Nat) : Int)))] 3 [(0, (.row 25 3 [[(I a0.Segs), (LV.ro 2 (a0.Plans.map PlanT.cells)), (LV.ro 2 (a0.Hosts.map HostT.cells))]])), (1, (.row 25 3 [[(I 0), LV.nils, LV.nils]])), (2, (.row 33 2 ((s32 ++ ([(⟨x32.ID, s33⟩ : PlanT)] : (List PlanT))).map PlanT.cells)))] rfl ⟨rfl, rfl, rfl, (by exact congrArg (LV.sl 2 0) (clL _ : (((s32.map PlanT.cells) ++ [[(I x32.ID), (LV.ro 3 (s33.map LinkT.cells))]])).length = ((s32 ++ ([(⟨x32.ID, s33⟩ : PlanT)] : (List PlanT))).map PlanT.cells).length)), rfl, rfl, (congrArg (LV.int .i64) (w64_nat _ (by omega))), trivial⟩ ⟨⟨rfl, rfl, .inl ⟨rfl, nlT⟩⟩, rfl, rfl, ⟨⟨rfl, rfl, .inl ⟨rfl, nlT⟩⟩, rfl, rfl, ⟨⟨rfl, rfl, .inl ⟨(by first | (simp only [se_map, se_byL, se_len, se_ch, List.length_map]; done) | (simp only [se_map, se_byL, se_len, se_ch, List.length_map, PlanT.cells]; done) : (((s32.map PlanT.cells) ++ [[(I x32.ID), (LV.ro 3 (s33.map LinkT.cells))]]) : List (List LV)) = ((s32 ++ ([(⟨x32.ID, s33⟩ : PlanT)] : (List PlanT))).map PlanT.cells)), nlT⟩⟩, rfl, rfl, trivial⟩⟩⟩ rfl (K32 _ e.symm)
   ·unfold law16_closed_c1 at b33
    have hd : decide (((k33 : Nat) : Int) < (((x32.Ports.map LinkT.cells).length : Nat) : Int)) = true := by rw [decide_eq_true_eq]; (try simp only [se_len, se_ch, List.length_map] at hk33); (try simp only [se_len, se_ch, List.length_map]); omega
    refine LoopW.round TT_ok [0, 1, 2, 4, 5, 6, 7, 8, 9, 10, 12, 13, 14, 15, 20, 21, 22, 23] ?_
    conv => whnf
    repeat' first | exact rA _ | refine parkI ?_ | (refine And.intro ?_ ?_ <;> conv => whnf) | fail
    refine parkE (fun hc => ?_) (fun hc => ?_)
    ·clear hd
     conv => whnf
     replace b33 := bindS b33
     obtain ⟨v11, hv11, b33⟩ := b33
     have i12 := fun hg => gixF (f := (roC 1 bC)) (gdS hg hv11)
     replace b33 := bindS b33
     obtain ⟨v13, hv13, b33⟩ := b33
     have i14 := fun hg => gixF (f := bC) (gdS hg hv13)
     replace b33 := grdS b33
     obtain ⟨g15, b33⟩ := b33
     replace g15 : fits (((s33.map LinkT.cells) ++ [[(I x33.Seg), (I x33.Cost), (LV.bool (bif x33.Up then v13 else false))]])).length 24 := by simpa only [se_len, se_ch, List.length_map] using g15
     repeat' first | exact rA _ | refine parkI ?_ | (refine ⟨_, (kixF (f := LinkT.cells) hx33), ?_⟩; conv => whnf) | (refine ⟨_, i12, ?_⟩; conv => whnf) | (refine ⟨_, i14, ?_⟩; conv => whnf) | exact g15 | exact clA _ | (refine And.intro ?_ ?_ <;> conv => whnf) | exact clG _ | (refine gand ?_ h; assumption) | exact clN _ | fail
     have e := Option.some.inj b33
     refine LoopW.ren [(0, 0), (1, 1), (2, 2), (3, 3), (7, 4)] [(1, (LV.ro 1 (a1.map (roC 1 bC)))), (2, (LV.ptr 0 0 0)), (4, (LV.ptr 1 0 0)), (5, (LV.sl 2 0 (s32.map PlanT.cells).length)), (6, (I ((k32 : Nat) : Int))), (7, (LV.ptr 3 0 0)), (8, (LV.sl 4 0 ((s33 ++ ([(⟨x33.Seg, x33.Cost, (bif x33.Up then v13 else false)⟩ : LinkT)] : (List LinkT))).map LinkT.cells).length)), (12, (LV.ro 2 (a0.Plans.map PlanT.cells))), (13, (I (((a0.Plans.map PlanT.cells).length : Nat) : Int))), (14, (I ((k32 : Nat) : Int))), (20, (LV.ro 3 (x32.Ports.map LinkT.cells))), (21, (I (((x32.Ports.map LinkT.cells).length : Nat) : Int))), (22, (I ((k33 + 1 : Nat) : Int)))] 5 [(0, (.row 25 3 [[(I a0.Segs), (LV.ro 2 (a0.Plans.map PlanT.cells)), (LV.ro 2 (a0.Hosts.map HostT.cells))]])), (1, (.row 25 3 [[(I 0), LV.nils, LV.nils]])), (2, (.row 33 2 (s32.map PlanT.cells))), (3, (.row 33 2 [[(I x32.ID), (LV.ro 3 (x32.Ports.map LinkT.cells))]])), (4, (.row 35 3 ((s33 ++ ([(⟨x33.Seg, x33.Cost, (bif x33.Up then v13 else false)⟩ : LinkT)] : (List LinkT))).map LinkT.cells)))] rfl ⟨rfl, rfl, rfl, rfl, rfl, rfl, (by exact congrArg (LV.sl 4 0) (clL _ : (((s33.map LinkT.cells) ++ [[(I x33.Seg), (I x33.Cost), (LV.bool (bif x33.Up then v13 else false))]])).length = ((s33 ++ ([(⟨x33.Seg, x33.Cost, (bif x33.Up then v13 else false)⟩ : LinkT)] : (List LinkT))).map LinkT.cells).length)), rfl, rfl, rfl, rfl, rfl, (congrArg (LV.int .i64) (w64_nat _ (by omega))), trivial⟩ ⟨⟨rfl, rfl, .inl ⟨rfl, nlT⟩⟩, rfl, rfl, ⟨⟨rfl, rfl, .inl ⟨rfl, nlT⟩⟩, rfl, rfl, ⟨⟨rfl, rfl, .inl ⟨rfl, nlT⟩⟩, rfl, rfl, ⟨⟨rfl, rfl, .inl ⟨rfl, nlT⟩⟩, rfl, rfl, ⟨⟨rfl, rfl, .inl ⟨(by first | (simp only [se_map, se_byL, se_len, se_ch, List.length_map]; done) | (simp only [se_map, se_byL, se_len, se_ch, List.length_map, LinkT.cells]; done) : (((s33.map LinkT.cells) ++ [[(I x33.Seg), (I x33.Cost), (LV.bool (bif x33.Up then v13 else false))]]) : List (List LV)) = ((s33 ++ ([(⟨x33.Seg, x33.Cost, (bif x33.Up then v13 else false)⟩ : LinkT)] : (List LinkT))).map LinkT.cells)), nlT⟩⟩, rfl, rfl, trivial⟩⟩⟩⟩⟩ rfl (K33 _ e.symm)
    ·exact (Bool.false_ne_true (hc.symm.trans hd)).elim
  ·exact (Bool.false_ne_true (hc.symm.trans hd)).elim

def ref06_Same_c0 (a1 : (List Int)) (k35 : Nat) (x35 : Int) (s35 : Unit) : Option (Step Bool Unit) :=
 (gix a1 ((k35 : Nat) : Int)).bind fun v19 =>
 (bif (!decide (x35 = v19)) then
  some (.ret false)
 else
  some (.nxt ()))

def ref06_Same (a0 : (List Int)) (a1 : (List Int)) : Option Bool :=
 (bif (!decide (((a0.length : Nat) : Int) = ((a1.length : Nat) : Int))) then
  some false
 else
  aft (rangeL (ref06_Same_c0 a1) a0 ()) fun s35 =>
  some true)

theorem c_ref06_Same (a0 : (List Int)) (a1 : (List Int)) (r : Bool) (h : ref06_Same a0 a1 = some r) : CallP Try.prog 25 [(LV.ro 1 (a0.map iC)), (LV.ro 1 (a1.map iC))] (LV.bool r) := by
 unfold ref06_Same at h
 refine .intro nlA (.intro TT_ok Try.func25 rfl rfl [0, 1, 4, 5, 10, 12, 13, 14, 24] rfl ?_)
 conv => whnf
 repeat' first | exact rA _ | refine parkI ?_ | (refine W.drawn TT_ok hmix1 rfl ?_; conv => whnf) | exact clA _ | (refine And.intro ?_ ?_ <;> conv => whnf) | exact clG _ | (refine gand ?_ h; assumption) | exact clN _ | fail
 refine parkE (fun hc => ?_) (fun hc => ?_)
 ·replace h := condT (by first | exact hc | (simpa only [se_len, se_ch, List.length_map] using hc; done) | (have h0 : (!decide ((((a0.map iC).length : Nat) : Int) = (((a1.map iC).length : Nat) : Int))) = true := hc; simpa only [se_len, se_ch, List.length_map] using h0)) h
  conv => whnf
  have e := Option.some.inj h
  subst e
  repeat' first | exact rA _ | (refine W.drawn TT_ok hmix1 rfl ?_; conv => whnf) | exact clA _ | (refine And.intro ?_ ?_ <;> conv => whnf) | exact clG _ | (refine gand ?_ h; assumption) | exact clN _ | fail
 ·replace h := condF (by first | exact hc | (simpa only [se_len, se_ch, List.length_map] using hc; done) | (have h0 : (!decide ((((a0.map iC).length : Nat) : Int) = (((a1.map iC).length : Nat) : Int))) = false := hc; simpa only [se_len, se_ch, List.length_map] using h0)) h
  conv => whnf
  repeat' first | exact rA _ | refine parkI ?_ | (refine W.drawn TT_ok hmix1 rfl ?_; conv => whnf) | exact clA _ | (refine And.intro ?_ ?_ <;> conv => whnf) | exact clG _ | (refine gand ?_ h; assumption) | exact clN _ | fail
  replace h := aftS h
  obtain ⟨O35, hO35, r35⟩ := h
  refine LoopW.norm [(0, (LV.ro 1 (a0.map iC))), (1, (LV.ro 1 (a1.map iC))), (12, (I (((a0.map iC).length : Nat) : Int))), (13, (I ((0 : Nat) : Int)))] 0 [] ⟨rfl, rfl, rfl, rfl, trivial⟩ trivial blT rfl ?_
  refine LoopW.forR (fun k35 s35 => [(0, (LV.ro 1 (a0.map iC))), (1, (LV.ro 1 (a1.map iC))), (12, (I (((a0.map iC).length : Nat) : Int))), (13, (I ((k35 : Nat) : Int)))]) (fun s35 => ⟨0, []⟩) hO35 (fun hl35 s35 hs35 => ?_) (fun hl35 k35 x35 s35 o35 hk35 hx35 b35 K35 hret35 hbrk35 => ?_)
  ·rw [hs35] at r35
   dsimp only [aftM] at r35
   have hd : decide (((a0.length : Nat) : Int) < (((a0.map iC).length : Nat) : Int)) = false := by rw [decide_eq_false_iff_not]; (try simp only [se_len, se_ch, List.length_map]); omega
   refine LoopW.round TT_ok [0, 1, 4, 5, 10, 12, 13, 14, 24] ?_
   conv => whnf
   repeat' first | exact rA _ | refine parkI ?_ | (refine W.drawn TT_ok hmix1 rfl ?_; conv => whnf) | exact clA _ | (refine And.intro ?_ ?_ <;> conv => whnf) | exact clG _ | (refine gand ?_ h; assumption) | exact clN _ | fail
   refine parkE (fun hc => ?_) (fun hc => ?_)
   ·exact (Bool.false_ne_true (hd.symm.trans hc)).elim
   ·clear hd
    conv => whnf
    have e := Option.some.inj r35
    subst e
    repeat' first | exact rA _ | (refine W.drawn TT_ok hmix1 rfl ?_; conv => whnf) | exact clA _ | (refine And.intro ?_ ?_ <;> conv => whnf) | exact clG _ | (refine gand ?_ h; assumption) | exact clN _ | fail
  ·unfold ref06_Same_c0 at b35
   have hd : decide (((k35 : Nat) : Int) < (((a0.map iC).length : Nat) : Int)) = true := by rw [decide_eq_true_eq]; (try simp only [se_len, se_ch, List.length_map] at hk35); (try simp only [se_len, se_ch, List.length_map]); omega
   refine LoopW.round TT_ok [0, 1, 4, 5, 10, 12, 13, 14, 24] ?_
   conv => whnf
   repeat' first | exact rA _ | refine parkI ?_ | (refine W.drawn TT_ok hmix1 rfl ?_; conv => whnf) | exact clA _ | (refine And.intro ?_ ?_ <;> conv => whnf) | exact clG _ | (refine gand ?_ h; assumption) | exact clN _ | fail
   refine parkE (fun hc => ?_) (fun hc => ?_)
   ·clear hd
    conv => whnf
    replace b35 := bindS b35
    obtain ⟨v19, hv19, b35⟩ := b35
    have i20 := gixF (f := iC) hv19
    repeat' first | exact rA _ | refine parkI ?_ | (refine ⟨_, (kixF (f := iC) hx35), ?_⟩; conv => whnf) | (refine ⟨_, i20, ?_⟩; conv => whnf) | (refine W.drawn TT_ok hmix1 rfl ?_; conv => whnf) | exact clA _ | (refine And.intro ?_ ?_ <;> conv => whnf) | exact clG _ | (refine gand ?_ h; assumption) | exact clN _ | fail
    refine parkE (fun hc => ?_) (fun hc => ?_)
    ·replace b35 := condT hc b35
     conv => whnf
     have e := Option.some.inj b35
     replace e := hret35 _ e.symm
     rw [e] at r35
     replace e := Option.some.inj r35
     subst e
     repeat' first | exact rA _ | (refine W.drawn TT_ok hmix1 rfl ?_; conv => whnf) | exact clA _ | (refine And.intro ?_ ?_ <;> conv => whnf) | exact clG _ | (refine gand ?_ h; assumption) | exact clN _ | fail
    ·replace b35 := condF hc b35
     conv => whnf
     repeat' first | exact rA _ | refine parkI ?_ | (refine W.drawn TT_ok hmix1 rfl ?_; conv => whnf) | exact clA _ | (refine And.intro ?_ ?_ <;> conv => whnf) | exact clG _ | (refine gand ?_ h; assumption) | exact clN _ | fail
     have e := Option.some.inj b35
     refine LoopW.norm [(0, (LV.ro 1 (a0.map iC))), (1, (LV.ro 1 (a1.map iC))), (12, (I (((a0.map iC).length : Nat) : Int))), (13, (I ((k35 + 1 : Nat) : Int)))] 0 [] ⟨rfl, rfl, rfl, (congrArg (LV.int .i64) (w64_nat _ (by omega))), trivial⟩ trivial blT rfl (K35 _ e.symm)
   ·exact (Bool.false_ne_true (hc.symm.trans hd)).elim

def law16_TreeSpans_c0 (y1 : LanT) (y11 : LanT) (k34 : Nat) (s34 : Unit) : Option (Step Bool Unit) :=
 (lan_Part y1 ((k34 : Nat) : Int)).bind fun y15 =>
 (lan_Part y11 ((k34 : Nat) : Int)).bind fun y17 =>
 (gd (!(bif (!decide (y15.2 = 0)) then true else (!decide (y17.2 = 0)))) (ref06_Same y15.1 y17.1)).bind fun y19 =>
 (bif (bif (bif (!decide (y15.2 = 0)) then true else (!decide (y17.2 = 0))) then true else (!y19)) then
  some (.ret false)
 else
  some (.nxt ()))

def law16_TreeSpans_c2 (y3 : ((List (List Bool)) × Int)) (k36 : Nat) (k37 : Nat) (x37 : LinkT) (s37 : Unit) : Option (Step (Step Bool Unit) Unit) :=
 (gix y3.1 ((k36 : Nat) : Int)).bind fun v21 =>
 (gix v21 ((k37 : Nat) : Int)).bind fun v23 =>
 (bif (bif v23 then (!x37.Up) else false) then
  some (.ret (.ret false))
 else
  some (.nxt ()))

def law16_TreeSpans_c1 (y3 : ((List (List Bool)) × Int)) (k36 : Nat) (x36 : PlanT) (s36 : Unit) : Option (Step Bool Unit) :=
 aft (rangeL (law16_TreeSpans_c2 y3 k36) x36.Ports ()) fun s37 =>
 some (.nxt ())

def law16_TreeSpans (a0 : LanT) : Option Bool :=
 (law16_few a0).bind fun y1 =>
 (tree_Open y1).bind fun y3 =>
 (bif (!decide (y3.2 = 0)) then
  (law16_alive ).bind fun y5 =>
  some (bif y5 then (decide (y3.2 = 1)) else false)
 else
  (law16_shaped y1 y3.1).bind fun y7 =>
  (gd (!(!y7)) (law16_alive )).bind fun y9 =>
  (bif (bif (!y7) then true else (!y9)) then
   some false
  else
   (law16_closed y1 y3.1).bind fun y11 =>
   (lan_Loops y11).bind fun y13 =>
   (bif (bif (!decide (y13.2 = 0)) then true else (!decide (y13.1 = 0))) then
    some false
   else
    aft (rangeN (law16_TreeSpans_c0 y1 y11) y1.Segs ()) fun s34 =>
    aft (rangeL (law16_TreeSpans_c1 y3) y1.Plans ()) fun s36 =>
    some true)))

theorem c_law16_TreeSpans (a0 : LanT) (r : Bool) (h : law16_TreeSpans a0 = some r) : CallP Try.prog 6 [(LV.agg [(I a0.Segs), (LV.ro 2 (a0.Plans.map PlanT.cells)), (LV.ro 2 (a0.Hosts.map HostT.cells))])] (LV.bool r) := by
 unfold law16_TreeSpans at h
 refine .intro nlA (.intro TT_ok Try.func6 rfl rfl [0, 1, 2, 3, 4, 5, 6, 7, 8, 9, 10, 11, 12, 13, 14, 15, 16, 25, 38, 52, 54, 55, 56, 81, 84, 85, 86, 87, 92, 93, 94, 95, 110] rfl ?_)
 conv => whnf
 replace h := bindS h
 obtain ⟨y1, hy1, h⟩ := h
 have c2 := c_law16_few a0 _ hy1
 replace h := bindS h
 obtain ⟨y3, hy3, h⟩ := h
 have c4 := c_tree_Open y1 _ hy3
 repeat' first | exact rA _ | refine parkI ?_ | (refine CallP.use c2 ?_; conv => whnf) | (refine CallP.use c4 ?_; conv => whnf) | (refine And.intro ?_ ?_ <;> conv => whnf) | fail
 refine parkE (fun hc => ?_) (fun hc => ?_)
 ·replace h := condT hc h
  conv => whnf
  replace h := bindS h
  obtain ⟨y5, hy5, h⟩ := h
  have c6 := c_law16_alive  _ hy5
  have e := Option.some.inj h
  subst e
  repeat' first | exact rA _ | (refine CallP.use c6 ?_; conv => whnf) | exact clA _ | (refine And.intro ?_ ?_ <;> conv => whnf) | exact clG _ | (refine gand ?_ h; assumption) | exact clN _ | fail
 ·replace h := condF hc h
  conv => whnf
  replace h := bindS h
  obtain ⟨y7, hy7, h⟩ := h
  have c8 := c_law16_shaped y1 y3.1 _ hy7
  replace h := bindS h
  obtain ⟨y9, hy9, h⟩ := h
  have c10 := fun (hg : (!(!y7)) = true) => c_law16_alive  _ (gdS hg hy9)
  repeat' first | exact rA _ | refine parkI ?_ | (refine ⟨_, c10, ?_⟩; conv => whnf) | (refine CallP.use c8 ?_; conv => whnf) | exact clA _ | (refine And.intro ?_ ?_ <;> conv => whnf) | exact clG _ | (refine gand ?_ h; assumption) | fail
  refine parkE (fun hc => ?_) (fun hc => ?_)
  ·replace h := condT hc h
   conv => whnf
   have e := Option.some.inj h
   subst e
   repeat' first | exact rA _ | exact clA _ | (refine And.intro ?_ ?_ <;> conv => whnf) | exact clG _ | (refine gand ?_ h; assumption) | exact clN _ | fail
  ·replace h := condF hc h
   conv => whnf
   replace h := bindS h
   obtain ⟨y11, hy11, h⟩ := h
   have c12 := c_law16_closed y1 y3.1 _ hy11
   replace h := bindS h
   obtain ⟨y13, hy13, h⟩ := h
   have c14 := c_lan_Loops y11 _ hy13
   repeat' first | exact rA _ | refine parkI ?_ | (refine CallP.use c12 ?_; conv => whnf) | (refine CallP.use c14 ?_; conv => whnf) | exact clA _ | (refine And.intro ?_ ?_ <;> conv => whnf) | exact clG _ | (refine gand ?_ h; assumption) | fail
   refine parkE (fun hc => ?_) (fun hc => ?_)
   ·replace h := condT hc h
    conv => whnf
    have e := Option.some.inj h
    subst e
    repeat' first | exact rA _ | exact clA _ | (refine And.intro ?_ ?_ <;> conv => whnf) | exact clG _ | (refine gand ?_ h; assumption) | exact clN _ | fail
   ·replace h := condF hc h
    conv => whnf
    repeat' first | exact rA _ | refine parkI ?_ | (refine And.intro ?_ ?_ <;> conv => whnf) | fail
    replace h := aftS h
    obtain ⟨O34, hO34, r34⟩ := h
    refine LoopW.norm [(1, (LV.ptr 0 0 0)), (3, (LV.ro 1 (y3.1.map (roC 1 bC)))), (5, (LV.ptr 1 0 0)), (54, (I y1.Segs)), (55, (I ((0 : Nat) : Int)))] 2 [(0, (.row 25 3 [[(I y1.Segs), (LV.ro 2 (y1.Plans.map PlanT.cells)), (LV.ro 2 (y1.Hosts.map HostT.cells))]])), (1, (.row 25 3 [[(I y11.Segs), (LV.ro 2 (y11.Plans.map PlanT.cells)), (LV.ro 2 (y11.Hosts.map HostT.cells))]]))] ⟨rfl, rfl, rfl, rfl, rfl, trivial⟩ ⟨⟨rfl, rfl, blT⟩, ⟨⟨rfl, rfl, blT⟩, trivial⟩⟩ blT rfl ?_
    refine LoopW.forN (fun k34 s34 => [(1, (LV.ptr 0 0 0)), (3, (LV.ro 1 (y3.1.map (roC 1 bC)))), (5, (LV.ptr 1 0 0)), (54, (I y1.Segs)), (55, (I ((k34 : Nat) : Int)))]) (fun s34 => ⟨2, [(0, (.row 25 3 [[(I y1.Segs), (LV.ro 2 (y1.Plans.map PlanT.cells)), (LV.ro 2 (y1.Hosts.map HostT.cells))]])), (1, (.row 25 3 [[(I y11.Segs), (LV.ro 2 (y11.Plans.map PlanT.cells)), (LV.ro 2 (y11.Hosts.map HostT.cells))]]))]⟩) hO34 (fun hl34 s34 hs34 => ?_) (fun hl34 k34 s34 o34 hk34 b34 K34 hret34 hbrk34 => ?_)
    ·rw [hs34] at r34
     dsimp only [aftM] at r34
     have hd : decide ((((y1.Segs : Int).toNat : Nat) : Int) < y1.Segs) = false := by rw [decide_eq_false_iff_not]; (try simp only [se_len, se_ch, List.length_map]); omega
     refine LoopW.round TT_ok [0, 1, 2, 3, 4, 5, 6, 7, 8, 9, 10, 11, 12, 13, 14, 15, 16, 25, 38, 52, 54, 55, 56, 81, 84, 85, 86, 87, 92, 93, 94, 95, 110] ?_
     conv => whnf
     repeat' first | exact rA _ | refine parkI ?_ | (refine And.intro ?_ ?_ <;> conv => whnf) | fail
     refine parkE (fun hc => ?_) (fun hc => ?_)
     ·exact (Bool.false_ne_true (hd.symm.trans hc)).elim
     ·clear hd
      conv => whnf
      repeat' first | exact rA _ | refine parkI ?_ | (refine And.intro ?_ ?_ <;> conv => whnf) | fail
      replace r34 := aftS r34
      obtain ⟨O36, hO36, r36⟩ := r34
      refine LoopW.norm [(3, (LV.ro 1 (y3.1.map (roC 1 bC)))), (84, (LV.ro 2 (y1.Plans.map PlanT.cells))), (85, (I (((y1.Plans.map PlanT.cells).length : Nat) : Int))), (86, (I ((0 : Nat) : Int)))] 0 [] ⟨rfl, rfl, rfl, rfl, trivial⟩ trivial blT rfl ?_
      refine LoopW.forR (fun k36 s36 => [(3, (LV.ro 1 (y3.1.map (roC 1 bC)))), (84, (LV.ro 2 (y1.Plans.map PlanT.cells))), (85, (I (((y1.Plans.map PlanT.cells).length : Nat) : Int))), (86, (I ((k36 : Nat) : Int)))]) (fun s36 => ⟨0, []⟩) hO36 (fun hl36 s36 hs36 => ?_) (fun hl36 k36 x36 s36 o36 hk36 hx36 b36 K36 hret36 hbrk36 => ?_)
      ·rw [hs36] at r36
       dsimp only [aftM] at r36
       have hd : decide (((y1.Plans.length : Nat) : Int) < (((y1.Plans.map PlanT.cells).length : Nat) : Int)) = false := by rw [decide_eq_false_iff_not]; (try simp only [se_len, se_ch, List.length_map]); omega
       refine LoopW.round TT_ok [0, 1, 2, 3, 4, 5, 6, 7, 8, 9, 10, 11, 12, 13, 14, 15, 16, 25, 38, 52, 54, 55, 56, 81, 84, 85, 86, 87, 92, 93, 94, 95, 110] ?_
       conv => whnf
       repeat' first | exact rA _ | refine parkI ?_ | (refine And.intro ?_ ?_ <;> conv => whnf) | fail
       refine parkE (fun hc => ?_) (fun hc => ?_)
       ·exact (Bool.false_ne_true (hd.symm.trans hc)).elim
       ·clear hd
        conv => whnf
        have e := Option.some.inj r36
        subst e
        repeat' first | exact rA _ | exact clA _ | (refine And.intro ?_ ?_ <;> conv => whnf) | exact clG _ | (refine gand ?_ h; assumption) | exact clN _ | fail
      ·unfold law16_TreeSpans_c1 at b36
       have hd : decide (((k36 : Nat) : Int) < (((y1.Plans.map PlanT.cells).length : Nat) : Int)) = true := by rw [decide_eq_true_eq]; (try simp only [se_len, se_ch, List.length_map] at hk36); (try simp only [se_len, se_ch, List.length_map]); omega
       refine LoopW.round TT_ok [0, 1, 2, 3, 4, 5, 6, 7, 8, 9, 10, 11, 12, 13, 14, 15, 16, 25, 38, 52, 54, 55, 56, 81, 84, 85, 86, 87, 92, 93, 94, 95, 110] ?_
       conv => whnf
       repeat' first | exact rA _ | refine parkI ?_ | (refine And.intro ?_ ?_ <;> conv => whnf) | fail
       refine parkE (fun hc => ?_) (fun hc => ?_)
       ·clear hd
        conv => whnf
        repeat' first | exact rA _ | refine parkI ?_ | (refine ⟨_, (kixF (f := PlanT.cells) hx36), ?_⟩; conv => whnf) | (refine And.intro ?_ ?_ <;> conv => whnf) | fail
        replace b36 := aftS b36
        obtain ⟨O37, hO37, r37⟩ := b36
        refine LoopW.norm [(3, (LV.ro 1 (y3.1.map (roC 1 bC)))), (13, (I ((k36 : Nat) : Int))), (84, (LV.ro 2 (y1.Plans.map PlanT.cells))), (85, (I (((y1.Plans.map PlanT.cells).length : Nat) : Int))), (86, (I ((k36 : Nat) : Int))), (92, (LV.ro 3 (x36.Ports.map LinkT.cells))), (93, (I (((x36.Ports.map LinkT.cells).length : Nat) : Int))), (94, (I ((0 : Nat) : Int)))] 0 [] ⟨rfl, rfl, rfl, rfl, rfl, rfl, rfl, rfl, trivial⟩ trivial blT rfl ?_
        refine LoopW.forR (fun k37 s37 => [(3, (LV.ro 1 (y3.1.map (roC 1 bC)))), (13, (I ((k36 : Nat) : Int))), (84, (LV.ro 2 (y1.Plans.map PlanT.cells))), (85, (I (((y1.Plans.map PlanT.cells).length : Nat) : Int))), (86, (I ((k36 : Nat) : Int))), (92, (LV.ro 3 (x36.Ports.map LinkT.cells))), (93, (I (((x36.Ports.map LinkT.cells).length : Nat) : Int))), (94, (I ((k37 : Nat) : Int)))]) (fun s37 => ⟨0, []⟩) hO37 (fun hl37 s37 hs37 => ?_) (fun hl37 k37 x37 s37 o37 hk37 hx37 b37 K37 hret37 hbrk37 => ?_)
        ·rw [hs37] at r37
         dsimp only [aftM] at r37
         have hd : decide (((x36.Ports.length : Nat) : Int) < (((x36.Ports.map LinkT.cells).length : Nat) : Int)) = false := by rw [decide_eq_false_iff_not]; (try simp only [se_len, se_ch, List.length_map]); omega
         refine LoopW.round TT_ok [0, 1, 2, 3, 4, 5, 6, 7, 8, 9, 10, 11, 12, 13, 14, 15, 16, 25, 38, 52, 54, 55, 56, 81, 84, 85, 86, 87, 92, 93, 94, 95, 110] ?_
         conv => whnf
         repeat' first | exact rA _ | refine parkI ?_ | (refine And.intro ?_ ?_ <;> conv => whnf) | fail
         refine parkE (fun hc => ?_) (fun hc => ?_)
         ·exact (Bool.false_ne_true (hd.symm.trans hc)).elim
         ·clear hd
          conv => whnf
          repeat' first | exact rA _ | refine parkI ?_ | (refine And.intro ?_ ?_ <;> conv => whnf) | fail
          have e := Option.some.inj r37
          refine LoopW.norm [(3, (LV.ro 1 (y3.1.map (roC 1 bC)))), (84, (LV.ro 2 (y1.Plans.map PlanT.cells))), (85, (I (((y1.Plans.map PlanT.cells).length : Nat) : Int))), (86, (I ((k36 + 1 : Nat) : Int)))] 0 [] ⟨rfl, rfl, rfl, (congrArg (LV.int .i64) (w64_nat _ (by omega))), trivial⟩ trivial blT rfl (K36 _ e.symm)
        ·unfold law16_TreeSpans_c2 at b37
         have hd : decide (((k37 : Nat) : Int) < (((x36.Ports.map LinkT.cells).length : Nat) : Int)) = true := by rw [decide_eq_true_eq]; (try simp only [se_len, se_ch, List.length_map] at hk37); (try simp only [se_len, se_ch, List.length_map]); omega
         refine LoopW.round TT_ok [0, 1, 2, 3, 4, 5, 6, 7, 8, 9, 10, 11, 12, 13, 14, 15, 16, 25, 38, 52, 54, 55, 56, 81, 84, 85, 86, 87, 92, 93, 94, 95, 110] ?_
         conv => whnf
         repeat' first | exact rA _ | refine parkI ?_ | (refine And.intro ?_ ?_ <;> conv => whnf) | fail
         refine parkE (fun hc => ?_) (fun hc => ?_)
         ·clear hd
          conv => whnf
          replace b37 := bindS b37
          obtain ⟨v21, hv21, b37⟩ := b37
          have i22 := gixF (f := (roC 1 bC)) hv21
          replace b37 := bindS b37
          obtain ⟨v23, hv23, b37⟩ := b37
          have i24 := gixF (f := bC) hv23
          repeat' first | exact rA _ | refine parkI ?_ | (refine ⟨_, (kixF (f := LinkT.cells) hx37), ?_⟩; conv => whnf) | (refine ⟨_, i22, ?_⟩; conv => whnf) | (refine ⟨_, i24, ?_⟩; conv => whnf) | exact clA _ | (refine And.intro ?_ ?_ <;> conv => whnf) | exact clG _ | (refine gand ?_ h; assumption) | fail
          refine parkE (fun hc => ?_) (fun hc => ?_)
          ·replace b37 := condT hc b37
           conv => whnf
           have e := Option.some.inj b37
           replace e := hret37 _ e.symm
           rw [e] at r37
           replace e := Option.some.inj r37
           replace e := hret36 _ e.symm
           rw [e] at r36
           replace e := Option.some.inj r36
           subst e
           repeat' first | exact rA _ | exact clA _ | (refine And.intro ?_ ?_ <;> conv => whnf) | exact clG _ | (refine gand ?_ h; assumption) | exact clN _ | fail
          ·replace b37 := condF hc b37
           conv => whnf
           repeat' first | exact rA _ | refine parkI ?_ | (refine And.intro ?_ ?_ <;> conv => whnf) | fail
           have e := Option.some.inj b37
           refine LoopW.norm [(3, (LV.ro 1 (y3.1.map (roC 1 bC)))), (13, (I ((k36 : Nat) : Int))), (84, (LV.ro 2 (y1.Plans.map PlanT.cells))), (85, (I (((y1.Plans.map PlanT.cells).length : Nat) : Int))), (86, (I ((k36 : Nat) : Int))), (92, (LV.ro 3 (x36.Ports.map LinkT.cells))), (93, (I (((x36.Ports.map LinkT.cells).length : Nat) : Int))), (94, (I ((k37 + 1 : Nat) : Int)))] 0 [] ⟨rfl, rfl, rfl, rfl, rfl, rfl, rfl, (congrArg (LV.int .i64) (w64_nat _ (by omega))), trivial⟩ trivial blT rfl (K37 _ e.symm)
         ·exact (Bool.false_ne_true (hc.symm.trans hd)).elim
       ·exact (Bool.false_ne_true (hc.symm.trans hd)).elim
    ·unfold law16_TreeSpans_c0 at b34
     have hd : decide (((k34 : Nat) : Int) < y1.Segs) = true := by rw [decide_eq_true_eq]; (try simp only [se_len, se_ch, List.length_map] at hk34); (try simp only [se_len, se_ch, List.length_map]); omega
     refine LoopW.round TT_ok [0, 1, 2, 3, 4, 5, 6, 7, 8, 9, 10, 11, 12, 13, 14, 15, 16, 25, 38, 52, 54, 55, 56, 81, 84, 85, 86, 87, 92, 93, 94, 95, 110] ?_
     conv => whnf
     repeat' first | exact rA _ | refine parkI ?_ | (refine And.intro ?_ ?_ <;> conv => whnf) | fail
     refine parkE (fun hc => ?_) (fun hc => ?_)
     ·clear hd
      conv => whnf
      replace b34 := bindS b34
      obtain ⟨y15, hy15, b34⟩ := b34
      have c16 := c_lan_Part y1 ((k34 : Nat) : Int) _ hy15
      replace b34 := bindS b34
      obtain ⟨y17, hy17, b34⟩ := b34
      have c18 := c_lan_Part y11 ((k34 : Nat) : Int) _ hy17
      replace b34 := bindS b34
      obtain ⟨y19, hy19, b34⟩ := b34
      have c20 := fun (hg : (!(bif (!decide (y15.2 = 0)) then true else (!decide (y17.2 = 0)))) = true) => c_ref06_Same y15.1 y17.1 _ (gdS hg hy19)
      repeat' first | exact rA _ | refine parkI ?_ | (refine ⟨_, c20, ?_⟩; conv => whnf) | (refine CallP.use c16 ?_; conv => whnf) | (refine CallP.use c18 ?_; conv => whnf) | exact clA _ | (refine And.intro ?_ ?_ <;> conv => whnf) | exact clG _ | (refine gand ?_ h; assumption) | fail
      refine parkE (fun hc => ?_) (fun hc => ?_)
      ·replace b34 := condT hc b34
       conv => whnf
       have e := Option.some.inj b34
       replace e := hret34 _ e.symm
       rw [e] at r34
       replace e := Option.some.inj r34
       subst e
       repeat' first | exact rA _ | exact clA _ | (refine And.intro ?_ ?_ <;> conv => whnf) | exact clG _ | (refine gand ?_ h; assumption) | exact clN _ | fail
      ·replace b34 := condF hc b34
       conv => whnf
       repeat' first | exact rA _ | refine parkI ?_ | (refine And.intro ?_ ?_ <;> conv => whnf) | fail
       have e := Option.some.inj b34
       refine LoopW.norm [(1, (LV.ptr 0 0 0)), (3, (LV.ro 1 (y3.1.map (roC 1 bC)))), (5, (LV.ptr 1 0 0)), (54, (I y1.Segs)), (55, (I ((k34 + 1 : Nat) : Int)))] 2 [(0, (.row 25 3 [[(I y1.Segs), (LV.ro 2 (y1.Plans.map PlanT.cells)), (LV.ro 2 (y1.Hosts.map HostT.cells))]])), (1, (.row 25 3 [[(I y11.Segs), (LV.ro 2 (y11.Plans.map PlanT.cells)), (LV.ro 2 (y11.Hosts.map HostT.cells))]]))] ⟨rfl, rfl, rfl, rfl, (congrArg (LV.int .i64) (w64_nat _ (by omega))), trivial⟩ ⟨⟨rfl, rfl, blT⟩, ⟨⟨rfl, rfl, blT⟩, trivial⟩⟩ blT rfl (K34 _ e.symm)
     ·exact (Bool.false_ne_true (hc.symm.trans hd)).elim

end Go.RX
