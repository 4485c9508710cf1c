/- Plain functions, and what says that the program's functions compute them. -/
import Derived.Test.YtknjenjjhdhemaaGreatFp
import Derived.Test.YtknjenjjhdhemaaGreatFj
set_option linter.unusedVariables false
set_option linter.unusedSimpArgs false
open Go Go.RX Go.Proofs
namespace Go.RX
set_option maxRecDepth 10000
set_option maxHeartbeats 4000000
attribute [local irreducible] CallW CallP LoopW W IntKind.wrap bitI
def law08_few_c0  (k31 : Nat) (x31 : (List En)) (s31 : (List (List En))) : Option (Step Tb (List (List En))) :=
 grd ((0 : Int) ≤ (mn ((x31.length : Nat) : Int) 8) ∧ (mn ((x31.length : Nat) : Int) 8) ≤ ((x31.length : Nat) : Int)) <|
 grd (fits ((s31 ++ ([(x31.take ((mn ((x31.length : Nat) : Int) 8) : Int).toNat)] : (List (List En)))) : List (List En)).length 24) <|
 some (.nxt (s31 ++ ([(x31.take ((mn ((x31.length : Nat) : Int) 8) : Int).toNat)] : (List (List En)))))

def law08_few (a0 : Tb) : Option Tb :=
 grd ((0 : Int) ≤ (mn ((a0.Buckets.length : Nat) : Int) 20) ∧ (mn ((a0.Buckets.length : Nat) : Int) 20) ≤ ((a0.Buckets.length : Nat) : Int)) <|
 aft (rangeL (law08_few_c0 ) (a0.Buckets.take ((mn ((a0.Buckets.length : Nat) : Int) 20) : Int).toNat) ([] : (List (List En)))) fun s31 =>
 some (⟨s31, a0.Slots, a0.Age⟩ : Tb)

theorem c_law08_few (a0 : Tb) (r : Tb) (h : law08_few a0 = some r) : CallP Tryz.prog 4 [(LV.agg [(LV.ro 1 (a0.Buckets.map (roC 4 EnC))), (I a0.Slots), (I a0.Age)])] (LV.agg [(LV.ro 1 (r.Buckets.map (roC 4 EnC))), (I r.Slots), (I r.Age)]) := by
 unfold law08_few at h
 refine .intro nlA (.intro TT_ok Tryz.func4 rfl rfl [0, 1, 2, 3, 5, 12, 13, 14, 15] rfl ?_)
 conv => whnf
 replace h := grdS h
 obtain ⟨g1, h⟩ := h
 replace g1 : (0 : Int) ≤ (mn (((a0.Buckets.map (roC 4 EnC)).length : Nat) : Int) 20) ∧ (mn (((a0.Buckets.map (roC 4 EnC)).length : Nat) : Int) 20) ≤ (((a0.Buckets.map (roC 4 EnC)).length : Nat) : Int) := by simpa only [se_len, se_ch, List.length_map] using g1
 repeat' first | exact rA _ | refine parkI ?_ | exact g1 | (refine And.intro ?_ ?_ <;> conv => whnf) | fail
 replace h := aftS h
 obtain ⟨O31, hO31, r31⟩ := h
 refine LoopW.virt 3 39 1 rfl ?_
 refine LoopW.norm [(1, (LV.ptr 0 0 0)), (2, (LV.ptr 1 0 0)), (3, (LV.sl 2 0 (([] : (List (List En))).map (roC 4 EnC)).length)), (12, (LV.ro 1 ((a0.Buckets.map (roC 4 EnC)).take ((mn (((a0.Buckets.map (roC 4 EnC)).length : Nat) : Int) 20) : Int).toNat))), (13, (I ((((a0.Buckets.map (roC 4 EnC)).take ((mn (((a0.Buckets.map (roC 4 EnC)).length : Nat) : Int) 20) : Int).toNat).length : Nat) : Int))), (14, (I ((0 : Nat) : Int)))] 3 [(0, (.row 24 3 [[(LV.ro 1 (a0.Buckets.map (roC 4 EnC))), (I a0.Slots), (I a0.Age)]])), (1, (.row 24 3 [[LV.nils, (I 0), (I 0)]])), (2, (.row 39 1 (([] : (List (List En))).map (roC 4 EnC))))] ⟨rfl, rfl, (by exact congrArg (LV.sl 2 0) (clL _ : 0 = (([] : (List (List En))).map (roC 4 EnC)).length)), rfl, rfl, rfl, trivial⟩ ⟨⟨rfl, rfl, blT⟩, ⟨⟨rfl, rfl, blT⟩, ⟨⟨(congrArg (fun q => some (Blk.row 39 1 q)) (by first | (simp only [se_map, se_byL, se_len, se_ch, List.length_map]; done) | (simp only [se_map, se_byL, se_len, se_ch, List.length_map, roC]; done) : ([] : List (List LV)) = (([] : (List (List En))).map (roC 4 EnC)))), rfl, NLss_bel (NLss_map' _)⟩, trivial⟩⟩⟩ blT rfl ?_
 refine LoopW.forR (fun k31 s31 => [(1, (LV.ptr 0 0 0)), (2, (LV.ptr 1 0 0)), (3, (LV.sl 2 0 (s31.map (roC 4 EnC)).length)), (12, (LV.ro 1 ((a0.Buckets.map (roC 4 EnC)).take ((mn (((a0.Buckets.map (roC 4 EnC)).length : Nat) : Int) 20) : Int).toNat))), (13, (I ((((a0.Buckets.map (roC 4 EnC)).take ((mn (((a0.Buckets.map (roC 4 EnC)).length : Nat) : Int) 20) : Int).toNat).length : Nat) : Int))), (14, (I ((k31 : Nat) : Int)))]) (fun s31 => ⟨3, [(0, (.row 24 3 [[(LV.ro 1 (a0.Buckets.map (roC 4 EnC))), (I a0.Slots), (I a0.Age)]])), (1, (.row 24 3 [[LV.nils, (I 0), (I 0)]])), (2, (.row 39 1 (s31.map (roC 4 EnC))))]⟩) hO31 (fun hl31 s31 hs31 => ?_) (fun hl31 k31 x31 s31 o31 hk31 hx31 b31 K31 hret31 hbrk31 => ?_)
 ·rw [hs31] at r31
  dsimp only [aftM] at r31
  have hd : decide ((((a0.Buckets.take ((mn ((a0.Buckets.length : Nat) : Int) 20) : Int).toNat).length : Nat) : Int) < ((((a0.Buckets.map (roC 4 EnC)).take ((mn (((a0.Buckets.map (roC 4 EnC)).length : Nat) : Int) 20) : Int).toNat).length : Nat) : Int)) = false := by rw [decide_eq_false_iff_not]; (try simp only [se_len, se_ch, List.length_map]); omega
  refine LoopW.round TT_ok [0, 1, 2, 3, 5, 12, 13, 14, 15] ?_
  conv => whnf
  repeat' first | exact rA _ | refine parkI ?_ | (refine And.intro ?_ ?_ <;> conv => whnf) | fail
  refine parkE (fun hc => ?_) (fun hc => ?_)
  ·exact (Bool.false_ne_true (hd.symm.trans hc)).elim
  ·clear hd
   conv => whnf
   have e := Option.some.inj r31
   subst e
   repeat' first | exact rA _ | exact clA _ | (refine And.intro ?_ ?_ <;> conv => whnf) | exact clG _ | (refine gand ?_ h; assumption) | exact clN _ | fail
 ·unfold law08_few_c0 at b31
  have fx31 : (0 : Int) ≤ ((k31 : Nat) : Int) ∧ (((a0.Buckets.map (roC 4 EnC)).take ((mn (((a0.Buckets.map (roC 4 EnC)).length : Nat) : Int) 20) : Int).toNat))[((k31 : Nat) : Int).toNat]? = some ((roC 4 EnC) x31) := by (have h0 := kixF (f := (roC 4 EnC)) hx31); simpa only [se_map, se_len, se_byL, List.length_map] using h0
  have hd : decide (((k31 : Nat) : Int) < ((((a0.Buckets.map (roC 4 EnC)).take ((mn (((a0.Buckets.map (roC 4 EnC)).length : Nat) : Int) 20) : Int).toNat).length : Nat) : Int)) = true := by rw [decide_eq_true_eq]; (try simp only [se_len, se_ch, List.length_map] at hk31); (try simp only [se_len, se_ch, List.length_map]); omega
  refine LoopW.round TT_ok [0, 1, 2, 3, 5, 12, 13, 14, 15] ?_
  conv => whnf
  repeat' first | exact rA _ | refine parkI ?_ | (refine And.intro ?_ ?_ <;> conv => whnf) | fail
  refine parkE (fun hc => ?_) (fun hc => ?_)
  ·clear hd
   conv => whnf
   replace b31 := grdS b31
   obtain ⟨g2, b31⟩ := b31
   replace g2 : (0 : Int) ≤ (mn (((x31.map EnC).length : Nat) : Int) 8) ∧ (mn (((x31.map EnC).length : Nat) : Int) 8) ≤ (((x31.map EnC).length : Nat) : Int) := by simpa only [se_len, se_ch, List.length_map] using g2
   replace b31 := grdS b31
   obtain ⟨g3, b31⟩ := b31
   replace g3 : fits (((s31.map (roC 4 EnC)) ++ [[(LV.ro 4 ((x31.map EnC).take ((mn (((x31.map EnC).length : Nat) : Int) 8) : Int).toNat))]])).length 24 := by simpa only [se_len, se_ch, List.length_map] using g3
   repeat' first | exact rA _ | refine parkI ?_ | (refine ⟨_, fx31, ?_⟩; conv => whnf) | exact g2 | exact g3 | exact clA _ | (refine And.intro ?_ ?_ <;> conv => whnf) | exact clN _ | fail
   have e := Option.some.inj b31
   refine LoopW.ren [(0, 0), (1, 1), (4, 2)] [(1, (LV.ptr 0 0 0)), (2, (LV.ptr 1 0 0)), (3, (LV.sl 2 0 ((s31 ++ ([(x31.take ((mn ((x31.length : Nat) : Int) 8) : Int).toNat)] : (List (List En)))).map (roC 4 EnC)).length)), (12, (LV.ro 1 ((a0.Buckets.map (roC 4 EnC)).take ((mn (((a0.Buckets.map (roC 4 EnC)).length : Nat) : Int) 20) : Int).toNat))), (13, (I ((((a0.Buckets.map (roC 4 EnC)).take ((mn (((a0.Buckets.map (roC 4 EnC)).length : Nat) : Int) 20) : Int).toNat).length : Nat) : Int))), (14, (I ((k31 + 1 : Nat) : Int)))] 3 [(0, (.row 24 3 [[(LV.ro 1 (a0.Buckets.map (roC 4 EnC))), (I a0.Slots), (I a0.Age)]])), (1, (.row 24 3 [[LV.nils, (I 0), (I 0)]])), (2, (.row 39 1 ((s31 ++ ([(x31.take ((mn ((x31.length : Nat) : Int) 8) : Int).toNat)] : (List (List En)))).map (roC 4 EnC))))] rfl ⟨rfl, rfl, (by exact congrArg (LV.sl 2 0) (clL _ : (((s31.map (roC 4 EnC)) ++ [[(LV.ro 4 ((x31.map EnC).take ((mn (((x31.map EnC).length : Nat) : Int) 8) : Int).toNat))]])).length = ((s31 ++ ([(x31.take ((mn ((x31.length : Nat) : Int) 8) : Int).toNat)] : (List (List En)))).map (roC 4 EnC)).length)), rfl, rfl, (congrArg (LV.int .i64) (w64_nat _ (by omega))), trivial⟩ ⟨⟨rfl, rfl, .inl ⟨rfl, nlT⟩⟩, rfl, rfl, ⟨⟨rfl, rfl, .inl ⟨rfl, nlT⟩⟩, rfl, rfl, ⟨⟨rfl, rfl, .inl ⟨(by first | (simp only [se_map, se_byL, se_len, se_ch, List.length_map]; done) | (simp only [se_map, se_byL, se_len, se_ch, List.length_map, roC]; done) : (((s31.map (roC 4 EnC)) ++ [[(LV.ro 4 ((x31.map EnC).take ((mn (((x31.map EnC).length : Nat) : Int) 8) : Int).toNat))]]) : List (List LV)) = ((s31 ++ ([(x31.take ((mn ((x31.length : Nat) : Int) 8) : Int).toNat)] : (List (List En)))).map (roC 4 EnC))), nlT⟩⟩, rfl, rfl, trivial⟩⟩⟩ rfl (K31 _ e.symm)
  ·exact (Bool.false_ne_true (hc.symm.trans hd)).elim

def law08_alive_c0  (k32 : Nat) (s32 : Tb) : Option (Step Bool Tb) :=
 grd ((0 : Int) ≤ ((k32 : Nat) : Int) ∧ ((k32 : Nat) : Int) < ((([2, 4, 2, 6] : (List Int)).length : Nat) : Int)) <|
 (gixN ([2, 4, 2, 6] : (List Int)) (((k32 : Nat) : Int) : Int).toNat).bind fun v16 =>
 (fdb_Learn s32 v16 1 0).bind fun y18 =>
 (bif (!decide (y18.2 = 0)) then
  some (.ret false)
 else
  some (.nxt y18.1))

def law08_alive  : Option Bool :=
 (fdb_New 1 2 9).bind fun y13 =>
 aft (rangeN (law08_alive_c0 ) ((([2, 4, 2, 6] : (List Int)).length : Nat) : Int) y13.1) fun s32 =>
 (fdb_Find s32 2 5).bind fun y20 =>
 (fdb_Find s32 4 5).bind fun y22 =>
 some (bif (bif (bif (bif (decide (y13.2 = 0)) then (decide (y20.2 = 0)) else false) then (decide (y22.2 = 0)) else false) then (decide (y20.1 = 1)) else false) then (decide (y22.1 = (-1))) else false)

theorem c_law08_alive  (r : Bool) (h : law08_alive  = some r) : CallP Tryz.prog 10 [] (LV.bool r) := by
 unfold law08_alive at h
 refine .intro nlA (.intro TT_ok Tryz.func10 rfl rfl [0, 1, 2, 4, 5, 6, 7, 8, 9, 10, 15, 16, 17, 18, 28] rfl ?_)
 conv => whnf
 replace h := bindS h
 obtain ⟨y13, hy13, h⟩ := h
 have c14 := c_fdb_New 1 2 9 _ hy13
 repeat' first | exact rA _ | refine parkI ?_ | (refine CallP.use c14 ?_; conv => whnf) | (refine And.intro ?_ ?_ <;> conv => whnf) | fail
 replace h := aftS h
 obtain ⟨O32, hO32, r32⟩ := h
 refine LoopW.norm [(1, (LV.ptr 0 0 0)), (2, (I y13.2)), (15, (LV.sl 1 0 4)), (16, (I ((4 : Nat) : Int))), (17, (I ((0 : Nat) : Int)))] 2 [(0, (.row 24 3 [[(LV.ro 1 (y13.1.Buckets.map (roC 4 EnC))), (I y13.1.Slots), (I y13.1.Age)]])), (1, (.row 3 1 [[(I 2)], [(I 4)], [(I 2)], [(I 6)]]))] ⟨rfl, rfl, rfl, rfl, rfl, trivial⟩ ⟨⟨rfl, rfl, blT⟩, ⟨⟨rfl, rfl, blT⟩, trivial⟩⟩ blT rfl ?_
 refine LoopW.forN (fun k32 s32 => [(1, (LV.ptr 0 0 0)), (2, (I y13.2)), (15, (LV.sl 1 0 4)), (16, (I ((4 : Nat) : Int))), (17, (I ((k32 : Nat) : Int)))]) (fun s32 => ⟨2, [(0, (.row 24 3 [[(LV.ro 1 (s32.Buckets.map (roC 4 EnC))), (I s32.Slots), (I s32.Age)]])), (1, (.row 3 1 [[(I 2)], [(I 4)], [(I 2)], [(I 6)]]))]⟩) hO32 (fun hl32 s32 hs32 => ?_) (fun hl32 k32 s32 o32 hk32 b32 K32 hret32 hbrk32 => ?_)
 ·rw [hs32] at r32
  dsimp only [aftM] at r32
  have hd : decide ((((((([2, 4, 2, 6] : (List Int)).length : Nat) : Int) : Int).toNat : Nat) : Int) < ((4 : Nat) : Int)) = false := by rw [decide_eq_false_iff_not]; (try simp only [se_len, se_ch, List.length_map]); omega
  refine LoopW.round TT_ok [0, 1, 2, 4, 5, 6, 7, 8, 9, 10, 15, 16, 17, 18, 28] ?_
  conv => whnf
  repeat' first | exact rA _ | refine parkI ?_ | (refine And.intro ?_ ?_ <;> conv => whnf) | fail
  refine parkE (fun hc => ?_) (fun hc => ?_)
  ·exact (Bool.false_ne_true (hd.symm.trans hc)).elim
  ·clear hd
   conv => whnf
   replace r32 := bindS r32
   obtain ⟨y20, hy20, r32⟩ := r32
   have c21 := c_fdb_Find s32 2 5 _ hy20
   replace r32 := bindS r32
   obtain ⟨y22, hy22, r32⟩ := r32
   have c23 := c_fdb_Find s32 4 5 _ hy22
   have e := Option.some.inj r32
   subst e
   repeat' first | exact rA _ | (refine CallP.use c21 ?_; conv => whnf) | (refine CallP.use c23 ?_; conv => whnf) | exact clA _ | (refine And.intro ?_ ?_ <;> conv => whnf) | exact clG _ | (refine gand ?_ h; assumption) | exact clN _ | fail
 ·unfold law08_alive_c0 at b32
  have hd : decide (((k32 : Nat) : Int) < ((4 : Nat) : Int)) = true := by rw [decide_eq_true_eq]; (try simp only [se_len, se_ch, List.length_map] at hk32); (try simp only [se_len, se_ch, List.length_map]); omega
  refine LoopW.round TT_ok [0, 1, 2, 4, 5, 6, 7, 8, 9, 10, 15, 16, 17, 18, 28] ?_
  conv => whnf
  repeat' first | exact rA _ | refine parkI ?_ | (refine And.intro ?_ ?_ <;> conv => whnf) | fail
  refine parkE (fun hc => ?_) (fun hc => ?_)
  ·clear hd
   conv => whnf
   replace b32 := grdS b32
   obtain ⟨g15, b32⟩ := b32
   replace g15 : (0 : Int) ≤ ((k32 : Nat) : Int) ∧ ((k32 : Nat) : Int) < ((4 : Nat) : Int) := by simpa only [se_len, se_ch, List.length_map] using g15
   replace b32 := bindS b32
   obtain ⟨v16, hv16, b32⟩ := b32
   have i17 : nth [[(I 2)], [(I 4)], [(I 2)], [(I 6)]] (0 + ((((k32 : Nat) : Int) : Int).toNat)) = some [(I v16)] := by simpa only [se_map, se_len, se_ch, List.length_map, nth_eq, Nat.zero_add, List.getElem?_map] using gixNF (f := iC) hv16
   replace b32 := bindS b32
   obtain ⟨y18, hy18, b32⟩ := b32
   have c19 := c_fdb_Learn s32 v16 1 0 _ hy18
   repeat' first | exact rA _ | refine parkI ?_ | exact g15 | (refine CallP.use c19 ?_; conv => whnf) | (rw [i17]; conv => whnf) | (refine And.intro ?_ ?_ <;> conv => whnf) | fail
   refine parkE (fun hc => ?_) (fun hc => ?_)
   ·replace b32 := condT hc b32
    conv => whnf
    have e := Option.some.inj b32
    replace e := hret32 _ e.symm
    rw [e] at r32
    replace e := Option.some.inj r32
    subst e
    repeat' first | exact rA _ | exact clA _ | (refine And.intro ?_ ?_ <;> conv => whnf) | exact clG _ | (refine gand ?_ h; assumption) | exact clN _ | fail
   ·replace b32 := condF hc b32
    conv => whnf
    repeat' first | exact rA _ | refine parkI ?_ | (refine And.intro ?_ ?_ <;> conv => whnf) | fail
    have e := Option.some.inj b32
    refine LoopW.norm [(1, (LV.ptr 0 0 0)), (2, (I y13.2)), (15, (LV.sl 1 0 4)), (16, (I ((4 : Nat) : Int))), (17, (I ((k32 + 1 : Nat) : Int)))] 2 [(0, (.row 24 3 [[(LV.ro 1 (y18.1.Buckets.map (roC 4 EnC))), (I y18.1.Slots), (I y18.1.Age)]])), (1, (.row 3 1 [[(I 2)], [(I 4)], [(I 2)], [(I 6)]]))] ⟨rfl, rfl, rfl, rfl, (congrArg (LV.int .i64) (w64_nat _ (by omega))), trivial⟩ ⟨⟨rfl, rfl, blT⟩, ⟨⟨rfl, rfl, blT⟩, trivial⟩⟩ blT rfl (K32 _ e.symm)
  ·exact (Bool.false_ne_true (hc.symm.trans hd)).elim

def law08_FdbKeeps (a0 : Tb) (a1 : Int) (a2 : Int) (a3 : Int) : Option Bool :=
 (law08_few a0).bind fun y1 =>
 (fdb_Pin y1 a1 a2).bind fun y3 =>
 (fdb_Unpin y1 a1).bind fun y5 =>
 (fdb_Sweep y1 a3).bind fun y7 =>
 (fdb_Flush y1 a2).bind fun y9 =>
 (ref08_Right y1).bind fun y11 =>
 (bif (!y11) then
  (law08_alive ).bind fun y13 =>
  (gd (bif (bif (bif (bif y13 then (decide (y3.2 = 1)) else false) then (decide (y5.2 = 1)) else false) then (decide (y7.2 = 1)) else false) then (decide (y9.2 = 1)) else false) (ref08_Same y3.1 (⟨[], 0, 0⟩ : Tb))).bind fun y15 =>
  (gd (bif (bif (bif (bif (bif y13 then (decide (y3.2 = 1)) else false) then (decide (y5.2 = 1)) else false) then (decide (y7.2 = 1)) else false) then (decide (y9.2 = 1)) else false) then y15 else false) (ref08_Same y5.1 (⟨[], 0, 0⟩ : Tb))).bind fun y17 =>
  (gd (bif (bif (bif (bif (bif (bif y13 then (decide (y3.2 = 1)) else false) then (decide (y5.2 = 1)) else false) then (decide (y7.2 = 1)) else false) then (decide (y9.2 = 1)) else false) then y15 else false) then y17 else false) (ref08_Same y7.1 (⟨[], 0, 0⟩ : Tb))).bind fun y19 =>
  (gd (bif (bif (bif (bif (bif (bif (bif y13 then (decide (y3.2 = 1)) else false) then (decide (y5.2 = 1)) else false) then (decide (y7.2 = 1)) else false) then (decide (y9.2 = 1)) else false) then y15 else false) then y17 else false) then y19 else false) (ref08_Same y9.1 (⟨[], 0, 0⟩ : Tb))).bind fun y21 =>
  some (bif (bif (bif (bif (bif (bif (bif (bif y13 then (decide (y3.2 = 1)) else false) then (decide (y5.2 = 1)) else false) then (decide (y7.2 = 1)) else false) then (decide (y9.2 = 1)) else false) then y15 else false) then y17 else false) then y19 else false) then y21 else false)
 else
  (ref08_Time a3).bind fun y23 =>
  (bif (!y23) then
   (gd (!(!decide (y7.2 = 1))) (ref08_Same y7.1 (⟨[], 0, 0⟩ : Tb))).bind fun y25 =>
   (bif (bif (!decide (y7.2 = 1)) then true else (!y25)) then
    some false
   else
    (ref08_Port a2).bind fun y27 =>
    (bif (bif (!y27) then (!decide (a2 = (-1))) else false) then
     (gd (!(!decide (y9.2 = 1))) (ref08_Same y9.1 (⟨[], 0, 0⟩ : Tb))).bind fun y29 =>
     (bif (bif (!decide (y9.2 = 1)) then true else (!y29)) then
      some false
     else
      (ref08_Mac a1).bind fun y31 =>
      (bif (!y31) then
       (law08_alive ).bind fun y33 =>
       (gd (bif (bif y33 then (decide (y3.2 = 1)) else false) then (decide (y5.2 = 1)) else false) (ref08_Same y3.1 (⟨[], 0, 0⟩ : Tb))).bind fun y35 =>
       (gd (bif (bif (bif y33 then (decide (y3.2 = 1)) else false) then (decide (y5.2 = 1)) else false) then y35 else false) (ref08_Same y5.1 (⟨[], 0, 0⟩ : Tb))).bind fun y37 =>
       some (bif (bif (bif (bif y33 then (decide (y3.2 = 1)) else false) then (decide (y5.2 = 1)) else false) then y35 else false) then y37 else false)
      else
       (ref08_Pinned y1 a1).bind fun y39 =>
       (bif (!y39) then
        (gd (!(!decide (y5.2 = 4))) (ref08_Same y5.1 (⟨[], 0, 0⟩ : Tb))).bind fun y41 =>
        (bif (bif (!decide (y5.2 = 4)) then true else (!y41)) then
         some false
        else
         (bif (!y27) then
          (law08_alive ).bind fun y43 =>
          (gd (bif y43 then (decide (y3.2 = 1)) else false) (ref08_Same y3.1 (⟨[], 0, 0⟩ : Tb))).bind fun y45 =>
          some (bif (bif y43 then (decide (y3.2 = 1)) else false) then y45 else false)
         else
          (ref08_Pin y1 a1 a2).bind fun y47 =>
          (bif (!y47.2) then
           (law08_alive ).bind fun y49 =>
           (gd (bif y49 then (decide (y3.2 = 5)) else false) (ref08_Same y3.1 (⟨[], 0, 0⟩ : Tb))).bind fun y51 =>
           some (bif (bif y49 then (decide (y3.2 = 5)) else false) then y51 else false)
          else
           (law08_alive ).bind fun y53 =>
           (gd (bif y53 then (decide (y3.2 = 0)) else false) (ref08_Same y3.1 y47.1)).bind fun y55 =>
           some (bif (bif y53 then (decide (y3.2 = 0)) else false) then y55 else false))))
       else
        (gd (!(!decide (y5.2 = 0))) (ref08_Unpin y1 a1)).bind fun y57 =>
        (gd (!(!decide (y5.2 = 0))) (ref08_Same y5.1 y57)).bind fun y59 =>
        (bif (bif (!decide (y5.2 = 0)) then true else (!y59)) then
         some false
        else
         (bif (!y27) then
          (law08_alive ).bind fun y61 =>
          (gd (bif y61 then (decide (y3.2 = 1)) else false) (ref08_Same y3.1 (⟨[], 0, 0⟩ : Tb))).bind fun y63 =>
          some (bif (bif y61 then (decide (y3.2 = 1)) else false) then y63 else false)
         else
          (ref08_Pin y1 a1 a2).bind fun y65 =>
          (bif (!y65.2) then
           (law08_alive ).bind fun y67 =>
           (gd (bif y67 then (decide (y3.2 = 5)) else false) (ref08_Same y3.1 (⟨[], 0, 0⟩ : Tb))).bind fun y69 =>
           some (bif (bif y67 then (decide (y3.2 = 5)) else false) then y69 else false)
          else
           (law08_alive ).bind fun y71 =>
           (gd (bif y71 then (decide (y3.2 = 0)) else false) (ref08_Same y3.1 y65.1)).bind fun y73 =>
           some (bif (bif y71 then (decide (y3.2 = 0)) else false) then y73 else false)))))))
    else
     (gd (!(!decide (y9.2 = 0))) (ref08_Flush y1 a2)).bind fun y75 =>
     (gd (!(!decide (y9.2 = 0))) (ref08_Same y9.1 y75)).bind fun y77 =>
     (bif (bif (!decide (y9.2 = 0)) then true else (!y77)) then
      some false
     else
      (ref08_Mac a1).bind fun y79 =>
      (bif (!y79) then
       (law08_alive ).bind fun y81 =>
       (gd (bif (bif y81 then (decide (y3.2 = 1)) else false) then (decide (y5.2 = 1)) else false) (ref08_Same y3.1 (⟨[], 0, 0⟩ : Tb))).bind fun y83 =>
       (gd (bif (bif (bif y81 then (decide (y3.2 = 1)) else false) then (decide (y5.2 = 1)) else false) then y83 else false) (ref08_Same y5.1 (⟨[], 0, 0⟩ : Tb))).bind fun y85 =>
       some (bif (bif (bif (bif y81 then (decide (y3.2 = 1)) else false) then (decide (y5.2 = 1)) else false) then y83 else false) then y85 else false)
      else
       (ref08_Pinned y1 a1).bind fun y87 =>
       (bif (!y87) then
        (gd (!(!decide (y5.2 = 4))) (ref08_Same y5.1 (⟨[], 0, 0⟩ : Tb))).bind fun y89 =>
        (bif (bif (!decide (y5.2 = 4)) then true else (!y89)) then
         some false
        else
         (bif (!y27) then
          (law08_alive ).bind fun y91 =>
          (gd (bif y91 then (decide (y3.2 = 1)) else false) (ref08_Same y3.1 (⟨[], 0, 0⟩ : Tb))).bind fun y93 =>
          some (bif (bif y91 then (decide (y3.2 = 1)) else false) then y93 else false)
         else
          (ref08_Pin y1 a1 a2).bind fun y95 =>
          (bif (!y95.2) then
           (law08_alive ).bind fun y97 =>
           (gd (bif y97 then (decide (y3.2 = 5)) else false) (ref08_Same y3.1 (⟨[], 0, 0⟩ : Tb))).bind fun y99 =>
           some (bif (bif y97 then (decide (y3.2 = 5)) else false) then y99 else false)
          else
           (law08_alive ).bind fun y101 =>
           (gd (bif y101 then (decide (y3.2 = 0)) else false) (ref08_Same y3.1 y95.1)).bind fun y103 =>
           some (bif (bif y101 then (decide (y3.2 = 0)) else false) then y103 else false))))
       else
        (gd (!(!decide (y5.2 = 0))) (ref08_Unpin y1 a1)).bind fun y105 =>
        (gd (!(!decide (y5.2 = 0))) (ref08_Same y5.1 y105)).bind fun y107 =>
        (bif (bif (!decide (y5.2 = 0)) then true else (!y107)) then
         some false
        else
         (bif (!y27) then
          (law08_alive ).bind fun y109 =>
          (gd (bif y109 then (decide (y3.2 = 1)) else false) (ref08_Same y3.1 (⟨[], 0, 0⟩ : Tb))).bind fun y111 =>
          some (bif (bif y109 then (decide (y3.2 = 1)) else false) then y111 else false)
         else
          (ref08_Pin y1 a1 a2).bind fun y113 =>
          (bif (!y113.2) then
           (law08_alive ).bind fun y115 =>
           (gd (bif y115 then (decide (y3.2 = 5)) else false) (ref08_Same y3.1 (⟨[], 0, 0⟩ : Tb))).bind fun y117 =>
           some (bif (bif y115 then (decide (y3.2 = 5)) else false) then y117 else false)
          else
           (law08_alive ).bind fun y119 =>
           (gd (bif y119 then (decide (y3.2 = 0)) else false) (ref08_Same y3.1 y113.1)).bind fun y121 =>
           some (bif (bif y119 then (decide (y3.2 = 0)) else false) then y121 else false)))))))))
  else
   (gd (!(!decide (y7.2 = 0))) (ref08_Sweep y1 a3)).bind fun y123 =>
   (gd (!(!decide (y7.2 = 0))) (ref08_Same y7.1 y123)).bind fun y125 =>
   (bif (bif (!decide (y7.2 = 0)) then true else (!y125)) then
    some false
   else
    (ref08_Port a2).bind fun y127 =>
    (bif (bif (!y127) then (!decide (a2 = (-1))) else false) then
     (gd (!(!decide (y9.2 = 1))) (ref08_Same y9.1 (⟨[], 0, 0⟩ : Tb))).bind fun y129 =>
     (bif (bif (!decide (y9.2 = 1)) then true else (!y129)) then
      some false
     else
      (ref08_Mac a1).bind fun y131 =>
      (bif (!y131) then
       (law08_alive ).bind fun y133 =>
       (gd (bif (bif y133 then (decide (y3.2 = 1)) else false) then (decide (y5.2 = 1)) else false) (ref08_Same y3.1 (⟨[], 0, 0⟩ : Tb))).bind fun y135 =>
       (gd (bif (bif (bif y133 then (decide (y3.2 = 1)) else false) then (decide (y5.2 = 1)) else false) then y135 else false) (ref08_Same y5.1 (⟨[], 0, 0⟩ : Tb))).bind fun y137 =>
       some (bif (bif (bif (bif y133 then (decide (y3.2 = 1)) else false) then (decide (y5.2 = 1)) else false) then y135 else false) then y137 else false)
      else
       (ref08_Pinned y1 a1).bind fun y139 =>
       (bif (!y139) then
        (gd (!(!decide (y5.2 = 4))) (ref08_Same y5.1 (⟨[], 0, 0⟩ : Tb))).bind fun y141 =>
        (bif (bif (!decide (y5.2 = 4)) then true else (!y141)) then
         some false
        else
         (bif (!y127) then
          (law08_alive ).bind fun y143 =>
          (gd (bif y143 then (decide (y3.2 = 1)) else false) (ref08_Same y3.1 (⟨[], 0, 0⟩ : Tb))).bind fun y145 =>
          some (bif (bif y143 then (decide (y3.2 = 1)) else false) then y145 else false)
         else
          (ref08_Pin y1 a1 a2).bind fun y147 =>
          (bif (!y147.2) then
           (law08_alive ).bind fun y149 =>
           (gd (bif y149 then (decide (y3.2 = 5)) else false) (ref08_Same y3.1 (⟨[], 0, 0⟩ : Tb))).bind fun y151 =>
           some (bif (bif y149 then (decide (y3.2 = 5)) else false) then y151 else false)
          else
           (law08_alive ).bind fun y153 =>
           (gd (bif y153 then (decide (y3.2 = 0)) else false) (ref08_Same y3.1 y147.1)).bind fun y155 =>
           some (bif (bif y153 then (decide (y3.2 = 0)) else false) then y155 else false))))
       else
        (gd (!(!decide (y5.2 = 0))) (ref08_Unpin y1 a1)).bind fun y157 =>
        (gd (!(!decide (y5.2 = 0))) (ref08_Same y5.1 y157)).bind fun y159 =>
        (bif (bif (!decide (y5.2 = 0)) then true else (!y159)) then
         some false
        else
         (bif (!y127) then
          (law08_alive ).bind fun y161 =>
          (gd (bif y161 then (decide (y3.2 = 1)) else false) (ref08_Same y3.1 (⟨[], 0, 0⟩ : Tb))).bind fun y163 =>
          some (bif (bif y161 then (decide (y3.2 = 1)) else false) then y163 else false)
         else
          (ref08_Pin y1 a1 a2).bind fun y165 =>
          (bif (!y165.2) then
           (law08_alive ).bind fun y167 =>
           (gd (bif y167 then (decide (y3.2 = 5)) else false) (ref08_Same y3.1 (⟨[], 0, 0⟩ : Tb))).bind fun y169 =>
           some (bif (bif y167 then (decide (y3.2 = 5)) else false) then y169 else false)
          else
           (law08_alive ).bind fun y171 =>
           (gd (bif y171 then (decide (y3.2 = 0)) else false) (ref08_Same y3.1 y165.1)).bind fun y173 =>
           some (bif (bif y171 then (decide (y3.2 = 0)) else false) then y173 else false)))))))
    else
     (gd (!(!decide (y9.2 = 0))) (ref08_Flush y1 a2)).bind fun y175 =>
     (gd (!(!decide (y9.2 = 0))) (ref08_Same y9.1 y175)).bind fun y177 =>
     (bif (bif (!decide (y9.2 = 0)) then true else (!y177)) then
      some false
     else
      (ref08_Mac a1).bind fun y179 =>
      (bif (!y179) then
       (law08_alive ).bind fun y181 =>
       (gd (bif (bif y181 then (decide (y3.2 = 1)) else false) then (decide (y5.2 = 1)) else false) (ref08_Same y3.1 (⟨[], 0, 0⟩ : Tb))).bind fun y183 =>
       (gd (bif (bif (bif y181 then (decide (y3.2 = 1)) else false) then (decide (y5.2 = 1)) else false) then y183 else false) (ref08_Same y5.1 (⟨[], 0, 0⟩ : Tb))).bind fun y185 =>
       some (bif (bif (bif (bif y181 then (decide (y3.2 = 1)) else false) then (decide (y5.2 = 1)) else false) then y183 else false) then y185 else false)
      else
       (ref08_Pinned y1 a1).bind fun y187 =>
       (bif (!y187) then
        (gd (!(!decide (y5.2 = 4))) (ref08_Same y5.1 (⟨[], 0, 0⟩ : Tb))).bind fun y189 =>
        (bif (bif (!decide (y5.2 = 4)) then true else (!y189)) then
         some false
        else
         (bif (!y127) then
          (law08_alive ).bind fun y191 =>
          (gd (bif y191 then (decide (y3.2 = 1)) else false) (ref08_Same y3.1 (⟨[], 0, 0⟩ : Tb))).bind fun y193 =>
          some (bif (bif y191 then (decide (y3.2 = 1)) else false) then y193 else false)
         else
          (ref08_Pin y1 a1 a2).bind fun y195 =>
          (bif (!y195.2) then
           (law08_alive ).bind fun y197 =>
           (gd (bif y197 then (decide (y3.2 = 5)) else false) (ref08_Same y3.1 (⟨[], 0, 0⟩ : Tb))).bind fun y199 =>
           some (bif (bif y197 then (decide (y3.2 = 5)) else false) then y199 else false)
          else
           (law08_alive ).bind fun y201 =>
           (gd (bif y201 then (decide (y3.2 = 0)) else false) (ref08_Same y3.1 y195.1)).bind fun y203 =>
           some (bif (bif y201 then (decide (y3.2 = 0)) else false) then y203 else false))))
       else
        (gd (!(!decide (y5.2 = 0))) (ref08_Unpin y1 a1)).bind fun y205 =>
        (gd (!(!decide (y5.2 = 0))) (ref08_Same y5.1 y205)).bind fun y207 =>
        (bif (bif (!decide (y5.2 = 0)) then true else (!y207)) then
         some false
        else
         (bif (!y127) then
          (law08_alive ).bind fun y209 =>
          (gd (bif y209 then (decide (y3.2 = 1)) else false) (ref08_Same y3.1 (⟨[], 0, 0⟩ : Tb))).bind fun y211 =>
          some (bif (bif y209 then (decide (y3.2 = 1)) else false) then y211 else false)
         else
          (ref08_Pin y1 a1 a2).bind fun y213 =>
          (bif (!y213.2) then
           (law08_alive ).bind fun y215 =>
           (gd (bif y215 then (decide (y3.2 = 5)) else false) (ref08_Same y3.1 (⟨[], 0, 0⟩ : Tb))).bind fun y217 =>
           some (bif (bif y215 then (decide (y3.2 = 5)) else false) then y217 else false)
          else
           (law08_alive ).bind fun y219 =>
           (gd (bif y219 then (decide (y3.2 = 0)) else false) (ref08_Same y3.1 y213.1)).bind fun y221 =>
           some (bif (bif y219 then (decide (y3.2 = 0)) else false) then y221 else false)))))))))))

theorem c_law08_FdbKeeps (a0 : Tb) (a1 : Int) (a2 : Int) (a3 : Int) (r : Bool) (h : law08_FdbKeeps a0 a1 a2 a3 = some r) : CallP Tryz.prog 3 [(LV.agg [(LV.ro 1 (a0.Buckets.map (roC 4 EnC))), (I a0.Slots), (I a0.Age)]), (I a1), (I a2), (I a3)] (LV.bool r) := by
 unfold law08_FdbKeeps at h
 refine .intro nlA (.intro TT_ok Tryz.func3 rfl rfl [0, 1, 2, 3, 4, 8, 9, 10, 11, 12, 13, 14, 15, 16, 17, 18, 19, 50, 90, 98, 108, 115, 123, 133, 136, 159, 167, 177, 180, 199] rfl ?_)
 conv => whnf
 replace h := bindS h
 obtain ⟨y1, hy1, h⟩ := h
 have c2 := c_law08_few a0 _ hy1
 replace h := bindS h
 obtain ⟨y3, hy3, h⟩ := h
 have c4 := c_fdb_Pin y1 a1 a2 _ hy3
 replace h := bindS h
 obtain ⟨y5, hy5, h⟩ := h
 have c6 := c_fdb_Unpin y1 a1 _ hy5
 replace h := bindS h
 obtain ⟨y7, hy7, h⟩ := h
 have c8 := c_fdb_Sweep y1 a3 _ hy7
 replace h := bindS h
 obtain ⟨y9, hy9, h⟩ := h
 have c10 := c_fdb_Flush y1 a2 _ hy9
 replace h := bindS h
 obtain ⟨y11, hy11, h⟩ := h
 have c12 := c_ref08_Right y1 _ hy11
 repeat' first | exact rA _ | refine parkI ?_ | (refine CallP.use c2 ?_; conv => whnf) | (refine ⟨_, _, CallP.at c2, ?_⟩; conv => whnf) | (refine ⟨_, fun _ => c2, ?_⟩; conv => whnf) | (refine CallP.use c4 ?_; conv => whnf) | (refine ⟨_, _, CallP.at c4, ?_⟩; conv => whnf) | (refine ⟨_, fun _ => c4, ?_⟩; conv => whnf) | (refine CallP.use c6 ?_; conv => whnf) | (refine ⟨_, _, CallP.at c6, ?_⟩; conv => whnf) | (refine ⟨_, fun _ => c6, ?_⟩; conv => whnf) | (refine CallP.use c8 ?_; conv => whnf) | (refine ⟨_, _, CallP.at c8, ?_⟩; conv => whnf) | (refine ⟨_, fun _ => c8, ?_⟩; conv => whnf) | (refine CallP.use c10 ?_; conv => whnf) | (refine ⟨_, _, CallP.at c10, ?_⟩; conv => whnf) | (refine ⟨_, fun _ => c10, ?_⟩; conv => whnf) | (refine CallP.use c12 ?_; conv => whnf) | (refine ⟨_, _, CallP.at c12, ?_⟩; conv => whnf) | (refine ⟨_, fun _ => c12, ?_⟩; conv => whnf) | (refine W.drawn TT_ok hmix1 rfl ?_; conv => whnf) | exact clA _ | (refine And.intro ?_ ?_ <;> conv => whnf) | exact clG _ | (refine gand ?_ h; assumption) | exact clN _ | fail
 refine parkE (fun hc => ?_) (fun hc => ?_)
 ·replace h := condT hc h
  conv => whnf
  replace h := bindS h
  obtain ⟨y13, hy13, h⟩ := h
  have c14 := c_law08_alive  _ hy13
  replace h := bindS h
  obtain ⟨y15, hy15, h⟩ := h
  have c16 : (bif (bif (bif (bif y13 then (decide (y3.2 = 1)) else false) then (decide (y5.2 = 1)) else false) then (decide (y7.2 = 1)) else false) then (decide (y9.2 = 1)) else false) = true → CallP Tryz.prog 11 [(LV.agg [(LV.ro 1 (y3.1.Buckets.map (roC 4 EnC))), (I y3.1.Slots), (I y3.1.Age)]), (LV.agg [LV.nils, (I 0), (I 0)])] (LV.bool y15) := by first | exact fun (hg : (bif (bif (bif (bif y13 then (decide (y3.2 = 1)) else false) then (decide (y5.2 = 1)) else false) then (decide (y7.2 = 1)) else false) then (decide (y9.2 = 1)) else false) = true) => c_ref08_Same y3.1 (⟨[], 0, 0⟩ : Tb) _ (gdS hg hy15) | (simpa only [se_map, se_byL, se_len, se_ch, List.length_map] using fun (hg : (bif (bif (bif (bif y13 then (decide (y3.2 = 1)) else false) then (decide (y5.2 = 1)) else false) then (decide (y7.2 = 1)) else false) then (decide (y9.2 = 1)) else false) = true) => c_ref08_Same y3.1 (⟨[], 0, 0⟩ : Tb) _ (gdS hg hy15)) | exact fun (hg : (bif (bif (bif (bif y13 then (decide (y3.2 = 1)) else false) then (decide (y5.2 = 1)) else false) then (decide (y7.2 = 1)) else false) then (decide (y9.2 = 1)) else false) = true) => CallP.up (c_ref08_Same y3.1 (⟨[], 0, 0⟩ : Tb) _ (gdS hg hy15)) upT
  replace h := bindS h
  obtain ⟨y17, hy17, h⟩ := h
  have c18 : (bif (bif (bif (bif (bif y13 then (decide (y3.2 = 1)) else false) then (decide (y5.2 = 1)) else false) then (decide (y7.2 = 1)) else false) then (decide (y9.2 = 1)) else false) then y15 else false) = true → CallP Tryz.prog 11 [(LV.agg [(LV.ro 1 (y5.1.Buckets.map (roC 4 EnC))), (I y5.1.Slots), (I y5.1.Age)]), (LV.agg [LV.nils, (I 0), (I 0)])] (LV.bool y17) := by first | exact fun (hg : (bif (bif (bif (bif (bif y13 then (decide (y3.2 = 1)) else false) then (decide (y5.2 = 1)) else false) then (decide (y7.2 = 1)) else false) then (decide (y9.2 = 1)) else false) then y15 else false) = true) => c_ref08_Same y5.1 (⟨[], 0, 0⟩ : Tb) _ (gdS hg hy17) | (simpa only [se_map, se_byL, se_len, se_ch, List.length_map] using fun (hg : (bif (bif (bif (bif (bif y13 then (decide (y3.2 = 1)) else false) then (decide (y5.2 = 1)) else false) then (decide (y7.2 = 1)) else false) then (decide (y9.2 = 1)) else false) then y15 else false) = true) => c_ref08_Same y5.1 (⟨[], 0, 0⟩ : Tb) _ (gdS hg hy17)) | exact fun (hg : (bif (bif (bif (bif (bif y13 then (decide (y3.2 = 1)) else false) then (decide (y5.2 = 1)) else false) then (decide (y7.2 = 1)) else false) then (decide (y9.2 = 1)) else false) then y15 else false) = true) => CallP.up (c_ref08_Same y5.1 (⟨[], 0, 0⟩ : Tb) _ (gdS hg hy17)) upT
  replace h := bindS h
  obtain ⟨y19, hy19, h⟩ := h
  have c20 : (bif (bif (bif (bif (bif (bif y13 then (decide (y3.2 = 1)) else false) then (decide (y5.2 = 1)) else false) then (decide (y7.2 = 1)) else false) then (decide (y9.2 = 1)) else false) then y15 else false) then y17 else false) = true → CallP Tryz.prog 11 [(LV.agg [(LV.ro 1 (y7.1.Buckets.map (roC 4 EnC))), (I y7.1.Slots), (I y7.1.Age)]), (LV.agg [LV.nils, (I 0), (I 0)])] (LV.bool y19) := by first | exact fun (hg : (bif (bif (bif (bif (bif (bif y13 then (decide (y3.2 = 1)) else false) then (decide (y5.2 = 1)) else false) then (decide (y7.2 = 1)) else false) then (decide (y9.2 = 1)) else false) then y15 else false) then y17 else false) = true) => c_ref08_Same y7.1 (⟨[], 0, 0⟩ : Tb) _ (gdS hg hy19) | (simpa only [se_map, se_byL, se_len, se_ch, List.length_map] using fun (hg : (bif (bif (bif (bif (bif (bif y13 then (decide (y3.2 = 1)) else false) then (decide (y5.2 = 1)) else false) then (decide (y7.2 = 1)) else false) then (decide (y9.2 = 1)) else false) then y15 else false) then y17 else false) = true) => c_ref08_Same y7.1 (⟨[], 0, 0⟩ : Tb) _ (gdS hg hy19)) | exact fun (hg : (bif (bif (bif (bif (bif (bif y13 then (decide (y3.2 = 1)) else false) then (decide (y5.2 = 1)) else false) then (decide (y7.2 = 1)) else false) then (decide (y9.2 = 1)) else false) then y15 else false) then y17 else false) = true) => CallP.up (c_ref08_Same y7.1 (⟨[], 0, 0⟩ : Tb) _ (gdS hg hy19)) upT
  replace h := bindS h
  obtain ⟨y21, hy21, h⟩ := h
  have c22 : (bif (bif (bif (bif (bif (bif (bif y13 then (decide (y3.2 = 1)) else false) then (decide (y5.2 = 1)) else false) then (decide (y7.2 = 1)) else false) then (decide (y9.2 = 1)) else false) then y15 else false) then y17 else false) then y19 else false) = true → CallP Tryz.prog 11 [(LV.agg [(LV.ro 1 (y9.1.Buckets.map (roC 4 EnC))), (I y9.1.Slots), (I y9.1.Age)]), (LV.agg [LV.nils, (I 0), (I 0)])] (LV.bool y21) := by first | exact fun (hg : (bif (bif (bif (bif (bif (bif (bif y13 then (decide (y3.2 = 1)) else false) then (decide (y5.2 = 1)) else false) then (decide (y7.2 = 1)) else false) then (decide (y9.2 = 1)) else false) then y15 else false) then y17 else false) then y19 else false) = true) => c_ref08_Same y9.1 (⟨[], 0, 0⟩ : Tb) _ (gdS hg hy21) | (simpa only [se_map, se_byL, se_len, se_ch, List.length_map] using fun (hg : (bif (bif (bif (bif (bif (bif (bif y13 then (decide (y3.2 = 1)) else false) then (decide (y5.2 = 1)) else false) then (decide (y7.2 = 1)) else false) then (decide (y9.2 = 1)) else false) then y15 else false) then y17 else false) then y19 else false) = true) => c_ref08_Same y9.1 (⟨[], 0, 0⟩ : Tb) _ (gdS hg hy21)) | exact fun (hg : (bif (bif (bif (bif (bif (bif (bif y13 then (decide (y3.2 = 1)) else false) then (decide (y5.2 = 1)) else false) then (decide (y7.2 = 1)) else false) then (decide (y9.2 = 1)) else false) then y15 else false) then y17 else false) then y19 else false) = true) => CallP.up (c_ref08_Same y9.1 (⟨[], 0, 0⟩ : Tb) _ (gdS hg hy21)) upT
  have e := Option.some.inj h
  subst e
  repeat' first | exact rA _ | (refine ⟨_, c16, ?_⟩; conv => whnf) | (refine ⟨_, c18, ?_⟩; conv => whnf) | (refine ⟨_, c20, ?_⟩; conv => whnf) | (refine ⟨_, c22, ?_⟩; conv => whnf) | (refine CallP.use c14 ?_; conv => whnf) | (refine ⟨_, _, CallP.at c14, ?_⟩; conv => whnf) | (refine ⟨_, fun _ => c14, ?_⟩; conv => whnf) | (refine W.drawn TT_ok hmix1 rfl ?_; conv => whnf) | exact clA _ | (refine And.intro ?_ ?_ <;> conv => whnf) | exact clG _ | (refine gand ?_ h; assumption) | exact clN _ | fail
 ·replace h := condF hc h
  conv => whnf
  replace h := bindS h
  obtain ⟨y23, hy23, h⟩ := h
  have c24 := c_ref08_Time a3 _ hy23
  repeat' first | exact rA _ | refine parkI ?_ | (refine CallP.use c24 ?_; conv => whnf) | (refine ⟨_, _, CallP.at c24, ?_⟩; conv => whnf) | (refine ⟨_, fun _ => c24, ?_⟩; conv => whnf) | (refine W.drawn TT_ok hmix1 rfl ?_; conv => whnf) | exact clA _ | (refine And.intro ?_ ?_ <;> conv => whnf) | exact clG _ | (refine gand ?_ h; assumption) | exact clN _ | fail
  refine parkE (fun hc => ?_) (fun hc => ?_)
  ·replace h := condT hc h
   conv => whnf
   replace h := bindS h
   obtain ⟨y25, hy25, h⟩ := h
   have c26 : (!(!decide (y7.2 = 1))) = true → CallP Tryz.prog 11 [(LV.agg [(LV.ro 1 (y7.1.Buckets.map (roC 4 EnC))), (I y7.1.Slots), (I y7.1.Age)]), (LV.agg [LV.nils, (I 0), (I 0)])] (LV.bool y25) := by first | exact fun (hg : (!(!decide (y7.2 = 1))) = true) => c_ref08_Same y7.1 (⟨[], 0, 0⟩ : Tb) _ (gdS hg hy25) | (simpa only [se_map, se_byL, se_len, se_ch, List.length_map] using fun (hg : (!(!decide (y7.2 = 1))) = true) => c_ref08_Same y7.1 (⟨[], 0, 0⟩ : Tb) _ (gdS hg hy25)) | exact fun (hg : (!(!decide (y7.2 = 1))) = true) => CallP.up (c_ref08_Same y7.1 (⟨[], 0, 0⟩ : Tb) _ (gdS hg hy25)) upT
   repeat' first | exact rA _ | refine parkI ?_ | (refine ⟨_, c26, ?_⟩; conv => whnf) | (refine W.drawn TT_ok hmix1 rfl ?_; conv => whnf) | exact clA _ | (refine And.intro ?_ ?_ <;> conv => whnf) | exact clG _ | (refine gand ?_ h; assumption) | exact clN _ | fail
   refine parkE (fun hc => ?_) (fun hc => ?_)
   ·replace h := condT hc h
    conv => whnf
    have e := Option.some.inj h
    subst e
    repeat' first | exact rA _ | (refine W.drawn TT_ok hmix1 rfl ?_; conv => whnf) | exact clA _ | (refine And.intro ?_ ?_ <;> conv => whnf) | exact clG _ | (refine gand ?_ h; assumption) | exact clN _ | fail
   ·replace h := condF hc h
    conv => whnf
    replace h := bindS h
    obtain ⟨y27, hy27, h⟩ := h
    have c28 := c_ref08_Port a2 _ hy27
    repeat' first | exact rA _ | refine parkI ?_ | (refine CallP.use c28 ?_; conv => whnf) | (refine ⟨_, _, CallP.at c28, ?_⟩; conv => whnf) | (refine ⟨_, fun _ => c28, ?_⟩; conv => whnf) | (refine W.drawn TT_ok hmix1 rfl ?_; conv => whnf) | exact clA _ | (refine And.intro ?_ ?_ <;> conv => whnf) | exact clG _ | (refine gand ?_ h; assumption) | exact clN _ | fail
    refine parkE (fun hc => ?_) (fun hc => ?_)
    ·replace h := condT hc h
     conv => whnf
     replace h := bindS h
     obtain ⟨y29, hy29, h⟩ := h
     have c30 : (!(!decide (y9.2 = 1))) = true → CallP Tryz.prog 11 [(LV.agg [(LV.ro 1 (y9.1.Buckets.map (roC 4 EnC))), (I y9.1.Slots), (I y9.1.Age)]), (LV.agg [LV.nils, (I 0), (I 0)])] (LV.bool y29) := by first | exact fun (hg : (!(!decide (y9.2 = 1))) = true) => c_ref08_Same y9.1 (⟨[], 0, 0⟩ : Tb) _ (gdS hg hy29) | (simpa only [se_map, se_byL, se_len, se_ch, List.length_map] using fun (hg : (!(!decide (y9.2 = 1))) = true) => c_ref08_Same y9.1 (⟨[], 0, 0⟩ : Tb) _ (gdS hg hy29)) | exact fun (hg : (!(!decide (y9.2 = 1))) = true) => CallP.up (c_ref08_Same y9.1 (⟨[], 0, 0⟩ : Tb) _ (gdS hg hy29)) upT
     repeat' first | exact rA _ | refine parkI ?_ | (refine ⟨_, c30, ?_⟩; conv => whnf) | (refine W.drawn TT_ok hmix1 rfl ?_; conv => whnf) | exact clA _ | (refine And.intro ?_ ?_ <;> conv => whnf) | exact clG _ | (refine gand ?_ h; assumption) | exact clN _ | fail
     refine parkE (fun hc => ?_) (fun hc => ?_)
     ·replace h := condT hc h
      conv => whnf
      have e := Option.some.inj h
      subst e
      repeat' first | exact rA _ | (refine W.drawn TT_ok hmix1 rfl ?_; conv => whnf) | exact clA _ | (refine And.intro ?_ ?_ <;> conv => whnf) | exact clG _ | (refine gand ?_ h; assumption) | exact clN _ | fail
     ·replace h := condF hc h
      conv => whnf
      replace h := bindS h
      obtain ⟨y31, hy31, h⟩ := h
      have c32 := c_ref08_Mac a1 _ hy31
      repeat' first | exact rA _ | refine parkI ?_ | (refine CallP.use c32 ?_; conv => whnf) | (refine ⟨_, _, CallP.at c32, ?_⟩; conv => whnf) | (refine ⟨_, fun _ => c32, ?_⟩; conv => whnf) | (refine W.drawn TT_ok hmix1 rfl ?_; conv => whnf) | exact clA _ | (refine And.intro ?_ ?_ <;> conv => whnf) | exact clG _ | (refine gand ?_ h; assumption) | exact clN _ | fail
      refine parkE (fun hc => ?_) (fun hc => ?_)
      ·replace h := condT hc h
       conv => whnf
       replace h := bindS h
       obtain ⟨y33, hy33, h⟩ := h
       have c34 := c_law08_alive  _ hy33
       replace h := bindS h
       obtain ⟨y35, hy35, h⟩ := h
       have c36 : (bif (bif y33 then (decide (y3.2 = 1)) else false) then (decide (y5.2 = 1)) else false) = true → CallP Tryz.prog 11 [(LV.agg [(LV.ro 1 (y3.1.Buckets.map (roC 4 EnC))), (I y3.1.Slots), (I y3.1.Age)]), (LV.agg [LV.nils, (I 0), (I 0)])] (LV.bool y35) := by first | exact fun (hg : (bif (bif y33 then (decide (y3.2 = 1)) else false) then (decide (y5.2 = 1)) else false) = true) => c_ref08_Same y3.1 (⟨[], 0, 0⟩ : Tb) _ (gdS hg hy35) | (simpa only [se_map, se_byL, se_len, se_ch, List.length_map] using fun (hg : (bif (bif y33 then (decide (y3.2 = 1)) else false) then (decide (y5.2 = 1)) else false) = true) => c_ref08_Same y3.1 (⟨[], 0, 0⟩ : Tb) _ (gdS hg hy35)) | exact fun (hg : (bif (bif y33 then (decide (y3.2 = 1)) else false) then (decide (y5.2 = 1)) else false) = true) => CallP.up (c_ref08_Same y3.1 (⟨[], 0, 0⟩ : Tb) _ (gdS hg hy35)) upT
       replace h := bindS h
       obtain ⟨y37, hy37, h⟩ := h
       have c38 : (bif (bif (bif y33 then (decide (y3.2 = 1)) else false) then (decide (y5.2 = 1)) else false) then y35 else false) = true → CallP Tryz.prog 11 [(LV.agg [(LV.ro 1 (y5.1.Buckets.map (roC 4 EnC))), (I y5.1.Slots), (I y5.1.Age)]), (LV.agg [LV.nils, (I 0), (I 0)])] (LV.bool y37) := by first | exact fun (hg : (bif (bif (bif y33 then (decide (y3.2 = 1)) else false) then (decide (y5.2 = 1)) else false) then y35 else false) = true) => c_ref08_Same y5.1 (⟨[], 0, 0⟩ : Tb) _ (gdS hg hy37) | (simpa only [se_map, se_byL, se_len, se_ch, List.length_map] using fun (hg : (bif (bif (bif y33 then (decide (y3.2 = 1)) else false) then (decide (y5.2 = 1)) else false) then y35 else false) = true) => c_ref08_Same y5.1 (⟨[], 0, 0⟩ : Tb) _ (gdS hg hy37)) | exact fun (hg : (bif (bif (bif y33 then (decide (y3.2 = 1)) else false) then (decide (y5.2 = 1)) else false) then y35 else false) = true) => CallP.up (c_ref08_Same y5.1 (⟨[], 0, 0⟩ : Tb) _ (gdS hg hy37)) upT
       have e := Option.some.inj h
       subst e
       repeat' first | exact rA _ | (refine ⟨_, c36, ?_⟩; conv => whnf) | (refine ⟨_, c38, ?_⟩; conv => whnf) | (refine CallP.use c34 ?_; conv => whnf) | (refine ⟨_, _, CallP.at c34, ?_⟩; conv => whnf) | (refine ⟨_, fun _ => c34, ?_⟩; conv => whnf) | (refine W.drawn TT_ok hmix1 rfl ?_; conv => whnf) | exact clA _ | (refine And.intro ?_ ?_ <;> conv => whnf) | exact clG _ | (refine gand ?_ h; assumption) | exact clN _ | fail
      ·replace h := condF hc h
       conv => whnf
       replace h := bindS h
       obtain ⟨y39, hy39, h⟩ := h
       have c40 := c_ref08_Pinned y1 a1 _ hy39
       repeat' first | exact rA _ | refine parkI ?_ | (refine CallP.use c40 ?_; conv => whnf) | (refine ⟨_, _, CallP.at c40, ?_⟩; conv => whnf) | (refine ⟨_, fun _ => c40, ?_⟩; conv => whnf) | (refine W.drawn TT_ok hmix1 rfl ?_; conv => whnf) | exact clA _ | (refine And.intro ?_ ?_ <;> conv => whnf) | exact clG _ | (refine gand ?_ h; assumption) | exact clN _ | fail
       refine parkE (fun hc => ?_) (fun hc => ?_)
       ·replace h := condT hc h
        conv => whnf
        replace h := bindS h
        obtain ⟨y41, hy41, h⟩ := h
        have c42 : (!(!decide (y5.2 = 4))) = true → CallP Tryz.prog 11 [(LV.agg [(LV.ro 1 (y5.1.Buckets.map (roC 4 EnC))), (I y5.1.Slots), (I y5.1.Age)]), (LV.agg [LV.nils, (I 0), (I 0)])] (LV.bool y41) := by first | exact fun (hg : (!(!decide (y5.2 = 4))) = true) => c_ref08_Same y5.1 (⟨[], 0, 0⟩ : Tb) _ (gdS hg hy41) | (simpa only [se_map, se_byL, se_len, se_ch, List.length_map] using fun (hg : (!(!decide (y5.2 = 4))) = true) => c_ref08_Same y5.1 (⟨[], 0, 0⟩ : Tb) _ (gdS hg hy41)) | exact fun (hg : (!(!decide (y5.2 = 4))) = true) => CallP.up (c_ref08_Same y5.1 (⟨[], 0, 0⟩ : Tb) _ (gdS hg hy41)) upT
        repeat' first | exact rA _ | refine parkI ?_ | (refine ⟨_, c42, ?_⟩; conv => whnf) | (refine W.drawn TT_ok hmix1 rfl ?_; conv => whnf) | exact clA _ | (refine And.intro ?_ ?_ <;> conv => whnf) | exact clG _ | (refine gand ?_ h; assumption) | exact clN _ | fail
        refine parkE (fun hc => ?_) (fun hc => ?_)
        ·replace h := condT hc h
         conv => whnf
         have e := Option.some.inj h
         subst e
         repeat' first | exact rA _ | (refine W.drawn TT_ok hmix1 rfl ?_; conv => whnf) | exact clA _ | (refine And.intro ?_ ?_ <;> conv => whnf) | exact clG _ | (refine gand ?_ h; assumption) | exact clN _ | fail
        ·replace h := condF hc h
         conv => whnf
         repeat' first | exact rA _ | refine parkI ?_ | (refine CallP.use c28 ?_; conv => whnf) | (refine ⟨_, _, CallP.at c28, ?_⟩; conv => whnf) | (refine ⟨_, fun _ => c28, ?_⟩; conv => whnf) | (refine W.drawn TT_ok hmix1 rfl ?_; conv => whnf) | exact clA _ | (refine And.intro ?_ ?_ <;> conv => whnf) | exact clG _ | (refine gand ?_ h; assumption) | exact clN _ | fail
         refine parkE (fun hc => ?_) (fun hc => ?_)
         ·replace h := condT hc h
          conv => whnf
          replace h := bindS h
          obtain ⟨y43, hy43, h⟩ := h
          have c44 := c_law08_alive  _ hy43
          replace h := bindS h
          obtain ⟨y45, hy45, h⟩ := h
          have c46 : (bif y43 then (decide (y3.2 = 1)) else false) = true → CallP Tryz.prog 11 [(LV.agg [(LV.ro 1 (y3.1.Buckets.map (roC 4 EnC))), (I y3.1.Slots), (I y3.1.Age)]), (LV.agg [LV.nils, (I 0), (I 0)])] (LV.bool y45) := by first | exact fun (hg : (bif y43 then (decide (y3.2 = 1)) else false) = true) => c_ref08_Same y3.1 (⟨[], 0, 0⟩ : Tb) _ (gdS hg hy45) | (simpa only [se_map, se_byL, se_len, se_ch, List.length_map] using fun (hg : (bif y43 then (decide (y3.2 = 1)) else false) = true) => c_ref08_Same y3.1 (⟨[], 0, 0⟩ : Tb) _ (gdS hg hy45)) | exact fun (hg : (bif y43 then (decide (y3.2 = 1)) else false) = true) => CallP.up (c_ref08_Same y3.1 (⟨[], 0, 0⟩ : Tb) _ (gdS hg hy45)) upT
          have e := Option.some.inj h
          subst e
          repeat' first | exact rA _ | (refine ⟨_, c46, ?_⟩; conv => whnf) | (refine CallP.use c44 ?_; conv => whnf) | (refine ⟨_, _, CallP.at c44, ?_⟩; conv => whnf) | (refine ⟨_, fun _ => c44, ?_⟩; conv => whnf) | (refine W.drawn TT_ok hmix1 rfl ?_; conv => whnf) | exact clA _ | (refine And.intro ?_ ?_ <;> conv => whnf) | exact clG _ | (refine gand ?_ h; assumption) | exact clN _ | fail
         ·replace h := condF hc h
          conv => whnf
          replace h := bindS h
          obtain ⟨y47, hy47, h⟩ := h
          have c48 := c_ref08_Pin y1 a1 a2 _ hy47
          repeat' first | exact rA _ | refine parkI ?_ | (refine CallP.use c48 ?_; conv => whnf) | (refine ⟨_, _, CallP.at c48, ?_⟩; conv => whnf) | (refine ⟨_, fun _ => c48, ?_⟩; conv => whnf) | (refine W.drawn TT_ok hmix1 rfl ?_; conv => whnf) | exact clA _ | (refine And.intro ?_ ?_ <;> conv => whnf) | exact clG _ | (refine gand ?_ h; assumption) | exact clN _ | fail
       ·replace h := condF hc h
        conv => whnf
        replace h := bindS h
        obtain ⟨y57, hy57, h⟩ := h
        have c58 := fun (hg : (!(!decide (y5.2 = 0))) = true) => c_ref08_Unpin y1 a1 _ (gdS hg hy57)
        replace h := bindS h
        obtain ⟨y59, hy59, h⟩ := h
        have c60 := fun (hg : (!(!decide (y5.2 = 0))) = true) => c_ref08_Same y5.1 y57 _ (gdS hg hy59)
        repeat' first | exact rA _ | refine parkI ?_ | (refine ⟨_, c58, ?_⟩; conv => whnf) | (refine ⟨_, c60, ?_⟩; conv => whnf) | (refine W.drawn TT_ok hmix1 rfl ?_; conv => whnf) | exact clA _ | (refine And.intro ?_ ?_ <;> conv => whnf) | exact clG _ | (refine gand ?_ h; assumption) | exact clN _ | fail
        refine parkE (fun hc => ?_) (fun hc => ?_)
        ·replace h := condT hc h
         conv => whnf
         have e := Option.some.inj h
         subst e
         repeat' first | exact rA _ | (refine W.drawn TT_ok hmix1 rfl ?_; conv => whnf) | exact clA _ | (refine And.intro ?_ ?_ <;> conv => whnf) | exact clG _ | (refine gand ?_ h; assumption) | exact clN _ | fail
        ·replace h := condF hc h
         conv => whnf
         repeat' first | exact rA _ | refine parkI ?_ | (refine CallP.use c28 ?_; conv => whnf) | (refine ⟨_, _, CallP.at c28, ?_⟩; conv => whnf) | (refine ⟨_, fun _ => c28, ?_⟩; conv => whnf) | (refine W.drawn TT_ok hmix1 rfl ?_; conv => whnf) | exact clA _ | (refine And.intro ?_ ?_ <;> conv => whnf) | exact clG _ | (refine gand ?_ h; assumption) | exact clN _ | fail
         refine parkE (fun hc => ?_) (fun hc => ?_)
         ·replace h := condT hc h
          conv => whnf
          replace h := bindS h
          obtain ⟨y61, hy61, h⟩ := h
          have c62 := c_law08_alive  _ hy61
          replace h := bindS h
          obtain ⟨y63, hy63, h⟩ := h
          have c64 : (bif y61 then (decide (y3.2 = 1)) else false) = true → CallP Tryz.prog 11 [(LV.agg [(LV.ro 1 (y3.1.Buckets.map (roC 4 EnC))), (I y3.1.Slots), (I y3.1.Age)]), (LV.agg [LV.nils, (I 0), (I 0)])] (LV.bool y63) := by first | exact fun (hg : (bif y61 then (decide (y3.2 = 1)) else false) = true) => c_ref08_Same y3.1 (⟨[], 0, 0⟩ : Tb) _ (gdS hg hy63) | (simpa only [se_map, se_byL, se_len, se_ch, List.length_map] using fun (hg : (bif y61 then (decide (y3.2 = 1)) else false) = true) => c_ref08_Same y3.1 (⟨[], 0, 0⟩ : Tb) _ (gdS hg hy63)) | exact fun (hg : (bif y61 then (decide (y3.2 = 1)) else false) = true) => CallP.up (c_ref08_Same y3.1 (⟨[], 0, 0⟩ : Tb) _ (gdS hg hy63)) upT
          have e := Option.some.inj h
          subst e
          repeat' first | exact rA _ | (refine ⟨_, c64, ?_⟩; conv => whnf) | (refine CallP.use c62 ?_; conv => whnf) | (refine ⟨_, _, CallP.at c62, ?_⟩; conv => whnf) | (refine ⟨_, fun _ => c62, ?_⟩; conv => whnf) | (refine W.drawn TT_ok hmix1 rfl ?_; conv => whnf) | exact clA _ | (refine And.intro ?_ ?_ <;> conv => whnf) | exact clG _ | (refine gand ?_ h; assumption) | exact clN _ | fail
         ·replace h := condF hc h
          conv => whnf
          replace h := bindS h
          obtain ⟨y65, hy65, h⟩ := h
          have c66 := c_ref08_Pin y1 a1 a2 _ hy65
          repeat' first | exact rA _ | refine parkI ?_ | (refine CallP.use c66 ?_; conv => whnf) | (refine ⟨_, _, CallP.at c66, ?_⟩; conv => whnf) | (refine ⟨_, fun _ => c66, ?_⟩; conv => whnf) | (refine W.drawn TT_ok hmix1 rfl ?_; conv => whnf) | exact clA _ | (refine And.intro ?_ ?_ <;> conv => whnf) | exact clG _ | (refine gand ?_ h; assumption) | exact clN _ | fail
    ·replace h := condF hc h
     conv => whnf
     replace h := bindS h
     obtain ⟨y75, hy75, h⟩ := h
     have c76 := fun (hg : (!(!decide (y9.2 = 0))) = true) => c_ref08_Flush y1 a2 _ (gdS hg hy75)
     replace h := bindS h
     obtain ⟨y77, hy77, h⟩ := h
     have c78 := fun (hg : (!(!decide (y9.2 = 0))) = true) => c_ref08_Same y9.1 y75 _ (gdS hg hy77)
     repeat' first | exact rA _ | refine parkI ?_ | (refine ⟨_, c76, ?_⟩; conv => whnf) | (refine ⟨_, c78, ?_⟩; conv => whnf) | (refine W.drawn TT_ok hmix1 rfl ?_; conv => whnf) | exact clA _ | (refine And.intro ?_ ?_ <;> conv => whnf) | exact clG _ | (refine gand ?_ h; assumption) | exact clN _ | fail
     refine parkE (fun hc => ?_) (fun hc => ?_)
     ·replace h := condT hc h
      conv => whnf
      have e := Option.some.inj h
      subst e
      repeat' first | exact rA _ | (refine W.drawn TT_ok hmix1 rfl ?_; conv => whnf) | exact clA _ | (refine And.intro ?_ ?_ <;> conv => whnf) | exact clG _ | (refine gand ?_ h; assumption) | exact clN _ | fail
     ·replace h := condF hc h
      conv => whnf
      replace h := bindS h
      obtain ⟨y79, hy79, h⟩ := h
      have c80 := c_ref08_Mac a1 _ hy79
      repeat' first | exact rA _ | refine parkI ?_ | (refine CallP.use c80 ?_; conv => whnf) | (refine ⟨_, _, CallP.at c80, ?_⟩; conv => whnf) | (refine ⟨_, fun _ => c80, ?_⟩; conv => whnf) | (refine W.drawn TT_ok hmix1 rfl ?_; conv => whnf) | exact clA _ | (refine And.intro ?_ ?_ <;> conv => whnf) | exact clG _ | (refine gand ?_ h; assumption) | exact clN _ | fail
      refine parkE (fun hc => ?_) (fun hc => ?_)
      ·replace h := condT hc h
       conv => whnf
       replace h := bindS h
       obtain ⟨y81, hy81, h⟩ := h
       have c82 := c_law08_alive  _ hy81
       replace h := bindS h
       obtain ⟨y83, hy83, h⟩ := h
       have c84 : (bif (bif y81 then (decide (y3.2 = 1)) else false) then (decide (y5.2 = 1)) else false) = true → CallP Tryz.prog 11 [(LV.agg [(LV.ro 1 (y3.1.Buckets.map (roC 4 EnC))), (I y3.1.Slots), (I y3.1.Age)]), (LV.agg [LV.nils, (I 0), (I 0)])] (LV.bool y83) := by first | exact fun (hg : (bif (bif y81 then (decide (y3.2 = 1)) else false) then (decide (y5.2 = 1)) else false) = true) => c_ref08_Same y3.1 (⟨[], 0, 0⟩ : Tb) _ (gdS hg hy83) | (simpa only [se_map, se_byL, se_len, se_ch, List.length_map] using fun (hg : (bif (bif y81 then (decide (y3.2 = 1)) else false) then (decide (y5.2 = 1)) else false) = true) => c_ref08_Same y3.1 (⟨[], 0, 0⟩ : Tb) _ (gdS hg hy83)) | exact fun (hg : (bif (bif y81 then (decide (y3.2 = 1)) else false) then (decide (y5.2 = 1)) else false) = true) => CallP.up (c_ref08_Same y3.1 (⟨[], 0, 0⟩ : Tb) _ (gdS hg hy83)) upT
       replace h := bindS h
       obtain ⟨y85, hy85, h⟩ := h
       have c86 : (bif (bif (bif y81 then (decide (y3.2 = 1)) else false) then (decide (y5.2 = 1)) else false) then y83 else false) = true → CallP Tryz.prog 11 [(LV.agg [(LV.ro 1 (y5.1.Buckets.map (roC 4 EnC))), (I y5.1.Slots), (I y5.1.Age)]), (LV.agg [LV.nils, (I 0), (I 0)])] (LV.bool y85) := by first | exact fun (hg : (bif (bif (bif y81 then (decide (y3.2 = 1)) else false) then (decide (y5.2 = 1)) else false) then y83 else false) = true) => c_ref08_Same y5.1 (⟨[], 0, 0⟩ : Tb) _ (gdS hg hy85) | (simpa only [se_map, se_byL, se_len, se_ch, List.length_map] using fun (hg : (bif (bif (bif y81 then (decide (y3.2 = 1)) else false) then (decide (y5.2 = 1)) else false) then y83 else false) = true) => c_ref08_Same y5.1 (⟨[], 0, 0⟩ : Tb) _ (gdS hg hy85)) | exact fun (hg : (bif (bif (bif y81 then (decide (y3.2 = 1)) else false) then (decide (y5.2 = 1)) else false) then y83 else false) = true) => CallP.up (c_ref08_Same y5.1 (⟨[], 0, 0⟩ : Tb) _ (gdS hg hy85)) upT
       have e := Option.some.inj h
       subst e
       repeat' first | exact rA _ | (refine ⟨_, c84, ?_⟩; conv => whnf) | (refine ⟨_, c86, ?_⟩; conv => whnf) | (refine CallP.use c82 ?_; conv => whnf) | (refine ⟨_, _, CallP.at c82, ?_⟩; conv => whnf) | (refine ⟨_, fun _ => c82, ?_⟩; conv => whnf) | (refine W.drawn TT_ok hmix1 rfl ?_; conv => whnf) | exact clA _ | (refine And.intro ?_ ?_ <;> conv => whnf) | exact clG _ | (refine gand ?_ h; assumption) | exact clN _ | fail
      ·replace h := condF hc h
       conv => whnf
       replace h := bindS h
       obtain ⟨y87, hy87, h⟩ := h
       have c88 := c_ref08_Pinned y1 a1 _ hy87
       repeat' first | exact rA _ | refine parkI ?_ | (refine CallP.use c88 ?_; conv => whnf) | (refine ⟨_, _, CallP.at c88, ?_⟩; conv => whnf) | (refine ⟨_, fun _ => c88, ?_⟩; conv => whnf) | (refine W.drawn TT_ok hmix1 rfl ?_; conv => whnf) | exact clA _ | (refine And.intro ?_ ?_ <;> conv => whnf) | exact clG _ | (refine gand ?_ h; assumption) | exact clN _ | fail
       refine parkE (fun hc => ?_) (fun hc => ?_)
       ·replace h := condT hc h
        conv => whnf
        replace h := bindS h
        obtain ⟨y89, hy89, h⟩ := h
        have c90 : (!(!decide (y5.2 = 4))) = true → CallP Tryz.prog 11 [(LV.agg [(LV.ro 1 (y5.1.Buckets.map (roC 4 EnC))), (I y5.1.Slots), (I y5.1.Age)]), (LV.agg [LV.nils, (I 0), (I 0)])] (LV.bool y89) := by first | exact fun (hg : (!(!decide (y5.2 = 4))) = true) => c_ref08_Same y5.1 (⟨[], 0, 0⟩ : Tb) _ (gdS hg hy89) | (simpa only [se_map, se_byL, se_len, se_ch, List.length_map] using fun (hg : (!(!decide (y5.2 = 4))) = true) => c_ref08_Same y5.1 (⟨[], 0, 0⟩ : Tb) _ (gdS hg hy89)) | exact fun (hg : (!(!decide (y5.2 = 4))) = true) => CallP.up (c_ref08_Same y5.1 (⟨[], 0, 0⟩ : Tb) _ (gdS hg hy89)) upT
        repeat' first | exact rA _ | refine parkI ?_ | (refine ⟨_, c90, ?_⟩; conv => whnf) | (refine W.drawn TT_ok hmix1 rfl ?_; conv => whnf) | exact clA _ | (refine And.intro ?_ ?_ <;> conv => whnf) | exact clG _ | (refine gand ?_ h; assumption) | exact clN _ | fail
        refine parkE (fun hc => ?_) (fun hc => ?_)
        ·replace h := condT hc h
         conv => whnf
         have e := Option.some.inj h
         subst e
         repeat' first | exact rA _ | (refine W.drawn TT_ok hmix1 rfl ?_; conv => whnf) | exact clA _ | (refine And.intro ?_ ?_ <;> conv => whnf) | exact clG _ | (refine gand ?_ h; assumption) | exact clN _ | fail
        ·replace h := condF hc h
         conv => whnf
         repeat' first | exact rA _ | refine parkI ?_ | (refine CallP.use c28 ?_; conv => whnf) | (refine ⟨_, _, CallP.at c28, ?_⟩; conv => whnf) | (refine ⟨_, fun _ => c28, ?_⟩; conv => whnf) | (refine W.drawn TT_ok hmix1 rfl ?_; conv => whnf) | exact clA _ | (refine And.intro ?_ ?_ <;> conv => whnf) | exact clG _ | (refine gand ?_ h; assumption) | exact clN _ | fail
         refine parkE (fun hc => ?_) (fun hc => ?_)
         ·replace h := condT hc h
          conv => whnf
          replace h := bindS h
          obtain ⟨y91, hy91, h⟩ := h
          have c92 := c_law08_alive  _ hy91
          replace h := bindS h
          obtain ⟨y93, hy93, h⟩ := h
          have c94 : (bif y91 then (decide (y3.2 = 1)) else false) = true → CallP Tryz.prog 11 [(LV.agg [(LV.ro 1 (y3.1.Buckets.map (roC 4 EnC))), (I y3.1.Slots), (I y3.1.Age)]), (LV.agg [LV.nils, (I 0), (I 0)])] (LV.bool y93) := by first | exact fun (hg : (bif y91 then (decide (y3.2 = 1)) else false) = true) => c_ref08_Same y3.1 (⟨[], 0, 0⟩ : Tb) _ (gdS hg hy93) | (simpa only [se_map, se_byL, se_len, se_ch, List.length_map] using fun (hg : (bif y91 then (decide (y3.2 = 1)) else false) = true) => c_ref08_Same y3.1 (⟨[], 0, 0⟩ : Tb) _ (gdS hg hy93)) | exact fun (hg : (bif y91 then (decide (y3.2 = 1)) else false) = true) => CallP.up (c_ref08_Same y3.1 (⟨[], 0, 0⟩ : Tb) _ (gdS hg hy93)) upT
          have e := Option.some.inj h
          subst e
          repeat' first | exact rA _ | (refine ⟨_, c94, ?_⟩; conv => whnf) | (refine CallP.use c92 ?_; conv => whnf) | (refine ⟨_, _, CallP.at c92, ?_⟩; conv => whnf) | (refine ⟨_, fun _ => c92, ?_⟩; conv => whnf) | (refine W.drawn TT_ok hmix1 rfl ?_; conv => whnf) | exact clA _ | (refine And.intro ?_ ?_ <;> conv => whnf) | exact clG _ | (refine gand ?_ h; assumption) | exact clN _ | fail
         ·replace h := condF hc h
          conv => whnf
          replace h := bindS h
          obtain ⟨y95, hy95, h⟩ := h
          have c96 := c_ref08_Pin y1 a1 a2 _ hy95
          repeat' first | exact rA _ | refine parkI ?_ | (refine CallP.use c96 ?_; conv => whnf) | (refine ⟨_, _, CallP.at c96, ?_⟩; conv => whnf) | (refine ⟨_, fun _ => c96, ?_⟩; conv => whnf) | (refine W.drawn TT_ok hmix1 rfl ?_; conv => whnf) | exact clA _ | (refine And.intro ?_ ?_ <;> conv => whnf) | exact clG _ | (refine gand ?_ h; assumption) | exact clN _ | fail
          refine parkE (fun hc => ?_) (fun hc => ?_)
          ·replace h := condT hc h
           conv => whnf
           replace h := bindS h
           obtain ⟨y97, hy97, h⟩ := h
           have c98 := c_law08_alive  _ hy97
           replace h := bindS h
           obtain ⟨y99, hy99, h⟩ := h
           have c100 : (bif y97 then (decide (y3.2 = 5)) else false) = true → CallP Tryz.prog 11 [(LV.agg [(LV.ro 1 (y3.1.Buckets.map (roC 4 EnC))), (I y3.1.Slots), (I y3.1.Age)]), (LV.agg [LV.nils, (I 0), (I 0)])] (LV.bool y99) := by first | exact fun (hg : (bif y97 then (decide (y3.2 = 5)) else false) = true) => c_ref08_Same y3.1 (⟨[], 0, 0⟩ : Tb) _ (gdS hg hy99) | (simpa only [se_map, se_byL, se_len, se_ch, List.length_map] using fun (hg : (bif y97 then (decide (y3.2 = 5)) else false) = true) => c_ref08_Same y3.1 (⟨[], 0, 0⟩ : Tb) _ (gdS hg hy99)) | exact fun (hg : (bif y97 then (decide (y3.2 = 5)) else false) = true) => CallP.up (c_ref08_Same y3.1 (⟨[], 0, 0⟩ : Tb) _ (gdS hg hy99)) upT
           have e := Option.some.inj h
           subst e
           repeat' first | exact rA _ | (refine ⟨_, c100, ?_⟩; conv => whnf) | (refine CallP.use c98 ?_; conv => whnf) | (refine ⟨_, _, CallP.at c98, ?_⟩; conv => whnf) | (refine ⟨_, fun _ => c98, ?_⟩; conv => whnf) | (refine W.drawn TT_ok hmix1 rfl ?_; conv => whnf) | exact clA _ | (refine And.intro ?_ ?_ <;> conv => whnf) | exact clG _ | (refine gand ?_ h; assumption) | exact clN _ | fail
          ·replace h := condF hc h
           conv => whnf
           replace h := bindS h
           obtain ⟨y101, hy101, h⟩ := h
           have c102 := c_law08_alive  _ hy101
           replace h := bindS h
           obtain ⟨y103, hy103, h⟩ := h
           have c104 := fun (hg : (bif y101 then (decide (y3.2 = 0)) else false) = true) => c_ref08_Same y3.1 y95.1 _ (gdS hg hy103)
           have e := Option.some.inj h
           subst e
           repeat' first | exact rA _ | (refine ⟨_, c104, ?_⟩; conv => whnf) | (refine CallP.use c102 ?_; conv => whnf) | (refine ⟨_, _, CallP.at c102, ?_⟩; conv => whnf) | (refine ⟨_, fun _ => c102, ?_⟩; conv => whnf) | (refine W.drawn TT_ok hmix1 rfl ?_; conv => whnf) | exact clA _ | (refine And.intro ?_ ?_ <;> conv => whnf) | exact clG _ | (refine gand ?_ h; assumption) | exact clN _ | fail
       ·replace h := condF hc h
        conv => whnf
        replace h := bindS h
        obtain ⟨y105, hy105, h⟩ := h
        have c106 := fun (hg : (!(!decide (y5.2 = 0))) = true) => c_ref08_Unpin y1 a1 _ (gdS hg hy105)
        replace h := bindS h
        obtain ⟨y107, hy107, h⟩ := h
        have c108 := fun (hg : (!(!decide (y5.2 = 0))) = true) => c_ref08_Same y5.1 y105 _ (gdS hg hy107)
        repeat' first | exact rA _ | refine parkI ?_ | (refine ⟨_, c106, ?_⟩; conv => whnf) | (refine ⟨_, c108, ?_⟩; conv => whnf) | (refine W.drawn TT_ok hmix1 rfl ?_; conv => whnf) | exact clA _ | (refine And.intro ?_ ?_ <;> conv => whnf) | exact clG _ | (refine gand ?_ h; assumption) | exact clN _ | fail
        refine parkE (fun hc => ?_) (fun hc => ?_)
        ·replace h := condT hc h
         conv => whnf
         have e := Option.some.inj h
         subst e
         repeat' first | exact rA _ | (refine W.drawn TT_ok hmix1 rfl ?_; conv => whnf) | exact clA _ | (refine And.intro ?_ ?_ <;> conv => whnf) | exact clG _ | (refine gand ?_ h; assumption) | exact clN _ | fail
        ·replace h := condF hc h
         conv => whnf
         repeat' first | exact rA _ | refine parkI ?_ | (refine CallP.use c28 ?_; conv => whnf) | (refine ⟨_, _, CallP.at c28, ?_⟩; conv => whnf) | (refine ⟨_, fun _ => c28, ?_⟩; conv => whnf) | (refine W.drawn TT_ok hmix1 rfl ?_; conv => whnf) | exact clA _ | (refine And.intro ?_ ?_ <;> conv => whnf) | exact clG _ | (refine gand ?_ h; assumption) | exact clN _ | fail
         refine parkE (fun hc => ?_) (fun hc => ?_)
         ·replace h := condT hc h
          conv => whnf
          replace h := bindS h
          obtain ⟨y109, hy109, h⟩ := h
          have c110 := c_law08_alive  _ hy109
          replace h := bindS h
          obtain ⟨y111, hy111, h⟩ := h
          have c112 : (bif y109 then (decide (y3.2 = 1)) else false) = true → CallP Tryz.prog 11 [(LV.agg [(LV.ro 1 (y3.1.Buckets.map (roC 4 EnC))), (I y3.1.Slots), (I y3.1.Age)]), (LV.agg [LV.nils, (I 0), (I 0)])] (LV.bool y111) := by first | exact fun (hg : (bif y109 then (decide (y3.2 = 1)) else false) = true) => c_ref08_Same y3.1 (⟨[], 0, 0⟩ : Tb) _ (gdS hg hy111) | (simpa only [se_map, se_byL, se_len, se_ch, List.length_map] using fun (hg : (bif y109 then (decide (y3.2 = 1)) else false) = true) => c_ref08_Same y3.1 (⟨[], 0, 0⟩ : Tb) _ (gdS hg hy111)) | exact fun (hg : (bif y109 then (decide (y3.2 = 1)) else false) = true) => CallP.up (c_ref08_Same y3.1 (⟨[], 0, 0⟩ : Tb) _ (gdS hg hy111)) upT
          have e := Option.some.inj h
          subst e
          repeat' first | exact rA _ | (refine ⟨_, c112, ?_⟩; conv => whnf) | (refine CallP.use c110 ?_; conv => whnf) | (refine ⟨_, _, CallP.at c110, ?_⟩; conv => whnf) | (refine ⟨_, fun _ => c110, ?_⟩; conv => whnf) | (refine W.drawn TT_ok hmix1 rfl ?_; conv => whnf) | exact clA _ | (refine And.intro ?_ ?_ <;> conv => whnf) | exact clG _ | (refine gand ?_ h; assumption) | exact clN _ | fail
         ·replace h := condF hc h
          conv => whnf
          replace h := bindS h
          obtain ⟨y113, hy113, h⟩ := h
          have c114 := c_ref08_Pin y1 a1 a2 _ hy113
          repeat' first | exact rA _ | refine parkI ?_ | (refine CallP.use c114 ?_; conv => whnf) | (refine ⟨_, _, CallP.at c114, ?_⟩; conv => whnf) | (refine ⟨_, fun _ => c114, ?_⟩; conv => whnf) | (refine W.drawn TT_ok hmix1 rfl ?_; conv => whnf) | exact clA _ | (refine And.intro ?_ ?_ <;> conv => whnf) | exact clG _ | (refine gand ?_ h; assumption) | exact clN _ | fail
          refine parkE (fun hc => ?_) (fun hc => ?_)
          ·replace h := condT hc h
           conv => whnf
           replace h := bindS h
           obtain ⟨y115, hy115, h⟩ := h
           have c116 := c_law08_alive  _ hy115
           replace h := bindS h
           obtain ⟨y117, hy117, h⟩ := h
           have c118 : (bif y115 then (decide (y3.2 = 5)) else false) = true → CallP Tryz.prog 11 [(LV.agg [(LV.ro 1 (y3.1.Buckets.map (roC 4 EnC))), (I y3.1.Slots), (I y3.1.Age)]), (LV.agg [LV.nils, (I 0), (I 0)])] (LV.bool y117) := by first | exact fun (hg : (bif y115 then (decide (y3.2 = 5)) else false) = true) => c_ref08_Same y3.1 (⟨[], 0, 0⟩ : Tb) _ (gdS hg hy117) | (simpa only [se_map, se_byL, se_len, se_ch, List.length_map] using fun (hg : (bif y115 then (decide (y3.2 = 5)) else false) = true) => c_ref08_Same y3.1 (⟨[], 0, 0⟩ : Tb) _ (gdS hg hy117)) | exact fun (hg : (bif y115 then (decide (y3.2 = 5)) else false) = true) => CallP.up (c_ref08_Same y3.1 (⟨[], 0, 0⟩ : Tb) _ (gdS hg hy117)) upT
           have e := Option.some.inj h
           subst e
           repeat' first | exact rA _ | (refine ⟨_, c118, ?_⟩; conv => whnf) | (refine CallP.use c116 ?_; conv => whnf) | (refine ⟨_, _, CallP.at c116, ?_⟩; conv => whnf) | (refine ⟨_, fun _ => c116, ?_⟩; conv => whnf) | (refine W.drawn TT_ok hmix1 rfl ?_; conv => whnf) | exact clA _ | (refine And.intro ?_ ?_ <;> conv => whnf) | exact clG _ | (refine gand ?_ h; assumption) | exact clN _ | fail
          ·replace h := condF hc h
           conv => whnf
           replace h := bindS h
           obtain ⟨y119, hy119, h⟩ := h
           have c120 := c_law08_alive  _ hy119
           replace h := bindS h
           obtain ⟨y121, hy121, h⟩ := h
           have c122 := fun (hg : (bif y119 then (decide (y3.2 = 0)) else false) = true) => c_ref08_Same y3.1 y113.1 _ (gdS hg hy121)
           have e := Option.some.inj h
           subst e
           repeat' first | exact rA _ | (refine ⟨_, c122, ?_⟩; conv => whnf) | (refine CallP.use c120 ?_; conv => whnf) | (refine ⟨_, _, CallP.at c120, ?_⟩; conv => whnf) | (refine ⟨_, fun _ => c120, ?_⟩; conv => whnf) | (refine W.drawn TT_ok hmix1 rfl ?_; conv => whnf) | exact clA _ | (refine And.intro ?_ ?_ <;> conv => whnf) | exact clG _ | (refine gand ?_ h; assumption) | exact clN _ | fail
  ·replace h := condF hc h
   conv => whnf
   replace h := bindS h
   obtain ⟨y123, hy123, h⟩ := h
   have c124 := fun (hg : (!(!decide (y7.2 = 0))) = true) => c_ref08_Sweep y1 a3 _ (gdS hg hy123)
   replace h := bindS h
   obtain ⟨y125, hy125, h⟩ := h
   have c126 := fun (hg : (!(!decide (y7.2 = 0))) = true) => c_ref08_Same y7.1 y123 _ (gdS hg hy125)
   repeat' first | exact rA _ | refine parkI ?_ | (refine ⟨_, c124, ?_⟩; conv => whnf) | (refine ⟨_, c126, ?_⟩; conv => whnf) | (refine W.drawn TT_ok hmix1 rfl ?_; conv => whnf) | exact clA _ | (refine And.intro ?_ ?_ <;> conv => whnf) | exact clG _ | (refine gand ?_ h; assumption) | exact clN _ | fail
   refine parkE (fun hc => ?_) (fun hc => ?_)
   ·replace h := condT hc h
    conv => whnf
    have e := Option.some.inj h
    subst e
    repeat' first | exact rA _ | (refine W.drawn TT_ok hmix1 rfl ?_; conv => whnf) | exact clA _ | (refine And.intro ?_ ?_ <;> conv => whnf) | exact clG _ | (refine gand ?_ h; assumption) | exact clN _ | fail
   ·replace h := condF hc h
    conv => whnf
    replace h := bindS h
    obtain ⟨y127, hy127, h⟩ := h
    have c128 := c_ref08_Port a2 _ hy127
    repeat' first | exact rA _ | refine parkI ?_ | (refine CallP.use c128 ?_; conv => whnf) | (refine ⟨_, _, CallP.at c128, ?_⟩; conv => whnf) | (refine ⟨_, fun _ => c128, ?_⟩; conv => whnf) | (refine W.drawn TT_ok hmix1 rfl ?_; conv => whnf) | exact clA _ | (refine And.intro ?_ ?_ <;> conv => whnf) | exact clG _ | (refine gand ?_ h; assumption) | exact clN _ | fail
    refine parkE (fun hc => ?_) (fun hc => ?_)
    ·replace h := condT hc h
     conv => whnf
     replace h := bindS h
     obtain ⟨y129, hy129, h⟩ := h
     have c130 : (!(!decide (y9.2 = 1))) = true → CallP Tryz.prog 11 [(LV.agg [(LV.ro 1 (y9.1.Buckets.map (roC 4 EnC))), (I y9.1.Slots), (I y9.1.Age)]), (LV.agg [LV.nils, (I 0), (I 0)])] (LV.bool y129) := by first | exact fun (hg : (!(!decide (y9.2 = 1))) = true) => c_ref08_Same y9.1 (⟨[], 0, 0⟩ : Tb) _ (gdS hg hy129) | (simpa only [se_map, se_byL, se_len, se_ch, List.length_map] using fun (hg : (!(!decide (y9.2 = 1))) = true) => c_ref08_Same y9.1 (⟨[], 0, 0⟩ : Tb) _ (gdS hg hy129)) | exact fun (hg : (!(!decide (y9.2 = 1))) = true) => CallP.up (c_ref08_Same y9.1 (⟨[], 0, 0⟩ : Tb) _ (gdS hg hy129)) upT
     repeat' first | exact rA _ | refine parkI ?_ | (refine ⟨_, c130, ?_⟩; conv => whnf) | (refine W.drawn TT_ok hmix1 rfl ?_; conv => whnf) | exact clA _ | (refine And.intro ?_ ?_ <;> conv => whnf) | exact clG _ | (refine gand ?_ h; assumption) | exact clN _ | fail
     refine parkE (fun hc => ?_) (fun hc => ?_)
     ·replace h := condT hc h
      conv => whnf
      have e := Option.some.inj h
      subst e
      repeat' first | exact rA _ | (refine W.drawn TT_ok hmix1 rfl ?_; conv => whnf) | exact clA _ | (refine And.intro ?_ ?_ <;> conv => whnf) | exact clG _ | (refine gand ?_ h; assumption) | exact clN _ | fail
     ·replace h := condF hc h
      conv => whnf
      replace h := bindS h
      obtain ⟨y131, hy131, h⟩ := h
      have c132 := c_ref08_Mac a1 _ hy131
      repeat' first | exact rA _ | refine parkI ?_ | (refine CallP.use c132 ?_; conv => whnf) | (refine ⟨_, _, CallP.at c132, ?_⟩; conv => whnf) | (refine ⟨_, fun _ => c132, ?_⟩; conv => whnf) | (refine W.drawn TT_ok hmix1 rfl ?_; conv => whnf) | exact clA _ | (refine And.intro ?_ ?_ <;> conv => whnf) | exact clG _ | (refine gand ?_ h; assumption) | exact clN _ | fail
      refine parkE (fun hc => ?_) (fun hc => ?_)
      ·replace h := condT hc h
       conv => whnf
       replace h := bindS h
       obtain ⟨y133, hy133, h⟩ := h
       have c134 := c_law08_alive  _ hy133
       replace h := bindS h
       obtain ⟨y135, hy135, h⟩ := h
       have c136 : (bif (bif y133 then (decide (y3.2 = 1)) else false) then (decide (y5.2 = 1)) else false) = true → CallP Tryz.prog 11 [(LV.agg [(LV.ro 1 (y3.1.Buckets.map (roC 4 EnC))), (I y3.1.Slots), (I y3.1.Age)]), (LV.agg [LV.nils, (I 0), (I 0)])] (LV.bool y135) := by first | exact fun (hg : (bif (bif y133 then (decide (y3.2 = 1)) else false) then (decide (y5.2 = 1)) else false) = true) => c_ref08_Same y3.1 (⟨[], 0, 0⟩ : Tb) _ (gdS hg hy135) | (simpa only [se_map, se_byL, se_len, se_ch, List.length_map] using fun (hg : (bif (bif y133 then (decide (y3.2 = 1)) else false) then (decide (y5.2 = 1)) else false) = true) => c_ref08_Same y3.1 (⟨[], 0, 0⟩ : Tb) _ (gdS hg hy135)) | exact fun (hg : (bif (bif y133 then (decide (y3.2 = 1)) else false) then (decide (y5.2 = 1)) else false) = true) => CallP.up (c_ref08_Same y3.1 (⟨[], 0, 0⟩ : Tb) _ (gdS hg hy135)) upT
       replace h := bindS h
       obtain ⟨y137, hy137, h⟩ := h
       have c138 : (bif (bif (bif y133 then (decide (y3.2 = 1)) else false) then (decide (y5.2 = 1)) else false) then y135 else false) = true → CallP Tryz.prog 11 [(LV.agg [(LV.ro 1 (y5.1.Buckets.map (roC 4 EnC))), (I y5.1.Slots), (I y5.1.Age)]), (LV.agg [LV.nils, (I 0), (I 0)])] (LV.bool y137) := by first | exact fun (hg : (bif (bif (bif y133 then (decide (y3.2 = 1)) else false) then (decide (y5.2 = 1)) else false) then y135 else false) = true) => c_ref08_Same y5.1 (⟨[], 0, 0⟩ : Tb) _ (gdS hg hy137) | (simpa only [se_map, se_byL, se_len, se_ch, List.length_map] using fun (hg : (bif (bif (bif y133 then (decide (y3.2 = 1)) else false) then (decide (y5.2 = 1)) else false) then y135 else false) = true) => c_ref08_Same y5.1 (⟨[], 0, 0⟩ : Tb) _ (gdS hg hy137)) | exact fun (hg : (bif (bif (bif y133 then (decide (y3.2 = 1)) else false) then (decide (y5.2 = 1)) else false) then y135 else false) = true) => CallP.up (c_ref08_Same y5.1 (⟨[], 0, 0⟩ : Tb) _ (gdS hg hy137)) upT
       have e := Option.some.inj h
       subst e
       repeat' first | exact rA _ | (refine ⟨_, c136, ?_⟩; conv => whnf) | (refine ⟨_, c138, ?_⟩; conv => whnf) | (refine CallP.use c134 ?_; conv => whnf) | (refine ⟨_, _, CallP.at c134, ?_⟩; conv => whnf) | (refine ⟨_, fun _ => c134, ?_⟩; conv => whnf) | (refine W.drawn TT_ok hmix1 rfl ?_; conv => whnf) | exact clA _ | (refine And.intro ?_ ?_ <;> conv => whnf) | exact clG _ | (refine gand ?_ h; assumption) | exact clN _ | fail
      ·replace h := condF hc h
       conv => whnf
       replace h := bindS h
       obtain ⟨y139, hy139, h⟩ := h
       have c140 := c_ref08_Pinned y1 a1 _ hy139
       repeat' first | exact rA _ | refine parkI ?_ | (refine CallP.use c140 ?_; conv => whnf) | (refine ⟨_, _, CallP.at c140, ?_⟩; conv => whnf) | (refine ⟨_, fun _ => c140, ?_⟩; conv => whnf) | (refine W.drawn TT_ok hmix1 rfl ?_; conv => whnf) | exact clA _ | (refine And.intro ?_ ?_ <;> conv => whnf) | exact clG _ | (refine gand ?_ h; assumption) | exact clN _ | fail
       refine parkE (fun hc => ?_) (fun hc => ?_)
       ·replace h := condT hc h
        conv => whnf
        replace h := bindS h
        obtain ⟨y141, hy141, h⟩ := h
        have c142 : (!(!decide (y5.2 = 4))) = true → CallP Tryz.prog 11 [(LV.agg [(LV.ro 1 (y5.1.Buckets.map (roC 4 EnC))), (I y5.1.Slots), (I y5.1.Age)]), (LV.agg [LV.nils, (I 0), (I 0)])] (LV.bool y141) := by first | exact fun (hg : (!(!decide (y5.2 = 4))) = true) => c_ref08_Same y5.1 (⟨[], 0, 0⟩ : Tb) _ (gdS hg hy141) | (simpa only [se_map, se_byL, se_len, se_ch, List.length_map] using fun (hg : (!(!decide (y5.2 = 4))) = true) => c_ref08_Same y5.1 (⟨[], 0, 0⟩ : Tb) _ (gdS hg hy141)) | exact fun (hg : (!(!decide (y5.2 = 4))) = true) => CallP.up (c_ref08_Same y5.1 (⟨[], 0, 0⟩ : Tb) _ (gdS hg hy141)) upT
        repeat' first | exact rA _ | refine parkI ?_ | (refine ⟨_, c142, ?_⟩; conv => whnf) | (refine W.drawn TT_ok hmix1 rfl ?_; conv => whnf) | exact clA _ | (refine And.intro ?_ ?_ <;> conv => whnf) | exact clG _ | (refine gand ?_ h; assumption) | exact clN _ | fail
        refine parkE (fun hc => ?_) (fun hc => ?_)
        ·replace h := condT hc h
         conv => whnf
         have e := Option.some.inj h
         subst e
         repeat' first | exact rA _ | (refine W.drawn TT_ok hmix1 rfl ?_; conv => whnf) | exact clA _ | (refine And.intro ?_ ?_ <;> conv => whnf) | exact clG _ | (refine gand ?_ h; assumption) | exact clN _ | fail
        ·replace h := condF hc h
         conv => whnf
         repeat' first | exact rA _ | refine parkI ?_ | (refine CallP.use c128 ?_; conv => whnf) | (refine ⟨_, _, CallP.at c128, ?_⟩; conv => whnf) | (refine ⟨_, fun _ => c128, ?_⟩; conv => whnf) | (refine W.drawn TT_ok hmix1 rfl ?_; conv => whnf) | exact clA _ | (refine And.intro ?_ ?_ <;> conv => whnf) | exact clG _ | (refine gand ?_ h; assumption) | exact clN _ | fail
         refine parkE (fun hc => ?_) (fun hc => ?_)
         ·replace h := condT hc h
          conv => whnf
          replace h := bindS h
          obtain ⟨y143, hy143, h⟩ := h
          have c144 := c_law08_alive  _ hy143
          replace h := bindS h
          obtain ⟨y145, hy145, h⟩ := h
          have c146 : (bif y143 then (decide (y3.2 = 1)) else false) = true → CallP Tryz.prog 11 [(LV.agg [(LV.ro 1 (y3.1.Buckets.map (roC 4 EnC))), (I y3.1.Slots), (I y3.1.Age)]), (LV.agg [LV.nils, (I 0), (I 0)])] (LV.bool y145) := by first | exact fun (hg : (bif y143 then (decide (y3.2 = 1)) else false) = true) => c_ref08_Same y3.1 (⟨[], 0, 0⟩ : Tb) _ (gdS hg hy145) | (simpa only [se_map, se_byL, se_len, se_ch, List.length_map] using fun (hg : (bif y143 then (decide (y3.2 = 1)) else false) = true) => c_ref08_Same y3.1 (⟨[], 0, 0⟩ : Tb) _ (gdS hg hy145)) | exact fun (hg : (bif y143 then (decide (y3.2 = 1)) else false) = true) => CallP.up (c_ref08_Same y3.1 (⟨[], 0, 0⟩ : Tb) _ (gdS hg hy145)) upT
          have e := Option.some.inj h
          subst e
          repeat' first | exact rA _ | (refine ⟨_, c146, ?_⟩; conv => whnf) | (refine CallP.use c144 ?_; conv => whnf) | (refine ⟨_, _, CallP.at c144, ?_⟩; conv => whnf) | (refine ⟨_, fun _ => c144, ?_⟩; conv => whnf) | (refine W.drawn TT_ok hmix1 rfl ?_; conv => whnf) | exact clA _ | (refine And.intro ?_ ?_ <;> conv => whnf) | exact clG _ | (refine gand ?_ h; assumption) | exact clN _ | fail
         ·replace h := condF hc h
          conv => whnf
          replace h := bindS h
          obtain ⟨y147, hy147, h⟩ := h
          have c148 := c_ref08_Pin y1 a1 a2 _ hy147
          repeat' first | exact rA _ | refine parkI ?_ | (refine CallP.use c148 ?_; conv => whnf) | (refine ⟨_, _, CallP.at c148, ?_⟩; conv => whnf) | (refine ⟨_, fun _ => c148, ?_⟩; conv => whnf) | (refine W.drawn TT_ok hmix1 rfl ?_; conv => whnf) | exact clA _ | (refine And.intro ?_ ?_ <;> conv => whnf) | exact clG _ | (refine gand ?_ h; assumption) | exact clN _ | fail
       ·replace h := condF hc h
        conv => whnf
        replace h := bindS h
        obtain ⟨y157, hy157, h⟩ := h
        have c158 := fun (hg : (!(!decide (y5.2 = 0))) = true) => c_ref08_Unpin y1 a1 _ (gdS hg hy157)
        replace h := bindS h
        obtain ⟨y159, hy159, h⟩ := h
        have c160 := fun (hg : (!(!decide (y5.2 = 0))) = true) => c_ref08_Same y5.1 y157 _ (gdS hg hy159)
        repeat' first | exact rA _ | refine parkI ?_ | (refine ⟨_, c158, ?_⟩; conv => whnf) | (refine ⟨_, c160, ?_⟩; conv => whnf) | (refine W.drawn TT_ok hmix1 rfl ?_; conv => whnf) | exact clA _ | (refine And.intro ?_ ?_ <;> conv => whnf) | exact clG _ | (refine gand ?_ h; assumption) | exact clN _ | fail
        refine parkE (fun hc => ?_) (fun hc => ?_)
        ·replace h := condT hc h
         conv => whnf
         have e := Option.some.inj h
         subst e
         repeat' first | exact rA _ | (refine W.drawn TT_ok hmix1 rfl ?_; conv => whnf) | exact clA _ | (refine And.intro ?_ ?_ <;> conv => whnf) | exact clG _ | (refine gand ?_ h; assumption) | exact clN _ | fail
        ·replace h := condF hc h
         conv => whnf
         repeat' first | exact rA _ | refine parkI ?_ | (refine CallP.use c128 ?_; conv => whnf) | (refine ⟨_, _, CallP.at c128, ?_⟩; conv => whnf) | (refine ⟨_, fun _ => c128, ?_⟩; conv => whnf) | (refine W.drawn TT_ok hmix1 rfl ?_; conv => whnf) | exact clA _ | (refine And.intro ?_ ?_ <;> conv => whnf) | exact clG _ | (refine gand ?_ h; assumption) | exact clN _ | fail
         refine parkE (fun hc => ?_) (fun hc => ?_)
         ·replace h := condT hc h
          conv => whnf
          replace h := bindS h
          obtain ⟨y161, hy161, h⟩ := h
          have c162 := c_law08_alive  _ hy161
          replace h := bindS h
          obtain ⟨y163, hy163, h⟩ := h
          have c164 : (bif y161 then (decide (y3.2 = 1)) else false) = true → CallP Tryz.prog 11 [(LV.agg [(LV.ro 1 (y3.1.Buckets.map (roC 4 EnC))), (I y3.1.Slots), (I y3.1.Age)]), (LV.agg [LV.nils, (I 0), (I 0)])] (LV.bool y163) := by first | exact fun (hg : (bif y161 then (decide (y3.2 = 1)) else false) = true) => c_ref08_Same y3.1 (⟨[], 0, 0⟩ : Tb) _ (gdS hg hy163) | (simpa only [se_map, se_byL, se_len, se_ch, List.length_map] using fun (hg : (bif y161 then (decide (y3.2 = 1)) else false) = true) => c_ref08_Same y3.1 (⟨[], 0, 0⟩ : Tb) _ (gdS hg hy163)) | exact fun (hg : (bif y161 then (decide (y3.2 = 1)) else false) = true) => CallP.up (c_ref08_Same y3.1 (⟨[], 0, 0⟩ : Tb) _ (gdS hg hy163)) upT
          have e := Option.some.inj h
          subst e
          repeat' first | exact rA _ | (refine ⟨_, c164, ?_⟩; conv => whnf) | (refine CallP.use c162 ?_; conv => whnf) | (refine ⟨_, _, CallP.at c162, ?_⟩; conv => whnf) | (refine ⟨_, fun _ => c162, ?_⟩; conv => whnf) | (refine W.drawn TT_ok hmix1 rfl ?_; conv => whnf) | exact clA _ | (refine And.intro ?_ ?_ <;> conv => whnf) | exact clG _ | (refine gand ?_ h; assumption) | exact clN _ | fail
         ·replace h := condF hc h
          conv => whnf
          replace h := bindS h
          obtain ⟨y165, hy165, h⟩ := h
          have c166 := c_ref08_Pin y1 a1 a2 _ hy165
          repeat' first | exact rA _ | refine parkI ?_ | (refine CallP.use c166 ?_; conv => whnf) | (refine ⟨_, _, CallP.at c166, ?_⟩; conv => whnf) | (refine ⟨_, fun _ => c166, ?_⟩; conv => whnf) | (refine W.drawn TT_ok hmix1 rfl ?_; conv => whnf) | exact clA _ | (refine And.intro ?_ ?_ <;> conv => whnf) | exact clG _ | (refine gand ?_ h; assumption) | exact clN _ | fail
    ·replace h := condF hc h
     conv => whnf
     replace h := bindS h
     obtain ⟨y175, hy175, h⟩ := h
     have c176 := fun (hg : (!(!decide (y9.2 = 0))) = true) => c_ref08_Flush y1 a2 _ (gdS hg hy175)
     replace h := bindS h
     obtain ⟨y177, hy177, h⟩ := h
     have c178 := fun (hg : (!(!decide (y9.2 = 0))) = true) => c_ref08_Same y9.1 y175 _ (gdS hg hy177)
     repeat' first | exact rA _ | refine parkI ?_ | (refine ⟨_, c176, ?_⟩; conv => whnf) | (refine ⟨_, c178, ?_⟩; conv => whnf) | (refine W.drawn TT_ok hmix1 rfl ?_; conv => whnf) | exact clA _ | (refine And.intro ?_ ?_ <;> conv => whnf) | exact clG _ | (refine gand ?_ h; assumption) | exact clN _ | fail
     refine parkE (fun hc => ?_) (fun hc => ?_)
     ·replace h := condT hc h
      conv => whnf
      have e := Option.some.inj h
      subst e
      repeat' first | exact rA _ | (refine W.drawn TT_ok hmix1 rfl ?_; conv => whnf) | exact clA _ | (refine And.intro ?_ ?_ <;> conv => whnf) | exact clG _ | (refine gand ?_ h; assumption) | exact clN _ | fail
     ·replace h := condF hc h
      conv => whnf
      replace h := bindS h
      obtain ⟨y179, hy179, h⟩ := h
      have c180 := c_ref08_Mac a1 _ hy179
      repeat' first | exact rA _ | refine parkI ?_ | (refine CallP.use c180 ?_; conv => whnf) | (refine ⟨_, _, CallP.at c180, ?_⟩; conv => whnf) | (refine ⟨_, fun _ => c180, ?_⟩; conv => whnf) | (refine W.drawn TT_ok hmix1 rfl ?_; conv => whnf) | exact clA _ | (refine And.intro ?_ ?_ <;> conv => whnf) | exact clG _ | (refine gand ?_ h; assumption) | exact clN _ | fail
      refine parkE (fun hc => ?_) (fun hc => ?_)
      ·replace h := condT hc h
       conv => whnf
       replace h := bindS h
       obtain ⟨y181, hy181, h⟩ := h
       have c182 := c_law08_alive  _ hy181
       replace h := bindS h
       obtain ⟨y183, hy183, h⟩ := h
       have c184 : (bif (bif y181 then (decide (y3.2 = 1)) else false) then (decide (y5.2 = 1)) else false) = true → CallP Tryz.prog 11 [(LV.agg [(LV.ro 1 (y3.1.Buckets.map (roC 4 EnC))), (I y3.1.Slots), (I y3.1.Age)]), (LV.agg [LV.nils, (I 0), (I 0)])] (LV.bool y183) := by first | exact fun (hg : (bif (bif y181 then (decide (y3.2 = 1)) else false) then (decide (y5.2 = 1)) else false) = true) => c_ref08_Same y3.1 (⟨[], 0, 0⟩ : Tb) _ (gdS hg hy183) | (simpa only [se_map, se_byL, se_len, se_ch, List.length_map] using fun (hg : (bif (bif y181 then (decide (y3.2 = 1)) else false) then (decide (y5.2 = 1)) else false) = true) => c_ref08_Same y3.1 (⟨[], 0, 0⟩ : Tb) _ (gdS hg hy183)) | exact fun (hg : (bif (bif y181 then (decide (y3.2 = 1)) else false) then (decide (y5.2 = 1)) else false) = true) => CallP.up (c_ref08_Same y3.1 (⟨[], 0, 0⟩ : Tb) _ (gdS hg hy183)) upT
       replace h := bindS h
       obtain ⟨y185, hy185, h⟩ := h
       have c186 : (bif (bif (bif y181 then (decide (y3.2 = 1)) else false) then (decide (y5.2 = 1)) else false) then y183 else false) = true → CallP Tryz.prog 11 [(LV.agg [(LV.ro 1 (y5.1.Buckets.map (roC 4 EnC))), (I y5.1.Slots), (I y5.1.Age)]), (LV.agg [LV.nils, (I 0), (I 0)])] (LV.bool y185) := by first | exact fun (hg : (bif (bif (bif y181 then (decide (y3.2 = 1)) else false) then (decide (y5.2 = 1)) else false) then y183 else false) = true) => c_ref08_Same y5.1 (⟨[], 0, 0⟩ : Tb) _ (gdS hg hy185) | (simpa only [se_map, se_byL, se_len, se_ch, List.length_map] using fun (hg : (bif (bif (bif y181 then (decide (y3.2 = 1)) else false) then (decide (y5.2 = 1)) else false) then y183 else false) = true) => c_ref08_Same y5.1 (⟨[], 0, 0⟩ : Tb) _ (gdS hg hy185)) | exact fun (hg : (bif (bif (bif y181 then (decide (y3.2 = 1)) else false) then (decide (y5.2 = 1)) else false) then y183 else false) = true) => CallP.up (c_ref08_Same y5.1 (⟨[], 0, 0⟩ : Tb) _ (gdS hg hy185)) upT
       have e := Option.some.inj h
       subst e
       repeat' first | exact rA _ | (refine ⟨_, c184, ?_⟩; conv => whnf) | (refine ⟨_, c186, ?_⟩; conv => whnf) | (refine CallP.use c182 ?_; conv => whnf) | (refine ⟨_, _, CallP.at c182, ?_⟩; conv => whnf) | (refine ⟨_, fun _ => c182, ?_⟩; conv => whnf) | (refine W.drawn TT_ok hmix1 rfl ?_; conv => whnf) | exact clA _ | (refine And.intro ?_ ?_ <;> conv => whnf) | exact clG _ | (refine gand ?_ h; assumption) | exact clN _ | fail
      ·replace h := condF hc h
       conv => whnf
       replace h := bindS h
       obtain ⟨y187, hy187, h⟩ := h
       have c188 := c_ref08_Pinned y1 a1 _ hy187
       repeat' first | exact rA _ | refine parkI ?_ | (refine CallP.use c188 ?_; conv => whnf) | (refine ⟨_, _, CallP.at c188, ?_⟩; conv => whnf) | (refine ⟨_, fun _ => c188, ?_⟩; conv => whnf) | (refine W.drawn TT_ok hmix1 rfl ?_; conv => whnf) | exact clA _ | (refine And.intro ?_ ?_ <;> conv => whnf) | exact clG _ | (refine gand ?_ h; assumption) | exact clN _ | fail
       refine parkE (fun hc => ?_) (fun hc => ?_)
       ·replace h := condT hc h
        conv => whnf
        replace h := bindS h
        obtain ⟨y189, hy189, h⟩ := h
        have c190 : (!(!decide (y5.2 = 4))) = true → CallP Tryz.prog 11 [(LV.agg [(LV.ro 1 (y5.1.Buckets.map (roC 4 EnC))), (I y5.1.Slots), (I y5.1.Age)]), (LV.agg [LV.nils, (I 0), (I 0)])] (LV.bool y189) := by first | exact fun (hg : (!(!decide (y5.2 = 4))) = true) => c_ref08_Same y5.1 (⟨[], 0, 0⟩ : Tb) _ (gdS hg hy189) | (simpa only [se_map, se_byL, se_len, se_ch, List.length_map] using fun (hg : (!(!decide (y5.2 = 4))) = true) => c_ref08_Same y5.1 (⟨[], 0, 0⟩ : Tb) _ (gdS hg hy189)) | exact fun (hg : (!(!decide (y5.2 = 4))) = true) => CallP.up (c_ref08_Same y5.1 (⟨[], 0, 0⟩ : Tb) _ (gdS hg hy189)) upT
        repeat' first | exact rA _ | refine parkI ?_ | (refine ⟨_, c190, ?_⟩; conv => whnf) | (refine W.drawn TT_ok hmix1 rfl ?_; conv => whnf) | exact clA _ | (refine And.intro ?_ ?_ <;> conv => whnf) | exact clG _ | (refine gand ?_ h; assumption) | exact clN _ | fail
        refine parkE (fun hc => ?_) (fun hc => ?_)
        ·replace h := condT hc h
         conv => whnf
         have e := Option.some.inj h
         subst e
         repeat' first | exact rA _ | (refine W.drawn TT_ok hmix1 rfl ?_; conv => whnf) | exact clA _ | (refine And.intro ?_ ?_ <;> conv => whnf) | exact clG _ | (refine gand ?_ h; assumption) | exact clN _ | fail
        ·replace h := condF hc h
         conv => whnf
         repeat' first | exact rA _ | refine parkI ?_ | (refine CallP.use c128 ?_; conv => whnf) | (refine ⟨_, _, CallP.at c128, ?_⟩; conv => whnf) | (refine ⟨_, fun _ => c128, ?_⟩; conv => whnf) | (refine W.drawn TT_ok hmix1 rfl ?_; conv => whnf) | exact clA _ | (refine And.intro ?_ ?_ <;> conv => whnf) | exact clG _ | (refine gand ?_ h; assumption) | exact clN _ | fail
         refine parkE (fun hc => ?_) (fun hc => ?_)
         ·replace h := condT hc h
          conv => whnf
          replace h := bindS h
          obtain ⟨y191, hy191, h⟩ := h
          have c192 := c_law08_alive  _ hy191
          replace h := bindS h
          obtain ⟨y193, hy193, h⟩ := h
          have c194 : (bif y191 then (decide (y3.2 = 1)) else false) = true → CallP Tryz.prog 11 [(LV.agg [(LV.ro 1 (y3.1.Buckets.map (roC 4 EnC))), (I y3.1.Slots), (I y3.1.Age)]), (LV.agg [LV.nils, (I 0), (I 0)])] (LV.bool y193) := by first | exact fun (hg : (bif y191 then (decide (y3.2 = 1)) else false) = true) => c_ref08_Same y3.1 (⟨[], 0, 0⟩ : Tb) _ (gdS hg hy193) | (simpa only [se_map, se_byL, se_len, se_ch, List.length_map] using fun (hg : (bif y191 then (decide (y3.2 = 1)) else false) = true) => c_ref08_Same y3.1 (⟨[], 0, 0⟩ : Tb) _ (gdS hg hy193)) | exact fun (hg : (bif y191 then (decide (y3.2 = 1)) else false) = true) => CallP.up (c_ref08_Same y3.1 (⟨[], 0, 0⟩ : Tb) _ (gdS hg hy193)) upT
          have e := Option.some.inj h
          subst e
          repeat' first | exact rA _ | (refine ⟨_, c194, ?_⟩; conv => whnf) | (refine CallP.use c192 ?_; conv => whnf) | (refine ⟨_, _, CallP.at c192, ?_⟩; conv => whnf) | (refine ⟨_, fun _ => c192, ?_⟩; conv => whnf) | (refine W.drawn TT_ok hmix1 rfl ?_; conv => whnf) | exact clA _ | (refine And.intro ?_ ?_ <;> conv => whnf) | exact clG _ | (refine gand ?_ h; assumption) | exact clN _ | fail
         ·replace h := condF hc h
          conv => whnf
          replace h := bindS h
          obtain ⟨y195, hy195, h⟩ := h
          have c196 := c_ref08_Pin y1 a1 a2 _ hy195
          repeat' first | exact rA _ | refine parkI ?_ | (refine CallP.use c196 ?_; conv => whnf) | (refine ⟨_, _, CallP.at c196, ?_⟩; conv => whnf) | (refine ⟨_, fun _ => c196, ?_⟩; conv => whnf) | (refine W.drawn TT_ok hmix1 rfl ?_; conv => whnf) | exact clA _ | (refine And.intro ?_ ?_ <;> conv => whnf) | exact clG _ | (refine gand ?_ h; assumption) | exact clN _ | fail
          refine parkE (fun hc => ?_) (fun hc => ?_)
          ·replace h := condT hc h
           conv => whnf
           replace h := bindS h
           obtain ⟨y197, hy197, h⟩ := h
           have c198 := c_law08_alive  _ hy197
           replace h := bindS h
           obtain ⟨y199, hy199, h⟩ := h
           have c200 : (bif y197 then (decide (y3.2 = 5)) else false) = true → CallP Tryz.prog 11 [(LV.agg [(LV.ro 1 (y3.1.Buckets.map (roC 4 EnC))), (I y3.1.Slots), (I y3.1.Age)]), (LV.agg [LV.nils, (I 0), (I 0)])] (LV.bool y199) := by first | exact fun (hg : (bif y197 then (decide (y3.2 = 5)) else false) = true) => c_ref08_Same y3.1 (⟨[], 0, 0⟩ : Tb) _ (gdS hg hy199) | (simpa only [se_map, se_byL, se_len, se_ch, List.length_map] using fun (hg : (bif y197 then (decide (y3.2 = 5)) else false) = true) => c_ref08_Same y3.1 (⟨[], 0, 0⟩ : Tb) _ (gdS hg hy199)) | exact fun (hg : (bif y197 then (decide (y3.2 = 5)) else false) = true) => CallP.up (c_ref08_Same y3.1 (⟨[], 0, 0⟩ : Tb) _ (gdS hg hy199)) upT
           have e := Option.some.inj h
           subst e
           repeat' first | exact rA _ | (refine ⟨_, c200, ?_⟩; conv => whnf) | (refine CallP.use c198 ?_; conv => whnf) | (refine ⟨_, _, CallP.at c198, ?_⟩; conv => whnf) | (refine ⟨_, fun _ => c198, ?_⟩; conv => whnf) | (refine W.drawn TT_ok hmix1 rfl ?_; conv => whnf) | exact clA _ | (refine And.intro ?_ ?_ <;> conv => whnf) | exact clG _ | (refine gand ?_ h; assumption) | exact clN _ | fail
          ·replace h := condF hc h
           conv => whnf
           replace h := bindS h
           obtain ⟨y201, hy201, h⟩ := h
           have c202 := c_law08_alive  _ hy201
           replace h := bindS h
           obtain ⟨y203, hy203, h⟩ := h
           have c204 := fun (hg : (bif y201 then (decide (y3.2 = 0)) else false) = true) => c_ref08_Same y3.1 y195.1 _ (gdS hg hy203)
           have e := Option.some.inj h
           subst e
           repeat' first | exact rA _ | (refine ⟨_, c204, ?_⟩; conv => whnf) | (refine CallP.use c202 ?_; conv => whnf) | (refine ⟨_, _, CallP.at c202, ?_⟩; conv => whnf) | (refine ⟨_, fun _ => c202, ?_⟩; conv => whnf) | (refine W.drawn TT_ok hmix1 rfl ?_; conv => whnf) | exact clA _ | (refine And.intro ?_ ?_ <;> conv => whnf) | exact clG _ | (refine gand ?_ h; assumption) | exact clN _ | fail
       ·replace h := condF hc h
        conv => whnf
        replace h := bindS h
        obtain ⟨y205, hy205, h⟩ := h
        have c206 := fun (hg : (!(!decide (y5.2 = 0))) = true) => c_ref08_Unpin y1 a1 _ (gdS hg hy205)
        replace h := bindS h
        obtain ⟨y207, hy207, h⟩ := h
        have c208 := fun (hg : (!(!decide (y5.2 = 0))) = true) => c_ref08_Same y5.1 y205 _ (gdS hg hy207)
        repeat' first | exact rA _ | refine parkI ?_ | (refine ⟨_, c206, ?_⟩; conv => whnf) | (refine ⟨_, c208, ?_⟩; conv => whnf) | (refine W.drawn TT_ok hmix1 rfl ?_; conv => whnf) | exact clA _ | (refine And.intro ?_ ?_ <;> conv => whnf) | exact clG _ | (refine gand ?_ h; assumption) | exact clN _ | fail
        refine parkE (fun hc => ?_) (fun hc => ?_)
        ·replace h := condT hc h
         conv => whnf
         have e := Option.some.inj h
         subst e
         repeat' first | exact rA _ | (refine W.drawn TT_ok hmix1 rfl ?_; conv => whnf) | exact clA _ | (refine And.intro ?_ ?_ <;> conv => whnf) | exact clG _ | (refine gand ?_ h; assumption) | exact clN _ | fail
        ·replace h := condF hc h
         conv => whnf
         repeat' first | exact rA _ | refine parkI ?_ | (refine CallP.use c128 ?_; conv => whnf) | (refine ⟨_, _, CallP.at c128, ?_⟩; conv => whnf) | (refine ⟨_, fun _ => c128, ?_⟩; conv => whnf) | (refine W.drawn TT_ok hmix1 rfl ?_; conv => whnf) | exact clA _ | (refine And.intro ?_ ?_ <;> conv => whnf) | exact clG _ | (refine gand ?_ h; assumption) | exact clN _ | fail
         refine parkE (fun hc => ?_) (fun hc => ?_)
         ·replace h := condT hc h
          conv => whnf
          replace h := bindS h
          obtain ⟨y209, hy209, h⟩ := h
          have c210 := c_law08_alive  _ hy209
          replace h := bindS h
          obtain ⟨y211, hy211, h⟩ := h
          have c212 : (bif y209 then (decide (y3.2 = 1)) else false) = true → CallP Tryz.prog 11 [(LV.agg [(LV.ro 1 (y3.1.Buckets.map (roC 4 EnC))), (I y3.1.Slots), (I y3.1.Age)]), (LV.agg [LV.nils, (I 0), (I 0)])] (LV.bool y211) := by first | exact fun (hg : (bif y209 then (decide (y3.2 = 1)) else false) = true) => c_ref08_Same y3.1 (⟨[], 0, 0⟩ : Tb) _ (gdS hg hy211) | (simpa only [se_map, se_byL, se_len, se_ch, List.length_map] using fun (hg : (bif y209 then (decide (y3.2 = 1)) else false) = true) => c_ref08_Same y3.1 (⟨[], 0, 0⟩ : Tb) _ (gdS hg hy211)) | exact fun (hg : (bif y209 then (decide (y3.2 = 1)) else false) = true) => CallP.up (c_ref08_Same y3.1 (⟨[], 0, 0⟩ : Tb) _ (gdS hg hy211)) upT
          have e := Option.some.inj h
          subst e
          repeat' first | exact rA _ | (refine ⟨_, c212, ?_⟩; conv => whnf) | (refine CallP.use c210 ?_; conv => whnf) | (refine ⟨_, _, CallP.at c210, ?_⟩; conv => whnf) | (refine ⟨_, fun _ => c210, ?_⟩; conv => whnf) | (refine W.drawn TT_ok hmix1 rfl ?_; conv => whnf) | exact clA _ | (refine And.intro ?_ ?_ <;> conv => whnf) | exact clG _ | (refine gand ?_ h; assumption) | exact clN _ | fail
         ·replace h := condF hc h
          conv => whnf
          replace h := bindS h
          obtain ⟨y213, hy213, h⟩ := h
          have c214 := c_ref08_Pin y1 a1 a2 _ hy213
          repeat' first | exact rA _ | refine parkI ?_ | (refine CallP.use c214 ?_; conv => whnf) | (refine ⟨_, _, CallP.at c214, ?_⟩; conv => whnf) | (refine ⟨_, fun _ => c214, ?_⟩; conv => whnf) | (refine W.drawn TT_ok hmix1 rfl ?_; conv => whnf) | exact clA _ | (refine And.intro ?_ ?_ <;> conv => whnf) | exact clG _ | (refine gand ?_ h; assumption) | exact clN _ | fail
          refine parkE (fun hc => ?_) (fun hc => ?_)
          ·replace h := condT hc h
           conv => whnf
           replace h := bindS h
           obtain ⟨y215, hy215, h⟩ := h
           have c216 := c_law08_alive  _ hy215
           replace h := bindS h
           obtain ⟨y217, hy217, h⟩ := h
           have c218 : (bif y215 then (decide (y3.2 = 5)) else false) = true → CallP Tryz.prog 11 [(LV.agg [(LV.ro 1 (y3.1.Buckets.map (roC 4 EnC))), (I y3.1.Slots), (I y3.1.Age)]), (LV.agg [LV.nils, (I 0), (I 0)])] (LV.bool y217) := by first | exact fun (hg : (bif y215 then (decide (y3.2 = 5)) else false) = true) => c_ref08_Same y3.1 (⟨[], 0, 0⟩ : Tb) _ (gdS hg hy217) | (simpa only [se_map, se_byL, se_len, se_ch, List.length_map] using fun (hg : (bif y215 then (decide (y3.2 = 5)) else false) = true) => c_ref08_Same y3.1 (⟨[], 0, 0⟩ : Tb) _ (gdS hg hy217)) | exact fun (hg : (bif y215 then (decide (y3.2 = 5)) else false) = true) => CallP.up (c_ref08_Same y3.1 (⟨[], 0, 0⟩ : Tb) _ (gdS hg hy217)) upT
           have e := Option.some.inj h
           subst e
           repeat' first | exact rA _ | (refine ⟨_, c218, ?_⟩; conv => whnf) | (refine CallP.use c216 ?_; conv => whnf) | (refine ⟨_, _, CallP.at c216, ?_⟩; conv => whnf) | (refine ⟨_, fun _ => c216, ?_⟩; conv => whnf) | (refine W.drawn TT_ok hmix1 rfl ?_; conv => whnf) | exact clA _ | (refine And.intro ?_ ?_ <;> conv => whnf) | exact clG _ | (refine gand ?_ h; assumption) | exact clN _ | fail
          ·replace h := condF hc h
           conv => whnf
           replace h := bindS h
           obtain ⟨y219, hy219, h⟩ := h
           have c220 := c_law08_alive  _ hy219
           replace h := bindS h
           obtain ⟨y221, hy221, h⟩ := h
           have c222 := fun (hg : (bif y219 then (decide (y3.2 = 0)) else false) = true) => c_ref08_Same y3.1 y213.1 _ (gdS hg hy221)
           have e := Option.some.inj h
           subst e
           repeat' first | exact rA _ | (refine ⟨_, c222, ?_⟩; conv => whnf) | (refine CallP.use c220 ?_; conv => whnf) | (refine ⟨_, _, CallP.at c220, ?_⟩; conv => whnf) | (refine ⟨_, fun _ => c220, ?_⟩; conv => whnf) | (refine W.drawn TT_ok hmix1 rfl ?_; conv => whnf) | exact clA _ | (refine And.intro ?_ ?_ <;> conv => whnf) | exact clG _ | (refine gand ?_ h; assumption) | exact clN _ | fail

end Go.RX
