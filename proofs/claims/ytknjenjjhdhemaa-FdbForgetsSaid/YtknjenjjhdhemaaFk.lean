/- Plain functions, and what says that the program's functions compute them. -/
import Derived.Test.YtknjenjjhdhemaaFj
set_option linter.unusedVariables false
set_option linter.unusedSimpArgs false
open Go Go.RX Go.Proofs
namespace Go.RX
set_option maxRecDepth 10000
set_option maxHeartbeats 4000000
attribute [local irreducible] CallW CallP LoopW W IntKind.wrap bitI
def law08_few_c0  (k23 : Nat) (x23 : (List En)) (s23 : (List (List En))) : Option (Step Tb (List (List En))) :=
 grd ((0 : Int) ≤ (mn ((x23.length : Nat) : Int) 8) ∧ (mn ((x23.length : Nat) : Int) 8) ≤ ((x23.length : Nat) : Int)) <|
 grd (fits ((s23 ++ ([(x23.take ((mn ((x23.length : Nat) : Int) 8) : Int).toNat)] : (List (List En)))) : List (List En)).length 24) <|
 some (.nxt (s23 ++ ([(x23.take ((mn ((x23.length : Nat) : Int) 8) : Int).toNat)] : (List (List En)))))

def law08_few (a0 : Tb) : Option Tb :=
 grd ((0 : Int) ≤ (mn ((a0.Buckets.length : Nat) : Int) 20) ∧ (mn ((a0.Buckets.length : Nat) : Int) 20) ≤ ((a0.Buckets.length : Nat) : Int)) <|
 aft (rangeL (law08_few_c0 ) (a0.Buckets.take ((mn ((a0.Buckets.length : Nat) : Int) 20) : Int).toNat) ([] : (List (List En)))) fun s23 =>
 some (⟨s23, a0.Slots, a0.Age⟩ : Tb)

theorem c_law08_few (a0 : Tb) (r : Tb) (h : law08_few a0 = some r) : CallP Try.prog 38 [(LV.agg [(LV.ro 1 (a0.Buckets.map (roC 4 EnC))), (I a0.Slots), (I a0.Age)])] (LV.agg [(LV.ro 1 (r.Buckets.map (roC 4 EnC))), (I r.Slots), (I r.Age)]) := by
 unfold law08_few at h
 refine .intro nlA (.intro TT_ok Try.func38 rfl rfl [0, 1, 2, 3, 5, 12, 13, 14, 15] rfl ?_)
 conv => whnf
 replace h := grdS h
 obtain ⟨g1, h⟩ := h
 replace g1 : (0 : Int) ≤ (mn (((a0.Buckets.map (roC 4 EnC)).length : Nat) : Int) 20) ∧ (mn (((a0.Buckets.map (roC 4 EnC)).length : Nat) : Int) 20) ≤ (((a0.Buckets.map (roC 4 EnC)).length : Nat) : Int) := by simpa only [se_len, se_ch, List.length_map] using g1
 repeat' first | exact rA _ | refine parkI ?_ | exact g1 | (refine And.intro ?_ ?_ <;> conv => whnf) | fail
 replace h := aftS h
 obtain ⟨O23, hO23, r23⟩ := h
 refine LoopW.virt 3 111 1 rfl ?_
 refine LoopW.norm [(1, (LV.ptr 0 0 0)), (2, (LV.ptr 1 0 0)), (3, (LV.sl 2 0 (([] : (List (List En))).map (roC 4 EnC)).length)), (12, (LV.ro 1 ((a0.Buckets.map (roC 4 EnC)).take ((mn (((a0.Buckets.map (roC 4 EnC)).length : Nat) : Int) 20) : Int).toNat))), (13, (I ((((a0.Buckets.map (roC 4 EnC)).take ((mn (((a0.Buckets.map (roC 4 EnC)).length : Nat) : Int) 20) : Int).toNat).length : Nat) : Int))), (14, (I ((0 : Nat) : Int)))] 3 [(0, (.row 69 3 [[(LV.ro 1 (a0.Buckets.map (roC 4 EnC))), (I a0.Slots), (I a0.Age)]])), (1, (.row 69 3 [[LV.nils, (I 0), (I 0)]])), (2, (.row 111 1 (([] : (List (List En))).map (roC 4 EnC))))] ⟨rfl, rfl, (by exact congrArg (LV.sl 2 0) (clL _ : 0 = (([] : (List (List En))).map (roC 4 EnC)).length)), rfl, rfl, rfl, trivial⟩ ⟨⟨rfl, rfl, blT⟩, ⟨⟨rfl, rfl, blT⟩, ⟨⟨(congrArg (fun q => some (Blk.row 111 1 q)) (by first | (simp only [se_map, se_byL, se_len, se_ch, List.length_map]; done) | (simp only [se_map, se_byL, se_len, se_ch, List.length_map, roC]; done) : ([] : List (List LV)) = (([] : (List (List En))).map (roC 4 EnC)))), rfl, NLss_bel (NLss_map' _)⟩, trivial⟩⟩⟩ blT rfl ?_
 refine LoopW.forR (fun k23 s23 => [(1, (LV.ptr 0 0 0)), (2, (LV.ptr 1 0 0)), (3, (LV.sl 2 0 (s23.map (roC 4 EnC)).length)), (12, (LV.ro 1 ((a0.Buckets.map (roC 4 EnC)).take ((mn (((a0.Buckets.map (roC 4 EnC)).length : Nat) : Int) 20) : Int).toNat))), (13, (I ((((a0.Buckets.map (roC 4 EnC)).take ((mn (((a0.Buckets.map (roC 4 EnC)).length : Nat) : Int) 20) : Int).toNat).length : Nat) : Int))), (14, (I ((k23 : Nat) : Int)))]) (fun s23 => ⟨3, [(0, (.row 69 3 [[(LV.ro 1 (a0.Buckets.map (roC 4 EnC))), (I a0.Slots), (I a0.Age)]])), (1, (.row 69 3 [[LV.nils, (I 0), (I 0)]])), (2, (.row 111 1 (s23.map (roC 4 EnC))))]⟩) hO23 (fun hl23 s23 hs23 => ?_) (fun hl23 k23 x23 s23 o23 hk23 hx23 b23 K23 hret23 hbrk23 => ?_)
 ·rw [hs23] at r23
  dsimp only [aftM] at r23
  have hd : decide ((((a0.Buckets.take ((mn ((a0.Buckets.length : Nat) : Int) 20) : Int).toNat).length : Nat) : Int) < ((((a0.Buckets.map (roC 4 EnC)).take ((mn (((a0.Buckets.map (roC 4 EnC)).length : Nat) : Int) 20) : Int).toNat).length : Nat) : Int)) = false := by rw [decide_eq_false_iff_not]; (try simp only [se_len, se_ch, List.length_map]); omega
  refine LoopW.round TT_ok [0, 1, 2, 3, 5, 12, 13, 14, 15] ?_
  conv => whnf
  repeat' first | exact rA _ | refine parkI ?_ | (refine And.intro ?_ ?_ <;> conv => whnf) | fail
  refine parkE (fun hc => ?_) (fun hc => ?_)
  ·exact (Bool.false_ne_true (hd.symm.trans hc)).elim
  ·clear hd
   conv => whnf
   have e := Option.some.inj r23
   subst e
   repeat' first | exact rA _ | exact clA _ | (refine And.intro ?_ ?_ <;> conv => whnf) | exact clG _ | (refine gand ?_ h; assumption) | exact clN _ | fail
 ·unfold law08_few_c0 at b23
  have fx23 : (0 : Int) ≤ ((k23 : Nat) : Int) ∧ (((a0.Buckets.map (roC 4 EnC)).take ((mn (((a0.Buckets.map (roC 4 EnC)).length : Nat) : Int) 20) : Int).toNat))[((k23 : Nat) : Int).toNat]? = some ((roC 4 EnC) x23) := by (have h0 := kixF (f := (roC 4 EnC)) hx23); simpa only [se_map, se_len, se_byL, List.length_map] using h0
  have hd : decide (((k23 : Nat) : Int) < ((((a0.Buckets.map (roC 4 EnC)).take ((mn (((a0.Buckets.map (roC 4 EnC)).length : Nat) : Int) 20) : Int).toNat).length : Nat) : Int)) = true := by rw [decide_eq_true_eq]; (try simp only [se_len, se_ch, List.length_map] at hk23); (try simp only [se_len, se_ch, List.length_map]); omega
  refine LoopW.round TT_ok [0, 1, 2, 3, 5, 12, 13, 14, 15] ?_
  conv => whnf
  repeat' first | exact rA _ | refine parkI ?_ | (refine And.intro ?_ ?_ <;> conv => whnf) | fail
  refine parkE (fun hc => ?_) (fun hc => ?_)
  ·clear hd
   conv => whnf
   replace b23 := grdS b23
   obtain ⟨g2, b23⟩ := b23
   replace g2 : (0 : Int) ≤ (mn (((x23.map EnC).length : Nat) : Int) 8) ∧ (mn (((x23.map EnC).length : Nat) : Int) 8) ≤ (((x23.map EnC).length : Nat) : Int) := by simpa only [se_len, se_ch, List.length_map] using g2
   replace b23 := grdS b23
   obtain ⟨g3, b23⟩ := b23
   replace g3 : fits (((s23.map (roC 4 EnC)) ++ [[(LV.ro 4 ((x23.map EnC).take ((mn (((x23.map EnC).length : Nat) : Int) 8) : Int).toNat))]])).length 24 := by simpa only [se_len, se_ch, List.length_map] using g3
   repeat' first | exact rA _ | refine parkI ?_ | (refine ⟨_, fx23, ?_⟩; conv => whnf) | exact g2 | exact g3 | exact clA _ | (refine And.intro ?_ ?_ <;> conv => whnf) | exact clN _ | fail
   have e := Option.some.inj b23
   refine LoopW.ren [(0, 0), (1, 1), (4, 2)] [(1, (LV.ptr 0 0 0)), (2, (LV.ptr 1 0 0)), (3, (LV.sl 2 0 ((s23 ++ ([(x23.take ((mn ((x23.length : Nat) : Int) 8) : Int).toNat)] : (List (List En)))).map (roC 4 EnC)).length)), (12, (LV.ro 1 ((a0.Buckets.map (roC 4 EnC)).take ((mn (((a0.Buckets.map (roC 4 EnC)).length : Nat) : Int) 20) : Int).toNat))), (13, (I ((((a0.Buckets.map (roC 4 EnC)).take ((mn (((a0.Buckets.map (roC 4 EnC)).length : Nat) : Int) 20) : Int).toNat).length : Nat) : Int))), (14, (I ((k23 + 1 : Nat) : Int)))] 3 [(0, (.row 69 3 [[(LV.ro 1 (a0.Buckets.map (roC 4 EnC))), (I a0.Slots), (I a0.Age)]])), (1, (.row 69 3 [[LV.nils, (I 0), (I 0)]])), (2, (.row 111 1 ((s23 ++ ([(x23.take ((mn ((x23.length : Nat) : Int) 8) : Int).toNat)] : (List (List En)))).map (roC 4 EnC))))] rfl ⟨rfl, rfl, (by exact congrArg (LV.sl 2 0) (clL _ : (((s23.map (roC 4 EnC)) ++ [[(LV.ro 4 ((x23.map EnC).take ((mn (((x23.map EnC).length : Nat) : Int) 8) : Int).toNat))]])).length = ((s23 ++ ([(x23.take ((mn ((x23.length : Nat) : Int) 8) : Int).toNat)] : (List (List En)))).map (roC 4 EnC)).length)), rfl, rfl, (congrArg (LV.int .i64) (w64_nat _ (by omega))), trivial⟩ ⟨⟨rfl, rfl, .inl ⟨rfl, nlT⟩⟩, rfl, rfl, ⟨⟨rfl, rfl, .inl ⟨rfl, nlT⟩⟩, rfl, rfl, ⟨⟨rfl, rfl, .inl ⟨(by first | (simp only [se_map, se_byL, se_len, se_ch, List.length_map]; done) | (simp only [se_map, se_byL, se_len, se_ch, List.length_map, roC]; done) : (((s23.map (roC 4 EnC)) ++ [[(LV.ro 4 ((x23.map EnC).take ((mn (((x23.map EnC).length : Nat) : Int) 8) : Int).toNat))]]) : List (List LV)) = ((s23 ++ ([(x23.take ((mn ((x23.length : Nat) : Int) 8) : Int).toNat)] : (List (List En)))).map (roC 4 EnC))), nlT⟩⟩, rfl, rfl, trivial⟩⟩⟩ rfl (K23 _ e.symm)
  ·exact (Bool.false_ne_true (hc.symm.trans hd)).elim

def law08_alive_c0  (k24 : Nat) (s24 : Tb) : Option (Step Bool Tb) :=
 grd ((0 : Int) ≤ ((k24 : Nat) : Int) ∧ ((k24 : Nat) : Int) < ((([2, 4, 2, 6] : (List Int)).length : Nat) : Int)) <|
 (gixN ([2, 4, 2, 6] : (List Int)) (((k24 : Nat) : Int) : Int).toNat).bind fun v8 =>
 (fdb_Learn s24 v8 1 0).bind fun y10 =>
 (bif (!decide (y10.2 = 0)) then
  some (.ret false)
 else
  some (.nxt y10.1))

def law08_alive  : Option Bool :=
 (fdb_New 1 2 9).bind fun y5 =>
 aft (rangeN (law08_alive_c0 ) ((([2, 4, 2, 6] : (List Int)).length : Nat) : Int) y5.1) fun s24 =>
 (fdb_Find s24 2 5).bind fun y12 =>
 (fdb_Find s24 4 5).bind fun y14 =>
 some (bif (bif (bif (bif (decide (y5.2 = 0)) then (decide (y12.2 = 0)) else false) then (decide (y14.2 = 0)) else false) then (decide (y12.1 = 1)) else false) then (decide (y14.1 = (-1))) else false)

theorem c_law08_alive  (r : Bool) (h : law08_alive  = some r) : CallP Try.prog 40 [] (LV.bool r) := by
 unfold law08_alive at h
 refine .intro nlA (.intro TT_ok Try.func40 rfl rfl [0, 1, 2, 4, 5, 6, 7, 8, 9, 10, 15, 16, 17, 18, 28] rfl ?_)
 conv => whnf
 replace h := bindS h
 obtain ⟨y5, hy5, h⟩ := h
 have c6 := c_fdb_New 1 2 9 _ hy5
 repeat' first | exact rA _ | refine parkI ?_ | (refine CallP.use c6 ?_; conv => whnf) | (refine And.intro ?_ ?_ <;> conv => whnf) | fail
 replace h := aftS h
 obtain ⟨O24, hO24, r24⟩ := h
 refine LoopW.norm [(1, (LV.ptr 0 0 0)), (2, (I y5.2)), (15, (LV.sl 1 0 4)), (16, (I ((4 : Nat) : Int))), (17, (I ((0 : Nat) : Int)))] 2 [(0, (.row 69 3 [[(LV.ro 1 (y5.1.Buckets.map (roC 4 EnC))), (I y5.1.Slots), (I y5.1.Age)]])), (1, (.row 3 1 [[(I 2)], [(I 4)], [(I 2)], [(I 6)]]))] ⟨rfl, rfl, rfl, rfl, rfl, trivial⟩ ⟨⟨rfl, rfl, blT⟩, ⟨⟨rfl, rfl, blT⟩, trivial⟩⟩ blT rfl ?_
 refine LoopW.forN (fun k24 s24 => [(1, (LV.ptr 0 0 0)), (2, (I y5.2)), (15, (LV.sl 1 0 4)), (16, (I ((4 : Nat) : Int))), (17, (I ((k24 : Nat) : Int)))]) (fun s24 => ⟨2, [(0, (.row 69 3 [[(LV.ro 1 (s24.Buckets.map (roC 4 EnC))), (I s24.Slots), (I s24.Age)]])), (1, (.row 3 1 [[(I 2)], [(I 4)], [(I 2)], [(I 6)]]))]⟩) hO24 (fun hl24 s24 hs24 => ?_) (fun hl24 k24 s24 o24 hk24 b24 K24 hret24 hbrk24 => ?_)
 ·rw [hs24] at r24
  dsimp only [aftM] at r24
  have hd : decide ((((((([2, 4, 2, 6] : (List Int)).length : Nat) : Int) : Int).toNat : Nat) : Int) < ((4 : Nat) : Int)) = false := by rw [decide_eq_false_iff_not]; (try simp only [se_len, se_ch, List.length_map]); omega
  refine LoopW.round TT_ok [0, 1, 2, 4, 5, 6, 7, 8, 9, 10, 15, 16, 17, 18, 28] ?_
  conv => whnf
  repeat' first | exact rA _ | refine parkI ?_ | (refine And.intro ?_ ?_ <;> conv => whnf) | fail
  refine parkE (fun hc => ?_) (fun hc => ?_)
  ·exact (Bool.false_ne_true (hd.symm.trans hc)).elim
  ·clear hd
   conv => whnf
   replace r24 := bindS r24
   obtain ⟨y12, hy12, r24⟩ := r24
   have c13 := c_fdb_Find s24 2 5 _ hy12
   replace r24 := bindS r24
   obtain ⟨y14, hy14, r24⟩ := r24
   have c15 := c_fdb_Find s24 4 5 _ hy14
   have e := Option.some.inj r24
   subst e
   repeat' first | exact rA _ | (refine CallP.use c13 ?_; conv => whnf) | (refine CallP.use c15 ?_; conv => whnf) | exact clA _ | (refine And.intro ?_ ?_ <;> conv => whnf) | exact clG _ | (refine gand ?_ h; assumption) | exact clN _ | fail
 ·unfold law08_alive_c0 at b24
  have hd : decide (((k24 : Nat) : Int) < ((4 : Nat) : Int)) = true := by rw [decide_eq_true_eq]; (try simp only [se_len, se_ch, List.length_map] at hk24); (try simp only [se_len, se_ch, List.length_map]); omega
  refine LoopW.round TT_ok [0, 1, 2, 4, 5, 6, 7, 8, 9, 10, 15, 16, 17, 18, 28] ?_
  conv => whnf
  repeat' first | exact rA _ | refine parkI ?_ | (refine And.intro ?_ ?_ <;> conv => whnf) | fail
  refine parkE (fun hc => ?_) (fun hc => ?_)
  ·clear hd
   conv => whnf
   replace b24 := grdS b24
   obtain ⟨g7, b24⟩ := b24
   replace g7 : (0 : Int) ≤ ((k24 : Nat) : Int) ∧ ((k24 : Nat) : Int) < ((4 : Nat) : Int) := by simpa only [se_len, se_ch, List.length_map] using g7
   replace b24 := bindS b24
   obtain ⟨v8, hv8, b24⟩ := b24
   have i9 : nth [[(I 2)], [(I 4)], [(I 2)], [(I 6)]] (0 + ((((k24 : Nat) : Int) : Int).toNat)) = some [(I v8)] := by simpa only [se_map, se_len, se_ch, List.length_map, nth_eq, Nat.zero_add, List.getElem?_map] using gixNF (f := iC) hv8
   replace b24 := bindS b24
   obtain ⟨y10, hy10, b24⟩ := b24
   have c11 := c_fdb_Learn s24 v8 1 0 _ hy10
   repeat' first | exact rA _ | refine parkI ?_ | exact g7 | (refine CallP.use c11 ?_; conv => whnf) | (rw [i9]; conv => whnf) | (refine And.intro ?_ ?_ <;> conv => whnf) | fail
   refine parkE (fun hc => ?_) (fun hc => ?_)
   ·replace b24 := condT hc b24
    conv => whnf
    have e := Option.some.inj b24
    replace e := hret24 _ e.symm
    rw [e] at r24
    replace e := Option.some.inj r24
    subst e
    repeat' first | exact rA _ | exact clA _ | (refine And.intro ?_ ?_ <;> conv => whnf) | exact clG _ | (refine gand ?_ h; assumption) | exact clN _ | fail
   ·replace b24 := condF hc b24
    conv => whnf
    repeat' first | exact rA _ | refine parkI ?_ | (refine And.intro ?_ ?_ <;> conv => whnf) | fail
    have e := Option.some.inj b24
    refine LoopW.norm [(1, (LV.ptr 0 0 0)), (2, (I y5.2)), (15, (LV.sl 1 0 4)), (16, (I ((4 : Nat) : Int))), (17, (I ((k24 + 1 : Nat) : Int)))] 2 [(0, (.row 69 3 [[(LV.ro 1 (y10.1.Buckets.map (roC 4 EnC))), (I y10.1.Slots), (I y10.1.Age)]])), (1, (.row 3 1 [[(I 2)], [(I 4)], [(I 2)], [(I 6)]]))] ⟨rfl, rfl, rfl, rfl, (congrArg (LV.int .i64) (w64_nat _ (by omega))), trivial⟩ ⟨⟨rfl, rfl, blT⟩, ⟨⟨rfl, rfl, blT⟩, trivial⟩⟩ blT rfl (K24 _ e.symm)
  ·exact (Bool.false_ne_true (hc.symm.trans hd)).elim

def law08_FdbFlushes (a0 : Tb) (a1 : Int) (a2 : Int) (a3 : Int) : Option Bool :=
 (law08_few a0).bind fun y1 =>
 (fdb_Find y1 a1 (IntKind.i64.wrap (((IntKind.u64.wrap a3)).tmod 1099511627776))).bind fun y3 =>
 (bif (!decide (y3.2 = 0)) then
  (law08_alive ).bind fun y5 =>
  some (bif (bif y5 then (decide (y3.2 = 1)) else false) then (decide (y3.1 = 0)) else false)
 else
  (fdb_Flush y1 (-1)).bind fun y7 =>
  (fdb_Flush y1 (((IntKind.i64.wrap (((a2).tmod 8) + 8))).tmod 8)).bind fun y9 =>
  (fdb_Sweep y1 (IntKind.i64.wrap (((IntKind.u64.wrap a3)).tmod 1099511627776))).bind fun y11 =>
  (fdb_Find y7.1 a1 (IntKind.i64.wrap (((IntKind.u64.wrap a3)).tmod 1099511627776))).bind fun y13 =>
  (fdb_Find y9.1 a1 (IntKind.i64.wrap (((IntKind.u64.wrap a3)).tmod 1099511627776))).bind fun y15 =>
  (fdb_Find y11.1 a1 (IntKind.i64.wrap (((IntKind.u64.wrap a3)).tmod 1099511627776))).bind fun y17 =>
  (fdb_Unpin y1 a1).bind fun y19 =>
  (gd (!(bif (bif (bif (bif (bif (bif (!decide (y7.2 = 0)) then true else (!decide (y9.2 = 0))) then true else (!decide (y11.2 = 0))) then true else (!decide (y13.2 = 0))) then true else (!decide (y15.2 = 0))) then true else (!decide (y17.2 = 0))) then true else (!decide (y17.1 = y3.1)))) (law08_alive )).bind fun y21 =>
  (bif (bif (bif (bif (bif (bif (bif (bif (!decide (y7.2 = 0)) then true else (!decide (y9.2 = 0))) then true else (!decide (y11.2 = 0))) then true else (!decide (y13.2 = 0))) then true else (!decide (y15.2 = 0))) then true else (!decide (y17.2 = 0))) then true else (!decide (y17.1 = y3.1))) then true else (!y21)) then
   some false
  else
   (bif (decide (y19.2 = 0)) then
    some (bif (bif (decide (y13.1 = y3.1)) then (decide (y15.1 = y3.1)) else false) then (!decide (y3.1 = (-1))) else false)
   else
    some (bif (decide (y13.1 = (-1))) then (bif (bif (decide (y3.1 = (((IntKind.i64.wrap (((a2).tmod 8) + 8))).tmod 8))) then (decide (y15.1 = (-1))) else false) then true else (bif (!decide (y3.1 = (((IntKind.i64.wrap (((a2).tmod 8) + 8))).tmod 8))) then (decide (y15.1 = y3.1)) else false)) else false))))

theorem c_law08_FdbFlushes (a0 : Tb) (a1 : Int) (a2 : Int) (a3 : Int) (r : Bool) (h : law08_FdbFlushes a0 a1 a2 a3 = some r) : CallP Try.prog 6 [(LV.agg [(LV.ro 1 (a0.Buckets.map (roC 4 EnC))), (I a0.Slots), (I a0.Age)]), (I a1), (I a2), (I a3)] (LV.bool r) := by
 unfold law08_FdbFlushes at h
 refine .intro nlA (.intro TT_ok Try.func6 rfl rfl [0, 1, 2, 3, 4, 8, 9, 10, 11, 12, 13, 14, 15, 16, 17, 18, 19, 20, 21, 22, 24, 43, 127, 129] rfl ?_)
 conv => whnf
 replace h := bindS h
 obtain ⟨y1, hy1, h⟩ := h
 have c2 := c_law08_few a0 _ hy1
 replace h := bindS h
 obtain ⟨y3, hy3, h⟩ := h
 have c4 := c_fdb_Find y1 a1 (IntKind.i64.wrap (((IntKind.u64.wrap a3)).tmod 1099511627776)) _ hy3
 repeat' first | exact rA _ | refine parkI ?_ | (refine CallP.use c2 ?_; conv => whnf) | (refine CallP.use c4 ?_; conv => whnf) | exact (by decide : ((1099511627776 : Int) ≠ 0)) | exact (by decide : ((8 : Int) ≠ 0)) | exact (by decide : ((8 : Int) ≠ 0)) | (refine And.intro ?_ ?_ <;> conv => whnf) | fail
 refine parkE (fun hc => ?_) (fun hc => ?_)
 ·replace h := condT hc h
  conv => whnf
  replace h := bindS h
  obtain ⟨y5, hy5, h⟩ := h
  have c6 := c_law08_alive  _ hy5
  have e := Option.some.inj h
  subst e
  repeat' first | exact rA _ | (refine CallP.use c6 ?_; conv => whnf) | exact clA _ | (refine And.intro ?_ ?_ <;> conv => whnf) | exact clG _ | (refine gand ?_ h; assumption) | exact clN _ | fail
 ·replace h := condF hc h
  conv => whnf
  replace h := bindS h
  obtain ⟨y7, hy7, h⟩ := h
  have c8 := c_fdb_Flush y1 (-1) _ hy7
  replace h := bindS h
  obtain ⟨y9, hy9, h⟩ := h
  have c10 := c_fdb_Flush y1 (((IntKind.i64.wrap (((a2).tmod 8) + 8))).tmod 8) _ hy9
  replace h := bindS h
  obtain ⟨y11, hy11, h⟩ := h
  have c12 := c_fdb_Sweep y1 (IntKind.i64.wrap (((IntKind.u64.wrap a3)).tmod 1099511627776)) _ hy11
  replace h := bindS h
  obtain ⟨y13, hy13, h⟩ := h
  have c14 := c_fdb_Find y7.1 a1 (IntKind.i64.wrap (((IntKind.u64.wrap a3)).tmod 1099511627776)) _ hy13
  replace h := bindS h
  obtain ⟨y15, hy15, h⟩ := h
  have c16 := c_fdb_Find y9.1 a1 (IntKind.i64.wrap (((IntKind.u64.wrap a3)).tmod 1099511627776)) _ hy15
  replace h := bindS h
  obtain ⟨y17, hy17, h⟩ := h
  have c18 := c_fdb_Find y11.1 a1 (IntKind.i64.wrap (((IntKind.u64.wrap a3)).tmod 1099511627776)) _ hy17
  replace h := bindS h
  obtain ⟨y19, hy19, h⟩ := h
  have c20 := c_fdb_Unpin y1 a1 _ hy19
  replace h := bindS h
  obtain ⟨y21, hy21, h⟩ := h
  have c22 := fun (hg : (!(bif (bif (bif (bif (bif (bif (!decide (y7.2 = 0)) then true else (!decide (y9.2 = 0))) then true else (!decide (y11.2 = 0))) then true else (!decide (y13.2 = 0))) then true else (!decide (y15.2 = 0))) then true else (!decide (y17.2 = 0))) then true else (!decide (y17.1 = y3.1)))) = true) => c_law08_alive  _ (gdS hg hy21)
  repeat' first | exact rA _ | refine parkI ?_ | (refine ⟨_, c22, ?_⟩; conv => whnf) | (refine CallP.use c8 ?_; conv => whnf) | (refine CallP.use c10 ?_; conv => whnf) | (refine CallP.use c12 ?_; conv => whnf) | (refine CallP.use c14 ?_; conv => whnf) | (refine CallP.use c16 ?_; conv => whnf) | (refine CallP.use c18 ?_; conv => whnf) | (refine CallP.use c20 ?_; conv => whnf) | exact clA _ | (refine And.intro ?_ ?_ <;> conv => whnf) | exact clG _ | (refine gand ?_ h; assumption) | fail
  refine parkE (fun hc => ?_) (fun hc => ?_)
  ·replace h := condT hc h
   conv => whnf
   have e := Option.some.inj h
   subst e
   repeat' first | exact rA _ | exact clA _ | (refine And.intro ?_ ?_ <;> conv => whnf) | exact clG _ | (refine gand ?_ h; assumption) | exact clN _ | fail
  ·replace h := condF hc h
   conv => whnf
   repeat' first | exact rA _ | refine parkI ?_ | (refine And.intro ?_ ?_ <;> conv => whnf) | fail
   refine parkE (fun hc => ?_) (fun hc => ?_)
   ·replace h := condT hc h
    conv => whnf
    have e := Option.some.inj h
    subst e
    repeat' first | exact rA _ | exact clA _ | (refine And.intro ?_ ?_ <;> conv => whnf) | exact clG _ | (refine gand ?_ h; assumption) | exact clN _ | fail
   ·replace h := condF hc h
    conv => whnf
    have e := Option.some.inj h
    subst e
    repeat' first | exact rA _ | exact clA _ | (refine And.intro ?_ ?_ <;> conv => whnf) | exact clG _ | (refine gand ?_ h; assumption) | exact clN _ | fail

end Go.RX
