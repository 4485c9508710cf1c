/- Plain functions, and what says that the program's functions compute them. -/
import Derived.Test.YtknjenjjhdhemaaGreatVh
set_option linter.unusedVariables false
set_option linter.unusedSimpArgs false
open Go Go.RX Go.Proofs
namespace Go.RX
set_option maxRecDepth 10000
set_option maxHeartbeats 4000000
attribute [local irreducible] CallW CallP LoopW W IntKind.wrap bitI
def slices_DeleteFunc_Timer_c0 (q1 : (Tm → Option Bool)) (s6 : (Int × Int × (List Tm))) : Option (Step (List Tm) (Int × Int × (List Tm))) :=
 (bif (decide (s6.2.1 < ((s6.2.2.length : Nat) : Int))) then
  grd ((0 : Int) ≤ s6.2.1 ∧ s6.2.1 < ((s6.2.2.length : Nat) : Int)) <|
  (gixN s6.2.2 (s6.2.1 : Int).toNat).bind fun v11 =>
  (q1 v11).bind fun y13 =>
  (bif (!y13) then
   grd ((0 : Int) ≤ s6.1 ∧ s6.1 < ((s6.2.2.length : Nat) : Int)) <|
   (gixN s6.2.2 (s6.1 : Int).toNat).bind fun v16 =>
   some (.nxt ((IntKind.i64.wrap (s6.1 + 1)), (IntKind.i64.wrap (s6.2.1 + 1)), (s6.2.2.set (s6.1 : Int).toNat v11)))
  else
   some (.nxt (s6.1, (IntKind.i64.wrap (s6.2.1 + 1)), s6.2.2)))
 else
  some (.brk (s6.1, s6.2.1, s6.2.2)))

def slices_DeleteFunc_Timer (a0 : (List Tm)) (q1 : (Tm → Option Bool)) : Option (List Tm) :=
 (slices_IndexFunc_Timer a0 q1).bind fun y8 =>
 (bif (decide (y8 = (-1))) then
  some a0
 else
  aft (loopF 1000000 (slices_DeleteFunc_Timer_c0 q1) (y8, (IntKind.i64.wrap (y8 + 1)), a0)) fun s6 =>
  grd ((0 : Int) ≤ s6.1 ∧ s6.1 < ((s6.2.2.length : Nat) : Int)) <|
  grd ((0 : Int) ≤ s6.1 ∧ s6.1 ≤ ((s6.2.2.length : Nat) : Int)) <|
  some (s6.2.2.take (s6.1 : Int).toNat))

theorem w_slices_DeleteFunc_Timer (a0 : (List Tm)) (fn1 : Nat) (ff1 fc1 : List LV) (q1 : (Tm → Option Bool)) (hq1 : ∀ (x0 : Tm) (r : Bool), q1 x0 = some r → CallP Tryz.prog fn1 (ff1 ++ [(LV.agg [(I x0.ID), (I x0.At)])] ++ fc1) (LV.bool r)) (hn1 : NLs ff1 ∧ NLs fc1) (r : (List Tm)) (h : slices_DeleteFunc_Timer a0 q1 = some r) : CallW Tryz.prog 76 [(LV.sl 0 0 (a0.map TmC).length), (LV.func (.func fn1) ff1 fc1)] ⟨1, [(0, (.row 49 2 (a0.map TmC)))]⟩ (fun lv H' => lv = (LV.sl 0 0 (r.map TmC).length) ∧ H' = ⟨1, [(0, (.row 49 2 (r.map TmC)))]⟩) := by
 have hnA1 := hn1.1
 have hnB1 := hn1.2
 unfold slices_DeleteFunc_Timer at h
 refine CallW.shrink (CallW.intro TT_ok Tryz.func76 rfl rfl [0, 1, 4, 5, 6, 7, 12, 19, 29, 1000062] rfl ?_)
 conv => whnf
 have n7 : slNs [(LV.ro 2 (a0.map TmC)), (LV.func (.func fn1) ff1 fc1)] = [] := slNs_nil nlA
 replace h := bindS h
 obtain ⟨y8, hy8, h⟩ := h
 have c9 := c_slices_IndexFunc_Timer a0 fn1 ff1 fc1 q1 hq1 hn1 _ hy8
 repeat' first | exact rA _ | refine parkI ?_ | (refine frzB_call n7 rfl ?_; conv => whnf) | (refine frz_nil n7 ?_; conv => whnf) | (refine CallW.done (CallP.lendG c9 nlB (show Lents _ [(LV.sl 0 0 (a0.map TmC).length), (LV.func (.func fn1) ff1 fc1)] [(LV.ro 2 (a0.map TmC)), (LV.func (.func fn1) ff1 fc1)] from ⟨Lent.sl rfl lnT, .of nlA, True.intro⟩)) ?_; conv => whnf) | (refine And.intro ?_ ?_ <;> conv => whnf) | fail
 refine parkE (fun hc => ?_) (fun hc => ?_)
 ·replace h := condT hc h
  conv => whnf
  have e := Option.some.inj h
  subst e
  repeat' first | exact rA _ | exact ⟨[(0, (.row 49 2 (a0.map TmC)))], ⟨⟨rfl, rfl, NLss_bel (NLss_map' _)⟩, trivial⟩, blT, rfl, rfl⟩ | exact clA _ | (refine And.intro ?_ ?_ <;> conv => whnf) | exact clG _ | (refine gand ?_ h; assumption) | exact clN _ | fail
 ·replace h := condF hc h
  conv => whnf
  repeat' first | exact rA _ | refine parkI ?_ | (refine And.intro ?_ ?_ <;> conv => whnf) | fail
  replace h := aftS h
  obtain ⟨O6, hO6, r6⟩ := h
  refine LoopW.norm [(0, (LV.sl 0 0 ((y8, (IntKind.i64.wrap (y8 + 1)), a0).2.2.map TmC).length)), (1, (LV.func (.func fn1) ff1 fc1)), (5, (I (y8, (IntKind.i64.wrap (y8 + 1)), a0).1)), (6, (I (y8, (IntKind.i64.wrap (y8 + 1)), a0).2.1))] 1 [(0, (.row 49 2 ((y8, (IntKind.i64.wrap (y8 + 1)), a0).2.2.map TmC)))] ⟨(by exact congrArg (LV.sl 0 0) (clL _ : (a0.map TmC).length = ((y8, (IntKind.i64.wrap (y8 + 1)), a0).2.2.map TmC).length)), rfl, (smT : ((I y8) : LV) = (I (y8, (IntKind.i64.wrap (y8 + 1)), a0).1)), (smT : ((I (IntKind.i64.wrap (y8 + 1))) : LV) = (I (y8, (IntKind.i64.wrap (y8 + 1)), a0).2.1)), trivial⟩ ⟨⟨(congrArg (fun q => some (Blk.row 49 2 q)) (smT : ((a0.map TmC) : List (List LV)) = ((y8, (IntKind.i64.wrap (y8 + 1)), a0).2.2.map TmC))), rfl, NLss_bel (NLss_map' _)⟩, trivial⟩ blT rfl ?_
  refine LoopW.forF (fun s6 => [(0, (LV.sl 0 0 (s6.2.2.map TmC).length)), (1, (LV.func (.func fn1) ff1 fc1)), (5, (I s6.1)), (6, (I s6.2.1))]) (fun s6 => ⟨1, [(0, (.row 49 2 (s6.2.2.map TmC)))]⟩) hO6 (fun s6 o6 b6 K6 hret6 hbrk6 => ?_)
  unfold slices_DeleteFunc_Timer_c0 at b6
  refine LoopW.round TT_ok [0, 1, 4, 5, 6, 7, 12, 19, 29, 1000062] ?_
  conv => whnf
  repeat' first | exact rA _ | refine parkI ?_ | (refine And.intro ?_ ?_ <;> conv => whnf) | fail
  refine parkE (fun hc => ?_) (fun hc => ?_)
  ·replace b6 := condT (by first | exact hc | (simpa only [se_len, se_ch, List.length_map] using hc; done) | (have h0 : (decide (s6.2.1 < (((s6.2.2.map TmC).length : Nat) : Int))) = true := hc; simpa only [se_len, se_ch, List.length_map] using h0)) b6
   conv => whnf
   replace b6 := grdS b6
   obtain ⟨g10, b6⟩ := b6
   replace g10 : (0 : Int) ≤ s6.2.1 ∧ s6.2.1 < (((s6.2.2.map TmC).length : Nat) : Int) := by simpa only [se_len, se_ch, List.length_map] using g10
   replace b6 := bindS b6
   obtain ⟨v11, hv11, b6⟩ := b6
   have i12 : nth (s6.2.2.map TmC) (0 + ((s6.2.1 : Int).toNat)) = some [(I v11.ID), (I v11.At)] := by simpa only [se_map, se_len, se_ch, List.length_map, nth_eq, Nat.zero_add, List.getElem?_map] using gixNF (f := TmC) hv11
   replace b6 := bindS b6
   obtain ⟨y13, hy13, b6⟩ := b6
   have c14 := hq1 v11 _ hy13
   repeat' first | exact rA _ | refine parkI ?_ | exact g10 | (refine CallP.use c14 ?_; conv => whnf) | (rw [i12]; conv => whnf) | (refine frzB_call rfl (slN_nil hn1) ?_; conv => whnf) | (refine And.intro ?_ ?_ <;> conv => whnf) | fail
   refine parkE (fun hc => ?_) (fun hc => ?_)
   ·replace b6 := condT hc b6
    conv => whnf
    replace b6 := grdS b6
    obtain ⟨g15, b6⟩ := b6
    replace g15 : (0 : Int) ≤ s6.1 ∧ s6.1 < (((s6.2.2.map TmC).length : Nat) : Int) := by simpa only [se_len, se_ch, List.length_map] using g15
    replace b6 := bindS b6
    obtain ⟨v16, hv16, b6⟩ := b6
    have i17 : nth (s6.2.2.map TmC) (0 + ((s6.1 : Int).toNat)) = some [(I v16.ID), (I v16.At)] := by simpa only [se_map, se_len, se_ch, List.length_map, nth_eq, Nat.zero_add, List.getElem?_map] using gixNF (f := TmC) hv16
    repeat' first | exact rA _ | refine parkI ?_ | exact g15 | (rw [i17]; conv => whnf) | (refine And.intro ?_ ?_ <;> conv => whnf) | fail
    have e := Option.some.inj b6
    refine LoopW.norm [(0, (LV.sl 0 0 (((IntKind.i64.wrap (s6.1 + 1)), (IntKind.i64.wrap (s6.2.1 + 1)), (s6.2.2.set (s6.1 : Int).toNat v11)).2.2.map TmC).length)), (1, (LV.func (.func fn1) ff1 fc1)), (5, (I ((IntKind.i64.wrap (s6.1 + 1)), (IntKind.i64.wrap (s6.2.1 + 1)), (s6.2.2.set (s6.1 : Int).toNat v11)).1)), (6, (I ((IntKind.i64.wrap (s6.1 + 1)), (IntKind.i64.wrap (s6.2.1 + 1)), (s6.2.2.set (s6.1 : Int).toNat v11)).2.1))] 1 [(0, (.row 49 2 (((IntKind.i64.wrap (s6.1 + 1)), (IntKind.i64.wrap (s6.2.1 + 1)), (s6.2.2.set (s6.1 : Int).toNat v11)).2.2.map TmC)))] ⟨(by exact congrArg (LV.sl 0 0) (clL _ : (s6.2.2.map TmC).length = (((IntKind.i64.wrap (s6.1 + 1)), (IntKind.i64.wrap (s6.2.1 + 1)), (s6.2.2.set (s6.1 : Int).toNat v11)).2.2.map TmC).length)), rfl, (smT : ((I (IntKind.i64.wrap (s6.1 + 1))) : LV) = (I ((IntKind.i64.wrap (s6.1 + 1)), (IntKind.i64.wrap (s6.2.1 + 1)), (s6.2.2.set (s6.1 : Int).toNat v11)).1)), (smT : ((I (IntKind.i64.wrap (s6.2.1 + 1))) : LV) = (I ((IntKind.i64.wrap (s6.1 + 1)), (IntKind.i64.wrap (s6.2.1 + 1)), (s6.2.2.set (s6.1 : Int).toNat v11)).2.1)), trivial⟩ ⟨⟨(congrArg (fun q => some (Blk.row 49 2 q)) (smT : ((setN (s6.2.2.map TmC) (0 + ((s6.1 : Int).toNat)) [(I v11.ID), (I v11.At)]) : List (List LV)) = (((IntKind.i64.wrap (s6.1 + 1)), (IntKind.i64.wrap (s6.2.1 + 1)), (s6.2.2.set (s6.1 : Int).toNat v11)).2.2.map TmC))), rfl, NLss_bel (NLss_map' _)⟩, trivial⟩ blT rfl (K6 _ e.symm)
   ·replace b6 := condF hc b6
    conv => whnf
    repeat' first | exact rA _ | refine parkI ?_ | (refine And.intro ?_ ?_ <;> conv => whnf) | fail
    have e := Option.some.inj b6
    refine LoopW.norm [(0, (LV.sl 0 0 ((s6.1, (IntKind.i64.wrap (s6.2.1 + 1)), s6.2.2).2.2.map TmC).length)), (1, (LV.func (.func fn1) ff1 fc1)), (5, (I (s6.1, (IntKind.i64.wrap (s6.2.1 + 1)), s6.2.2).1)), (6, (I (s6.1, (IntKind.i64.wrap (s6.2.1 + 1)), s6.2.2).2.1))] 1 [(0, (.row 49 2 ((s6.1, (IntKind.i64.wrap (s6.2.1 + 1)), s6.2.2).2.2.map TmC)))] ⟨(by exact congrArg (LV.sl 0 0) (clL _ : (s6.2.2.map TmC).length = ((s6.1, (IntKind.i64.wrap (s6.2.1 + 1)), s6.2.2).2.2.map TmC).length)), rfl, (smT : ((I s6.1) : LV) = (I (s6.1, (IntKind.i64.wrap (s6.2.1 + 1)), s6.2.2).1)), (smT : ((I (IntKind.i64.wrap (s6.2.1 + 1))) : LV) = (I (s6.1, (IntKind.i64.wrap (s6.2.1 + 1)), s6.2.2).2.1)), trivial⟩ ⟨⟨(congrArg (fun q => some (Blk.row 49 2 q)) (smT : ((s6.2.2.map TmC) : List (List LV)) = ((s6.1, (IntKind.i64.wrap (s6.2.1 + 1)), s6.2.2).2.2.map TmC))), rfl, NLss_bel (NLss_map' _)⟩, trivial⟩ blT rfl (K6 _ e.symm)
  ·replace b6 := condF (by first | exact hc | (simpa only [se_len, se_ch, List.length_map] using hc; done) | (have h0 : (decide (s6.2.1 < (((s6.2.2.map TmC).length : Nat) : Int))) = false := hc; simpa only [se_len, se_ch, List.length_map] using h0)) b6
   conv => whnf
   have e := Option.some.inj b6
   replace e := hbrk6 _ e.symm
   rw [e] at r6
   dsimp only [aftM] at r6
   replace r6 := grdS r6
   obtain ⟨g18, r6⟩ := r6
   replace g18 : (0 : Int) ≤ s6.1 ∧ s6.1 < (((s6.2.2.map TmC).length : Nat) : Int) := by simpa only [se_len, se_ch, List.length_map] using g18
   have l19 : (0 + (s6.1 : Int).toNat) + ((s6.2.2.map TmC).length - (s6.1 : Int).toNat) = (s6.2.2.map TmC).length := by (try simp only [se_len, se_ch, List.length_map]); (try simp only [se_len, se_ch, List.length_map] at *); omega
   replace r6 := grdS r6
   obtain ⟨g20, r6⟩ := r6
   replace g20 : (0 : Int) ≤ s6.1 ∧ s6.1 ≤ (((s6.2.2.map TmC).length : Nat) : Int) := by simpa only [se_len, se_ch, List.length_map] using g20
   have e := Option.some.inj r6
   subst e
   repeat' first | exact rA _ | exact ⟨[(0, (.row 49 2 ((s6.2.2.take (s6.1 : Int).toNat).map TmC)))], ⟨⟨(congrArg (fun q => some (Blk.row 49 2 q)) (by first | (simp only [se_map, se_byL, se_len, se_ch, List.length_map]; done) | (simp only [se_map, se_byL, se_len, se_ch, List.length_map, Nat.zero_add]; done) : (((s6.2.2.map TmC).take (0 + (s6.1 : Int).toNat)) : List (List LV)) = ((s6.2.2.take (s6.1 : Int).toNat).map TmC))), rfl, NLss_bel (NLss_map' _)⟩, trivial⟩, blT, (congrArg (LV.sl 0 0) (by (try simp only [se_map, se_byL, se_len, se_ch, List.length_map]); first | done | rfl | omega | (simp only [se_len, se_ch, List.length_map] at *; omega) : (s6.1 : Int).toNat = ((s6.2.2.take (s6.1 : Int).toNat).map TmC).length)), rfl⟩ | exact g18 | exact g20 | exact l19 | exact clA _ | (refine And.intro ?_ ?_ <;> conv => whnf) | exact clG _ | (refine gand ?_ h; assumption) | exact clN _ | fail

def wheel_without_1 (a0 : Tm) (q1 : Int) : Option Bool :=
 some (decide (a0.ID = q1))

theorem c_wheel_without_1 (a0 : Tm) (q1 : Int) (r : Bool) (h : wheel_without_1 a0 q1 = some r) : CallP Tryz.prog 78 [(LV.agg [(I a0.ID), (I a0.At)]), (LV.rptr [(I q1)])] (LV.bool r) := by
 unfold wheel_without_1 at h
 refine .intro nlA (.intro TT_ok Tryz.func78 rfl rfl [0, 1, 2, 3] rfl ?_)
 conv => whnf
 have e := Option.some.inj h
 subst e
 repeat' first | exact rA _ | exact clA _ | (refine And.intro ?_ ?_ <;> conv => whnf) | exact clG _ | (refine gand ?_ h; assumption) | exact clN _ | fail

def wheel_without_x (a0 : (List Tm)) (a1 : Int) : Option (List Tm) :=
 (slices_Clone_Timer a0).bind fun y5 =>
 (slices_DeleteFunc_Timer y5 (fun x0_ => wheel_without_1 x0_ a1)).bind fun y7 =>
 some y7

theorem w_wheel_without_x (a0 : (List Tm)) (a1 : Int) (r : (List Tm)) (h : wheel_without_x a0 a1 = some r) : CallW Tryz.prog 60 [(LV.ro 2 (a0.map TmC)), (I a1)] ⟨0, []⟩ (fun lv H' => lv = (LV.sl 0 0 (r.map TmC).length) ∧ H' = ⟨1, [(0, (.row 49 2 (r.map TmC)))]⟩) := by
 unfold wheel_without_x at h
 refine CallW.shrinkR (CallW.intro TT_ok Tryz.func60 rfl rfl [0, 1, 3, 4, 1000076, 2000076] rfl ?_)
 conv => whnf
 replace h := bindS h
 obtain ⟨y5, hy5, h⟩ := h
 have c6 := cf_slices_Clone_Timer a0 _ hy5
 replace h := bindS h
 obtain ⟨y7, hy7, h⟩ := h
 have c8 := w_slices_DeleteFunc_Timer y5 78 [] [(LV.rptr [(I a1)])] (fun x0_ => wheel_without_1 x0_ a1) (fun x0_ r h => c_wheel_without_1 x0_ a1 r h) nlB _ hy7
 have e := Option.some.inj h
 subst e
 repeat' first | exact rA _ | exact ⟨[(1, 0)], 1, [(0, (.row 49 2 (y7.map TmC)))], rfl, ⟨⟨rfl, rfl, .inl ⟨rfl, nlT⟩⟩, rfl, rfl, trivial⟩, rfl, rfl, rfl, rfl⟩ | (refine CallW.done (CallF.at c6 nlA (NLss_map' _)) ?_; conv => whnf) | (refine ⟨_, _, CallF.at c6 nlA (NLss_map' _), ?_⟩; conv => whnf) | (refine CallW.frame (nx2 := 2) (l2 := [(1, (.row 49 2 (y7.map TmC)))]) [(1, 0)] [(0, 1)] c8 rfl rfl ⟨⟨rfl, rfl, .inl ⟨rfl, nlT⟩⟩, rfl, rfl, trivial⟩ rfl rfl ⟨⟨rfl, rfl, .inl ⟨rfl, nlT⟩⟩, rfl, rfl, trivial⟩ ?_; conv => whnf) | exact clA _ | (refine And.intro ?_ ?_ <;> conv => whnf) | exact clH _ | (refine gand ?_ h; assumption) | exact clN _ | exact clL _ | fail

def wheel_Arm (a0 : (List Tm)) (a1 : Tm) : Option ((List Tm) × Int) :=
 (wheel_Right a0).bind fun y1 =>
 (gd (!(!y1)) (wheel_isTimer a1)).bind fun y3 =>
 (bif (bif (!y1) then true else (!y3)) then
  some ([], 1)
 else
  (wheel_without_x a0 a1.ID).bind fun y5 =>
  grd (fits ((y5 ++ ([a1] : (List Tm))) : List Tm).length 16) <|
  (bif (decide (64 < (((y5 ++ ([a1] : (List Tm))).length : Nat) : Int))) then
   some ([], 5)
  else
   (wheel_spun (y5 ++ ([a1] : (List Tm)))).bind fun y8 =>
   some (y8, 0)))

theorem c_wheel_Arm (a0 : (List Tm)) (a1 : Tm) (r : ((List Tm) × Int)) (h : wheel_Arm a0 a1 = some r) : CallP Tryz.prog 28 [(LV.ro 2 (a0.map TmC)), (LV.agg [(I a1.ID), (I a1.At)])] (LV.tup [(LV.ro 2 (r.1.map TmC)), (I r.2)]) := by
 unfold wheel_Arm at h
 refine .intro nlA (.intro TT_ok Tryz.func28 rfl rfl [0, 1, 3, 4, 5, 6, 14, 24, 1000060] rfl ?_)
 conv => whnf
 replace h := bindS h
 obtain ⟨y1, hy1, h⟩ := h
 have c2 := c_wheel_Right a0 _ hy1
 replace h := bindS h
 obtain ⟨y3, hy3, h⟩ := h
 have c4 := fun (hg : (!(!y1)) = true) => c_wheel_isTimer a1 _ (gdS hg hy3)
 repeat' first | exact rA _ | refine parkI ?_ | (refine ⟨_, c4, ?_⟩; conv => whnf) | (refine CallP.use c2 ?_; conv => whnf) | (refine ⟨_, _, CallP.at c2, ?_⟩; conv => whnf) | (refine ⟨_, fun _ => c2, ?_⟩; conv => whnf) | (refine W.drawnM (id := 3) 9 TT_ok hmix1 [0, 0, 0, 0, 0, 0, 1, 2] [0, 0, 0, 1, 1, 1, 2, 2] rfl ?_; conv => whnf) | exact clA _ | (refine And.intro ?_ ?_ <;> conv => whnf) | exact clG _ | (refine gand ?_ h; assumption) | exact clN _ | fail
 refine parkE (fun hc => ?_) (fun hc => ?_)
 ·replace h := condT hc h
  conv => whnf
  have e := Option.some.inj h
  subst e
  repeat' first | exact rA _ | (refine W.drawnM (id := 3) 9 TT_ok hmix1 [0, 0, 0, 0, 0, 0, 1, 2] [0, 0, 0, 1, 1, 1, 2, 2] rfl ?_; conv => whnf) | exact clA _ | (refine And.intro ?_ ?_ <;> conv => whnf) | exact clG _ | (refine gand ?_ h; assumption) | exact clN _ | fail
 ·replace h := condF hc h
  conv => whnf
  replace h := bindS h
  obtain ⟨y5, hy5, h⟩ := h
  have c6 : CallW Tryz.prog 60 [(LV.ro 2 (a0.map TmC)), (I a1.ID)] ⟨0, []⟩ (fun lv H' => lv = (LV.sl 0 0 (y5.map TmC).length) ∧ H' = ⟨1, [(0, (.row 49 2 (y5.map TmC)))]⟩) := w_wheel_without_x a0 a1.ID _ hy5
  replace h := grdS h
  obtain ⟨g7, h⟩ := h
  replace g7 : fits (((y5.map TmC) ++ [[(I a1.ID), (I a1.At)]])).length 16 := by simpa only [se_len, se_ch, List.length_map] using g7
  repeat' first | exact rA _ | refine parkI ?_ | exact g7 | (refine CallW.frame (nx2 := 2) (l2 := [(1, (.row 49 2 (y5.map TmC)))]) [] [(0, 1)] c6 rfl rfl trivial rfl rfl ⟨⟨rfl, rfl, .inl ⟨rfl, nlT⟩⟩, rfl, rfl, trivial⟩ ?_; conv => whnf) | (refine ⟨_, _, CallW.frame (nx2 := 2) (l2 := [(1, (.row 49 2 (y5.map TmC)))]) [] [(0, 1)] c6 rfl rfl trivial rfl rfl ⟨⟨rfl, rfl, .inl ⟨rfl, nlT⟩⟩, rfl, rfl, trivial⟩ ⟨rfl, rfl⟩, ?_⟩; conv => whnf) | (refine W.drawnM (id := 3) 9 TT_ok hmix1 [0, 0, 0, 0, 0, 0, 1, 2] [0, 0, 0, 1, 1, 1, 2, 2] rfl ?_; conv => whnf) | exact clA _ | (refine And.intro ?_ ?_ <;> conv => whnf) | exact clG _ | (refine gand ?_ h; assumption) | exact clN _ | fail
  refine parkE (fun hc => ?_) (fun hc => ?_)
  ·replace h := condT (by first | exact hc | (simpa only [se_len, se_ch, List.length_map] using hc; done) | (have h0 : (decide (64 < (((((y5.map TmC) ++ [[(I a1.ID), (I a1.At)]])).length : Nat) : Int))) = true := hc; simpa only [se_len, se_ch, List.length_map] using h0)) h
   conv => whnf
   have e := Option.some.inj h
   subst e
   repeat' first | exact rA _ | (refine W.drawnM (id := 3) 9 TT_ok hmix1 [0, 0, 0, 0, 0, 0, 1, 2] [0, 0, 0, 1, 1, 1, 2, 2] rfl ?_; conv => whnf) | exact clA _ | (refine And.intro ?_ ?_ <;> conv => whnf) | exact clG _ | (refine gand ?_ h; assumption) | exact clN _ | fail
  ·replace h := condF (by first | exact hc | (simpa only [se_len, se_ch, List.length_map] using hc; done) | (have h0 : (decide (64 < (((((y5.map TmC) ++ [[(I a1.ID), (I a1.At)]])).length : Nat) : Int))) = false := hc; simpa only [se_len, se_ch, List.length_map] using h0)) h
   conv => whnf
   replace h := bindS h
   obtain ⟨y8, hy8, h⟩ := h
   have c9 : CallF Tryz.prog 61 [(LV.ro 2 ((y5.map TmC) ++ [[(I a1.ID), (I a1.At)]]))] 49 2 (y8.map TmC) := by first | exact cf_wheel_spun (y5 ++ ([a1] : (List Tm))) _ hy8 | (simpa only [se_map, se_byL, se_len, se_ch, List.length_map] using cf_wheel_spun (y5 ++ ([a1] : (List Tm))) _ hy8)
   have e := Option.some.inj h
   subst e
   repeat' first | exact rA _ | (refine CallW.done (CallF.at c9 nlA (NLss_map' _)) ?_; conv => whnf) | (refine ⟨_, _, CallF.at c9 nlA (NLss_map' _), ?_⟩; conv => whnf) | (refine W.drawnM (id := 3) 9 TT_ok hmix1 [0, 0, 0, 0, 0, 0, 1, 2] [0, 0, 0, 1, 1, 1, 2, 2] rfl ?_; conv => whnf) | exact clA _ | (refine And.intro ?_ ?_ <;> conv => whnf) | exact clG _ | (refine gand ?_ h; assumption) | exact clN _ | fail

end Go.RX
