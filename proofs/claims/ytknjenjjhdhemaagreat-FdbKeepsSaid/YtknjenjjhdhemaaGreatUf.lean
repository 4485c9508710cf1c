/- Plain functions, and what says that the program's functions compute them. -/
import Derived.Test.YtknjenjjhdhemaaGreatUb
set_option linter.unusedVariables false
set_option linter.unusedSimpArgs false
open Go Go.RX Go.Proofs
namespace Go.RX
set_option maxRecDepth 10000
set_option maxHeartbeats 4000000
attribute [local irreducible] CallW CallP LoopW W IntKind.wrap bitI
def slices_DeleteFunc_Entry_c0 (q1 : (En → Option Bool)) (s17 : (Int × Int × (List En))) : Option (Step (List En) (Int × Int × (List En))) :=
 (bif (decide (s17.2.1 < ((s17.2.2.length : Nat) : Int))) then
  grd ((0 : Int) ≤ s17.2.1 ∧ s17.2.1 < ((s17.2.2.length : Nat) : Int)) <|
  (gixN s17.2.2 (s17.2.1 : Int).toNat).bind fun v16 =>
  (q1 v16).bind fun y18 =>
  (bif (!y18) then
   grd ((0 : Int) ≤ s17.1 ∧ s17.1 < ((s17.2.2.length : Nat) : Int)) <|
   (gixN s17.2.2 (s17.1 : Int).toNat).bind fun v21 =>
   some (.nxt ((IntKind.i64.wrap (s17.1 + 1)), (IntKind.i64.wrap (s17.2.1 + 1)), (s17.2.2.set (s17.1 : Int).toNat v16)))
  else
   some (.nxt (s17.1, (IntKind.i64.wrap (s17.2.1 + 1)), s17.2.2)))
 else
  some (.brk (s17.1, s17.2.1, s17.2.2)))

def slices_DeleteFunc_Entry (a0 : (List En)) (q1 : (En → Option Bool)) : Option (List En) :=
 (slices_IndexFunc_Entry a0 q1).bind fun y13 =>
 (bif (decide (y13 = (-1))) then
  some a0
 else
  aft (loopF 1000000 (slices_DeleteFunc_Entry_c0 q1) (y13, (IntKind.i64.wrap (y13 + 1)), a0)) fun s17 =>
  grd ((0 : Int) ≤ s17.1 ∧ s17.1 < ((s17.2.2.length : Nat) : Int)) <|
  grd ((0 : Int) ≤ s17.1 ∧ s17.1 ≤ ((s17.2.2.length : Nat) : Int)) <|
  some (s17.2.2.take (s17.1 : Int).toNat))

theorem w_slices_DeleteFunc_Entry (a0 : (List En)) (fn1 : Nat) (ff1 fc1 : List LV) (q1 : (En → Option Bool)) (hq1 : ∀ (x0 : En) (r : Bool), q1 x0 = some r → CallP Tryz.prog fn1 (ff1 ++ [(LV.agg [(I x0.Mac), (I x0.Port), (I x0.Seen), (LV.bool x0.Static)])] ++ fc1) (LV.bool r)) (hn1 : NLs ff1 ∧ NLs fc1) (r : (List En)) (h : slices_DeleteFunc_Entry a0 q1 = some r) : CallW Tryz.prog 56 [(LV.sl 0 0 (a0.map EnC).length), (LV.func (.func fn1) ff1 fc1)] ⟨1, [(0, (.row 42 4 (a0.map EnC)))]⟩ (fun lv H' => lv = (LV.sl 0 0 (r.map EnC).length) ∧ H' = ⟨1, [(0, (.row 42 4 (r.map EnC)))]⟩) := by
 have hnA1 := hn1.1
 have hnB1 := hn1.2
 unfold slices_DeleteFunc_Entry at h
 refine CallW.shrink (CallW.intro TT_ok Tryz.func56 rfl rfl [0, 1, 4, 5, 6, 7, 12, 19, 29, 1000070] rfl ?_)
 conv => whnf
 have n12 : slNs [(LV.ro 4 (a0.map EnC)), (LV.func (.func fn1) ff1 fc1)] = [] := slNs_nil nlA
 replace h := bindS h
 obtain ⟨y13, hy13, h⟩ := h
 have c14 := c_slices_IndexFunc_Entry a0 fn1 ff1 fc1 q1 hq1 hn1 _ hy13
 repeat' first | exact rA _ | refine parkI ?_ | (refine frzB_call n12 rfl ?_; conv => whnf) | (refine frz_nil n12 ?_; conv => whnf) | (refine CallW.done (CallP.lendG c14 nlB (show Lents _ [(LV.sl 0 0 (a0.map EnC).length), (LV.func (.func fn1) ff1 fc1)] [(LV.ro 4 (a0.map EnC)), (LV.func (.func fn1) ff1 fc1)] from ⟨Lent.sl rfl lnT, .of nlA, True.intro⟩)) ?_; conv => whnf) | (refine And.intro ?_ ?_ <;> conv => whnf) | fail
 refine parkE (fun hc => ?_) (fun hc => ?_)
 ·replace h := condT hc h
  conv => whnf
  have e := Option.some.inj h
  subst e
  repeat' first | exact rA _ | exact ⟨[(0, (.row 42 4 (a0.map EnC)))], ⟨⟨rfl, rfl, NLss_bel (NLss_map' _)⟩, trivial⟩, blT, rfl, rfl⟩ | exact clA _ | (refine And.intro ?_ ?_ <;> conv => whnf) | exact clG _ | (refine gand ?_ h; assumption) | exact clN _ | fail
 ·replace h := condF hc h
  conv => whnf
  repeat' first | exact rA _ | refine parkI ?_ | (refine And.intro ?_ ?_ <;> conv => whnf) | fail
  replace h := aftS h
  obtain ⟨O17, hO17, r17⟩ := h
  refine LoopW.norm [(0, (LV.sl 0 0 (a0.map EnC).length)), (1, (LV.func (.func fn1) ff1 fc1)), (5, (I y13)), (6, (I (IntKind.i64.wrap (y13 + 1))))] 1 [(0, (.row 42 4 (a0.map EnC)))] ⟨(by exact congrArg (LV.sl 0 0) (clL _ : (a0.map EnC).length = (a0.map EnC).length)), rfl, (smT : ((I y13) : LV) = (I y13)), (smT : ((I (IntKind.i64.wrap (y13 + 1))) : LV) = (I (IntKind.i64.wrap (y13 + 1)))), trivial⟩ ⟨⟨(congrArg (fun q => some (Blk.row 42 4 q)) (smT : ((a0.map EnC) : List (List LV)) = (a0.map EnC))), rfl, NLss_bel (NLss_map' _)⟩, trivial⟩ blT rfl ?_
  refine LoopW.forF (fun s17 => [(0, (LV.sl 0 0 (s17.2.2.map EnC).length)), (1, (LV.func (.func fn1) ff1 fc1)), (5, (I s17.1)), (6, (I s17.2.1))]) (fun s17 => ⟨1, [(0, (.row 42 4 (s17.2.2.map EnC)))]⟩) hO17 (fun s17 o17 b17 K17 hret17 hbrk17 => ?_)
  unfold slices_DeleteFunc_Entry_c0 at b17
  refine LoopW.round TT_ok [0, 1, 4, 5, 6, 7, 12, 19, 29, 1000070] ?_
  conv => whnf
  repeat' first | exact rA _ | refine parkI ?_ | (refine And.intro ?_ ?_ <;> conv => whnf) | fail
  refine parkE (fun hc => ?_) (fun hc => ?_)
  ·replace b17 := condT (by first | exact hc | (simpa only [se_len, se_ch, List.length_map] using hc; done) | (have h0 : (decide (s17.2.1 < (((s17.2.2.map EnC).length : Nat) : Int))) = true := hc; simpa only [se_len, se_ch, List.length_map] using h0)) b17
   conv => whnf
   replace b17 := grdS b17
   obtain ⟨g15, b17⟩ := b17
   replace g15 : (0 : Int) ≤ s17.2.1 ∧ s17.2.1 < (((s17.2.2.map EnC).length : Nat) : Int) := by simpa only [se_len, se_ch, List.length_map] using g15
   replace b17 := bindS b17
   obtain ⟨v16, hv16, b17⟩ := b17
   have i17 : nth (s17.2.2.map EnC) (0 + ((s17.2.1 : Int).toNat)) = some [(I v16.Mac), (I v16.Port), (I v16.Seen), (LV.bool v16.Static)] := by simpa only [se_map, se_len, se_ch, List.length_map, nth_eq, Nat.zero_add, List.getElem?_map] using gixNF (f := EnC) hv16
   replace b17 := bindS b17
   obtain ⟨y18, hy18, b17⟩ := b17
   have c19 := hq1 v16 _ hy18
   repeat' first | exact rA _ | refine parkI ?_ | exact g15 | (refine CallP.use c19 ?_; conv => whnf) | (rw [i17]; conv => whnf) | (refine frzB_call rfl (slN_nil hn1) ?_; conv => whnf) | (refine And.intro ?_ ?_ <;> conv => whnf) | fail
   refine parkE (fun hc => ?_) (fun hc => ?_)
   ·replace b17 := condT hc b17
    conv => whnf
    replace b17 := grdS b17
    obtain ⟨g20, b17⟩ := b17
    replace g20 : (0 : Int) ≤ s17.1 ∧ s17.1 < (((s17.2.2.map EnC).length : Nat) : Int) := by simpa only [se_len, se_ch, List.length_map] using g20
    replace b17 := bindS b17
    obtain ⟨v21, hv21, b17⟩ := b17
    have i22 : nth (s17.2.2.map EnC) (0 + ((s17.1 : Int).toNat)) = some [(I v21.Mac), (I v21.Port), (I v21.Seen), (LV.bool v21.Static)] := by simpa only [se_map, se_len, se_ch, List.length_map, nth_eq, Nat.zero_add, List.getElem?_map] using gixNF (f := EnC) hv21
    repeat' first | exact rA _ | refine parkI ?_ | exact g20 | (rw [i22]; conv => whnf) | (refine And.intro ?_ ?_ <;> conv => whnf) | fail
    have e := Option.some.inj b17
    refine LoopW.norm [(0, (LV.sl 0 0 ((s17.2.2.set (s17.1 : Int).toNat v16).map EnC).length)), (1, (LV.func (.func fn1) ff1 fc1)), (5, (I (IntKind.i64.wrap (s17.1 + 1)))), (6, (I (IntKind.i64.wrap (s17.2.1 + 1))))] 1 [(0, (.row 42 4 ((s17.2.2.set (s17.1 : Int).toNat v16).map EnC)))] ⟨(by exact congrArg (LV.sl 0 0) (clL _ : (s17.2.2.map EnC).length = ((s17.2.2.set (s17.1 : Int).toNat v16).map EnC).length)), rfl, (smT : ((I (IntKind.i64.wrap (s17.1 + 1))) : LV) = (I (IntKind.i64.wrap (s17.1 + 1)))), (smT : ((I (IntKind.i64.wrap (s17.2.1 + 1))) : LV) = (I (IntKind.i64.wrap (s17.2.1 + 1)))), trivial⟩ ⟨⟨(congrArg (fun q => some (Blk.row 42 4 q)) (smT : ((setN (s17.2.2.map EnC) (0 + ((s17.1 : Int).toNat)) [(I v16.Mac), (I v16.Port), (I v16.Seen), (LV.bool v16.Static)]) : List (List LV)) = ((s17.2.2.set (s17.1 : Int).toNat v16).map EnC))), rfl, NLss_bel (NLss_map' _)⟩, trivial⟩ blT rfl (K17 _ e.symm)
   ·replace b17 := condF hc b17
    conv => whnf
    repeat' first | exact rA _ | refine parkI ?_ | (refine And.intro ?_ ?_ <;> conv => whnf) | fail
    have e := Option.some.inj b17
    refine LoopW.norm [(0, (LV.sl 0 0 (s17.2.2.map EnC).length)), (1, (LV.func (.func fn1) ff1 fc1)), (5, (I s17.1)), (6, (I (IntKind.i64.wrap (s17.2.1 + 1))))] 1 [(0, (.row 42 4 (s17.2.2.map EnC)))] ⟨(by exact congrArg (LV.sl 0 0) (clL _ : (s17.2.2.map EnC).length = (s17.2.2.map EnC).length)), rfl, (smT : ((I s17.1) : LV) = (I s17.1)), (smT : ((I (IntKind.i64.wrap (s17.2.1 + 1))) : LV) = (I (IntKind.i64.wrap (s17.2.1 + 1)))), trivial⟩ ⟨⟨(congrArg (fun q => some (Blk.row 42 4 q)) (smT : ((s17.2.2.map EnC) : List (List LV)) = (s17.2.2.map EnC))), rfl, NLss_bel (NLss_map' _)⟩, trivial⟩ blT rfl (K17 _ e.symm)
  ·replace b17 := condF (by first | exact hc | (simpa only [se_len, se_ch, List.length_map] using hc; done) | (have h0 : (decide (s17.2.1 < (((s17.2.2.map EnC).length : Nat) : Int))) = false := hc; simpa only [se_len, se_ch, List.length_map] using h0)) b17
   conv => whnf
   have e := Option.some.inj b17
   replace e := hbrk17 _ e.symm
   rw [e] at r17
   dsimp only [aftM] at r17
   replace r17 := grdS r17
   obtain ⟨g23, r17⟩ := r17
   replace g23 : (0 : Int) ≤ s17.1 ∧ s17.1 < (((s17.2.2.map EnC).length : Nat) : Int) := by simpa only [se_len, se_ch, List.length_map] using g23
   have l24 : (0 + (s17.1 : Int).toNat) + ((s17.2.2.map EnC).length - (s17.1 : Int).toNat) = (s17.2.2.map EnC).length := by (try simp only [se_len, se_ch, List.length_map]); (try simp only [se_len, se_ch, List.length_map] at *); omega
   replace r17 := grdS r17
   obtain ⟨g25, r17⟩ := r17
   replace g25 : (0 : Int) ≤ s17.1 ∧ s17.1 ≤ (((s17.2.2.map EnC).length : Nat) : Int) := by simpa only [se_len, se_ch, List.length_map] using g25
   have e := Option.some.inj r17
   subst e
   repeat' first | exact rA _ | exact ⟨[(0, (.row 42 4 ((s17.2.2.take (s17.1 : Int).toNat).map EnC)))], ⟨⟨(congrArg (fun q => some (Blk.row 42 4 q)) (by first | (simp only [se_map, se_byL, se_len, se_ch, List.length_map]; done) | (simp only [se_map, se_byL, se_len, se_ch, List.length_map, Nat.zero_add]; done) : (((s17.2.2.map EnC).take (0 + (s17.1 : Int).toNat)) : List (List LV)) = ((s17.2.2.take (s17.1 : Int).toNat).map EnC))), rfl, NLss_bel (NLss_map' _)⟩, trivial⟩, blT, (congrArg (LV.sl 0 0) (by (try simp only [se_map, se_byL, se_len, se_ch, List.length_map]); first | done | rfl | omega | (simp only [se_len, se_ch, List.length_map] at *; omega) : (s17.1 : Int).toNat = ((s17.2.2.take (s17.1 : Int).toNat).map EnC).length)), rfl⟩ | exact g23 | exact g25 | exact l24 | exact clA _ | (refine And.intro ?_ ?_ <;> conv => whnf) | exact clG _ | (refine gand ?_ h; assumption) | exact clN _ | fail

def fdb_Flush_1 (a0 : En) (q1 : Int) : Option Bool :=
 some (bif a0.Static then true else (bif (!decide (q1 = (-1))) then (!decide (a0.Port = q1)) else false))

theorem c_fdb_Flush_1 (a0 : En) (q1 : Int) (r : Bool) (h : fdb_Flush_1 a0 q1 = some r) : CallP Tryz.prog 31 [(LV.agg [(I a0.Mac), (I a0.Port), (I a0.Seen), (LV.bool a0.Static)]), (LV.rptr [(I q1)])] (LV.bool r) := by
 unfold fdb_Flush_1 at h
 refine .intro nlA (.intro TT_ok Tryz.func31 rfl rfl [0, 1, 2, 3] rfl ?_)
 conv => whnf
 have e := Option.some.inj h
 subst e
 repeat' first | exact rA _ | exact clA _ | (refine And.intro ?_ ?_ <;> conv => whnf) | exact clG _ | (refine gand ?_ h; assumption) | exact clN _ | fail

def fdb_keep_1_fdb_Flush_1 (a0 : En) (q1_0 : Int) : Option Bool :=
 (fdb_Flush_1 a0 q1_0).bind fun y12 =>
 some (!y12)

theorem c_fdb_keep_1_fdb_Flush_1 (a0 : En) (q1_0 : Int) (r : Bool) (h : fdb_keep_1_fdb_Flush_1 a0 q1_0 = some r) : CallP Tryz.prog 57 [(LV.agg [(I a0.Mac), (I a0.Port), (I a0.Seen), (LV.bool a0.Static)]), (LV.rptr [(LV.func (.func 31) [] [(LV.rptr [(I q1_0)])])])] (LV.bool r) := by
 unfold fdb_keep_1_fdb_Flush_1 at h
 refine .intro nlA (.intro TT_ok Tryz.func57 rfl rfl [0, 1, 2, 3] rfl ?_)
 conv => whnf
 replace h := bindS h
 obtain ⟨y12, hy12, h⟩ := h
 have c13 : CallP Tryz.prog 31 [(LV.agg [(I a0.Mac), (I a0.Port), (I a0.Seen), (LV.bool a0.Static)]), (LV.rptr [(I q1_0)])] (LV.bool y12) := by first | exact c_fdb_Flush_1 a0 q1_0 _ hy12 | (simpa only [se_map, se_byL, se_len, se_ch, List.length_map] using c_fdb_Flush_1 a0 q1_0 _ hy12)
 have e := Option.some.inj h
 subst e
 repeat' first | exact rA _ | (refine CallP.use c13 ?_; conv => whnf) | exact clA _ | (refine And.intro ?_ ?_ <;> conv => whnf) | exact clG _ | (refine gand ?_ h; assumption) | exact clN _ | fail

def fdb_keep_fdb_Flush_1_c0 (q1_0 : Int) (k16 : Nat) (s16 : Tb) : Option (Step Tb Tb) :=
 grd ((0 : Int) ≤ ((k16 : Nat) : Int) ∧ ((k16 : Nat) : Int) < ((s16.Buckets.length : Nat) : Int)) <|
 (gixN s16.Buckets (((k16 : Nat) : Int) : Int).toNat).bind fun v8 =>
 (slices_Clone_Entry v8).bind fun y10 =>
 (slices_DeleteFunc_Entry y10 (fun x0_ => fdb_keep_1_fdb_Flush_1 x0_ q1_0)).bind fun y12 =>
 grd ((0 : Int) ≤ ((k16 : Nat) : Int) ∧ ((k16 : Nat) : Int) < ((s16.Buckets.length : Nat) : Int)) <|
 some (.nxt (⟨(s16.Buckets.set (((k16 : Nat) : Int) : Int).toNat y12), s16.Slots, s16.Age⟩ : Tb))

def fdb_keep_fdb_Flush_1 (a0 : Tb) (q1_0 : Int) : Option Tb :=
 (fdb_own_x a0).bind fun y5 =>
 aft (rangeN (fdb_keep_fdb_Flush_1_c0 q1_0) ((y5.Buckets.length : Nat) : Int) y5) fun s16 =>
 some s16

theorem c_fdb_keep_fdb_Flush_1 (a0 : Tb) (q1_0 : Int) (r : Tb) (h : fdb_keep_fdb_Flush_1 a0 q1_0 = some r) : CallP Tryz.prog 25 [(LV.agg [(LV.ro 1 (a0.Buckets.map (roC 4 EnC))), (I a0.Slots), (I a0.Age)]), (LV.func (.func 31) [] [(LV.rptr [(I q1_0)])])] (LV.agg [(LV.ro 1 (r.Buckets.map (roC 4 EnC))), (I r.Slots), (I r.Age)]) := by
 unfold fdb_keep_fdb_Flush_1 at h
 refine .intro nlA (.intro TT_ok Tryz.func25 rfl rfl [0, 1, 2, 3, 4, 5, 6, 10, 11, 12, 13, 1000055, 1000056, 2000056] rfl ?_)
 conv => whnf
 replace h := bindS h
 obtain ⟨y5, hy5, h⟩ := h
 have c6 : CallW Tryz.prog 55 [(LV.agg [(LV.ro 1 (a0.Buckets.map (roC 4 EnC))), (I a0.Slots), (I a0.Age)])] ⟨0, []⟩ (fun lv H' => lv = (LV.agg [(LV.sl 0 0 (y5.Buckets.map (roC 4 EnC)).length), (I y5.Slots), (I y5.Age)]) ∧ H' = ⟨1, [(0, (.row 39 1 (y5.Buckets.map (roC 4 EnC))))]⟩) := w_fdb_own_x a0 _ hy5
 repeat' first | exact rA _ | refine parkI ?_ | (refine CallW.frame (nx2 := 4) (l2 := [(3, (.row 39 1 (y5.Buckets.map (roC 4 EnC))))]) [] [(0, 3)] c6 rfl rfl trivial rfl rfl ⟨⟨rfl, rfl, .inl ⟨rfl, nlT⟩⟩, rfl, rfl, trivial⟩ ?_; conv => whnf) | (refine W.drawnM (id := 5) 6 TT_ok hmix1 [0, 0, 0, 0, 0, 0, 1, 2, 2] [2, 2, 2, 0, 1, 1, 2, 2, 3] rfl ?_; conv => whnf) | exact clA _ | (refine And.intro ?_ ?_ <;> conv => whnf) | exact clG _ | (refine gand ?_ h; assumption) | exact clN _ | fail
 replace h := aftS h
 obtain ⟨O16, hO16, r16⟩ := h
 refine LoopW.frz [1] ?_
 conv => whnf
 repeat' first | exact rA _ | refine parkI ?_ | (refine W.drawnM (id := 5) 6 TT_ok hmix1 [0, 0, 0, 0, 0, 0, 1, 2, 2] [2, 2, 2, 0, 1, 1, 2, 2, 3] rfl ?_; conv => whnf) | exact clA _ | (refine And.intro ?_ ?_ <;> conv => whnf) | exact clG _ | (refine gand ?_ h; assumption) | exact clN _ | fail
 refine LoopW.norm [(2, (LV.ptr 0 0 0)), (3, (LV.rptr [(LV.func (.func 31) [] [(LV.rptr [(I q1_0)])])])), (4, (LV.ptr 2 0 0)), (10, (LV.sl 3 0 (y5.Buckets.map (roC 4 EnC)).length)), (11, (I (((y5.Buckets.map (roC 4 EnC)).length : Nat) : Int))), (12, (I ((0 : Nat) : Int)))] 4 [(0, (.row 24 3 [[(LV.sl 3 0 (y5.Buckets.map (roC 4 EnC)).length), (I y5.Slots), (I y5.Age)]])), (3, (.row 39 1 (y5.Buckets.map (roC 4 EnC)))), (2, (.row 24 3 [[LV.nils, (I 0), (I 0)]]))] ⟨rfl, rfl, rfl, rfl, rfl, rfl, trivial⟩ ⟨⟨rfl, rfl, blT⟩, ⟨⟨rfl, rfl, NLss_bel (NLss_map' _)⟩, ⟨⟨rfl, rfl, blT⟩, trivial⟩⟩⟩ blT rfl ?_
 refine LoopW.forN (fun k16 s16 => [(2, (LV.ptr 0 0 0)), (3, (LV.rptr [(LV.func (.func 31) [] [(LV.rptr [(I q1_0)])])])), (4, (LV.ptr 2 0 0)), (10, (LV.sl 3 0 (s16.Buckets.map (roC 4 EnC)).length)), (11, (I (((y5.Buckets.map (roC 4 EnC)).length : Nat) : Int))), (12, (I ((k16 : Nat) : Int)))]) (fun s16 => ⟨4, [(0, (.row 24 3 [[(LV.sl 3 0 (s16.Buckets.map (roC 4 EnC)).length), (I s16.Slots), (I s16.Age)]])), (3, (.row 39 1 (s16.Buckets.map (roC 4 EnC)))), (2, (.row 24 3 [[LV.nils, (I 0), (I 0)]]))]⟩) hO16 (fun hl16 s16 hs16 => ?_) (fun hl16 k16 s16 o16 hk16 b16 K16 hret16 hbrk16 => ?_)
 ·rw [hs16] at r16
  dsimp only [aftM] at r16
  have hd : decide ((((((y5.Buckets.length : Nat) : Int) : Int).toNat : Nat) : Int) < (((y5.Buckets.map (roC 4 EnC)).length : Nat) : Int)) = false := by rw [decide_eq_false_iff_not]; (try simp only [se_len, se_ch, List.length_map]); omega
  refine LoopW.round TT_ok [0, 1, 2, 3, 4, 5, 6, 10, 11, 12, 13, 1000055, 1000056, 2000056] ?_
  conv => whnf
  repeat' first | exact rA _ | refine parkI ?_ | (refine W.drawnM (id := 5) 6 TT_ok hmix1 [0, 0, 0, 0, 0, 0, 1, 2, 2] [2, 2, 2, 0, 1, 1, 2, 2, 3] rfl ?_; conv => whnf) | exact clA _ | (refine And.intro ?_ ?_ <;> conv => whnf) | exact clG _ | (refine gand ?_ h; assumption) | exact clN _ | fail
  refine parkE (fun hc => ?_) (fun hc => ?_)
  ·exact (Bool.false_ne_true (hd.symm.trans hc)).elim
  ·clear hd
   conv => whnf
   have e := Option.some.inj r16
   subst e
   repeat' first | exact rA _ | (refine W.drawnM (id := 5) 6 TT_ok hmix1 [0, 0, 0, 0, 0, 0, 1, 2, 2] [2, 2, 2, 0, 1, 1, 2, 2, 3] rfl ?_; conv => whnf) | exact clA _ | (refine And.intro ?_ ?_ <;> conv => whnf) | exact clG _ | (refine gand ?_ h; assumption) | exact clN _ | fail
 ·unfold fdb_keep_fdb_Flush_1_c0 at b16
  have hd : decide (((k16 : Nat) : Int) < (((y5.Buckets.map (roC 4 EnC)).length : Nat) : Int)) = true := by rw [decide_eq_true_eq]; (try simp only [se_len, se_ch, List.length_map] at hk16); (try simp only [se_len, se_ch, List.length_map]); omega
  refine LoopW.round TT_ok [0, 1, 2, 3, 4, 5, 6, 10, 11, 12, 13, 1000055, 1000056, 2000056] ?_
  conv => whnf
  repeat' first | exact rA _ | refine parkI ?_ | (refine W.drawnM (id := 5) 6 TT_ok hmix1 [0, 0, 0, 0, 0, 0, 1, 2, 2] [2, 2, 2, 0, 1, 1, 2, 2, 3] rfl ?_; conv => whnf) | exact clA _ | (refine And.intro ?_ ?_ <;> conv => whnf) | exact clG _ | (refine gand ?_ h; assumption) | exact clN _ | fail
  refine parkE (fun hc => ?_) (fun hc => ?_)
  ·clear hd
   conv => whnf
   replace b16 := grdS b16
   obtain ⟨g7, b16⟩ := b16
   replace g7 : (0 : Int) ≤ ((k16 : Nat) : Int) ∧ ((k16 : Nat) : Int) < (((s16.Buckets.map (roC 4 EnC)).length : Nat) : Int) := by simpa only [se_len, se_ch, List.length_map] using g7
   replace b16 := bindS b16
   obtain ⟨v8, hv8, b16⟩ := b16
   have i9 : nth (s16.Buckets.map (roC 4 EnC)) (0 + ((((k16 : Nat) : Int) : Int).toNat)) = some [(LV.ro 4 (v8.map EnC))] := by simpa only [se_map, se_len, se_ch, List.length_map, nth_eq, Nat.zero_add, List.getElem?_map] using gixNF (f := (roC 4 EnC)) hv8
   replace b16 := bindS b16
   obtain ⟨y10, hy10, b16⟩ := b16
   have c11 := cf_slices_Clone_Entry v8 _ hy10
   replace b16 := bindS b16
   obtain ⟨y12, hy12, b16⟩ := b16
   have c13 := w_slices_DeleteFunc_Entry y10 57 [] [(LV.rptr [(LV.func (.func 31) [] [(LV.rptr [(I q1_0)])])])] (fun x0_ => fdb_keep_1_fdb_Flush_1 x0_ q1_0) (fun x0_ r h => c_fdb_keep_1_fdb_Flush_1 x0_ q1_0 r h) nlB _ hy12
   replace b16 := grdS b16
   obtain ⟨g14, b16⟩ := b16
   replace g14 : (0 : Int) ≤ ((k16 : Nat) : Int) ∧ ((k16 : Nat) : Int) < (((s16.Buckets.map (roC 4 EnC)).length : Nat) : Int) := by simpa only [se_len, se_ch, List.length_map] using g14
   repeat' first | exact rA _ | refine parkI ?_ | exact g7 | exact g14 | (rw [i9]; conv => whnf) | (refine CallW.done (CallF.at c11 nlA (NLss_map' _)) ?_; conv => whnf) | (refine ⟨_, _, CallF.at c11 nlA (NLss_map' _), ?_⟩; conv => whnf) | (refine CallW.frame (nx2 := 5) (l2 := [(4, (.row 42 4 (y12.map EnC)))]) [(4, 0)] [(0, 4)] c13 rfl rfl ⟨⟨rfl, rfl, .inl ⟨rfl, nlT⟩⟩, rfl, rfl, trivial⟩ rfl rfl ⟨⟨rfl, rfl, .inl ⟨rfl, nlT⟩⟩, rfl, rfl, trivial⟩ ?_; conv => whnf) | (refine ⟨_, _, CallW.frame (nx2 := 5) (l2 := [(4, (.row 42 4 (y12.map EnC)))]) [(4, 0)] [(0, 4)] c13 rfl rfl ⟨⟨rfl, rfl, .inl ⟨rfl, nlT⟩⟩, rfl, rfl, trivial⟩ rfl rfl ⟨⟨rfl, rfl, .inl ⟨rfl, nlT⟩⟩, rfl, rfl, trivial⟩ ⟨rfl, rfl⟩, ?_⟩; conv => whnf) | (refine W.drawnM (id := 5) 6 TT_ok hmix1 [0, 0, 0, 0, 0, 0, 1, 2, 2] [2, 2, 2, 0, 1, 1, 2, 2, 3] rfl ?_; conv => whnf) | exact clA _ | (refine And.intro ?_ ?_ <;> conv => whnf) | exact clG _ | (refine gand ?_ h; assumption) | exact clN _ | fail
   have e := Option.some.inj b16
   refine LoopW.norm [(2, (LV.ptr 0 0 0)), (3, (LV.rptr [(LV.func (.func 31) [] [(LV.rptr [(I q1_0)])])])), (4, (LV.ptr 2 0 0)), (10, (LV.sl 3 0 ((⟨(s16.Buckets.set (((k16 : Nat) : Int) : Int).toNat y12), s16.Slots, s16.Age⟩ : Tb).Buckets.map (roC 4 EnC)).length)), (11, (I (((y5.Buckets.map (roC 4 EnC)).length : Nat) : Int))), (12, (I ((k16 + 1 : Nat) : Int)))] 4 [(0, (.row 24 3 [[(LV.sl 3 0 ((⟨(s16.Buckets.set (((k16 : Nat) : Int) : Int).toNat y12), s16.Slots, s16.Age⟩ : Tb).Buckets.map (roC 4 EnC)).length), (I (⟨(s16.Buckets.set (((k16 : Nat) : Int) : Int).toNat y12), s16.Slots, s16.Age⟩ : Tb).Slots), (I (⟨(s16.Buckets.set (((k16 : Nat) : Int) : Int).toNat y12), s16.Slots, s16.Age⟩ : Tb).Age)]])), (3, (.row 39 1 ((⟨(s16.Buckets.set (((k16 : Nat) : Int) : Int).toNat y12), s16.Slots, s16.Age⟩ : Tb).Buckets.map (roC 4 EnC)))), (2, (.row 24 3 [[LV.nils, (I 0), (I 0)]]))] ⟨rfl, rfl, rfl, (by exact congrArg (LV.sl 3 0) (clL _ : (s16.Buckets.map (roC 4 EnC)).length = ((⟨(s16.Buckets.set (((k16 : Nat) : Int) : Int).toNat y12), s16.Slots, s16.Age⟩ : Tb).Buckets.map (roC 4 EnC)).length)), rfl, (congrArg (LV.int .i64) (w64_nat _ (by omega))), trivial⟩ ⟨⟨(congrArg (fun q => some (Blk.row 24 3 q)) (by first | (simp only [se_map, se_byL, se_len, se_ch, List.length_map]; done) | (simp only [se_map, se_byL, se_len, se_ch, List.length_map, TbC]; done) | (simp only [se_map, se_byL, se_len, se_ch, List.length_map, roC]; done) : ([[(LV.sl 3 0 (s16.Buckets.map (roC 4 EnC)).length), (I s16.Slots), (I s16.Age)]] : List (List LV)) = [[(LV.sl 3 0 ((⟨(s16.Buckets.set (((k16 : Nat) : Int) : Int).toNat y12), s16.Slots, s16.Age⟩ : Tb).Buckets.map (roC 4 EnC)).length), (I (⟨(s16.Buckets.set (((k16 : Nat) : Int) : Int).toNat y12), s16.Slots, s16.Age⟩ : Tb).Slots), (I (⟨(s16.Buckets.set (((k16 : Nat) : Int) : Int).toNat y12), s16.Slots, s16.Age⟩ : Tb).Age)]])), rfl, blT⟩, ⟨⟨(congrArg (fun q => some (Blk.row 39 1 q)) (by first | (simp only [se_map, se_byL, se_len, se_ch, List.length_map]; done) | (simp only [se_map, se_byL, se_len, se_ch, List.length_map, TbC]; done) | (simp only [se_map, se_byL, se_len, se_ch, List.length_map, roC]; done) : ((setN (s16.Buckets.map (roC 4 EnC)) (0 + ((((k16 : Nat) : Int) : Int).toNat)) [(LV.ro 4 (y12.map EnC))]) : List (List LV)) = ((⟨(s16.Buckets.set (((k16 : Nat) : Int) : Int).toNat y12), s16.Slots, s16.Age⟩ : Tb).Buckets.map (roC 4 EnC)))), rfl, NLss_bel (NLss_map' _)⟩, ⟨⟨rfl, rfl, blT⟩, trivial⟩⟩⟩ blT rfl (K16 _ e.symm)
  ·exact (Bool.false_ne_true (hc.symm.trans hd)).elim

def fdb_Flush (a0 : Tb) (a1 : Int) : Option (Tb × Int) :=
 (fdb_Right a0).bind fun y1 =>
 (gd (bif (!(!y1)) then (!decide (a1 = (-1))) else false) (fdb_isPort a1)).bind fun y3 =>
 (bif (bif (!y1) then true else (bif (!decide (a1 = (-1))) then (!y3) else false)) then
  some ((⟨[], 0, 0⟩ : Tb), 1)
 else
  (fdb_keep_fdb_Flush_1 a0 a1).bind fun y5 =>
  some (y5, 0))

theorem c_fdb_Flush (a0 : Tb) (a1 : Int) (r : (Tb × Int)) (h : fdb_Flush a0 a1 = some r) : CallP Tryz.prog 8 [(LV.agg [(LV.ro 1 (a0.Buckets.map (roC 4 EnC))), (I a0.Slots), (I a0.Age)]), (I a1)] (LV.tup [(LV.agg [(LV.ro 1 (r.1.Buckets.map (roC 4 EnC))), (I r.1.Slots), (I r.1.Age)]), (I r.2)]) := by
 unfold fdb_Flush at h
 refine .intro nlA (.intro TT_ok Tryz.func8 rfl rfl [0, 1, 2, 3, 4, 5, 17] rfl ?_)
 conv => whnf
 replace h := bindS h
 obtain ⟨y1, hy1, h⟩ := h
 have c2 := c_fdb_Right a0 _ hy1
 replace h := bindS h
 obtain ⟨y3, hy3, h⟩ := h
 have c4 := fun (hg : (bif (!(!y1)) then (!decide (a1 = (-1))) else false) = true) => c_fdb_isPort a1 _ (gdS hg hy3)
 repeat' first | exact rA _ | refine parkI ?_ | (refine ⟨_, c4, ?_⟩; conv => whnf) | (refine CallP.use c2 ?_; conv => whnf) | exact clA _ | (refine And.intro ?_ ?_ <;> conv => whnf) | exact clG _ | (refine gand ?_ h; assumption) | fail
 refine parkE (fun hc => ?_) (fun hc => ?_)
 ·replace h := condT hc h
  conv => whnf
  have e := Option.some.inj h
  subst e
  repeat' first | exact rA _ | exact clA _ | (refine And.intro ?_ ?_ <;> conv => whnf) | exact clG _ | (refine gand ?_ h; assumption) | exact clN _ | fail
 ·replace h := condF hc h
  conv => whnf
  replace h := bindS h
  obtain ⟨y5, hy5, h⟩ := h
  have c6 : CallP Tryz.prog 25 [(LV.agg [(LV.ro 1 (a0.Buckets.map (roC 4 EnC))), (I a0.Slots), (I a0.Age)]), (LV.func (.func 31) [] [(LV.rptr [(I a1)])])] (LV.agg [(LV.ro 1 (y5.Buckets.map (roC 4 EnC))), (I y5.Slots), (I y5.Age)]) := by first | exact c_fdb_keep_fdb_Flush_1 a0 a1 _ hy5 | (simpa only [se_map, se_byL, se_len, se_ch, List.length_map] using c_fdb_keep_fdb_Flush_1 a0 a1 _ hy5)
  have e := Option.some.inj h
  subst e
  repeat' first | exact rA _ | (refine CallP.use c6 ?_; conv => whnf) | exact clA _ | (refine And.intro ?_ ?_ <;> conv => whnf) | exact clG _ | (refine gand ?_ h; assumption) | exact clN _ | fail

def fdb_Unpin_1 (a0 : En) (q1 : Int) : Option Bool :=
 some (!decide (a0.Mac = q1))

theorem c_fdb_Unpin_1 (a0 : En) (q1 : Int) (r : Bool) (h : fdb_Unpin_1 a0 q1 = some r) : CallP Tryz.prog 26 [(LV.agg [(I a0.Mac), (I a0.Port), (I a0.Seen), (LV.bool a0.Static)]), (LV.rptr [(I q1)])] (LV.bool r) := by
 unfold fdb_Unpin_1 at h
 refine .intro nlA (.intro TT_ok Tryz.func26 rfl rfl [0, 1, 2, 3] rfl ?_)
 conv => whnf
 have e := Option.some.inj h
 subst e
 repeat' first | exact rA _ | exact clA _ | (refine And.intro ?_ ?_ <;> conv => whnf) | exact clG _ | (refine gand ?_ h; assumption) | exact clN _ | fail

def fdb_keep_1_fdb_Unpin_1 (a0 : En) (q1_0 : Int) : Option Bool :=
 (fdb_Unpin_1 a0 q1_0).bind fun y14 =>
 some (!y14)

theorem c_fdb_keep_1_fdb_Unpin_1 (a0 : En) (q1_0 : Int) (r : Bool) (h : fdb_keep_1_fdb_Unpin_1 a0 q1_0 = some r) : CallP Tryz.prog 57 [(LV.agg [(I a0.Mac), (I a0.Port), (I a0.Seen), (LV.bool a0.Static)]), (LV.rptr [(LV.func (.func 26) [] [(LV.rptr [(I q1_0)])])])] (LV.bool r) := by
 unfold fdb_keep_1_fdb_Unpin_1 at h
 refine .intro nlA (.intro TT_ok Tryz.func57 rfl rfl [0, 1, 2, 3] rfl ?_)
 conv => whnf
 replace h := bindS h
 obtain ⟨y14, hy14, h⟩ := h
 have c15 : CallP Tryz.prog 26 [(LV.agg [(I a0.Mac), (I a0.Port), (I a0.Seen), (LV.bool a0.Static)]), (LV.rptr [(I q1_0)])] (LV.bool y14) := by first | exact c_fdb_Unpin_1 a0 q1_0 _ hy14 | (simpa only [se_map, se_byL, se_len, se_ch, List.length_map] using c_fdb_Unpin_1 a0 q1_0 _ hy14)
 have e := Option.some.inj h
 subst e
 repeat' first | exact rA _ | (refine CallP.use c15 ?_; conv => whnf) | exact clA _ | (refine And.intro ?_ ?_ <;> conv => whnf) | exact clG _ | (refine gand ?_ h; assumption) | exact clN _ | fail

def fdb_keep_fdb_Unpin_1_c0 (q1_0 : Int) (k18 : Nat) (s18 : Tb) : Option (Step Tb Tb) :=
 grd ((0 : Int) ≤ ((k18 : Nat) : Int) ∧ ((k18 : Nat) : Int) < ((s18.Buckets.length : Nat) : Int)) <|
 (gixN s18.Buckets (((k18 : Nat) : Int) : Int).toNat).bind fun v10 =>
 (slices_Clone_Entry v10).bind fun y12 =>
 (slices_DeleteFunc_Entry y12 (fun x0_ => fdb_keep_1_fdb_Unpin_1 x0_ q1_0)).bind fun y14 =>
 grd ((0 : Int) ≤ ((k18 : Nat) : Int) ∧ ((k18 : Nat) : Int) < ((s18.Buckets.length : Nat) : Int)) <|
 some (.nxt (⟨(s18.Buckets.set (((k18 : Nat) : Int) : Int).toNat y14), s18.Slots, s18.Age⟩ : Tb))

def fdb_keep_fdb_Unpin_1 (a0 : Tb) (q1_0 : Int) : Option Tb :=
 (fdb_own_x a0).bind fun y7 =>
 aft (rangeN (fdb_keep_fdb_Unpin_1_c0 q1_0) ((y7.Buckets.length : Nat) : Int) y7) fun s18 =>
 some s18

theorem c_fdb_keep_fdb_Unpin_1 (a0 : Tb) (q1_0 : Int) (r : Tb) (h : fdb_keep_fdb_Unpin_1 a0 q1_0 = some r) : CallP Tryz.prog 25 [(LV.agg [(LV.ro 1 (a0.Buckets.map (roC 4 EnC))), (I a0.Slots), (I a0.Age)]), (LV.func (.func 26) [] [(LV.rptr [(I q1_0)])])] (LV.agg [(LV.ro 1 (r.Buckets.map (roC 4 EnC))), (I r.Slots), (I r.Age)]) := by
 unfold fdb_keep_fdb_Unpin_1 at h
 refine .intro nlA (.intro TT_ok Tryz.func25 rfl rfl [0, 1, 2, 3, 4, 5, 6, 10, 11, 12, 13, 1000055, 1000056, 2000056] rfl ?_)
 conv => whnf
 replace h := bindS h
 obtain ⟨y7, hy7, h⟩ := h
 have c8 : CallW Tryz.prog 55 [(LV.agg [(LV.ro 1 (a0.Buckets.map (roC 4 EnC))), (I a0.Slots), (I a0.Age)])] ⟨0, []⟩ (fun lv H' => lv = (LV.agg [(LV.sl 0 0 (y7.Buckets.map (roC 4 EnC)).length), (I y7.Slots), (I y7.Age)]) ∧ H' = ⟨1, [(0, (.row 39 1 (y7.Buckets.map (roC 4 EnC))))]⟩) := w_fdb_own_x a0 _ hy7
 repeat' first | exact rA _ | refine parkI ?_ | (refine CallW.frame (nx2 := 4) (l2 := [(3, (.row 39 1 (y7.Buckets.map (roC 4 EnC))))]) [] [(0, 3)] c8 rfl rfl trivial rfl rfl ⟨⟨rfl, rfl, .inl ⟨rfl, nlT⟩⟩, rfl, rfl, trivial⟩ ?_; conv => whnf) | (refine W.drawnM (id := 5) 6 TT_ok hmix1 [0, 0, 0, 0, 0, 0, 1, 2, 2] [2, 2, 2, 0, 1, 1, 2, 2, 3] rfl ?_; conv => whnf) | exact clA _ | (refine And.intro ?_ ?_ <;> conv => whnf) | exact clG _ | (refine gand ?_ h; assumption) | exact clN _ | fail
 replace h := aftS h
 obtain ⟨O18, hO18, r18⟩ := h
 refine LoopW.frz [1] ?_
 conv => whnf
 repeat' first | exact rA _ | refine parkI ?_ | (refine W.drawnM (id := 5) 6 TT_ok hmix1 [0, 0, 0, 0, 0, 0, 1, 2, 2] [2, 2, 2, 0, 1, 1, 2, 2, 3] rfl ?_; conv => whnf) | exact clA _ | (refine And.intro ?_ ?_ <;> conv => whnf) | exact clG _ | (refine gand ?_ h; assumption) | exact clN _ | fail
 refine LoopW.norm [(2, (LV.ptr 0 0 0)), (3, (LV.rptr [(LV.func (.func 26) [] [(LV.rptr [(I q1_0)])])])), (4, (LV.ptr 2 0 0)), (10, (LV.sl 3 0 (y7.Buckets.map (roC 4 EnC)).length)), (11, (I (((y7.Buckets.map (roC 4 EnC)).length : Nat) : Int))), (12, (I ((0 : Nat) : Int)))] 4 [(0, (.row 24 3 [[(LV.sl 3 0 (y7.Buckets.map (roC 4 EnC)).length), (I y7.Slots), (I y7.Age)]])), (3, (.row 39 1 (y7.Buckets.map (roC 4 EnC)))), (2, (.row 24 3 [[LV.nils, (I 0), (I 0)]]))] ⟨rfl, rfl, rfl, rfl, rfl, rfl, trivial⟩ ⟨⟨rfl, rfl, blT⟩, ⟨⟨rfl, rfl, NLss_bel (NLss_map' _)⟩, ⟨⟨rfl, rfl, blT⟩, trivial⟩⟩⟩ blT rfl ?_
 refine LoopW.forN (fun k18 s18 => [(2, (LV.ptr 0 0 0)), (3, (LV.rptr [(LV.func (.func 26) [] [(LV.rptr [(I q1_0)])])])), (4, (LV.ptr 2 0 0)), (10, (LV.sl 3 0 (s18.Buckets.map (roC 4 EnC)).length)), (11, (I (((y7.Buckets.map (roC 4 EnC)).length : Nat) : Int))), (12, (I ((k18 : Nat) : Int)))]) (fun s18 => ⟨4, [(0, (.row 24 3 [[(LV.sl 3 0 (s18.Buckets.map (roC 4 EnC)).length), (I s18.Slots), (I s18.Age)]])), (3, (.row 39 1 (s18.Buckets.map (roC 4 EnC)))), (2, (.row 24 3 [[LV.nils, (I 0), (I 0)]]))]⟩) hO18 (fun hl18 s18 hs18 => ?_) (fun hl18 k18 s18 o18 hk18 b18 K18 hret18 hbrk18 => ?_)
 ·rw [hs18] at r18
  dsimp only [aftM] at r18
  have hd : decide ((((((y7.Buckets.length : Nat) : Int) : Int).toNat : Nat) : Int) < (((y7.Buckets.map (roC 4 EnC)).length : Nat) : Int)) = false := by rw [decide_eq_false_iff_not]; (try simp only [se_len, se_ch, List.length_map]); omega
  refine LoopW.round TT_ok [0, 1, 2, 3, 4, 5, 6, 10, 11, 12, 13, 1000055, 1000056, 2000056] ?_
  conv => whnf
  repeat' first | exact rA _ | refine parkI ?_ | (refine W.drawnM (id := 5) 6 TT_ok hmix1 [0, 0, 0, 0, 0, 0, 1, 2, 2] [2, 2, 2, 0, 1, 1, 2, 2, 3] rfl ?_; conv => whnf) | exact clA _ | (refine And.intro ?_ ?_ <;> conv => whnf) | exact clG _ | (refine gand ?_ h; assumption) | exact clN _ | fail
  refine parkE (fun hc => ?_) (fun hc => ?_)
  ·exact (Bool.false_ne_true (hd.symm.trans hc)).elim
  ·clear hd
   conv => whnf
   have e := Option.some.inj r18
   subst e
   repeat' first | exact rA _ | (refine W.drawnM (id := 5) 6 TT_ok hmix1 [0, 0, 0, 0, 0, 0, 1, 2, 2] [2, 2, 2, 0, 1, 1, 2, 2, 3] rfl ?_; conv => whnf) | exact clA _ | (refine And.intro ?_ ?_ <;> conv => whnf) | exact clG _ | (refine gand ?_ h; assumption) | exact clN _ | fail
 ·unfold fdb_keep_fdb_Unpin_1_c0 at b18
  have hd : decide (((k18 : Nat) : Int) < (((y7.Buckets.map (roC 4 EnC)).length : Nat) : Int)) = true := by rw [decide_eq_true_eq]; (try simp only [se_len, se_ch, List.length_map] at hk18); (try simp only [se_len, se_ch, List.length_map]); omega
  refine LoopW.round TT_ok [0, 1, 2, 3, 4, 5, 6, 10, 11, 12, 13, 1000055, 1000056, 2000056] ?_
  conv => whnf
  repeat' first | exact rA _ | refine parkI ?_ | (refine W.drawnM (id := 5) 6 TT_ok hmix1 [0, 0, 0, 0, 0, 0, 1, 2, 2] [2, 2, 2, 0, 1, 1, 2, 2, 3] rfl ?_; conv => whnf) | exact clA _ | (refine And.intro ?_ ?_ <;> conv => whnf) | exact clG _ | (refine gand ?_ h; assumption) | exact clN _ | fail
  refine parkE (fun hc => ?_) (fun hc => ?_)
  ·clear hd
   conv => whnf
   replace b18 := grdS b18
   obtain ⟨g9, b18⟩ := b18
   replace g9 : (0 : Int) ≤ ((k18 : Nat) : Int) ∧ ((k18 : Nat) : Int) < (((s18.Buckets.map (roC 4 EnC)).length : Nat) : Int) := by simpa only [se_len, se_ch, List.length_map] using g9
   replace b18 := bindS b18
   obtain ⟨v10, hv10, b18⟩ := b18
   have i11 : nth (s18.Buckets.map (roC 4 EnC)) (0 + ((((k18 : Nat) : Int) : Int).toNat)) = some [(LV.ro 4 (v10.map EnC))] := by simpa only [se_map, se_len, se_ch, List.length_map, nth_eq, Nat.zero_add, List.getElem?_map] using gixNF (f := (roC 4 EnC)) hv10
   replace b18 := bindS b18
   obtain ⟨y12, hy12, b18⟩ := b18
   have c13 := cf_slices_Clone_Entry v10 _ hy12
   replace b18 := bindS b18
   obtain ⟨y14, hy14, b18⟩ := b18
   have c15 := w_slices_DeleteFunc_Entry y12 57 [] [(LV.rptr [(LV.func (.func 26) [] [(LV.rptr [(I q1_0)])])])] (fun x0_ => fdb_keep_1_fdb_Unpin_1 x0_ q1_0) (fun x0_ r h => c_fdb_keep_1_fdb_Unpin_1 x0_ q1_0 r h) nlB _ hy14
   replace b18 := grdS b18
   obtain ⟨g16, b18⟩ := b18
   replace g16 : (0 : Int) ≤ ((k18 : Nat) : Int) ∧ ((k18 : Nat) : Int) < (((s18.Buckets.map (roC 4 EnC)).length : Nat) : Int) := by simpa only [se_len, se_ch, List.length_map] using g16
   repeat' first | exact rA _ | refine parkI ?_ | exact g9 | exact g16 | (rw [i11]; conv => whnf) | (refine CallW.done (CallF.at c13 nlA (NLss_map' _)) ?_; conv => whnf) | (refine ⟨_, _, CallF.at c13 nlA (NLss_map' _), ?_⟩; conv => whnf) | (refine CallW.frame (nx2 := 5) (l2 := [(4, (.row 42 4 (y14.map EnC)))]) [(4, 0)] [(0, 4)] c15 rfl rfl ⟨⟨rfl, rfl, .inl ⟨rfl, nlT⟩⟩, rfl, rfl, trivial⟩ rfl rfl ⟨⟨rfl, rfl, .inl ⟨rfl, nlT⟩⟩, rfl, rfl, trivial⟩ ?_; conv => whnf) | (refine ⟨_, _, CallW.frame (nx2 := 5) (l2 := [(4, (.row 42 4 (y14.map EnC)))]) [(4, 0)] [(0, 4)] c15 rfl rfl ⟨⟨rfl, rfl, .inl ⟨rfl, nlT⟩⟩, rfl, rfl, trivial⟩ rfl rfl ⟨⟨rfl, rfl, .inl ⟨rfl, nlT⟩⟩, rfl, rfl, trivial⟩ ⟨rfl, rfl⟩, ?_⟩; conv => whnf) | (refine W.drawnM (id := 5) 6 TT_ok hmix1 [0, 0, 0, 0, 0, 0, 1, 2, 2] [2, 2, 2, 0, 1, 1, 2, 2, 3] rfl ?_; conv => whnf) | exact clA _ | (refine And.intro ?_ ?_ <;> conv => whnf) | exact clG _ | (refine gand ?_ h; assumption) | exact clN _ | fail
   have e := Option.some.inj b18
   refine LoopW.norm [(2, (LV.ptr 0 0 0)), (3, (LV.rptr [(LV.func (.func 26) [] [(LV.rptr [(I q1_0)])])])), (4, (LV.ptr 2 0 0)), (10, (LV.sl 3 0 ((⟨(s18.Buckets.set (((k18 : Nat) : Int) : Int).toNat y14), s18.Slots, s18.Age⟩ : Tb).Buckets.map (roC 4 EnC)).length)), (11, (I (((y7.Buckets.map (roC 4 EnC)).length : Nat) : Int))), (12, (I ((k18 + 1 : Nat) : Int)))] 4 [(0, (.row 24 3 [[(LV.sl 3 0 ((⟨(s18.Buckets.set (((k18 : Nat) : Int) : Int).toNat y14), s18.Slots, s18.Age⟩ : Tb).Buckets.map (roC 4 EnC)).length), (I (⟨(s18.Buckets.set (((k18 : Nat) : Int) : Int).toNat y14), s18.Slots, s18.Age⟩ : Tb).Slots), (I (⟨(s18.Buckets.set (((k18 : Nat) : Int) : Int).toNat y14), s18.Slots, s18.Age⟩ : Tb).Age)]])), (3, (.row 39 1 ((⟨(s18.Buckets.set (((k18 : Nat) : Int) : Int).toNat y14), s18.Slots, s18.Age⟩ : Tb).Buckets.map (roC 4 EnC)))), (2, (.row 24 3 [[LV.nils, (I 0), (I 0)]]))] ⟨rfl, rfl, rfl, (by exact congrArg (LV.sl 3 0) (clL _ : (s18.Buckets.map (roC 4 EnC)).length = ((⟨(s18.Buckets.set (((k18 : Nat) : Int) : Int).toNat y14), s18.Slots, s18.Age⟩ : Tb).Buckets.map (roC 4 EnC)).length)), rfl, (congrArg (LV.int .i64) (w64_nat _ (by omega))), trivial⟩ ⟨⟨(congrArg (fun q => some (Blk.row 24 3 q)) (by first | (simp only [se_map, se_byL, se_len, se_ch, List.length_map]; done) | (simp only [se_map, se_byL, se_len, se_ch, List.length_map, TbC]; done) | (simp only [se_map, se_byL, se_len, se_ch, List.length_map, roC]; done) : ([[(LV.sl 3 0 (s18.Buckets.map (roC 4 EnC)).length), (I s18.Slots), (I s18.Age)]] : List (List LV)) = [[(LV.sl 3 0 ((⟨(s18.Buckets.set (((k18 : Nat) : Int) : Int).toNat y14), s18.Slots, s18.Age⟩ : Tb).Buckets.map (roC 4 EnC)).length), (I (⟨(s18.Buckets.set (((k18 : Nat) : Int) : Int).toNat y14), s18.Slots, s18.Age⟩ : Tb).Slots), (I (⟨(s18.Buckets.set (((k18 : Nat) : Int) : Int).toNat y14), s18.Slots, s18.Age⟩ : Tb).Age)]])), rfl, blT⟩, ⟨⟨(congrArg (fun q => some (Blk.row 39 1 q)) (by first | (simp only [se_map, se_byL, se_len, se_ch, List.length_map]; done) | (simp only [se_map, se_byL, se_len, se_ch, List.length_map, TbC]; done) | (simp only [se_map, se_byL, se_len, se_ch, List.length_map, roC]; done) : ((setN (s18.Buckets.map (roC 4 EnC)) (0 + ((((k18 : Nat) : Int) : Int).toNat)) [(LV.ro 4 (y14.map EnC))]) : List (List LV)) = ((⟨(s18.Buckets.set (((k18 : Nat) : Int) : Int).toNat y14), s18.Slots, s18.Age⟩ : Tb).Buckets.map (roC 4 EnC)))), rfl, NLss_bel (NLss_map' _)⟩, ⟨⟨rfl, rfl, blT⟩, trivial⟩⟩⟩ blT rfl (K18 _ e.symm)
  ·exact (Bool.false_ne_true (hc.symm.trans hd)).elim

def fdb_Unpin (a0 : Tb) (a1 : Int) : Option (Tb × Int) :=
 (fdb_Right a0).bind fun y1 =>
 (gd (!(!y1)) (fdb_isMac a1)).bind fun y3 =>
 (bif (bif (!y1) then true else (!y3)) then
  some ((⟨[], 0, 0⟩ : Tb), 1)
 else
  (fdb_pinned a0 a1).bind fun y5 =>
  (bif (!y5) then
   some ((⟨[], 0, 0⟩ : Tb), 4)
  else
   (fdb_keep_fdb_Unpin_1 a0 a1).bind fun y7 =>
   some (y7, 0)))

theorem c_fdb_Unpin (a0 : Tb) (a1 : Int) (r : (Tb × Int)) (h : fdb_Unpin a0 a1 = some r) : CallP Tryz.prog 6 [(LV.agg [(LV.ro 1 (a0.Buckets.map (roC 4 EnC))), (I a0.Slots), (I a0.Age)]), (I a1)] (LV.tup [(LV.agg [(LV.ro 1 (r.1.Buckets.map (roC 4 EnC))), (I r.1.Slots), (I r.1.Age)]), (I r.2)]) := by
 unfold fdb_Unpin at h
 refine .intro nlA (.intro TT_ok Tryz.func6 rfl rfl [0, 1, 2, 3, 4, 5, 6, 16] rfl ?_)
 conv => whnf
 replace h := bindS h
 obtain ⟨y1, hy1, h⟩ := h
 have c2 := c_fdb_Right a0 _ hy1
 replace h := bindS h
 obtain ⟨y3, hy3, h⟩ := h
 have c4 := fun (hg : (!(!y1)) = true) => c_fdb_isMac a1 _ (gdS hg hy3)
 repeat' first | exact rA _ | refine parkI ?_ | (refine ⟨_, c4, ?_⟩; conv => whnf) | (refine CallP.use c2 ?_; conv => whnf) | exact clA _ | (refine And.intro ?_ ?_ <;> conv => whnf) | exact clG _ | (refine gand ?_ h; assumption) | fail
 refine parkE (fun hc => ?_) (fun hc => ?_)
 ·replace h := condT hc h
  conv => whnf
  have e := Option.some.inj h
  subst e
  repeat' first | exact rA _ | exact clA _ | (refine And.intro ?_ ?_ <;> conv => whnf) | exact clG _ | (refine gand ?_ h; assumption) | exact clN _ | fail
 ·replace h := condF hc h
  conv => whnf
  replace h := bindS h
  obtain ⟨y5, hy5, h⟩ := h
  have c6 := c_fdb_pinned a0 a1 _ hy5
  repeat' first | exact rA _ | refine parkI ?_ | (refine CallP.use c6 ?_; conv => whnf) | (refine And.intro ?_ ?_ <;> conv => whnf) | fail
  refine parkE (fun hc => ?_) (fun hc => ?_)
  ·replace h := condT hc h
   conv => whnf
   have e := Option.some.inj h
   subst e
   repeat' first | exact rA _ | exact clA _ | (refine And.intro ?_ ?_ <;> conv => whnf) | exact clG _ | (refine gand ?_ h; assumption) | exact clN _ | fail
  ·replace h := condF hc h
   conv => whnf
   replace h := bindS h
   obtain ⟨y7, hy7, h⟩ := h
   have c8 : CallP Tryz.prog 25 [(LV.agg [(LV.ro 1 (a0.Buckets.map (roC 4 EnC))), (I a0.Slots), (I a0.Age)]), (LV.func (.func 26) [] [(LV.rptr [(I a1)])])] (LV.agg [(LV.ro 1 (y7.Buckets.map (roC 4 EnC))), (I y7.Slots), (I y7.Age)]) := by first | exact c_fdb_keep_fdb_Unpin_1 a0 a1 _ hy7 | (simpa only [se_map, se_byL, se_len, se_ch, List.length_map] using c_fdb_keep_fdb_Unpin_1 a0 a1 _ hy7)
   have e := Option.some.inj h
   subst e
   repeat' first | exact rA _ | (refine CallP.use c8 ?_; conv => whnf) | exact clA _ | (refine And.intro ?_ ?_ <;> conv => whnf) | exact clG _ | (refine gand ?_ h; assumption) | exact clN _ | fail

end Go.RX
