/- Plain functions, and what says that the program's functions compute them. -/
import Derived.Test.YtljecfgfbebjiaaKb
set_option linter.unusedVariables false
set_option linter.unusedSimpArgs false
open Go Go.RX Go.Proofs
namespace Go.RX
set_option maxRecDepth 10000
set_option maxHeartbeats 4000000
attribute [local irreducible] CallW CallP LoopW W IntKind.wrap bitI
def tree_Best (a0 : LanT) (a1 : Int) : Option (Int × Int × Int) :=
 (lan_Right a0).bind fun y1 =>
 (bif (!y1) then
  some (0, 0, 1)
 else
  (bif (bif (decide (a1 < 0)) then true else (decide (((a0.Plans.length : Nat) : Int) ≤ a1))) then
   some (0, 0, 3)
  else
   (tree_bests a0).bind fun y3 =>
   grd ((0 : Int) ≤ a1 ∧ a1 < ((y3.length : Nat) : Int)) <|
   (gixN y3 (a1 : Int).toNat).bind fun v6 =>
   some (v6.c0, v6.c1, 0)))

theorem c_tree_Best (a0 : LanT) (a1 : Int) (r : (Int × Int × Int)) (h : tree_Best a0 a1 = some r) : CallP Try.prog 9 [(LV.agg [(I a0.Segs), (LV.ro 2 (a0.Plans.map PlanT.cells)), (LV.ro 2 (a0.Hosts.map HostT.cells))]), (I a1)] (LV.tup [(I r.1), (I r.2.1), (I r.2.2)]) := by
 unfold tree_Best at h
 refine .intro nlA (.intro TT_ok Try.func9 rfl rfl [0, 1, 2, 4, 5, 6, 7, 8, 12] rfl ?_)
 conv => whnf
 replace h := bindS h
 obtain ⟨y1, hy1, h⟩ := h
 have c2 := c_lan_Right a0 _ hy1
 repeat' first | exact rA _ | refine parkI ?_ | (refine CallP.use c2 ?_; conv => whnf) | (refine ⟨_, _, CallP.at c2, ?_⟩; conv => whnf) | (refine ⟨_, fun _ => c2, ?_⟩; conv => whnf) | (refine W.drawn TT_ok hmix1 rfl ?_; conv => whnf) | exact clA _ | (refine And.intro ?_ ?_ <;> conv => whnf) | exact clG _ | (refine gand ?_ h; assumption) | exact clN _ | fail
 refine parkE (fun hc => ?_) (fun hc => ?_)
 ·replace h := condT hc h
  conv => whnf
  have e := Option.some.inj h
  subst e
  repeat' first | exact rA _ | (refine W.drawn TT_ok hmix1 rfl ?_; conv => whnf) | exact clA _ | (refine And.intro ?_ ?_ <;> conv => whnf) | exact clG _ | (refine gand ?_ h; assumption) | exact clN _ | fail
 ·replace h := condF hc h
  conv => whnf
  repeat' first | exact rA _ | refine parkI ?_ | (refine W.drawn TT_ok hmix1 rfl ?_; conv => whnf) | exact clA _ | (refine And.intro ?_ ?_ <;> conv => whnf) | exact clG _ | (refine gand ?_ h; assumption) | exact clN _ | fail
  refine parkE (fun hc => ?_) (fun hc => ?_)
  ·replace h := condT (by first | exact hc | (simpa only [se_len, se_ch, List.length_map] using hc; done) | (have h0 : (bif (decide (a1 < 0)) then true else (decide ((((a0.Plans.map PlanT.cells).length : Nat) : Int) ≤ a1))) = true := hc; simpa only [se_len, se_ch, List.length_map] using h0)) h
   conv => whnf
   have e := Option.some.inj h
   subst e
   repeat' first | exact rA _ | (refine W.drawn TT_ok hmix1 rfl ?_; conv => whnf) | exact clA _ | (refine And.intro ?_ ?_ <;> conv => whnf) | exact clG _ | (refine gand ?_ h; assumption) | exact clN _ | fail
  ·replace h := condF (by first | exact hc | (simpa only [se_len, se_ch, List.length_map] using hc; done) | (have h0 : (bif (decide (a1 < 0)) then true else (decide ((((a0.Plans.map PlanT.cells).length : Nat) : Int) ≤ a1))) = false := hc; simpa only [se_len, se_ch, List.length_map] using h0)) h
   conv => whnf
   replace h := bindS h
   obtain ⟨y3, hy3, h⟩ := h
   have c4 := cf_tree_bests a0 _ hy3
   replace h := grdS h
   obtain ⟨g5, h⟩ := h
   replace g5 : (0 : Int) ≤ a1 ∧ a1 < (((y3.map tree_bestT.cells).length : Nat) : Int) := by simpa only [se_len, se_ch, List.length_map] using g5
   replace h := bindS h
   obtain ⟨v6, hv6, h⟩ := h
   have i7 : nth (y3.map tree_bestT.cells) (0 + ((a1 : Int).toNat)) = some [(I v6.c0), (I v6.c1)] := by simpa only [se_map, se_len, se_ch, List.length_map, nth_eq, Nat.zero_add, List.getElem?_map] using gixNF (f := tree_bestT.cells) hv6
   have e := Option.some.inj h
   subst e
   repeat' first | exact rA _ | exact g5 | (refine CallW.done (CallF.at c4 nlA (NLss_map' _)) ?_; conv => whnf) | (refine ⟨_, _, CallF.at c4 nlA (NLss_map' _), ?_⟩; conv => whnf) | (rw [i7]; conv => whnf) | exact (⟨by decide, by decide⟩ : (0 : Int) ≤ 0 ∧ (0 : Int) < 2) | exact (⟨by decide, by decide⟩ : (0 : Int) ≤ 1 ∧ (1 : Int) < 2) | (refine W.drawn TT_ok hmix1 rfl ?_; conv => whnf) | exact clA _ | (refine And.intro ?_ ?_ <;> conv => whnf) | exact clG _ | (refine gand ?_ h; assumption) | exact clN _ | fail

def tree_told (a0 : LanT) (a1 : (List tree_bestT)) (a2 : A2_Int) : Option VecT :=
 (gix a1 a2.c0).bind fun v11 =>
 (gix a0.Plans a2.c0).bind fun v13 =>
 some (⟨v11.c0, v11.c1, v13.ID, a2.c1⟩ : VecT)

theorem c_tree_told (a0 : LanT) (a1 : (List tree_bestT)) (a2 : A2_Int) (r : VecT) (h : tree_told a0 a1 a2 = some r) : CallP Try.prog 59 [(LV.agg [(I a0.Segs), (LV.ro 2 (a0.Plans.map PlanT.cells)), (LV.ro 2 (a0.Hosts.map HostT.cells))]), (LV.ro 2 (a1.map tree_bestT.cells)), (LV.agg [(I a2.c0), (I a2.c1)])] (LV.agg [(I r.Root), (I r.Cost), (I r.Bridge), (I r.Port)]) := by
 unfold tree_told at h
 refine .intro nlA (.intro TT_ok Try.func59 rfl rfl [0, 1, 2, 3, 5, 6] rfl ?_)
 conv => whnf
 replace h := bindS h
 obtain ⟨v11, hv11, h⟩ := h
 have i12 := gixF (f := tree_bestT.cells) hv11
 replace h := bindS h
 obtain ⟨v13, hv13, h⟩ := h
 have i14 := gixF (f := PlanT.cells) hv13
 have e := Option.some.inj h
 subst e
 repeat' first | exact rA _ | (refine ⟨_, i12, ?_⟩; conv => whnf) | (refine ⟨_, i14, ?_⟩; conv => whnf) | exact (⟨by decide, by decide⟩ : (0 : Int) ≤ 0 ∧ (0 : Int) < 2) | exact (⟨by decide, by decide⟩ : (0 : Int) ≤ 1 ∧ (1 : Int) < 2) | (refine W.drawnM (id := 1) 0 TT_ok hmix1 [0, 0, 0, 0, 0, 0, 0, 0, 0, 0, 0, 0, 0, 0, 0, 0, 0, 0, 0, 0, 0, 0, 0] [0, 0, 0, 0, 0, 0, 0, 0, 0, 0, 0, 0, 0, 0, 0, 0, 0, 0, 0, 0, 0, 0, 1] rfl ?_; conv => whnf) | exact clA _ | (refine And.intro ?_ ?_ <;> conv => whnf) | exact clG _ | (refine gand ?_ h; assumption) | exact clN _ | fail

def slices_IndexFunc_Vec_c0 (q1 : (VecT → Option Bool)) (k15 : Nat) (x15 : VecT) (s15 : Unit) : Option (Step Int Unit) :=
 (q1 x15).bind fun y14 =>
 (bif y14 then
  some (.ret ((k15 : Nat) : Int))
 else
  some (.nxt ()))

def slices_IndexFunc_Vec (a0 : (List VecT)) (q1 : (VecT → Option Bool)) : Option Int :=
 aft (rangeL (slices_IndexFunc_Vec_c0 q1) a0 ()) fun s15 =>
 some (-1)

theorem c_slices_IndexFunc_Vec (a0 : (List VecT)) (fn1 : Nat) (ff1 fc1 : List LV) (q1 : (VecT → Option Bool)) (hq1 : ∀ (x0 : VecT) (r : Bool), q1 x0 = some r → CallP Try.prog fn1 (ff1 ++ [(LV.agg [(I x0.Root), (I x0.Cost), (I x0.Bridge), (I x0.Port)])] ++ fc1) (LV.bool r)) (hn1 : NLs ff1 ∧ NLs fc1) (r : Int) (h : slices_IndexFunc_Vec a0 q1 = some r) : CallP Try.prog 109 [(LV.ro 4 (a0.map VecT.cells)), (LV.func (.func fn1) ff1 fc1)] (I r) := by
 have hnA1 := hn1.1
 have hnB1 := hn1.2
 unfold slices_IndexFunc_Vec at h
 refine .intro nlA (.intro TT_ok Try.func109 rfl rfl [0, 1, 4, 5, 7, 8, 9, 16] rfl ?_)
 conv => whnf
 repeat' first | exact rA _ | refine parkI ?_ | (refine And.intro ?_ ?_ <;> conv => whnf) | fail
 replace h := aftS h
 obtain ⟨O15, hO15, r15⟩ := h
 refine LoopW.norm [(0, (LV.ro 4 (a0.map VecT.cells))), (1, (LV.func (.func fn1) ff1 fc1)), (7, (I (((a0.map VecT.cells).length : Nat) : Int))), (8, (I ((0 : Nat) : Int)))] 0 [] ⟨rfl, rfl, rfl, rfl, trivial⟩ trivial blT rfl ?_
 refine LoopW.forR (fun k15 s15 => [(0, (LV.ro 4 (a0.map VecT.cells))), (1, (LV.func (.func fn1) ff1 fc1)), (7, (I (((a0.map VecT.cells).length : Nat) : Int))), (8, (I ((k15 : Nat) : Int)))]) (fun s15 => ⟨0, []⟩) hO15 (fun hl15 s15 hs15 => ?_) (fun hl15 k15 x15 s15 o15 hk15 hx15 b15 K15 hret15 hbrk15 => ?_)
 ·rw [hs15] at r15
  dsimp only [aftM] at r15
  have hd : decide (((a0.length : Nat) : Int) < (((a0.map VecT.cells).length : Nat) : Int)) = false := by rw [decide_eq_false_iff_not]; (try simp only [se_len, se_ch, List.length_map]); omega
  refine LoopW.round TT_ok [0, 1, 4, 5, 7, 8, 9, 16] ?_
  conv => whnf
  repeat' first | exact rA _ | refine parkI ?_ | (refine And.intro ?_ ?_ <;> conv => whnf) | fail
  refine parkE (fun hc => ?_) (fun hc => ?_)
  ·exact (Bool.false_ne_true (hd.symm.trans hc)).elim
  ·clear hd
   conv => whnf
   have e := Option.some.inj r15
   subst e
   repeat' first | exact rA _ | exact clA _ | (refine And.intro ?_ ?_ <;> conv => whnf) | exact clG _ | (refine gand ?_ h; assumption) | exact clN _ | fail
 ·unfold slices_IndexFunc_Vec_c0 at b15
  have hd : decide (((k15 : Nat) : Int) < (((a0.map VecT.cells).length : Nat) : Int)) = true := by rw [decide_eq_true_eq]; (try simp only [se_len, se_ch, List.length_map] at hk15); (try simp only [se_len, se_ch, List.length_map]); omega
  refine LoopW.round TT_ok [0, 1, 4, 5, 7, 8, 9, 16] ?_
  conv => whnf
  repeat' first | exact rA _ | refine parkI ?_ | (refine And.intro ?_ ?_ <;> conv => whnf) | fail
  refine parkE (fun hc => ?_) (fun hc => ?_)
  ·clear hd
   conv => whnf
   replace b15 := bindS b15
   obtain ⟨y14, hy14, b15⟩ := b15
   have c15 := hq1 x15 _ hy14
   repeat' first | exact rA _ | refine parkI ?_ | (refine ⟨_, (kixF (f := VecT.cells) hx15), ?_⟩; conv => whnf) | (refine CallP.use c15 ?_; conv => whnf) | (refine frzB_call rfl (slN_nil hn1) ?_; conv => whnf) | (refine And.intro ?_ ?_ <;> conv => whnf) | fail
   refine parkE (fun hc => ?_) (fun hc => ?_)
   ·replace b15 := condT hc b15
    conv => whnf
    have e := Option.some.inj b15
    replace e := hret15 _ e.symm
    rw [e] at r15
    replace e := Option.some.inj r15
    subst e
    repeat' first | exact rA _ | exact clA _ | (refine And.intro ?_ ?_ <;> conv => whnf) | exact clG _ | (refine gand ?_ h; assumption) | exact clN _ | fail
   ·replace b15 := condF hc b15
    conv => whnf
    repeat' first | exact rA _ | refine parkI ?_ | (refine And.intro ?_ ?_ <;> conv => whnf) | fail
    have e := Option.some.inj b15
    refine LoopW.norm [(0, (LV.ro 4 (a0.map VecT.cells))), (1, (LV.func (.func fn1) ff1 fc1)), (7, (I (((a0.map VecT.cells).length : Nat) : Int))), (8, (I ((k15 + 1 : Nat) : Int)))] 0 [] ⟨rfl, rfl, rfl, (congrArg (LV.int .i64) (w64_nat _ (by omega))), trivial⟩ trivial blT rfl (K15 _ e.symm)
  ·exact (Bool.false_ne_true (hc.symm.trans hd)).elim

def slices_ContainsFunc_Vec (a0 : (List VecT)) (q1 : (VecT → Option Bool)) : Option Bool :=
 (slices_IndexFunc_Vec a0 q1).bind fun y15 =>
 some (decide (0 ≤ y15))

theorem c_slices_ContainsFunc_Vec (a0 : (List VecT)) (fn1 : Nat) (ff1 fc1 : List LV) (q1 : (VecT → Option Bool)) (hq1 : ∀ (x0 : VecT) (r : Bool), q1 x0 = some r → CallP Try.prog fn1 (ff1 ++ [(LV.agg [(I x0.Root), (I x0.Cost), (I x0.Bridge), (I x0.Port)])] ++ fc1) (LV.bool r)) (hn1 : NLs ff1 ∧ NLs fc1) (r : Bool) (h : slices_ContainsFunc_Vec a0 q1 = some r) : CallP Try.prog 94 [(LV.ro 4 (a0.map VecT.cells)), (LV.func (.func fn1) ff1 fc1)] (LV.bool r) := by
 have hnA1 := hn1.1
 have hnB1 := hn1.2
 unfold slices_ContainsFunc_Vec at h
 refine .intro nlA (.intro TT_ok Try.func94 rfl rfl [0, 1, 4] rfl ?_)
 conv => whnf
 have n14 : slNs [(LV.ro 4 (a0.map VecT.cells)), (LV.func (.func fn1) ff1 fc1)] = [] := slNs_nil nlA
 replace h := bindS h
 obtain ⟨y15, hy15, h⟩ := h
 have c16 := c_slices_IndexFunc_Vec a0 fn1 ff1 fc1 q1 hq1 hn1 _ hy15
 have e := Option.some.inj h
 subst e
 repeat' first | exact rA _ | (refine CallP.use c16 ?_; conv => whnf) | (refine frzB_call n14 rfl ?_; conv => whnf) | (refine frz_nil n14 ?_; conv => whnf) | exact clA _ | (refine And.intro ?_ ?_ <;> conv => whnf) | exact clG _ | (refine gand ?_ h; assumption) | exact clN _ | fail

def vec_in (a0 : Int) (a1 : Int) : Option Bool :=
 some (bif (decide (0 ≤ a0)) then (decide (a0 ≤ a1)) else false)

theorem c_vec_in (a0 : Int) (a1 : Int) (r : Bool) (h : vec_in a0 a1 = some r) : CallP Try.prog 83 [(I a0), (I a1)] (LV.bool r) := by
 unfold vec_in at h
 refine .intro nlA (.intro TT_ok Try.func83 rfl rfl [0, 1, 4] rfl ?_)
 conv => whnf
 have e := Option.some.inj h
 subst e
 repeat' first | exact rA _ | exact clA _ | (refine And.intro ?_ ?_ <;> conv => whnf) | exact clG _ | (refine gand ?_ h; assumption) | exact clN _ | fail

def vec_Right (a0 : VecT) : Option Bool :=
 (vec_in a0.Root 65535).bind fun y14 =>
 (gd y14 (vec_in a0.Bridge 65535)).bind fun y16 =>
 (gd (bif y14 then y16 else false) (vec_in a0.Cost 2147483647)).bind fun y18 =>
 (gd (bif (bif y14 then y16 else false) then y18 else false) (vec_in a0.Port 7)).bind fun y20 =>
 some (bif (bif (bif y14 then y16 else false) then y18 else false) then y20 else false)

theorem c_vec_Right (a0 : VecT) (r : Bool) (h : vec_Right a0 = some r) : CallP Try.prog 82 [(LV.agg [(I a0.Root), (I a0.Cost), (I a0.Bridge), (I a0.Port)])] (LV.bool r) := by
 unfold vec_Right at h
 refine .intro nlA (.intro TT_ok Try.func82 rfl rfl [0, 1, 2] rfl ?_)
 conv => whnf
 replace h := bindS h
 obtain ⟨y14, hy14, h⟩ := h
 have c15 := c_vec_in a0.Root 65535 _ hy14
 replace h := bindS h
 obtain ⟨y16, hy16, h⟩ := h
 have c17 := fun (hg : y14 = true) => c_vec_in a0.Bridge 65535 _ (gdS hg hy16)
 replace h := bindS h
 obtain ⟨y18, hy18, h⟩ := h
 have c19 := fun (hg : (bif y14 then y16 else false) = true) => c_vec_in a0.Cost 2147483647 _ (gdS hg hy18)
 replace h := bindS h
 obtain ⟨y20, hy20, h⟩ := h
 have c21 := fun (hg : (bif (bif y14 then y16 else false) then y18 else false) = true) => c_vec_in a0.Port 7 _ (gdS hg hy20)
 have e := Option.some.inj h
 subst e
 repeat' first | exact rA _ | (refine ⟨_, c17, ?_⟩; conv => whnf) | (refine ⟨_, c19, ?_⟩; conv => whnf) | (refine ⟨_, c21, ?_⟩; conv => whnf) | (refine CallP.use c15 ?_; conv => whnf) | exact clA _ | (refine And.intro ?_ ?_ <;> conv => whnf) | exact clG _ | (refine gand ?_ h; assumption) | exact clN _ | fail

def vec_allRight_1 (a0 : VecT) : Option Bool :=
 (vec_Right a0).bind fun y14 =>
 some (!y14)

theorem c_vec_allRight_1 (a0 : VecT) (r : Bool) (h : vec_allRight_1 a0 = some r) : CallP Try.prog 95 [(LV.agg [(I a0.Root), (I a0.Cost), (I a0.Bridge), (I a0.Port)])] (LV.bool r) := by
 unfold vec_allRight_1 at h
 refine .intro nlA (.intro TT_ok Try.func95 rfl rfl [0, 1, 2] rfl ?_)
 conv => whnf
 replace h := bindS h
 obtain ⟨y14, hy14, h⟩ := h
 have c15 := c_vec_Right a0 _ hy14
 have e := Option.some.inj h
 subst e
 repeat' first | exact rA _ | (refine CallP.use c15 ?_; conv => whnf) | exact clA _ | (refine And.intro ?_ ?_ <;> conv => whnf) | exact clG _ | (refine gand ?_ h; assumption) | exact clN _ | fail

def vec_allRight (a0 : (List VecT)) : Option Bool :=
 (slices_ContainsFunc_Vec a0 (fun x0_ => vec_allRight_1 x0_)).bind fun y14 =>
 some (!y14)

theorem c_vec_allRight (a0 : (List VecT)) (r : Bool) (h : vec_allRight a0 = some r) : CallP Try.prog 84 [(LV.ro 4 (a0.map VecT.cells))] (LV.bool r) := by
 unfold vec_allRight at h
 refine .intro nlA (.intro TT_ok Try.func84 rfl rfl [0, 2] rfl ?_)
 conv => whnf
 replace h := bindS h
 obtain ⟨y14, hy14, h⟩ := h
 have c15 := c_slices_ContainsFunc_Vec a0 95 [] [] (fun x0_ => vec_allRight_1 x0_) (fun x0_ r h => c_vec_allRight_1 x0_ r h) nlB _ hy14
 have e := Option.some.inj h
 subst e
 repeat' first | exact rA _ | (refine CallP.use c15 ?_; conv => whnf) | exact clA _ | (refine And.intro ?_ ?_ <;> conv => whnf) | exact clG _ | (refine gand ?_ h; assumption) | exact clN _ | fail

theorem m_138_139 : MethodIs Try.prog 138 "footway/vec.rank" 139 := fun v w => by kernel_rfl

def cmp_Or_int_c0  (k17 : Nat) (x17 : Int) (s17 : Unit) : Option (Step Int Unit) :=
 (bif (!decide (x17 = 0)) then
  some (.ret x17)
 else
  some (.nxt ()))

def cmp_Or_int (a0 : (List Int)) : Option Int :=
 aft (rangeL (cmp_Or_int_c0 ) a0 ()) fun s17 =>
 some 0

theorem c_cmp_Or_int (a0 : (List Int)) (r : Int) (h : cmp_Or_int a0 = some r) : CallP Try.prog 140 [(LV.ro 1 (a0.map iC))] (I r) := by
 unfold cmp_Or_int at h
 refine .intro nlA (.intro TT_ok Try.func140 rfl rfl [0, 2, 3, 5, 6, 7, 8, 9, 14] rfl ?_)
 conv => whnf
 repeat' first | exact rA _ | refine parkI ?_ | (refine And.intro ?_ ?_ <;> conv => whnf) | fail
 replace h := aftS h
 obtain ⟨O17, hO17, r17⟩ := h
 refine LoopW.norm [(3, (I 0)), (6, (LV.ro 1 (a0.map iC))), (7, (I (((a0.map iC).length : Nat) : Int))), (8, (I ((0 : Nat) : Int)))] 0 [] ⟨rfl, rfl, rfl, rfl, trivial⟩ trivial blT rfl ?_
 refine LoopW.forR (fun k17 s17 => [(3, (I 0)), (6, (LV.ro 1 (a0.map iC))), (7, (I (((a0.map iC).length : Nat) : Int))), (8, (I ((k17 : Nat) : Int)))]) (fun s17 => ⟨0, []⟩) hO17 (fun hl17 s17 hs17 => ?_) (fun hl17 k17 x17 s17 o17 hk17 hx17 b17 K17 hret17 hbrk17 => ?_)
 ·rw [hs17] at r17
  dsimp only [aftM] at r17
  have hd : decide (((a0.length : Nat) : Int) < (((a0.map iC).length : Nat) : Int)) = false := by rw [decide_eq_false_iff_not]; (try simp only [se_len, se_ch, List.length_map]); omega
  refine LoopW.round TT_ok [0, 2, 3, 5, 6, 7, 8, 9, 14] ?_
  conv => whnf
  repeat' first | exact rA _ | refine parkI ?_ | (refine And.intro ?_ ?_ <;> conv => whnf) | fail
  refine parkE (fun hc => ?_) (fun hc => ?_)
  ·exact (Bool.false_ne_true (hd.symm.trans hc)).elim
  ·clear hd
   conv => whnf
   have e := Option.some.inj r17
   subst e
   repeat' first | exact rA _ | exact clA _ | (refine And.intro ?_ ?_ <;> conv => whnf) | exact clG _ | (refine gand ?_ h; assumption) | exact clN _ | fail
 ·unfold cmp_Or_int_c0 at b17
  have hd : decide (((k17 : Nat) : Int) < (((a0.map iC).length : Nat) : Int)) = true := by rw [decide_eq_true_eq]; (try simp only [se_len, se_ch, List.length_map] at hk17); (try simp only [se_len, se_ch, List.length_map]); omega
  refine LoopW.round TT_ok [0, 2, 3, 5, 6, 7, 8, 9, 14] ?_
  conv => whnf
  repeat' first | exact rA _ | refine parkI ?_ | (refine And.intro ?_ ?_ <;> conv => whnf) | fail
  refine parkE (fun hc => ?_) (fun hc => ?_)
  ·clear hd
   conv => whnf
   repeat' first | exact rA _ | refine parkI ?_ | (refine ⟨_, (kixF (f := iC) hx17), ?_⟩; conv => whnf) | (refine And.intro ?_ ?_ <;> conv => whnf) | fail
   refine parkE (fun hc => ?_) (fun hc => ?_)
   ·replace b17 := condT hc b17
    conv => whnf
    have e := Option.some.inj b17
    replace e := hret17 _ e.symm
    rw [e] at r17
    replace e := Option.some.inj r17
    subst e
    repeat' first | exact rA _ | exact clA _ | (refine And.intro ?_ ?_ <;> conv => whnf) | exact clG _ | (refine gand ?_ h; assumption) | exact clN _ | fail
   ·replace b17 := condF hc b17
    conv => whnf
    repeat' first | exact rA _ | refine parkI ?_ | (refine And.intro ?_ ?_ <;> conv => whnf) | fail
    have e := Option.some.inj b17
    refine LoopW.norm [(3, (I 0)), (6, (LV.ro 1 (a0.map iC))), (7, (I (((a0.map iC).length : Nat) : Int))), (8, (I ((k17 + 1 : Nat) : Int)))] 0 [] ⟨rfl, rfl, rfl, (congrArg (LV.int .i64) (w64_nat _ (by omega))), trivial⟩ trivial blT rfl (K17 _ e.symm)
  ·exact (Bool.false_ne_true (hc.symm.trans hd)).elim

def _vec_one_rank (a0 : vec_oneT) (a1 : vec_oneT) : Option Int :=
 (bif (((decide (a0.Vec.Root = a1.Vec.Root)) && ((decide (a0.Vec.Cost = a1.Vec.Cost)) && ((decide (a0.Vec.Bridge = a1.Vec.Bridge)) && ((decide (a0.Vec.Port = a1.Vec.Port)) && true)))) && true) then
  some 0
 else
  (cmp_Or_int ([(IntKind.i64.wrap (a0.Vec.Root - a1.Vec.Root)), (IntKind.i64.wrap (a0.Vec.Cost - a1.Vec.Cost)), (IntKind.i64.wrap (a0.Vec.Bridge - a1.Vec.Bridge)), (IntKind.i64.wrap (a0.Vec.Port - a1.Vec.Port))] : (List Int))).bind fun y18 =>
  some y18)

theorem c__vec_one_rank (a0 : vec_oneT) (a1 : vec_oneT) (r : Int) (h : _vec_one_rank a0 a1 = some r) : CallP Try.prog 139 [(LV.agg [(I a0.Vec.Root), (I a0.Vec.Cost), (I a0.Vec.Bridge), (I a0.Vec.Port)]), (LV.agg [(I a1.Vec.Root), (I a1.Vec.Cost), (I a1.Vec.Bridge), (I a1.Vec.Port)])] (I r) := by
 unfold _vec_one_rank at h
 refine .intro nlA (.intro TT_ok Try.func139 rfl rfl [0, 1, 2, 3, 4, 7] rfl ?_)
 conv => whnf
 repeat' first | exact rA _ | refine parkI ?_ | (refine And.intro ?_ ?_ <;> conv => whnf) | fail
 refine parkE (fun hc => ?_) (fun hc => ?_)
 ·replace h := condT hc h
  conv => whnf
  have e := Option.some.inj h
  subst e
  repeat' first | exact rA _ | exact clA _ | (refine And.intro ?_ ?_ <;> conv => whnf) | exact clG _ | (refine gand ?_ h; assumption) | exact clN _ | fail
 ·replace h := condF hc h
  conv => whnf
  replace h := bindS h
  obtain ⟨y18, hy18, h⟩ := h
  have c19 : CallP Try.prog 140 [(LV.ro 1 [[(I (IntKind.i64.wrap (a0.Vec.Root - a1.Vec.Root)))], [(I (IntKind.i64.wrap (a0.Vec.Cost - a1.Vec.Cost)))], [(I (IntKind.i64.wrap (a0.Vec.Bridge - a1.Vec.Bridge)))], [(I (IntKind.i64.wrap (a0.Vec.Port - a1.Vec.Port)))]])] (I y18) := by first | exact c_cmp_Or_int ([(IntKind.i64.wrap (a0.Vec.Root - a1.Vec.Root)), (IntKind.i64.wrap (a0.Vec.Cost - a1.Vec.Cost)), (IntKind.i64.wrap (a0.Vec.Bridge - a1.Vec.Bridge)), (IntKind.i64.wrap (a0.Vec.Port - a1.Vec.Port))] : (List Int)) _ hy18 | (simpa only [se_map, se_byL, se_len, se_ch, List.length_map] using c_cmp_Or_int ([(IntKind.i64.wrap (a0.Vec.Root - a1.Vec.Root)), (IntKind.i64.wrap (a0.Vec.Cost - a1.Vec.Cost)), (IntKind.i64.wrap (a0.Vec.Bridge - a1.Vec.Bridge)), (IntKind.i64.wrap (a0.Vec.Port - a1.Vec.Port))] : (List Int)) _ hy18)
  have e := Option.some.inj h
  subst e
  repeat' first | exact rA _ | (refine CallP.use c19 ?_; conv => whnf) | exact clA _ | (refine And.intro ?_ ?_ <;> conv => whnf) | exact clG _ | (refine gand ?_ h; assumption) | exact clN _ | fail

def vec_ahead_vec_oneT (q0 : vec_oneT) (a1 : vec_oneT) : Option Bool :=
 (_vec_one_rank q0 a1).bind fun y18 =>
 some (decide (y18 < 0))

theorem c_vec_ahead_vec_oneT (q0 : vec_oneT) (a1 : vec_oneT) (r : Bool) (h : vec_ahead_vec_oneT q0 a1 = some r) : CallP Try.prog 85 [(LV.iface 138 (LV.agg [(I q0.Vec.Root), (I q0.Vec.Cost), (I q0.Vec.Bridge), (I q0.Vec.Port)])), (LV.agg [(I a1.Vec.Root), (I a1.Vec.Cost), (I a1.Vec.Bridge), (I a1.Vec.Port)])] (LV.bool r) := by
 unfold vec_ahead_vec_oneT at h
 refine .intro nlA (.intro TT_ok Try.func85 rfl rfl [0, 1, 3, 4] rfl ?_)
 conv => whnf
 replace h := bindS h
 obtain ⟨y18, hy18, h⟩ := h
 have c19 := c__vec_one_rank q0 a1 _ hy18
 have e := Option.some.inj h
 subst e
 repeat' first | exact rA _ | (refine ⟨_, _, m_138_139.at, CallP.use c19 ?_⟩; conv => whnf) | (refine ⟨_, _, fun _ => ⟨m_138_139, c19⟩, ?_⟩; conv => whnf) | exact clA _ | (refine And.intro ?_ ?_ <;> conv => whnf) | exact clG _ | (refine gand ?_ h; assumption) | exact clN _ | fail

def vec_Best_c0 (a0 : (List VecT)) (k16 : Nat) (x16 : VecT) (s16 : Int) : Option (Step (Int × Int) Int) :=
 (gix a0 s16).bind fun v16 =>
 (vec_ahead_vec_oneT (⟨x16⟩ : vec_oneT) (⟨v16⟩ : vec_oneT)).bind fun y18 =>
 (bif y18 then
  some (.nxt ((k16 : Nat) : Int))
 else
  some (.nxt s16))

def vec_Best (a0 : (List VecT)) : Option (Int × Int) :=
 (vec_allRight a0).bind fun y14 =>
 (bif (!y14) then
  some (0, 1)
 else
  (bif (decide (((a0.length : Nat) : Int) = 0)) then
   some (0, 4)
  else
   aft (rangeL (vec_Best_c0 a0) a0 0) fun s16 =>
   some (s16, 0)))

theorem c_vec_Best (a0 : (List VecT)) (r : (Int × Int)) (h : vec_Best a0 = some r) : CallP Try.prog 60 [(LV.ro 4 (a0.map VecT.cells))] (LV.tup [(I r.1), (I r.2)]) := by
 unfold vec_Best at h
 refine .intro nlA (.intro TT_ok Try.func60 rfl rfl [0, 2, 3, 4, 5, 6, 7, 11, 15, 16, 17, 18, 30] rfl ?_)
 conv => whnf
 replace h := bindS h
 obtain ⟨y14, hy14, h⟩ := h
 have c15 := c_vec_allRight a0 _ hy14
 repeat' first | exact rA _ | refine parkI ?_ | (refine CallP.use c15 ?_; conv => whnf) | (refine ⟨_, _, CallP.at c15, ?_⟩; conv => whnf) | (refine ⟨_, fun _ => c15, ?_⟩; conv => whnf) | (refine W.drawn TT_ok hmix1 rfl ?_; conv => whnf) | exact clA _ | (refine And.intro ?_ ?_ <;> conv => whnf) | exact clG _ | (refine gand ?_ h; assumption) | exact clN _ | fail
 refine parkE (fun hc => ?_) (fun hc => ?_)
 ·replace h := condT hc h
  conv => whnf
  have e := Option.some.inj h
  subst e
  repeat' first | exact rA _ | (refine W.drawn TT_ok hmix1 rfl ?_; conv => whnf) | exact clA _ | (refine And.intro ?_ ?_ <;> conv => whnf) | exact clG _ | (refine gand ?_ h; assumption) | exact clN _ | fail
 ·replace h := condF hc h
  conv => whnf
  repeat' first | exact rA _ | refine parkI ?_ | (refine W.drawn TT_ok hmix1 rfl ?_; conv => whnf) | exact clA _ | (refine And.intro ?_ ?_ <;> conv => whnf) | exact clG _ | (refine gand ?_ h; assumption) | exact clN _ | fail
  refine parkE (fun hc => ?_) (fun hc => ?_)
  ·replace h := condT (by first | exact hc | (simpa only [se_len, se_ch, List.length_map] using hc; done) | (have h0 : (decide ((((a0.map VecT.cells).length : Nat) : Int) = 0)) = true := hc; simpa only [se_len, se_ch, List.length_map] using h0)) h
   conv => whnf
   have e := Option.some.inj h
   subst e
   repeat' first | exact rA _ | (refine W.drawn TT_ok hmix1 rfl ?_; conv => whnf) | exact clA _ | (refine And.intro ?_ ?_ <;> conv => whnf) | exact clG _ | (refine gand ?_ h; assumption) | exact clN _ | fail
  ·replace h := condF (by first | exact hc | (simpa only [se_len, se_ch, List.length_map] using hc; done) | (have h0 : (decide ((((a0.map VecT.cells).length : Nat) : Int) = 0)) = false := hc; simpa only [se_len, se_ch, List.length_map] using h0)) h
   conv => whnf
   repeat' first | exact rA _ | refine parkI ?_ | (refine W.drawn TT_ok hmix1 rfl ?_; conv => whnf) | exact clA _ | (refine And.intro ?_ ?_ <;> conv => whnf) | exact clG _ | (refine gand ?_ h; assumption) | exact clN _ | fail
   replace h := aftS h
   obtain ⟨O16, hO16, r16⟩ := h
   refine LoopW.norm [(0, (LV.ro 4 (a0.map VecT.cells))), (4, (I 0)), (15, (LV.ro 4 (a0.map VecT.cells))), (16, (I (((a0.map VecT.cells).length : Nat) : Int))), (17, (I ((0 : Nat) : Int)))] 0 [] ⟨rfl, rfl, rfl, rfl, rfl, trivial⟩ trivial blT rfl ?_
   refine LoopW.forR (fun k16 s16 => [(0, (LV.ro 4 (a0.map VecT.cells))), (4, (I s16)), (15, (LV.ro 4 (a0.map VecT.cells))), (16, (I (((a0.map VecT.cells).length : Nat) : Int))), (17, (I ((k16 : Nat) : Int)))]) (fun s16 => ⟨0, []⟩) hO16 (fun hl16 s16 hs16 => ?_) (fun hl16 k16 x16 s16 o16 hk16 hx16 b16 K16 hret16 hbrk16 => ?_)
   ·rw [hs16] at r16
    dsimp only [aftM] at r16
    have hd : decide (((a0.length : Nat) : Int) < (((a0.map VecT.cells).length : Nat) : Int)) = false := by rw [decide_eq_false_iff_not]; (try simp only [se_len, se_ch, List.length_map]); omega
    refine LoopW.round TT_ok [0, 2, 3, 4, 5, 6, 7, 11, 15, 16, 17, 18, 30] ?_
    conv => whnf
    repeat' first | exact rA _ | refine parkI ?_ | (refine W.drawn TT_ok hmix1 rfl ?_; conv => whnf) | exact clA _ | (refine And.intro ?_ ?_ <;> conv => whnf) | exact clG _ | (refine gand ?_ h; assumption) | exact clN _ | fail
    refine parkE (fun hc => ?_) (fun hc => ?_)
    ·exact (Bool.false_ne_true (hd.symm.trans hc)).elim
    ·clear hd
     conv => whnf
     have e := Option.some.inj r16
     subst e
     repeat' first | exact rA _ | (refine W.drawn TT_ok hmix1 rfl ?_; conv => whnf) | exact clA _ | (refine And.intro ?_ ?_ <;> conv => whnf) | exact clG _ | (refine gand ?_ h; assumption) | exact clN _ | fail
   ·unfold vec_Best_c0 at b16
    have hd : decide (((k16 : Nat) : Int) < (((a0.map VecT.cells).length : Nat) : Int)) = true := by rw [decide_eq_true_eq]; (try simp only [se_len, se_ch, List.length_map] at hk16); (try simp only [se_len, se_ch, List.length_map]); omega
    refine LoopW.round TT_ok [0, 2, 3, 4, 5, 6, 7, 11, 15, 16, 17, 18, 30] ?_
    conv => whnf
    repeat' first | exact rA _ | refine parkI ?_ | (refine W.drawn TT_ok hmix1 rfl ?_; conv => whnf) | exact clA _ | (refine And.intro ?_ ?_ <;> conv => whnf) | exact clG _ | (refine gand ?_ h; assumption) | exact clN _ | fail
    refine parkE (fun hc => ?_) (fun hc => ?_)
    ·clear hd
     conv => whnf
     replace b16 := bindS b16
     obtain ⟨v16, hv16, b16⟩ := b16
     have i17 := gixF (f := VecT.cells) hv16
     replace b16 := bindS b16
     obtain ⟨y18, hy18, b16⟩ := b16
     have c19 : CallP Try.prog 85 [(LV.iface 138 (LV.agg [(I x16.Root), (I x16.Cost), (I x16.Bridge), (I x16.Port)])), (LV.agg [(I v16.Root), (I v16.Cost), (I v16.Bridge), (I v16.Port)])] (LV.bool y18) := by first | exact c_vec_ahead_vec_oneT (⟨x16⟩ : vec_oneT) (⟨v16⟩ : vec_oneT) _ hy18 | (simpa only [se_map, se_byL, se_len, se_ch, List.length_map] using c_vec_ahead_vec_oneT (⟨x16⟩ : vec_oneT) (⟨v16⟩ : vec_oneT) _ hy18) | (simpa only [se_map, se_byL, se_len, se_ch, List.length_map, vec_oneT.cells] using c_vec_ahead_vec_oneT (⟨x16⟩ : vec_oneT) (⟨v16⟩ : vec_oneT) _ hy18)
     repeat' first | exact rA _ | refine parkI ?_ | (refine ⟨_, (kixF (f := VecT.cells) hx16), ?_⟩; conv => whnf) | (refine ⟨_, i17, ?_⟩; conv => whnf) | (refine CallP.use c19 ?_; conv => whnf) | (refine ⟨_, _, CallP.at c19, ?_⟩; conv => whnf) | (refine ⟨_, fun _ => c19, ?_⟩; conv => whnf) | (refine W.drawn TT_ok hmix1 rfl ?_; conv => whnf) | exact clA _ | (refine And.intro ?_ ?_ <;> conv => whnf) | exact clG _ | (refine gand ?_ h; assumption) | exact clN _ | fail
     refine parkE (fun hc => ?_) (fun hc => ?_)
     ·replace b16 := condT hc b16
      conv => whnf
      repeat' first | exact rA _ | refine parkI ?_ | (refine W.drawn TT_ok hmix1 rfl ?_; conv => whnf) | exact clA _ | (refine And.intro ?_ ?_ <;> conv => whnf) | exact clG _ | (refine gand ?_ h; assumption) | exact clN _ | fail
      have e := Option.some.inj b16
      refine LoopW.norm [(0, (LV.ro 4 (a0.map VecT.cells))), (4, (I ((k16 : Nat) : Int))), (15, (LV.ro 4 (a0.map VecT.cells))), (16, (I (((a0.map VecT.cells).length : Nat) : Int))), (17, (I ((k16 + 1 : Nat) : Int)))] 0 [] ⟨rfl, rfl, rfl, rfl, (congrArg (LV.int .i64) (w64_nat _ (by omega))), trivial⟩ trivial blT rfl (K16 _ e.symm)
     ·replace b16 := condF hc b16
      conv => whnf
      repeat' first | exact rA _ | refine parkI ?_ | (refine W.drawn TT_ok hmix1 rfl ?_; conv => whnf) | exact clA _ | (refine And.intro ?_ ?_ <;> conv => whnf) | exact clG _ | (refine gand ?_ h; assumption) | exact clN _ | fail
      have e := Option.some.inj b16
      refine LoopW.norm [(0, (LV.ro 4 (a0.map VecT.cells))), (4, (I s16)), (15, (LV.ro 4 (a0.map VecT.cells))), (16, (I (((a0.map VecT.cells).length : Nat) : Int))), (17, (I ((k16 + 1 : Nat) : Int)))] 0 [] ⟨rfl, rfl, rfl, rfl, (congrArg (LV.int .i64) (w64_nat _ (by omega))), trivial⟩ trivial blT rfl (K16 _ e.symm)
    ·exact (Bool.false_ne_true (hc.symm.trans hd)).elim

def tree_own_c0 (a0 : LanT) (a1 : (List tree_bestT)) (k14 : Nat) (x14 : A2_Int) (s14 : (List VecT)) : Option (Step (A2_Int × Bool) (List VecT)) :=
 (tree_told a0 a1 x14).bind fun y11 =>
 grd (fits ((s14 ++ ([y11] : (List VecT))) : List VecT).length 32) <|
 some (.nxt (s14 ++ ([y11] : (List VecT))))

def tree_own (a0 : LanT) (a1 : (List tree_bestT)) (a2 : Int) : Option (A2_Int × Bool) :=
 (lan_On a0 a2).bind fun y9 =>
 aft (rangeL (tree_own_c0 a0 a1) y9.2.1 ([] : (List VecT))) fun s14 =>
 (vec_Best s14).bind fun y14 =>
 (bif (!decide (y14.2 = 0)) then
  some ((⟨0, 0⟩ : A2_Int), false)
 else
  (gix y9.2.1 y14.1).bind fun v16 =>
  some (v16, true))

theorem c_tree_own (a0 : LanT) (a1 : (List tree_bestT)) (a2 : Int) (r : (A2_Int × Bool)) (h : tree_own a0 a1 a2 = some r) : CallP Try.prog 34 [(LV.agg [(I a0.Segs), (LV.ro 2 (a0.Plans.map PlanT.cells)), (LV.ro 2 (a0.Hosts.map HostT.cells))]), (LV.ro 2 (a1.map tree_bestT.cells)), (I a2)] (LV.tup [(LV.agg [(I r.1.c0), (I r.1.c1)]), (LV.bool r.2)]) := by
 unfold tree_own at h
 refine .intro nlA (.intro TT_ok Try.func34 rfl rfl [0, 1, 2, 3, 6, 7, 9, 11, 13, 14, 15, 23, 24, 25, 26, 43] rfl ?_)
 conv => whnf
 replace h := bindS h
 obtain ⟨y9, hy9, h⟩ := h
 have c10 := c_lan_On a0 a2 _ hy9
 repeat' first | exact rA _ | refine parkI ?_ | (refine CallP.use c10 ?_; conv => whnf) | (refine And.intro ?_ ?_ <;> conv => whnf) | fail
 replace h := aftS h
 obtain ⟨O14, hO14, r14⟩ := h
 refine LoopW.virt 11 108 4 rfl ?_
 refine LoopW.norm [(1, (LV.ro 2 (a1.map tree_bestT.cells))), (3, (LV.ptr 0 0 0)), (6, (LV.ptr 1 0 0)), (9, (LV.ro 2 (y9.2.1.map A2_Int.cells))), (11, (LV.sl 2 0 (([] : (List VecT)).map VecT.cells).length)), (23, (LV.ro 2 (y9.2.1.map A2_Int.cells))), (24, (I (((y9.2.1.map A2_Int.cells).length : Nat) : Int))), (25, (I ((0 : Nat) : Int)))] 3 [(0, (.row 25 3 [[(I a0.Segs), (LV.ro 2 (a0.Plans.map PlanT.cells)), (LV.ro 2 (a0.Hosts.map HostT.cells))]])), (1, (.row 41 2 [[(I 0), (I 0)]])), (2, (.row 108 4 (([] : (List VecT)).map VecT.cells)))] ⟨rfl, rfl, rfl, rfl, (by exact congrArg (LV.sl 2 0) (clL _ : 0 = (([] : (List VecT)).map VecT.cells).length)), rfl, rfl, rfl, trivial⟩ ⟨⟨rfl, rfl, blT⟩, ⟨⟨rfl, rfl, blT⟩, ⟨⟨(congrArg (fun q => some (Blk.row 108 4 q)) (smT : ([] : List (List LV)) = (([] : (List VecT)).map VecT.cells))), rfl, NLss_bel (NLss_map' _)⟩, trivial⟩⟩⟩ blT rfl ?_
 refine LoopW.forR (fun k14 s14 => [(1, (LV.ro 2 (a1.map tree_bestT.cells))), (3, (LV.ptr 0 0 0)), (6, (LV.ptr 1 0 0)), (9, (LV.ro 2 (y9.2.1.map A2_Int.cells))), (11, (LV.sl 2 0 (s14.map VecT.cells).length)), (23, (LV.ro 2 (y9.2.1.map A2_Int.cells))), (24, (I (((y9.2.1.map A2_Int.cells).length : Nat) : Int))), (25, (I ((k14 : Nat) : Int)))]) (fun s14 => ⟨3, [(0, (.row 25 3 [[(I a0.Segs), (LV.ro 2 (a0.Plans.map PlanT.cells)), (LV.ro 2 (a0.Hosts.map HostT.cells))]])), (1, (.row 41 2 [[(I 0), (I 0)]])), (2, (.row 108 4 (s14.map VecT.cells)))]⟩) hO14 (fun hl14 s14 hs14 => ?_) (fun hl14 k14 x14 s14 o14 hk14 hx14 b14 K14 hret14 hbrk14 => ?_)
 ·rw [hs14] at r14
  dsimp only [aftM] at r14
  have hd : decide (((y9.2.1.length : Nat) : Int) < (((y9.2.1.map A2_Int.cells).length : Nat) : Int)) = false := by rw [decide_eq_false_iff_not]; (try simp only [se_len, se_ch, List.length_map]); omega
  refine LoopW.round TT_ok [0, 1, 2, 3, 6, 7, 9, 11, 13, 14, 15, 23, 24, 25, 26, 43] ?_
  conv => whnf
  repeat' first | exact rA _ | refine parkI ?_ | (refine And.intro ?_ ?_ <;> conv => whnf) | fail
  refine parkE (fun hc => ?_) (fun hc => ?_)
  ·exact (Bool.false_ne_true (hd.symm.trans hc)).elim
  ·clear hd
   conv => whnf
   replace r14 := bindS r14
   obtain ⟨y14, hy14, r14⟩ := r14
   have c15 := c_vec_Best s14 _ hy14
   repeat' first | exact rA _ | refine parkI ?_ | (refine CallP.use c15 ?_; conv => whnf) | exact clA _ | (refine And.intro ?_ ?_ <;> conv => whnf) | exact clN _ | fail
   refine parkE (fun hc => ?_) (fun hc => ?_)
   ·replace r14 := condT hc r14
    conv => whnf
    have e := Option.some.inj r14
    subst e
    repeat' first | exact rA _ | exact clA _ | (refine And.intro ?_ ?_ <;> conv => whnf) | exact clG _ | (refine gand ?_ h; assumption) | exact clN _ | fail
   ·replace r14 := condF hc r14
    conv => whnf
    replace r14 := bindS r14
    obtain ⟨v16, hv16, r14⟩ := r14
    have i17 := gixF (f := A2_Int.cells) hv16
    have e := Option.some.inj r14
    subst e
    repeat' first | exact rA _ | (refine ⟨_, i17, ?_⟩; conv => whnf) | exact clA _ | (refine And.intro ?_ ?_ <;> conv => whnf) | exact clG _ | (refine gand ?_ h; assumption) | exact clN _ | fail
 ·unfold tree_own_c0 at b14
  have hd : decide (((k14 : Nat) : Int) < (((y9.2.1.map A2_Int.cells).length : Nat) : Int)) = true := by rw [decide_eq_true_eq]; (try simp only [se_len, se_ch, List.length_map] at hk14); (try simp only [se_len, se_ch, List.length_map]); omega
  refine LoopW.round TT_ok [0, 1, 2, 3, 6, 7, 9, 11, 13, 14, 15, 23, 24, 25, 26, 43] ?_
  conv => whnf
  repeat' first | exact rA _ | refine parkI ?_ | (refine And.intro ?_ ?_ <;> conv => whnf) | fail
  refine parkE (fun hc => ?_) (fun hc => ?_)
  ·clear hd
   conv => whnf
   replace b14 := bindS b14
   obtain ⟨y11, hy11, b14⟩ := b14
   have c12 := c_tree_told a0 a1 x14 _ hy11
   replace b14 := grdS b14
   obtain ⟨g13, b14⟩ := b14
   replace g13 : fits (((s14.map VecT.cells) ++ [[(I y11.Root), (I y11.Cost), (I y11.Bridge), (I y11.Port)]])).length 32 := by simpa only [se_len, se_ch, List.length_map] using g13
   repeat' first | exact rA _ | refine parkI ?_ | (refine ⟨_, (kixF (f := A2_Int.cells) hx14), ?_⟩; conv => whnf) | exact g13 | (refine CallP.use c12 ?_; conv => whnf) | exact clA _ | (refine And.intro ?_ ?_ <;> conv => whnf) | exact clN _ | fail
   have e := Option.some.inj b14
   refine LoopW.ren [(0, 0), (1, 1), (5, 2)] [(1, (LV.ro 2 (a1.map tree_bestT.cells))), (3, (LV.ptr 0 0 0)), (6, (LV.ptr 1 0 0)), (9, (LV.ro 2 (y9.2.1.map A2_Int.cells))), (11, (LV.sl 2 0 ((s14 ++ ([y11] : (List VecT))).map VecT.cells).length)), (23, (LV.ro 2 (y9.2.1.map A2_Int.cells))), (24, (I (((y9.2.1.map A2_Int.cells).length : Nat) : Int))), (25, (I ((k14 + 1 : Nat) : Int)))] 3 [(0, (.row 25 3 [[(I a0.Segs), (LV.ro 2 (a0.Plans.map PlanT.cells)), (LV.ro 2 (a0.Hosts.map HostT.cells))]])), (1, (.row 41 2 [[(I 0), (I 0)]])), (2, (.row 108 4 ((s14 ++ ([y11] : (List VecT))).map VecT.cells)))] rfl ⟨rfl, rfl, rfl, rfl, (by exact congrArg (LV.sl 2 0) (clL _ : (((s14.map VecT.cells) ++ [[(I y11.Root), (I y11.Cost), (I y11.Bridge), (I y11.Port)]])).length = ((s14 ++ ([y11] : (List VecT))).map VecT.cells).length)), rfl, rfl, (congrArg (LV.int .i64) (w64_nat _ (by omega))), trivial⟩ ⟨⟨rfl, rfl, .inl ⟨rfl, nlT⟩⟩, rfl, rfl, ⟨⟨rfl, rfl, .inl ⟨rfl, nlT⟩⟩, rfl, rfl, ⟨⟨rfl, rfl, .inl ⟨(smT : (((s14.map VecT.cells) ++ [[(I y11.Root), (I y11.Cost), (I y11.Bridge), (I y11.Port)]]) : List (List LV)) = ((s14 ++ ([y11] : (List VecT))).map VecT.cells)), nlT⟩⟩, rfl, rfl, trivial⟩⟩⟩ rfl (K14 _ e.symm)
  ·exact (Bool.false_ne_true (hc.symm.trans hd)).elim

def vec_Far (a0 : VecT) (a1 : Int) : Option (VecT × Int) :=
 (vec_Right a0).bind fun y13 =>
 (gd (!(!y13)) (vec_in a1 2147483647)).bind fun y15 =>
 (bif (bif (!y13) then true else (!y15)) then
  some ((⟨0, 0, 0, 0⟩ : VecT), 1)
 else
  some ((⟨a0.Root, (mn (IntKind.i64.wrap (a0.Cost + a1)) 2147483647), a0.Bridge, a0.Port⟩ : VecT), 0))

theorem c_vec_Far (a0 : VecT) (a1 : Int) (r : (VecT × Int)) (h : vec_Far a0 a1 = some r) : CallP Try.prog 58 [(LV.agg [(I a0.Root), (I a0.Cost), (I a0.Bridge), (I a0.Port)]), (I a1)] (LV.tup [(LV.agg [(I r.1.Root), (I r.1.Cost), (I r.1.Bridge), (I r.1.Port)]), (I r.2)]) := by
 unfold vec_Far at h
 refine .intro nlA (.intro TT_ok Try.func58 rfl rfl [0, 1, 2, 4, 5, 13] rfl ?_)
 conv => whnf
 replace h := bindS h
 obtain ⟨y13, hy13, h⟩ := h
 have c14 := c_vec_Right a0 _ hy13
 replace h := bindS h
 obtain ⟨y15, hy15, h⟩ := h
 have c16 := fun (hg : (!(!y13)) = true) => c_vec_in a1 2147483647 _ (gdS hg hy15)
 repeat' first | exact rA _ | refine parkI ?_ | (refine ⟨_, c16, ?_⟩; conv => whnf) | (refine CallP.use c14 ?_; conv => whnf) | exact clA _ | (refine And.intro ?_ ?_ <;> conv => whnf) | exact clG _ | (refine gand ?_ h; assumption) | fail
 refine parkE (fun hc => ?_) (fun hc => ?_)
 ·replace h := condT hc h
  conv => whnf
  have e := Option.some.inj h
  subst e
  repeat' first | exact rA _ | exact clA _ | (refine And.intro ?_ ?_ <;> conv => whnf) | exact clG _ | (refine gand ?_ h; assumption) | exact clN _ | fail
 ·replace h := condF hc h
  conv => whnf
  have e := Option.some.inj h
  subst e
  repeat' first | exact rA _ | exact clA _ | (refine And.intro ?_ ?_ <;> conv => whnf) | exact clG _ | (refine gand ?_ h; assumption) | exact clN _ | fail

def tree_root_c0 (a0 : LanT) (a1 : (List tree_bestT)) (a2 : Int) (k13 : Nat) (x13 : LinkT) (s13 : ((List Int) × (List VecT))) : Option (Step Int ((List Int) × (List VecT))) :=
 (tree_own a0 a1 x13.Seg).bind fun y9 =>
 (bif (bif (bif (!x13.Up) then true else (!y9.2)) then true else (decide (y9.1.c0 = a2))) then
  some (.nxt (s13.1, s13.2))
 else
  (tree_told a0 a1 y9.1).bind fun y11 =>
  (vec_Far y11 x13.Cost).bind fun y13 =>
  (gix a1 a2).bind fun v15 =>
  (bif ((decide (y13.1.Root = v15.c0)) && ((decide (y13.1.Cost = v15.c1)) && true)) then
   grd (fits ((s13.1 ++ ([((k13 : Nat) : Int)] : (List Int))) : List Int).length 8) <|
   grd (fits ((s13.2 ++ ([y13.1] : (List VecT))) : List VecT).length 32) <|
   some (.nxt ((s13.1 ++ ([((k13 : Nat) : Int)] : (List Int))), (s13.2 ++ ([y13.1] : (List VecT)))))
  else
   some (.nxt (s13.1, s13.2))))

def tree_root (a0 : LanT) (a1 : (List tree_bestT)) (a2 : Int) : Option Int :=
 (gix a1 a2).bind fun v5 =>
 (gix a0.Plans a2).bind fun v7 =>
 (bif (decide (v5.c0 = v7.ID)) then
  some (-1)
 else
  aft (rangeL (tree_root_c0 a0 a1 a2) v7.Ports (([] : (List Int)), ([] : (List VecT)))) fun s13 =>
  (vec_Best s13.2).bind fun y19 =>
  (bif (!decide (y19.2 = 0)) then
   some (-1)
  else
   grd ((0 : Int) ≤ y19.1 ∧ y19.1 < ((s13.1.length : Nat) : Int)) <|
   (gixN s13.1 (y19.1 : Int).toNat).bind fun v22 =>
   some v22))

theorem c_tree_root (a0 : LanT) (a1 : (List tree_bestT)) (a2 : Int) (r : Int) (h : tree_root a0 a1 a2 = some r) : CallP Try.prog 33 [(LV.agg [(I a0.Segs), (LV.ro 2 (a0.Plans.map PlanT.cells)), (LV.ro 2 (a0.Hosts.map HostT.cells))]), (LV.ro 2 (a1.map tree_bestT.cells)), (I a2)] (I r) := by
 unfold tree_root at h
 refine .intro nlA (.intro TT_ok Try.func33 rfl rfl [0, 1, 2, 3, 6, 7, 8, 9, 10, 11, 12, 13, 15, 16, 28, 34, 35, 36, 37, 61, 81, 97] rfl ?_)
 conv => whnf
 replace h := bindS h
 obtain ⟨v5, hv5, h⟩ := h
 have i6 := gixF (f := tree_bestT.cells) hv5
 replace h := bindS h
 obtain ⟨v7, hv7, h⟩ := h
 have i8 := gixF (f := PlanT.cells) hv7
 repeat' first | exact rA _ | refine parkI ?_ | (refine ⟨_, i6, ?_⟩; conv => whnf) | (refine ⟨_, i8, ?_⟩; conv => whnf) | exact (⟨by decide, by decide⟩ : (0 : Int) ≤ 0 ∧ (0 : Int) < 2) | (refine W.drawn TT_ok hmix1 rfl ?_; conv => whnf) | (refine W.drawnM (id := 10) 0 TT_ok hmix1 [0, 0, 0, 0, 0, 0, 0, 0, 0, 0, 0, 1, 2] [1, 1, 1, 1, 1, 1, 1, 1, 1, 2, 1, 2, 2] rfl ?_; conv => whnf) | (refine W.drawnM (id := 12) 2 TT_ok hmix1 [0, 0, 0, 0, 0, 0, 0, 1, 2, 2] [0, 0, 0, 1, 1, 1, 1, 2, 2, 2] rfl ?_; conv => whnf) | exact clA _ | (refine And.intro ?_ ?_ <;> conv => whnf) | exact clG _ | (refine gand ?_ h; assumption) | exact clN _ | fail
 refine parkE (fun hc => ?_) (fun hc => ?_)
 ·replace h := condT hc h
  conv => whnf
  have e := Option.some.inj h
  subst e
  repeat' first | exact rA _ | (refine W.drawn TT_ok hmix1 rfl ?_; conv => whnf) | (refine W.drawnM (id := 10) 0 TT_ok hmix1 [0, 0, 0, 0, 0, 0, 0, 0, 0, 0, 0, 1, 2] [1, 1, 1, 1, 1, 1, 1, 1, 1, 2, 1, 2, 2] rfl ?_; conv => whnf) | (refine W.drawnM (id := 12) 2 TT_ok hmix1 [0, 0, 0, 0, 0, 0, 0, 1, 2, 2] [0, 0, 0, 1, 1, 1, 1, 2, 2, 2] rfl ?_; conv => whnf) | exact clA _ | (refine And.intro ?_ ?_ <;> conv => whnf) | exact clG _ | (refine gand ?_ h; assumption) | exact clN _ | fail
 ·replace h := condF hc h
  conv => whnf
  repeat' first | exact rA _ | refine parkI ?_ | (refine ⟨_, i8, ?_⟩; conv => whnf) | (refine W.drawn TT_ok hmix1 rfl ?_; conv => whnf) | (refine W.drawnM (id := 10) 0 TT_ok hmix1 [0, 0, 0, 0, 0, 0, 0, 0, 0, 0, 0, 1, 2] [1, 1, 1, 1, 1, 1, 1, 1, 1, 2, 1, 2, 2] rfl ?_; conv => whnf) | (refine W.drawnM (id := 12) 2 TT_ok hmix1 [0, 0, 0, 0, 0, 0, 0, 1, 2, 2] [0, 0, 0, 1, 1, 1, 1, 2, 2, 2] rfl ?_; conv => whnf) | exact clA _ | (refine And.intro ?_ ?_ <;> conv => whnf) | exact clG _ | (refine gand ?_ h; assumption) | exact clN _ | fail
  replace h := aftS h
  obtain ⟨O13, hO13, r13⟩ := h
  refine LoopW.virt 7 3 1 rfl ?_
  refine LoopW.virt 8 108 4 rfl ?_
  refine LoopW.norm [(1, (LV.ro 2 (a1.map tree_bestT.cells))), (2, (I a2)), (3, (LV.ptr 0 0 0)), (7, (LV.sl 1 0 ((([] : (List Int)), ([] : (List VecT))).1.map iC).length)), (8, (LV.sl 2 0 ((([] : (List Int)), ([] : (List VecT))).2.map VecT.cells).length)), (34, (LV.ro 3 (v7.Ports.map LinkT.cells))), (35, (I (((v7.Ports.map LinkT.cells).length : Nat) : Int))), (36, (I ((0 : Nat) : Int)))] 3 [(0, (.row 25 3 [[(I a0.Segs), (LV.ro 2 (a0.Plans.map PlanT.cells)), (LV.ro 2 (a0.Hosts.map HostT.cells))]])), (1, (.row 3 1 ((([] : (List Int)), ([] : (List VecT))).1.map iC))), (2, (.row 108 4 ((([] : (List Int)), ([] : (List VecT))).2.map VecT.cells)))] ⟨rfl, rfl, rfl, (by exact congrArg (LV.sl 1 0) (clL _ : 0 = ((([] : (List Int)), ([] : (List VecT))).1.map iC).length)), (by exact congrArg (LV.sl 2 0) (clL _ : 0 = ((([] : (List Int)), ([] : (List VecT))).2.map VecT.cells).length)), rfl, rfl, rfl, trivial⟩ ⟨⟨rfl, rfl, blT⟩, ⟨⟨(congrArg (fun q => some (Blk.row 3 1 q)) (smT : ([] : List (List LV)) = ((([] : (List Int)), ([] : (List VecT))).1.map iC))), rfl, NLss_bel (NLss_map' _)⟩, ⟨⟨(congrArg (fun q => some (Blk.row 108 4 q)) (smT : ([] : List (List LV)) = ((([] : (List Int)), ([] : (List VecT))).2.map VecT.cells))), rfl, NLss_bel (NLss_map' _)⟩, trivial⟩⟩⟩ blT rfl ?_
  refine LoopW.forR (fun k13 s13 => [(1, (LV.ro 2 (a1.map tree_bestT.cells))), (2, (I a2)), (3, (LV.ptr 0 0 0)), (7, (LV.sl 1 0 (s13.1.map iC).length)), (8, (LV.sl 2 0 (s13.2.map VecT.cells).length)), (34, (LV.ro 3 (v7.Ports.map LinkT.cells))), (35, (I (((v7.Ports.map LinkT.cells).length : Nat) : Int))), (36, (I ((k13 : Nat) : Int)))]) (fun s13 => ⟨3, [(0, (.row 25 3 [[(I a0.Segs), (LV.ro 2 (a0.Plans.map PlanT.cells)), (LV.ro 2 (a0.Hosts.map HostT.cells))]])), (1, (.row 3 1 (s13.1.map iC))), (2, (.row 108 4 (s13.2.map VecT.cells)))]⟩) hO13 (fun hl13 s13 hs13 => ?_) (fun hl13 k13 x13 s13 o13 hk13 hx13 b13 K13 hret13 hbrk13 => ?_)
  ·rw [hs13] at r13
   dsimp only [aftM] at r13
   have hd : decide (((v7.Ports.length : Nat) : Int) < (((v7.Ports.map LinkT.cells).length : Nat) : Int)) = false := by rw [decide_eq_false_iff_not]; (try simp only [se_len, se_ch, List.length_map]); omega
   refine LoopW.round TT_ok [0, 1, 2, 3, 6, 7, 8, 9, 10, 11, 12, 13, 15, 16, 28, 34, 35, 36, 37, 61, 81, 97] ?_
   conv => whnf
   repeat' first | exact rA _ | refine parkI ?_ | (refine W.drawn TT_ok hmix1 rfl ?_; conv => whnf) | (refine W.drawnM (id := 10) 0 TT_ok hmix1 [0, 0, 0, 0, 0, 0, 0, 0, 0, 0, 0, 1, 2] [1, 1, 1, 1, 1, 1, 1, 1, 1, 2, 1, 2, 2] rfl ?_; conv => whnf) | (refine W.drawnM (id := 12) 2 TT_ok hmix1 [0, 0, 0, 0, 0, 0, 0, 1, 2, 2] [0, 0, 0, 1, 1, 1, 1, 2, 2, 2] rfl ?_; conv => whnf) | exact clA _ | (refine And.intro ?_ ?_ <;> conv => whnf) | exact clG _ | (refine gand ?_ h; assumption) | exact clN _ | fail
   refine parkE (fun hc => ?_) (fun hc => ?_)
   ·exact (Bool.false_ne_true (hd.symm.trans hc)).elim
   ·clear hd
    conv => whnf
    replace r13 := bindS r13
    obtain ⟨y19, hy19, r13⟩ := r13
    have c20 := c_vec_Best s13.2 _ hy19
    repeat' first | exact rA _ | refine parkI ?_ | (refine CallP.use c20 ?_; conv => whnf) | (refine ⟨_, _, CallP.at c20, ?_⟩; conv => whnf) | (refine ⟨_, fun _ => c20, ?_⟩; conv => whnf) | (refine W.drawn TT_ok hmix1 rfl ?_; conv => whnf) | (refine W.drawnM (id := 10) 0 TT_ok hmix1 [0, 0, 0, 0, 0, 0, 0, 0, 0, 0, 0, 1, 2] [1, 1, 1, 1, 1, 1, 1, 1, 1, 2, 1, 2, 2] rfl ?_; conv => whnf) | (refine W.drawnM (id := 12) 2 TT_ok hmix1 [0, 0, 0, 0, 0, 0, 0, 1, 2, 2] [0, 0, 0, 1, 1, 1, 1, 2, 2, 2] rfl ?_; conv => whnf) | exact clA _ | (refine And.intro ?_ ?_ <;> conv => whnf) | exact clG _ | (refine gand ?_ h; assumption) | exact clN _ | fail
    refine parkE (fun hc => ?_) (fun hc => ?_)
    ·replace r13 := condT hc r13
     conv => whnf
     have e := Option.some.inj r13
     subst e
     repeat' first | exact rA _ | (refine W.drawn TT_ok hmix1 rfl ?_; conv => whnf) | (refine W.drawnM (id := 10) 0 TT_ok hmix1 [0, 0, 0, 0, 0, 0, 0, 0, 0, 0, 0, 1, 2] [1, 1, 1, 1, 1, 1, 1, 1, 1, 2, 1, 2, 2] rfl ?_; conv => whnf) | (refine W.drawnM (id := 12) 2 TT_ok hmix1 [0, 0, 0, 0, 0, 0, 0, 1, 2, 2] [0, 0, 0, 1, 1, 1, 1, 2, 2, 2] rfl ?_; conv => whnf) | exact clA _ | (refine And.intro ?_ ?_ <;> conv => whnf) | exact clG _ | (refine gand ?_ h; assumption) | exact clN _ | fail
    ·replace r13 := condF hc r13
     conv => whnf
     replace r13 := grdS r13
     obtain ⟨g21, r13⟩ := r13
     replace g21 : (0 : Int) ≤ y19.1 ∧ y19.1 < (((s13.1.map iC).length : Nat) : Int) := by simpa only [se_len, se_ch, List.length_map] using g21
     replace r13 := bindS r13
     obtain ⟨v22, hv22, r13⟩ := r13
     have i23 : nth (s13.1.map iC) (0 + ((y19.1 : Int).toNat)) = some [(I v22)] := by simpa only [se_map, se_len, se_ch, List.length_map, nth_eq, Nat.zero_add, List.getElem?_map] using gixNF (f := iC) hv22
     have e := Option.some.inj r13
     subst e
     repeat' first | exact rA _ | exact g21 | (rw [i23]; conv => whnf) | (refine W.drawn TT_ok hmix1 rfl ?_; conv => whnf) | (refine W.drawnM (id := 10) 0 TT_ok hmix1 [0, 0, 0, 0, 0, 0, 0, 0, 0, 0, 0, 1, 2] [1, 1, 1, 1, 1, 1, 1, 1, 1, 2, 1, 2, 2] rfl ?_; conv => whnf) | (refine W.drawnM (id := 12) 2 TT_ok hmix1 [0, 0, 0, 0, 0, 0, 0, 1, 2, 2] [0, 0, 0, 1, 1, 1, 1, 2, 2, 2] rfl ?_; conv => whnf) | exact clA _ | (refine And.intro ?_ ?_ <;> conv => whnf) | exact clG _ | (refine gand ?_ h; assumption) | exact clN _ | fail
  ·unfold tree_root_c0 at b13
   have hd : decide (((k13 : Nat) : Int) < (((v7.Ports.map LinkT.cells).length : Nat) : Int)) = true := by rw [decide_eq_true_eq]; (try simp only [se_len, se_ch, List.length_map] at hk13); (try simp only [se_len, se_ch, List.length_map]); omega
   refine LoopW.round TT_ok [0, 1, 2, 3, 6, 7, 8, 9, 10, 11, 12, 13, 15, 16, 28, 34, 35, 36, 37, 61, 81, 97] ?_
   conv => whnf
   repeat' first | exact rA _ | refine parkI ?_ | (refine W.drawn TT_ok hmix1 rfl ?_; conv => whnf) | (refine W.drawnM (id := 10) 0 TT_ok hmix1 [0, 0, 0, 0, 0, 0, 0, 0, 0, 0, 0, 1, 2] [1, 1, 1, 1, 1, 1, 1, 1, 1, 2, 1, 2, 2] rfl ?_; conv => whnf) | (refine W.drawnM (id := 12) 2 TT_ok hmix1 [0, 0, 0, 0, 0, 0, 0, 1, 2, 2] [0, 0, 0, 1, 1, 1, 1, 2, 2, 2] rfl ?_; conv => whnf) | exact clA _ | (refine And.intro ?_ ?_ <;> conv => whnf) | exact clG _ | (refine gand ?_ h; assumption) | exact clN _ | fail
   refine parkE (fun hc => ?_) (fun hc => ?_)
   ·clear hd
    conv => whnf
    replace b13 := bindS b13
    obtain ⟨y9, hy9, b13⟩ := b13
    have c10 := c_tree_own a0 a1 x13.Seg _ hy9
    repeat' first | exact rA _ | refine parkI ?_ | (refine ⟨_, (kixF (f := LinkT.cells) hx13), ?_⟩; conv => whnf) | (refine CallP.use c10 ?_; conv => whnf) | (refine ⟨_, _, CallP.at c10, ?_⟩; conv => whnf) | (refine ⟨_, fun _ => c10, ?_⟩; conv => whnf) | exact fun _ => (⟨by decide, by decide⟩ : (0 : Int) ≤ 0 ∧ (0 : Int) < 2) | (refine W.drawn TT_ok hmix1 rfl ?_; conv => whnf) | (refine W.drawnM (id := 10) 0 TT_ok hmix1 [0, 0, 0, 0, 0, 0, 0, 0, 0, 0, 0, 1, 2] [1, 1, 1, 1, 1, 1, 1, 1, 1, 2, 1, 2, 2] rfl ?_; conv => whnf) | (refine W.drawnM (id := 12) 2 TT_ok hmix1 [0, 0, 0, 0, 0, 0, 0, 1, 2, 2] [0, 0, 0, 1, 1, 1, 1, 2, 2, 2] rfl ?_; conv => whnf) | exact clA _ | (refine And.intro ?_ ?_ <;> conv => whnf) | exact clG _ | (refine gand ?_ h; assumption) | exact clN _ | fail
    refine parkE (fun hc => ?_) (fun hc => ?_)
    ·replace b13 := condT hc b13
     conv => whnf
     repeat' first | exact rA _ | refine parkI ?_ | (refine W.drawn TT_ok hmix1 rfl ?_; conv => whnf) | (refine W.drawnM (id := 10) 0 TT_ok hmix1 [0, 0, 0, 0, 0, 0, 0, 0, 0, 0, 0, 1, 2] [1, 1, 1, 1, 1, 1, 1, 1, 1, 2, 1, 2, 2] rfl ?_; conv => whnf) | (refine W.drawnM (id := 12) 2 TT_ok hmix1 [0, 0, 0, 0, 0, 0, 0, 1, 2, 2] [0, 0, 0, 1, 1, 1, 1, 2, 2, 2] rfl ?_; conv => whnf) | exact clA _ | (refine And.intro ?_ ?_ <;> conv => whnf) | exact clG _ | (refine gand ?_ h; assumption) | exact clN _ | fail
     have e := Option.some.inj b13
     refine LoopW.norm [(1, (LV.ro 2 (a1.map tree_bestT.cells))), (2, (I a2)), (3, (LV.ptr 0 0 0)), (7, (LV.sl 1 0 ((s13.1, s13.2).1.map iC).length)), (8, (LV.sl 2 0 ((s13.1, s13.2).2.map VecT.cells).length)), (34, (LV.ro 3 (v7.Ports.map LinkT.cells))), (35, (I (((v7.Ports.map LinkT.cells).length : Nat) : Int))), (36, (I ((k13 + 1 : Nat) : Int)))] 3 [(0, (.row 25 3 [[(I a0.Segs), (LV.ro 2 (a0.Plans.map PlanT.cells)), (LV.ro 2 (a0.Hosts.map HostT.cells))]])), (1, (.row 3 1 ((s13.1, s13.2).1.map iC))), (2, (.row 108 4 ((s13.1, s13.2).2.map VecT.cells)))] ⟨rfl, rfl, rfl, (by exact congrArg (LV.sl 1 0) (clL _ : (s13.1.map iC).length = ((s13.1, s13.2).1.map iC).length)), (by exact congrArg (LV.sl 2 0) (clL _ : (s13.2.map VecT.cells).length = ((s13.1, s13.2).2.map VecT.cells).length)), rfl, rfl, (congrArg (LV.int .i64) (w64_nat _ (by omega))), trivial⟩ ⟨⟨rfl, rfl, blT⟩, ⟨⟨(congrArg (fun q => some (Blk.row 3 1 q)) (smT : ((s13.1.map iC) : List (List LV)) = ((s13.1, s13.2).1.map iC))), rfl, NLss_bel (NLss_map' _)⟩, ⟨⟨(congrArg (fun q => some (Blk.row 108 4 q)) (smT : ((s13.2.map VecT.cells) : List (List LV)) = ((s13.1, s13.2).2.map VecT.cells))), rfl, NLss_bel (NLss_map' _)⟩, trivial⟩⟩⟩ blT rfl (K13 _ e.symm)
    ·replace b13 := condF hc b13
     conv => whnf
     replace b13 := bindS b13
     obtain ⟨y11, hy11, b13⟩ := b13
     have c12 := c_tree_told a0 a1 y9.1 _ hy11
     replace b13 := bindS b13
     obtain ⟨y13, hy13, b13⟩ := b13
     have c14 := c_vec_Far y11 x13.Cost _ hy13
     replace b13 := bindS b13
     obtain ⟨v15, hv15, b13⟩ := b13
     have i16 := gixF (f := tree_bestT.cells) hv15
     repeat' first | exact rA _ | refine parkI ?_ | (refine ⟨_, i16, ?_⟩; conv => whnf) | (refine CallP.use c12 ?_; conv => whnf) | (refine ⟨_, _, CallP.at c12, ?_⟩; conv => whnf) | (refine ⟨_, fun _ => c12, ?_⟩; conv => whnf) | (refine CallP.use c14 ?_; conv => whnf) | (refine ⟨_, _, CallP.at c14, ?_⟩; conv => whnf) | (refine ⟨_, fun _ => c14, ?_⟩; conv => whnf) | (refine W.drawn TT_ok hmix1 rfl ?_; conv => whnf) | (refine W.drawnM (id := 10) 0 TT_ok hmix1 [0, 0, 0, 0, 0, 0, 0, 0, 0, 0, 0, 1, 2] [1, 1, 1, 1, 1, 1, 1, 1, 1, 2, 1, 2, 2] rfl ?_; conv => whnf) | (refine W.drawnM (id := 12) 2 TT_ok hmix1 [0, 0, 0, 0, 0, 0, 0, 1, 2, 2] [0, 0, 0, 1, 1, 1, 1, 2, 2, 2] rfl ?_; conv => whnf) | exact clA _ | (refine And.intro ?_ ?_ <;> conv => whnf) | exact clG _ | (refine gand ?_ h; assumption) | exact clN _ | fail
     refine parkE (fun hc => ?_) (fun hc => ?_)
     ·replace b13 := condT hc b13
      conv => whnf
      replace b13 := grdS b13
      obtain ⟨g17, b13⟩ := b13
      replace g17 : fits (((s13.1.map iC) ++ [[(I ((k13 : Nat) : Int))]])).length 8 := by simpa only [se_len, se_ch, List.length_map] using g17
      replace b13 := grdS b13
      obtain ⟨g18, b13⟩ := b13
      replace g18 : fits (((s13.2.map VecT.cells) ++ [[(I y13.1.Root), (I y13.1.Cost), (I y13.1.Bridge), (I y13.1.Port)]])).length 32 := by simpa only [se_len, se_ch, List.length_map] using g18
      repeat' first | exact rA _ | refine parkI ?_ | exact g17 | exact g18 | (refine W.drawn TT_ok hmix1 rfl ?_; conv => whnf) | (refine W.drawnM (id := 10) 0 TT_ok hmix1 [0, 0, 0, 0, 0, 0, 0, 0, 0, 0, 0, 1, 2] [1, 1, 1, 1, 1, 1, 1, 1, 1, 2, 1, 2, 2] rfl ?_; conv => whnf) | (refine W.drawnM (id := 12) 2 TT_ok hmix1 [0, 0, 0, 0, 0, 0, 0, 1, 2, 2] [0, 0, 0, 1, 1, 1, 1, 2, 2, 2] rfl ?_; conv => whnf) | exact clA _ | (refine And.intro ?_ ?_ <;> conv => whnf) | exact clG _ | (refine gand ?_ h; assumption) | exact clN _ | fail
      have e := Option.some.inj b13
      refine LoopW.ren [(0, 0), (6, 1), (7, 2)] [(1, (LV.ro 2 (a1.map tree_bestT.cells))), (2, (I a2)), (3, (LV.ptr 0 0 0)), (7, (LV.sl 1 0 (((s13.1 ++ ([((k13 : Nat) : Int)] : (List Int))), (s13.2 ++ ([y13.1] : (List VecT)))).1.map iC).length)), (8, (LV.sl 2 0 (((s13.1 ++ ([((k13 : Nat) : Int)] : (List Int))), (s13.2 ++ ([y13.1] : (List VecT)))).2.map VecT.cells).length)), (34, (LV.ro 3 (v7.Ports.map LinkT.cells))), (35, (I (((v7.Ports.map LinkT.cells).length : Nat) : Int))), (36, (I ((k13 + 1 : Nat) : Int)))] 3 [(0, (.row 25 3 [[(I a0.Segs), (LV.ro 2 (a0.Plans.map PlanT.cells)), (LV.ro 2 (a0.Hosts.map HostT.cells))]])), (1, (.row 3 1 (((s13.1 ++ ([((k13 : Nat) : Int)] : (List Int))), (s13.2 ++ ([y13.1] : (List VecT)))).1.map iC))), (2, (.row 108 4 (((s13.1 ++ ([((k13 : Nat) : Int)] : (List Int))), (s13.2 ++ ([y13.1] : (List VecT)))).2.map VecT.cells)))] rfl ⟨rfl, rfl, rfl, (by exact congrArg (LV.sl 1 0) (clL _ : (((s13.1.map iC) ++ [[(I ((k13 : Nat) : Int))]])).length = (((s13.1 ++ ([((k13 : Nat) : Int)] : (List Int))), (s13.2 ++ ([y13.1] : (List VecT)))).1.map iC).length)), (by exact congrArg (LV.sl 2 0) (clL _ : (((s13.2.map VecT.cells) ++ [[(I y13.1.Root), (I y13.1.Cost), (I y13.1.Bridge), (I y13.1.Port)]])).length = (((s13.1 ++ ([((k13 : Nat) : Int)] : (List Int))), (s13.2 ++ ([y13.1] : (List VecT)))).2.map VecT.cells).length)), rfl, rfl, (congrArg (LV.int .i64) (w64_nat _ (by omega))), trivial⟩ ⟨⟨rfl, rfl, .inl ⟨rfl, nlT⟩⟩, rfl, rfl, ⟨⟨rfl, rfl, .inl ⟨(smT : (((s13.1.map iC) ++ [[(I ((k13 : Nat) : Int))]]) : List (List LV)) = (((s13.1 ++ ([((k13 : Nat) : Int)] : (List Int))), (s13.2 ++ ([y13.1] : (List VecT)))).1.map iC)), nlT⟩⟩, rfl, rfl, ⟨⟨rfl, rfl, .inl ⟨(smT : (((s13.2.map VecT.cells) ++ [[(I y13.1.Root), (I y13.1.Cost), (I y13.1.Bridge), (I y13.1.Port)]]) : List (List LV)) = (((s13.1 ++ ([((k13 : Nat) : Int)] : (List Int))), (s13.2 ++ ([y13.1] : (List VecT)))).2.map VecT.cells)), nlT⟩⟩, rfl, rfl, trivial⟩⟩⟩ rfl (K13 _ e.symm)
     ·replace b13 := condF hc b13
      conv => whnf
      repeat' first | exact rA _ | refine parkI ?_ | (refine W.drawn TT_ok hmix1 rfl ?_; conv => whnf) | (refine W.drawnM (id := 10) 0 TT_ok hmix1 [0, 0, 0, 0, 0, 0, 0, 0, 0, 0, 0, 1, 2] [1, 1, 1, 1, 1, 1, 1, 1, 1, 2, 1, 2, 2] rfl ?_; conv => whnf) | (refine W.drawnM (id := 12) 2 TT_ok hmix1 [0, 0, 0, 0, 0, 0, 0, 1, 2, 2] [0, 0, 0, 1, 1, 1, 1, 2, 2, 2] rfl ?_; conv => whnf) | exact clA _ | (refine And.intro ?_ ?_ <;> conv => whnf) | exact clG _ | (refine gand ?_ h; assumption) | exact clN _ | fail
      have e := Option.some.inj b13
      refine LoopW.norm [(1, (LV.ro 2 (a1.map tree_bestT.cells))), (2, (I a2)), (3, (LV.ptr 0 0 0)), (7, (LV.sl 1 0 ((s13.1, s13.2).1.map iC).length)), (8, (LV.sl 2 0 ((s13.1, s13.2).2.map VecT.cells).length)), (34, (LV.ro 3 (v7.Ports.map LinkT.cells))), (35, (I (((v7.Ports.map LinkT.cells).length : Nat) : Int))), (36, (I ((k13 + 1 : Nat) : Int)))] 3 [(0, (.row 25 3 [[(I a0.Segs), (LV.ro 2 (a0.Plans.map PlanT.cells)), (LV.ro 2 (a0.Hosts.map HostT.cells))]])), (1, (.row 3 1 ((s13.1, s13.2).1.map iC))), (2, (.row 108 4 ((s13.1, s13.2).2.map VecT.cells)))] ⟨rfl, rfl, rfl, (by exact congrArg (LV.sl 1 0) (clL _ : (s13.1.map iC).length = ((s13.1, s13.2).1.map iC).length)), (by exact congrArg (LV.sl 2 0) (clL _ : (s13.2.map VecT.cells).length = ((s13.1, s13.2).2.map VecT.cells).length)), rfl, rfl, (congrArg (LV.int .i64) (w64_nat _ (by omega))), trivial⟩ ⟨⟨rfl, rfl, blT⟩, ⟨⟨(congrArg (fun q => some (Blk.row 3 1 q)) (smT : ((s13.1.map iC) : List (List LV)) = ((s13.1, s13.2).1.map iC))), rfl, NLss_bel (NLss_map' _)⟩, ⟨⟨(congrArg (fun q => some (Blk.row 108 4 q)) (smT : ((s13.2.map VecT.cells) : List (List LV)) = ((s13.1, s13.2).2.map VecT.cells))), rfl, NLss_bel (NLss_map' _)⟩, trivial⟩⟩⟩ blT rfl (K13 _ e.symm)
   ·exact (Bool.false_ne_true (hc.symm.trans hd)).elim

def tree_Roles_c1 (a0 : LanT) (y3 : (List tree_bestT)) (k12 : Nat) (y5 : Int) (k18 : Nat) (x18 : LinkT) (s18 : (List Int)) : Option (Step (Step ((List (List Int)) × Int) (List (List Int))) (List Int)) :=
 (tree_own a0 y3 x18.Seg).bind fun y7 =>
 (bif (!x18.Up) then
  grd (fits ((s18 ++ ([3] : (List Int))) : List Int).length 8) <|
  some (.nxt (s18 ++ ([3] : (List Int))))
 else
  (bif ((decide (y7.1.c0 = ((k12 : Nat) : Int))) && ((decide (y7.1.c1 = ((k18 : Nat) : Int))) && true)) then
   grd (fits ((s18 ++ ([1] : (List Int))) : List Int).length 8) <|
   some (.nxt (s18 ++ ([1] : (List Int))))
  else
   (bif (decide (((k18 : Nat) : Int) = y5)) then
    grd (fits ((s18 ++ ([0] : (List Int))) : List Int).length 8) <|
    some (.nxt (s18 ++ ([0] : (List Int))))
   else
    grd (fits ((s18 ++ ([2] : (List Int))) : List Int).length 8) <|
    some (.nxt (s18 ++ ([2] : (List Int)))))))

def tree_Roles_c0 (a0 : LanT) (y3 : (List tree_bestT)) (k12 : Nat) (x12 : PlanT) (s12 : (List (List Int))) : Option (Step ((List (List Int)) × Int) (List (List Int))) :=
 (tree_root a0 y3 ((k12 : Nat) : Int)).bind fun y5 =>
 aft (rangeL (tree_Roles_c1 a0 y3 k12 y5) x12.Ports ([] : (List Int))) fun s18 =>
 grd (fits ((s12 ++ ([s18] : (List (List Int)))) : List (List Int)).length 24) <|
 some (.nxt (s12 ++ ([s18] : (List (List Int)))))

def tree_Roles (a0 : LanT) : Option ((List (List Int)) × Int) :=
 (lan_Right a0).bind fun y1 =>
 (bif (!y1) then
  some ([], 1)
 else
  (tree_bests a0).bind fun y3 =>
  aft (rangeL (tree_Roles_c0 a0 y3) a0.Plans ([] : (List (List Int)))) fun s12 =>
  some (s12, 0))

theorem c_tree_Roles (a0 : LanT) (r : ((List (List Int)) × Int)) (h : tree_Roles a0 = some r) : CallP Try.prog 11 [(LV.agg [(I a0.Segs), (LV.ro 2 (a0.Plans.map PlanT.cells)), (LV.ro 2 (a0.Hosts.map HostT.cells))])] (LV.tup [(LV.ro 1 (r.1.map (roC 1 iC))), (I r.2)]) := by
 unfold tree_Roles at h
 refine .intro nlA (.intro TT_ok Try.func11 rfl rfl [0, 1, 2, 3, 4, 5, 6, 7, 8, 9, 10, 11, 12, 13, 17, 21, 22, 23, 24, 33, 34, 35, 36, 50, 55, 58] rfl ?_)
 conv => whnf
 replace h := bindS h
 obtain ⟨y1, hy1, h⟩ := h
 have c2 := c_lan_Right a0 _ hy1
 repeat' first | exact rA _ | refine parkI ?_ | (refine CallP.use c2 ?_; conv => whnf) | (refine And.intro ?_ ?_ <;> conv => whnf) | fail
 refine parkE (fun hc => ?_) (fun hc => ?_)
 ·replace h := condT hc h
  conv => whnf
  have e := Option.some.inj h
  subst e
  repeat' first | exact rA _ | exact clA _ | (refine And.intro ?_ ?_ <;> conv => whnf) | exact clG _ | (refine gand ?_ h; assumption) | exact clN _ | fail
 ·replace h := condF hc h
  conv => whnf
  replace h := bindS h
  obtain ⟨y3, hy3, h⟩ := h
  have c4 := cf_tree_bests a0 _ hy3
  repeat' first | exact rA _ | refine parkI ?_ | (refine CallW.done (CallF.at c4 nlA (NLss_map' _)) ?_; conv => whnf) | (refine ⟨_, _, CallF.at c4 nlA (NLss_map' _), ?_⟩; conv => whnf) | exact clA _ | (refine And.intro ?_ ?_ <;> conv => whnf) | exact clN _ | fail
  replace h := aftS h
  obtain ⟨O12, hO12, r12⟩ := h
  refine LoopW.frz [1] ?_
  conv => whnf
  repeat' first | exact rA _ | refine parkI ?_ | exact clA _ | (refine And.intro ?_ ?_ <;> conv => whnf) | exact clN _ | fail
  refine LoopW.virt 5 47 1 rfl ?_
  refine LoopW.norm [(1, (LV.ptr 0 0 0)), (4, (LV.ro 2 (y3.map tree_bestT.cells))), (5, (LV.sl 2 0 (([] : (List (List Int))).map (roC 1 iC)).length)), (21, (LV.ro 2 (a0.Plans.map PlanT.cells))), (22, (I (((a0.Plans.map PlanT.cells).length : Nat) : Int))), (23, (I ((0 : Nat) : Int)))] 3 [(0, (.row 25 3 [[(I a0.Segs), (LV.ro 2 (a0.Plans.map PlanT.cells)), (LV.ro 2 (a0.Hosts.map HostT.cells))]])), (2, (.row 47 1 (([] : (List (List Int))).map (roC 1 iC))))] ⟨rfl, rfl, (by exact congrArg (LV.sl 2 0) (clL _ : 0 = (([] : (List (List Int))).map (roC 1 iC)).length)), rfl, rfl, rfl, trivial⟩ ⟨⟨rfl, rfl, blT⟩, ⟨⟨(congrArg (fun q => some (Blk.row 47 1 q)) (by first | (simp only [se_map, se_byL, se_len, se_ch, List.length_map]; done) | (simp only [se_map, se_byL, se_len, se_ch, List.length_map, roC]; done) : ([] : List (List LV)) = (([] : (List (List Int))).map (roC 1 iC)))), rfl, NLss_bel (NLss_map' _)⟩, trivial⟩⟩ blT rfl ?_
  refine LoopW.forR (fun k12 s12 => [(1, (LV.ptr 0 0 0)), (4, (LV.ro 2 (y3.map tree_bestT.cells))), (5, (LV.sl 2 0 (s12.map (roC 1 iC)).length)), (21, (LV.ro 2 (a0.Plans.map PlanT.cells))), (22, (I (((a0.Plans.map PlanT.cells).length : Nat) : Int))), (23, (I ((k12 : Nat) : Int)))]) (fun s12 => ⟨3, [(0, (.row 25 3 [[(I a0.Segs), (LV.ro 2 (a0.Plans.map PlanT.cells)), (LV.ro 2 (a0.Hosts.map HostT.cells))]])), (2, (.row 47 1 (s12.map (roC 1 iC))))]⟩) hO12 (fun hl12 s12 hs12 => ?_) (fun hl12 k12 x12 s12 o12 hk12 hx12 b12 K12 hret12 hbrk12 => ?_)
  ·rw [hs12] at r12
   dsimp only [aftM] at r12
   have hd : decide (((a0.Plans.length : Nat) : Int) < (((a0.Plans.map PlanT.cells).length : Nat) : Int)) = false := by rw [decide_eq_false_iff_not]; (try simp only [se_len, se_ch, List.length_map]); omega
   refine LoopW.round TT_ok [0, 1, 2, 3, 4, 5, 6, 7, 8, 9, 10, 11, 12, 13, 17, 21, 22, 23, 24, 33, 34, 35, 36, 50, 55, 58] ?_
   conv => whnf
   repeat' first | exact rA _ | refine parkI ?_ | (refine And.intro ?_ ?_ <;> conv => whnf) | fail
   refine parkE (fun hc => ?_) (fun hc => ?_)
   ·exact (Bool.false_ne_true (hd.symm.trans hc)).elim
   ·clear hd
    conv => whnf
    have e := Option.some.inj r12
    subst e
    repeat' first | exact rA _ | exact clA _ | (refine And.intro ?_ ?_ <;> conv => whnf) | exact clG _ | (refine gand ?_ h; assumption) | exact clN _ | fail
  ·unfold tree_Roles_c0 at b12
   have hd : decide (((k12 : Nat) : Int) < (((a0.Plans.map PlanT.cells).length : Nat) : Int)) = true := by rw [decide_eq_true_eq]; (try simp only [se_len, se_ch, List.length_map] at hk12); (try simp only [se_len, se_ch, List.length_map]); omega
   refine LoopW.round TT_ok [0, 1, 2, 3, 4, 5, 6, 7, 8, 9, 10, 11, 12, 13, 17, 21, 22, 23, 24, 33, 34, 35, 36, 50, 55, 58] ?_
   conv => whnf
   repeat' first | exact rA _ | refine parkI ?_ | (refine And.intro ?_ ?_ <;> conv => whnf) | fail
   refine parkE (fun hc => ?_) (fun hc => ?_)
   ·clear hd
    conv => whnf
    replace b12 := bindS b12
    obtain ⟨y5, hy5, b12⟩ := b12
    have c6 := c_tree_root a0 y3 ((k12 : Nat) : Int) _ hy5
    repeat' first | exact rA _ | refine parkI ?_ | (refine ⟨_, (kixF (f := PlanT.cells) hx12), ?_⟩; conv => whnf) | (refine CallP.use c6 ?_; conv => whnf) | (refine And.intro ?_ ?_ <;> conv => whnf) | fail
    replace b12 := aftS b12
    obtain ⟨O18, hO18, r18⟩ := b12
    refine LoopW.virt 9 3 1 rfl ?_
    refine LoopW.norm [(1, (LV.ptr 0 0 0)), (4, (LV.ro 2 (y3.map tree_bestT.cells))), (5, (LV.sl 2 0 (s12.map (roC 1 iC)).length)), (6, (I ((k12 : Nat) : Int))), (8, (I y5)), (9, (LV.sl 4 0 (([] : (List Int)).map iC).length)), (21, (LV.ro 2 (a0.Plans.map PlanT.cells))), (22, (I (((a0.Plans.map PlanT.cells).length : Nat) : Int))), (23, (I ((k12 : Nat) : Int))), (33, (LV.ro 3 (x12.Ports.map LinkT.cells))), (34, (I (((x12.Ports.map LinkT.cells).length : Nat) : Int))), (35, (I ((0 : Nat) : Int)))] 5 [(0, (.row 25 3 [[(I a0.Segs), (LV.ro 2 (a0.Plans.map PlanT.cells)), (LV.ro 2 (a0.Hosts.map HostT.cells))]])), (2, (.row 47 1 (s12.map (roC 1 iC)))), (4, (.row 3 1 (([] : (List Int)).map iC)))] ⟨rfl, rfl, rfl, rfl, rfl, (by exact congrArg (LV.sl 4 0) (clL _ : 0 = (([] : (List Int)).map iC).length)), rfl, rfl, rfl, rfl, rfl, rfl, trivial⟩ ⟨⟨rfl, rfl, blT⟩, ⟨⟨rfl, rfl, NLss_bel (NLss_map' _)⟩, ⟨⟨(congrArg (fun q => some (Blk.row 3 1 q)) (smT : ([] : List (List LV)) = (([] : (List Int)).map iC))), rfl, NLss_bel (NLss_map' _)⟩, trivial⟩⟩⟩ blT rfl ?_
    refine LoopW.forR (fun k18 s18 => [(1, (LV.ptr 0 0 0)), (4, (LV.ro 2 (y3.map tree_bestT.cells))), (5, (LV.sl 2 0 (s12.map (roC 1 iC)).length)), (6, (I ((k12 : Nat) : Int))), (8, (I y5)), (9, (LV.sl 4 0 (s18.map iC).length)), (21, (LV.ro 2 (a0.Plans.map PlanT.cells))), (22, (I (((a0.Plans.map PlanT.cells).length : Nat) : Int))), (23, (I ((k12 : Nat) : Int))), (33, (LV.ro 3 (x12.Ports.map LinkT.cells))), (34, (I (((x12.Ports.map LinkT.cells).length : Nat) : Int))), (35, (I ((k18 : Nat) : Int)))]) (fun s18 => ⟨5, [(0, (.row 25 3 [[(I a0.Segs), (LV.ro 2 (a0.Plans.map PlanT.cells)), (LV.ro 2 (a0.Hosts.map HostT.cells))]])), (2, (.row 47 1 (s12.map (roC 1 iC)))), (4, (.row 3 1 (s18.map iC)))]⟩) hO18 (fun hl18 s18 hs18 => ?_) (fun hl18 k18 x18 s18 o18 hk18 hx18 b18 K18 hret18 hbrk18 => ?_)
    ·rw [hs18] at r18
     dsimp only [aftM] at r18
     have hd : decide (((x12.Ports.length : Nat) : Int) < (((x12.Ports.map LinkT.cells).length : Nat) : Int)) = false := by rw [decide_eq_false_iff_not]; (try simp only [se_len, se_ch, List.length_map]); omega
     refine LoopW.round TT_ok [0, 1, 2, 3, 4, 5, 6, 7, 8, 9, 10, 11, 12, 13, 17, 21, 22, 23, 24, 33, 34, 35, 36, 50, 55, 58] ?_
     conv => whnf
     repeat' first | exact rA _ | refine parkI ?_ | (refine And.intro ?_ ?_ <;> conv => whnf) | fail
     refine parkE (fun hc => ?_) (fun hc => ?_)
     ·exact (Bool.false_ne_true (hd.symm.trans hc)).elim
     ·clear hd
      conv => whnf
      replace r18 := grdS r18
      obtain ⟨g13, r18⟩ := r18
      replace g13 : fits (((s12.map (roC 1 iC)) ++ [[(LV.ro 1 (s18.map iC))]])).length 24 := by simpa only [se_len, se_ch, List.length_map] using g13
      repeat' first | exact rA _ | refine parkI ?_ | exact g13 | exact clA _ | (refine And.intro ?_ ?_ <;> conv => whnf) | exact clN _ | fail
      have e := Option.some.inj r18
      refine LoopW.ren [(0, 0), (6, 2)] [(1, (LV.ptr 0 0 0)), (4, (LV.ro 2 (y3.map tree_bestT.cells))), (5, (LV.sl 2 0 ((s12 ++ ([s18] : (List (List Int)))).map (roC 1 iC)).length)), (21, (LV.ro 2 (a0.Plans.map PlanT.cells))), (22, (I (((a0.Plans.map PlanT.cells).length : Nat) : Int))), (23, (I ((k12 + 1 : Nat) : Int)))] 3 [(0, (.row 25 3 [[(I a0.Segs), (LV.ro 2 (a0.Plans.map PlanT.cells)), (LV.ro 2 (a0.Hosts.map HostT.cells))]])), (2, (.row 47 1 ((s12 ++ ([s18] : (List (List Int)))).map (roC 1 iC))))] rfl ⟨rfl, rfl, (by exact congrArg (LV.sl 2 0) (clL _ : (((s12.map (roC 1 iC)) ++ [[(LV.ro 1 (s18.map iC))]])).length = ((s12 ++ ([s18] : (List (List Int)))).map (roC 1 iC)).length)), rfl, rfl, (congrArg (LV.int .i64) (w64_nat _ (by omega))), trivial⟩ ⟨⟨rfl, rfl, .inl ⟨rfl, nlT⟩⟩, rfl, rfl, ⟨⟨rfl, rfl, .inl ⟨(by first | (simp only [se_map, se_byL, se_len, se_ch, List.length_map]; done) | (simp only [se_map, se_byL, se_len, se_ch, List.length_map, roC]; done) : (((s12.map (roC 1 iC)) ++ [[(LV.ro 1 (s18.map iC))]]) : List (List LV)) = ((s12 ++ ([s18] : (List (List Int)))).map (roC 1 iC))), nlT⟩⟩, rfl, rfl, trivial⟩⟩ rfl (K12 _ e.symm)
    ·unfold tree_Roles_c1 at b18
     have hd : decide (((k18 : Nat) : Int) < (((x12.Ports.map LinkT.cells).length : Nat) : Int)) = true := by rw [decide_eq_true_eq]; (try simp only [se_len, se_ch, List.length_map] at hk18); (try simp only [se_len, se_ch, List.length_map]); omega
     refine LoopW.round TT_ok [0, 1, 2, 3, 4, 5, 6, 7, 8, 9, 10, 11, 12, 13, 17, 21, 22, 23, 24, 33, 34, 35, 36, 50, 55, 58] ?_
     conv => whnf
     repeat' first | exact rA _ | refine parkI ?_ | (refine And.intro ?_ ?_ <;> conv => whnf) | fail
     refine parkE (fun hc => ?_) (fun hc => ?_)
     ·clear hd
      conv => whnf
      replace b18 := bindS b18
      obtain ⟨y7, hy7, b18⟩ := b18
      have c8 := c_tree_own a0 y3 x18.Seg _ hy7
      repeat' first | exact rA _ | refine parkI ?_ | (refine ⟨_, (kixF (f := LinkT.cells) hx18), ?_⟩; conv => whnf) | (refine CallP.use c8 ?_; conv => whnf) | (refine And.intro ?_ ?_ <;> conv => whnf) | fail
      refine parkE (fun hc => ?_) (fun hc => ?_)
      ·replace b18 := condT hc b18
       conv => whnf
       replace b18 := grdS b18
       obtain ⟨g9, b18⟩ := b18
       replace g9 : fits (((s18.map iC) ++ [[(I 3)]])).length 8 := by simpa only [se_len, se_ch, List.length_map] using g9
       repeat' first | exact rA _ | refine parkI ?_ | exact g9 | exact clA _ | (refine And.intro ?_ ?_ <;> conv => whnf) | exact clN _ | fail
       have e := Option.some.inj b18
       refine LoopW.ren [(0, 0), (2, 2), (8, 4)] [(1, (LV.ptr 0 0 0)), (4, (LV.ro 2 (y3.map tree_bestT.cells))), (5, (LV.sl 2 0 (s12.map (roC 1 iC)).length)), (6, (I ((k12 : Nat) : Int))), (8, (I y5)), (9, (LV.sl 4 0 ((s18 ++ ([3] : (List Int))).map iC).length)), (21, (LV.ro 2 (a0.Plans.map PlanT.cells))), (22, (I (((a0.Plans.map PlanT.cells).length : Nat) : Int))), (23, (I ((k12 : Nat) : Int))), (33, (LV.ro 3 (x12.Ports.map LinkT.cells))), (34, (I (((x12.Ports.map LinkT.cells).length : Nat) : Int))), (35, (I ((k18 + 1 : Nat) : Int)))] 5 [(0, (.row 25 3 [[(I a0.Segs), (LV.ro 2 (a0.Plans.map PlanT.cells)), (LV.ro 2 (a0.Hosts.map HostT.cells))]])), (2, (.row 47 1 (s12.map (roC 1 iC)))), (4, (.row 3 1 ((s18 ++ ([3] : (List Int))).map iC)))] rfl ⟨rfl, rfl, rfl, rfl, rfl, (by exact congrArg (LV.sl 4 0) (clL _ : (((s18.map iC) ++ [[(I 3)]])).length = ((s18 ++ ([3] : (List Int))).map iC).length)), rfl, rfl, rfl, rfl, rfl, (congrArg (LV.int .i64) (w64_nat _ (by omega))), trivial⟩ ⟨⟨rfl, rfl, .inl ⟨rfl, nlT⟩⟩, rfl, rfl, ⟨⟨rfl, rfl, .inl ⟨rfl, nlT⟩⟩, rfl, rfl, ⟨⟨rfl, rfl, .inl ⟨(smT : (((s18.map iC) ++ [[(I 3)]]) : List (List LV)) = ((s18 ++ ([3] : (List Int))).map iC)), nlT⟩⟩, rfl, rfl, trivial⟩⟩⟩ rfl (K18 _ e.symm)
      ·replace b18 := condF hc b18
       conv => whnf
       repeat' first | exact rA _ | refine parkI ?_ | (refine And.intro ?_ ?_ <;> conv => whnf) | fail
       refine parkE (fun hc => ?_) (fun hc => ?_)
       ·replace b18 := condT hc b18
        conv => whnf
        replace b18 := grdS b18
        obtain ⟨g10, b18⟩ := b18
        replace g10 : fits (((s18.map iC) ++ [[(I 1)]])).length 8 := by simpa only [se_len, se_ch, List.length_map] using g10
        repeat' first | exact rA _ | refine parkI ?_ | exact g10 | exact clA _ | (refine And.intro ?_ ?_ <;> conv => whnf) | exact clN _ | fail
        have e := Option.some.inj b18
        refine LoopW.ren [(0, 0), (2, 2), (8, 4)] [(1, (LV.ptr 0 0 0)), (4, (LV.ro 2 (y3.map tree_bestT.cells))), (5, (LV.sl 2 0 (s12.map (roC 1 iC)).length)), (6, (I ((k12 : Nat) : Int))), (8, (I y5)), (9, (LV.sl 4 0 ((s18 ++ ([1] : (List Int))).map iC).length)), (21, (LV.ro 2 (a0.Plans.map PlanT.cells))), (22, (I (((a0.Plans.map PlanT.cells).length : Nat) : Int))), (23, (I ((k12 : Nat) : Int))), (33, (LV.ro 3 (x12.Ports.map LinkT.cells))), (34, (I (((x12.Ports.map LinkT.cells).length : Nat) : Int))), (35, (I ((k18 + 1 : Nat) : Int)))] 5 [(0, (.row 25 3 [[(I a0.Segs), (LV.ro 2 (a0.Plans.map PlanT.cells)), (LV.ro 2 (a0.Hosts.map HostT.cells))]])), (2, (.row 47 1 (s12.map (roC 1 iC)))), (4, (.row 3 1 ((s18 ++ ([1] : (List Int))).map iC)))] rfl ⟨rfl, rfl, rfl, rfl, rfl, (by exact congrArg (LV.sl 4 0) (clL _ : (((s18.map iC) ++ [[(I 1)]])).length = ((s18 ++ ([1] : (List Int))).map iC).length)), rfl, rfl, rfl, rfl, rfl, (congrArg (LV.int .i64) (w64_nat _ (by omega))), trivial⟩ ⟨⟨rfl, rfl, .inl ⟨rfl, nlT⟩⟩, rfl, rfl, ⟨⟨rfl, rfl, .inl ⟨rfl, nlT⟩⟩, rfl, rfl, ⟨⟨rfl, rfl, .inl ⟨(smT : (((s18.map iC) ++ [[(I 1)]]) : List (List LV)) = ((s18 ++ ([1] : (List Int))).map iC)), nlT⟩⟩, rfl, rfl, trivial⟩⟩⟩ rfl (K18 _ e.symm)
       ·replace b18 := condF hc b18
        conv => whnf
        repeat' first | exact rA _ | refine parkI ?_ | (refine And.intro ?_ ?_ <;> conv => whnf) | fail
        refine parkE (fun hc => ?_) (fun hc => ?_)
        ·replace b18 := condT hc b18
         conv => whnf
         replace b18 := grdS b18
         obtain ⟨g11, b18⟩ := b18
         replace g11 : fits (((s18.map iC) ++ [[(I 0)]])).length 8 := by simpa only [se_len, se_ch, List.length_map] using g11
         repeat' first | exact rA _ | refine parkI ?_ | exact g11 | exact clA _ | (refine And.intro ?_ ?_ <;> conv => whnf) | exact clN _ | fail
         have e := Option.some.inj b18
         refine LoopW.ren [(0, 0), (2, 2), (8, 4)] [(1, (LV.ptr 0 0 0)), (4, (LV.ro 2 (y3.map tree_bestT.cells))), (5, (LV.sl 2 0 (s12.map (roC 1 iC)).length)), (6, (I ((k12 : Nat) : Int))), (8, (I y5)), (9, (LV.sl 4 0 ((s18 ++ ([0] : (List Int))).map iC).length)), (21, (LV.ro 2 (a0.Plans.map PlanT.cells))), (22, (I (((a0.Plans.map PlanT.cells).length : Nat) : Int))), (23, (I ((k12 : Nat) : Int))), (33, (LV.ro 3 (x12.Ports.map LinkT.cells))), (34, (I (((x12.Ports.map LinkT.cells).length : Nat) : Int))), (35, (I ((k18 + 1 : Nat) : Int)))] 5 [(0, (.row 25 3 [[(I a0.Segs), (LV.ro 2 (a0.Plans.map PlanT.cells)), (LV.ro 2 (a0.Hosts.map HostT.cells))]])), (2, (.row 47 1 (s12.map (roC 1 iC)))), (4, (.row 3 1 ((s18 ++ ([0] : (List Int))).map iC)))] rfl ⟨rfl, rfl, rfl, rfl, rfl, (by exact congrArg (LV.sl 4 0) (clL _ : (((s18.map iC) ++ [[(I 0)]])).length = ((s18 ++ ([0] : (List Int))).map iC).length)), rfl, rfl, rfl, rfl, rfl, (congrArg (LV.int .i64) (w64_nat _ (by omega))), trivial⟩ ⟨⟨rfl, rfl, .inl ⟨rfl, nlT⟩⟩, rfl, rfl, ⟨⟨rfl, rfl, .inl ⟨rfl, nlT⟩⟩, rfl, rfl, ⟨⟨rfl, rfl, .inl ⟨(smT : (((s18.map iC) ++ [[(I 0)]]) : List (List LV)) = ((s18 ++ ([0] : (List Int))).map iC)), nlT⟩⟩, rfl, rfl, trivial⟩⟩⟩ rfl (K18 _ e.symm)
        ·replace b18 := condF hc b18
         conv => whnf
         replace b18 := grdS b18
         obtain ⟨g12, b18⟩ := b18
         replace g12 : fits (((s18.map iC) ++ [[(I 2)]])).length 8 := by simpa only [se_len, se_ch, List.length_map] using g12
         repeat' first | exact rA _ | refine parkI ?_ | exact g12 | exact clA _ | (refine And.intro ?_ ?_ <;> conv => whnf) | exact clN _ | fail
         have e := Option.some.inj b18
         refine LoopW.ren [(0, 0), (2, 2), (8, 4)] [(1, (LV.ptr 0 0 0)), (4, (LV.ro 2 (y3.map tree_bestT.cells))), (5, (LV.sl 2 0 (s12.map (roC 1 iC)).length)), (6, (I ((k12 : Nat) : Int))), (8, (I y5)), (9, (LV.sl 4 0 ((s18 ++ ([2] : (List Int))).map iC).length)), (21, (LV.ro 2 (a0.Plans.map PlanT.cells))), (22, (I (((a0.Plans.map PlanT.cells).length : Nat) : Int))), (23, (I ((k12 : Nat) : Int))), (33, (LV.ro 3 (x12.Ports.map LinkT.cells))), (34, (I (((x12.Ports.map LinkT.cells).length : Nat) : Int))), (35, (I ((k18 + 1 : Nat) : Int)))] 5 [(0, (.row 25 3 [[(I a0.Segs), (LV.ro 2 (a0.Plans.map PlanT.cells)), (LV.ro 2 (a0.Hosts.map HostT.cells))]])), (2, (.row 47 1 (s12.map (roC 1 iC)))), (4, (.row 3 1 ((s18 ++ ([2] : (List Int))).map iC)))] rfl ⟨rfl, rfl, rfl, rfl, rfl, (by exact congrArg (LV.sl 4 0) (clL _ : (((s18.map iC) ++ [[(I 2)]])).length = ((s18 ++ ([2] : (List Int))).map iC).length)), rfl, rfl, rfl, rfl, rfl, (congrArg (LV.int .i64) (w64_nat _ (by omega))), trivial⟩ ⟨⟨rfl, rfl, .inl ⟨rfl, nlT⟩⟩, rfl, rfl, ⟨⟨rfl, rfl, .inl ⟨rfl, nlT⟩⟩, rfl, rfl, ⟨⟨rfl, rfl, .inl ⟨(smT : (((s18.map iC) ++ [[(I 2)]]) : List (List LV)) = ((s18 ++ ([2] : (List Int))).map iC)), nlT⟩⟩, rfl, rfl, trivial⟩⟩⟩ rfl (K18 _ e.symm)
     ·exact (Bool.false_ne_true (hc.symm.trans hd)).elim
   ·exact (Bool.false_ne_true (hc.symm.trans hd)).elim

def tree_Own (a0 : LanT) (a1 : Int) : Option (A2_Int × Bool × Int) :=
 (lan_Right a0).bind fun y1 =>
 (bif (!y1) then
  some ((⟨0, 0⟩ : A2_Int), false, 1)
 else
  (bif (bif (decide (a1 < 0)) then true else (decide (a0.Segs ≤ a1))) then
   some ((⟨0, 0⟩ : A2_Int), false, 3)
  else
   (tree_bests a0).bind fun y3 =>
   (tree_own a0 y3 a1).bind fun y5 =>
   some (y5.1, y5.2, 0)))

theorem c_tree_Own (a0 : LanT) (a1 : Int) (r : (A2_Int × Bool × Int)) (h : tree_Own a0 a1 = some r) : CallP Try.prog 13 [(LV.agg [(I a0.Segs), (LV.ro 2 (a0.Plans.map PlanT.cells)), (LV.ro 2 (a0.Hosts.map HostT.cells))]), (I a1)] (LV.tup [(LV.agg [(I r.1.c0), (I r.1.c1)]), (LV.bool r.2.1), (I r.2.2)]) := by
 unfold tree_Own at h
 refine .intro nlA (.intro TT_ok Try.func13 rfl rfl [0, 1, 2, 4, 5, 6, 7, 8, 9, 14] rfl ?_)
 conv => whnf
 replace h := bindS h
 obtain ⟨y1, hy1, h⟩ := h
 have c2 := c_lan_Right a0 _ hy1
 repeat' first | exact rA _ | refine parkI ?_ | (refine CallP.use c2 ?_; conv => whnf) | (refine ⟨_, _, CallP.at c2, ?_⟩; conv => whnf) | (refine ⟨_, fun _ => c2, ?_⟩; conv => whnf) | (refine W.drawnM (id := 5) 0 TT_ok hmix1 [0, 0, 0, 0, 0, 0, 0, 0, 0, 1, 2] [1, 1, 1, 1, 1, 1, 1, 2, 1, 2, 2] rfl ?_; conv => whnf) | exact clA _ | (refine And.intro ?_ ?_ <;> conv => whnf) | exact clG _ | (refine gand ?_ h; assumption) | exact clN _ | fail
 refine parkE (fun hc => ?_) (fun hc => ?_)
 ·replace h := condT hc h
  conv => whnf
  have e := Option.some.inj h
  subst e
  repeat' first | exact rA _ | (refine W.drawnM (id := 5) 0 TT_ok hmix1 [0, 0, 0, 0, 0, 0, 0, 0, 0, 1, 2] [1, 1, 1, 1, 1, 1, 1, 2, 1, 2, 2] rfl ?_; conv => whnf) | exact clA _ | (refine And.intro ?_ ?_ <;> conv => whnf) | exact clG _ | (refine gand ?_ h; assumption) | exact clN _ | fail
 ·replace h := condF hc h
  conv => whnf
  repeat' first | exact rA _ | refine parkI ?_ | (refine W.drawnM (id := 5) 0 TT_ok hmix1 [0, 0, 0, 0, 0, 0, 0, 0, 0, 1, 2] [1, 1, 1, 1, 1, 1, 1, 2, 1, 2, 2] rfl ?_; conv => whnf) | exact clA _ | (refine And.intro ?_ ?_ <;> conv => whnf) | exact clG _ | (refine gand ?_ h; assumption) | exact clN _ | fail
  refine parkE (fun hc => ?_) (fun hc => ?_)
  ·replace h := condT hc h
   conv => whnf
   have e := Option.some.inj h
   subst e
   repeat' first | exact rA _ | (refine W.drawnM (id := 5) 0 TT_ok hmix1 [0, 0, 0, 0, 0, 0, 0, 0, 0, 1, 2] [1, 1, 1, 1, 1, 1, 1, 2, 1, 2, 2] rfl ?_; conv => whnf) | exact clA _ | (refine And.intro ?_ ?_ <;> conv => whnf) | exact clG _ | (refine gand ?_ h; assumption) | exact clN _ | fail
  ·replace h := condF hc h
   conv => whnf
   replace h := bindS h
   obtain ⟨y3, hy3, h⟩ := h
   have c4 := c_tree_bests a0 _ hy3
   replace h := bindS h
   obtain ⟨y5, hy5, h⟩ := h
   have c6 := c_tree_own a0 y3 a1 _ hy5
   have e := Option.some.inj h
   subst e
   repeat' first | exact rA _ | (refine CallP.use c4 ?_; conv => whnf) | (refine ⟨_, _, CallP.at c4, ?_⟩; conv => whnf) | (refine ⟨_, fun _ => c4, ?_⟩; conv => whnf) | (refine CallP.use c6 ?_; conv => whnf) | (refine ⟨_, _, CallP.at c6, ?_⟩; conv => whnf) | (refine ⟨_, fun _ => c6, ?_⟩; conv => whnf) | (refine W.drawnM (id := 5) 0 TT_ok hmix1 [0, 0, 0, 0, 0, 0, 0, 0, 0, 1, 2] [1, 1, 1, 1, 1, 1, 1, 2, 1, 2, 2] rfl ?_; conv => whnf) | exact clA _ | (refine And.intro ?_ ?_ <;> conv => whnf) | exact clG _ | (refine gand ?_ h; assumption) | exact clN _ | fail

end Go.RX
