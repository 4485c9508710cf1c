/- Plain functions, and what says that the program's functions compute them. -/
import Derived.Test.YtljecfgfbebjiaaSrt
import Derived.Test.YtljecfgfbebjiaaKa
import Derived.Test.YtljecfgfbebjiaaKf
set_option linter.unusedVariables false
set_option linter.unusedSimpArgs false
open Go Go.RX Go.Proofs
namespace Go.RX
set_option maxRecDepth 10000
set_option maxHeartbeats 4000000
attribute [local irreducible] CallW CallP LoopW W IntKind.wrap bitI
def slices_Index_int_c0 (a1 : Int) (k27 : Nat) (x27 : Int) (s27 : Unit) : Option (Step Int Unit) :=
 (bif (decide (a1 = x27)) then
  some (.ret ((k27 : Nat) : Int))
 else
  some (.nxt ()))

def slices_Index_int (a0 : (List Int)) (a1 : Int) : Option Int :=
 aft (rangeL (slices_Index_int_c0 a1) a0 ()) fun s27 =>
 some (-1)

theorem c_slices_Index_int (a0 : (List Int)) (a1 : Int) (r : Int) (h : slices_Index_int a0 a1 = some r) : CallP Try.prog 87 [(LV.ro 1 (a0.map iC)), (I a1)] (I r) := by
 unfold slices_Index_int at h
 refine .intro nlA (.intro TT_ok Try.func87 rfl rfl [0, 1, 4, 5, 7, 8, 9, 16] rfl ?_)
 conv => whnf
 repeat' first | exact rA _ | refine parkI ?_ | (refine And.intro ?_ ?_ <;> conv => whnf) | fail
 replace h := aftS h
 obtain ⟨O27, hO27, r27⟩ := h
 refine LoopW.norm [(0, (LV.ro 1 (a0.map iC))), (1, (I a1)), (7, (I (((a0.map iC).length : Nat) : Int))), (8, (I ((0 : Nat) : Int)))] 0 [] ⟨rfl, rfl, rfl, rfl, trivial⟩ trivial blT rfl ?_
 refine LoopW.forR (fun k27 s27 => [(0, (LV.ro 1 (a0.map iC))), (1, (I a1)), (7, (I (((a0.map iC).length : Nat) : Int))), (8, (I ((k27 : Nat) : Int)))]) (fun s27 => ⟨0, []⟩) hO27 (fun hl27 s27 hs27 => ?_) (fun hl27 k27 x27 s27 o27 hk27 hx27 b27 K27 hret27 hbrk27 => ?_)
 ·rw [hs27] at r27
  dsimp only [aftM] at r27
  have hd : decide (((a0.length : Nat) : Int) < (((a0.map iC).length : Nat) : Int)) = false := by rw [decide_eq_false_iff_not]; (try simp only [se_len, se_ch, List.length_map]); omega
  refine LoopW.round TT_ok [0, 1, 4, 5, 7, 8, 9, 16] ?_
  conv => whnf
  repeat' first | exact rA _ | refine parkI ?_ | (refine And.intro ?_ ?_ <;> conv => whnf) | fail
  refine parkE (fun hc => ?_) (fun hc => ?_)
  ·exact (Bool.false_ne_true (hd.symm.trans hc)).elim
  ·clear hd
   conv => whnf
   have e := Option.some.inj r27
   subst e
   repeat' first | exact rA _ | exact clA _ | (refine And.intro ?_ ?_ <;> conv => whnf) | exact clG _ | (refine gand ?_ h; assumption) | exact clN _ | fail
 ·unfold slices_Index_int_c0 at b27
  have hd : decide (((k27 : Nat) : Int) < (((a0.map iC).length : Nat) : Int)) = true := by rw [decide_eq_true_eq]; (try simp only [se_len, se_ch, List.length_map] at hk27); (try simp only [se_len, se_ch, List.length_map]); omega
  refine LoopW.round TT_ok [0, 1, 4, 5, 7, 8, 9, 16] ?_
  conv => whnf
  repeat' first | exact rA _ | refine parkI ?_ | (refine And.intro ?_ ?_ <;> conv => whnf) | fail
  refine parkE (fun hc => ?_) (fun hc => ?_)
  ·clear hd
   conv => whnf
   repeat' first | exact rA _ | refine parkI ?_ | (refine ⟨_, (kixF (f := iC) hx27), ?_⟩; conv => whnf) | (refine And.intro ?_ ?_ <;> conv => whnf) | fail
   refine parkE (fun hc => ?_) (fun hc => ?_)
   ·replace b27 := condT hc b27
    conv => whnf
    have e := Option.some.inj b27
    replace e := hret27 _ e.symm
    rw [e] at r27
    replace e := Option.some.inj r27
    subst e
    repeat' first | exact rA _ | exact clA _ | (refine And.intro ?_ ?_ <;> conv => whnf) | exact clG _ | (refine gand ?_ h; assumption) | exact clN _ | fail
   ·replace b27 := condF hc b27
    conv => whnf
    repeat' first | exact rA _ | refine parkI ?_ | (refine And.intro ?_ ?_ <;> conv => whnf) | fail
    have e := Option.some.inj b27
    refine LoopW.norm [(0, (LV.ro 1 (a0.map iC))), (1, (I a1)), (7, (I (((a0.map iC).length : Nat) : Int))), (8, (I ((k27 + 1 : Nat) : Int)))] 0 [] ⟨rfl, rfl, rfl, (congrArg (LV.int .i64) (w64_nat _ (by omega))), trivial⟩ trivial blT rfl (K27 _ e.symm)
  ·exact (Bool.false_ne_true (hc.symm.trans hd)).elim

def slices_Contains_int (a0 : (List Int)) (a1 : Int) : Option Bool :=
 (slices_Index_int a0 a1).bind fun y3 =>
 some (decide (0 ≤ y3))

theorem c_slices_Contains_int (a0 : (List Int)) (a1 : Int) (r : Bool) (h : slices_Contains_int a0 a1 = some r) : CallP Try.prog 71 [(LV.ro 1 (a0.map iC)), (I a1)] (LV.bool r) := by
 unfold slices_Contains_int at h
 refine .intro nlA (.intro TT_ok Try.func71 rfl rfl [0, 1, 4] rfl ?_)
 conv => whnf
 replace h := bindS h
 obtain ⟨y3, hy3, h⟩ := h
 have c4 := c_slices_Index_int a0 a1 _ hy3
 have e := Option.some.inj h
 subst e
 repeat' first | exact rA _ | (refine CallP.use c4 ?_; conv => whnf) | exact clA _ | (refine And.intro ?_ ?_ <;> conv => whnf) | exact clG _ | (refine gand ?_ h; assumption) | exact clN _ | fail

def lan_part_1 (a0 : LinkT) (q1 : (List Int)) : Option Bool :=
 (gd a0.Up (slices_Contains_int q1 a0.Seg)).bind fun y3 =>
 some (bif a0.Up then y3 else false)

theorem c_lan_part_1 (a0 : LinkT) (q1 : (List Int)) (r : Bool) (h : lan_part_1 a0 q1 = some r) : CallP Try.prog 70 [(LV.agg [(I a0.Seg), (I a0.Cost), (LV.bool a0.Up)]), (LV.rptr [(LV.ro 1 (q1.map iC))])] (LV.bool r) := by
 unfold lan_part_1 at h
 refine .intro nlA (.intro TT_ok Try.func70 rfl rfl [0, 1, 2, 3] rfl ?_)
 conv => whnf
 replace h := bindS h
 obtain ⟨y3, hy3, h⟩ := h
 have c4 := fun (hg : a0.Up = true) => c_slices_Contains_int q1 a0.Seg _ (gdS hg hy3)
 have e := Option.some.inj h
 subst e
 repeat' first | exact rA _ | (refine ⟨_, c4, ?_⟩; conv => whnf) | exact clA _ | (refine And.intro ?_ ?_ <;> conv => whnf) | exact clG _ | (refine gand ?_ h; assumption) | exact clN _ | fail

def lan_part_c2  (k27 : Nat) (x27 : LinkT) (s27 : (List Int)) : Option (Step (Step (Step (List Int) (List Int)) (List Int)) (List Int)) :=
 (bif x27.Up then
  (slices_Contains_int s27 x27.Seg).bind fun y5 =>
  (bif (bif x27.Up then (!y5) else false) then
   grd (fits ((s27 ++ ([x27.Seg] : (List Int))) : List Int).length 8) <|
   some (.ret (.ret (.nxt (s27 ++ ([x27.Seg] : (List Int))))))
  else
   some (.nxt s27))
 else
  some (.nxt s27))

def lan_part_c1  (k26 : Nat) (x26 : PlanT) (s26 : (List Int)) : Option (Step (Step (List Int) (List Int)) (List Int)) :=
 (slices_ContainsFunc_Link x26.Ports (fun x0_ => lan_part_1 x0_ s26)).bind fun y3 =>
 (bif (!y3) then
  some (.nxt s26)
 else
  aft (rangeL (lan_part_c2 ) x26.Ports s26) fun s27 =>
  some (.nxt s27))

def lan_part_c0 (a0 : LanT) (s25 : (List Int)) : Option (Step (List Int) (List Int)) :=
 aft (rangeL (lan_part_c1 ) a0.Plans s25) fun s26 =>
 (slices_Sort_int s26).bind fun y5 =>
 some (.ret y5)

def lan_part (a0 : LanT) (a1 : Int) : Option (List Int) :=
 aft (loopF 1000000 (lan_part_c0 a0) ([a1] : (List Int))) fun s25 =>
 none

theorem cf_lan_part (a0 : LanT) (a1 : Int) (r : (List Int)) (h : lan_part a0 a1 = some r) : CallF Try.prog 46 [(LV.agg [(I a0.Segs), (LV.ro 2 (a0.Plans.map PlanT.cells)), (LV.ro 2 (a0.Hosts.map HostT.cells))]), (I a1)] 3 1 (r.map iC) := by
 unfold lan_part at h
 refine CallF.of (NLss_map' _) (CallW.intro TT_ok Try.func46 rfl rfl [0, 1, 2, 4, 5, 7, 8, 10, 11, 12, 13, 14, 15, 16, 17, 18, 19, 20, 21, 22, 23, 24, 25, 26, 27, 28, 29, 30, 31, 32, 33, 34, 35, 36, 37, 38, 39, 40, 41, 42, 43, 44, 45, 46, 47, 48, 49, 51, 1000071, 1000072, 1000073, 2000073] rfl ?_)
 conv => whnf
 repeat' first | exact rA _ | refine parkI ?_ | (refine And.intro ?_ ?_ <;> conv => whnf) | fail
 replace h := aftS h
 obtain ⟨O25, hO25, r25⟩ := h
 refine LoopW.norm [(2, (LV.ptr 0 0 0)), (5, (LV.ptr 2 0 0))] 3 [(0, (.row 25 3 [[(I a0.Segs), (LV.ro 2 (a0.Plans.map PlanT.cells)), (LV.ro 2 (a0.Hosts.map HostT.cells))]])), (2, (.row 47 1 [[(LV.sl 1 0 (([a1] : (List Int)).map iC).length)]])), (1, (.row 3 1 (([a1] : (List Int)).map iC)))] ⟨rfl, rfl, trivial⟩ ⟨⟨rfl, rfl, blT⟩, ⟨⟨(congrArg (fun q => some (Blk.row 47 1 q)) (smT : ([[(LV.sl 1 0 1)]] : List (List LV)) = [[(LV.sl 1 0 (([a1] : (List Int)).map iC).length)]])), rfl, blT⟩, ⟨⟨(congrArg (fun q => some (Blk.row 3 1 q)) (smT : ([[(I a1)]] : List (List LV)) = (([a1] : (List Int)).map iC))), rfl, NLss_bel (NLss_map' _)⟩, trivial⟩⟩⟩ blT rfl ?_
 refine LoopW.forF (fun s25 => [(2, (LV.ptr 0 0 0)), (5, (LV.ptr 2 0 0))]) (fun s25 => ⟨3, [(0, (.row 25 3 [[(I a0.Segs), (LV.ro 2 (a0.Plans.map PlanT.cells)), (LV.ro 2 (a0.Hosts.map HostT.cells))]])), (2, (.row 47 1 [[(LV.sl 1 0 (s25.map iC).length)]])), (1, (.row 3 1 (s25.map iC)))]⟩) hO25 (fun s25 o25 b25 K25 hret25 hbrk25 => ?_)
 unfold lan_part_c0 at b25
 refine LoopW.round TT_ok [0, 1, 2, 4, 5, 7, 8, 10, 11, 12, 13, 14, 15, 16, 17, 18, 19, 20, 21, 22, 23, 24, 25, 26, 27, 28, 29, 30, 31, 32, 33, 34, 35, 36, 37, 38, 39, 40, 41, 42, 43, 44, 45, 46, 47, 48, 49, 51, 1000071, 1000072, 1000073, 2000073] ?_
 conv => whnf
 repeat' first | exact rA _ | refine parkI ?_ | (refine And.intro ?_ ?_ <;> conv => whnf) | fail
 replace b25 := aftS b25
 obtain ⟨O26, hO26, r26⟩ := b25
 refine LoopW.norm [(2, (LV.ptr 0 0 0)), (5, (LV.ptr 2 0 0)), (14, (LV.ro 2 (a0.Plans.map PlanT.cells))), (15, (I (((a0.Plans.map PlanT.cells).length : Nat) : Int))), (16, (I ((0 : Nat) : Int)))] 3 [(0, (.row 25 3 [[(I a0.Segs), (LV.ro 2 (a0.Plans.map PlanT.cells)), (LV.ro 2 (a0.Hosts.map HostT.cells))]])), (2, (.row 47 1 [[(LV.sl 1 0 (s25.map iC).length)]])), (1, (.row 3 1 (s25.map iC)))] ⟨rfl, rfl, rfl, rfl, rfl, trivial⟩ ⟨⟨rfl, rfl, blT⟩, ⟨⟨rfl, rfl, blT⟩, ⟨⟨rfl, rfl, NLss_bel (NLss_map' _)⟩, trivial⟩⟩⟩ blT rfl ?_
 refine LoopW.forR (fun k26 s26 => [(2, (LV.ptr 0 0 0)), (5, (LV.ptr 2 0 0)), (14, (LV.ro 2 (a0.Plans.map PlanT.cells))), (15, (I (((a0.Plans.map PlanT.cells).length : Nat) : Int))), (16, (I ((k26 : Nat) : Int)))]) (fun s26 => ⟨3, [(0, (.row 25 3 [[(I a0.Segs), (LV.ro 2 (a0.Plans.map PlanT.cells)), (LV.ro 2 (a0.Hosts.map HostT.cells))]])), (2, (.row 47 1 [[(LV.sl 1 0 (s26.map iC).length)]])), (1, (.row 3 1 (s26.map iC)))]⟩) hO26 (fun hl26 s26 hs26 => ?_) (fun hl26 k26 x26 s26 o26 hk26 hx26 b26 K26 hret26 hbrk26 => ?_)
 ·rw [hs26] at r26
  dsimp only [aftM] at r26
  have hd : decide (((a0.Plans.length : Nat) : Int) < (((a0.Plans.map PlanT.cells).length : Nat) : Int)) = false := by rw [decide_eq_false_iff_not]; (try simp only [se_len, se_ch, List.length_map]); omega
  refine LoopW.round TT_ok [0, 1, 2, 4, 5, 7, 8, 10, 11, 12, 13, 14, 15, 16, 17, 18, 19, 20, 21, 22, 23, 24, 25, 26, 27, 28, 29, 30, 31, 32, 33, 34, 35, 36, 37, 38, 39, 40, 41, 42, 43, 44, 45, 46, 47, 48, 49, 51, 1000071, 1000072, 1000073, 2000073] ?_
  conv => whnf
  repeat' first | exact rA _ | refine parkI ?_ | (refine And.intro ?_ ?_ <;> conv => whnf) | fail
  refine parkE (fun hc => ?_) (fun hc => ?_)
  ·exact (Bool.false_ne_true (hd.symm.trans hc)).elim
  ·clear hd
   conv => whnf
   replace r26 := bindS r26
   obtain ⟨y5, hy5, r26⟩ := r26
   have c6 := w_slices_Sort_int s26 _ hy5
   have l7 := slices_Sort_int_len hy5
   have e := Option.some.inj r26
   replace e := hret25 _ e.symm
   rw [e] at r25
   replace e := Option.some.inj r25
   subst e
   repeat' first | exact rA _ | (refine CallW.frame (nx2 := 3) (l2 := [(1, (.row 3 1 (y5.map iC)))]) [(1, 0)] [(0, 1)] c6 rfl rfl ⟨⟨rfl, rfl, .inl ⟨rfl, nlT⟩⟩, rfl, rfl, trivial⟩ rfl rfl ⟨⟨rfl, rfl, .inl ⟨rfl, nlT⟩⟩, rfl, rfl, trivial⟩ ?_; conv => whnf) | exact Or.inr ⟨_, (congrArg (LV.sl _ 0) (by (try simp only [se_map, se_byL, se_len, se_ch, List.length_map]); first | done | rfl | omega | (simp only [se_len, se_ch, List.length_map] at *; omega) : (s26.map iC).length = (y5.map iC).length)), congrArg (fun q => some (Blk.row 3 1 q)) rfl⟩ | exact clA _ | (refine And.intro ?_ ?_ <;> conv => whnf) | exact clG _ | (refine gand ?_ h; assumption) | exact clN _ | fail
 ·unfold lan_part_c1 at b26
  have hd : decide (((k26 : Nat) : Int) < (((a0.Plans.map PlanT.cells).length : Nat) : Int)) = true := by rw [decide_eq_true_eq]; (try simp only [se_len, se_ch, List.length_map] at hk26); (try simp only [se_len, se_ch, List.length_map]); omega
  refine LoopW.round TT_ok [0, 1, 2, 4, 5, 7, 8, 10, 11, 12, 13, 14, 15, 16, 17, 18, 19, 20, 21, 22, 23, 24, 25, 26, 27, 28, 29, 30, 31, 32, 33, 34, 35, 36, 37, 38, 39, 40, 41, 42, 43, 44, 45, 46, 47, 48, 49, 51, 1000071, 1000072, 1000073, 2000073] ?_
  conv => whnf
  repeat' first | exact rA _ | refine parkI ?_ | (refine And.intro ?_ ?_ <;> conv => whnf) | fail
  refine parkE (fun hc => ?_) (fun hc => ?_)
  ·clear hd
   conv => whnf
   replace b26 := bindS b26
   obtain ⟨y3, hy3, b26⟩ := b26
   have c4 := c_slices_ContainsFunc_Link x26.Ports 70 [] [(LV.rptr [(LV.ro 1 (s26.map iC))])] (fun x0_ => lan_part_1 x0_ s26) (fun x0_ r h => c_lan_part_1 x0_ s26 r h) nlB _ hy3
   repeat' first | exact rA _ | refine parkI ?_ | (refine ⟨_, (kixF (f := PlanT.cells) hx26), ?_⟩; conv => whnf) | (refine CallW.done (CallP.lendG c4 nlB (show Lents _ [(LV.ro 3 (x26.Ports.map LinkT.cells)), (LV.func (.func 70) [] [(LV.ptr 2 0 0)])] [(LV.ro 3 (x26.Ports.map LinkT.cells)), (LV.func (.func 70) [] [(LV.rptr [(LV.ro 1 (s26.map iC))])])] from ⟨.of nlA, .func True.intro ⟨.box rfl ⟨Lent.sl rfl lnT, True.intro⟩, True.intro⟩, True.intro⟩)) ?_; conv => whnf) | (refine And.intro ?_ ?_ <;> conv => whnf) | fail
   refine parkE (fun hc => ?_) (fun hc => ?_)
   ·replace b26 := condT hc b26
    conv => whnf
    repeat' first | exact rA _ | refine parkI ?_ | (refine And.intro ?_ ?_ <;> conv => whnf) | fail
    have e := Option.some.inj b26
    refine LoopW.norm [(2, (LV.ptr 0 0 0)), (5, (LV.ptr 2 0 0)), (14, (LV.ro 2 (a0.Plans.map PlanT.cells))), (15, (I (((a0.Plans.map PlanT.cells).length : Nat) : Int))), (16, (I ((k26 + 1 : Nat) : Int)))] 3 [(0, (.row 25 3 [[(I a0.Segs), (LV.ro 2 (a0.Plans.map PlanT.cells)), (LV.ro 2 (a0.Hosts.map HostT.cells))]])), (2, (.row 47 1 [[(LV.sl 1 0 (s26.map iC).length)]])), (1, (.row 3 1 (s26.map iC)))] ⟨rfl, rfl, rfl, rfl, (congrArg (LV.int .i64) (w64_nat _ (by omega))), trivial⟩ ⟨⟨rfl, rfl, blT⟩, ⟨⟨rfl, rfl, blT⟩, ⟨⟨rfl, rfl, NLss_bel (NLss_map' _)⟩, trivial⟩⟩⟩ blT rfl (K26 _ e.symm)
   ·replace b26 := condF hc b26
    conv => whnf
    repeat' first | exact rA _ | refine parkI ?_ | (refine And.intro ?_ ?_ <;> conv => whnf) | fail
    replace b26 := aftS b26
    obtain ⟨O27, hO27, r27⟩ := b26
    refine LoopW.norm [(2, (LV.ptr 0 0 0)), (5, (LV.ptr 2 0 0)), (14, (LV.ro 2 (a0.Plans.map PlanT.cells))), (15, (I (((a0.Plans.map PlanT.cells).length : Nat) : Int))), (16, (I ((k26 : Nat) : Int))), (27, (LV.ro 3 (x26.Ports.map LinkT.cells))), (28, (I (((x26.Ports.map LinkT.cells).length : Nat) : Int))), (29, (I ((0 : Nat) : Int)))] 3 [(0, (.row 25 3 [[(I a0.Segs), (LV.ro 2 (a0.Plans.map PlanT.cells)), (LV.ro 2 (a0.Hosts.map HostT.cells))]])), (2, (.row 47 1 [[(LV.sl 1 0 (s26.map iC).length)]])), (1, (.row 3 1 (s26.map iC)))] ⟨rfl, rfl, rfl, rfl, rfl, rfl, rfl, rfl, trivial⟩ ⟨⟨rfl, rfl, blT⟩, ⟨⟨rfl, rfl, blT⟩, ⟨⟨rfl, rfl, NLss_bel (NLss_map' _)⟩, trivial⟩⟩⟩ blT rfl ?_
    refine LoopW.forR (fun k27 s27 => [(2, (LV.ptr 0 0 0)), (5, (LV.ptr 2 0 0)), (14, (LV.ro 2 (a0.Plans.map PlanT.cells))), (15, (I (((a0.Plans.map PlanT.cells).length : Nat) : Int))), (16, (I ((k26 : Nat) : Int))), (27, (LV.ro 3 (x26.Ports.map LinkT.cells))), (28, (I (((x26.Ports.map LinkT.cells).length : Nat) : Int))), (29, (I ((k27 : Nat) : Int)))]) (fun s27 => ⟨3, [(0, (.row 25 3 [[(I a0.Segs), (LV.ro 2 (a0.Plans.map PlanT.cells)), (LV.ro 2 (a0.Hosts.map HostT.cells))]])), (2, (.row 47 1 [[(LV.sl 1 0 (s27.map iC).length)]])), (1, (.row 3 1 (s27.map iC)))]⟩) hO27 (fun hl27 s27 hs27 => ?_) (fun hl27 k27 x27 s27 o27 hk27 hx27 b27 K27 hret27 hbrk27 => ?_)
    ·rw [hs27] at r27
     dsimp only [aftM] at r27
     have hd : decide (((x26.Ports.length : Nat) : Int) < (((x26.Ports.map LinkT.cells).length : Nat) : Int)) = false := by rw [decide_eq_false_iff_not]; (try simp only [se_len, se_ch, List.length_map]); omega
     refine LoopW.round TT_ok [0, 1, 2, 4, 5, 7, 8, 10, 11, 12, 13, 14, 15, 16, 17, 18, 19, 20, 21, 22, 23, 24, 25, 26, 27, 28, 29, 30, 31, 32, 33, 34, 35, 36, 37, 38, 39, 40, 41, 42, 43, 44, 45, 46, 47, 48, 49, 51, 1000071, 1000072, 1000073, 2000073] ?_
     conv => whnf
     repeat' first | exact rA _ | refine parkI ?_ | (refine And.intro ?_ ?_ <;> conv => whnf) | fail
     refine parkE (fun hc => ?_) (fun hc => ?_)
     ·exact (Bool.false_ne_true (hd.symm.trans hc)).elim
     ·clear hd
      conv => whnf
      repeat' first | exact rA _ | refine parkI ?_ | (refine And.intro ?_ ?_ <;> conv => whnf) | fail
      have e := Option.some.inj r27
      refine LoopW.norm [(2, (LV.ptr 0 0 0)), (5, (LV.ptr 2 0 0)), (14, (LV.ro 2 (a0.Plans.map PlanT.cells))), (15, (I (((a0.Plans.map PlanT.cells).length : Nat) : Int))), (16, (I ((k26 + 1 : Nat) : Int)))] 3 [(0, (.row 25 3 [[(I a0.Segs), (LV.ro 2 (a0.Plans.map PlanT.cells)), (LV.ro 2 (a0.Hosts.map HostT.cells))]])), (2, (.row 47 1 [[(LV.sl 1 0 (s27.map iC).length)]])), (1, (.row 3 1 (s27.map iC)))] ⟨rfl, rfl, rfl, rfl, (congrArg (LV.int .i64) (w64_nat _ (by omega))), trivial⟩ ⟨⟨rfl, rfl, blT⟩, ⟨⟨rfl, rfl, blT⟩, ⟨⟨rfl, rfl, NLss_bel (NLss_map' _)⟩, trivial⟩⟩⟩ blT rfl (K26 _ e.symm)
    ·unfold lan_part_c2 at b27
     have hd : decide (((k27 : Nat) : Int) < (((x26.Ports.map LinkT.cells).length : Nat) : Int)) = true := by rw [decide_eq_true_eq]; (try simp only [se_len, se_ch, List.length_map] at hk27); (try simp only [se_len, se_ch, List.length_map]); omega
     refine LoopW.round TT_ok [0, 1, 2, 4, 5, 7, 8, 10, 11, 12, 13, 14, 15, 16, 17, 18, 19, 20, 21, 22, 23, 24, 25, 26, 27, 28, 29, 30, 31, 32, 33, 34, 35, 36, 37, 38, 39, 40, 41, 42, 43, 44, 45, 46, 47, 48, 49, 51, 1000071, 1000072, 1000073, 2000073] ?_
     conv => whnf
     repeat' first | exact rA _ | refine parkI ?_ | (refine And.intro ?_ ?_ <;> conv => whnf) | fail
     refine parkE (fun hc => ?_) (fun hc => ?_)
     ·clear hd
      conv => whnf
      repeat' first | exact rA _ | refine parkI ?_ | (refine ⟨_, (kixF (f := LinkT.cells) hx27), ?_⟩; conv => whnf) | exact clA _ | (refine And.intro ?_ ?_ <;> conv => whnf) | exact clG _ | (refine gand ?_ h; assumption) | fail
      refine parkE (fun hg2_ => ?_) (fun hg2_ => ?_)
      ·replace b27 := condT (by first | exact hg2_ | simpa only [se_len, se_ch, List.length_map] using hg2_) b27
       conv => whnf
       replace b27 := bindS b27
       obtain ⟨y5, hy5, b27⟩ := b27
       have c6 := c_slices_Contains_int s27 x27.Seg _ hy5
       repeat' first | exact rA _ | refine parkI ?_ | (refine CallW.done (CallP.lendG c6 nlB (show Lents _ [(LV.sl 1 0 (s27.map iC).length), (I x27.Seg)] [(LV.ro 1 (s27.map iC)), (I x27.Seg)] from ⟨Lent.sl rfl lnT, .of nlA, True.intro⟩)) ?_; conv => whnf) | exact clA _ | (refine And.intro ?_ ?_ <;> conv => whnf) | exact clG _ | (refine gand ?_ h; assumption) | (intro hq_; conv => whnf) | fail
       refine parkE (fun hc => ?_) (fun hc => ?_)
       ·replace b27 := condT hc b27
        conv => whnf
        replace b27 := grdS b27
        obtain ⟨g7, b27⟩ := b27
        replace g7 : fits (((s27.map iC) ++ [[(I x27.Seg)]])).length 8 := by simpa only [se_len, se_ch, List.length_map] using g7
        repeat' first | exact rA _ | refine parkI ?_ | exact g7 | exact clA _ | (refine And.intro ?_ ?_ <;> conv => whnf) | exact clN _ | (intro hq_; conv => whnf) | fail
        have e := Option.some.inj b27
        replace e := hret27 _ e.symm
        rw [e] at r27
        replace e := Option.some.inj r27
        replace e := hret26 _ e.symm
        rw [e] at r26
        replace e := Option.some.inj r26
        refine LoopW.ren [(0, 0), (2, 2), (5, 1)] [(2, (LV.ptr 0 0 0)), (5, (LV.ptr 2 0 0))] 3 [(0, (.row 25 3 [[(I a0.Segs), (LV.ro 2 (a0.Plans.map PlanT.cells)), (LV.ro 2 (a0.Hosts.map HostT.cells))]])), (2, (.row 47 1 [[(LV.sl 1 0 ((s27 ++ ([x27.Seg] : (List Int))).map iC).length)]])), (1, (.row 3 1 ((s27 ++ ([x27.Seg] : (List Int))).map iC)))] rfl ⟨rfl, rfl, trivial⟩ ⟨⟨rfl, rfl, .inl ⟨rfl, nlT⟩⟩, rfl, rfl, ⟨⟨rfl, rfl, .inr (by first | exact rfl | (show ([[(LV.sl 1 0 (((s27.map iC) ++ [[(I x27.Seg)]])).length)]] : List (List LV)) = [[(LV.sl 1 0 ((s27 ++ ([x27.Seg] : (List Int))).map iC).length)]]; exact smT))⟩, rfl, rfl, ⟨⟨rfl, rfl, .inl ⟨(smT : (((s27.map iC) ++ [[(I x27.Seg)]]) : List (List LV)) = ((s27 ++ ([x27.Seg] : (List Int))).map iC)), nlT⟩⟩, rfl, rfl, trivial⟩⟩⟩ rfl (K25 _ e.symm)
       ·replace b27 := condF hc b27
        conv => whnf
        repeat' first | exact rA _ | refine parkI ?_ | (refine And.intro ?_ ?_ <;> conv => whnf) | (intro hq_; conv => whnf) | fail
        have e := Option.some.inj b27
        refine LoopW.norm [(2, (LV.ptr 0 0 0)), (5, (LV.ptr 2 0 0)), (14, (LV.ro 2 (a0.Plans.map PlanT.cells))), (15, (I (((a0.Plans.map PlanT.cells).length : Nat) : Int))), (16, (I ((k26 : Nat) : Int))), (27, (LV.ro 3 (x26.Ports.map LinkT.cells))), (28, (I (((x26.Ports.map LinkT.cells).length : Nat) : Int))), (29, (I ((k27 + 1 : Nat) : Int)))] 3 [(0, (.row 25 3 [[(I a0.Segs), (LV.ro 2 (a0.Plans.map PlanT.cells)), (LV.ro 2 (a0.Hosts.map HostT.cells))]])), (2, (.row 47 1 [[(LV.sl 1 0 (s27.map iC).length)]])), (1, (.row 3 1 (s27.map iC)))] ⟨rfl, rfl, rfl, rfl, rfl, rfl, rfl, (congrArg (LV.int .i64) (w64_nat _ (by omega))), trivial⟩ ⟨⟨rfl, rfl, blT⟩, ⟨⟨rfl, rfl, blT⟩, ⟨⟨rfl, rfl, NLss_bel (NLss_map' _)⟩, trivial⟩⟩⟩ blT rfl (K27 _ e.symm)
      ·replace b27 := condF (by first | exact hg2_ | simpa only [se_len, se_ch, List.length_map] using hg2_) b27
       conv => whnf
       repeat' first | exact rA _ | refine parkI ?_ | exact (by first | exact hg2_ | simpa using hg2_ : _ = false) | (refine ⟨?_, True.intro⟩; first | exact hg2_ | (simpa using hg2_; done)) | exact clA _ | (refine And.intro ?_ ?_ <;> conv => whnf) | exact clG _ | (refine gand ?_ h; assumption) | (intro hq_; conv => whnf) | fail
       refine parkE (fun hc => ?_) (fun hc => ?_)
       ·exact (Bool.false_ne_true (((rfl : false = false)).symm.trans hc)).elim
       ·conv => whnf
        repeat' first | exact rA _ | refine parkI ?_ | (refine And.intro ?_ ?_ <;> conv => whnf) | (intro hq_; conv => whnf) | fail
        have e := Option.some.inj b27
        refine LoopW.norm [(2, (LV.ptr 0 0 0)), (5, (LV.ptr 2 0 0)), (14, (LV.ro 2 (a0.Plans.map PlanT.cells))), (15, (I (((a0.Plans.map PlanT.cells).length : Nat) : Int))), (16, (I ((k26 : Nat) : Int))), (27, (LV.ro 3 (x26.Ports.map LinkT.cells))), (28, (I (((x26.Ports.map LinkT.cells).length : Nat) : Int))), (29, (I ((k27 + 1 : Nat) : Int)))] 3 [(0, (.row 25 3 [[(I a0.Segs), (LV.ro 2 (a0.Plans.map PlanT.cells)), (LV.ro 2 (a0.Hosts.map HostT.cells))]])), (2, (.row 47 1 [[(LV.sl 1 0 (s27.map iC).length)]])), (1, (.row 3 1 (s27.map iC)))] ⟨rfl, rfl, rfl, rfl, rfl, rfl, rfl, (congrArg (LV.int .i64) (w64_nat _ (by omega))), trivial⟩ ⟨⟨rfl, rfl, blT⟩, ⟨⟨rfl, rfl, blT⟩, ⟨⟨rfl, rfl, NLss_bel (NLss_map' _)⟩, trivial⟩⟩⟩ blT rfl (K27 _ e.symm)
     ·exact (Bool.false_ne_true (hc.symm.trans hd)).elim
  ·exact (Bool.false_ne_true (hc.symm.trans hd)).elim

theorem c_lan_part (a0 : LanT) (a1 : Int) (r : (List Int)) (h : lan_part a0 a1 = some r) : CallP Try.prog 46 [(LV.agg [(I a0.Segs), (LV.ro 2 (a0.Plans.map PlanT.cells)), (LV.ro 2 (a0.Hosts.map HostT.cells))]), (I a1)] (LV.ro 1 (r.map iC)) := by
 exact CallF.toP (cf_lan_part a0 a1 r h) nlA (NLss_map' _)

def lan_Parts_c1 (y3 : (List Int)) (k28 : Nat) (s28 : (List (Int × Bool))) : Option (Step (Step (Int × Int) (Int × (List (Int × Bool)))) (List (Int × Bool))) :=
 grd ((0 : Int) ≤ ((k28 : Nat) : Int) ∧ ((k28 : Nat) : Int) < ((y3.length : Nat) : Int)) <|
 (gixN y3 (((k28 : Nat) : Int) : Int).toNat).bind fun v6 =>
 some (.nxt (mput s28 v6 true))

def lan_Parts_c0 (a0 : LanT) (k24 : Nat) (s24 : (Int × (List (Int × Bool)))) : Option (Step (Int × Int) (Int × (List (Int × Bool)))) :=
 (bif (mget s24.2 ((k24 : Nat) : Int) false) then
  some (.nxt (s24.1, s24.2))
 else
  (lan_part a0 ((k24 : Nat) : Int)).bind fun y3 =>
  aft (rangeN (lan_Parts_c1 y3) ((y3.length : Nat) : Int) s24.2) fun s28 =>
  some (.nxt ((IntKind.i64.wrap (s24.1 + 1)), s28)))

def lan_Parts (a0 : LanT) : Option (Int × Int) :=
 (lan_Right a0).bind fun y1 =>
 (bif (!y1) then
  some (0, 1)
 else
  aft (rangeN (lan_Parts_c0 a0) a0.Segs (0, ([] : List (Int × Bool)))) fun s24 =>
  some (s24.1, 0))

theorem c_lan_Parts (a0 : LanT) (r : (Int × Int)) (h : lan_Parts a0 = some r) : CallP Try.prog 45 [(LV.agg [(I a0.Segs), (LV.ro 2 (a0.Plans.map PlanT.cells)), (LV.ro 2 (a0.Hosts.map HostT.cells))])] (LV.tup [(I r.1), (I r.2)]) := by
 unfold lan_Parts at h
 refine .intro nlA (.intro TT_ok Try.func45 rfl rfl [0, 1, 2, 3, 4, 5, 6, 8, 11, 14, 15, 16, 20, 25, 26, 27, 28] rfl ?_)
 conv => whnf
 replace h := bindS h
 obtain ⟨y1, hy1, h⟩ := h
 have c2 := c_lan_Right a0 _ hy1
 repeat' first | exact rA _ | refine parkI ?_ | (refine CallP.use c2 ?_; conv => whnf) | (refine And.intro ?_ ?_ <;> conv => whnf) | fail
 refine parkE (fun hc => ?_) (fun hc => ?_)
 ·replace h := condT hc h
  conv => whnf
  have e := Option.some.inj h
  subst e
  repeat' first | exact rA _ | exact clA _ | (refine And.intro ?_ ?_ <;> conv => whnf) | exact clG _ | (refine gand ?_ h; assumption) | exact clN _ | fail
 ·replace h := condF hc h
  conv => whnf
  repeat' first | exact rA _ | refine parkI ?_ | (refine And.intro ?_ ?_ <;> conv => whnf) | fail
  replace h := aftS h
  obtain ⟨O24, hO24, r24⟩ := h
  refine LoopW.norm [(1, (LV.ptr 0 0 0)), (4, (I (0, ([] : List (Int × Bool))).1)), (5, (LV.map 1)), (14, (I a0.Segs)), (15, (I ((0 : Nat) : Int)))] 2 [(0, (.row 25 3 [[(I a0.Segs), (LV.ro 2 (a0.Plans.map PlanT.cells)), (LV.ro 2 (a0.Hosts.map HostT.cells))]])), (1, (.mp ((0, ([] : List (Int × Bool))).2.map (mpC I (fun z : Bool => (LV.bool z))))))] ⟨rfl, (smT : ((I 0) : LV) = (I (0, ([] : List (Int × Bool))).1)), rfl, rfl, rfl, trivial⟩ ⟨⟨rfl, rfl, blT⟩, ⟨⟨(congrArg (fun q => some (Blk.mp q)) (by simp only [se_mp] : (([] : List (LV × LV)) : List (LV × LV)) = ((0, ([] : List (Int × Bool))).2.map (mpC I (fun z : Bool => (LV.bool z)))))), rfl, bel_mp (f := I) (g := (fun z : Bool => (LV.bool z))) (fun _ => by repeat' first | exact True.intro | refine ⟨?_, ?_⟩) (fun _ => by repeat' first | exact True.intro | refine ⟨?_, ?_⟩) _ _⟩, trivial⟩⟩ blT rfl ?_
  refine LoopW.forN (fun k24 s24 => [(1, (LV.ptr 0 0 0)), (4, (I s24.1)), (5, (LV.map 1)), (14, (I a0.Segs)), (15, (I ((k24 : Nat) : Int)))]) (fun s24 => ⟨2, [(0, (.row 25 3 [[(I a0.Segs), (LV.ro 2 (a0.Plans.map PlanT.cells)), (LV.ro 2 (a0.Hosts.map HostT.cells))]])), (1, (.mp (s24.2.map (mpC I (fun z : Bool => (LV.bool z))))))]⟩) hO24 (fun hl24 s24 hs24 => ?_) (fun hl24 k24 s24 o24 hk24 b24 K24 hret24 hbrk24 => ?_)
  ·rw [hs24] at r24
   dsimp only [aftM] at r24
   have hd : decide ((((a0.Segs : Int).toNat : Nat) : Int) < a0.Segs) = false := by rw [decide_eq_false_iff_not]; (try simp only [se_len, se_ch, List.length_map]); omega
   refine LoopW.round TT_ok [0, 1, 2, 3, 4, 5, 6, 8, 11, 14, 15, 16, 20, 25, 26, 27, 28] ?_
   conv => whnf
   repeat' first | exact rA _ | refine parkI ?_ | (refine And.intro ?_ ?_ <;> conv => whnf) | fail
   refine parkE (fun hc => ?_) (fun hc => ?_)
   ·exact (Bool.false_ne_true (hd.symm.trans hc)).elim
   ·clear hd
    conv => whnf
    have e := Option.some.inj r24
    subst e
    repeat' first | exact rA _ | exact clA _ | (refine And.intro ?_ ?_ <;> conv => whnf) | exact clG _ | (refine gand ?_ h; assumption) | exact clN _ | fail
  ·unfold lan_Parts_c0 at b24
   have hd : decide (((k24 : Nat) : Int) < a0.Segs) = true := by rw [decide_eq_true_eq]; (try simp only [se_len, se_ch, List.length_map] at hk24); (try simp only [se_len, se_ch, List.length_map]); omega
   refine LoopW.round TT_ok [0, 1, 2, 3, 4, 5, 6, 8, 11, 14, 15, 16, 20, 25, 26, 27, 28] ?_
   conv => whnf
   repeat' first | exact rA _ | refine parkI ?_ | (refine And.intro ?_ ?_ <;> conv => whnf) | fail
   refine parkE (fun hc => ?_) (fun hc => ?_)
   ·clear hd
    conv => whnf
    rcases m4_ : mfind s24.2 ((k24 : Nat) : Int) with _ | ⟨w4_, u4_⟩
    ·try simp only [mget_none m4_, mput_none m4_, mhas_none m4_, mget_mput] at b24
     repeat' first | exact rA _ | refine parkI ?_ | (refine ⟨_, (finds_none (g := (fun z : Bool => (LV.bool z))) ke_3 m4_), ?_⟩; conv => whnf) | (refine And.intro ?_ ?_ <;> conv => whnf) | fail
     refine parkE (fun hc => ?_) (fun hc => ?_)
     ·exact (Bool.false_ne_true (((rfl : false = false)).symm.trans hc)).elim
     ·conv => whnf
      replace b24 := bindS b24
      obtain ⟨y3, hy3, b24⟩ := b24
      have c4 := cf_lan_part a0 ((k24 : Nat) : Int) _ hy3
      repeat' first | exact rA _ | refine parkI ?_ | (refine CallW.done (CallF.at c4 nlA (NLss_map' _)) ?_; conv => whnf) | (refine ⟨_, _, CallF.at c4 nlA (NLss_map' _), ?_⟩; conv => whnf) | (refine And.intro ?_ ?_ <;> conv => whnf) | fail
      replace b24 := aftS b24
      obtain ⟨O28, hO28, r28⟩ := b24
      refine LoopW.norm [(1, (LV.ptr 0 0 0)), (4, (I (IntKind.i64.wrap (s24.1 + 1)))), (5, (LV.map 1)), (14, (I a0.Segs)), (15, (I ((k24 : Nat) : Int))), (25, (LV.sl 2 0 (y3.map iC).length)), (26, (I (((y3.map iC).length : Nat) : Int))), (27, (I ((0 : Nat) : Int)))] 3 [(0, (.row 25 3 [[(I a0.Segs), (LV.ro 2 (a0.Plans.map PlanT.cells)), (LV.ro 2 (a0.Hosts.map HostT.cells))]])), (1, (.mp (s24.2.map (mpC I (fun z : Bool => (LV.bool z)))))), (2, (.row 3 1 (y3.map iC)))] ⟨rfl, rfl, rfl, rfl, rfl, rfl, rfl, rfl, trivial⟩ ⟨⟨rfl, rfl, blT⟩, ⟨⟨rfl, rfl, bel_mp (f := I) (g := (fun z : Bool => (LV.bool z))) (fun _ => by repeat' first | exact True.intro | refine ⟨?_, ?_⟩) (fun _ => by repeat' first | exact True.intro | refine ⟨?_, ?_⟩) _ _⟩, ⟨⟨rfl, rfl, NLss_bel (NLss_map' _)⟩, trivial⟩⟩⟩ blT rfl ?_
      refine LoopW.forN (fun k28 s28 => [(1, (LV.ptr 0 0 0)), (4, (I (IntKind.i64.wrap (s24.1 + 1)))), (5, (LV.map 1)), (14, (I a0.Segs)), (15, (I ((k24 : Nat) : Int))), (25, (LV.sl 2 0 (y3.map iC).length)), (26, (I (((y3.map iC).length : Nat) : Int))), (27, (I ((k28 : Nat) : Int)))]) (fun s28 => ⟨3, [(0, (.row 25 3 [[(I a0.Segs), (LV.ro 2 (a0.Plans.map PlanT.cells)), (LV.ro 2 (a0.Hosts.map HostT.cells))]])), (1, (.mp (s28.map (mpC I (fun z : Bool => (LV.bool z)))))), (2, (.row 3 1 (y3.map iC)))]⟩) hO28 (fun hl28 s28 hs28 => ?_) (fun hl28 k28 s28 o28 hk28 b28 K28 hret28 hbrk28 => ?_)
      ·rw [hs28] at r28
       dsimp only [aftM] at r28
       have hd : decide ((((((y3.length : Nat) : Int) : Int).toNat : Nat) : Int) < (((y3.map iC).length : Nat) : Int)) = false := by rw [decide_eq_false_iff_not]; (try simp only [se_len, se_ch, List.length_map]); omega
       refine LoopW.round TT_ok [0, 1, 2, 3, 4, 5, 6, 8, 11, 14, 15, 16, 20, 25, 26, 27, 28] ?_
       conv => whnf
       repeat' first | exact rA _ | refine parkI ?_ | (refine And.intro ?_ ?_ <;> conv => whnf) | fail
       refine parkE (fun hc => ?_) (fun hc => ?_)
       ·exact (Bool.false_ne_true (hd.symm.trans hc)).elim
       ·clear hd
        conv => whnf
        repeat' first | exact rA _ | refine parkI ?_ | (refine And.intro ?_ ?_ <;> conv => whnf) | fail
        have e := Option.some.inj r28
        refine LoopW.norm [(1, (LV.ptr 0 0 0)), (4, (I ((IntKind.i64.wrap (s24.1 + 1)), s28).1)), (5, (LV.map 1)), (14, (I a0.Segs)), (15, (I ((k24 + 1 : Nat) : Int)))] 2 [(0, (.row 25 3 [[(I a0.Segs), (LV.ro 2 (a0.Plans.map PlanT.cells)), (LV.ro 2 (a0.Hosts.map HostT.cells))]])), (1, (.mp (((IntKind.i64.wrap (s24.1 + 1)), s28).2.map (mpC I (fun z : Bool => (LV.bool z))))))] ⟨rfl, (smT : ((I (IntKind.i64.wrap (s24.1 + 1))) : LV) = (I ((IntKind.i64.wrap (s24.1 + 1)), s28).1)), rfl, rfl, (congrArg (LV.int .i64) (w64_nat _ (by omega))), trivial⟩ ⟨⟨rfl, rfl, blT⟩, ⟨⟨(congrArg (fun q => some (Blk.mp q)) (by simp only [se_mp] : ((s28.map (mpC I (fun z : Bool => (LV.bool z)))) : List (LV × LV)) = (((IntKind.i64.wrap (s24.1 + 1)), s28).2.map (mpC I (fun z : Bool => (LV.bool z)))))), rfl, bel_mp (f := I) (g := (fun z : Bool => (LV.bool z))) (fun _ => by repeat' first | exact True.intro | refine ⟨?_, ?_⟩) (fun _ => by repeat' first | exact True.intro | refine ⟨?_, ?_⟩) _ _⟩, trivial⟩⟩ blT rfl (K24 _ e.symm)
      ·unfold lan_Parts_c1 at b28
       have hd : decide (((k28 : Nat) : Int) < (((y3.map iC).length : Nat) : Int)) = true := by rw [decide_eq_true_eq]; (try simp only [se_len, se_ch, List.length_map] at hk28); (try simp only [se_len, se_ch, List.length_map]); omega
       refine LoopW.round TT_ok [0, 1, 2, 3, 4, 5, 6, 8, 11, 14, 15, 16, 20, 25, 26, 27, 28] ?_
       conv => whnf
       repeat' first | exact rA _ | refine parkI ?_ | (refine And.intro ?_ ?_ <;> conv => whnf) | fail
       refine parkE (fun hc => ?_) (fun hc => ?_)
       ·clear hd
        conv => whnf
        replace b28 := grdS b28
        obtain ⟨g5, b28⟩ := b28
        replace g5 : (0 : Int) ≤ ((k28 : Nat) : Int) ∧ ((k28 : Nat) : Int) < (((y3.map iC).length : Nat) : Int) := by simpa only [se_len, se_ch, List.length_map] using g5
        replace b28 := bindS b28
        obtain ⟨v6, hv6, b28⟩ := b28
        have i7 : nth (y3.map iC) (0 + ((((k28 : Nat) : Int) : Int).toNat)) = some [(I v6)] := by simpa only [se_map, se_len, se_ch, List.length_map, nth_eq, Nat.zero_add, List.getElem?_map] using gixNF (f := iC) hv6
        rcases m5_ : mfind s28 v6 with _ | ⟨w5_, u5_⟩
        ·try simp only [mget_none m5_, mput_none m5_, mhas_none m5_, mget_mput] at b28
         have f8 : Finds TT 3 ((s28.map (mpC I (fun z : Bool => (LV.bool z)))) ++ [((I v6), (LV.bool true))]) (I v6) (some (s28.length, (LV.bool true))) := by simpa only [se_mp] using finds_some (f := I) (g := (fun z : Bool => (LV.bool z))) ke_3 (mfind_app m5_ true)
         repeat' first | exact rA _ | refine parkI ?_ | (refine ⟨_, (finds_none (g := (fun z : Bool => (LV.bool z))) ke_3 m5_), ?_⟩; conv => whnf) | exact g5 | (rw [i7]; conv => whnf) | (refine And.intro ?_ ?_ <;> conv => whnf) | fail
         have e := Option.some.inj b28
         refine LoopW.norm [(1, (LV.ptr 0 0 0)), (4, (I (IntKind.i64.wrap (s24.1 + 1)))), (5, (LV.map 1)), (14, (I a0.Segs)), (15, (I ((k24 : Nat) : Int))), (25, (LV.sl 2 0 (y3.map iC).length)), (26, (I (((y3.map iC).length : Nat) : Int))), (27, (I ((k28 + 1 : Nat) : Int)))] 3 [(0, (.row 25 3 [[(I a0.Segs), (LV.ro 2 (a0.Plans.map PlanT.cells)), (LV.ro 2 (a0.Hosts.map HostT.cells))]])), (1, (.mp ((s28 ++ [(v6, true)]).map (mpC I (fun z : Bool => (LV.bool z)))))), (2, (.row 3 1 (y3.map iC)))] ⟨rfl, rfl, rfl, rfl, rfl, rfl, rfl, (congrArg (LV.int .i64) (w64_nat _ (by omega))), trivial⟩ ⟨⟨rfl, rfl, blT⟩, ⟨⟨(congrArg (fun q => some (Blk.mp q)) (by simp only [se_mp] : (((s28.map (mpC I (fun z : Bool => (LV.bool z)))) ++ [((I v6), (LV.bool true))]) : List (LV × LV)) = ((s28 ++ [(v6, true)]).map (mpC I (fun z : Bool => (LV.bool z)))))), rfl, bel_mp (f := I) (g := (fun z : Bool => (LV.bool z))) (fun _ => by repeat' first | exact True.intro | refine ⟨?_, ?_⟩) (fun _ => by repeat' first | exact True.intro | refine ⟨?_, ?_⟩) _ _⟩, ⟨⟨rfl, rfl, NLss_bel (NLss_map' _)⟩, trivial⟩⟩⟩ blT rfl (K28 _ e.symm)
        ·try simp only [mget_some m5_, mput_some m5_, mhas_some m5_, mget_mput] at b28
         have f8 : Finds TT 3 (setN (s28.map (mpC I (fun z : Bool => (LV.bool z)))) w5_ ((I v6), (LV.bool true))) (I v6) (some (w5_, (LV.bool true))) := by simpa only [se_mp] using finds_some (f := I) (g := (fun z : Bool => (LV.bool z))) ke_3 (mfind_set m5_ true)
         repeat' first | exact rA _ | refine parkI ?_ | (refine ⟨_, (finds_some (g := (fun z : Bool => (LV.bool z))) ke_3 m5_), ?_⟩; conv => whnf) | exact g5 | (rw [i7]; conv => whnf) | (refine And.intro ?_ ?_ <;> conv => whnf) | fail
         have e := Option.some.inj b28
         refine LoopW.norm [(1, (LV.ptr 0 0 0)), (4, (I (IntKind.i64.wrap (s24.1 + 1)))), (5, (LV.map 1)), (14, (I a0.Segs)), (15, (I ((k24 : Nat) : Int))), (25, (LV.sl 2 0 (y3.map iC).length)), (26, (I (((y3.map iC).length : Nat) : Int))), (27, (I ((k28 + 1 : Nat) : Int)))] 3 [(0, (.row 25 3 [[(I a0.Segs), (LV.ro 2 (a0.Plans.map PlanT.cells)), (LV.ro 2 (a0.Hosts.map HostT.cells))]])), (1, (.mp ((s28.set w5_ (v6, true)).map (mpC I (fun z : Bool => (LV.bool z)))))), (2, (.row 3 1 (y3.map iC)))] ⟨rfl, rfl, rfl, rfl, rfl, rfl, rfl, (congrArg (LV.int .i64) (w64_nat _ (by omega))), trivial⟩ ⟨⟨rfl, rfl, blT⟩, ⟨⟨(congrArg (fun q => some (Blk.mp q)) (by simp only [se_mp] : ((setN (s28.map (mpC I (fun z : Bool => (LV.bool z)))) w5_ ((I v6), (LV.bool true))) : List (LV × LV)) = ((s28.set w5_ (v6, true)).map (mpC I (fun z : Bool => (LV.bool z)))))), rfl, bel_mp (f := I) (g := (fun z : Bool => (LV.bool z))) (fun _ => by repeat' first | exact True.intro | refine ⟨?_, ?_⟩) (fun _ => by repeat' first | exact True.intro | refine ⟨?_, ?_⟩) _ _⟩, ⟨⟨rfl, rfl, NLss_bel (NLss_map' _)⟩, trivial⟩⟩⟩ blT rfl (K28 _ e.symm)
       ·exact (Bool.false_ne_true (hc.symm.trans hd)).elim
    ·try simp only [mget_some m4_, mput_some m4_, mhas_some m4_, mget_mput] at b24
     repeat' first | exact rA _ | refine parkI ?_ | (refine ⟨_, (finds_some (g := (fun z : Bool => (LV.bool z))) ke_3 m4_), ?_⟩; conv => whnf) | (refine And.intro ?_ ?_ <;> conv => whnf) | fail
     refine parkE (fun hc => ?_) (fun hc => ?_)
     ·replace b24 := condT hc b24
      conv => whnf
      repeat' first | exact rA _ | refine parkI ?_ | (refine And.intro ?_ ?_ <;> conv => whnf) | fail
      have e := Option.some.inj b24
      refine LoopW.norm [(1, (LV.ptr 0 0 0)), (4, (I (s24.1, s24.2).1)), (5, (LV.map 1)), (14, (I a0.Segs)), (15, (I ((k24 + 1 : Nat) : Int)))] 2 [(0, (.row 25 3 [[(I a0.Segs), (LV.ro 2 (a0.Plans.map PlanT.cells)), (LV.ro 2 (a0.Hosts.map HostT.cells))]])), (1, (.mp ((s24.1, s24.2).2.map (mpC I (fun z : Bool => (LV.bool z))))))] ⟨rfl, (smT : ((I s24.1) : LV) = (I (s24.1, s24.2).1)), rfl, rfl, (congrArg (LV.int .i64) (w64_nat _ (by omega))), trivial⟩ ⟨⟨rfl, rfl, blT⟩, ⟨⟨(congrArg (fun q => some (Blk.mp q)) (by simp only [se_mp] : ((s24.2.map (mpC I (fun z : Bool => (LV.bool z)))) : List (LV × LV)) = ((s24.1, s24.2).2.map (mpC I (fun z : Bool => (LV.bool z)))))), rfl, bel_mp (f := I) (g := (fun z : Bool => (LV.bool z))) (fun _ => by repeat' first | exact True.intro | refine ⟨?_, ?_⟩) (fun _ => by repeat' first | exact True.intro | refine ⟨?_, ?_⟩) _ _⟩, trivial⟩⟩ blT rfl (K24 _ e.symm)
     ·replace b24 := condF hc b24
      conv => whnf
      replace b24 := bindS b24
      obtain ⟨y3, hy3, b24⟩ := b24
      have c4 := cf_lan_part a0 ((k24 : Nat) : Int) _ hy3
      repeat' first | exact rA _ | refine parkI ?_ | (refine CallW.done (CallF.at c4 nlA (NLss_map' _)) ?_; conv => whnf) | (refine ⟨_, _, CallF.at c4 nlA (NLss_map' _), ?_⟩; conv => whnf) | (refine And.intro ?_ ?_ <;> conv => whnf) | fail
      replace b24 := aftS b24
      obtain ⟨O28, hO28, r28⟩ := b24
      refine LoopW.norm [(1, (LV.ptr 0 0 0)), (4, (I (IntKind.i64.wrap (s24.1 + 1)))), (5, (LV.map 1)), (14, (I a0.Segs)), (15, (I ((k24 : Nat) : Int))), (25, (LV.sl 2 0 (y3.map iC).length)), (26, (I (((y3.map iC).length : Nat) : Int))), (27, (I ((0 : Nat) : Int)))] 3 [(0, (.row 25 3 [[(I a0.Segs), (LV.ro 2 (a0.Plans.map PlanT.cells)), (LV.ro 2 (a0.Hosts.map HostT.cells))]])), (1, (.mp (s24.2.map (mpC I (fun z : Bool => (LV.bool z)))))), (2, (.row 3 1 (y3.map iC)))] ⟨rfl, rfl, rfl, rfl, rfl, rfl, rfl, rfl, trivial⟩ ⟨⟨rfl, rfl, blT⟩, ⟨⟨rfl, rfl, bel_mp (f := I) (g := (fun z : Bool => (LV.bool z))) (fun _ => by repeat' first | exact True.intro | refine ⟨?_, ?_⟩) (fun _ => by repeat' first | exact True.intro | refine ⟨?_, ?_⟩) _ _⟩, ⟨⟨rfl, rfl, NLss_bel (NLss_map' _)⟩, trivial⟩⟩⟩ blT rfl ?_
      refine LoopW.forN (fun k28 s28 => [(1, (LV.ptr 0 0 0)), (4, (I (IntKind.i64.wrap (s24.1 + 1)))), (5, (LV.map 1)), (14, (I a0.Segs)), (15, (I ((k24 : Nat) : Int))), (25, (LV.sl 2 0 (y3.map iC).length)), (26, (I (((y3.map iC).length : Nat) : Int))), (27, (I ((k28 : Nat) : Int)))]) (fun s28 => ⟨3, [(0, (.row 25 3 [[(I a0.Segs), (LV.ro 2 (a0.Plans.map PlanT.cells)), (LV.ro 2 (a0.Hosts.map HostT.cells))]])), (1, (.mp (s28.map (mpC I (fun z : Bool => (LV.bool z)))))), (2, (.row 3 1 (y3.map iC)))]⟩) hO28 (fun hl28 s28 hs28 => ?_) (fun hl28 k28 s28 o28 hk28 b28 K28 hret28 hbrk28 => ?_)
      ·rw [hs28] at r28
       dsimp only [aftM] at r28
       have hd : decide ((((((y3.length : Nat) : Int) : Int).toNat : Nat) : Int) < (((y3.map iC).length : Nat) : Int)) = false := by rw [decide_eq_false_iff_not]; (try simp only [se_len, se_ch, List.length_map]); omega
       refine LoopW.round TT_ok [0, 1, 2, 3, 4, 5, 6, 8, 11, 14, 15, 16, 20, 25, 26, 27, 28] ?_
       conv => whnf
       repeat' first | exact rA _ | refine parkI ?_ | (refine And.intro ?_ ?_ <;> conv => whnf) | fail
       refine parkE (fun hc => ?_) (fun hc => ?_)
       ·exact (Bool.false_ne_true (hd.symm.trans hc)).elim
       ·clear hd
        conv => whnf
        repeat' first | exact rA _ | refine parkI ?_ | (refine And.intro ?_ ?_ <;> conv => whnf) | fail
        have e := Option.some.inj r28
        refine LoopW.norm [(1, (LV.ptr 0 0 0)), (4, (I ((IntKind.i64.wrap (s24.1 + 1)), s28).1)), (5, (LV.map 1)), (14, (I a0.Segs)), (15, (I ((k24 + 1 : Nat) : Int)))] 2 [(0, (.row 25 3 [[(I a0.Segs), (LV.ro 2 (a0.Plans.map PlanT.cells)), (LV.ro 2 (a0.Hosts.map HostT.cells))]])), (1, (.mp (((IntKind.i64.wrap (s24.1 + 1)), s28).2.map (mpC I (fun z : Bool => (LV.bool z))))))] ⟨rfl, (smT : ((I (IntKind.i64.wrap (s24.1 + 1))) : LV) = (I ((IntKind.i64.wrap (s24.1 + 1)), s28).1)), rfl, rfl, (congrArg (LV.int .i64) (w64_nat _ (by omega))), trivial⟩ ⟨⟨rfl, rfl, blT⟩, ⟨⟨(congrArg (fun q => some (Blk.mp q)) (by simp only [se_mp] : ((s28.map (mpC I (fun z : Bool => (LV.bool z)))) : List (LV × LV)) = (((IntKind.i64.wrap (s24.1 + 1)), s28).2.map (mpC I (fun z : Bool => (LV.bool z)))))), rfl, bel_mp (f := I) (g := (fun z : Bool => (LV.bool z))) (fun _ => by repeat' first | exact True.intro | refine ⟨?_, ?_⟩) (fun _ => by repeat' first | exact True.intro | refine ⟨?_, ?_⟩) _ _⟩, trivial⟩⟩ blT rfl (K24 _ e.symm)
      ·unfold lan_Parts_c1 at b28
       have hd : decide (((k28 : Nat) : Int) < (((y3.map iC).length : Nat) : Int)) = true := by rw [decide_eq_true_eq]; (try simp only [se_len, se_ch, List.length_map] at hk28); (try simp only [se_len, se_ch, List.length_map]); omega
       refine LoopW.round TT_ok [0, 1, 2, 3, 4, 5, 6, 8, 11, 14, 15, 16, 20, 25, 26, 27, 28] ?_
       conv => whnf
       repeat' first | exact rA _ | refine parkI ?_ | (refine And.intro ?_ ?_ <;> conv => whnf) | fail
       refine parkE (fun hc => ?_) (fun hc => ?_)
       ·clear hd
        conv => whnf
        replace b28 := grdS b28
        obtain ⟨g5, b28⟩ := b28
        replace g5 : (0 : Int) ≤ ((k28 : Nat) : Int) ∧ ((k28 : Nat) : Int) < (((y3.map iC).length : Nat) : Int) := by simpa only [se_len, se_ch, List.length_map] using g5
        replace b28 := bindS b28
        obtain ⟨v6, hv6, b28⟩ := b28
        have i7 : nth (y3.map iC) (0 + ((((k28 : Nat) : Int) : Int).toNat)) = some [(I v6)] := by simpa only [se_map, se_len, se_ch, List.length_map, nth_eq, Nat.zero_add, List.getElem?_map] using gixNF (f := iC) hv6
        rcases m6_ : mfind s28 v6 with _ | ⟨w6_, u6_⟩
        ·try simp only [mget_none m6_, mput_none m6_, mhas_none m6_, mget_mput] at b28
         have f8 : Finds TT 3 ((s28.map (mpC I (fun z : Bool => (LV.bool z)))) ++ [((I v6), (LV.bool true))]) (I v6) (some (s28.length, (LV.bool true))) := by simpa only [se_mp] using finds_some (f := I) (g := (fun z : Bool => (LV.bool z))) ke_3 (mfind_app m6_ true)
         repeat' first | exact rA _ | refine parkI ?_ | (refine ⟨_, (finds_none (g := (fun z : Bool => (LV.bool z))) ke_3 m6_), ?_⟩; conv => whnf) | exact g5 | (rw [i7]; conv => whnf) | (refine And.intro ?_ ?_ <;> conv => whnf) | fail
         have e := Option.some.inj b28
         refine LoopW.norm [(1, (LV.ptr 0 0 0)), (4, (I (IntKind.i64.wrap (s24.1 + 1)))), (5, (LV.map 1)), (14, (I a0.Segs)), (15, (I ((k24 : Nat) : Int))), (25, (LV.sl 2 0 (y3.map iC).length)), (26, (I (((y3.map iC).length : Nat) : Int))), (27, (I ((k28 + 1 : Nat) : Int)))] 3 [(0, (.row 25 3 [[(I a0.Segs), (LV.ro 2 (a0.Plans.map PlanT.cells)), (LV.ro 2 (a0.Hosts.map HostT.cells))]])), (1, (.mp ((s28 ++ [(v6, true)]).map (mpC I (fun z : Bool => (LV.bool z)))))), (2, (.row 3 1 (y3.map iC)))] ⟨rfl, rfl, rfl, rfl, rfl, rfl, rfl, (congrArg (LV.int .i64) (w64_nat _ (by omega))), trivial⟩ ⟨⟨rfl, rfl, blT⟩, ⟨⟨(congrArg (fun q => some (Blk.mp q)) (by simp only [se_mp] : (((s28.map (mpC I (fun z : Bool => (LV.bool z)))) ++ [((I v6), (LV.bool true))]) : List (LV × LV)) = ((s28 ++ [(v6, true)]).map (mpC I (fun z : Bool => (LV.bool z)))))), rfl, bel_mp (f := I) (g := (fun z : Bool => (LV.bool z))) (fun _ => by repeat' first | exact True.intro | refine ⟨?_, ?_⟩) (fun _ => by repeat' first | exact True.intro | refine ⟨?_, ?_⟩) _ _⟩, ⟨⟨rfl, rfl, NLss_bel (NLss_map' _)⟩, trivial⟩⟩⟩ blT rfl (K28 _ e.symm)
        ·try simp only [mget_some m6_, mput_some m6_, mhas_some m6_, mget_mput] at b28
         have f8 : Finds TT 3 (setN (s28.map (mpC I (fun z : Bool => (LV.bool z)))) w6_ ((I v6), (LV.bool true))) (I v6) (some (w6_, (LV.bool true))) := by simpa only [se_mp] using finds_some (f := I) (g := (fun z : Bool => (LV.bool z))) ke_3 (mfind_set m6_ true)
         repeat' first | exact rA _ | refine parkI ?_ | (refine ⟨_, (finds_some (g := (fun z : Bool => (LV.bool z))) ke_3 m6_), ?_⟩; conv => whnf) | exact g5 | (rw [i7]; conv => whnf) | (refine And.intro ?_ ?_ <;> conv => whnf) | fail
         have e := Option.some.inj b28
         refine LoopW.norm [(1, (LV.ptr 0 0 0)), (4, (I (IntKind.i64.wrap (s24.1 + 1)))), (5, (LV.map 1)), (14, (I a0.Segs)), (15, (I ((k24 : Nat) : Int))), (25, (LV.sl 2 0 (y3.map iC).length)), (26, (I (((y3.map iC).length : Nat) : Int))), (27, (I ((k28 + 1 : Nat) : Int)))] 3 [(0, (.row 25 3 [[(I a0.Segs), (LV.ro 2 (a0.Plans.map PlanT.cells)), (LV.ro 2 (a0.Hosts.map HostT.cells))]])), (1, (.mp ((s28.set w6_ (v6, true)).map (mpC I (fun z : Bool => (LV.bool z)))))), (2, (.row 3 1 (y3.map iC)))] ⟨rfl, rfl, rfl, rfl, rfl, rfl, rfl, (congrArg (LV.int .i64) (w64_nat _ (by omega))), trivial⟩ ⟨⟨rfl, rfl, blT⟩, ⟨⟨(congrArg (fun q => some (Blk.mp q)) (by simp only [se_mp] : ((setN (s28.map (mpC I (fun z : Bool => (LV.bool z)))) w6_ ((I v6), (LV.bool true))) : List (LV × LV)) = ((s28.set w6_ (v6, true)).map (mpC I (fun z : Bool => (LV.bool z)))))), rfl, bel_mp (f := I) (g := (fun z : Bool => (LV.bool z))) (fun _ => by repeat' first | exact True.intro | refine ⟨?_, ?_⟩) (fun _ => by repeat' first | exact True.intro | refine ⟨?_, ?_⟩) _ _⟩, ⟨⟨rfl, rfl, NLss_bel (NLss_map' _)⟩, trivial⟩⟩⟩ blT rfl (K28 _ e.symm)
       ·exact (Bool.false_ne_true (hc.symm.trans hd)).elim
   ·exact (Bool.false_ne_true (hc.symm.trans hd)).elim

def lan_Loops_c1  (k30 : Nat) (x30 : LinkT) (s30 : Int) : Option (Step (Step (Int × Int) Int) Int) :=
 (bif x30.Up then
  some (.nxt (IntKind.i64.wrap (s30 + 1)))
 else
  some (.nxt s30))

def lan_Loops_c0  (k29 : Nat) (x29 : PlanT) (s29 : Int) : Option (Step (Int × Int) Int) :=
 aft (rangeL (lan_Loops_c1 ) x29.Ports 0) fun s30 =>
 some (.nxt (IntKind.i64.wrap (s29 + (mx (IntKind.i64.wrap (s30 - 1)) 0))))

def lan_Loops (a0 : LanT) : Option (Int × Int) :=
 (lan_Parts a0).bind fun y1 =>
 (bif (!decide (y1.2 = 0)) then
  some (0, y1.2)
 else
  aft (rangeL (lan_Loops_c0 ) a0.Plans (IntKind.i64.wrap (y1.1 - a0.Segs))) fun s29 =>
  some (s29, 0))

theorem c_lan_Loops (a0 : LanT) (r : (Int × Int)) (h : lan_Loops a0 = some r) : CallP Try.prog 23 [(LV.agg [(I a0.Segs), (LV.ro 2 (a0.Plans.map PlanT.cells)), (LV.ro 2 (a0.Hosts.map HostT.cells))])] (LV.tup [(I r.1), (I r.2)]) := by
 unfold lan_Loops at h
 refine .intro nlA (.intro TT_ok Try.func23 rfl rfl [0, 1, 2, 3, 4, 5, 7, 8, 10, 17, 24, 25, 26, 27, 31, 32, 33, 34, 38] rfl ?_)
 conv => whnf
 replace h := bindS h
 obtain ⟨y1, hy1, h⟩ := h
 have c2 := c_lan_Parts a0 _ hy1
 repeat' first | exact rA _ | refine parkI ?_ | (refine CallP.use c2 ?_; conv => whnf) | (refine And.intro ?_ ?_ <;> conv => whnf) | fail
 refine parkE (fun hc => ?_) (fun hc => ?_)
 ·replace h := condT hc h
  conv => whnf
  have e := Option.some.inj h
  subst e
  repeat' first | exact rA _ | exact clA _ | (refine And.intro ?_ ?_ <;> conv => whnf) | exact clG _ | (refine gand ?_ h; assumption) | exact clN _ | fail
 ·replace h := condF hc h
  conv => whnf
  repeat' first | exact rA _ | refine parkI ?_ | (refine And.intro ?_ ?_ <;> conv => whnf) | fail
  replace h := aftS h
  obtain ⟨O29, hO29, r29⟩ := h
  refine LoopW.norm [(4, (I (IntKind.i64.wrap (y1.1 - a0.Segs)))), (24, (LV.ro 2 (a0.Plans.map PlanT.cells))), (25, (I (((a0.Plans.map PlanT.cells).length : Nat) : Int))), (26, (I ((0 : Nat) : Int)))] 0 [] ⟨rfl, rfl, rfl, rfl, trivial⟩ trivial blT rfl ?_
  refine LoopW.forR (fun k29 s29 => [(4, (I s29)), (24, (LV.ro 2 (a0.Plans.map PlanT.cells))), (25, (I (((a0.Plans.map PlanT.cells).length : Nat) : Int))), (26, (I ((k29 : Nat) : Int)))]) (fun s29 => ⟨0, []⟩) hO29 (fun hl29 s29 hs29 => ?_) (fun hl29 k29 x29 s29 o29 hk29 hx29 b29 K29 hret29 hbrk29 => ?_)
  ·rw [hs29] at r29
   dsimp only [aftM] at r29
   have hd : decide (((a0.Plans.length : Nat) : Int) < (((a0.Plans.map PlanT.cells).length : Nat) : Int)) = false := by rw [decide_eq_false_iff_not]; (try simp only [se_len, se_ch, List.length_map]); omega
   refine LoopW.round TT_ok [0, 1, 2, 3, 4, 5, 7, 8, 10, 17, 24, 25, 26, 27, 31, 32, 33, 34, 38] ?_
   conv => whnf
   repeat' first | exact rA _ | refine parkI ?_ | (refine And.intro ?_ ?_ <;> conv => whnf) | fail
   refine parkE (fun hc => ?_) (fun hc => ?_)
   ·exact (Bool.false_ne_true (hd.symm.trans hc)).elim
   ·clear hd
    conv => whnf
    have e := Option.some.inj r29
    subst e
    repeat' first | exact rA _ | exact clA _ | (refine And.intro ?_ ?_ <;> conv => whnf) | exact clG _ | (refine gand ?_ h; assumption) | exact clN _ | fail
  ·unfold lan_Loops_c0 at b29
   have hd : decide (((k29 : Nat) : Int) < (((a0.Plans.map PlanT.cells).length : Nat) : Int)) = true := by rw [decide_eq_true_eq]; (try simp only [se_len, se_ch, List.length_map] at hk29); (try simp only [se_len, se_ch, List.length_map]); omega
   refine LoopW.round TT_ok [0, 1, 2, 3, 4, 5, 7, 8, 10, 17, 24, 25, 26, 27, 31, 32, 33, 34, 38] ?_
   conv => whnf
   repeat' first | exact rA _ | refine parkI ?_ | (refine And.intro ?_ ?_ <;> conv => whnf) | fail
   refine parkE (fun hc => ?_) (fun hc => ?_)
   ·clear hd
    conv => whnf
    repeat' first | exact rA _ | refine parkI ?_ | (refine ⟨_, (kixF (f := PlanT.cells) hx29), ?_⟩; conv => whnf) | (refine And.intro ?_ ?_ <;> conv => whnf) | fail
    replace b29 := aftS b29
    obtain ⟨O30, hO30, r30⟩ := b29
    refine LoopW.norm [(4, (I s29)), (8, (I 0)), (24, (LV.ro 2 (a0.Plans.map PlanT.cells))), (25, (I (((a0.Plans.map PlanT.cells).length : Nat) : Int))), (26, (I ((k29 : Nat) : Int))), (31, (LV.ro 3 (x29.Ports.map LinkT.cells))), (32, (I (((x29.Ports.map LinkT.cells).length : Nat) : Int))), (33, (I ((0 : Nat) : Int)))] 0 [] ⟨rfl, rfl, rfl, rfl, rfl, rfl, rfl, rfl, trivial⟩ trivial blT rfl ?_
    refine LoopW.forR (fun k30 s30 => [(4, (I s29)), (8, (I s30)), (24, (LV.ro 2 (a0.Plans.map PlanT.cells))), (25, (I (((a0.Plans.map PlanT.cells).length : Nat) : Int))), (26, (I ((k29 : Nat) : Int))), (31, (LV.ro 3 (x29.Ports.map LinkT.cells))), (32, (I (((x29.Ports.map LinkT.cells).length : Nat) : Int))), (33, (I ((k30 : Nat) : Int)))]) (fun s30 => ⟨0, []⟩) hO30 (fun hl30 s30 hs30 => ?_) (fun hl30 k30 x30 s30 o30 hk30 hx30 b30 K30 hret30 hbrk30 => ?_)
    ·rw [hs30] at r30
     dsimp only [aftM] at r30
     have hd : decide (((x29.Ports.length : Nat) : Int) < (((x29.Ports.map LinkT.cells).length : Nat) : Int)) = false := by rw [decide_eq_false_iff_not]; (try simp only [se_len, se_ch, List.length_map]); omega
     refine LoopW.round TT_ok [0, 1, 2, 3, 4, 5, 7, 8, 10, 17, 24, 25, 26, 27, 31, 32, 33, 34, 38] ?_
     conv => whnf
     repeat' first | exact rA _ | refine parkI ?_ | (refine And.intro ?_ ?_ <;> conv => whnf) | fail
     refine parkE (fun hc => ?_) (fun hc => ?_)
     ·exact (Bool.false_ne_true (hd.symm.trans hc)).elim
     ·clear hd
      conv => whnf
      repeat' first | exact rA _ | refine parkI ?_ | (refine And.intro ?_ ?_ <;> conv => whnf) | fail
      have e := Option.some.inj r30
      refine LoopW.norm [(4, (I (IntKind.i64.wrap (s29 + (mx (IntKind.i64.wrap (s30 - 1)) 0))))), (24, (LV.ro 2 (a0.Plans.map PlanT.cells))), (25, (I (((a0.Plans.map PlanT.cells).length : Nat) : Int))), (26, (I ((k29 + 1 : Nat) : Int)))] 0 [] ⟨rfl, rfl, rfl, (congrArg (LV.int .i64) (w64_nat _ (by omega))), trivial⟩ trivial blT rfl (K29 _ e.symm)
    ·unfold lan_Loops_c1 at b30
     have hd : decide (((k30 : Nat) : Int) < (((x29.Ports.map LinkT.cells).length : Nat) : Int)) = true := by rw [decide_eq_true_eq]; (try simp only [se_len, se_ch, List.length_map] at hk30); (try simp only [se_len, se_ch, List.length_map]); omega
     refine LoopW.round TT_ok [0, 1, 2, 3, 4, 5, 7, 8, 10, 17, 24, 25, 26, 27, 31, 32, 33, 34, 38] ?_
     conv => whnf
     repeat' first | exact rA _ | refine parkI ?_ | (refine And.intro ?_ ?_ <;> conv => whnf) | fail
     refine parkE (fun hc => ?_) (fun hc => ?_)
     ·clear hd
      conv => whnf
      repeat' first | exact rA _ | refine parkI ?_ | (refine ⟨_, (kixF (f := LinkT.cells) hx30), ?_⟩; conv => whnf) | (refine And.intro ?_ ?_ <;> conv => whnf) | fail
      refine parkE (fun hc => ?_) (fun hc => ?_)
      ·replace b30 := condT hc b30
       conv => whnf
       repeat' first | exact rA _ | refine parkI ?_ | (refine And.intro ?_ ?_ <;> conv => whnf) | fail
       have e := Option.some.inj b30
       refine LoopW.norm [(4, (I s29)), (8, (I (IntKind.i64.wrap (s30 + 1)))), (24, (LV.ro 2 (a0.Plans.map PlanT.cells))), (25, (I (((a0.Plans.map PlanT.cells).length : Nat) : Int))), (26, (I ((k29 : Nat) : Int))), (31, (LV.ro 3 (x29.Ports.map LinkT.cells))), (32, (I (((x29.Ports.map LinkT.cells).length : Nat) : Int))), (33, (I ((k30 + 1 : Nat) : Int)))] 0 [] ⟨rfl, rfl, rfl, rfl, rfl, rfl, rfl, (congrArg (LV.int .i64) (w64_nat _ (by omega))), trivial⟩ trivial blT rfl (K30 _ e.symm)
      ·replace b30 := condF hc b30
       conv => whnf
       repeat' first | exact rA _ | refine parkI ?_ | (refine And.intro ?_ ?_ <;> conv => whnf) | fail
       have e := Option.some.inj b30
       refine LoopW.norm [(4, (I s29)), (8, (I s30)), (24, (LV.ro 2 (a0.Plans.map PlanT.cells))), (25, (I (((a0.Plans.map PlanT.cells).length : Nat) : Int))), (26, (I ((k29 : Nat) : Int))), (31, (LV.ro 3 (x29.Ports.map LinkT.cells))), (32, (I (((x29.Ports.map LinkT.cells).length : Nat) : Int))), (33, (I ((k30 + 1 : Nat) : Int)))] 0 [] ⟨rfl, rfl, rfl, rfl, rfl, rfl, rfl, (congrArg (LV.int .i64) (w64_nat _ (by omega))), trivial⟩ trivial blT rfl (K30 _ e.symm)
     ·exact (Bool.false_ne_true (hc.symm.trans hd)).elim
   ·exact (Bool.false_ne_true (hc.symm.trans hd)).elim

def lan_Part (a0 : LanT) (a1 : Int) : Option ((List Int) × Int) :=
 (lan_may a0 a1).bind fun y1 =>
 (bif (!decide (y1 = 0)) then
  some ([], y1)
 else
  (lan_part a0 a1).bind fun y3 =>
  some (y3, 0))

theorem c_lan_Part (a0 : LanT) (a1 : Int) (r : ((List Int) × Int)) (h : lan_Part a0 a1 = some r) : CallP Try.prog 24 [(LV.agg [(I a0.Segs), (LV.ro 2 (a0.Plans.map PlanT.cells)), (LV.ro 2 (a0.Hosts.map HostT.cells))]), (I a1)] (LV.tup [(LV.ro 1 (r.1.map iC)), (I r.2)]) := by
 unfold lan_Part at h
 refine .intro nlA (.intro TT_ok Try.func24 rfl rfl [0, 1, 2, 4, 5, 6, 11] rfl ?_)
 conv => whnf
 replace h := bindS h
 obtain ⟨y1, hy1, h⟩ := h
 have c2 := c_lan_may a0 a1 _ hy1
 repeat' first | exact rA _ | refine parkI ?_ | (refine CallP.use c2 ?_; conv => whnf) | (refine And.intro ?_ ?_ <;> conv => whnf) | fail
 refine parkE (fun hc => ?_) (fun hc => ?_)
 ·replace h := condT hc h
  conv => whnf
  have e := Option.some.inj h
  subst e
  repeat' first | exact rA _ | exact clA _ | (refine And.intro ?_ ?_ <;> conv => whnf) | exact clG _ | (refine gand ?_ h; assumption) | exact clN _ | fail
 ·replace h := condF hc h
  conv => whnf
  replace h := bindS h
  obtain ⟨y3, hy3, h⟩ := h
  have c4 := cf_lan_part a0 a1 _ hy3
  have e := Option.some.inj h
  subst e
  repeat' first | exact rA _ | (refine CallW.done (CallF.at c4 nlA (NLss_map' _)) ?_; conv => whnf) | (refine ⟨_, _, CallF.at c4 nlA (NLss_map' _), ?_⟩; conv => whnf) | exact clA _ | (refine And.intro ?_ ?_ <;> conv => whnf) | exact clG _ | (refine gand ?_ h; assumption) | exact clN _ | fail

end Go.RX
