/- Plain functions, and what says that the program's functions compute them. -/
import Derived.Test.YtljecfgfbebjiaaSa
import Derived.Test.YtljecfgfbebjiaaRXF
set_option linter.unusedVariables false
set_option linter.unusedSimpArgs false
open Go Go.RX Go.Proofs
namespace Go.RX
set_option maxRecDepth 10000
set_option maxHeartbeats 4000000
attribute [local irreducible] CallW CallP LoopW W IntKind.wrap bitI
def law17_few_c0  (k31 : Nat) (x31 : PlanT) (s31 : (List PlanT)) : Option (Step LanT (List PlanT)) :=
 grd ((0 : Int) ≤ (mn ((x31.Ports.length : Nat) : Int) 10) ∧ (mn ((x31.Ports.length : Nat) : Int) 10) ≤ ((x31.Ports.length : Nat) : Int)) <|
 grd (fits ((s31 ++ ([(⟨x31.ID, (x31.Ports.take ((mn ((x31.Ports.length : Nat) : Int) 10) : Int).toNat)⟩ : PlanT)] : (List PlanT))) : List PlanT).length 32) <|
 some (.nxt (s31 ++ ([(⟨x31.ID, (x31.Ports.take ((mn ((x31.Ports.length : Nat) : Int) 10) : Int).toNat)⟩ : PlanT)] : (List PlanT))))

def law17_few (a0 : LanT) : Option LanT :=
 grd ((0 : Int) ≤ (mn ((a0.Plans.length : Nat) : Int) 8) ∧ (mn ((a0.Plans.length : Nat) : Int) 8) ≤ ((a0.Plans.length : Nat) : Int)) <|
 aft (rangeL (law17_few_c0 ) (a0.Plans.take ((mn ((a0.Plans.length : Nat) : Int) 8) : Int).toNat) ([] : (List PlanT))) fun s31 =>
 grd ((0 : Int) ≤ (mn ((a0.Hosts.length : Nat) : Int) 12) ∧ (mn ((a0.Hosts.length : Nat) : Int) 12) ≤ ((a0.Hosts.length : Nat) : Int)) <|
 some (⟨a0.Segs, s31, (a0.Hosts.take ((mn ((a0.Hosts.length : Nat) : Int) 12) : Int).toNat)⟩ : LanT)

theorem c_law17_few (a0 : LanT) (r : LanT) (h : law17_few a0 = some r) : CallP Try.prog 26 [(LV.agg [(I a0.Segs), (LV.ro 2 (a0.Plans.map PlanT.cells)), (LV.ro 2 (a0.Hosts.map HostT.cells))])] (LV.agg [(I r.Segs), (LV.ro 2 (r.Plans.map PlanT.cells)), (LV.ro 2 (r.Hosts.map HostT.cells))]) := by
 unfold law17_few at h
 refine .intro nlA (.intro TT_ok Try.func26 rfl rfl [0, 1, 2, 3, 5, 12, 13, 14, 15] rfl ?_)
 conv => whnf
 replace h := grdS h
 obtain ⟨g1, h⟩ := h
 replace g1 : (0 : Int) ≤ (mn (((a0.Plans.map PlanT.cells).length : Nat) : Int) 8) ∧ (mn (((a0.Plans.map PlanT.cells).length : Nat) : Int) 8) ≤ (((a0.Plans.map PlanT.cells).length : Nat) : Int) := by simpa only [se_len, se_ch, List.length_map] using g1
 repeat' first | exact rA _ | refine parkI ?_ | exact g1 | (refine W.drawnM (id := 8) 0 TT_ok hmix1 [0, 0, 0, 0, 0, 0, 0, 0, 0, 0, 1, 1] [0, 0, 0, 0, 0, 1, 1, 1, 0, 1, 1, 2] rfl ?_; conv => whnf) | exact clA _ | (refine And.intro ?_ ?_ <;> conv => whnf) | exact clG _ | (refine gand ?_ h; assumption) | exact clN _ | fail
 replace h := aftS h
 obtain ⟨O31, hO31, r31⟩ := h
 refine LoopW.virt 3 33 2 rfl ?_
 refine LoopW.norm [(1, (LV.ptr 0 0 0)), (2, (LV.ptr 1 0 0)), (3, (LV.sl 2 0 (([] : (List PlanT)).map PlanT.cells).length)), (12, (LV.ro 2 ((a0.Plans.map PlanT.cells).take ((mn (((a0.Plans.map PlanT.cells).length : Nat) : Int) 8) : Int).toNat))), (13, (I ((((a0.Plans.map PlanT.cells).take ((mn (((a0.Plans.map PlanT.cells).length : Nat) : Int) 8) : Int).toNat).length : Nat) : Int))), (14, (I ((0 : Nat) : Int)))] 3 [(0, (.row 25 3 [[(I a0.Segs), (LV.ro 2 (a0.Plans.map PlanT.cells)), (LV.ro 2 (a0.Hosts.map HostT.cells))]])), (1, (.row 25 3 [[(I 0), LV.nils, LV.nils]])), (2, (.row 33 2 (([] : (List PlanT)).map PlanT.cells)))] ⟨rfl, rfl, (by exact congrArg (LV.sl 2 0) (clL _ : 0 = (([] : (List PlanT)).map PlanT.cells).length)), rfl, rfl, rfl, trivial⟩ ⟨⟨rfl, rfl, blT⟩, ⟨⟨rfl, rfl, blT⟩, ⟨⟨(congrArg (fun q => some (Blk.row 33 2 q)) (smT : ([] : List (List LV)) = (([] : (List PlanT)).map PlanT.cells))), rfl, NLss_bel (NLss_map' _)⟩, trivial⟩⟩⟩ blT rfl ?_
 refine LoopW.forR (fun k31 s31 => [(1, (LV.ptr 0 0 0)), (2, (LV.ptr 1 0 0)), (3, (LV.sl 2 0 (s31.map PlanT.cells).length)), (12, (LV.ro 2 ((a0.Plans.map PlanT.cells).take ((mn (((a0.Plans.map PlanT.cells).length : Nat) : Int) 8) : Int).toNat))), (13, (I ((((a0.Plans.map PlanT.cells).take ((mn (((a0.Plans.map PlanT.cells).length : Nat) : Int) 8) : Int).toNat).length : Nat) : Int))), (14, (I ((k31 : Nat) : Int)))]) (fun s31 => ⟨3, [(0, (.row 25 3 [[(I a0.Segs), (LV.ro 2 (a0.Plans.map PlanT.cells)), (LV.ro 2 (a0.Hosts.map HostT.cells))]])), (1, (.row 25 3 [[(I 0), LV.nils, LV.nils]])), (2, (.row 33 2 (s31.map PlanT.cells)))]⟩) hO31 (fun hl31 s31 hs31 => ?_) (fun hl31 k31 x31 s31 o31 hk31 hx31 b31 K31 hret31 hbrk31 => ?_)
 ·rw [hs31] at r31
  dsimp only [aftM] at r31
  have hd : decide ((((a0.Plans.take ((mn ((a0.Plans.length : Nat) : Int) 8) : Int).toNat).length : Nat) : Int) < ((((a0.Plans.map PlanT.cells).take ((mn (((a0.Plans.map PlanT.cells).length : Nat) : Int) 8) : Int).toNat).length : Nat) : Int)) = false := by rw [decide_eq_false_iff_not]; (try simp only [se_len, se_ch, List.length_map]); omega
  refine LoopW.round TT_ok [0, 1, 2, 3, 5, 12, 13, 14, 15] ?_
  conv => whnf
  repeat' first | exact rA _ | refine parkI ?_ | (refine W.drawnM (id := 8) 0 TT_ok hmix1 [0, 0, 0, 0, 0, 0, 0, 0, 0, 0, 1, 1] [0, 0, 0, 0, 0, 1, 1, 1, 0, 1, 1, 2] rfl ?_; conv => whnf) | exact clA _ | (refine And.intro ?_ ?_ <;> conv => whnf) | exact clG _ | (refine gand ?_ h; assumption) | exact clN _ | fail
  refine parkE (fun hc => ?_) (fun hc => ?_)
  ·exact (Bool.false_ne_true (hd.symm.trans hc)).elim
  ·clear hd
   conv => whnf
   replace r31 := grdS r31
   obtain ⟨g4, r31⟩ := r31
   replace g4 : (0 : Int) ≤ (mn (((a0.Hosts.map HostT.cells).length : Nat) : Int) 12) ∧ (mn (((a0.Hosts.map HostT.cells).length : Nat) : Int) 12) ≤ (((a0.Hosts.map HostT.cells).length : Nat) : Int) := by simpa only [se_len, se_ch, List.length_map] using g4
   have e := Option.some.inj r31
   subst e
   repeat' first | exact rA _ | exact g4 | (refine W.drawnM (id := 8) 0 TT_ok hmix1 [0, 0, 0, 0, 0, 0, 0, 0, 0, 0, 1, 1] [0, 0, 0, 0, 0, 1, 1, 1, 0, 1, 1, 2] rfl ?_; conv => whnf) | exact clA _ | (refine And.intro ?_ ?_ <;> conv => whnf) | exact clG _ | (refine gand ?_ h; assumption) | exact clN _ | fail
 ·unfold law17_few_c0 at b31
  have fx31 : (0 : Int) ≤ ((k31 : Nat) : Int) ∧ (((a0.Plans.map PlanT.cells).take ((mn (((a0.Plans.map PlanT.cells).length : Nat) : Int) 8) : Int).toNat))[((k31 : Nat) : Int).toNat]? = some (PlanT.cells x31) := by (have h0 := kixF (f := PlanT.cells) hx31); simpa only [se_map, se_len, se_byL, List.length_map] using h0
  have hd : decide (((k31 : Nat) : Int) < ((((a0.Plans.map PlanT.cells).take ((mn (((a0.Plans.map PlanT.cells).length : Nat) : Int) 8) : Int).toNat).length : Nat) : Int)) = true := by rw [decide_eq_true_eq]; (try simp only [se_len, se_ch, List.length_map] at hk31); (try simp only [se_len, se_ch, List.length_map]); omega
  refine LoopW.round TT_ok [0, 1, 2, 3, 5, 12, 13, 14, 15] ?_
  conv => whnf
  repeat' first | exact rA _ | refine parkI ?_ | (refine W.drawnM (id := 8) 0 TT_ok hmix1 [0, 0, 0, 0, 0, 0, 0, 0, 0, 0, 1, 1] [0, 0, 0, 0, 0, 1, 1, 1, 0, 1, 1, 2] rfl ?_; conv => whnf) | exact clA _ | (refine And.intro ?_ ?_ <;> conv => whnf) | exact clG _ | (refine gand ?_ h; assumption) | exact clN _ | fail
  refine parkE (fun hc => ?_) (fun hc => ?_)
  ·clear hd
   conv => whnf
   replace b31 := grdS b31
   obtain ⟨g2, b31⟩ := b31
   replace g2 : (0 : Int) ≤ (mn (((x31.Ports.map LinkT.cells).length : Nat) : Int) 10) ∧ (mn (((x31.Ports.map LinkT.cells).length : Nat) : Int) 10) ≤ (((x31.Ports.map LinkT.cells).length : Nat) : Int) := by simpa only [se_len, se_ch, List.length_map] using g2
   replace b31 := grdS b31
   obtain ⟨g3, b31⟩ := b31
   replace g3 : fits (((s31.map PlanT.cells) ++ [[(I x31.ID), (LV.ro 3 ((x31.Ports.map LinkT.cells).take ((mn (((x31.Ports.map LinkT.cells).length : Nat) : Int) 10) : Int).toNat))]])).length 32 := by simpa only [se_len, se_ch, List.length_map] using g3
   repeat' first | exact rA _ | refine parkI ?_ | (refine ⟨_, fx31, ?_⟩; conv => whnf) | exact g2 | exact g3 | (refine W.drawnM (id := 8) 0 TT_ok hmix1 [0, 0, 0, 0, 0, 0, 0, 0, 0, 0, 1, 1] [0, 0, 0, 0, 0, 1, 1, 1, 0, 1, 1, 2] rfl ?_; conv => whnf) | exact clA _ | (refine And.intro ?_ ?_ <;> conv => whnf) | exact clG _ | (refine gand ?_ h; assumption) | exact clN _ | fail
   have e := Option.some.inj b31
   refine LoopW.ren [(0, 0), (1, 1), (5, 2)] [(1, (LV.ptr 0 0 0)), (2, (LV.ptr 1 0 0)), (3, (LV.sl 2 0 ((s31 ++ ([(⟨x31.ID, (x31.Ports.take ((mn ((x31.Ports.length : Nat) : Int) 10) : Int).toNat)⟩ : PlanT)] : (List PlanT))).map PlanT.cells).length)), (12, (LV.ro 2 ((a0.Plans.map PlanT.cells).take ((mn (((a0.Plans.map PlanT.cells).length : Nat) : Int) 8) : Int).toNat))), (13, (I ((((a0.Plans.map PlanT.cells).take ((mn (((a0.Plans.map PlanT.cells).length : Nat) : Int) 8) : Int).toNat).length : Nat) : Int))), (14, (I ((k31 + 1 : Nat) : Int)))] 3 [(0, (.row 25 3 [[(I a0.Segs), (LV.ro 2 (a0.Plans.map PlanT.cells)), (LV.ro 2 (a0.Hosts.map HostT.cells))]])), (1, (.row 25 3 [[(I 0), LV.nils, LV.nils]])), (2, (.row 33 2 ((s31 ++ ([(⟨x31.ID, (x31.Ports.take ((mn ((x31.Ports.length : Nat) : Int) 10) : Int).toNat)⟩ : PlanT)] : (List PlanT))).map PlanT.cells)))] rfl ⟨rfl, rfl, (by exact congrArg (LV.sl 2 0) (clL _ : (((s31.map PlanT.cells) ++ [[(I x31.ID), (LV.ro 3 ((x31.Ports.map LinkT.cells).take ((mn (((x31.Ports.map LinkT.cells).length : Nat) : Int) 10) : Int).toNat))]])).length = ((s31 ++ ([(⟨x31.ID, (x31.Ports.take ((mn ((x31.Ports.length : Nat) : Int) 10) : Int).toNat)⟩ : PlanT)] : (List PlanT))).map PlanT.cells).length)), rfl, rfl, (congrArg (LV.int .i64) (w64_nat _ (by omega))), trivial⟩ ⟨⟨rfl, rfl, .inl ⟨rfl, nlT⟩⟩, rfl, rfl, ⟨⟨rfl, rfl, .inl ⟨rfl, nlT⟩⟩, rfl, rfl, ⟨⟨rfl, rfl, .inl ⟨(by first | (simp only [se_map, se_byL, se_len, se_ch, List.length_map]; done) | (simp only [se_map, se_byL, se_len, se_ch, List.length_map, PlanT.cells]; done) : (((s31.map PlanT.cells) ++ [[(I x31.ID), (LV.ro 3 ((x31.Ports.map LinkT.cells).take ((mn (((x31.Ports.map LinkT.cells).length : Nat) : Int) 10) : Int).toNat))]]) : List (List LV)) = ((s31 ++ ([(⟨x31.ID, (x31.Ports.take ((mn ((x31.Ports.length : Nat) : Int) 10) : Int).toNat)⟩ : PlanT)] : (List PlanT))).map PlanT.cells)), nlT⟩⟩, rfl, rfl, trivial⟩⟩⟩ rfl (K31 _ e.symm)
  ·exact (Bool.false_ne_true (hc.symm.trans hd)).elim

def slices_IndexFunc_int_c0 (q1 : (Int → Option Bool)) (k33 : Nat) (x33 : Int) (s33 : Unit) : Option (Step Int Unit) :=
 (q1 x33).bind fun y9 =>
 (bif y9 then
  some (.ret ((k33 : Nat) : Int))
 else
  some (.nxt ()))

def slices_IndexFunc_int (a0 : (List Int)) (q1 : (Int → Option Bool)) : Option Int :=
 aft (rangeL (slices_IndexFunc_int_c0 q1) a0 ()) fun s33 =>
 some (-1)

theorem c_slices_IndexFunc_int (a0 : (List Int)) (fn1 : Nat) (ff1 fc1 : List LV) (q1 : (Int → Option Bool)) (hq1 : ∀ (x0 : Int) (r : Bool), q1 x0 = some r → CallP Try.prog fn1 (ff1 ++ [(I x0)] ++ fc1) (LV.bool r)) (hn1 : NLs ff1 ∧ NLs fc1) (r : Int) (h : slices_IndexFunc_int a0 q1 = some r) : CallP Try.prog 77 [(LV.ro 1 (a0.map iC)), (LV.func (.func fn1) ff1 fc1)] (I r) := by
 have hnA1 := hn1.1
 have hnB1 := hn1.2
 unfold slices_IndexFunc_int at h
 refine .intro nlA (.intro TT_ok Try.func77 rfl rfl [0, 1, 4, 5, 7, 8, 9, 16] rfl ?_)
 conv => whnf
 repeat' first | exact rA _ | refine parkI ?_ | (refine And.intro ?_ ?_ <;> conv => whnf) | fail
 replace h := aftS h
 obtain ⟨O33, hO33, r33⟩ := h
 refine LoopW.norm [(0, (LV.ro 1 (a0.map iC))), (1, (LV.func (.func fn1) ff1 fc1)), (7, (I (((a0.map iC).length : Nat) : Int))), (8, (I ((0 : Nat) : Int)))] 0 [] ⟨rfl, rfl, rfl, rfl, trivial⟩ trivial blT rfl ?_
 refine LoopW.forR (fun k33 s33 => [(0, (LV.ro 1 (a0.map iC))), (1, (LV.func (.func fn1) ff1 fc1)), (7, (I (((a0.map iC).length : Nat) : Int))), (8, (I ((k33 : Nat) : Int)))]) (fun s33 => ⟨0, []⟩) hO33 (fun hl33 s33 hs33 => ?_) (fun hl33 k33 x33 s33 o33 hk33 hx33 b33 K33 hret33 hbrk33 => ?_)
 ·rw [hs33] at r33
  dsimp only [aftM] at r33
  have hd : decide (((a0.length : Nat) : Int) < (((a0.map iC).length : Nat) : Int)) = false := by rw [decide_eq_false_iff_not]; (try simp only [se_len, se_ch, List.length_map]); omega
  refine LoopW.round TT_ok [0, 1, 4, 5, 7, 8, 9, 16] ?_
  conv => whnf
  repeat' first | exact rA _ | refine parkI ?_ | (refine And.intro ?_ ?_ <;> conv => whnf) | fail
  refine parkE (fun hc => ?_) (fun hc => ?_)
  ·exact (Bool.false_ne_true (hd.symm.trans hc)).elim
  ·clear hd
   conv => whnf
   have e := Option.some.inj r33
   subst e
   repeat' first | exact rA _ | exact clA _ | (refine And.intro ?_ ?_ <;> conv => whnf) | exact clG _ | (refine gand ?_ h; assumption) | exact clN _ | fail
 ·unfold slices_IndexFunc_int_c0 at b33
  have hd : decide (((k33 : Nat) : Int) < (((a0.map iC).length : Nat) : Int)) = true := by rw [decide_eq_true_eq]; (try simp only [se_len, se_ch, List.length_map] at hk33); (try simp only [se_len, se_ch, List.length_map]); omega
  refine LoopW.round TT_ok [0, 1, 4, 5, 7, 8, 9, 16] ?_
  conv => whnf
  repeat' first | exact rA _ | refine parkI ?_ | (refine And.intro ?_ ?_ <;> conv => whnf) | fail
  refine parkE (fun hc => ?_) (fun hc => ?_)
  ·clear hd
   conv => whnf
   replace b33 := bindS b33
   obtain ⟨y9, hy9, b33⟩ := b33
   have c10 := hq1 x33 _ hy9
   repeat' first | exact rA _ | refine parkI ?_ | (refine ⟨_, (kixF (f := iC) hx33), ?_⟩; conv => whnf) | (refine CallP.use c10 ?_; conv => whnf) | (refine frzB_call rfl (slN_nil hn1) ?_; conv => whnf) | (refine And.intro ?_ ?_ <;> conv => whnf) | fail
   refine parkE (fun hc => ?_) (fun hc => ?_)
   ·replace b33 := condT hc b33
    conv => whnf
    have e := Option.some.inj b33
    replace e := hret33 _ e.symm
    rw [e] at r33
    replace e := Option.some.inj r33
    subst e
    repeat' first | exact rA _ | exact clA _ | (refine And.intro ?_ ?_ <;> conv => whnf) | exact clG _ | (refine gand ?_ h; assumption) | exact clN _ | fail
   ·replace b33 := condF hc b33
    conv => whnf
    repeat' first | exact rA _ | refine parkI ?_ | (refine And.intro ?_ ?_ <;> conv => whnf) | fail
    have e := Option.some.inj b33
    refine LoopW.norm [(0, (LV.ro 1 (a0.map iC))), (1, (LV.func (.func fn1) ff1 fc1)), (7, (I (((a0.map iC).length : Nat) : Int))), (8, (I ((k33 + 1 : Nat) : Int)))] 0 [] ⟨rfl, rfl, rfl, (congrArg (LV.int .i64) (w64_nat _ (by omega))), trivial⟩ trivial blT rfl (K33 _ e.symm)
  ·exact (Bool.false_ne_true (hc.symm.trans hd)).elim

def slices_ContainsFunc_int (a0 : (List Int)) (q1 : (Int → Option Bool)) : Option Bool :=
 (slices_IndexFunc_int a0 q1).bind fun y10 =>
 some (decide (0 ≤ y10))

theorem c_slices_ContainsFunc_int (a0 : (List Int)) (fn1 : Nat) (ff1 fc1 : List LV) (q1 : (Int → Option Bool)) (hq1 : ∀ (x0 : Int) (r : Bool), q1 x0 = some r → CallP Try.prog fn1 (ff1 ++ [(I x0)] ++ fc1) (LV.bool r)) (hn1 : NLs ff1 ∧ NLs fc1) (r : Bool) (h : slices_ContainsFunc_int a0 q1 = some r) : CallP Try.prog 51 [(LV.ro 1 (a0.map iC)), (LV.func (.func fn1) ff1 fc1)] (LV.bool r) := by
 have hnA1 := hn1.1
 have hnB1 := hn1.2
 unfold slices_ContainsFunc_int at h
 refine .intro nlA (.intro TT_ok Try.func51 rfl rfl [0, 1, 4] rfl ?_)
 conv => whnf
 have n9 : slNs [(LV.ro 1 (a0.map iC)), (LV.func (.func fn1) ff1 fc1)] = [] := slNs_nil nlA
 replace h := bindS h
 obtain ⟨y10, hy10, h⟩ := h
 have c11 := c_slices_IndexFunc_int a0 fn1 ff1 fc1 q1 hq1 hn1 _ hy10
 have e := Option.some.inj h
 subst e
 repeat' first | exact rA _ | (refine CallP.use c11 ?_; conv => whnf) | (refine frzB_call n9 rfl ?_; conv => whnf) | (refine frz_nil n9 ?_; conv => whnf) | exact clA _ | (refine And.intro ?_ ?_ <;> conv => whnf) | exact clG _ | (refine gand ?_ h; assumption) | exact clN _ | fail

def flood_may_1 (a0 : Int) (q1 : LanT) : Option Bool :=
 some (bif (decide (a0 < 0)) then true else (decide (q1.Segs ≤ a0)))

theorem c_flood_may_1 (a0 : Int) (q1 : LanT) (r : Bool) (h : flood_may_1 a0 q1 = some r) : CallP Try.prog 74 [(I a0), (LV.rptr [(I q1.Segs), (LV.ro 2 (q1.Plans.map PlanT.cells)), (LV.ro 2 (q1.Hosts.map HostT.cells))])] (LV.bool r) := by
 unfold flood_may_1 at h
 refine .intro nlA (.intro TT_ok Try.func74 rfl rfl [0, 1, 3] rfl ?_)
 conv => whnf
 have e := Option.some.inj h
 subst e
 repeat' first | exact rA _ | exact clA _ | (refine And.intro ?_ ?_ <;> conv => whnf) | exact clG _ | (refine gand ?_ h; assumption) | exact clN _ | fail

def flood_may_c0 (a1 : (List (List Bool))) (k32 : Nat) (x32 : PlanT) (s32 : Unit) : Option (Step Int Unit) :=
 (gix a1 ((k32 : Nat) : Int)).bind fun v7 =>
 (bif (!decide (((v7.length : Nat) : Int) = ((x32.Ports.length : Nat) : Int))) then
  some (.ret 1)
 else
  some (.nxt ()))

def flood_may (a0 : LanT) (a1 : (List (List Bool))) (a2 : (List Int)) : Option Int :=
 (lan_Right a0).bind fun y5 =>
 (bif (bif (!y5) then true else (!decide (((a1.length : Nat) : Int) = ((a0.Plans.length : Nat) : Int)))) then
  some 1
 else
  aft (rangeL (flood_may_c0 a1) a0.Plans ()) fun s32 =>
  (slices_ContainsFunc_int a2 (fun x0_ => flood_may_1 x0_ a0)).bind fun y9 =>
  (bif y9 then
   some 3
  else
   some 0))

theorem c_flood_may (a0 : LanT) (a1 : (List (List Bool))) (a2 : (List Int)) (r : Int) (h : flood_may a0 a1 a2 = some r) : CallP Try.prog 48 [(LV.agg [(I a0.Segs), (LV.ro 2 (a0.Plans.map PlanT.cells)), (LV.ro 2 (a0.Hosts.map HostT.cells))]), (LV.ro 1 (a1.map (roC 1 bC))), (LV.ro 1 (a2.map iC))] (I r) := by
 unfold flood_may at h
 refine .intro nlA (.intro TT_ok Try.func48 rfl rfl [0, 1, 2, 3, 6, 7, 8, 19, 21, 22, 23, 24, 36, 40] rfl ?_)
 conv => whnf
 replace h := bindS h
 obtain ⟨y5, hy5, h⟩ := h
 have c6 := c_lan_Right a0 _ hy5
 repeat' first | exact rA _ | refine parkI ?_ | (refine CallP.use c6 ?_; conv => whnf) | (refine ⟨_, _, CallP.at c6, ?_⟩; conv => whnf) | (refine ⟨_, fun _ => c6, ?_⟩; conv => whnf) | (refine W.drawn TT_ok hmix1 rfl ?_; conv => whnf) | exact clA _ | (refine And.intro ?_ ?_ <;> conv => whnf) | exact clG _ | (refine gand ?_ h; assumption) | exact clN _ | fail
 refine parkE (fun hc => ?_) (fun hc => ?_)
 ·replace h := condT (by first | exact hc | (simpa only [se_len, se_ch, List.length_map] using hc; done) | (have h0 : (bif (!y5) then true else (!decide ((((a1.map (roC 1 bC)).length : Nat) : Int) = (((a0.Plans.map PlanT.cells).length : Nat) : Int)))) = true := hc; simpa only [se_len, se_ch, List.length_map] using h0)) h
  conv => whnf
  have e := Option.some.inj h
  subst e
  repeat' first | exact rA _ | (refine W.drawn TT_ok hmix1 rfl ?_; conv => whnf) | exact clA _ | (refine And.intro ?_ ?_ <;> conv => whnf) | exact clG _ | (refine gand ?_ h; assumption) | exact clN _ | fail
 ·replace h := condF (by first | exact hc | (simpa only [se_len, se_ch, List.length_map] using hc; done) | (have h0 : (bif (!y5) then true else (!decide ((((a1.map (roC 1 bC)).length : Nat) : Int) = (((a0.Plans.map PlanT.cells).length : Nat) : Int)))) = false := hc; simpa only [se_len, se_ch, List.length_map] using h0)) h
  conv => whnf
  repeat' first | exact rA _ | refine parkI ?_ | (refine W.drawn TT_ok hmix1 rfl ?_; conv => whnf) | exact clA _ | (refine And.intro ?_ ?_ <;> conv => whnf) | exact clG _ | (refine gand ?_ h; assumption) | exact clN _ | fail
  replace h := aftS h
  obtain ⟨O32, hO32, r32⟩ := h
  refine LoopW.norm [(1, (LV.ro 1 (a1.map (roC 1 bC)))), (2, (LV.ro 1 (a2.map iC))), (3, (LV.ptr 0 0 0)), (21, (LV.ro 2 (a0.Plans.map PlanT.cells))), (22, (I (((a0.Plans.map PlanT.cells).length : Nat) : Int))), (23, (I ((0 : Nat) : Int)))] 1 [(0, (.row 25 3 [[(I a0.Segs), (LV.ro 2 (a0.Plans.map PlanT.cells)), (LV.ro 2 (a0.Hosts.map HostT.cells))]]))] ⟨rfl, rfl, rfl, rfl, rfl, rfl, trivial⟩ ⟨⟨rfl, rfl, blT⟩, trivial⟩ blT rfl ?_
  refine LoopW.forR (fun k32 s32 => [(1, (LV.ro 1 (a1.map (roC 1 bC)))), (2, (LV.ro 1 (a2.map iC))), (3, (LV.ptr 0 0 0)), (21, (LV.ro 2 (a0.Plans.map PlanT.cells))), (22, (I (((a0.Plans.map PlanT.cells).length : Nat) : Int))), (23, (I ((k32 : Nat) : Int)))]) (fun s32 => ⟨1, [(0, (.row 25 3 [[(I a0.Segs), (LV.ro 2 (a0.Plans.map PlanT.cells)), (LV.ro 2 (a0.Hosts.map HostT.cells))]]))]⟩) hO32 (fun hl32 s32 hs32 => ?_) (fun hl32 k32 x32 s32 o32 hk32 hx32 b32 K32 hret32 hbrk32 => ?_)
  ·rw [hs32] at r32
   dsimp only [aftM] at r32
   have hd : decide (((a0.Plans.length : Nat) : Int) < (((a0.Plans.map PlanT.cells).length : Nat) : Int)) = false := by rw [decide_eq_false_iff_not]; (try simp only [se_len, se_ch, List.length_map]); omega
   refine LoopW.round TT_ok [0, 1, 2, 3, 6, 7, 8, 19, 21, 22, 23, 24, 36, 40] ?_
   conv => whnf
   repeat' first | exact rA _ | refine parkI ?_ | (refine W.drawn TT_ok hmix1 rfl ?_; conv => whnf) | exact clA _ | (refine And.intro ?_ ?_ <;> conv => whnf) | exact clG _ | (refine gand ?_ h; assumption) | exact clN _ | fail
   refine parkE (fun hc => ?_) (fun hc => ?_)
   ·exact (Bool.false_ne_true (hd.symm.trans hc)).elim
   ·clear hd
    conv => whnf
    replace r32 := bindS r32
    obtain ⟨y9, hy9, r32⟩ := r32
    have c10 := c_slices_ContainsFunc_int a2 74 [] [(LV.rptr [(I a0.Segs), (LV.ro 2 (a0.Plans.map PlanT.cells)), (LV.ro 2 (a0.Hosts.map HostT.cells))])] (fun x0_ => flood_may_1 x0_ a0) (fun x0_ r h => c_flood_may_1 x0_ a0 r h) nlB _ hy9
    repeat' first | exact rA _ | refine parkI ?_ | (refine CallP.use c10 ?_; conv => whnf) | (refine ⟨_, _, CallP.at c10, ?_⟩; conv => whnf) | (refine ⟨_, fun _ => c10, ?_⟩; conv => whnf) | (refine W.drawn TT_ok hmix1 rfl ?_; conv => whnf) | exact clA _ | (refine And.intro ?_ ?_ <;> conv => whnf) | exact clG _ | (refine gand ?_ h; assumption) | exact clN _ | fail
    refine parkE (fun hc => ?_) (fun hc => ?_)
    ·replace r32 := condT hc r32
     conv => whnf
     have e := Option.some.inj r32
     subst e
     repeat' first | exact rA _ | (refine W.drawn TT_ok hmix1 rfl ?_; conv => whnf) | exact clA _ | (refine And.intro ?_ ?_ <;> conv => whnf) | exact clG _ | (refine gand ?_ h; assumption) | exact clN _ | fail
    ·replace r32 := condF hc r32
     conv => whnf
     have e := Option.some.inj r32
     subst e
     repeat' first | exact rA _ | (refine W.drawn TT_ok hmix1 rfl ?_; conv => whnf) | exact clA _ | (refine And.intro ?_ ?_ <;> conv => whnf) | exact clG _ | (refine gand ?_ h; assumption) | exact clN _ | fail
  ·unfold flood_may_c0 at b32
   have hd : decide (((k32 : Nat) : Int) < (((a0.Plans.map PlanT.cells).length : Nat) : Int)) = true := by rw [decide_eq_true_eq]; (try simp only [se_len, se_ch, List.length_map] at hk32); (try simp only [se_len, se_ch, List.length_map]); omega
   refine LoopW.round TT_ok [0, 1, 2, 3, 6, 7, 8, 19, 21, 22, 23, 24, 36, 40] ?_
   conv => whnf
   repeat' first | exact rA _ | refine parkI ?_ | (refine W.drawn TT_ok hmix1 rfl ?_; conv => whnf) | exact clA _ | (refine And.intro ?_ ?_ <;> conv => whnf) | exact clG _ | (refine gand ?_ h; assumption) | exact clN _ | fail
   refine parkE (fun hc => ?_) (fun hc => ?_)
   ·clear hd
    conv => whnf
    replace b32 := bindS b32
    obtain ⟨v7, hv7, b32⟩ := b32
    have i8 := gixF (f := (roC 1 bC)) hv7
    repeat' first | exact rA _ | refine parkI ?_ | (refine ⟨_, (kixF (f := PlanT.cells) hx32), ?_⟩; conv => whnf) | (refine ⟨_, i8, ?_⟩; conv => whnf) | (refine W.drawn TT_ok hmix1 rfl ?_; conv => whnf) | exact clA _ | (refine And.intro ?_ ?_ <;> conv => whnf) | exact clG _ | (refine gand ?_ h; assumption) | exact clN _ | fail
    refine parkE (fun hc => ?_) (fun hc => ?_)
    ·replace b32 := condT (by first | exact hc | (simpa only [se_len, se_ch, List.length_map] using hc; done) | (have h0 : (!decide ((((v7.map bC).length : Nat) : Int) = (((x32.Ports.map LinkT.cells).length : Nat) : Int))) = true := hc; simpa only [se_len, se_ch, List.length_map] using h0)) b32
     conv => whnf
     have e := Option.some.inj b32
     replace e := hret32 _ e.symm
     rw [e] at r32
     replace e := Option.some.inj r32
     subst e
     repeat' first | exact rA _ | (refine W.drawn TT_ok hmix1 rfl ?_; conv => whnf) | exact clA _ | (refine And.intro ?_ ?_ <;> conv => whnf) | exact clG _ | (refine gand ?_ h; assumption) | exact clN _ | fail
    ·replace b32 := condF (by first | exact hc | (simpa only [se_len, se_ch, List.length_map] using hc; done) | (have h0 : (!decide ((((v7.map bC).length : Nat) : Int) = (((x32.Ports.map LinkT.cells).length : Nat) : Int))) = false := hc; simpa only [se_len, se_ch, List.length_map] using h0)) b32
     conv => whnf
     repeat' first | exact rA _ | refine parkI ?_ | (refine W.drawn TT_ok hmix1 rfl ?_; conv => whnf) | exact clA _ | (refine And.intro ?_ ?_ <;> conv => whnf) | exact clG _ | (refine gand ?_ h; assumption) | exact clN _ | fail
     have e := Option.some.inj b32
     refine LoopW.norm [(1, (LV.ro 1 (a1.map (roC 1 bC)))), (2, (LV.ro 1 (a2.map iC))), (3, (LV.ptr 0 0 0)), (21, (LV.ro 2 (a0.Plans.map PlanT.cells))), (22, (I (((a0.Plans.map PlanT.cells).length : Nat) : Int))), (23, (I ((k32 + 1 : Nat) : Int)))] 1 [(0, (.row 25 3 [[(I a0.Segs), (LV.ro 2 (a0.Plans.map PlanT.cells)), (LV.ro 2 (a0.Hosts.map HostT.cells))]]))] ⟨rfl, rfl, rfl, rfl, rfl, (congrArg (LV.int .i64) (w64_nat _ (by omega))), trivial⟩ ⟨⟨rfl, rfl, blT⟩, trivial⟩ blT rfl (K32 _ e.symm)
   ·exact (Bool.false_ne_true (hc.symm.trans hd)).elim

def math_bits_Mul64 (a0 : Int) (a1 : Int) : Option (Int × Int) :=
 some ((IntKind.u64.wrap ((IntKind.u64.wrap ((IntKind.u64.wrap (((a0).fdiv (2 ^ (min (32 : Int).toNat 64))) * ((a1).fdiv (2 ^ (min (32 : Int).toNat 64))))) + (((IntKind.u64.wrap ((IntKind.u64.wrap (((a0).fdiv (2 ^ (min (32 : Int).toNat 64))) * (bitI .and IntKind.u64 a1 4294967295))) + (((IntKind.u64.wrap ((bitI .and IntKind.u64 a0 4294967295) * (bitI .and IntKind.u64 a1 4294967295)))).fdiv (2 ^ (min (32 : Int).toNat 64)))))).fdiv (2 ^ (min (32 : Int).toNat 64))))) + (((IntKind.u64.wrap ((bitI .and IntKind.u64 (IntKind.u64.wrap ((IntKind.u64.wrap (((a0).fdiv (2 ^ (min (32 : Int).toNat 64))) * (bitI .and IntKind.u64 a1 4294967295))) + (((IntKind.u64.wrap ((bitI .and IntKind.u64 a0 4294967295) * (bitI .and IntKind.u64 a1 4294967295)))).fdiv (2 ^ (min (32 : Int).toNat 64))))) 4294967295) + (IntKind.u64.wrap ((bitI .and IntKind.u64 a0 4294967295) * ((a1).fdiv (2 ^ (min (32 : Int).toNat 64)))))))).fdiv (2 ^ (min (32 : Int).toNat 64))))), (IntKind.u64.wrap (a0 * a1)))

theorem c_math_bits_Mul64 (a0 : Int) (a1 : Int) (r : (Int × Int)) (h : math_bits_Mul64 a0 a1 = some r) : CallP Try.prog 108 [(LV.int .u64 a0), (LV.int .u64 a1)] (LV.tup [(LV.int .u64 r.1), (LV.int .u64 r.2)]) := by
 unfold math_bits_Mul64 at h
 refine .intro nlA (.intro TT_ok Try.func108 rfl rfl [0, 1, 4, 5, 6, 7, 8, 9, 10, 11, 12, 13] rfl ?_)
 conv => whnf
 have e := Option.some.inj h
 subst e
 repeat' first | exact rA _ | exact (by decide : (0 : Int) ≤ 32) | exact (by decide : (0 : Int) ≤ 32) | exact (by decide : (0 : Int) ≤ 32) | exact (by decide : (0 : Int) ≤ 32) | exact (by decide : (0 : Int) ≤ 32) | exact clA _ | (refine And.intro ?_ ?_ <;> conv => whnf) | exact clG _ | (refine gand ?_ h; assumption) | exact clN _ | fail

def math_bits_Mul (a0 : Int) (a1 : Int) : Option (Int × Int) :=
 (math_bits_Mul64 a0 a1).bind fun y7 =>
 some (y7.1, y7.2)

theorem c_math_bits_Mul (a0 : Int) (a1 : Int) (r : (Int × Int)) (h : math_bits_Mul a0 a1 = some r) : CallP Try.prog 91 [(LV.int .u64 a0), (LV.int .u64 a1)] (LV.tup [(LV.int .u64 r.1), (LV.int .u64 r.2)]) := by
 unfold math_bits_Mul at h
 refine .intro nlA (.intro TT_ok Try.func91 rfl rfl [0, 1, 4, 5, 6, 7, 8, 9] rfl ?_)
 conv => whnf
 repeat' first | exact rA _ | refine parkI ?_ | (refine And.intro ?_ ?_ <;> conv => whnf) | fail
 refine parkE (fun hc => ?_) (fun hc => ?_)
 ·exact (Bool.false_ne_true (((rfl : false = false)).symm.trans hc)).elim
 ·conv => whnf
  replace h := bindS h
  obtain ⟨y7, hy7, h⟩ := h
  have c8 := c_math_bits_Mul64 a0 a1 _ hy7
  have e := Option.some.inj h
  subst e
  repeat' first | exact rA _ | (refine CallP.use c8 ?_; conv => whnf) | exact clA _ | (refine And.intro ?_ ?_ <;> conv => whnf) | exact clG _ | (refine gand ?_ h; assumption) | exact clN _ | fail

def slices_Repeat_int_c0  (s34 : (Int × (List Int))) : Option (Step (List Int) (Int × (List Int))) :=
 (bif (decide (s34.1 < ((s34.2.length : Nat) : Int))) then
  grd ((0 : Int) ≤ s34.1 ∧ s34.1 < ((s34.2.length : Nat) : Int)) <|
  grd ((0 : Int) ≤ s34.1 ∧ s34.1 ≤ ((s34.2.length : Nat) : Int)) <|
  some (.nxt ((IntKind.i64.wrap (s34.1 + ((min (s34.1 : Int).toNat (s34.2.length - (s34.1 : Int).toNat) : Nat) : Int))), (s34.2.take (s34.1 : Int).toNat ++ s34.2.take (min (s34.1 : Int).toNat (s34.2.length - (s34.1 : Int).toNat)) ++ s34.2.drop ((s34.1 : Int).toNat + min (s34.1 : Int).toNat (s34.2.length - (s34.1 : Int).toNat)))))
 else
  some (.brk (s34.1, s34.2)))

def slices_Repeat_int (a0 : (List Int)) (a1 : Int) : Option (List Int) :=
 (bif (decide (a1 < 0)) then
  none
 else
  (math_bits_Mul (IntKind.u64.wrap ((a0.length : Nat) : Int)) (IntKind.u64.wrap a1)).bind fun y7 =>
  (bif (bif (decide (0 < y7.1)) then true else (decide (9223372036854775807 < y7.2))) then
   none
  else
   grd ((0 : Int) ≤ (IntKind.i64.wrap y7.2) ∧ (IntKind.i64.wrap y7.2) ≤ (IntKind.i64.wrap y7.2) ∧ fits ((IntKind.i64.wrap y7.2)).toNat 8) <|
   aft (loopF 1000000 (slices_Repeat_int_c0 ) (((min a0.length (List.replicate ((IntKind.i64.wrap y7.2)).toNat 0).length : Nat) : Int), (a0.take (List.replicate ((IntKind.i64.wrap y7.2)).toNat 0).length ++ (List.replicate ((IntKind.i64.wrap y7.2)).toNat 0).drop a0.length))) fun s34 =>
   some s34.2))

theorem cf_slices_Repeat_int (a0 : (List Int)) (a1 : Int) (r : (List Int)) (h : slices_Repeat_int a0 a1 = some r) : CallF Try.prog 75 [(LV.ro 1 (a0.map iC)), (I a1)] 3 1 (r.map iC) := by
 unfold slices_Repeat_int at h
 refine CallF.of (NLss_map' _) (CallW.intro TT_ok Try.func75 rfl rfl [0, 1, 4, 5, 6, 7, 8, 10, 26, 37] rfl ?_)
 conv => whnf
 repeat' first | exact rA _ | refine parkI ?_ | (refine W.drawnM (id := 9) 0 TT_ok hmix1 [0, 0, 0, 0, 0, 0, 0, 0, 1, 1] [1, 0, 0, 0, 0, 0, 0, 1, 1, 1] rfl ?_; conv => whnf) | exact clA _ | (refine And.intro ?_ ?_ <;> conv => whnf) | exact clG _ | (refine gand ?_ h; assumption) | exact clN _ | fail
 refine parkE (fun hc => ?_) (fun hc => ?_)
 ·replace h := condT hc h
  conv => whnf
  cases h
 ·replace h := condF hc h
  conv => whnf
  replace h := bindS h
  obtain ⟨y7, hy7, h⟩ := h
  have c8 : CallP Try.prog 91 [(LV.int .u64 (IntKind.u64.wrap (((a0.map iC).length : Nat) : Int))), (LV.int .u64 (IntKind.u64.wrap a1))] (LV.tup [(LV.int .u64 y7.1), (LV.int .u64 y7.2)]) := by first | exact c_math_bits_Mul (IntKind.u64.wrap ((a0.length : Nat) : Int)) (IntKind.u64.wrap a1) _ hy7 | (simpa only [se_map, se_byL, se_len, se_ch, List.length_map] using c_math_bits_Mul (IntKind.u64.wrap ((a0.length : Nat) : Int)) (IntKind.u64.wrap a1) _ hy7)
  repeat' first | exact rA _ | refine parkI ?_ | (refine CallP.use c8 ?_; conv => whnf) | (refine ⟨_, _, CallP.at c8, ?_⟩; conv => whnf) | (refine ⟨_, fun _ => c8, ?_⟩; conv => whnf) | (refine W.drawnM (id := 9) 0 TT_ok hmix1 [0, 0, 0, 0, 0, 0, 0, 0, 1, 1] [1, 0, 0, 0, 0, 0, 0, 1, 1, 1] rfl ?_; conv => whnf) | exact clA _ | (refine And.intro ?_ ?_ <;> conv => whnf) | exact clG _ | (refine gand ?_ h; assumption) | exact clN _ | fail
  refine parkE (fun hc => ?_) (fun hc => ?_)
  ·replace h := condT hc h
   conv => whnf
   cases h
  ·replace h := condF hc h
   conv => whnf
   replace h := grdS h
   obtain ⟨g9, h⟩ := h
   repeat' first | exact rA _ | refine parkI ?_ | exact g9 | (refine W.drawnM (id := 9) 0 TT_ok hmix1 [0, 0, 0, 0, 0, 0, 0, 0, 1, 1] [1, 0, 0, 0, 0, 0, 0, 1, 1, 1] rfl ?_; conv => whnf) | exact clA _ | (refine And.intro ?_ ?_ <;> conv => whnf) | exact clG _ | (refine gand ?_ h; assumption) | exact clN _ | fail
   replace h := aftS h
   obtain ⟨O34, hO34, r34⟩ := h
   refine LoopW.norm [(7, (LV.sl 0 0 ((((min a0.length (List.replicate ((IntKind.i64.wrap y7.2)).toNat 0).length : Nat) : Int), (a0.take (List.replicate ((IntKind.i64.wrap y7.2)).toNat 0).length ++ (List.replicate ((IntKind.i64.wrap y7.2)).toNat 0).drop a0.length)).2.map iC).length)), (8, (I (((min a0.length (List.replicate ((IntKind.i64.wrap y7.2)).toNat 0).length : Nat) : Int), (a0.take (List.replicate ((IntKind.i64.wrap y7.2)).toNat 0).length ++ (List.replicate ((IntKind.i64.wrap y7.2)).toNat 0).drop a0.length)).1))] 1 [(0, (.row 3 1 ((((min a0.length (List.replicate ((IntKind.i64.wrap y7.2)).toNat 0).length : Nat) : Int), (a0.take (List.replicate ((IntKind.i64.wrap y7.2)).toNat 0).length ++ (List.replicate ((IntKind.i64.wrap y7.2)).toNat 0).drop a0.length)).2.map iC)))] ⟨(by exact congrArg (LV.sl 0 0) (clL _ : ((IntKind.i64.wrap y7.2)).toNat = ((((min a0.length (List.replicate ((IntKind.i64.wrap y7.2)).toNat 0).length : Nat) : Int), (a0.take (List.replicate ((IntKind.i64.wrap y7.2)).toNat 0).length ++ (List.replicate ((IntKind.i64.wrap y7.2)).toNat 0).drop a0.length)).2.map iC).length)), (smT : ((I ((min (a0.map iC).length (List.replicate ((IntKind.i64.wrap y7.2)).toNat [(I 0)]).length : Nat) : Int)) : LV) = (I (((min a0.length (List.replicate ((IntKind.i64.wrap y7.2)).toNat 0).length : Nat) : Int), (a0.take (List.replicate ((IntKind.i64.wrap y7.2)).toNat 0).length ++ (List.replicate ((IntKind.i64.wrap y7.2)).toNat 0).drop a0.length)).1)), trivial⟩ ⟨⟨(by first | exact (congrArg (fun q => some (Blk.row 3 1 q)) (smT : (((a0.map iC).take (List.replicate ((IntKind.i64.wrap y7.2)).toNat [(I 0)]).length ++ (List.replicate ((IntKind.i64.wrap y7.2)).toNat [(I 0)]).drop (a0.map iC).length) : List (List LV)) = ((((min a0.length (List.replicate ((IntKind.i64.wrap y7.2)).toNat 0).length : Nat) : Int), (a0.take (List.replicate ((IntKind.i64.wrap y7.2)).toNat 0).length ++ (List.replicate ((IntKind.i64.wrap y7.2)).toNat 0).drop a0.length)).2.map iC))) | exact Eq.trans (b := some (Blk.row 3 1 ((a0.map iC).take (List.replicate ((IntKind.i64.wrap y7.2)).toNat [(I 0)]).length ++ (List.replicate ((IntKind.i64.wrap y7.2)).toNat [(I 0)]).drop (a0.map iC).length))) rfl (congrArg (fun q => some (Blk.row 3 1 q)) (smT : (((a0.map iC).take (List.replicate ((IntKind.i64.wrap y7.2)).toNat [(I 0)]).length ++ (List.replicate ((IntKind.i64.wrap y7.2)).toNat [(I 0)]).drop (a0.map iC).length) : List (List LV)) = ((((min a0.length (List.replicate ((IntKind.i64.wrap y7.2)).toNat 0).length : Nat) : Int), (a0.take (List.replicate ((IntKind.i64.wrap y7.2)).toNat 0).length ++ (List.replicate ((IntKind.i64.wrap y7.2)).toNat 0).drop a0.length)).2.map iC)))), rfl, NLss_bel nlT⟩, trivial⟩ blT rfl ?_
   refine LoopW.forF (fun s34 => [(7, (LV.sl 0 0 (s34.2.map iC).length)), (8, (I s34.1))]) (fun s34 => ⟨1, [(0, (.row 3 1 (s34.2.map iC)))]⟩) hO34 (fun s34 o34 b34 K34 hret34 hbrk34 => ?_)
   unfold slices_Repeat_int_c0 at b34
   refine LoopW.round TT_ok [0, 1, 4, 5, 6, 7, 8, 10, 26, 37] ?_
   conv => whnf
   repeat' first | exact rA _ | refine parkI ?_ | (refine W.drawnM (id := 9) 0 TT_ok hmix1 [0, 0, 0, 0, 0, 0, 0, 0, 1, 1] [1, 0, 0, 0, 0, 0, 0, 1, 1, 1] rfl ?_; conv => whnf) | exact clA _ | (refine And.intro ?_ ?_ <;> conv => whnf) | exact clG _ | (refine gand ?_ h; assumption) | exact clN _ | fail
   refine parkE (fun hc => ?_) (fun hc => ?_)
   ·replace b34 := condT (by first | exact hc | (simpa only [se_len, se_ch, List.length_map] using hc; done) | (have h0 : (decide (s34.1 < (((s34.2.map iC).length : Nat) : Int))) = true := hc; simpa only [se_len, se_ch, List.length_map] using h0)) b34
    conv => whnf
    replace b34 := grdS b34
    obtain ⟨g10, b34⟩ := b34
    replace g10 : (0 : Int) ≤ s34.1 ∧ s34.1 < (((s34.2.map iC).length : Nat) : Int) := by simpa only [se_len, se_ch, List.length_map] using g10
    replace b34 := grdS b34
    obtain ⟨g11, b34⟩ := b34
    replace g11 : (0 : Int) ≤ s34.1 ∧ s34.1 ≤ (((s34.2.map iC).length : Nat) : Int) := by simpa only [se_len, se_ch, List.length_map] using g11
    have l12 : (0 + (s34.1 : Int).toNat) + ((s34.2.map iC).length - (s34.1 : Int).toNat) = (s34.2.map iC).length := by (try simp only [se_len, se_ch, List.length_map]); (try simp only [se_len, se_ch, List.length_map] at *); omega
    have l13 : (s34.1 : Int).toNat ≤ (s34.2.map iC).length := by (try simp only [se_len, se_ch, List.length_map]); (try simp only [se_len, se_ch, List.length_map] at *); omega
    repeat' first | exact rA _ | refine parkI ?_ | exact g10 | exact g11 | exact l12 | exact l13 | (refine W.drawnM (id := 9) 0 TT_ok hmix1 [0, 0, 0, 0, 0, 0, 0, 0, 1, 1] [1, 0, 0, 0, 0, 0, 0, 1, 1, 1] rfl ?_; conv => whnf) | exact clA _ | (refine And.intro ?_ ?_ <;> conv => whnf) | exact clG _ | (refine gand ?_ h; assumption) | exact clN _ | fail
    have e := Option.some.inj b34
    refine LoopW.norm [(7, (LV.sl 0 0 (((IntKind.i64.wrap (s34.1 + ((min (s34.1 : Int).toNat (s34.2.length - (s34.1 : Int).toNat) : Nat) : Int))), (s34.2.take (s34.1 : Int).toNat ++ s34.2.take (min (s34.1 : Int).toNat (s34.2.length - (s34.1 : Int).toNat)) ++ s34.2.drop ((s34.1 : Int).toNat + min (s34.1 : Int).toNat (s34.2.length - (s34.1 : Int).toNat)))).2.map iC).length)), (8, (I ((IntKind.i64.wrap (s34.1 + ((min (s34.1 : Int).toNat (s34.2.length - (s34.1 : Int).toNat) : Nat) : Int))), (s34.2.take (s34.1 : Int).toNat ++ s34.2.take (min (s34.1 : Int).toNat (s34.2.length - (s34.1 : Int).toNat)) ++ s34.2.drop ((s34.1 : Int).toNat + min (s34.1 : Int).toNat (s34.2.length - (s34.1 : Int).toNat)))).1))] 1 [(0, (.row 3 1 (((IntKind.i64.wrap (s34.1 + ((min (s34.1 : Int).toNat (s34.2.length - (s34.1 : Int).toNat) : Nat) : Int))), (s34.2.take (s34.1 : Int).toNat ++ s34.2.take (min (s34.1 : Int).toNat (s34.2.length - (s34.1 : Int).toNat)) ++ s34.2.drop ((s34.1 : Int).toNat + min (s34.1 : Int).toNat (s34.2.length - (s34.1 : Int).toNat)))).2.map iC)))] ⟨(by exact congrArg (LV.sl 0 0) (clL _ : (s34.2.map iC).length = (((IntKind.i64.wrap (s34.1 + ((min (s34.1 : Int).toNat (s34.2.length - (s34.1 : Int).toNat) : Nat) : Int))), (s34.2.take (s34.1 : Int).toNat ++ s34.2.take (min (s34.1 : Int).toNat (s34.2.length - (s34.1 : Int).toNat)) ++ s34.2.drop ((s34.1 : Int).toNat + min (s34.1 : Int).toNat (s34.2.length - (s34.1 : Int).toNat)))).2.map iC).length)), (smT : ((I (IntKind.i64.wrap (s34.1 + ((min (s34.1 : Int).toNat ((s34.2.map iC).length - (s34.1 : Int).toNat) : Nat) : Int)))) : LV) = (I ((IntKind.i64.wrap (s34.1 + ((min (s34.1 : Int).toNat (s34.2.length - (s34.1 : Int).toNat) : Nat) : Int))), (s34.2.take (s34.1 : Int).toNat ++ s34.2.take (min (s34.1 : Int).toNat (s34.2.length - (s34.1 : Int).toNat)) ++ s34.2.drop ((s34.1 : Int).toNat + min (s34.1 : Int).toNat (s34.2.length - (s34.1 : Int).toNat)))).1)), trivial⟩ ⟨⟨(by first | exact (congrArg (fun q => some (Blk.row 3 1 q)) (by first | (simp only [se_map, se_byL, se_len, se_ch, List.length_map]; done) | (simp only [se_map, se_byL, se_len, se_ch, List.length_map, Nat.zero_add]; done) : (((s34.2.map iC).take (0 + (s34.1 : Int).toNat) ++ (s34.2.map iC).take (min (s34.1 : Int).toNat ((s34.2.map iC).length - (s34.1 : Int).toNat)) ++ (s34.2.map iC).drop ((0 + (s34.1 : Int).toNat) + min (s34.1 : Int).toNat ((s34.2.map iC).length - (s34.1 : Int).toNat))) : List (List LV)) = (((IntKind.i64.wrap (s34.1 + ((min (s34.1 : Int).toNat (s34.2.length - (s34.1 : Int).toNat) : Nat) : Int))), (s34.2.take (s34.1 : Int).toNat ++ s34.2.take (min (s34.1 : Int).toNat (s34.2.length - (s34.1 : Int).toNat)) ++ s34.2.drop ((s34.1 : Int).toNat + min (s34.1 : Int).toNat (s34.2.length - (s34.1 : Int).toNat)))).2.map iC))) | exact Eq.trans (b := some (Blk.row 3 1 ((s34.2.map iC).take (0 + (s34.1 : Int).toNat) ++ (s34.2.map iC).take (min (s34.1 : Int).toNat ((s34.2.map iC).length - (s34.1 : Int).toNat)) ++ (s34.2.map iC).drop ((0 + (s34.1 : Int).toNat) + min (s34.1 : Int).toNat ((s34.2.map iC).length - (s34.1 : Int).toNat))))) rfl (congrArg (fun q => some (Blk.row 3 1 q)) (by first | (simp only [se_map, se_byL, se_len, se_ch, List.length_map]; done) | (simp only [se_map, se_byL, se_len, se_ch, List.length_map, Nat.zero_add]; done) : (((s34.2.map iC).take (0 + (s34.1 : Int).toNat) ++ (s34.2.map iC).take (min (s34.1 : Int).toNat ((s34.2.map iC).length - (s34.1 : Int).toNat)) ++ (s34.2.map iC).drop ((0 + (s34.1 : Int).toNat) + min (s34.1 : Int).toNat ((s34.2.map iC).length - (s34.1 : Int).toNat))) : List (List LV)) = (((IntKind.i64.wrap (s34.1 + ((min (s34.1 : Int).toNat (s34.2.length - (s34.1 : Int).toNat) : Nat) : Int))), (s34.2.take (s34.1 : Int).toNat ++ s34.2.take (min (s34.1 : Int).toNat (s34.2.length - (s34.1 : Int).toNat)) ++ s34.2.drop ((s34.1 : Int).toNat + min (s34.1 : Int).toNat (s34.2.length - (s34.1 : Int).toNat)))).2.map iC)))), rfl, NLss_bel nlT⟩, trivial⟩ blT rfl (K34 _ e.symm)
   ·replace b34 := condF (by first | exact hc | (simpa only [se_len, se_ch, List.length_map] using hc; done) | (have h0 : (decide (s34.1 < (((s34.2.map iC).length : Nat) : Int))) = false := hc; simpa only [se_len, se_ch, List.length_map] using h0)) b34
    conv => whnf
    have e := Option.some.inj b34
    replace e := hbrk34 _ e.symm
    rw [e] at r34
    dsimp only [aftM] at r34
    have e := Option.some.inj r34
    subst e
    repeat' first | exact rA _ | exact Or.inr ⟨_, rfl, congrArg (fun q => some (Blk.row 3 1 q)) rfl⟩ | (refine W.drawnM (id := 9) 0 TT_ok hmix1 [0, 0, 0, 0, 0, 0, 0, 0, 1, 1] [1, 0, 0, 0, 0, 0, 0, 1, 1, 1] rfl ?_; conv => whnf) | exact clA _ | (refine And.intro ?_ ?_ <;> conv => whnf) | exact clG _ | (refine gand ?_ h; assumption) | exact clN _ | fail

theorem c_slices_Repeat_int (a0 : (List Int)) (a1 : Int) (r : (List Int)) (h : slices_Repeat_int a0 a1 = some r) : CallP Try.prog 75 [(LV.ro 1 (a0.map iC)), (I a1)] (LV.ro 1 (r.map iC)) := by
 exact CallF.toP (cf_slices_Repeat_int a0 a1 r h) nlA (NLss_map' _)

def flood_opens_c0 (a1 : (List (List Bool))) (a2 : Int) (k36 : Nat) (x36 : LinkT) (s36 : (List Int)) : Option (Step (List Int) (List Int)) :=
 (gd x36.Up (gix a1 a2)).bind fun v14 =>
 (gd x36.Up (gix v14 ((k36 : Nat) : Int))).bind fun v16 =>
 (bif (bif x36.Up then v16 else false) then
  grd (fits ((s36 ++ ([x36.Seg] : (List Int))) : List Int).length 8) <|
  some (.nxt (s36 ++ ([x36.Seg] : (List Int))))
 else
  some (.nxt s36))

def flood_opens (a0 : LanT) (a1 : (List (List Bool))) (a2 : Int) : Option (List Int) :=
 (gix a0.Plans a2).bind fun v12 =>
 aft (rangeL (flood_opens_c0 a1 a2) v12.Ports ([] : (List Int))) fun s36 =>
 some s36

theorem cf_flood_opens (a0 : LanT) (a1 : (List (List Bool))) (a2 : Int) (r : (List Int)) (h : flood_opens a0 a1 a2 = some r) : CallF Try.prog 50 [(LV.agg [(I a0.Segs), (LV.ro 2 (a0.Plans.map PlanT.cells)), (LV.ro 2 (a0.Hosts.map HostT.cells))]), (LV.ro 1 (a1.map (roC 1 bC))), (I a2)] 3 1 (r.map iC) := by
 unfold flood_opens at h
 refine CallF.of (NLss_map' _) (CallW.intro TT_ok Try.func50 rfl rfl [0, 1, 2, 3, 6, 7, 8, 9, 15, 16, 17, 18, 32] rfl ?_)
 conv => whnf
 replace h := bindS h
 obtain ⟨v12, hv12, h⟩ := h
 have i13 := gixF (f := PlanT.cells) hv12
 repeat' first | exact rA _ | refine parkI ?_ | (refine ⟨_, i13, ?_⟩; conv => whnf) | (refine And.intro ?_ ?_ <;> conv => whnf) | fail
 replace h := aftS h
 obtain ⟨O36, hO36, r36⟩ := h
 refine LoopW.virt 7 3 1 rfl ?_
 refine LoopW.norm [(1, (LV.ro 1 (a1.map (roC 1 bC)))), (2, (I a2)), (7, (LV.sl 1 0 (([] : (List Int)).map iC).length)), (15, (LV.ro 3 (v12.Ports.map LinkT.cells))), (16, (I (((v12.Ports.map LinkT.cells).length : Nat) : Int))), (17, (I ((0 : Nat) : Int)))] 2 [(1, (.row 3 1 (([] : (List Int)).map iC)))] ⟨rfl, rfl, (by exact congrArg (LV.sl 1 0) (clL _ : 0 = (([] : (List Int)).map iC).length)), rfl, rfl, rfl, trivial⟩ ⟨⟨(congrArg (fun q => some (Blk.row 3 1 q)) (smT : ([] : List (List LV)) = (([] : (List Int)).map iC))), rfl, NLss_bel (NLss_map' _)⟩, trivial⟩ blT rfl ?_
 refine LoopW.forR (fun k36 s36 => [(1, (LV.ro 1 (a1.map (roC 1 bC)))), (2, (I a2)), (7, (LV.sl 1 0 (s36.map iC).length)), (15, (LV.ro 3 (v12.Ports.map LinkT.cells))), (16, (I (((v12.Ports.map LinkT.cells).length : Nat) : Int))), (17, (I ((k36 : Nat) : Int)))]) (fun s36 => ⟨2, [(1, (.row 3 1 (s36.map iC)))]⟩) hO36 (fun hl36 s36 hs36 => ?_) (fun hl36 k36 x36 s36 o36 hk36 hx36 b36 K36 hret36 hbrk36 => ?_)
 ·rw [hs36] at r36
  dsimp only [aftM] at r36
  have hd : decide (((v12.Ports.length : Nat) : Int) < (((v12.Ports.map LinkT.cells).length : Nat) : Int)) = false := by rw [decide_eq_false_iff_not]; (try simp only [se_len, se_ch, List.length_map]); omega
  refine LoopW.round TT_ok [0, 1, 2, 3, 6, 7, 8, 9, 15, 16, 17, 18, 32] ?_
  conv => whnf
  repeat' first | exact rA _ | refine parkI ?_ | (refine And.intro ?_ ?_ <;> conv => whnf) | fail
  refine parkE (fun hc => ?_) (fun hc => ?_)
  ·exact (Bool.false_ne_true (hd.symm.trans hc)).elim
  ·clear hd
   conv => whnf
   have e := Option.some.inj r36
   subst e
   repeat' first | exact rA _ | exact Or.inr ⟨_, rfl, congrArg (fun q => some (Blk.row 3 1 q)) rfl⟩ | exact clA _ | (refine And.intro ?_ ?_ <;> conv => whnf) | exact clG _ | (refine gand ?_ h; assumption) | exact clN _ | fail
 ·unfold flood_opens_c0 at b36
  have hd : decide (((k36 : Nat) : Int) < (((v12.Ports.map LinkT.cells).length : Nat) : Int)) = true := by rw [decide_eq_true_eq]; (try simp only [se_len, se_ch, List.length_map] at hk36); (try simp only [se_len, se_ch, List.length_map]); omega
  refine LoopW.round TT_ok [0, 1, 2, 3, 6, 7, 8, 9, 15, 16, 17, 18, 32] ?_
  conv => whnf
  repeat' first | exact rA _ | refine parkI ?_ | (refine And.intro ?_ ?_ <;> conv => whnf) | fail
  refine parkE (fun hc => ?_) (fun hc => ?_)
  ·clear hd
   conv => whnf
   replace b36 := bindS b36
   obtain ⟨v14, hv14, b36⟩ := b36
   have i15 := fun hg => gixF (f := (roC 1 bC)) (gdS hg hv14)
   replace b36 := bindS b36
   obtain ⟨v16, hv16, b36⟩ := b36
   have i17 := fun hg => gixF (f := bC) (gdS hg hv16)
   repeat' first | exact rA _ | refine parkI ?_ | (refine ⟨_, (kixF (f := LinkT.cells) hx36), ?_⟩; conv => whnf) | (refine ⟨_, i15, ?_⟩; conv => whnf) | (refine ⟨_, i17, ?_⟩; conv => whnf) | exact clA _ | (refine And.intro ?_ ?_ <;> conv => whnf) | exact clG _ | (refine gand ?_ h; assumption) | fail
   refine parkE (fun hc => ?_) (fun hc => ?_)
   ·replace b36 := condT hc b36
    conv => whnf
    replace b36 := grdS b36
    obtain ⟨g18, b36⟩ := b36
    replace g18 : fits (((s36.map iC) ++ [[(I x36.Seg)]])).length 8 := by simpa only [se_len, se_ch, List.length_map] using g18
    repeat' first | exact rA _ | refine parkI ?_ | exact g18 | exact clA _ | (refine And.intro ?_ ?_ <;> conv => whnf) | exact clN _ | fail
    have e := Option.some.inj b36
    refine LoopW.ren [(4, 1)] [(1, (LV.ro 1 (a1.map (roC 1 bC)))), (2, (I a2)), (7, (LV.sl 1 0 ((s36 ++ ([x36.Seg] : (List Int))).map iC).length)), (15, (LV.ro 3 (v12.Ports.map LinkT.cells))), (16, (I (((v12.Ports.map LinkT.cells).length : Nat) : Int))), (17, (I ((k36 + 1 : Nat) : Int)))] 2 [(1, (.row 3 1 ((s36 ++ ([x36.Seg] : (List Int))).map iC)))] rfl ⟨rfl, rfl, (by exact congrArg (LV.sl 1 0) (clL _ : (((s36.map iC) ++ [[(I x36.Seg)]])).length = ((s36 ++ ([x36.Seg] : (List Int))).map iC).length)), rfl, rfl, (congrArg (LV.int .i64) (w64_nat _ (by omega))), trivial⟩ ⟨⟨rfl, rfl, .inl ⟨(smT : (((s36.map iC) ++ [[(I x36.Seg)]]) : List (List LV)) = ((s36 ++ ([x36.Seg] : (List Int))).map iC)), nlT⟩⟩, rfl, rfl, trivial⟩ rfl (K36 _ e.symm)
   ·replace b36 := condF hc b36
    conv => whnf
    repeat' first | exact rA _ | refine parkI ?_ | (refine And.intro ?_ ?_ <;> conv => whnf) | fail
    have e := Option.some.inj b36
    refine LoopW.norm [(1, (LV.ro 1 (a1.map (roC 1 bC)))), (2, (I a2)), (7, (LV.sl 1 0 (s36.map iC).length)), (15, (LV.ro 3 (v12.Ports.map LinkT.cells))), (16, (I (((v12.Ports.map LinkT.cells).length : Nat) : Int))), (17, (I ((k36 + 1 : Nat) : Int)))] 2 [(1, (.row 3 1 (s36.map iC)))] ⟨rfl, rfl, rfl, rfl, rfl, (congrArg (LV.int .i64) (w64_nat _ (by omega))), trivial⟩ ⟨⟨rfl, rfl, NLss_bel (NLss_map' _)⟩, trivial⟩ blT rfl (K36 _ e.symm)
  ·exact (Bool.false_ne_true (hc.symm.trans hd)).elim

theorem c_flood_opens (a0 : LanT) (a1 : (List (List Bool))) (a2 : Int) (r : (List Int)) (h : flood_opens a0 a1 a2 = some r) : CallP Try.prog 50 [(LV.agg [(I a0.Segs), (LV.ro 2 (a0.Plans.map PlanT.cells)), (LV.ro 2 (a0.Hosts.map HostT.cells))]), (LV.ro 1 (a1.map (roC 1 bC))), (I a2)] (LV.ro 1 (r.map iC)) := by
 exact CallF.toP (cf_flood_opens a0 a1 a2 r h) nlA (NLss_map' _)

def flood_neighbours_c0 (a0 : LanT) (a1 : (List (List Bool))) (k35 : Nat) (x35 : PlanT) (s35 : (List (List Int))) : Option (Step (List (List Int)) (List (List Int))) :=
 (flood_opens a0 a1 ((k35 : Nat) : Int)).bind fun y12 =>
 grd (fits ((s35 ++ ([y12] : (List (List Int)))) : List (List Int)).length 24) <|
 some (.nxt (s35 ++ ([y12] : (List (List Int)))))

def flood_neighbours (a0 : LanT) (a1 : (List (List Bool))) : Option (List (List Int)) :=
 aft (rangeL (flood_neighbours_c0 a0 a1) a0.Plans ([] : List (List Int))) fun s35 =>
 some s35

theorem c_flood_neighbours (a0 : LanT) (a1 : (List (List Bool))) (r : (List (List Int))) (h : flood_neighbours a0 a1 = some r) : CallP Try.prog 76 [(LV.agg [(I a0.Segs), (LV.ro 2 (a0.Plans.map PlanT.cells)), (LV.ro 2 (a0.Hosts.map HostT.cells))]), (LV.ro 1 (a1.map (roC 1 bC)))] (LV.func (.func 92) [] [(LV.rptr [(LV.ro 1 (r.map (roC 1 iC)))])]) := by
 unfold flood_neighbours at h
 refine .intro nlA (.intro TT_ok Try.func76 rfl rfl [0, 1, 2, 4, 5, 6, 9, 10, 11] rfl ?_)
 conv => whnf
 repeat' first | exact rA _ | refine parkI ?_ | (refine W.drawnM (id := 5) 0 TT_ok hmix1 [0, 0, 0, 0, 0, 0, 1, 2] [1, 0, 0, 0, 0, 1, 2, 3] rfl ?_; conv => whnf) | exact clA _ | (refine And.intro ?_ ?_ <;> conv => whnf) | exact clG _ | (refine gand ?_ h; assumption) | exact clN _ | fail
 replace h := aftS h
 obtain ⟨O35, hO35, r35⟩ := h
 refine LoopW.virtB 1 37 47 1 rfl rfl ?_
 refine LoopW.norm [(1, (LV.ro 1 (a1.map (roC 1 bC)))), (2, (LV.ptr 0 0 0)), (5, (LV.ptr 1 0 0)), (9, (I (((a0.Plans.map PlanT.cells).length : Nat) : Int))), (10, (I ((0 : Nat) : Int)))] 3 [(0, (.row 25 3 [[(I a0.Segs), (LV.ro 2 (a0.Plans.map PlanT.cells)), (LV.ro 2 (a0.Hosts.map HostT.cells))]])), (1, (.row 37 1 [[(LV.sl 2 0 (([] : List (List Int)).map (roC 1 iC)).length)]])), (2, (.row 47 1 (([] : List (List Int)).map (roC 1 iC))))] ⟨rfl, rfl, rfl, rfl, rfl, trivial⟩ ⟨⟨rfl, rfl, blT⟩, ⟨⟨(congrArg (fun q => some (Blk.row 37 1 q)) (by first | (simp only [se_map, se_byL, se_len, se_ch, List.length_map]; done) | (simp only [se_map, se_byL, se_len, se_ch, List.length_map, roC]; done) : ([[(LV.sl 2 0 0)]] : List (List LV)) = [[(LV.sl 2 0 (([] : List (List Int)).map (roC 1 iC)).length)]])), rfl, blT⟩, ⟨⟨(congrArg (fun q => some (Blk.row 47 1 q)) (by first | (simp only [se_map, se_byL, se_len, se_ch, List.length_map]; done) | (simp only [se_map, se_byL, se_len, se_ch, List.length_map, roC]; done) : ([] : List (List LV)) = (([] : List (List Int)).map (roC 1 iC)))), rfl, NLss_bel (NLss_map' _)⟩, trivial⟩⟩⟩ blT rfl ?_
 refine LoopW.forR (fun k35 s35 => [(1, (LV.ro 1 (a1.map (roC 1 bC)))), (2, (LV.ptr 0 0 0)), (5, (LV.ptr 1 0 0)), (9, (I (((a0.Plans.map PlanT.cells).length : Nat) : Int))), (10, (I ((k35 : Nat) : Int)))]) (fun s35 => ⟨3, [(0, (.row 25 3 [[(I a0.Segs), (LV.ro 2 (a0.Plans.map PlanT.cells)), (LV.ro 2 (a0.Hosts.map HostT.cells))]])), (1, (.row 37 1 [[(LV.sl 2 0 (s35.map (roC 1 iC)).length)]])), (2, (.row 47 1 (s35.map (roC 1 iC))))]⟩) hO35 (fun hl35 s35 hs35 => ?_) (fun hl35 k35 x35 s35 o35 hk35 hx35 b35 K35 hret35 hbrk35 => ?_)
 ·rw [hs35] at r35
  dsimp only [aftM] at r35
  have hd : decide (((a0.Plans.length : Nat) : Int) < (((a0.Plans.map PlanT.cells).length : Nat) : Int)) = false := by rw [decide_eq_false_iff_not]; (try simp only [se_len, se_ch, List.length_map]); omega
  refine LoopW.round TT_ok [0, 1, 2, 4, 5, 6, 9, 10, 11] ?_
  conv => whnf
  repeat' first | exact rA _ | refine parkI ?_ | (refine W.drawnM (id := 5) 0 TT_ok hmix1 [0, 0, 0, 0, 0, 0, 1, 2] [1, 0, 0, 0, 0, 1, 2, 3] rfl ?_; conv => whnf) | exact clA _ | (refine And.intro ?_ ?_ <;> conv => whnf) | exact clG _ | (refine gand ?_ h; assumption) | exact clN _ | fail
  refine parkE (fun hc => ?_) (fun hc => ?_)
  ·exact (Bool.false_ne_true (hd.symm.trans hc)).elim
  ·clear hd
   conv => whnf
   have e := Option.some.inj r35
   subst e
   repeat' first | exact rA _ | (refine W.drawnM (id := 5) 0 TT_ok hmix1 [0, 0, 0, 0, 0, 0, 1, 2] [1, 0, 0, 0, 0, 1, 2, 3] rfl ?_; conv => whnf) | exact clA _ | (refine And.intro ?_ ?_ <;> conv => whnf) | exact clG _ | (refine gand ?_ h; assumption) | exact clN _ | fail
 ·unfold flood_neighbours_c0 at b35
  have hd : decide (((k35 : Nat) : Int) < (((a0.Plans.map PlanT.cells).length : Nat) : Int)) = true := by rw [decide_eq_true_eq]; (try simp only [se_len, se_ch, List.length_map] at hk35); (try simp only [se_len, se_ch, List.length_map]); omega
  refine LoopW.round TT_ok [0, 1, 2, 4, 5, 6, 9, 10, 11] ?_
  conv => whnf
  repeat' first | exact rA _ | refine parkI ?_ | (refine W.drawnM (id := 5) 0 TT_ok hmix1 [0, 0, 0, 0, 0, 0, 1, 2] [1, 0, 0, 0, 0, 1, 2, 3] rfl ?_; conv => whnf) | exact clA _ | (refine And.intro ?_ ?_ <;> conv => whnf) | exact clG _ | (refine gand ?_ h; assumption) | exact clN _ | fail
  refine parkE (fun hc => ?_) (fun hc => ?_)
  ·clear hd
   conv => whnf
   replace b35 := bindS b35
   obtain ⟨y12, hy12, b35⟩ := b35
   have c13 := c_flood_opens a0 a1 ((k35 : Nat) : Int) _ hy12
   replace b35 := grdS b35
   obtain ⟨g14, b35⟩ := b35
   replace g14 : fits (((s35.map (roC 1 iC)) ++ [[(LV.ro 1 (y12.map iC))]])).length 24 := by simpa only [se_len, se_ch, List.length_map] using g14
   repeat' first | exact rA _ | refine parkI ?_ | exact g14 | (refine CallP.use c13 ?_; conv => whnf) | (refine ⟨_, _, CallP.at c13, ?_⟩; conv => whnf) | (refine ⟨_, fun _ => c13, ?_⟩; conv => whnf) | (refine W.drawnM (id := 5) 0 TT_ok hmix1 [0, 0, 0, 0, 0, 0, 1, 2] [1, 0, 0, 0, 0, 1, 2, 3] rfl ?_; conv => whnf) | exact clA _ | (refine And.intro ?_ ?_ <;> conv => whnf) | exact clG _ | (refine gand ?_ h; assumption) | exact clN _ | fail
   have e := Option.some.inj b35
   refine LoopW.ren [(0, 0), (1, 1), (4, 2)] [(1, (LV.ro 1 (a1.map (roC 1 bC)))), (2, (LV.ptr 0 0 0)), (5, (LV.ptr 1 0 0)), (9, (I (((a0.Plans.map PlanT.cells).length : Nat) : Int))), (10, (I ((k35 + 1 : Nat) : Int)))] 3 [(0, (.row 25 3 [[(I a0.Segs), (LV.ro 2 (a0.Plans.map PlanT.cells)), (LV.ro 2 (a0.Hosts.map HostT.cells))]])), (1, (.row 37 1 [[(LV.sl 2 0 ((s35 ++ ([y12] : (List (List Int)))).map (roC 1 iC)).length)]])), (2, (.row 47 1 ((s35 ++ ([y12] : (List (List Int)))).map (roC 1 iC))))] rfl ⟨rfl, rfl, rfl, rfl, (congrArg (LV.int .i64) (w64_nat _ (by omega))), trivial⟩ ⟨⟨rfl, rfl, .inl ⟨rfl, nlT⟩⟩, rfl, rfl, ⟨⟨rfl, rfl, .inr (by first | exact rfl | (show ([[(LV.sl 2 0 (((s35.map (roC 1 iC)) ++ [[(LV.ro 1 (y12.map iC))]])).length)]] : List (List LV)) = [[(LV.sl 2 0 ((s35 ++ ([y12] : (List (List Int)))).map (roC 1 iC)).length)]]; exact smT))⟩, rfl, rfl, ⟨⟨rfl, rfl, .inl ⟨(by first | (simp only [se_map, se_byL, se_len, se_ch, List.length_map]; done) | (simp only [se_map, se_byL, se_len, se_ch, List.length_map, roC]; done) : (((s35.map (roC 1 iC)) ++ [[(LV.ro 1 (y12.map iC))]]) : List (List LV)) = ((s35 ++ ([y12] : (List (List Int)))).map (roC 1 iC))), nlT⟩⟩, rfl, rfl, trivial⟩⟩⟩ rfl (K35 _ e.symm)
  ·exact (Bool.false_ne_true (hc.symm.trans hd)).elim

def slices_Compact_int_c1 (s39 : (Int × (List Int))) (s40 : (Int × Int × (List Int))) : Option (Step (Step (List Int) (Int × (List Int))) (Int × Int × (List Int))) :=
 (bif (decide (s40.2.1 < (((s40.2.2.length - (s39.1 : Int).toNat) : Nat) : Int))) then
  grd ((0 : Int) ≤ s40.2.1 ∧ s40.2.1 < (((s40.2.2.length - (s39.1 : Int).toNat) : Nat) : Int)) <|
  (gixN s40.2.2 ((s39.1 : Int).toNat + (s40.2.1 : Int).toNat)).bind fun v31 =>
  grd ((0 : Int) ≤ (IntKind.i64.wrap (s40.2.1 - 1)) ∧ (IntKind.i64.wrap (s40.2.1 - 1)) < (((s40.2.2.length - (s39.1 : Int).toNat) : Nat) : Int)) <|
  (gixN s40.2.2 ((s39.1 : Int).toNat + ((IntKind.i64.wrap (s40.2.1 - 1)) : Int).toNat)).bind fun v34 =>
  (bif (!decide (v31 = v34)) then
   grd ((0 : Int) ≤ s40.2.1 ∧ s40.2.1 < (((s40.2.2.length - (s39.1 : Int).toNat) : Nat) : Int)) <|
   grd ((0 : Int) ≤ s40.1 ∧ s40.1 < ((s40.2.2.length : Nat) : Int)) <|
   (gixN s40.2.2 (s40.1 : Int).toNat).bind fun v38 =>
   some (.nxt ((IntKind.i64.wrap (s40.1 + 1)), (IntKind.i64.wrap (s40.2.1 + 1)), (s40.2.2.set (s40.1 : Int).toNat v31)))
  else
   some (.nxt (s40.1, (IntKind.i64.wrap (s40.2.1 + 1)), s40.2.2)))
 else
  some (.brk (s40.1, s40.2.1, s40.2.2)))

def slices_Compact_int_c0  (s39 : (Int × (List Int))) : Option (Step (List Int) (Int × (List Int))) :=
 (bif (decide (s39.1 < ((s39.2.length : Nat) : Int))) then
  grd ((0 : Int) ≤ s39.1 ∧ s39.1 < ((s39.2.length : Nat) : Int)) <|
  (gixN s39.2 (s39.1 : Int).toNat).bind fun v24 =>
  grd ((0 : Int) ≤ (IntKind.i64.wrap (s39.1 - 1)) ∧ (IntKind.i64.wrap (s39.1 - 1)) < ((s39.2.length : Nat) : Int)) <|
  (gixN s39.2 ((IntKind.i64.wrap (s39.1 - 1)) : Int).toNat).bind fun v27 =>
  (bif (decide (v24 = v27)) then
   grd ((0 : Int) ≤ s39.1 ∧ s39.1 < ((s39.2.length : Nat) : Int)) <|
   aft (loopF 1000000 (slices_Compact_int_c1 s39) (s39.1, 1, s39.2)) fun s40 =>
   grd ((0 : Int) ≤ s40.1 ∧ s40.1 < ((s40.2.2.length : Nat) : Int)) <|
   grd ((0 : Int) ≤ s40.1 ∧ s40.1 ≤ ((s40.2.2.length : Nat) : Int)) <|
   some (.ret (s40.2.2.take (s40.1 : Int).toNat))
  else
   some (.nxt ((IntKind.i64.wrap (s39.1 + 1)), s39.2)))
 else
  some (.brk (s39.1, s39.2)))

def slices_Compact_int (a0 : (List Int)) : Option (List Int) :=
 (bif (decide (((a0.length : Nat) : Int) < 2)) then
  some a0
 else
  aft (loopF 1000000 (slices_Compact_int_c0 ) (1, a0)) fun s39 =>
  some s39.2)

theorem w_slices_Compact_int (a0 : (List Int)) (r : (List Int)) (h : slices_Compact_int a0 = some r) : CallW Try.prog 93 [(LV.sl 0 0 (a0.map iC).length)] ⟨1, [(0, (.row 3 1 (a0.map iC)))]⟩ (fun lv H' => lv = (LV.sl 0 0 (r.map iC).length) ∧ H' = ⟨1, [(0, (.row 3 1 (r.map iC)))]⟩) := by
 unfold slices_Compact_int at h
 refine CallW.shrink (CallW.intro TT_ok Try.func93 rfl rfl [0, 2, 3, 4, 5, 8, 13, 25, 32, 44] rfl ?_)
 conv => whnf
 repeat' first | exact rA _ | refine parkI ?_ | (refine W.drawn TT_ok hmix1 rfl ?_; conv => whnf) | exact clA _ | (refine And.intro ?_ ?_ <;> conv => whnf) | exact clG _ | (refine gand ?_ h; assumption) | exact clN _ | fail
 refine parkE (fun hc => ?_) (fun hc => ?_)
 ·replace h := condT (by first | exact hc | (simpa only [se_len, se_ch, List.length_map] using hc; done) | (have h0 : (decide ((((a0.map iC).length : Nat) : Int) < 2)) = true := hc; simpa only [se_len, se_ch, List.length_map] using h0)) h
  conv => whnf
  have e := Option.some.inj h
  subst e
  repeat' first | exact rA _ | exact ⟨[(0, (.row 3 1 (a0.map iC)))], ⟨⟨rfl, rfl, NLss_bel (NLss_map' _)⟩, trivial⟩, blT, rfl, rfl⟩ | (refine W.drawn TT_ok hmix1 rfl ?_; conv => whnf) | exact clA _ | (refine And.intro ?_ ?_ <;> conv => whnf) | exact clG _ | (refine gand ?_ h; assumption) | exact clN _ | fail
 ·replace h := condF (by first | exact hc | (simpa only [se_len, se_ch, List.length_map] using hc; done) | (have h0 : (decide ((((a0.map iC).length : Nat) : Int) < 2)) = false := hc; simpa only [se_len, se_ch, List.length_map] using h0)) h
  conv => whnf
  repeat' first | exact rA _ | refine parkI ?_ | (refine W.drawn TT_ok hmix1 rfl ?_; conv => whnf) | exact clA _ | (refine And.intro ?_ ?_ <;> conv => whnf) | exact clG _ | (refine gand ?_ h; assumption) | exact clN _ | fail
  replace h := aftS h
  obtain ⟨O39, hO39, r39⟩ := h
  refine LoopW.norm [(0, (LV.sl 0 0 ((1, a0).2.map iC).length)), (3, (I (1, a0).1))] 1 [(0, (.row 3 1 ((1, a0).2.map iC)))] ⟨(by exact congrArg (LV.sl 0 0) (clL _ : (a0.map iC).length = ((1, a0).2.map iC).length)), (smT : ((I 1) : LV) = (I (1, a0).1)), trivial⟩ ⟨⟨(congrArg (fun q => some (Blk.row 3 1 q)) (smT : ((a0.map iC) : List (List LV)) = ((1, a0).2.map iC))), rfl, NLss_bel (NLss_map' _)⟩, trivial⟩ blT rfl ?_
  refine LoopW.forF (fun s39 => [(0, (LV.sl 0 0 (s39.2.map iC).length)), (3, (I s39.1))]) (fun s39 => ⟨1, [(0, (.row 3 1 (s39.2.map iC)))]⟩) hO39 (fun s39 o39 b39 K39 hret39 hbrk39 => ?_)
  unfold slices_Compact_int_c0 at b39
  refine LoopW.round TT_ok [0, 2, 3, 4, 5, 8, 13, 25, 32, 44] ?_
  conv => whnf
  repeat' first | exact rA _ | refine parkI ?_ | (refine W.drawn TT_ok hmix1 rfl ?_; conv => whnf) | exact clA _ | (refine And.intro ?_ ?_ <;> conv => whnf) | exact clG _ | (refine gand ?_ h; assumption) | exact clN _ | fail
  refine parkE (fun hc => ?_) (fun hc => ?_)
  ·replace b39 := condT (by first | exact hc | (simpa only [se_len, se_ch, List.length_map] using hc; done) | (have h0 : (decide (s39.1 < (((s39.2.map iC).length : Nat) : Int))) = true := hc; simpa only [se_len, se_ch, List.length_map] using h0)) b39
   conv => whnf
   replace b39 := grdS b39
   obtain ⟨g23, b39⟩ := b39
   replace g23 : (0 : Int) ≤ s39.1 ∧ s39.1 < (((s39.2.map iC).length : Nat) : Int) := by simpa only [se_len, se_ch, List.length_map] using g23
   replace b39 := bindS b39
   obtain ⟨v24, hv24, b39⟩ := b39
   have i25 : nth (s39.2.map iC) (0 + ((s39.1 : Int).toNat)) = some [(I v24)] := by simpa only [se_map, se_len, se_ch, List.length_map, nth_eq, Nat.zero_add, List.getElem?_map] using gixNF (f := iC) hv24
   replace b39 := grdS b39
   obtain ⟨g26, b39⟩ := b39
   replace g26 : (0 : Int) ≤ (IntKind.i64.wrap (s39.1 - 1)) ∧ (IntKind.i64.wrap (s39.1 - 1)) < (((s39.2.map iC).length : Nat) : Int) := by simpa only [se_len, se_ch, List.length_map] using g26
   replace b39 := bindS b39
   obtain ⟨v27, hv27, b39⟩ := b39
   have i28 : nth (s39.2.map iC) (0 + (((IntKind.i64.wrap (s39.1 - 1)) : Int).toNat)) = some [(I v27)] := by simpa only [se_map, se_len, se_ch, List.length_map, nth_eq, Nat.zero_add, List.getElem?_map] using gixNF (f := iC) hv27
   repeat' first | exact rA _ | refine parkI ?_ | exact g23 | exact g26 | (rw [i25]; conv => whnf) | (rw [i28]; conv => whnf) | (refine W.drawn TT_ok hmix1 rfl ?_; conv => whnf) | exact clA _ | (refine And.intro ?_ ?_ <;> conv => whnf) | exact clG _ | (refine gand ?_ h; assumption) | exact clN _ | fail
   refine parkE (fun hc => ?_) (fun hc => ?_)
   ·replace b39 := condT hc b39
    conv => whnf
    replace b39 := grdS b39
    obtain ⟨g29, b39⟩ := b39
    replace g29 : (0 : Int) ≤ s39.1 ∧ s39.1 < (((s39.2.map iC).length : Nat) : Int) := by simpa only [se_len, se_ch, List.length_map] using g29
    repeat' first | exact rA _ | refine parkI ?_ | exact g29 | (refine W.drawn TT_ok hmix1 rfl ?_; conv => whnf) | exact clA _ | (refine And.intro ?_ ?_ <;> conv => whnf) | exact clG _ | (refine gand ?_ h; assumption) | exact clN _ | fail
    replace b39 := aftS b39
    obtain ⟨O40, hO40, r40⟩ := b39
    refine LoopW.norm [(0, (LV.sl 0 0 ((s39.1, 1, s39.2).2.2.map iC).length)), (3, (I (s39.1, 1, s39.2).1)), (4, (LV.sl 0 (0 + (s39.1 : Int).toNat) (((s39.1, 1, s39.2).2.2.map iC).length - (s39.1 : Int).toNat))), (5, (I (s39.1, 1, s39.2).2.1))] 1 [(0, (.row 3 1 ((s39.1, 1, s39.2).2.2.map iC)))] ⟨(by exact congrArg (LV.sl 0 0) (clL _ : (s39.2.map iC).length = ((s39.1, 1, s39.2).2.2.map iC).length)), (smT : ((I s39.1) : LV) = (I (s39.1, 1, s39.2).1)), (smT : ((LV.sl 0 (0 + (s39.1 : Int).toNat) ((s39.2.map iC).length - (s39.1 : Int).toNat)) : LV) = (LV.sl 0 (0 + (s39.1 : Int).toNat) (((s39.1, 1, s39.2).2.2.map iC).length - (s39.1 : Int).toNat))), (smT : ((I 1) : LV) = (I (s39.1, 1, s39.2).2.1)), trivial⟩ ⟨⟨(congrArg (fun q => some (Blk.row 3 1 q)) (smT : ((s39.2.map iC) : List (List LV)) = ((s39.1, 1, s39.2).2.2.map iC))), rfl, NLss_bel (NLss_map' _)⟩, trivial⟩ blT rfl ?_
    refine LoopW.forF (fun s40 => [(0, (LV.sl 0 0 (s40.2.2.map iC).length)), (3, (I s40.1)), (4, (LV.sl 0 (0 + (s39.1 : Int).toNat) ((s40.2.2.map iC).length - (s39.1 : Int).toNat))), (5, (I s40.2.1))]) (fun s40 => ⟨1, [(0, (.row 3 1 (s40.2.2.map iC)))]⟩) hO40 (fun s40 o40 b40 K40 hret40 hbrk40 => ?_)
    unfold slices_Compact_int_c1 at b40
    refine LoopW.round TT_ok [0, 2, 3, 4, 5, 8, 13, 25, 32, 44] ?_
    conv => whnf
    repeat' first | exact rA _ | refine parkI ?_ | (refine W.drawn TT_ok hmix1 rfl ?_; conv => whnf) | exact clA _ | (refine And.intro ?_ ?_ <;> conv => whnf) | exact clG _ | (refine gand ?_ h; assumption) | exact clN _ | fail
    refine parkE (fun hc => ?_) (fun hc => ?_)
    ·replace b40 := condT (by first | exact hc | (simpa only [se_len, se_ch, List.length_map] using hc; done) | (have h0 : (decide (s40.2.1 < ((((s40.2.2.map iC).length - (s39.1 : Int).toNat) : Nat) : Int))) = true := hc; simpa only [se_len, se_ch, List.length_map] using h0)) b40
     conv => whnf
     replace b40 := grdS b40
     obtain ⟨g30, b40⟩ := b40
     replace g30 : (0 : Int) ≤ s40.2.1 ∧ s40.2.1 < ((((s40.2.2.map iC).length - (s39.1 : Int).toNat) : Nat) : Int) := by simpa only [se_len, se_ch, List.length_map] using g30
     replace b40 := bindS b40
     obtain ⟨v31, hv31, b40⟩ := b40
     have i32 : nth (s40.2.2.map iC) ((0 + (s39.1 : Int).toNat) + ((s40.2.1 : Int).toNat)) = some [(I v31)] := by simpa only [se_map, se_len, se_ch, List.length_map, nth_eq, Nat.zero_add, List.getElem?_map] using gixNF (f := iC) hv31
     replace b40 := grdS b40
     obtain ⟨g33, b40⟩ := b40
     replace g33 : (0 : Int) ≤ (IntKind.i64.wrap (s40.2.1 - 1)) ∧ (IntKind.i64.wrap (s40.2.1 - 1)) < ((((s40.2.2.map iC).length - (s39.1 : Int).toNat) : Nat) : Int) := by simpa only [se_len, se_ch, List.length_map] using g33
     replace b40 := bindS b40
     obtain ⟨v34, hv34, b40⟩ := b40
     have i35 : nth (s40.2.2.map iC) ((0 + (s39.1 : Int).toNat) + (((IntKind.i64.wrap (s40.2.1 - 1)) : Int).toNat)) = some [(I v34)] := by simpa only [se_map, se_len, se_ch, List.length_map, nth_eq, Nat.zero_add, List.getElem?_map] using gixNF (f := iC) hv34
     repeat' first | exact rA _ | refine parkI ?_ | exact g30 | exact g33 | (rw [i32]; conv => whnf) | (rw [i35]; conv => whnf) | (refine W.drawn TT_ok hmix1 rfl ?_; conv => whnf) | exact clA _ | (refine And.intro ?_ ?_ <;> conv => whnf) | exact clG _ | (refine gand ?_ h; assumption) | exact clN _ | fail
     refine parkE (fun hc => ?_) (fun hc => ?_)
     ·replace b40 := condT hc b40
      conv => whnf
      replace b40 := grdS b40
      obtain ⟨g36, b40⟩ := b40
      replace g36 : (0 : Int) ≤ s40.2.1 ∧ s40.2.1 < ((((s40.2.2.map iC).length - (s39.1 : Int).toNat) : Nat) : Int) := by simpa only [se_len, se_ch, List.length_map] using g36
      replace b40 := grdS b40
      obtain ⟨g37, b40⟩ := b40
      replace g37 : (0 : Int) ≤ s40.1 ∧ s40.1 < (((s40.2.2.map iC).length : Nat) : Int) := by simpa only [se_len, se_ch, List.length_map] using g37
      replace b40 := bindS b40
      obtain ⟨v38, hv38, b40⟩ := b40
      have i39 : nth (s40.2.2.map iC) (0 + ((s40.1 : Int).toNat)) = some [(I v38)] := by simpa only [se_map, se_len, se_ch, List.length_map, nth_eq, Nat.zero_add, List.getElem?_map] using gixNF (f := iC) hv38
      repeat' first | exact rA _ | refine parkI ?_ | exact g36 | exact g37 | (rw [i32]; conv => whnf) | (rw [i39]; conv => whnf) | (refine W.drawn TT_ok hmix1 rfl ?_; conv => whnf) | exact clA _ | (refine And.intro ?_ ?_ <;> conv => whnf) | exact clG _ | (refine gand ?_ h; assumption) | exact clN _ | fail
      have e := Option.some.inj b40
      refine LoopW.norm [(0, (LV.sl 0 0 (((IntKind.i64.wrap (s40.1 + 1)), (IntKind.i64.wrap (s40.2.1 + 1)), (s40.2.2.set (s40.1 : Int).toNat v31)).2.2.map iC).length)), (3, (I ((IntKind.i64.wrap (s40.1 + 1)), (IntKind.i64.wrap (s40.2.1 + 1)), (s40.2.2.set (s40.1 : Int).toNat v31)).1)), (4, (LV.sl 0 (0 + (s39.1 : Int).toNat) ((((IntKind.i64.wrap (s40.1 + 1)), (IntKind.i64.wrap (s40.2.1 + 1)), (s40.2.2.set (s40.1 : Int).toNat v31)).2.2.map iC).length - (s39.1 : Int).toNat))), (5, (I ((IntKind.i64.wrap (s40.1 + 1)), (IntKind.i64.wrap (s40.2.1 + 1)), (s40.2.2.set (s40.1 : Int).toNat v31)).2.1))] 1 [(0, (.row 3 1 (((IntKind.i64.wrap (s40.1 + 1)), (IntKind.i64.wrap (s40.2.1 + 1)), (s40.2.2.set (s40.1 : Int).toNat v31)).2.2.map iC)))] ⟨(by exact congrArg (LV.sl 0 0) (clL _ : (s40.2.2.map iC).length = (((IntKind.i64.wrap (s40.1 + 1)), (IntKind.i64.wrap (s40.2.1 + 1)), (s40.2.2.set (s40.1 : Int).toNat v31)).2.2.map iC).length)), (smT : ((I (IntKind.i64.wrap (s40.1 + 1))) : LV) = (I ((IntKind.i64.wrap (s40.1 + 1)), (IntKind.i64.wrap (s40.2.1 + 1)), (s40.2.2.set (s40.1 : Int).toNat v31)).1)), (smT : ((LV.sl 0 (0 + (s39.1 : Int).toNat) ((s40.2.2.map iC).length - (s39.1 : Int).toNat)) : LV) = (LV.sl 0 (0 + (s39.1 : Int).toNat) ((((IntKind.i64.wrap (s40.1 + 1)), (IntKind.i64.wrap (s40.2.1 + 1)), (s40.2.2.set (s40.1 : Int).toNat v31)).2.2.map iC).length - (s39.1 : Int).toNat))), (smT : ((I (IntKind.i64.wrap (s40.2.1 + 1))) : LV) = (I ((IntKind.i64.wrap (s40.1 + 1)), (IntKind.i64.wrap (s40.2.1 + 1)), (s40.2.2.set (s40.1 : Int).toNat v31)).2.1)), trivial⟩ ⟨⟨(congrArg (fun q => some (Blk.row 3 1 q)) (smT : ((setN (s40.2.2.map iC) (0 + ((s40.1 : Int).toNat)) [(I v31)]) : List (List LV)) = (((IntKind.i64.wrap (s40.1 + 1)), (IntKind.i64.wrap (s40.2.1 + 1)), (s40.2.2.set (s40.1 : Int).toNat v31)).2.2.map iC))), rfl, NLss_bel (NLss_map' _)⟩, trivial⟩ blT rfl (K40 _ e.symm)
     ·replace b40 := condF hc b40
      conv => whnf
      repeat' first | exact rA _ | refine parkI ?_ | (refine W.drawn TT_ok hmix1 rfl ?_; conv => whnf) | exact clA _ | (refine And.intro ?_ ?_ <;> conv => whnf) | exact clG _ | (refine gand ?_ h; assumption) | exact clN _ | fail
      have e := Option.some.inj b40
      refine LoopW.norm [(0, (LV.sl 0 0 ((s40.1, (IntKind.i64.wrap (s40.2.1 + 1)), s40.2.2).2.2.map iC).length)), (3, (I (s40.1, (IntKind.i64.wrap (s40.2.1 + 1)), s40.2.2).1)), (4, (LV.sl 0 (0 + (s39.1 : Int).toNat) (((s40.1, (IntKind.i64.wrap (s40.2.1 + 1)), s40.2.2).2.2.map iC).length - (s39.1 : Int).toNat))), (5, (I (s40.1, (IntKind.i64.wrap (s40.2.1 + 1)), s40.2.2).2.1))] 1 [(0, (.row 3 1 ((s40.1, (IntKind.i64.wrap (s40.2.1 + 1)), s40.2.2).2.2.map iC)))] ⟨(by exact congrArg (LV.sl 0 0) (clL _ : (s40.2.2.map iC).length = ((s40.1, (IntKind.i64.wrap (s40.2.1 + 1)), s40.2.2).2.2.map iC).length)), (smT : ((I s40.1) : LV) = (I (s40.1, (IntKind.i64.wrap (s40.2.1 + 1)), s40.2.2).1)), (smT : ((LV.sl 0 (0 + (s39.1 : Int).toNat) ((s40.2.2.map iC).length - (s39.1 : Int).toNat)) : LV) = (LV.sl 0 (0 + (s39.1 : Int).toNat) (((s40.1, (IntKind.i64.wrap (s40.2.1 + 1)), s40.2.2).2.2.map iC).length - (s39.1 : Int).toNat))), (smT : ((I (IntKind.i64.wrap (s40.2.1 + 1))) : LV) = (I (s40.1, (IntKind.i64.wrap (s40.2.1 + 1)), s40.2.2).2.1)), trivial⟩ ⟨⟨(congrArg (fun q => some (Blk.row 3 1 q)) (smT : ((s40.2.2.map iC) : List (List LV)) = ((s40.1, (IntKind.i64.wrap (s40.2.1 + 1)), s40.2.2).2.2.map iC))), rfl, NLss_bel (NLss_map' _)⟩, trivial⟩ blT rfl (K40 _ e.symm)
    ·replace b40 := condF (by first | exact hc | (simpa only [se_len, se_ch, List.length_map] using hc; done) | (have h0 : (decide (s40.2.1 < ((((s40.2.2.map iC).length - (s39.1 : Int).toNat) : Nat) : Int))) = false := hc; simpa only [se_len, se_ch, List.length_map] using h0)) b40
     conv => whnf
     have e := Option.some.inj b40
     replace e := hbrk40 _ e.symm
     rw [e] at r40
     dsimp only [aftM] at r40
     replace r40 := grdS r40
     obtain ⟨g40, r40⟩ := r40
     replace g40 : (0 : Int) ≤ s40.1 ∧ s40.1 < (((s40.2.2.map iC).length : Nat) : Int) := by simpa only [se_len, se_ch, List.length_map] using g40
     have l41 : (0 + (s40.1 : Int).toNat) + ((s40.2.2.map iC).length - (s40.1 : Int).toNat) = (s40.2.2.map iC).length := by (try simp only [se_len, se_ch, List.length_map]); (try simp only [se_len, se_ch, List.length_map] at *); omega
     replace r40 := grdS r40
     obtain ⟨g42, r40⟩ := r40
     replace g42 : (0 : Int) ≤ s40.1 ∧ s40.1 ≤ (((s40.2.2.map iC).length : Nat) : Int) := by simpa only [se_len, se_ch, List.length_map] using g42
     have e := Option.some.inj r40
     replace e := hret39 _ e.symm
     rw [e] at r39
     replace e := Option.some.inj r39
     subst e
     repeat' first | exact rA _ | exact ⟨[(0, (.row 3 1 ((s40.2.2.take (s40.1 : Int).toNat).map iC)))], ⟨⟨(congrArg (fun q => some (Blk.row 3 1 q)) (by first | (simp only [se_map, se_byL, se_len, se_ch, List.length_map]; done) | (simp only [se_map, se_byL, se_len, se_ch, List.length_map, Nat.zero_add]; done) : (((s40.2.2.map iC).take (0 + (s40.1 : Int).toNat)) : List (List LV)) = ((s40.2.2.take (s40.1 : Int).toNat).map iC))), rfl, NLss_bel (NLss_map' _)⟩, trivial⟩, blT, (congrArg (LV.sl 0 0) (by (try simp only [se_map, se_byL, se_len, se_ch, List.length_map]); first | done | rfl | omega | (simp only [se_len, se_ch, List.length_map] at *; omega) : (s40.1 : Int).toNat = ((s40.2.2.take (s40.1 : Int).toNat).map iC).length)), rfl⟩ | exact g40 | exact g42 | exact l41 | (refine W.drawn TT_ok hmix1 rfl ?_; conv => whnf) | exact clA _ | (refine And.intro ?_ ?_ <;> conv => whnf) | exact clG _ | (refine gand ?_ h; assumption) | exact clN _ | fail
   ·replace b39 := condF hc b39
    conv => whnf
    repeat' first | exact rA _ | refine parkI ?_ | (refine W.drawn TT_ok hmix1 rfl ?_; conv => whnf) | exact clA _ | (refine And.intro ?_ ?_ <;> conv => whnf) | exact clG _ | (refine gand ?_ h; assumption) | exact clN _ | fail
    have e := Option.some.inj b39
    refine LoopW.norm [(0, (LV.sl 0 0 (((IntKind.i64.wrap (s39.1 + 1)), s39.2).2.map iC).length)), (3, (I ((IntKind.i64.wrap (s39.1 + 1)), s39.2).1))] 1 [(0, (.row 3 1 (((IntKind.i64.wrap (s39.1 + 1)), s39.2).2.map iC)))] ⟨(by exact congrArg (LV.sl 0 0) (clL _ : (s39.2.map iC).length = (((IntKind.i64.wrap (s39.1 + 1)), s39.2).2.map iC).length)), (smT : ((I (IntKind.i64.wrap (s39.1 + 1))) : LV) = (I ((IntKind.i64.wrap (s39.1 + 1)), s39.2).1)), trivial⟩ ⟨⟨(congrArg (fun q => some (Blk.row 3 1 q)) (smT : ((s39.2.map iC) : List (List LV)) = (((IntKind.i64.wrap (s39.1 + 1)), s39.2).2.map iC))), rfl, NLss_bel (NLss_map' _)⟩, trivial⟩ blT rfl (K39 _ e.symm)
  ·replace b39 := condF (by first | exact hc | (simpa only [se_len, se_ch, List.length_map] using hc; done) | (have h0 : (decide (s39.1 < (((s39.2.map iC).length : Nat) : Int))) = false := hc; simpa only [se_len, se_ch, List.length_map] using h0)) b39
   conv => whnf
   have e := Option.some.inj b39
   replace e := hbrk39 _ e.symm
   rw [e] at r39
   dsimp only [aftM] at r39
   have e := Option.some.inj r39
   subst e
   repeat' first | exact rA _ | exact ⟨[(0, (.row 3 1 (s39.2.map iC)))], ⟨⟨rfl, rfl, NLss_bel (NLss_map' _)⟩, trivial⟩, blT, rfl, rfl⟩ | (refine W.drawn TT_ok hmix1 rfl ?_; conv => whnf) | exact clA _ | (refine And.intro ?_ ?_ <;> conv => whnf) | exact clG _ | (refine gand ?_ h; assumption) | exact clN _ | fail

def flood_neighbours_1_c0 (a0 : Int) (k38 : Nat) (x38 : (List Int)) (s38 : (List Int)) : Option (Step (List Int) (List Int)) :=
 (slices_Contains_int x38 a0).bind fun y17 =>
 (bif y17 then
  grd (fits ((s38 ++ x38) : List Int).length 8) <|
  some (.nxt (s38 ++ x38))
 else
  some (.nxt s38))

def flood_neighbours_1 (a0 : Int) (q1 : (List (List Int))) : Option (List Int) :=
 aft (rangeL (flood_neighbours_1_c0 a0) q1 ([] : (List Int))) fun s38 =>
 (slices_Sort_int s38).bind fun y20 =>
 (slices_Compact_int y20).bind fun y23 =>
 some y23

theorem cf_flood_neighbours_1 (a0 : Int) (q1 : (List (List Int))) (r : (List Int)) (h : flood_neighbours_1 a0 q1 = some r) : CallF Try.prog 92 [(I a0), (LV.rptr [(LV.ro 1 (q1.map (roC 1 iC)))])] 3 1 (r.map iC) := by
 unfold flood_neighbours_1 at h
 refine CallF.of (NLss_map' _) (CallW.intro TT_ok Try.func92 rfl rfl [0, 1, 3, 4, 6, 7, 8, 9, 10, 15, 1000073, 1000093, 2000073, 2000093] rfl ?_)
 conv => whnf
 repeat' first | exact rA _ | refine parkI ?_ | (refine And.intro ?_ ?_ <;> conv => whnf) | fail
 replace h := aftS h
 obtain ⟨O38, hO38, r38⟩ := h
 refine LoopW.virt 4 3 1 rfl ?_
 refine LoopW.norm [(0, (I a0)), (4, (LV.sl 0 0 (([] : (List Int)).map iC).length)), (7, (LV.ro 1 (q1.map (roC 1 iC)))), (8, (I (((q1.map (roC 1 iC)).length : Nat) : Int))), (9, (I ((0 : Nat) : Int)))] 1 [(0, (.row 3 1 (([] : (List Int)).map iC)))] ⟨rfl, (by exact congrArg (LV.sl 0 0) (clL _ : 0 = (([] : (List Int)).map iC).length)), rfl, rfl, rfl, trivial⟩ ⟨⟨(congrArg (fun q => some (Blk.row 3 1 q)) (smT : ([] : List (List LV)) = (([] : (List Int)).map iC))), rfl, NLss_bel (NLss_map' _)⟩, trivial⟩ blT rfl ?_
 refine LoopW.forR (fun k38 s38 => [(0, (I a0)), (4, (LV.sl 0 0 (s38.map iC).length)), (7, (LV.ro 1 (q1.map (roC 1 iC)))), (8, (I (((q1.map (roC 1 iC)).length : Nat) : Int))), (9, (I ((k38 : Nat) : Int)))]) (fun s38 => ⟨1, [(0, (.row 3 1 (s38.map iC)))]⟩) hO38 (fun hl38 s38 hs38 => ?_) (fun hl38 k38 x38 s38 o38 hk38 hx38 b38 K38 hret38 hbrk38 => ?_)
 ·rw [hs38] at r38
  dsimp only [aftM] at r38
  have hd : decide (((q1.length : Nat) : Int) < (((q1.map (roC 1 iC)).length : Nat) : Int)) = false := by rw [decide_eq_false_iff_not]; (try simp only [se_len, se_ch, List.length_map]); omega
  refine LoopW.round TT_ok [0, 1, 3, 4, 6, 7, 8, 9, 10, 15, 1000073, 1000093, 2000073, 2000093] ?_
  conv => whnf
  repeat' first | exact rA _ | refine parkI ?_ | (refine And.intro ?_ ?_ <;> conv => whnf) | fail
  refine parkE (fun hc => ?_) (fun hc => ?_)
  ·exact (Bool.false_ne_true (hd.symm.trans hc)).elim
  ·clear hd
   conv => whnf
   replace r38 := bindS r38
   obtain ⟨y20, hy20, r38⟩ := r38
   have c21 := w_slices_Sort_int s38 _ hy20
   have l22 := slices_Sort_int_len hy20
   replace r38 := bindS r38
   obtain ⟨y23, hy23, r38⟩ := r38
   have c24 := w_slices_Compact_int y20 _ hy23
   have l25 : (y20.map iC).length = (s38.map iC).length := by (try simp only [se_map, se_byL, se_len, se_ch, List.length_map]); first | done | omega | (simp only [se_len, se_ch, List.length_map] at *; omega)
   rw [l25] at c24
   have e := Option.some.inj r38
   subst e
   repeat' first | exact rA _ | (refine CallW.frame (nx2 := 1) (l2 := [(0, (.row 3 1 (y20.map iC)))]) [(0, 0)] [(0, 0)] c21 rfl rfl ⟨⟨rfl, rfl, .inl ⟨rfl, nlT⟩⟩, rfl, rfl, trivial⟩ rfl rfl ⟨⟨rfl, rfl, .inl ⟨rfl, nlT⟩⟩, rfl, rfl, trivial⟩ ?_; conv => whnf) | (refine CallW.frame (nx2 := 1) (l2 := [(0, (.row 3 1 (y23.map iC)))]) [(0, 0)] [(0, 0)] c24 rfl rfl ⟨⟨rfl, rfl, .inl ⟨rfl, nlT⟩⟩, rfl, rfl, trivial⟩ rfl rfl ⟨⟨rfl, rfl, .inl ⟨rfl, nlT⟩⟩, rfl, rfl, trivial⟩ ?_; conv => whnf) | exact Or.inr ⟨_, rfl, congrArg (fun q => some (Blk.row 3 1 q)) rfl⟩ | exact clA _ | (refine And.intro ?_ ?_ <;> conv => whnf) | exact clG _ | (refine gand ?_ h; assumption) | exact clN _ | fail
 ·unfold flood_neighbours_1_c0 at b38
  have hd : decide (((k38 : Nat) : Int) < (((q1.map (roC 1 iC)).length : Nat) : Int)) = true := by rw [decide_eq_true_eq]; (try simp only [se_len, se_ch, List.length_map] at hk38); (try simp only [se_len, se_ch, List.length_map]); omega
  refine LoopW.round TT_ok [0, 1, 3, 4, 6, 7, 8, 9, 10, 15, 1000073, 1000093, 2000073, 2000093] ?_
  conv => whnf
  repeat' first | exact rA _ | refine parkI ?_ | (refine And.intro ?_ ?_ <;> conv => whnf) | fail
  refine parkE (fun hc => ?_) (fun hc => ?_)
  ·clear hd
   conv => whnf
   replace b38 := bindS b38
   obtain ⟨y17, hy17, b38⟩ := b38
   have c18 := c_slices_Contains_int x38 a0 _ hy17
   repeat' first | exact rA _ | refine parkI ?_ | (refine ⟨_, (kixF (f := (roC 1 iC)) hx38), ?_⟩; conv => whnf) | (refine CallP.use c18 ?_; conv => whnf) | (refine And.intro ?_ ?_ <;> conv => whnf) | fail
   refine parkE (fun hc => ?_) (fun hc => ?_)
   ·replace b38 := condT hc b38
    conv => whnf
    replace b38 := grdS b38
    obtain ⟨g19, b38⟩ := b38
    replace g19 : fits (((s38.map iC) ++ (x38.map iC))).length 8 := by simpa only [se_len, se_ch, List.length_map] using g19
    repeat' first | exact rA _ | refine parkI ?_ | exact g19 | exact clA _ | (refine And.intro ?_ ?_ <;> conv => whnf) | exact clN _ | fail
    have e := Option.some.inj b38
    refine LoopW.ren [(1, 0)] [(0, (I a0)), (4, (LV.sl 0 0 ((s38 ++ x38).map iC).length)), (7, (LV.ro 1 (q1.map (roC 1 iC)))), (8, (I (((q1.map (roC 1 iC)).length : Nat) : Int))), (9, (I ((k38 + 1 : Nat) : Int)))] 1 [(0, (.row 3 1 ((s38 ++ x38).map iC)))] rfl ⟨rfl, (by exact congrArg (LV.sl 0 0) (clL _ : (((s38.map iC) ++ (x38.map iC))).length = ((s38 ++ x38).map iC).length)), rfl, rfl, (congrArg (LV.int .i64) (w64_nat _ (by omega))), trivial⟩ ⟨⟨rfl, rfl, .inl ⟨(smT : (((s38.map iC) ++ (x38.map iC)) : List (List LV)) = ((s38 ++ x38).map iC)), nlT⟩⟩, rfl, rfl, trivial⟩ rfl (K38 _ e.symm)
   ·replace b38 := condF hc b38
    conv => whnf
    repeat' first | exact rA _ | refine parkI ?_ | (refine And.intro ?_ ?_ <;> conv => whnf) | fail
    have e := Option.some.inj b38
    refine LoopW.norm [(0, (I a0)), (4, (LV.sl 0 0 (s38.map iC).length)), (7, (LV.ro 1 (q1.map (roC 1 iC)))), (8, (I (((q1.map (roC 1 iC)).length : Nat) : Int))), (9, (I ((k38 + 1 : Nat) : Int)))] 1 [(0, (.row 3 1 (s38.map iC)))] ⟨rfl, rfl, rfl, rfl, (congrArg (LV.int .i64) (w64_nat _ (by omega))), trivial⟩ ⟨⟨rfl, rfl, NLss_bel (NLss_map' _)⟩, trivial⟩ blT rfl (K38 _ e.symm)
  ·exact (Bool.false_ne_true (hc.symm.trans hd)).elim

theorem c_flood_neighbours_1 (a0 : Int) (q1 : (List (List Int))) (r : (List Int)) (h : flood_neighbours_1 a0 q1 = some r) : CallP Try.prog 92 [(I a0), (LV.rptr [(LV.ro 1 (q1.map (roC 1 iC)))])] (LV.ro 1 (r.map iC)) := by
 exact CallF.toP (cf_flood_neighbours_1 a0 q1 r h) nlA (NLss_map' _)

def flood_steps_c1 (s34 : ((List Int) × Int × (List Int))) (y17 : (List Int)) (k35 : Nat) (s35 : ((List Int) × (List Int))) : Option (Step (Step (List Int) ((List Int) × Int × (List Int))) ((List Int) × (List Int))) :=
 grd ((0 : Int) ≤ ((k35 : Nat) : Int) ∧ ((k35 : Nat) : Int) < ((y17.length : Nat) : Int)) <|
 (gixN y17 (((k35 : Nat) : Int) : Int).toNat).bind fun v20 =>
 grd ((0 : Int) ≤ v20 ∧ v20 < ((s35.2.length : Nat) : Int)) <|
 (gixN s35.2 (v20 : Int).toNat).bind fun v23 =>
 (bif (decide (v23 < 0)) then
  grd ((0 : Int) ≤ s34.2.1 ∧ s34.2.1 < ((s35.1.length : Nat) : Int)) <|
  (gixN s35.1 (s34.2.1 : Int).toNat).bind fun v26 =>
  grd ((0 : Int) ≤ v26 ∧ v26 < ((s35.2.length : Nat) : Int)) <|
  (gixN s35.2 (v26 : Int).toNat).bind fun v29 =>
  grd ((0 : Int) ≤ v20 ∧ v20 < ((s35.2.length : Nat) : Int)) <|
  grd (fits ((s35.1 ++ ([v20] : (List Int))) : List Int).length 8) <|
  some (.nxt ((s35.1 ++ ([v20] : (List Int))), (s35.2.set (v20 : Int).toNat (IntKind.i64.wrap (v29 + 1)))))
 else
  some (.nxt (s35.1, s35.2)))

def flood_steps_c0 (y12 : (List (List Int))) (s34 : ((List Int) × Int × (List Int))) : Option (Step (List Int) ((List Int) × Int × (List Int))) :=
 (bif (decide (s34.2.1 < ((s34.1.length : Nat) : Int))) then
  grd ((0 : Int) ≤ s34.2.1 ∧ s34.2.1 < ((s34.1.length : Nat) : Int)) <|
  (gixN s34.1 (s34.2.1 : Int).toNat).bind fun v15 =>
  (flood_neighbours_1 v15 y12).bind fun y17 =>
  aft (rangeN (flood_steps_c1 s34 y17) ((y17.length : Nat) : Int) (s34.1, s34.2.2)) fun s35 =>
  some (.nxt (s35.1, (IntKind.i64.wrap (s34.2.1 + 1)), s35.2))
 else
  some (.brk (s34.1, s34.2.1, s34.2.2)))

def flood_steps (a0 : LanT) (a1 : (List (List Bool))) (a2 : Int) : Option (List Int) :=
 (slices_Repeat_int ([(-1)] : (List Int)) a0.Segs).bind fun y7 =>
 grd ((0 : Int) ≤ a2 ∧ a2 < ((y7.length : Nat) : Int)) <|
 (gixN y7 (a2 : Int).toNat).bind fun v10 =>
 (flood_neighbours a0 a1).bind fun y12 =>
 aft (loopF 1000000 (flood_steps_c0 y12) (([a2] : (List Int)), 0, (y7.set (a2 : Int).toNat 0))) fun s34 =>
 some s34.2.2

theorem cf_flood_steps (a0 : LanT) (a1 : (List (List Bool))) (a2 : Int) (r : (List Int)) (h : flood_steps a0 a1 a2 = some r) : CallF Try.prog 49 [(LV.agg [(I a0.Segs), (LV.ro 2 (a0.Plans.map PlanT.cells)), (LV.ro 2 (a0.Hosts.map HostT.cells))]), (LV.ro 1 (a1.map (roC 1 bC))), (I a2)] 3 1 (r.map iC) := by
 unfold flood_steps at h
 refine CallF.of (NLss_map' _) (CallW.intro TT_ok Try.func49 rfl rfl [0, 1, 2, 3, 6, 7, 8, 9, 10, 12, 28, 36, 37, 38, 39, 46] rfl ?_)
 conv => whnf
 replace h := bindS h
 obtain ⟨y7, hy7, h⟩ := h
 have c8 : CallF Try.prog 75 [(LV.ro 1 [[(I (-1))]]), (I a0.Segs)] 3 1 (y7.map iC) := by first | exact cf_slices_Repeat_int ([(-1)] : (List Int)) a0.Segs _ hy7 | (simpa only [se_map, se_byL, se_len, se_ch, List.length_map] using cf_slices_Repeat_int ([(-1)] : (List Int)) a0.Segs _ hy7)
 replace h := grdS h
 obtain ⟨g9, h⟩ := h
 replace g9 : (0 : Int) ≤ a2 ∧ a2 < (((y7.map iC).length : Nat) : Int) := by simpa only [se_len, se_ch, List.length_map] using g9
 replace h := bindS h
 obtain ⟨v10, hv10, h⟩ := h
 have i11 : nth (y7.map iC) (0 + ((a2 : Int).toNat)) = some [(I v10)] := by simpa only [se_map, se_len, se_ch, List.length_map, nth_eq, Nat.zero_add, List.getElem?_map] using gixNF (f := iC) hv10
 replace h := bindS h
 obtain ⟨y12, hy12, h⟩ := h
 have c13 := c_flood_neighbours a0 a1 _ hy12
 repeat' first | exact rA _ | refine parkI ?_ | exact g9 | (refine CallP.use c13 ?_; conv => whnf) | (refine CallW.done (CallF.at c8 nlA (NLss_map' _)) ?_; conv => whnf) | (refine ⟨_, _, CallF.at c8 nlA (NLss_map' _), ?_⟩; conv => whnf) | (rw [i11]; conv => whnf) | exact clA _ | (refine And.intro ?_ ?_ <;> conv => whnf) | exact clN _ | fail
 replace h := aftS h
 obtain ⟨O34, hO34, r34⟩ := h
 refine LoopW.norm [(7, (LV.sl 2 0 ((([a2] : (List Int)), 0, (y7.set (a2 : Int).toNat 0)).2.2.map iC).length)), (8, (LV.func (.func 92) [] [(LV.rptr [(LV.ro 1 (y12.map (roC 1 iC)))])])), (9, (LV.sl 3 0 ((([a2] : (List Int)), 0, (y7.set (a2 : Int).toNat 0)).1.map iC).length)), (10, (I (([a2] : (List Int)), 0, (y7.set (a2 : Int).toNat 0)).2.1))] 4 [(2, (.row 3 1 ((([a2] : (List Int)), 0, (y7.set (a2 : Int).toNat 0)).2.2.map iC))), (3, (.row 3 1 ((([a2] : (List Int)), 0, (y7.set (a2 : Int).toNat 0)).1.map iC)))] ⟨(by exact congrArg (LV.sl 2 0) (clL _ : (y7.map iC).length = ((([a2] : (List Int)), 0, (y7.set (a2 : Int).toNat 0)).2.2.map iC).length)), rfl, (by exact congrArg (LV.sl 3 0) (clL _ : 1 = ((([a2] : (List Int)), 0, (y7.set (a2 : Int).toNat 0)).1.map iC).length)), (smT : ((I 0) : LV) = (I (([a2] : (List Int)), 0, (y7.set (a2 : Int).toNat 0)).2.1)), trivial⟩ ⟨⟨(congrArg (fun q => some (Blk.row 3 1 q)) (smT : ((setN (y7.map iC) (0 + ((a2 : Int).toNat)) [(I 0)]) : List (List LV)) = ((([a2] : (List Int)), 0, (y7.set (a2 : Int).toNat 0)).2.2.map iC))), rfl, NLss_bel (NLss_map' _)⟩, ⟨⟨(congrArg (fun q => some (Blk.row 3 1 q)) (smT : ([[(I a2)]] : List (List LV)) = ((([a2] : (List Int)), 0, (y7.set (a2 : Int).toNat 0)).1.map iC))), rfl, NLss_bel (NLss_map' _)⟩, trivial⟩⟩ blT rfl ?_
 refine LoopW.forF (fun s34 => [(7, (LV.sl 2 0 (s34.2.2.map iC).length)), (8, (LV.func (.func 92) [] [(LV.rptr [(LV.ro 1 (y12.map (roC 1 iC)))])])), (9, (LV.sl 3 0 (s34.1.map iC).length)), (10, (I s34.2.1))]) (fun s34 => ⟨4, [(2, (.row 3 1 (s34.2.2.map iC))), (3, (.row 3 1 (s34.1.map iC)))]⟩) hO34 (fun s34 o34 b34 K34 hret34 hbrk34 => ?_)
 unfold flood_steps_c0 at b34
 refine LoopW.round TT_ok [0, 1, 2, 3, 6, 7, 8, 9, 10, 12, 28, 36, 37, 38, 39, 46] ?_
 conv => whnf
 repeat' first | exact rA _ | refine parkI ?_ | (refine And.intro ?_ ?_ <;> conv => whnf) | fail
 refine parkE (fun hc => ?_) (fun hc => ?_)
 ·replace b34 := condT (by first | exact hc | (simpa only [se_len, se_ch, List.length_map] using hc; done) | (have h0 : (decide (s34.2.1 < (((s34.1.map iC).length : Nat) : Int))) = true := hc; simpa only [se_len, se_ch, List.length_map] using h0)) b34
  conv => whnf
  replace b34 := grdS b34
  obtain ⟨g14, b34⟩ := b34
  replace g14 : (0 : Int) ≤ s34.2.1 ∧ s34.2.1 < (((s34.1.map iC).length : Nat) : Int) := by simpa only [se_len, se_ch, List.length_map] using g14
  replace b34 := bindS b34
  obtain ⟨v15, hv15, b34⟩ := b34
  have i16 : nth (s34.1.map iC) (0 + ((s34.2.1 : Int).toNat)) = some [(I v15)] := by simpa only [se_map, se_len, se_ch, List.length_map, nth_eq, Nat.zero_add, List.getElem?_map] using gixNF (f := iC) hv15
  replace b34 := bindS b34
  obtain ⟨y17, hy17, b34⟩ := b34
  have c18 : CallF Try.prog 92 [(I v15), (LV.rptr [(LV.ro 1 (y12.map (roC 1 iC)))])] 3 1 (y17.map iC) := by first | exact cf_flood_neighbours_1 v15 y12 _ hy17 | (simpa only [se_map, se_byL, se_len, se_ch, List.length_map] using cf_flood_neighbours_1 v15 y12 _ hy17)
  repeat' first | exact rA _ | refine parkI ?_ | exact g14 | (rw [i16]; conv => whnf) | (refine CallW.done (CallF.at c18 nlA (NLss_map' _)) ?_; conv => whnf) | (refine ⟨_, _, CallF.at c18 nlA (NLss_map' _), ?_⟩; conv => whnf) | (refine And.intro ?_ ?_ <;> conv => whnf) | fail
  replace b34 := aftS b34
  obtain ⟨O35, hO35, r35⟩ := b34
  refine LoopW.norm [(7, (LV.sl 2 0 ((s34.1, s34.2.2).2.map iC).length)), (8, (LV.func (.func 92) [] [(LV.rptr [(LV.ro 1 (y12.map (roC 1 iC)))])])), (9, (LV.sl 3 0 ((s34.1, s34.2.2).1.map iC).length)), (10, (I s34.2.1)), (36, (LV.sl 4 0 (y17.map iC).length)), (37, (I (((y17.map iC).length : Nat) : Int))), (38, (I ((0 : Nat) : Int)))] 5 [(2, (.row 3 1 ((s34.1, s34.2.2).2.map iC))), (3, (.row 3 1 ((s34.1, s34.2.2).1.map iC))), (4, (.row 3 1 (y17.map iC)))] ⟨(by exact congrArg (LV.sl 2 0) (clL _ : (s34.2.2.map iC).length = ((s34.1, s34.2.2).2.map iC).length)), rfl, (by exact congrArg (LV.sl 3 0) (clL _ : (s34.1.map iC).length = ((s34.1, s34.2.2).1.map iC).length)), rfl, rfl, rfl, rfl, trivial⟩ ⟨⟨(congrArg (fun q => some (Blk.row 3 1 q)) (smT : ((s34.2.2.map iC) : List (List LV)) = ((s34.1, s34.2.2).2.map iC))), rfl, NLss_bel (NLss_map' _)⟩, ⟨⟨(congrArg (fun q => some (Blk.row 3 1 q)) (smT : ((s34.1.map iC) : List (List LV)) = ((s34.1, s34.2.2).1.map iC))), rfl, NLss_bel (NLss_map' _)⟩, ⟨⟨rfl, rfl, NLss_bel (NLss_map' _)⟩, trivial⟩⟩⟩ blT rfl ?_
  refine LoopW.forN (fun k35 s35 => [(7, (LV.sl 2 0 (s35.2.map iC).length)), (8, (LV.func (.func 92) [] [(LV.rptr [(LV.ro 1 (y12.map (roC 1 iC)))])])), (9, (LV.sl 3 0 (s35.1.map iC).length)), (10, (I s34.2.1)), (36, (LV.sl 4 0 (y17.map iC).length)), (37, (I (((y17.map iC).length : Nat) : Int))), (38, (I ((k35 : Nat) : Int)))]) (fun s35 => ⟨5, [(2, (.row 3 1 (s35.2.map iC))), (3, (.row 3 1 (s35.1.map iC))), (4, (.row 3 1 (y17.map iC)))]⟩) hO35 (fun hl35 s35 hs35 => ?_) (fun hl35 k35 s35 o35 hk35 b35 K35 hret35 hbrk35 => ?_)
  ·rw [hs35] at r35
   dsimp only [aftM] at r35
   have hd : decide ((((((y17.length : Nat) : Int) : Int).toNat : Nat) : Int) < (((y17.map iC).length : Nat) : Int)) = false := by rw [decide_eq_false_iff_not]; (try simp only [se_len, se_ch, List.length_map]); omega
   refine LoopW.round TT_ok [0, 1, 2, 3, 6, 7, 8, 9, 10, 12, 28, 36, 37, 38, 39, 46] ?_
   conv => whnf
   repeat' first | exact rA _ | refine parkI ?_ | (refine And.intro ?_ ?_ <;> conv => whnf) | fail
   refine parkE (fun hc => ?_) (fun hc => ?_)
   ·exact (Bool.false_ne_true (hd.symm.trans hc)).elim
   ·clear hd
    conv => whnf
    repeat' first | exact rA _ | refine parkI ?_ | (refine And.intro ?_ ?_ <;> conv => whnf) | fail
    have e := Option.some.inj r35
    refine LoopW.norm [(7, (LV.sl 2 0 ((s35.1, (IntKind.i64.wrap (s34.2.1 + 1)), s35.2).2.2.map iC).length)), (8, (LV.func (.func 92) [] [(LV.rptr [(LV.ro 1 (y12.map (roC 1 iC)))])])), (9, (LV.sl 3 0 ((s35.1, (IntKind.i64.wrap (s34.2.1 + 1)), s35.2).1.map iC).length)), (10, (I (s35.1, (IntKind.i64.wrap (s34.2.1 + 1)), s35.2).2.1))] 4 [(2, (.row 3 1 ((s35.1, (IntKind.i64.wrap (s34.2.1 + 1)), s35.2).2.2.map iC))), (3, (.row 3 1 ((s35.1, (IntKind.i64.wrap (s34.2.1 + 1)), s35.2).1.map iC)))] ⟨(by exact congrArg (LV.sl 2 0) (clL _ : (s35.2.map iC).length = ((s35.1, (IntKind.i64.wrap (s34.2.1 + 1)), s35.2).2.2.map iC).length)), rfl, (by exact congrArg (LV.sl 3 0) (clL _ : (s35.1.map iC).length = ((s35.1, (IntKind.i64.wrap (s34.2.1 + 1)), s35.2).1.map iC).length)), (smT : ((I (IntKind.i64.wrap (s34.2.1 + 1))) : LV) = (I (s35.1, (IntKind.i64.wrap (s34.2.1 + 1)), s35.2).2.1)), trivial⟩ ⟨⟨(congrArg (fun q => some (Blk.row 3 1 q)) (smT : ((s35.2.map iC) : List (List LV)) = ((s35.1, (IntKind.i64.wrap (s34.2.1 + 1)), s35.2).2.2.map iC))), rfl, NLss_bel (NLss_map' _)⟩, ⟨⟨(congrArg (fun q => some (Blk.row 3 1 q)) (smT : ((s35.1.map iC) : List (List LV)) = ((s35.1, (IntKind.i64.wrap (s34.2.1 + 1)), s35.2).1.map iC))), rfl, NLss_bel (NLss_map' _)⟩, trivial⟩⟩ blT rfl (K34 _ e.symm)
  ·unfold flood_steps_c1 at b35
   have hd : decide (((k35 : Nat) : Int) < (((y17.map iC).length : Nat) : Int)) = true := by rw [decide_eq_true_eq]; (try simp only [se_len, se_ch, List.length_map] at hk35); (try simp only [se_len, se_ch, List.length_map]); omega
   refine LoopW.round TT_ok [0, 1, 2, 3, 6, 7, 8, 9, 10, 12, 28, 36, 37, 38, 39, 46] ?_
   conv => whnf
   repeat' first | exact rA _ | refine parkI ?_ | (refine And.intro ?_ ?_ <;> conv => whnf) | fail
   refine parkE (fun hc => ?_) (fun hc => ?_)
   ·clear hd
    conv => whnf
    replace b35 := grdS b35
    obtain ⟨g19, b35⟩ := b35
    replace g19 : (0 : Int) ≤ ((k35 : Nat) : Int) ∧ ((k35 : Nat) : Int) < (((y17.map iC).length : Nat) : Int) := by simpa only [se_len, se_ch, List.length_map] using g19
    replace b35 := bindS b35
    obtain ⟨v20, hv20, b35⟩ := b35
    have i21 : nth (y17.map iC) (0 + ((((k35 : Nat) : Int) : Int).toNat)) = some [(I v20)] := by simpa only [se_map, se_len, se_ch, List.length_map, nth_eq, Nat.zero_add, List.getElem?_map] using gixNF (f := iC) hv20
    replace b35 := grdS b35
    obtain ⟨g22, b35⟩ := b35
    replace g22 : (0 : Int) ≤ v20 ∧ v20 < (((s35.2.map iC).length : Nat) : Int) := by simpa only [se_len, se_ch, List.length_map] using g22
    replace b35 := bindS b35
    obtain ⟨v23, hv23, b35⟩ := b35
    have i24 : nth (s35.2.map iC) (0 + ((v20 : Int).toNat)) = some [(I v23)] := by simpa only [se_map, se_len, se_ch, List.length_map, nth_eq, Nat.zero_add, List.getElem?_map] using gixNF (f := iC) hv23
    repeat' first | exact rA _ | refine parkI ?_ | exact g19 | exact g22 | (rw [i21]; conv => whnf) | (rw [i24]; conv => whnf) | (refine And.intro ?_ ?_ <;> conv => whnf) | fail
    refine parkE (fun hc => ?_) (fun hc => ?_)
    ·replace b35 := condT hc b35
     conv => whnf
     replace b35 := grdS b35
     obtain ⟨g25, b35⟩ := b35
     replace g25 : (0 : Int) ≤ s34.2.1 ∧ s34.2.1 < (((s35.1.map iC).length : Nat) : Int) := by simpa only [se_len, se_ch, List.length_map] using g25
     replace b35 := bindS b35
     obtain ⟨v26, hv26, b35⟩ := b35
     have i27 : nth (s35.1.map iC) (0 + ((s34.2.1 : Int).toNat)) = some [(I v26)] := by simpa only [se_map, se_len, se_ch, List.length_map, nth_eq, Nat.zero_add, List.getElem?_map] using gixNF (f := iC) hv26
     replace b35 := grdS b35
     obtain ⟨g28, b35⟩ := b35
     replace g28 : (0 : Int) ≤ v26 ∧ v26 < (((s35.2.map iC).length : Nat) : Int) := by simpa only [se_len, se_ch, List.length_map] using g28
     replace b35 := bindS b35
     obtain ⟨v29, hv29, b35⟩ := b35
     have i30 : nth (s35.2.map iC) (0 + ((v26 : Int).toNat)) = some [(I v29)] := by simpa only [se_map, se_len, se_ch, List.length_map, nth_eq, Nat.zero_add, List.getElem?_map] using gixNF (f := iC) hv29
     replace b35 := grdS b35
     obtain ⟨g31, b35⟩ := b35
     replace g31 : (0 : Int) ≤ v20 ∧ v20 < (((s35.2.map iC).length : Nat) : Int) := by simpa only [se_len, se_ch, List.length_map] using g31
     replace b35 := grdS b35
     obtain ⟨g32, b35⟩ := b35
     replace g32 : fits (((s35.1.map iC) ++ [[(I v20)]])).length 8 := by simpa only [se_len, se_ch, List.length_map] using g32
     repeat' first | exact rA _ | refine parkI ?_ | exact g25 | exact g28 | exact g31 | exact g32 | (rw [i27]; conv => whnf) | (rw [i30]; conv => whnf) | (rw [i24]; conv => whnf) | exact clA _ | (refine And.intro ?_ ?_ <;> conv => whnf) | exact clN _ | fail
     have e := Option.some.inj b35
     refine LoopW.ren [(2, 2), (6, 3), (4, 4)] [(7, (LV.sl 2 0 (((s35.1 ++ ([v20] : (List Int))), (s35.2.set (v20 : Int).toNat (IntKind.i64.wrap (v29 + 1)))).2.map iC).length)), (8, (LV.func (.func 92) [] [(LV.rptr [(LV.ro 1 (y12.map (roC 1 iC)))])])), (9, (LV.sl 3 0 (((s35.1 ++ ([v20] : (List Int))), (s35.2.set (v20 : Int).toNat (IntKind.i64.wrap (v29 + 1)))).1.map iC).length)), (10, (I s34.2.1)), (36, (LV.sl 4 0 (y17.map iC).length)), (37, (I (((y17.map iC).length : Nat) : Int))), (38, (I ((k35 + 1 : Nat) : Int)))] 5 [(2, (.row 3 1 (((s35.1 ++ ([v20] : (List Int))), (s35.2.set (v20 : Int).toNat (IntKind.i64.wrap (v29 + 1)))).2.map iC))), (3, (.row 3 1 (((s35.1 ++ ([v20] : (List Int))), (s35.2.set (v20 : Int).toNat (IntKind.i64.wrap (v29 + 1)))).1.map iC))), (4, (.row 3 1 (y17.map iC)))] rfl ⟨(by exact congrArg (LV.sl 2 0) (clL _ : (s35.2.map iC).length = (((s35.1 ++ ([v20] : (List Int))), (s35.2.set (v20 : Int).toNat (IntKind.i64.wrap (v29 + 1)))).2.map iC).length)), rfl, (by exact congrArg (LV.sl 3 0) (clL _ : (((s35.1.map iC) ++ [[(I v20)]])).length = (((s35.1 ++ ([v20] : (List Int))), (s35.2.set (v20 : Int).toNat (IntKind.i64.wrap (v29 + 1)))).1.map iC).length)), rfl, rfl, rfl, (congrArg (LV.int .i64) (w64_nat _ (by omega))), trivial⟩ ⟨⟨rfl, rfl, .inl ⟨(smT : ((setN (s35.2.map iC) (0 + ((v20 : Int).toNat)) [(I (IntKind.i64.wrap (v29 + 1)))]) : List (List LV)) = (((s35.1 ++ ([v20] : (List Int))), (s35.2.set (v20 : Int).toNat (IntKind.i64.wrap (v29 + 1)))).2.map iC)), nlT⟩⟩, rfl, rfl, ⟨⟨rfl, rfl, .inl ⟨(smT : (((s35.1.map iC) ++ [[(I v20)]]) : List (List LV)) = (((s35.1 ++ ([v20] : (List Int))), (s35.2.set (v20 : Int).toNat (IntKind.i64.wrap (v29 + 1)))).1.map iC)), nlT⟩⟩, rfl, rfl, ⟨⟨rfl, rfl, .inl ⟨rfl, nlT⟩⟩, rfl, rfl, trivial⟩⟩⟩ rfl (K35 _ e.symm)
    ·replace b35 := condF hc b35
     conv => whnf
     repeat' first | exact rA _ | refine parkI ?_ | (refine And.intro ?_ ?_ <;> conv => whnf) | fail
     have e := Option.some.inj b35
     refine LoopW.norm [(7, (LV.sl 2 0 ((s35.1, s35.2).2.map iC).length)), (8, (LV.func (.func 92) [] [(LV.rptr [(LV.ro 1 (y12.map (roC 1 iC)))])])), (9, (LV.sl 3 0 ((s35.1, s35.2).1.map iC).length)), (10, (I s34.2.1)), (36, (LV.sl 4 0 (y17.map iC).length)), (37, (I (((y17.map iC).length : Nat) : Int))), (38, (I ((k35 + 1 : Nat) : Int)))] 5 [(2, (.row 3 1 ((s35.1, s35.2).2.map iC))), (3, (.row 3 1 ((s35.1, s35.2).1.map iC))), (4, (.row 3 1 (y17.map iC)))] ⟨(by exact congrArg (LV.sl 2 0) (clL _ : (s35.2.map iC).length = ((s35.1, s35.2).2.map iC).length)), rfl, (by exact congrArg (LV.sl 3 0) (clL _ : (s35.1.map iC).length = ((s35.1, s35.2).1.map iC).length)), rfl, rfl, rfl, (congrArg (LV.int .i64) (w64_nat _ (by omega))), trivial⟩ ⟨⟨(congrArg (fun q => some (Blk.row 3 1 q)) (smT : ((s35.2.map iC) : List (List LV)) = ((s35.1, s35.2).2.map iC))), rfl, NLss_bel (NLss_map' _)⟩, ⟨⟨(congrArg (fun q => some (Blk.row 3 1 q)) (smT : ((s35.1.map iC) : List (List LV)) = ((s35.1, s35.2).1.map iC))), rfl, NLss_bel (NLss_map' _)⟩, ⟨⟨rfl, rfl, NLss_bel (NLss_map' _)⟩, trivial⟩⟩⟩ blT rfl (K35 _ e.symm)
   ·exact (Bool.false_ne_true (hc.symm.trans hd)).elim
 ·replace b34 := condF (by first | exact hc | (simpa only [se_len, se_ch, List.length_map] using hc; done) | (have h0 : (decide (s34.2.1 < (((s34.1.map iC).length : Nat) : Int))) = false := hc; simpa only [se_len, se_ch, List.length_map] using h0)) b34
  conv => whnf
  have e := Option.some.inj b34
  replace e := hbrk34 _ e.symm
  rw [e] at r34
  dsimp only [aftM] at r34
  have e := Option.some.inj r34
  subst e
  repeat' first | exact rA _ | exact Or.inr ⟨_, rfl, congrArg (fun q => some (Blk.row 3 1 q)) rfl⟩ | exact clA _ | (refine And.intro ?_ ?_ <;> conv => whnf) | exact clG _ | (refine gand ?_ h; assumption) | exact clN _ | fail

theorem c_flood_steps (a0 : LanT) (a1 : (List (List Bool))) (a2 : Int) (r : (List Int)) (h : flood_steps a0 a1 a2 = some r) : CallP Try.prog 49 [(LV.agg [(I a0.Segs), (LV.ro 2 (a0.Plans.map PlanT.cells)), (LV.ro 2 (a0.Hosts.map HostT.cells))]), (LV.ro 1 (a1.map (roC 1 bC))), (I a2)] (LV.ro 1 (r.map iC)) := by
 exact CallF.toP (cf_flood_steps a0 a1 a2 r h) nlA (NLss_map' _)

def flood_Steps (a0 : LanT) (a1 : (List (List Bool))) (a2 : Int) : Option ((List Int) × Int) :=
 (flood_may a0 a1 ([a2] : (List Int))).bind fun y5 =>
 (bif (!decide (y5 = 0)) then
  some ([], y5)
 else
  (flood_steps a0 a1 a2).bind fun y7 =>
  some (y7, 0))

theorem c_flood_Steps (a0 : LanT) (a1 : (List (List Bool))) (a2 : Int) (r : ((List Int) × Int)) (h : flood_Steps a0 a1 a2 = some r) : CallP Try.prog 47 [(LV.agg [(I a0.Segs), (LV.ro 2 (a0.Plans.map PlanT.cells)), (LV.ro 2 (a0.Hosts.map HostT.cells))]), (LV.ro 1 (a1.map (roC 1 bC))), (I a2)] (LV.tup [(LV.ro 1 (r.1.map iC)), (I r.2)]) := by
 unfold flood_Steps at h
 refine .intro nlA (.intro TT_ok Try.func47 rfl rfl [0, 1, 2, 3, 6, 7, 8, 15] rfl ?_)
 conv => whnf
 replace h := bindS h
 obtain ⟨y5, hy5, h⟩ := h
 have c6 : CallP Try.prog 48 [(LV.agg [(I a0.Segs), (LV.ro 2 (a0.Plans.map PlanT.cells)), (LV.ro 2 (a0.Hosts.map HostT.cells))]), (LV.ro 1 (a1.map (roC 1 bC))), (LV.ro 1 [[(I a2)]])] (I y5) := by first | exact c_flood_may a0 a1 ([a2] : (List Int)) _ hy5 | (simpa only [se_map, se_byL, se_len, se_ch, List.length_map] using c_flood_may a0 a1 ([a2] : (List Int)) _ hy5)
 repeat' first | exact rA _ | refine parkI ?_ | (refine CallP.use c6 ?_; conv => whnf) | exact clA _ | (refine And.intro ?_ ?_ <;> conv => whnf) | exact clN _ | fail
 refine parkE (fun hc => ?_) (fun hc => ?_)
 ·replace h := condT hc h
  conv => whnf
  have e := Option.some.inj h
  subst e
  repeat' first | exact rA _ | exact clA _ | (refine And.intro ?_ ?_ <;> conv => whnf) | exact clG _ | (refine gand ?_ h; assumption) | exact clN _ | fail
 ·replace h := condF hc h
  conv => whnf
  replace h := bindS h
  obtain ⟨y7, hy7, h⟩ := h
  have c8 := cf_flood_steps a0 a1 a2 _ hy7
  have e := Option.some.inj h
  subst e
  repeat' first | exact rA _ | (refine CallW.done (CallF.at c8 nlA (NLss_map' _)) ?_; conv => whnf) | (refine ⟨_, _, CallF.at c8 nlA (NLss_map' _), ?_⟩; conv => whnf) | exact clA _ | (refine And.intro ?_ ?_ <;> conv => whnf) | exact clG _ | (refine gand ?_ h; assumption) | exact clN _ | fail

def ref06_Same_c0 (a1 : (List Int)) (k36 : Nat) (x36 : Int) (s36 : Unit) : Option (Step Bool Unit) :=
 (gix a1 ((k36 : Nat) : Int)).bind fun v7 =>
 (bif (!decide (x36 = v7)) then
  some (.ret false)
 else
  some (.nxt ()))

def ref06_Same (a0 : (List Int)) (a1 : (List Int)) : Option Bool :=
 (bif (!decide (((a0.length : Nat) : Int) = ((a1.length : Nat) : Int))) then
  some false
 else
  aft (rangeL (ref06_Same_c0 a1) a0 ()) fun s36 =>
  some true)

theorem c_ref06_Same (a0 : (List Int)) (a1 : (List Int)) (r : Bool) (h : ref06_Same a0 a1 = some r) : CallP Try.prog 25 [(LV.ro 1 (a0.map iC)), (LV.ro 1 (a1.map iC))] (LV.bool r) := by
 unfold ref06_Same at h
 refine .intro nlA (.intro TT_ok Try.func25 rfl rfl [0, 1, 4, 5, 10, 12, 13, 14, 24] rfl ?_)
 conv => whnf
 repeat' first | exact rA _ | refine parkI ?_ | (refine W.drawn TT_ok hmix1 rfl ?_; conv => whnf) | exact clA _ | (refine And.intro ?_ ?_ <;> conv => whnf) | exact clG _ | (refine gand ?_ h; assumption) | exact clN _ | fail
 refine parkE (fun hc => ?_) (fun hc => ?_)
 ·replace h := condT (by first | exact hc | (simpa only [se_len, se_ch, List.length_map] using hc; done) | (have h0 : (!decide ((((a0.map iC).length : Nat) : Int) = (((a1.map iC).length : Nat) : Int))) = true := hc; simpa only [se_len, se_ch, List.length_map] using h0)) h
  conv => whnf
  have e := Option.some.inj h
  subst e
  repeat' first | exact rA _ | (refine W.drawn TT_ok hmix1 rfl ?_; conv => whnf) | exact clA _ | (refine And.intro ?_ ?_ <;> conv => whnf) | exact clG _ | (refine gand ?_ h; assumption) | exact clN _ | fail
 ·replace h := condF (by first | exact hc | (simpa only [se_len, se_ch, List.length_map] using hc; done) | (have h0 : (!decide ((((a0.map iC).length : Nat) : Int) = (((a1.map iC).length : Nat) : Int))) = false := hc; simpa only [se_len, se_ch, List.length_map] using h0)) h
  conv => whnf
  repeat' first | exact rA _ | refine parkI ?_ | (refine W.drawn TT_ok hmix1 rfl ?_; conv => whnf) | exact clA _ | (refine And.intro ?_ ?_ <;> conv => whnf) | exact clG _ | (refine gand ?_ h; assumption) | exact clN _ | fail
  replace h := aftS h
  obtain ⟨O36, hO36, r36⟩ := h
  refine LoopW.norm [(0, (LV.ro 1 (a0.map iC))), (1, (LV.ro 1 (a1.map iC))), (12, (I (((a0.map iC).length : Nat) : Int))), (13, (I ((0 : Nat) : Int)))] 0 [] ⟨rfl, rfl, rfl, rfl, trivial⟩ trivial blT rfl ?_
  refine LoopW.forR (fun k36 s36 => [(0, (LV.ro 1 (a0.map iC))), (1, (LV.ro 1 (a1.map iC))), (12, (I (((a0.map iC).length : Nat) : Int))), (13, (I ((k36 : Nat) : Int)))]) (fun s36 => ⟨0, []⟩) hO36 (fun hl36 s36 hs36 => ?_) (fun hl36 k36 x36 s36 o36 hk36 hx36 b36 K36 hret36 hbrk36 => ?_)
  ·rw [hs36] at r36
   dsimp only [aftM] at r36
   have hd : decide (((a0.length : Nat) : Int) < (((a0.map iC).length : Nat) : Int)) = false := by rw [decide_eq_false_iff_not]; (try simp only [se_len, se_ch, List.length_map]); omega
   refine LoopW.round TT_ok [0, 1, 4, 5, 10, 12, 13, 14, 24] ?_
   conv => whnf
   repeat' first | exact rA _ | refine parkI ?_ | (refine W.drawn TT_ok hmix1 rfl ?_; conv => whnf) | exact clA _ | (refine And.intro ?_ ?_ <;> conv => whnf) | exact clG _ | (refine gand ?_ h; assumption) | exact clN _ | fail
   refine parkE (fun hc => ?_) (fun hc => ?_)
   ·exact (Bool.false_ne_true (hd.symm.trans hc)).elim
   ·clear hd
    conv => whnf
    have e := Option.some.inj r36
    subst e
    repeat' first | exact rA _ | (refine W.drawn TT_ok hmix1 rfl ?_; conv => whnf) | exact clA _ | (refine And.intro ?_ ?_ <;> conv => whnf) | exact clG _ | (refine gand ?_ h; assumption) | exact clN _ | fail
  ·unfold ref06_Same_c0 at b36
   have hd : decide (((k36 : Nat) : Int) < (((a0.map iC).length : Nat) : Int)) = true := by rw [decide_eq_true_eq]; (try simp only [se_len, se_ch, List.length_map] at hk36); (try simp only [se_len, se_ch, List.length_map]); omega
   refine LoopW.round TT_ok [0, 1, 4, 5, 10, 12, 13, 14, 24] ?_
   conv => whnf
   repeat' first | exact rA _ | refine parkI ?_ | (refine W.drawn TT_ok hmix1 rfl ?_; conv => whnf) | exact clA _ | (refine And.intro ?_ ?_ <;> conv => whnf) | exact clG _ | (refine gand ?_ h; assumption) | exact clN _ | fail
   refine parkE (fun hc => ?_) (fun hc => ?_)
   ·clear hd
    conv => whnf
    replace b36 := bindS b36
    obtain ⟨v7, hv7, b36⟩ := b36
    have i8 := gixF (f := iC) hv7
    repeat' first | exact rA _ | refine parkI ?_ | (refine ⟨_, (kixF (f := iC) hx36), ?_⟩; conv => whnf) | (refine ⟨_, i8, ?_⟩; conv => whnf) | (refine W.drawn TT_ok hmix1 rfl ?_; conv => whnf) | exact clA _ | (refine And.intro ?_ ?_ <;> conv => whnf) | exact clG _ | (refine gand ?_ h; assumption) | exact clN _ | fail
    refine parkE (fun hc => ?_) (fun hc => ?_)
    ·replace b36 := condT hc b36
     conv => whnf
     have e := Option.some.inj b36
     replace e := hret36 _ e.symm
     rw [e] at r36
     replace e := Option.some.inj r36
     subst e
     repeat' first | exact rA _ | (refine W.drawn TT_ok hmix1 rfl ?_; conv => whnf) | exact clA _ | (refine And.intro ?_ ?_ <;> conv => whnf) | exact clG _ | (refine gand ?_ h; assumption) | exact clN _ | fail
    ·replace b36 := condF hc b36
     conv => whnf
     repeat' first | exact rA _ | refine parkI ?_ | (refine W.drawn TT_ok hmix1 rfl ?_; conv => whnf) | exact clA _ | (refine And.intro ?_ ?_ <;> conv => whnf) | exact clG _ | (refine gand ?_ h; assumption) | exact clN _ | fail
     have e := Option.some.inj b36
     refine LoopW.norm [(0, (LV.ro 1 (a0.map iC))), (1, (LV.ro 1 (a1.map iC))), (12, (I (((a0.map iC).length : Nat) : Int))), (13, (I ((k36 + 1 : Nat) : Int)))] 0 [] ⟨rfl, rfl, rfl, (congrArg (LV.int .i64) (w64_nat _ (by omega))), trivial⟩ trivial blT rfl (K36 _ e.symm)
   ·exact (Bool.false_ne_true (hc.symm.trans hd)).elim

def law17_alive  : Option Bool :=
 (flood_Steps (⟨2, ([(⟨1, ([(⟨0, 1, true⟩ : LinkT), (⟨1, 1, true⟩ : LinkT)] : (List LinkT))⟩ : PlanT)] : (List PlanT)), []⟩ : LanT) ([([true, true] : (List Bool))] : (List (List Bool))) 0).bind fun y5 =>
 (bif (decide (y5.2 = 0)) then
  (ref06_Same y5.1 ([0, 1] : (List Int))).bind fun y7 =>
  some (bif (decide (y5.2 = 0)) then y7 else false)
 else
  some false)

theorem c_law17_alive  (r : Bool) (h : law17_alive  = some r) : CallP Try.prog 27 [] (LV.bool r) := by
 unfold law17_alive at h
 refine .intro nlA (.intro TT_ok Try.func27 rfl rfl [0, 1, 2, 3, 3000002] rfl ?_)
 conv => whnf
 replace h := bindS h
 obtain ⟨y5, hy5, h⟩ := h
 have c6 : CallP Try.prog 47 [(LV.agg [(I 2), (LV.ro 2 [[(I 1), (LV.ro 3 [[(I 0), (I 1), (LV.bool true)], [(I 1), (I 1), (LV.bool true)]])]]), (LV.ro 2 ([] : List (List LV)))]), (LV.ro 1 [[(LV.ro 1 [[(LV.bool true)], [(LV.bool true)]])]]), (I 0)] (LV.tup [(LV.ro 1 (y5.1.map iC)), (I y5.2)]) := by first | exact c_flood_Steps (⟨2, ([(⟨1, ([(⟨0, 1, true⟩ : LinkT), (⟨1, 1, true⟩ : LinkT)] : (List LinkT))⟩ : PlanT)] : (List PlanT)), []⟩ : LanT) ([([true, true] : (List Bool))] : (List (List Bool))) 0 _ hy5 | (simpa only [se_map, se_byL, se_len, se_ch, List.length_map] using c_flood_Steps (⟨2, ([(⟨1, ([(⟨0, 1, true⟩ : LinkT), (⟨1, 1, true⟩ : LinkT)] : (List LinkT))⟩ : PlanT)] : (List PlanT)), []⟩ : LanT) ([([true, true] : (List Bool))] : (List (List Bool))) 0 _ hy5) | (simpa only [se_map, se_byL, se_len, se_ch, List.length_map, LanT.cells, LinkT.cells, PlanT.cells] using c_flood_Steps (⟨2, ([(⟨1, ([(⟨0, 1, true⟩ : LinkT), (⟨1, 1, true⟩ : LinkT)] : (List LinkT))⟩ : PlanT)] : (List PlanT)), []⟩ : LanT) ([([true, true] : (List Bool))] : (List (List Bool))) 0 _ hy5)
 repeat' first | exact rA _ | refine parkI ?_ | (refine CallP.use (CallP.up c6 upT) ?_; conv => whnf) | exact clA _ | (refine And.intro ?_ ?_ <;> conv => whnf) | exact clG _ | (refine gand ?_ h; assumption) | exact clN _ | fail
 refine parkE (fun hg1_ => ?_) (fun hg1_ => ?_)
 ·replace h := condT (by first | exact hg1_ | simpa only [se_len, se_ch, List.length_map] using hg1_) h
  conv => whnf
  replace h := bindS h
  obtain ⟨y7, hy7, h⟩ := h
  have c8 : CallP Try.prog 25 [(LV.ro 1 (y5.1.map iC)), (LV.ro 1 [[(I 0)], [(I 1)]])] (LV.bool y7) := by first | exact c_ref06_Same y5.1 ([0, 1] : (List Int)) _ hy7 | (simpa only [se_map, se_byL, se_len, se_ch, List.length_map] using c_ref06_Same y5.1 ([0, 1] : (List Int)) _ hy7)
  have e := Option.some.inj h
  subst e
  repeat' first | exact rA _ | ((with_reducible refine parkX hg1_ ?_); conv => whnf) | (refine CallP.use c8 ?_; conv => whnf) | exact clA _ | (refine And.intro ?_ ?_ <;> conv => whnf) | exact clG _ | (refine gand ?_ h; assumption) | exact clN _ | (intro hq_; conv => whnf) | fail
 ·replace h := condF (by first | exact hg1_ | simpa only [se_len, se_ch, List.length_map] using hg1_) h
  conv => whnf
  have e := Option.some.inj h
  subst e
  repeat' first | exact rA _ | exact (by first | exact hg1_ | simpa using hg1_ : _ = false) | (refine ⟨?_, True.intro⟩; first | exact hg1_ | (simpa using hg1_; done)) | exact clA _ | (refine And.intro ?_ ?_ <;> conv => whnf) | exact clG _ | (refine gand ?_ h; assumption) | exact clN _ | (intro hq_; conv => whnf) | fail

def flood_Reach_c0 (y11 : (List Int)) (k37 : Nat) (s37 : (List Int)) : Option (Step ((List Int) × Int) (List Int)) :=
 grd ((0 : Int) ≤ ((k37 : Nat) : Int) ∧ ((k37 : Nat) : Int) < ((y11.length : Nat) : Int)) <|
 (gixN y11 (((k37 : Nat) : Int) : Int).toNat).bind fun v14 =>
 (bif (decide (0 ≤ v14)) then
  grd (fits ((s37 ++ ([((k37 : Nat) : Int)] : (List Int))) : List Int).length 8) <|
  some (.nxt (s37 ++ ([((k37 : Nat) : Int)] : (List Int))))
 else
  some (.nxt s37))

def flood_Reach (a0 : LanT) (a1 : (List (List Bool))) (a2 : Int) : Option ((List Int) × Int) :=
 (flood_may a0 a1 ([a2] : (List Int))).bind fun y9 =>
 (bif (!decide (y9 = 0)) then
  some ([], y9)
 else
  (flood_steps a0 a1 a2).bind fun y11 =>
  aft (rangeN (flood_Reach_c0 y11) a0.Segs ([] : (List Int))) fun s37 =>
  some (s37, 0))

theorem c_flood_Reach (a0 : LanT) (a1 : (List (List Bool))) (a2 : Int) (r : ((List Int) × Int)) (h : flood_Reach a0 a1 a2 = some r) : CallP Try.prog 28 [(LV.agg [(I a0.Segs), (LV.ro 2 (a0.Plans.map PlanT.cells)), (LV.ro 2 (a0.Hosts.map HostT.cells))]), (LV.ro 1 (a1.map (roC 1 bC))), (I a2)] (LV.tup [(LV.ro 1 (r.1.map iC)), (I r.2)]) := by
 unfold flood_Reach at h
 refine .intro nlA (.intro TT_ok Try.func28 rfl rfl [0, 1, 2, 3, 6, 7, 8, 9, 10, 11, 18, 25, 26, 27, 33] rfl ?_)
 conv => whnf
 replace h := bindS h
 obtain ⟨y9, hy9, h⟩ := h
 have c10 : CallP Try.prog 48 [(LV.agg [(I a0.Segs), (LV.ro 2 (a0.Plans.map PlanT.cells)), (LV.ro 2 (a0.Hosts.map HostT.cells))]), (LV.ro 1 (a1.map (roC 1 bC))), (LV.ro 1 [[(I a2)]])] (I y9) := by first | exact c_flood_may a0 a1 ([a2] : (List Int)) _ hy9 | (simpa only [se_map, se_byL, se_len, se_ch, List.length_map] using c_flood_may a0 a1 ([a2] : (List Int)) _ hy9)
 repeat' first | exact rA _ | refine parkI ?_ | (refine CallP.use c10 ?_; conv => whnf) | exact clA _ | (refine And.intro ?_ ?_ <;> conv => whnf) | exact clN _ | fail
 refine parkE (fun hc => ?_) (fun hc => ?_)
 ·replace h := condT hc h
  conv => whnf
  have e := Option.some.inj h
  subst e
  repeat' first | exact rA _ | exact clA _ | (refine And.intro ?_ ?_ <;> conv => whnf) | exact clG _ | (refine gand ?_ h; assumption) | exact clN _ | fail
 ·replace h := condF hc h
  conv => whnf
  replace h := bindS h
  obtain ⟨y11, hy11, h⟩ := h
  have c12 := cf_flood_steps a0 a1 a2 _ hy11
  repeat' first | exact rA _ | refine parkI ?_ | (refine CallW.done (CallF.at c12 nlA (NLss_map' _)) ?_; conv => whnf) | (refine ⟨_, _, CallF.at c12 nlA (NLss_map' _), ?_⟩; conv => whnf) | (refine And.intro ?_ ?_ <;> conv => whnf) | fail
  replace h := aftS h
  obtain ⟨O37, hO37, r37⟩ := h
  refine LoopW.virt 9 3 1 rfl ?_
  refine LoopW.norm [(9, (LV.sl 3 0 (([] : (List Int)).map iC).length)), (10, (LV.sl 2 0 (y11.map iC).length)), (25, (I a0.Segs)), (26, (I ((0 : Nat) : Int)))] 4 [(3, (.row 3 1 (([] : (List Int)).map iC))), (2, (.row 3 1 (y11.map iC)))] ⟨(by exact congrArg (LV.sl 3 0) (clL _ : 0 = (([] : (List Int)).map iC).length)), rfl, rfl, rfl, trivial⟩ ⟨⟨(congrArg (fun q => some (Blk.row 3 1 q)) (smT : ([] : List (List LV)) = (([] : (List Int)).map iC))), rfl, NLss_bel (NLss_map' _)⟩, ⟨⟨rfl, rfl, NLss_bel (NLss_map' _)⟩, trivial⟩⟩ blT rfl ?_
  refine LoopW.forN (fun k37 s37 => [(9, (LV.sl 3 0 (s37.map iC).length)), (10, (LV.sl 2 0 (y11.map iC).length)), (25, (I a0.Segs)), (26, (I ((k37 : Nat) : Int)))]) (fun s37 => ⟨4, [(3, (.row 3 1 (s37.map iC))), (2, (.row 3 1 (y11.map iC)))]⟩) hO37 (fun hl37 s37 hs37 => ?_) (fun hl37 k37 s37 o37 hk37 b37 K37 hret37 hbrk37 => ?_)
  ·rw [hs37] at r37
   dsimp only [aftM] at r37
   have hd : decide ((((a0.Segs : Int).toNat : Nat) : Int) < a0.Segs) = false := by rw [decide_eq_false_iff_not]; (try simp only [se_len, se_ch, List.length_map]); omega
   refine LoopW.round TT_ok [0, 1, 2, 3, 6, 7, 8, 9, 10, 11, 18, 25, 26, 27, 33] ?_
   conv => whnf
   repeat' first | exact rA _ | refine parkI ?_ | (refine And.intro ?_ ?_ <;> conv => whnf) | fail
   refine parkE (fun hc => ?_) (fun hc => ?_)
   ·exact (Bool.false_ne_true (hd.symm.trans hc)).elim
   ·clear hd
    conv => whnf
    have e := Option.some.inj r37
    subst e
    repeat' first | exact rA _ | exact clA _ | (refine And.intro ?_ ?_ <;> conv => whnf) | exact clG _ | (refine gand ?_ h; assumption) | exact clN _ | fail
  ·unfold flood_Reach_c0 at b37
   have hd : decide (((k37 : Nat) : Int) < a0.Segs) = true := by rw [decide_eq_true_eq]; (try simp only [se_len, se_ch, List.length_map] at hk37); (try simp only [se_len, se_ch, List.length_map]); omega
   refine LoopW.round TT_ok [0, 1, 2, 3, 6, 7, 8, 9, 10, 11, 18, 25, 26, 27, 33] ?_
   conv => whnf
   repeat' first | exact rA _ | refine parkI ?_ | (refine And.intro ?_ ?_ <;> conv => whnf) | fail
   refine parkE (fun hc => ?_) (fun hc => ?_)
   ·clear hd
    conv => whnf
    replace b37 := grdS b37
    obtain ⟨g13, b37⟩ := b37
    replace g13 : (0 : Int) ≤ ((k37 : Nat) : Int) ∧ ((k37 : Nat) : Int) < (((y11.map iC).length : Nat) : Int) := by simpa only [se_len, se_ch, List.length_map] using g13
    replace b37 := bindS b37
    obtain ⟨v14, hv14, b37⟩ := b37
    have i15 : nth (y11.map iC) (0 + ((((k37 : Nat) : Int) : Int).toNat)) = some [(I v14)] := by simpa only [se_map, se_len, se_ch, List.length_map, nth_eq, Nat.zero_add, List.getElem?_map] using gixNF (f := iC) hv14
    repeat' first | exact rA _ | refine parkI ?_ | exact g13 | (rw [i15]; conv => whnf) | (refine And.intro ?_ ?_ <;> conv => whnf) | fail
    refine parkE (fun hc => ?_) (fun hc => ?_)
    ·replace b37 := condT hc b37
     conv => whnf
     replace b37 := grdS b37
     obtain ⟨g16, b37⟩ := b37
     replace g16 : fits (((s37.map iC) ++ [[(I ((k37 : Nat) : Int))]])).length 8 := by simpa only [se_len, se_ch, List.length_map] using g16
     repeat' first | exact rA _ | refine parkI ?_ | exact g16 | exact clA _ | (refine And.intro ?_ ?_ <;> conv => whnf) | exact clN _ | fail
     have e := Option.some.inj b37
     refine LoopW.ren [(5, 3), (2, 2)] [(9, (LV.sl 3 0 ((s37 ++ ([((k37 : Nat) : Int)] : (List Int))).map iC).length)), (10, (LV.sl 2 0 (y11.map iC).length)), (25, (I a0.Segs)), (26, (I ((k37 + 1 : Nat) : Int)))] 4 [(3, (.row 3 1 ((s37 ++ ([((k37 : Nat) : Int)] : (List Int))).map iC))), (2, (.row 3 1 (y11.map iC)))] rfl ⟨(by exact congrArg (LV.sl 3 0) (clL _ : (((s37.map iC) ++ [[(I ((k37 : Nat) : Int))]])).length = ((s37 ++ ([((k37 : Nat) : Int)] : (List Int))).map iC).length)), rfl, rfl, (congrArg (LV.int .i64) (w64_nat _ (by omega))), trivial⟩ ⟨⟨rfl, rfl, .inl ⟨(smT : (((s37.map iC) ++ [[(I ((k37 : Nat) : Int))]]) : List (List LV)) = ((s37 ++ ([((k37 : Nat) : Int)] : (List Int))).map iC)), nlT⟩⟩, rfl, rfl, ⟨⟨rfl, rfl, .inl ⟨rfl, nlT⟩⟩, rfl, rfl, trivial⟩⟩ rfl (K37 _ e.symm)
    ·replace b37 := condF hc b37
     conv => whnf
     repeat' first | exact rA _ | refine parkI ?_ | (refine And.intro ?_ ?_ <;> conv => whnf) | fail
     have e := Option.some.inj b37
     refine LoopW.norm [(9, (LV.sl 3 0 (s37.map iC).length)), (10, (LV.sl 2 0 (y11.map iC).length)), (25, (I a0.Segs)), (26, (I ((k37 + 1 : Nat) : Int)))] 4 [(3, (.row 3 1 (s37.map iC))), (2, (.row 3 1 (y11.map iC)))] ⟨rfl, rfl, rfl, (congrArg (LV.int .i64) (w64_nat _ (by omega))), trivial⟩ ⟨⟨rfl, rfl, NLss_bel (NLss_map' _)⟩, ⟨⟨rfl, rfl, NLss_bel (NLss_map' _)⟩, trivial⟩⟩ blT rfl (K37 _ e.symm)
   ·exact (Bool.false_ne_true (hc.symm.trans hd)).elim

def flood_Copies_1 (a0 : Int) (q1 : (List Int)) : Option Bool :=
 (gix q1 a0).bind fun v17 =>
 some (decide (0 ≤ v17))

theorem c_flood_Copies_1 (a0 : Int) (q1 : (List Int)) (r : Bool) (h : flood_Copies_1 a0 q1 = some r) : CallP Try.prog 52 [(I a0), (LV.rptr [(LV.ro 1 (q1.map iC))])] (LV.bool r) := by
 unfold flood_Copies_1 at h
 refine .intro nlA (.intro TT_ok Try.func52 rfl rfl [0, 1, 3] rfl ?_)
 conv => whnf
 replace h := bindS h
 obtain ⟨v17, hv17, h⟩ := h
 have i18 := gixF (f := iC) hv17
 have e := Option.some.inj h
 subst e
 repeat' first | exact rA _ | (refine ⟨_, i18, ?_⟩; conv => whnf) | exact clA _ | (refine And.intro ?_ ?_ <;> conv => whnf) | exact clG _ | (refine gand ?_ h; assumption) | exact clN _ | fail

def flood_Copies_c0 (a0 : LanT) (a1 : (List (List Bool))) (y13 : (List Int)) (k38 : Nat) (x38 : PlanT) (s38 : Int) : Option (Step (Int × Int) Int) :=
 (flood_opens a0 a1 ((k38 : Nat) : Int)).bind fun y15 =>
 (slices_ContainsFunc_int y15 (fun x0_ => flood_Copies_1 x0_ y13)).bind fun y17 =>
 (bif y17 then
  some (.nxt (IntKind.i64.wrap (s38 + (IntKind.i64.wrap (((y15.length : Nat) : Int) - 1)))))
 else
  some (.nxt s38))

def flood_Copies (a0 : LanT) (a1 : (List (List Bool))) (a2 : Int) : Option (Int × Int) :=
 (flood_may a0 a1 ([a2] : (List Int))).bind fun y11 =>
 (bif (!decide (y11 = 0)) then
  some (0, y11)
 else
  (flood_steps a0 a1 a2).bind fun y13 =>
  aft (rangeL (flood_Copies_c0 a0 a1 y13) a0.Plans 0) fun s38 =>
  some (s38, 0))

theorem c_flood_Copies (a0 : LanT) (a1 : (List (List Bool))) (a2 : Int) (r : (Int × Int)) (h : flood_Copies a0 a1 a2 = some r) : CallP Try.prog 29 [(LV.agg [(I a0.Segs), (LV.ro 2 (a0.Plans.map PlanT.cells)), (LV.ro 2 (a0.Hosts.map HostT.cells))]), (LV.ro 1 (a1.map (roC 1 bC))), (I a2)] (LV.tup [(I r.1), (I r.2)]) := by
 unfold flood_Copies at h
 refine .intro nlA (.intro TT_ok Try.func29 rfl rfl [0, 1, 2, 3, 6, 7, 8, 9, 10, 11, 12, 19, 27, 28, 29, 37, 1000051] rfl ?_)
 conv => whnf
 replace h := bindS h
 obtain ⟨y11, hy11, h⟩ := h
 have c12 : CallP Try.prog 48 [(LV.agg [(I a0.Segs), (LV.ro 2 (a0.Plans.map PlanT.cells)), (LV.ro 2 (a0.Hosts.map HostT.cells))]), (LV.ro 1 (a1.map (roC 1 bC))), (LV.ro 1 [[(I a2)]])] (I y11) := by first | exact c_flood_may a0 a1 ([a2] : (List Int)) _ hy11 | (simpa only [se_map, se_byL, se_len, se_ch, List.length_map] using c_flood_may a0 a1 ([a2] : (List Int)) _ hy11)
 repeat' first | exact rA _ | refine parkI ?_ | (refine CallP.use c12 ?_; conv => whnf) | exact clA _ | (refine And.intro ?_ ?_ <;> conv => whnf) | exact clN _ | fail
 refine parkE (fun hc => ?_) (fun hc => ?_)
 ·replace h := condT hc h
  conv => whnf
  have e := Option.some.inj h
  subst e
  repeat' first | exact rA _ | exact clA _ | (refine And.intro ?_ ?_ <;> conv => whnf) | exact clG _ | (refine gand ?_ h; assumption) | exact clN _ | fail
 ·replace h := condF hc h
  conv => whnf
  replace h := bindS h
  obtain ⟨y13, hy13, h⟩ := h
  have c14 := cf_flood_steps a0 a1 a2 _ hy13
  repeat' first | exact rA _ | refine parkI ?_ | (refine CallW.done (CallF.at c14 nlA (NLss_map' _)) ?_; conv => whnf) | (refine ⟨_, _, CallF.at c14 nlA (NLss_map' _), ?_⟩; conv => whnf) | (refine And.intro ?_ ?_ <;> conv => whnf) | fail
  replace h := aftS h
  obtain ⟨O38, hO38, r38⟩ := h
  refine LoopW.norm [(1, (LV.ro 1 (a1.map (roC 1 bC)))), (3, (LV.ptr 0 0 0)), (9, (LV.ptr 3 0 0)), (10, (I 0)), (27, (I (((a0.Plans.map PlanT.cells).length : Nat) : Int))), (28, (I ((0 : Nat) : Int)))] 4 [(0, (.row 25 3 [[(I a0.Segs), (LV.ro 2 (a0.Plans.map PlanT.cells)), (LV.ro 2 (a0.Hosts.map HostT.cells))]])), (3, (.row 47 1 [[(LV.sl 2 0 (y13.map iC).length)]])), (2, (.row 3 1 (y13.map iC)))] ⟨rfl, rfl, rfl, rfl, rfl, rfl, trivial⟩ ⟨⟨rfl, rfl, blT⟩, ⟨⟨rfl, rfl, blT⟩, ⟨⟨rfl, rfl, NLss_bel (NLss_map' _)⟩, trivial⟩⟩⟩ blT rfl ?_
  refine LoopW.forR (fun k38 s38 => [(1, (LV.ro 1 (a1.map (roC 1 bC)))), (3, (LV.ptr 0 0 0)), (9, (LV.ptr 3 0 0)), (10, (I s38)), (27, (I (((a0.Plans.map PlanT.cells).length : Nat) : Int))), (28, (I ((k38 : Nat) : Int)))]) (fun s38 => ⟨4, [(0, (.row 25 3 [[(I a0.Segs), (LV.ro 2 (a0.Plans.map PlanT.cells)), (LV.ro 2 (a0.Hosts.map HostT.cells))]])), (3, (.row 47 1 [[(LV.sl 2 0 (y13.map iC).length)]])), (2, (.row 3 1 (y13.map iC)))]⟩) hO38 (fun hl38 s38 hs38 => ?_) (fun hl38 k38 x38 s38 o38 hk38 hx38 b38 K38 hret38 hbrk38 => ?_)
  ·rw [hs38] at r38
   dsimp only [aftM] at r38
   have hd : decide (((a0.Plans.length : Nat) : Int) < (((a0.Plans.map PlanT.cells).length : Nat) : Int)) = false := by rw [decide_eq_false_iff_not]; (try simp only [se_len, se_ch, List.length_map]); omega
   refine LoopW.round TT_ok [0, 1, 2, 3, 6, 7, 8, 9, 10, 11, 12, 19, 27, 28, 29, 37, 1000051] ?_
   conv => whnf
   repeat' first | exact rA _ | refine parkI ?_ | (refine And.intro ?_ ?_ <;> conv => whnf) | fail
   refine parkE (fun hc => ?_) (fun hc => ?_)
   ·exact (Bool.false_ne_true (hd.symm.trans hc)).elim
   ·clear hd
    conv => whnf
    have e := Option.some.inj r38
    subst e
    repeat' first | exact rA _ | exact clA _ | (refine And.intro ?_ ?_ <;> conv => whnf) | exact clG _ | (refine gand ?_ h; assumption) | exact clN _ | fail
  ·unfold flood_Copies_c0 at b38
   have hd : decide (((k38 : Nat) : Int) < (((a0.Plans.map PlanT.cells).length : Nat) : Int)) = true := by rw [decide_eq_true_eq]; (try simp only [se_len, se_ch, List.length_map] at hk38); (try simp only [se_len, se_ch, List.length_map]); omega
   refine LoopW.round TT_ok [0, 1, 2, 3, 6, 7, 8, 9, 10, 11, 12, 19, 27, 28, 29, 37, 1000051] ?_
   conv => whnf
   repeat' first | exact rA _ | refine parkI ?_ | (refine And.intro ?_ ?_ <;> conv => whnf) | fail
   refine parkE (fun hc => ?_) (fun hc => ?_)
   ·clear hd
    conv => whnf
    replace b38 := bindS b38
    obtain ⟨y15, hy15, b38⟩ := b38
    have c16 := cf_flood_opens a0 a1 ((k38 : Nat) : Int) _ hy15
    replace b38 := bindS b38
    obtain ⟨y17, hy17, b38⟩ := b38
    have c18 := c_slices_ContainsFunc_int y15 52 [] [(LV.rptr [(LV.ro 1 (y13.map iC))])] (fun x0_ => flood_Copies_1 x0_ y13) (fun x0_ r h => c_flood_Copies_1 x0_ y13 r h) nlB _ hy17
    repeat' first | exact rA _ | refine parkI ?_ | (refine CallW.done (CallF.at c16 nlA (NLss_map' _)) ?_; conv => whnf) | (refine ⟨_, _, CallF.at c16 nlA (NLss_map' _), ?_⟩; conv => whnf) | (refine CallW.done (CallP.lendG c18 nlB (show Lents _ [(LV.sl 4 0 (y15.map iC).length), (LV.func (.func 52) [] [(LV.ptr 3 0 0)])] [(LV.ro 1 (y15.map iC)), (LV.func (.func 52) [] [(LV.rptr [(LV.ro 1 (y13.map iC))])])] from ⟨Lent.sl rfl lnT, .func True.intro ⟨.box rfl ⟨Lent.sl rfl lnT, True.intro⟩, True.intro⟩, True.intro⟩)) ?_; conv => whnf) | (refine And.intro ?_ ?_ <;> conv => whnf) | fail
    refine parkE (fun hc => ?_) (fun hc => ?_)
    ·replace b38 := condT hc b38
     conv => whnf
     repeat' first | exact rA _ | refine parkI ?_ | (refine And.intro ?_ ?_ <;> conv => whnf) | fail
     have e := Option.some.inj b38
     refine LoopW.norm [(1, (LV.ro 1 (a1.map (roC 1 bC)))), (3, (LV.ptr 0 0 0)), (9, (LV.ptr 3 0 0)), (10, (I (IntKind.i64.wrap (s38 + (IntKind.i64.wrap (((y15.length : Nat) : Int) - 1)))))), (27, (I (((a0.Plans.map PlanT.cells).length : Nat) : Int))), (28, (I ((k38 + 1 : Nat) : Int)))] 4 [(0, (.row 25 3 [[(I a0.Segs), (LV.ro 2 (a0.Plans.map PlanT.cells)), (LV.ro 2 (a0.Hosts.map HostT.cells))]])), (3, (.row 47 1 [[(LV.sl 2 0 (y13.map iC).length)]])), (2, (.row 3 1 (y13.map iC)))] ⟨rfl, rfl, rfl, (smT : ((I (IntKind.i64.wrap (s38 + (IntKind.i64.wrap ((((y15.map iC).length : Nat) : Int) - 1))))) : LV) = (I (IntKind.i64.wrap (s38 + (IntKind.i64.wrap (((y15.length : Nat) : Int) - 1)))))), rfl, (congrArg (LV.int .i64) (w64_nat _ (by omega))), trivial⟩ ⟨⟨rfl, rfl, blT⟩, ⟨⟨rfl, rfl, blT⟩, ⟨⟨rfl, rfl, NLss_bel (NLss_map' _)⟩, trivial⟩⟩⟩ blT rfl (K38 _ e.symm)
    ·replace b38 := condF hc b38
     conv => whnf
     repeat' first | exact rA _ | refine parkI ?_ | (refine And.intro ?_ ?_ <;> conv => whnf) | fail
     have e := Option.some.inj b38
     refine LoopW.norm [(1, (LV.ro 1 (a1.map (roC 1 bC)))), (3, (LV.ptr 0 0 0)), (9, (LV.ptr 3 0 0)), (10, (I s38)), (27, (I (((a0.Plans.map PlanT.cells).length : Nat) : Int))), (28, (I ((k38 + 1 : Nat) : Int)))] 4 [(0, (.row 25 3 [[(I a0.Segs), (LV.ro 2 (a0.Plans.map PlanT.cells)), (LV.ro 2 (a0.Hosts.map HostT.cells))]])), (3, (.row 47 1 [[(LV.sl 2 0 (y13.map iC).length)]])), (2, (.row 3 1 (y13.map iC)))] ⟨rfl, rfl, rfl, rfl, rfl, (congrArg (LV.int .i64) (w64_nat _ (by omega))), trivial⟩ ⟨⟨rfl, rfl, blT⟩, ⟨⟨rfl, rfl, blT⟩, ⟨⟨rfl, rfl, NLss_bel (NLss_map' _)⟩, trivial⟩⟩⟩ blT rfl (K38 _ e.symm)
   ·exact (Bool.false_ne_true (hc.symm.trans hd)).elim

def ref06_Has_c0 (a1 : Int) (k40 : Nat) (x40 : Int) (s40 : Unit) : Option (Step Bool Unit) :=
 (bif (decide (x40 = a1)) then
  some (.ret true)
 else
  some (.nxt ()))

def ref06_Has (a0 : (List Int)) (a1 : Int) : Option Bool :=
 aft (rangeL (ref06_Has_c0 a1) a0 ()) fun s40 =>
 some false

theorem c_ref06_Has (a0 : (List Int)) (a1 : Int) (r : Bool) (h : ref06_Has a0 a1 = some r) : CallP Try.prog 30 [(LV.ro 1 (a0.map iC)), (I a1)] (LV.bool r) := by
 unfold ref06_Has at h
 refine .intro nlA (.intro TT_ok Try.func30 rfl rfl [0, 1, 4, 6, 7, 8, 9, 10, 15] rfl ?_)
 conv => whnf
 repeat' first | exact rA _ | refine parkI ?_ | (refine And.intro ?_ ?_ <;> conv => whnf) | fail
 replace h := aftS h
 obtain ⟨O40, hO40, r40⟩ := h
 refine LoopW.norm [(1, (I a1)), (7, (LV.ro 1 (a0.map iC))), (8, (I (((a0.map iC).length : Nat) : Int))), (9, (I ((0 : Nat) : Int)))] 0 [] ⟨rfl, rfl, rfl, rfl, trivial⟩ trivial blT rfl ?_
 refine LoopW.forR (fun k40 s40 => [(1, (I a1)), (7, (LV.ro 1 (a0.map iC))), (8, (I (((a0.map iC).length : Nat) : Int))), (9, (I ((k40 : Nat) : Int)))]) (fun s40 => ⟨0, []⟩) hO40 (fun hl40 s40 hs40 => ?_) (fun hl40 k40 x40 s40 o40 hk40 hx40 b40 K40 hret40 hbrk40 => ?_)
 ·rw [hs40] at r40
  dsimp only [aftM] at r40
  have hd : decide (((a0.length : Nat) : Int) < (((a0.map iC).length : Nat) : Int)) = false := by rw [decide_eq_false_iff_not]; (try simp only [se_len, se_ch, List.length_map]); omega
  refine LoopW.round TT_ok [0, 1, 4, 6, 7, 8, 9, 10, 15] ?_
  conv => whnf
  repeat' first | exact rA _ | refine parkI ?_ | (refine And.intro ?_ ?_ <;> conv => whnf) | fail
  refine parkE (fun hc => ?_) (fun hc => ?_)
  ·exact (Bool.false_ne_true (hd.symm.trans hc)).elim
  ·clear hd
   conv => whnf
   have e := Option.some.inj r40
   subst e
   repeat' first | exact rA _ | exact clA _ | (refine And.intro ?_ ?_ <;> conv => whnf) | exact clG _ | (refine gand ?_ h; assumption) | exact clN _ | fail
 ·unfold ref06_Has_c0 at b40
  have hd : decide (((k40 : Nat) : Int) < (((a0.map iC).length : Nat) : Int)) = true := by rw [decide_eq_true_eq]; (try simp only [se_len, se_ch, List.length_map] at hk40); (try simp only [se_len, se_ch, List.length_map]); omega
  refine LoopW.round TT_ok [0, 1, 4, 6, 7, 8, 9, 10, 15] ?_
  conv => whnf
  repeat' first | exact rA _ | refine parkI ?_ | (refine And.intro ?_ ?_ <;> conv => whnf) | fail
  refine parkE (fun hc => ?_) (fun hc => ?_)
  ·clear hd
   conv => whnf
   repeat' first | exact rA _ | refine parkI ?_ | (refine ⟨_, (kixF (f := iC) hx40), ?_⟩; conv => whnf) | (refine And.intro ?_ ?_ <;> conv => whnf) | fail
   refine parkE (fun hc => ?_) (fun hc => ?_)
   ·replace b40 := condT hc b40
    conv => whnf
    have e := Option.some.inj b40
    replace e := hret40 _ e.symm
    rw [e] at r40
    replace e := Option.some.inj r40
    subst e
    repeat' first | exact rA _ | exact clA _ | (refine And.intro ?_ ?_ <;> conv => whnf) | exact clG _ | (refine gand ?_ h; assumption) | exact clN _ | fail
   ·replace b40 := condF hc b40
    conv => whnf
    repeat' first | exact rA _ | refine parkI ?_ | (refine And.intro ?_ ?_ <;> conv => whnf) | fail
    have e := Option.some.inj b40
    refine LoopW.norm [(1, (I a1)), (7, (LV.ro 1 (a0.map iC))), (8, (I (((a0.map iC).length : Nat) : Int))), (9, (I ((k40 + 1 : Nat) : Int)))] 0 [] ⟨rfl, rfl, rfl, (congrArg (LV.int .i64) (w64_nat _ (by omega))), trivial⟩ trivial blT rfl (K40 _ e.symm)
  ·exact (Bool.false_ne_true (hc.symm.trans hd)).elim

def law17_FloodTree_c0 (y9 : ((List Int) × Int)) (k39 : Nat) (x39 : Int) (s39 : Unit) : Option (Step Bool Unit) :=
 (ref06_Has y9.1 x39).bind fun y39 =>
 (bif (!y39) then
  some (.ret false)
 else
  some (.nxt ()))

def law17_FloodTree (a0 : LanT) (a1 : Int) (a2 : Int) (a3 : Int) : Option Bool :=
 (law17_few a0).bind fun y1 =>
 (tree_Open y1).bind fun y3 =>
 (bif (!decide (y3.2 = 0)) then
  (law17_alive ).bind fun y5 =>
  some (bif y5 then (decide (y3.2 = 1)) else false)
 else
  (bif (decide (y1.Segs < 1)) then
   some false
  else
   grd ((y1.Segs : Int) ≠ 0) <|
   grd ((y1.Segs : Int) ≠ 0) <|
   (flood_Reach y1 y3.1 (((IntKind.i64.wrap (((a1).tmod y1.Segs) + y1.Segs))).tmod y1.Segs)).bind fun y9 =>
   (flood_Copies y1 y3.1 (((IntKind.i64.wrap (((a1).tmod y1.Segs) + y1.Segs))).tmod y1.Segs)).bind fun y11 =>
   (lan_Part y1 (((IntKind.i64.wrap (((a1).tmod y1.Segs) + y1.Segs))).tmod y1.Segs)).bind fun y13 =>
   (gd (!(bif (bif (!decide (y9.2 = 0)) then true else (!decide (y11.2 = 0))) then true else (!decide (y13.2 = 0)))) (ref06_Same y9.1 y13.1)).bind fun y15 =>
   (gd (!(bif (bif (bif (bif (!decide (y9.2 = 0)) then true else (!decide (y11.2 = 0))) then true else (!decide (y13.2 = 0))) then true else (!y15)) then true else (!decide (y11.1 = (IntKind.i64.wrap (((y13.1.length : Nat) : Int) - 1)))))) (law17_alive )).bind fun y17 =>
   (bif (bif (bif (bif (bif (bif (!decide (y9.2 = 0)) then true else (!decide (y11.2 = 0))) then true else (!decide (y13.2 = 0))) then true else (!y15)) then true else (!decide (y11.1 = (IntKind.i64.wrap (((y13.1.length : Nat) : Int) - 1))))) then true else (!y17)) then
    some false
   else
    (bif (decide (((y3.1.length : Nat) : Int) = 0)) then
     some true
    else
     grd ((((y3.1.length : Nat) : Int) : Int) ≠ 0) <|
     grd ((((y3.1.length : Nat) : Int) : Int) ≠ 0) <|
     (gix y3.1 (((IntKind.i64.wrap (((a2).tmod ((y3.1.length : Nat) : Int)) + ((y3.1.length : Nat) : Int)))).tmod ((y3.1.length : Nat) : Int))).bind fun v21 =>
     (bif (decide (((v21.length : Nat) : Int) = 0)) then
      some false
     else
      grd ((((v21.length : Nat) : Int) : Int) ≠ 0) <|
      grd ((((v21.length : Nat) : Int) : Int) ≠ 0) <|
      (gix v21 (((IntKind.i64.wrap (((a3).tmod ((v21.length : Nat) : Int)) + ((v21.length : Nat) : Int)))).tmod ((v21.length : Nat) : Int))).bind fun v25 =>
      grd (fits ((([] : (List (List Bool))) ++ y3.1) : List (List Bool)).length 24) <|
      grd (fits ((([] : (List Bool)) ++ v21) : List Bool).length 1) <|
      grd ((0 : Int) ≤ (((IntKind.i64.wrap (((a2).tmod ((y3.1.length : Nat) : Int)) + ((y3.1.length : Nat) : Int)))).tmod ((y3.1.length : Nat) : Int)) ∧ (((IntKind.i64.wrap (((a2).tmod ((y3.1.length : Nat) : Int)) + ((y3.1.length : Nat) : Int)))).tmod ((y3.1.length : Nat) : Int)) < (((([] : (List (List Bool))) ++ y3.1).length : Nat) : Int)) <|
      (gixN (([] : (List (List Bool))) ++ y3.1) ((((IntKind.i64.wrap (((a2).tmod ((y3.1.length : Nat) : Int)) + ((y3.1.length : Nat) : Int)))).tmod ((y3.1.length : Nat) : Int)) : Int).toNat).bind fun v30 =>
      grd ((0 : Int) ≤ (((IntKind.i64.wrap (((a2).tmod ((y3.1.length : Nat) : Int)) + ((y3.1.length : Nat) : Int)))).tmod ((y3.1.length : Nat) : Int)) ∧ (((IntKind.i64.wrap (((a2).tmod ((y3.1.length : Nat) : Int)) + ((y3.1.length : Nat) : Int)))).tmod ((y3.1.length : Nat) : Int)) < (((([] : (List (List Bool))) ++ y3.1).length : Nat) : Int)) <|
      grd ((0 : Int) ≤ (((IntKind.i64.wrap (((a3).tmod ((v21.length : Nat) : Int)) + ((v21.length : Nat) : Int)))).tmod ((v21.length : Nat) : Int)) ∧ (((IntKind.i64.wrap (((a3).tmod ((v21.length : Nat) : Int)) + ((v21.length : Nat) : Int)))).tmod ((v21.length : Nat) : Int)) < (((([] : (List Bool)) ++ v21).length : Nat) : Int)) <|
      (gixN (([] : (List Bool)) ++ v21) ((((IntKind.i64.wrap (((a3).tmod ((v21.length : Nat) : Int)) + ((v21.length : Nat) : Int)))).tmod ((v21.length : Nat) : Int)) : Int).toNat).bind fun v35 =>
      (flood_Reach y1 ((([] : (List (List Bool))) ++ y3.1).set ((((IntKind.i64.wrap (((a2).tmod ((y3.1.length : Nat) : Int)) + ((y3.1.length : Nat) : Int)))).tmod ((y3.1.length : Nat) : Int)) : Int).toNat ((([] : (List Bool)) ++ v21).set ((((IntKind.i64.wrap (((a3).tmod ((v21.length : Nat) : Int)) + ((v21.length : Nat) : Int)))).tmod ((v21.length : Nat) : Int)) : Int).toNat false)) (((IntKind.i64.wrap (((a1).tmod y1.Segs) + y1.Segs))).tmod y1.Segs)).bind fun y37 =>
      (bif (bif (!decide (y37.2 = 0)) then true else (decide (((y9.1.length : Nat) : Int) < ((y37.1.length : Nat) : Int)))) then
       some false
      else
       aft (rangeL (law17_FloodTree_c0 y9) y37.1 ()) fun s39 =>
       some (bif v25 then true else (decide (((y37.1.length : Nat) : Int) = ((y9.1.length : Nat) : Int))))))))))

theorem c_law17_FloodTree (a0 : LanT) (a1 : Int) (a2 : Int) (a3 : Int) (r : Bool) (h : law17_FloodTree a0 a1 a2 a3 = some r) : CallP Try.prog 7 [(LV.agg [(I a0.Segs), (LV.ro 2 (a0.Plans.map PlanT.cells)), (LV.ro 2 (a0.Hosts.map HostT.cells))]), (I a1), (I a2), (I a3)] (LV.bool r) := by
 unfold law17_FloodTree at h
 refine .intro nlA (.intro TT_ok Try.func7 rfl rfl [0, 1, 2, 3, 4, 8, 9, 10, 11, 12, 13, 14, 15, 16, 17, 18, 19, 20, 22, 31, 39, 96, 99, 115, 175, 176, 177, 178, 179, 185, 9000002] rfl ?_)
 conv => whnf
 replace h := bindS h
 obtain ⟨y1, hy1, h⟩ := h
 have c2 := c_law17_few a0 _ hy1
 replace h := bindS h
 obtain ⟨y3, hy3, h⟩ := h
 have c4 := c_tree_Open y1 _ hy3
 repeat' first | exact rA _ | refine parkI ?_ | (refine CallP.use c2 ?_; conv => whnf) | (refine ⟨_, _, CallP.at c2, ?_⟩; conv => whnf) | (refine ⟨_, fun _ => c2, ?_⟩; conv => whnf) | (refine CallP.use c4 ?_; conv => whnf) | (refine ⟨_, _, CallP.at c4, ?_⟩; conv => whnf) | (refine ⟨_, fun _ => c4, ?_⟩; conv => whnf) | (refine W.drawnM (id := 7) 0 TT_ok hmix1 [0, 0, 0, 0, 0, 0, 0, 0, 0, 0, 0] [0, 0, 0, 0, 0, 0, 0, 0, 0, 0, 0] rfl ?_; conv => whnf) | (refine W.drawnM (id := 18) 0 TT_ok hmix1 [0, 0, 0, 0, 0, 0, 0, 0, 0, 0, 0, 0, 0, 0, 0, 0, 0, 0, 0, 0] [0, 0, 0, 0, 0, 0, 0, 0, 0, 0, 0, 0, 0, 0, 0, 0, 0, 0, 0, 0] rfl ?_; conv => whnf) | exact clA _ | (refine And.intro ?_ ?_ <;> conv => whnf) | exact clG _ | (refine gand ?_ h; assumption) | exact clN _ | fail
 refine parkE (fun hc => ?_) (fun hc => ?_)
 ·replace h := condT hc h
  conv => whnf
  replace h := bindS h
  obtain ⟨y5, hy5, h⟩ := h
  have c6 := c_law17_alive  _ hy5
  have e := Option.some.inj h
  subst e
  repeat' first | exact rA _ | (refine CallP.use c6 ?_; conv => whnf) | (refine ⟨_, _, CallP.at c6, ?_⟩; conv => whnf) | (refine ⟨_, fun _ => c6, ?_⟩; conv => whnf) | (refine W.drawnM (id := 7) 0 TT_ok hmix1 [0, 0, 0, 0, 0, 0, 0, 0, 0, 0, 0] [0, 0, 0, 0, 0, 0, 0, 0, 0, 0, 0] rfl ?_; conv => whnf) | (refine W.drawnM (id := 18) 0 TT_ok hmix1 [0, 0, 0, 0, 0, 0, 0, 0, 0, 0, 0, 0, 0, 0, 0, 0, 0, 0, 0, 0] [0, 0, 0, 0, 0, 0, 0, 0, 0, 0, 0, 0, 0, 0, 0, 0, 0, 0, 0, 0] rfl ?_; conv => whnf) | exact clA _ | (refine And.intro ?_ ?_ <;> conv => whnf) | exact clG _ | (refine gand ?_ h; assumption) | exact clN _ | fail
 ·replace h := condF hc h
  conv => whnf
  repeat' first | exact rA _ | refine parkI ?_ | (refine W.drawnM (id := 7) 0 TT_ok hmix1 [0, 0, 0, 0, 0, 0, 0, 0, 0, 0, 0] [0, 0, 0, 0, 0, 0, 0, 0, 0, 0, 0] rfl ?_; conv => whnf) | (refine W.drawnM (id := 18) 0 TT_ok hmix1 [0, 0, 0, 0, 0, 0, 0, 0, 0, 0, 0, 0, 0, 0, 0, 0, 0, 0, 0, 0] [0, 0, 0, 0, 0, 0, 0, 0, 0, 0, 0, 0, 0, 0, 0, 0, 0, 0, 0, 0] rfl ?_; conv => whnf) | exact clA _ | (refine And.intro ?_ ?_ <;> conv => whnf) | exact clG _ | (refine gand ?_ h; assumption) | exact clN _ | fail
  refine parkE (fun hc => ?_) (fun hc => ?_)
  ·replace h := condT hc h
   conv => whnf
   have e := Option.some.inj h
   subst e
   repeat' first | exact rA _ | (refine W.drawnM (id := 7) 0 TT_ok hmix1 [0, 0, 0, 0, 0, 0, 0, 0, 0, 0, 0] [0, 0, 0, 0, 0, 0, 0, 0, 0, 0, 0] rfl ?_; conv => whnf) | (refine W.drawnM (id := 18) 0 TT_ok hmix1 [0, 0, 0, 0, 0, 0, 0, 0, 0, 0, 0, 0, 0, 0, 0, 0, 0, 0, 0, 0] [0, 0, 0, 0, 0, 0, 0, 0, 0, 0, 0, 0, 0, 0, 0, 0, 0, 0, 0, 0] rfl ?_; conv => whnf) | exact clA _ | (refine And.intro ?_ ?_ <;> conv => whnf) | exact clG _ | (refine gand ?_ h; assumption) | exact clN _ | fail
  ·replace h := condF hc h
   conv => whnf
   replace h := grdS h
   obtain ⟨g7, h⟩ := h
   replace h := grdS h
   obtain ⟨g8, h⟩ := h
   replace h := bindS h
   obtain ⟨y9, hy9, h⟩ := h
   have c10 := c_flood_Reach y1 y3.1 (((IntKind.i64.wrap (((a1).tmod y1.Segs) + y1.Segs))).tmod y1.Segs) _ hy9
   replace h := bindS h
   obtain ⟨y11, hy11, h⟩ := h
   have c12 := c_flood_Copies y1 y3.1 (((IntKind.i64.wrap (((a1).tmod y1.Segs) + y1.Segs))).tmod y1.Segs) _ hy11
   replace h := bindS h
   obtain ⟨y13, hy13, h⟩ := h
   have c14 := c_lan_Part y1 (((IntKind.i64.wrap (((a1).tmod y1.Segs) + y1.Segs))).tmod y1.Segs) _ hy13
   replace h := bindS h
   obtain ⟨y15, hy15, h⟩ := h
   have c16 := fun (hg : (!(bif (bif (!decide (y9.2 = 0)) then true else (!decide (y11.2 = 0))) then true else (!decide (y13.2 = 0)))) = true) => c_ref06_Same y9.1 y13.1 _ (gdS hg hy15)
   replace h := bindS h
   obtain ⟨y17, hy17, h⟩ := h
   have c18 := fun (hg : (!(bif (bif (bif (bif (!decide (y9.2 = 0)) then true else (!decide (y11.2 = 0))) then true else (!decide (y13.2 = 0))) then true else (!y15)) then true else (!decide (y11.1 = (IntKind.i64.wrap ((((y13.1.map iC).length : Nat) : Int) - 1)))))) = true) => c_law17_alive  _ (gdS (show (!(bif (bif (bif (bif (!decide (y9.2 = 0)) then true else (!decide (y11.2 = 0))) then true else (!decide (y13.2 = 0))) then true else (!y15)) then true else (!decide (y11.1 = (IntKind.i64.wrap (((y13.1.length : Nat) : Int) - 1)))))) = true by simpa only [se_len, se_ch, List.length_map] using hg) hy17)
   repeat' first | exact rA _ | refine parkI ?_ | (refine ⟨_, c16, ?_⟩; conv => whnf) | (refine ⟨_, c18, ?_⟩; conv => whnf) | exact g7 | exact g8 | (refine CallP.use c10 ?_; conv => whnf) | (refine ⟨_, _, CallP.at c10, ?_⟩; conv => whnf) | (refine ⟨_, fun _ => c10, ?_⟩; conv => whnf) | (refine CallP.use c12 ?_; conv => whnf) | (refine ⟨_, _, CallP.at c12, ?_⟩; conv => whnf) | (refine ⟨_, fun _ => c12, ?_⟩; conv => whnf) | (refine CallP.use c14 ?_; conv => whnf) | (refine ⟨_, _, CallP.at c14, ?_⟩; conv => whnf) | (refine ⟨_, fun _ => c14, ?_⟩; conv => whnf) | (refine W.drawnM (id := 7) 0 TT_ok hmix1 [0, 0, 0, 0, 0, 0, 0, 0, 0, 0, 0] [0, 0, 0, 0, 0, 0, 0, 0, 0, 0, 0] rfl ?_; conv => whnf) | (refine W.drawnM (id := 18) 0 TT_ok hmix1 [0, 0, 0, 0, 0, 0, 0, 0, 0, 0, 0, 0, 0, 0, 0, 0, 0, 0, 0, 0] [0, 0, 0, 0, 0, 0, 0, 0, 0, 0, 0, 0, 0, 0, 0, 0, 0, 0, 0, 0] rfl ?_; conv => whnf) | exact clA _ | (refine And.intro ?_ ?_ <;> conv => whnf) | exact clG _ | (refine gand ?_ h; assumption) | exact clN _ | fail
   refine parkE (fun hc => ?_) (fun hc => ?_)
   ·replace h := condT (by first | exact hc | (simpa only [se_len, se_ch, List.length_map] using hc; done) | (have h0 : (bif (bif (bif (bif (bif (!decide (y9.2 = 0)) then true else (!decide (y11.2 = 0))) then true else (!decide (y13.2 = 0))) then true else (!y15)) then true else (!decide (y11.1 = (IntKind.i64.wrap ((((y13.1.map iC).length : Nat) : Int) - 1))))) then true else (!y17)) = true := hc; simpa only [se_len, se_ch, List.length_map] using h0)) h
    conv => whnf
    have e := Option.some.inj h
    subst e
    repeat' first | exact rA _ | (refine W.drawnM (id := 7) 0 TT_ok hmix1 [0, 0, 0, 0, 0, 0, 0, 0, 0, 0, 0] [0, 0, 0, 0, 0, 0, 0, 0, 0, 0, 0] rfl ?_; conv => whnf) | (refine W.drawnM (id := 18) 0 TT_ok hmix1 [0, 0, 0, 0, 0, 0, 0, 0, 0, 0, 0, 0, 0, 0, 0, 0, 0, 0, 0, 0] [0, 0, 0, 0, 0, 0, 0, 0, 0, 0, 0, 0, 0, 0, 0, 0, 0, 0, 0, 0] rfl ?_; conv => whnf) | exact clA _ | (refine And.intro ?_ ?_ <;> conv => whnf) | exact clG _ | (refine gand ?_ h; assumption) | exact clN _ | fail
   ·replace h := condF (by first | exact hc | (simpa only [se_len, se_ch, List.length_map] using hc; done) | (have h0 : (bif (bif (bif (bif (bif (!decide (y9.2 = 0)) then true else (!decide (y11.2 = 0))) then true else (!decide (y13.2 = 0))) then true else (!y15)) then true else (!decide (y11.1 = (IntKind.i64.wrap ((((y13.1.map iC).length : Nat) : Int) - 1))))) then true else (!y17)) = false := hc; simpa only [se_len, se_ch, List.length_map] using h0)) h
    conv => whnf
    repeat' first | exact rA _ | refine parkI ?_ | (refine W.drawnM (id := 7) 0 TT_ok hmix1 [0, 0, 0, 0, 0, 0, 0, 0, 0, 0, 0] [0, 0, 0, 0, 0, 0, 0, 0, 0, 0, 0] rfl ?_; conv => whnf) | (refine W.drawnM (id := 18) 0 TT_ok hmix1 [0, 0, 0, 0, 0, 0, 0, 0, 0, 0, 0, 0, 0, 0, 0, 0, 0, 0, 0, 0] [0, 0, 0, 0, 0, 0, 0, 0, 0, 0, 0, 0, 0, 0, 0, 0, 0, 0, 0, 0] rfl ?_; conv => whnf) | exact clA _ | (refine And.intro ?_ ?_ <;> conv => whnf) | exact clG _ | (refine gand ?_ h; assumption) | exact clN _ | fail
    refine parkE (fun hc => ?_) (fun hc => ?_)
    ·replace h := condT (by first | exact hc | (simpa only [se_len, se_ch, List.length_map] using hc; done) | (have h0 : (decide ((((y3.1.map (roC 1 bC)).length : Nat) : Int) = 0)) = true := hc; simpa only [se_len, se_ch, List.length_map] using h0)) h
     conv => whnf
     have e := Option.some.inj h
     subst e
     repeat' first | exact rA _ | (refine W.drawnM (id := 7) 0 TT_ok hmix1 [0, 0, 0, 0, 0, 0, 0, 0, 0, 0, 0] [0, 0, 0, 0, 0, 0, 0, 0, 0, 0, 0] rfl ?_; conv => whnf) | (refine W.drawnM (id := 18) 0 TT_ok hmix1 [0, 0, 0, 0, 0, 0, 0, 0, 0, 0, 0, 0, 0, 0, 0, 0, 0, 0, 0, 0] [0, 0, 0, 0, 0, 0, 0, 0, 0, 0, 0, 0, 0, 0, 0, 0, 0, 0, 0, 0] rfl ?_; conv => whnf) | exact clA _ | (refine And.intro ?_ ?_ <;> conv => whnf) | exact clG _ | (refine gand ?_ h; assumption) | exact clN _ | fail
    ·replace h := condF (by first | exact hc | (simpa only [se_len, se_ch, List.length_map] using hc; done) | (have h0 : (decide ((((y3.1.map (roC 1 bC)).length : Nat) : Int) = 0)) = false := hc; simpa only [se_len, se_ch, List.length_map] using h0)) h
     conv => whnf
     replace h := grdS h
     obtain ⟨g19, h⟩ := h
     replace g19 : ((((y3.1.map (roC 1 bC)).length : Nat) : Int) : Int) ≠ 0 := by simpa only [se_len, se_ch, List.length_map] using g19
     replace h := grdS h
     obtain ⟨g20, h⟩ := h
     replace g20 : ((((y3.1.map (roC 1 bC)).length : Nat) : Int) : Int) ≠ 0 := by simpa only [se_len, se_ch, List.length_map] using g20
     replace h := bindS h
     obtain ⟨v21, hv21, h⟩ := h
     have i22 : (0 : Int) ≤ (((IntKind.i64.wrap (((a2).tmod (((y3.1.map (roC 1 bC)).length : Nat) : Int)) + (((y3.1.map (roC 1 bC)).length : Nat) : Int)))).tmod (((y3.1.map (roC 1 bC)).length : Nat) : Int)) ∧ (y3.1.map (roC 1 bC))[((((IntKind.i64.wrap (((a2).tmod (((y3.1.map (roC 1 bC)).length : Nat) : Int)) + (((y3.1.map (roC 1 bC)).length : Nat) : Int)))).tmod (((y3.1.map (roC 1 bC)).length : Nat) : Int)) : Int).toNat]? = some [(LV.ro 1 (v21.map bC))] := by simpa only [se_map, se_len, se_ch, List.length_map] using (gixF (f := (roC 1 bC)) hv21)
     repeat' first | exact rA _ | refine parkI ?_ | (refine ⟨_, i22, ?_⟩; conv => whnf) | exact g19 | exact g20 | (refine W.drawnM (id := 7) 0 TT_ok hmix1 [0, 0, 0, 0, 0, 0, 0, 0, 0, 0, 0] [0, 0, 0, 0, 0, 0, 0, 0, 0, 0, 0] rfl ?_; conv => whnf) | (refine W.drawnM (id := 18) 0 TT_ok hmix1 [0, 0, 0, 0, 0, 0, 0, 0, 0, 0, 0, 0, 0, 0, 0, 0, 0, 0, 0, 0] [0, 0, 0, 0, 0, 0, 0, 0, 0, 0, 0, 0, 0, 0, 0, 0, 0, 0, 0, 0] rfl ?_; conv => whnf) | exact clA _ | (refine And.intro ?_ ?_ <;> conv => whnf) | exact clG _ | (refine gand ?_ h; assumption) | exact clN _ | fail
     refine parkE (fun hc => ?_) (fun hc => ?_)
     ·replace h := condT (by first | exact hc | (simpa only [se_len, se_ch, List.length_map] using hc; done) | (have h0 : (decide ((((v21.map bC).length : Nat) : Int) = 0)) = true := hc; simpa only [se_len, se_ch, List.length_map] using h0)) h
      conv => whnf
      have e := Option.some.inj h
      subst e
      repeat' first | exact rA _ | (refine W.drawnM (id := 7) 0 TT_ok hmix1 [0, 0, 0, 0, 0, 0, 0, 0, 0, 0, 0] [0, 0, 0, 0, 0, 0, 0, 0, 0, 0, 0] rfl ?_; conv => whnf) | (refine W.drawnM (id := 18) 0 TT_ok hmix1 [0, 0, 0, 0, 0, 0, 0, 0, 0, 0, 0, 0, 0, 0, 0, 0, 0, 0, 0, 0] [0, 0, 0, 0, 0, 0, 0, 0, 0, 0, 0, 0, 0, 0, 0, 0, 0, 0, 0, 0] rfl ?_; conv => whnf) | exact clA _ | (refine And.intro ?_ ?_ <;> conv => whnf) | exact clG _ | (refine gand ?_ h; assumption) | exact clN _ | fail
     ·replace h := condF (by first | exact hc | (simpa only [se_len, se_ch, List.length_map] using hc; done) | (have h0 : (decide ((((v21.map bC).length : Nat) : Int) = 0)) = false := hc; simpa only [se_len, se_ch, List.length_map] using h0)) h
      conv => whnf
      replace h := grdS h
      obtain ⟨g23, h⟩ := h
      replace g23 : ((((v21.map bC).length : Nat) : Int) : Int) ≠ 0 := by simpa only [se_len, se_ch, List.length_map] using g23
      replace h := grdS h
      obtain ⟨g24, h⟩ := h
      replace g24 : ((((v21.map bC).length : Nat) : Int) : Int) ≠ 0 := by simpa only [se_len, se_ch, List.length_map] using g24
      replace h := bindS h
      obtain ⟨v25, hv25, h⟩ := h
      have i26 : (0 : Int) ≤ (((IntKind.i64.wrap (((a3).tmod (((v21.map bC).length : Nat) : Int)) + (((v21.map bC).length : Nat) : Int)))).tmod (((v21.map bC).length : Nat) : Int)) ∧ (v21.map bC)[((((IntKind.i64.wrap (((a3).tmod (((v21.map bC).length : Nat) : Int)) + (((v21.map bC).length : Nat) : Int)))).tmod (((v21.map bC).length : Nat) : Int)) : Int).toNat]? = some [(LV.bool v25)] := by simpa only [se_map, se_len, se_ch, List.length_map] using (gixF (f := bC) hv25)
      replace h := grdS h
      obtain ⟨g27, h⟩ := h
      replace g27 : fits ((([] : List (List LV)) ++ (y3.1.map (roC 1 bC)))).length 24 := by simpa only [se_len, se_ch, List.length_map] using g27
      replace h := grdS h
      obtain ⟨g28, h⟩ := h
      replace g28 : fits ((([] : List (List LV)) ++ (v21.map bC))).length 1 := by simpa only [se_len, se_ch, List.length_map] using g28
      replace h := grdS h
      obtain ⟨g29, h⟩ := h
      replace g29 : (0 : Int) ≤ (((IntKind.i64.wrap (((a2).tmod (((y3.1.map (roC 1 bC)).length : Nat) : Int)) + (((y3.1.map (roC 1 bC)).length : Nat) : Int)))).tmod (((y3.1.map (roC 1 bC)).length : Nat) : Int)) ∧ (((IntKind.i64.wrap (((a2).tmod (((y3.1.map (roC 1 bC)).length : Nat) : Int)) + (((y3.1.map (roC 1 bC)).length : Nat) : Int)))).tmod (((y3.1.map (roC 1 bC)).length : Nat) : Int)) < ((((([] : List (List LV)) ++ (y3.1.map (roC 1 bC)))).length : Nat) : Int) := by simpa only [se_len, se_ch, List.length_map] using g29
      replace h := bindS h
      obtain ⟨v30, hv30, h⟩ := h
      have i31 : nth (([] : List (List LV)) ++ (y3.1.map (roC 1 bC))) (0 + (((((IntKind.i64.wrap (((a2).tmod (((y3.1.map (roC 1 bC)).length : Nat) : Int)) + (((y3.1.map (roC 1 bC)).length : Nat) : Int)))).tmod (((y3.1.map (roC 1 bC)).length : Nat) : Int)) : Int).toNat)) = some [(LV.ro 1 (v30.map bC))] := by simpa only [se_map, se_len, se_ch, List.length_map, nth_eq, Nat.zero_add, List.getElem?_map] using gixNF (f := (roC 1 bC)) hv30
      replace h := grdS h
      obtain ⟨g32, h⟩ := h
      replace g32 : (0 : Int) ≤ (((IntKind.i64.wrap (((a2).tmod (((y3.1.map (roC 1 bC)).length : Nat) : Int)) + (((y3.1.map (roC 1 bC)).length : Nat) : Int)))).tmod (((y3.1.map (roC 1 bC)).length : Nat) : Int)) ∧ (((IntKind.i64.wrap (((a2).tmod (((y3.1.map (roC 1 bC)).length : Nat) : Int)) + (((y3.1.map (roC 1 bC)).length : Nat) : Int)))).tmod (((y3.1.map (roC 1 bC)).length : Nat) : Int)) < ((((([] : List (List LV)) ++ (y3.1.map (roC 1 bC)))).length : Nat) : Int) := by simpa only [se_len, se_ch, List.length_map] using g32
      have i33 : nth (setN (([] : List (List LV)) ++ (y3.1.map (roC 1 bC))) (0 + (((((IntKind.i64.wrap (((a2).tmod (((y3.1.map (roC 1 bC)).length : Nat) : Int)) + (((y3.1.map (roC 1 bC)).length : Nat) : Int)))).tmod (((y3.1.map (roC 1 bC)).length : Nat) : Int)) : Int).toNat)) [(LV.sl 4 0 ((([] : List (List LV)) ++ (v21.map bC))).length)]) (0 + (((((IntKind.i64.wrap (((a2).tmod (((y3.1.map (roC 1 bC)).length : Nat) : Int)) + (((y3.1.map (roC 1 bC)).length : Nat) : Int)))).tmod (((y3.1.map (roC 1 bC)).length : Nat) : Int)) : Int).toNat)) = some [(LV.sl 4 0 ((([] : List (List LV)) ++ (v21.map bC))).length)] := nst_nth (by (try simp only [se_map, se_len, se_ch, List.length_map, List.length_append] at *); omega)
      replace h := grdS h
      obtain ⟨g34, h⟩ := h
      replace g34 : (0 : Int) ≤ (((IntKind.i64.wrap (((a3).tmod (((v21.map bC).length : Nat) : Int)) + (((v21.map bC).length : Nat) : Int)))).tmod (((v21.map bC).length : Nat) : Int)) ∧ (((IntKind.i64.wrap (((a3).tmod (((v21.map bC).length : Nat) : Int)) + (((v21.map bC).length : Nat) : Int)))).tmod (((v21.map bC).length : Nat) : Int)) < ((((([] : List (List LV)) ++ (v21.map bC))).length : Nat) : Int) := by simpa only [se_len, se_ch, List.length_map] using g34
      replace h := bindS h
      obtain ⟨v35, hv35, h⟩ := h
      have i36 : nth (([] : List (List LV)) ++ (v21.map bC)) (0 + (((((IntKind.i64.wrap (((a3).tmod (((v21.map bC).length : Nat) : Int)) + (((v21.map bC).length : Nat) : Int)))).tmod (((v21.map bC).length : Nat) : Int)) : Int).toNat)) = some [(LV.bool v35)] := by simpa only [se_map, se_len, se_ch, List.length_map, nth_eq, Nat.zero_add, List.getElem?_map] using gixNF (f := bC) hv35
      replace h := bindS h
      obtain ⟨y37, hy37, h⟩ := h
      have c38 : CallP Try.prog 28 [(LV.agg [(I y1.Segs), (LV.ro 2 (y1.Plans.map PlanT.cells)), (LV.ro 2 (y1.Hosts.map HostT.cells))]), (LV.ro 1 (setN (([] : List (List LV)) ++ (y3.1.map (roC 1 bC))) (0 + (((((IntKind.i64.wrap (((a2).tmod (((y3.1.map (roC 1 bC)).length : Nat) : Int)) + (((y3.1.map (roC 1 bC)).length : Nat) : Int)))).tmod (((y3.1.map (roC 1 bC)).length : Nat) : Int)) : Int).toNat)) [(LV.ro 1 (setN (([] : List (List LV)) ++ (v21.map bC)) (0 + (((((IntKind.i64.wrap (((a3).tmod (((v21.map bC).length : Nat) : Int)) + (((v21.map bC).length : Nat) : Int)))).tmod (((v21.map bC).length : Nat) : Int)) : Int).toNat)) [(LV.bool false)]))])), (I (((IntKind.i64.wrap (((a1).tmod y1.Segs) + y1.Segs))).tmod y1.Segs))] (LV.tup [(LV.ro 1 (y37.1.map iC)), (I y37.2)]) := by first | exact c_flood_Reach y1 ((([] : (List (List Bool))) ++ y3.1).set ((((IntKind.i64.wrap (((a2).tmod ((y3.1.length : Nat) : Int)) + ((y3.1.length : Nat) : Int)))).tmod ((y3.1.length : Nat) : Int)) : Int).toNat ((([] : (List Bool)) ++ v21).set ((((IntKind.i64.wrap (((a3).tmod ((v21.length : Nat) : Int)) + ((v21.length : Nat) : Int)))).tmod ((v21.length : Nat) : Int)) : Int).toNat false)) (((IntKind.i64.wrap (((a1).tmod y1.Segs) + y1.Segs))).tmod y1.Segs) _ hy37 | (simpa only [se_map, se_byL, se_len, se_ch, List.length_map, roC] using c_flood_Reach y1 ((([] : (List (List Bool))) ++ y3.1).set ((((IntKind.i64.wrap (((a2).tmod ((y3.1.length : Nat) : Int)) + ((y3.1.length : Nat) : Int)))).tmod ((y3.1.length : Nat) : Int)) : Int).toNat ((([] : (List Bool)) ++ v21).set ((((IntKind.i64.wrap (((a3).tmod ((v21.length : Nat) : Int)) + ((v21.length : Nat) : Int)))).tmod ((v21.length : Nat) : Int)) : Int).toNat false)) (((IntKind.i64.wrap (((a1).tmod y1.Segs) + y1.Segs))).tmod y1.Segs) _ hy37)
      repeat' first | exact rA _ | refine parkI ?_ | (refine ⟨_, i22, ?_⟩; conv => whnf) | (refine ⟨_, i26, ?_⟩; conv => whnf) | exact g23 | exact g24 | exact g27 | exact g28 | exact g29 | exact g32 | exact g34 | (refine CallP.use c38 ?_; conv => whnf) | (refine ⟨_, _, CallP.at c38, ?_⟩; conv => whnf) | (refine ⟨_, fun _ => c38, ?_⟩; conv => whnf) | (first | (rw [i31]; conv => whnf) | (erw [i31]; conv => whnf)) | (first | (rw [i33]; conv => whnf) | (erw [i33]; conv => whnf)) | (first | (rw [i36]; conv => whnf) | (erw [i36]; conv => whnf)) | (refine ⟨4, _, _, _, (setN (([] : List (List LV)) ++ (y3.1.map (roC 1 bC))) (0 + (((((IntKind.i64.wrap (((a2).tmod (((y3.1.map (roC 1 bC)).length : Nat) : Int)) + (((y3.1.map (roC 1 bC)).length : Nat) : Int)))).tmod (((y3.1.map (roC 1 bC)).length : Nat) : Int)) : Int).toNat)) [(LV.ro 1 (setN (([] : List (List LV)) ++ (v21.map bC)) (0 + (((((IntKind.i64.wrap (((a3).tmod (((v21.map bC).length : Nat) : Int)) + (((v21.map bC).length : Nat) : Int)))).tmod (((v21.map bC).length : Nat) : Int)) : Int).toNat)) [(LV.bool false)]))]), rfl, rfl, nlT, nst_fzC nlT (by first | rfl | (simp only [se_map, se_len, se_ch, List.length_map]; done) | ((try simp only [se_map, se_len, se_ch, List.length_map]); omega)), nst_fz nlT, nst_nl nlT True.intro, ?_⟩; conv => whnf) | (refine W.drawnM (id := 7) 0 TT_ok hmix1 [0, 0, 0, 0, 0, 0, 0, 0, 0, 0, 0] [0, 0, 0, 0, 0, 0, 0, 0, 0, 0, 0] rfl ?_; conv => whnf) | (refine W.drawnM (id := 18) 0 TT_ok hmix1 [0, 0, 0, 0, 0, 0, 0, 0, 0, 0, 0, 0, 0, 0, 0, 0, 0, 0, 0, 0] [0, 0, 0, 0, 0, 0, 0, 0, 0, 0, 0, 0, 0, 0, 0, 0, 0, 0, 0, 0] rfl ?_; conv => whnf) | exact clA _ | (refine And.intro ?_ ?_ <;> conv => whnf) | exact clG _ | (refine gand ?_ h; assumption) | exact clN _ | fail
      refine parkE (fun hc => ?_) (fun hc => ?_)
      ·replace h := condT (by first | exact hc | (simpa only [se_len, se_ch, List.length_map] using hc; done) | (have h0 : (bif (!decide (y37.2 = 0)) then true else (decide ((((y9.1.map iC).length : Nat) : Int) < (((y37.1.map iC).length : Nat) : Int)))) = true := hc; simpa only [se_len, se_ch, List.length_map] using h0)) h
       conv => whnf
       have e := Option.some.inj h
       subst e
       repeat' first | exact rA _ | (refine W.drawnM (id := 7) 0 TT_ok hmix1 [0, 0, 0, 0, 0, 0, 0, 0, 0, 0, 0] [0, 0, 0, 0, 0, 0, 0, 0, 0, 0, 0] rfl ?_; conv => whnf) | (refine W.drawnM (id := 18) 0 TT_ok hmix1 [0, 0, 0, 0, 0, 0, 0, 0, 0, 0, 0, 0, 0, 0, 0, 0, 0, 0, 0, 0] [0, 0, 0, 0, 0, 0, 0, 0, 0, 0, 0, 0, 0, 0, 0, 0, 0, 0, 0, 0] rfl ?_; conv => whnf) | exact clA _ | (refine And.intro ?_ ?_ <;> conv => whnf) | exact clG _ | (refine gand ?_ h; assumption) | exact clN _ | fail
      ·replace h := condF (by first | exact hc | (simpa only [se_len, se_ch, List.length_map] using hc; done) | (have h0 : (bif (!decide (y37.2 = 0)) then true else (decide ((((y9.1.map iC).length : Nat) : Int) < (((y37.1.map iC).length : Nat) : Int)))) = false := hc; simpa only [se_len, se_ch, List.length_map] using h0)) h
       conv => whnf
       repeat' first | exact rA _ | refine parkI ?_ | (refine W.drawnM (id := 7) 0 TT_ok hmix1 [0, 0, 0, 0, 0, 0, 0, 0, 0, 0, 0] [0, 0, 0, 0, 0, 0, 0, 0, 0, 0, 0] rfl ?_; conv => whnf) | (refine W.drawnM (id := 18) 0 TT_ok hmix1 [0, 0, 0, 0, 0, 0, 0, 0, 0, 0, 0, 0, 0, 0, 0, 0, 0, 0, 0, 0] [0, 0, 0, 0, 0, 0, 0, 0, 0, 0, 0, 0, 0, 0, 0, 0, 0, 0, 0, 0] rfl ?_; conv => whnf) | exact clA _ | (refine And.intro ?_ ?_ <;> conv => whnf) | exact clG _ | (refine gand ?_ h; assumption) | exact clN _ | fail
       replace h := aftS h
       obtain ⟨O39, hO39, r39⟩ := h
       refine LoopW.norm [(11, (LV.ro 1 (y9.1.map iC))), (17, (LV.bool v25)), (19, (LV.ro 1 (y37.1.map iC))), (176, (LV.ro 1 (y37.1.map iC))), (177, (I (((y37.1.map iC).length : Nat) : Int))), (178, (I ((0 : Nat) : Int)))] 0 [] ⟨rfl, rfl, rfl, rfl, rfl, rfl, trivial⟩ trivial blT rfl ?_
       refine LoopW.forR (fun k39 s39 => [(11, (LV.ro 1 (y9.1.map iC))), (17, (LV.bool v25)), (19, (LV.ro 1 (y37.1.map iC))), (176, (LV.ro 1 (y37.1.map iC))), (177, (I (((y37.1.map iC).length : Nat) : Int))), (178, (I ((k39 : Nat) : Int)))]) (fun s39 => ⟨0, []⟩) hO39 (fun hl39 s39 hs39 => ?_) (fun hl39 k39 x39 s39 o39 hk39 hx39 b39 K39 hret39 hbrk39 => ?_)
       ·rw [hs39] at r39
        dsimp only [aftM] at r39
        have hd : decide (((y37.1.length : Nat) : Int) < (((y37.1.map iC).length : Nat) : Int)) = false := by rw [decide_eq_false_iff_not]; (try simp only [se_len, se_ch, List.length_map]); omega
        refine LoopW.round TT_ok [0, 1, 2, 3, 4, 8, 9, 10, 11, 12, 13, 14, 15, 16, 17, 18, 19, 20, 22, 31, 39, 96, 99, 115, 175, 176, 177, 178, 179, 185, 9000002] ?_
        conv => whnf
        repeat' first | exact rA _ | refine parkI ?_ | (refine W.drawnM (id := 7) 0 TT_ok hmix1 [0, 0, 0, 0, 0, 0, 0, 0, 0, 0, 0] [0, 0, 0, 0, 0, 0, 0, 0, 0, 0, 0] rfl ?_; conv => whnf) | (refine W.drawnM (id := 18) 0 TT_ok hmix1 [0, 0, 0, 0, 0, 0, 0, 0, 0, 0, 0, 0, 0, 0, 0, 0, 0, 0, 0, 0] [0, 0, 0, 0, 0, 0, 0, 0, 0, 0, 0, 0, 0, 0, 0, 0, 0, 0, 0, 0] rfl ?_; conv => whnf) | exact clA _ | (refine And.intro ?_ ?_ <;> conv => whnf) | exact clG _ | (refine gand ?_ h; assumption) | exact clN _ | fail
        refine parkE (fun hc => ?_) (fun hc => ?_)
        ·exact (Bool.false_ne_true (hd.symm.trans hc)).elim
        ·clear hd
         conv => whnf
         have e := Option.some.inj r39
         subst e
         repeat' first | exact rA _ | (refine W.drawnM (id := 7) 0 TT_ok hmix1 [0, 0, 0, 0, 0, 0, 0, 0, 0, 0, 0] [0, 0, 0, 0, 0, 0, 0, 0, 0, 0, 0] rfl ?_; conv => whnf) | (refine W.drawnM (id := 18) 0 TT_ok hmix1 [0, 0, 0, 0, 0, 0, 0, 0, 0, 0, 0, 0, 0, 0, 0, 0, 0, 0, 0, 0] [0, 0, 0, 0, 0, 0, 0, 0, 0, 0, 0, 0, 0, 0, 0, 0, 0, 0, 0, 0] rfl ?_; conv => whnf) | exact clA _ | (refine And.intro ?_ ?_ <;> conv => whnf) | exact clG _ | (refine gand ?_ h; assumption) | exact clN _ | fail
       ·unfold law17_FloodTree_c0 at b39
        have hd : decide (((k39 : Nat) : Int) < (((y37.1.map iC).length : Nat) : Int)) = true := by rw [decide_eq_true_eq]; (try simp only [se_len, se_ch, List.length_map] at hk39); (try simp only [se_len, se_ch, List.length_map]); omega
        refine LoopW.round TT_ok [0, 1, 2, 3, 4, 8, 9, 10, 11, 12, 13, 14, 15, 16, 17, 18, 19, 20, 22, 31, 39, 96, 99, 115, 175, 176, 177, 178, 179, 185, 9000002] ?_
        conv => whnf
        repeat' first | exact rA _ | refine parkI ?_ | (refine W.drawnM (id := 7) 0 TT_ok hmix1 [0, 0, 0, 0, 0, 0, 0, 0, 0, 0, 0] [0, 0, 0, 0, 0, 0, 0, 0, 0, 0, 0] rfl ?_; conv => whnf) | (refine W.drawnM (id := 18) 0 TT_ok hmix1 [0, 0, 0, 0, 0, 0, 0, 0, 0, 0, 0, 0, 0, 0, 0, 0, 0, 0, 0, 0] [0, 0, 0, 0, 0, 0, 0, 0, 0, 0, 0, 0, 0, 0, 0, 0, 0, 0, 0, 0] rfl ?_; conv => whnf) | exact clA _ | (refine And.intro ?_ ?_ <;> conv => whnf) | exact clG _ | (refine gand ?_ h; assumption) | exact clN _ | fail
        refine parkE (fun hc => ?_) (fun hc => ?_)
        ·clear hd
         conv => whnf
         replace b39 := bindS b39
         obtain ⟨y39, hy39, b39⟩ := b39
         have c40 := c_ref06_Has y9.1 x39 _ hy39
         repeat' first | exact rA _ | refine parkI ?_ | (refine ⟨_, (kixF (f := iC) hx39), ?_⟩; conv => whnf) | (refine CallP.use c40 ?_; conv => whnf) | (refine ⟨_, _, CallP.at c40, ?_⟩; conv => whnf) | (refine ⟨_, fun _ => c40, ?_⟩; conv => whnf) | (refine W.drawnM (id := 7) 0 TT_ok hmix1 [0, 0, 0, 0, 0, 0, 0, 0, 0, 0, 0] [0, 0, 0, 0, 0, 0, 0, 0, 0, 0, 0] rfl ?_; conv => whnf) | (refine W.drawnM (id := 18) 0 TT_ok hmix1 [0, 0, 0, 0, 0, 0, 0, 0, 0, 0, 0, 0, 0, 0, 0, 0, 0, 0, 0, 0] [0, 0, 0, 0, 0, 0, 0, 0, 0, 0, 0, 0, 0, 0, 0, 0, 0, 0, 0, 0] rfl ?_; conv => whnf) | exact clA _ | (refine And.intro ?_ ?_ <;> conv => whnf) | exact clG _ | (refine gand ?_ h; assumption) | exact clN _ | fail
         refine parkE (fun hc => ?_) (fun hc => ?_)
         ·replace b39 := condT hc b39
          conv => whnf
          have e := Option.some.inj b39
          replace e := hret39 _ e.symm
          rw [e] at r39
          replace e := Option.some.inj r39
          subst e
          repeat' first | exact rA _ | (refine W.drawnM (id := 7) 0 TT_ok hmix1 [0, 0, 0, 0, 0, 0, 0, 0, 0, 0, 0] [0, 0, 0, 0, 0, 0, 0, 0, 0, 0, 0] rfl ?_; conv => whnf) | (refine W.drawnM (id := 18) 0 TT_ok hmix1 [0, 0, 0, 0, 0, 0, 0, 0, 0, 0, 0, 0, 0, 0, 0, 0, 0, 0, 0, 0] [0, 0, 0, 0, 0, 0, 0, 0, 0, 0, 0, 0, 0, 0, 0, 0, 0, 0, 0, 0] rfl ?_; conv => whnf) | exact clA _ | (refine And.intro ?_ ?_ <;> conv => whnf) | exact clG _ | (refine gand ?_ h; assumption) | exact clN _ | fail
         ·replace b39 := condF hc b39
          conv => whnf
          repeat' first | exact rA _ | refine parkI ?_ | (refine W.drawnM (id := 7) 0 TT_ok hmix1 [0, 0, 0, 0, 0, 0, 0, 0, 0, 0, 0] [0, 0, 0, 0, 0, 0, 0, 0, 0, 0, 0] rfl ?_; conv => whnf) | (refine W.drawnM (id := 18) 0 TT_ok hmix1 [0, 0, 0, 0, 0, 0, 0, 0, 0, 0, 0, 0, 0, 0, 0, 0, 0, 0, 0, 0] [0, 0, 0, 0, 0, 0, 0, 0, 0, 0, 0, 0, 0, 0, 0, 0, 0, 0, 0, 0] rfl ?_; conv => whnf) | exact clA _ | (refine And.intro ?_ ?_ <;> conv => whnf) | exact clG _ | (refine gand ?_ h; assumption) | exact clN _ | fail
          have e := Option.some.inj b39
          refine LoopW.norm [(11, (LV.ro 1 (y9.1.map iC))), (17, (LV.bool v25)), (19, (LV.ro 1 (y37.1.map iC))), (176, (LV.ro 1 (y37.1.map iC))), (177, (I (((y37.1.map iC).length : Nat) : Int))), (178, (I ((k39 + 1 : Nat) : Int)))] 0 [] ⟨rfl, rfl, rfl, rfl, rfl, (congrArg (LV.int .i64) (w64_nat _ (by omega))), trivial⟩ trivial blT rfl (K39 _ e.symm)
        ·exact (Bool.false_ne_true (hc.symm.trans hd)).elim

end Go.RX
