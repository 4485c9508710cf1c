/- Plain functions, and what says that the program's functions compute them. -/
import Derived.Test.YtljecfgfbebjiaaKc
set_option linter.unusedVariables false
set_option linter.unusedSimpArgs false
open Go Go.RX Go.Proofs
namespace Go.RX
set_option maxRecDepth 10000
set_option maxHeartbeats 4000000
attribute [local irreducible] CallW CallP LoopW W IntKind.wrap bitI
def law16_few_c0  (k19 : Nat) (x19 : PlanT) (s19 : (List PlanT)) : Option (Step LanT (List PlanT)) :=
 grd ((0 : Int) ≤ (mn ((x19.Ports.length : Nat) : Int) 10) ∧ (mn ((x19.Ports.length : Nat) : Int) 10) ≤ ((x19.Ports.length : Nat) : Int)) <|
 grd (fits ((s19 ++ ([(⟨x19.ID, (x19.Ports.take ((mn ((x19.Ports.length : Nat) : Int) 10) : Int).toNat)⟩ : PlanT)] : (List PlanT))) : List PlanT).length 32) <|
 some (.nxt (s19 ++ ([(⟨x19.ID, (x19.Ports.take ((mn ((x19.Ports.length : Nat) : Int) 10) : Int).toNat)⟩ : PlanT)] : (List PlanT))))

def law16_few (a0 : LanT) : Option LanT :=
 grd ((0 : Int) ≤ (mn ((a0.Plans.length : Nat) : Int) 8) ∧ (mn ((a0.Plans.length : Nat) : Int) 8) ≤ ((a0.Plans.length : Nat) : Int)) <|
 aft (rangeL (law16_few_c0 ) (a0.Plans.take ((mn ((a0.Plans.length : Nat) : Int) 8) : Int).toNat) ([] : (List PlanT))) fun s19 =>
 grd ((0 : Int) ≤ (mn ((a0.Hosts.length : Nat) : Int) 12) ∧ (mn ((a0.Hosts.length : Nat) : Int) 12) ≤ ((a0.Hosts.length : Nat) : Int)) <|
 some (⟨a0.Segs, s19, (a0.Hosts.take ((mn ((a0.Hosts.length : Nat) : Int) 12) : Int).toNat)⟩ : LanT)

theorem c_law16_few (a0 : LanT) (r : LanT) (h : law16_few a0 = some r) : CallP Try.prog 8 [(LV.agg [(I a0.Segs), (LV.ro 2 (a0.Plans.map PlanT.cells)), (LV.ro 2 (a0.Hosts.map HostT.cells))])] (LV.agg [(I r.Segs), (LV.ro 2 (r.Plans.map PlanT.cells)), (LV.ro 2 (r.Hosts.map HostT.cells))]) := by
 unfold law16_few at h
 refine .intro nlA (.intro TT_ok Try.func8 rfl rfl [0, 1, 2, 3, 5, 12, 13, 14, 15] rfl ?_)
 conv => whnf
 replace h := grdS h
 obtain ⟨g1, h⟩ := h
 replace g1 : (0 : Int) ≤ (mn (((a0.Plans.map PlanT.cells).length : Nat) : Int) 8) ∧ (mn (((a0.Plans.map PlanT.cells).length : Nat) : Int) 8) ≤ (((a0.Plans.map PlanT.cells).length : Nat) : Int) := by simpa only [se_len, se_ch, List.length_map] using g1
 repeat' first | exact rA _ | refine parkI ?_ | exact g1 | (refine W.drawnM (id := 8) 0 TT_ok hmix1 [0, 0, 0, 0, 0, 0, 0, 0, 0, 0, 1, 1] [0, 0, 0, 0, 0, 1, 1, 1, 0, 1, 1, 2] rfl ?_; conv => whnf) | exact clA _ | (refine And.intro ?_ ?_ <;> conv => whnf) | exact clG _ | (refine gand ?_ h; assumption) | exact clN _ | fail
 replace h := aftS h
 obtain ⟨O19, hO19, r19⟩ := h
 refine LoopW.virt 3 33 2 rfl ?_
 refine LoopW.norm [(1, (LV.ptr 0 0 0)), (2, (LV.ptr 1 0 0)), (3, (LV.sl 2 0 (([] : (List PlanT)).map PlanT.cells).length)), (12, (LV.ro 2 ((a0.Plans.map PlanT.cells).take ((mn (((a0.Plans.map PlanT.cells).length : Nat) : Int) 8) : Int).toNat))), (13, (I ((((a0.Plans.map PlanT.cells).take ((mn (((a0.Plans.map PlanT.cells).length : Nat) : Int) 8) : Int).toNat).length : Nat) : Int))), (14, (I ((0 : Nat) : Int)))] 3 [(0, (.row 25 3 [[(I a0.Segs), (LV.ro 2 (a0.Plans.map PlanT.cells)), (LV.ro 2 (a0.Hosts.map HostT.cells))]])), (1, (.row 25 3 [[(I 0), LV.nils, LV.nils]])), (2, (.row 33 2 (([] : (List PlanT)).map PlanT.cells)))] ⟨rfl, rfl, (by exact congrArg (LV.sl 2 0) (clL _ : 0 = (([] : (List PlanT)).map PlanT.cells).length)), rfl, rfl, rfl, trivial⟩ ⟨⟨rfl, rfl, blT⟩, ⟨⟨rfl, rfl, blT⟩, ⟨⟨(congrArg (fun q => some (Blk.row 33 2 q)) (smT : ([] : List (List LV)) = (([] : (List PlanT)).map PlanT.cells))), rfl, NLss_bel (NLss_map' _)⟩, trivial⟩⟩⟩ blT rfl ?_
 refine LoopW.forR (fun k19 s19 => [(1, (LV.ptr 0 0 0)), (2, (LV.ptr 1 0 0)), (3, (LV.sl 2 0 (s19.map PlanT.cells).length)), (12, (LV.ro 2 ((a0.Plans.map PlanT.cells).take ((mn (((a0.Plans.map PlanT.cells).length : Nat) : Int) 8) : Int).toNat))), (13, (I ((((a0.Plans.map PlanT.cells).take ((mn (((a0.Plans.map PlanT.cells).length : Nat) : Int) 8) : Int).toNat).length : Nat) : Int))), (14, (I ((k19 : Nat) : Int)))]) (fun s19 => ⟨3, [(0, (.row 25 3 [[(I a0.Segs), (LV.ro 2 (a0.Plans.map PlanT.cells)), (LV.ro 2 (a0.Hosts.map HostT.cells))]])), (1, (.row 25 3 [[(I 0), LV.nils, LV.nils]])), (2, (.row 33 2 (s19.map PlanT.cells)))]⟩) hO19 (fun hl19 s19 hs19 => ?_) (fun hl19 k19 x19 s19 o19 hk19 hx19 b19 K19 hret19 hbrk19 => ?_)
 ·rw [hs19] at r19
  dsimp only [aftM] at r19
  have hd : decide ((((a0.Plans.take ((mn ((a0.Plans.length : Nat) : Int) 8) : Int).toNat).length : Nat) : Int) < ((((a0.Plans.map PlanT.cells).take ((mn (((a0.Plans.map PlanT.cells).length : Nat) : Int) 8) : Int).toNat).length : Nat) : Int)) = false := by rw [decide_eq_false_iff_not]; (try simp only [se_len, se_ch, List.length_map]); omega
  refine LoopW.round TT_ok [0, 1, 2, 3, 5, 12, 13, 14, 15] ?_
  conv => whnf
  repeat' first | exact rA _ | refine parkI ?_ | (refine W.drawnM (id := 8) 0 TT_ok hmix1 [0, 0, 0, 0, 0, 0, 0, 0, 0, 0, 1, 1] [0, 0, 0, 0, 0, 1, 1, 1, 0, 1, 1, 2] rfl ?_; conv => whnf) | exact clA _ | (refine And.intro ?_ ?_ <;> conv => whnf) | exact clG _ | (refine gand ?_ h; assumption) | exact clN _ | fail
  refine parkE (fun hc => ?_) (fun hc => ?_)
  ·exact (Bool.false_ne_true (hd.symm.trans hc)).elim
  ·clear hd
   conv => whnf
   replace r19 := grdS r19
   obtain ⟨g4, r19⟩ := r19
   replace g4 : (0 : Int) ≤ (mn (((a0.Hosts.map HostT.cells).length : Nat) : Int) 12) ∧ (mn (((a0.Hosts.map HostT.cells).length : Nat) : Int) 12) ≤ (((a0.Hosts.map HostT.cells).length : Nat) : Int) := by simpa only [se_len, se_ch, List.length_map] using g4
   have e := Option.some.inj r19
   subst e
   repeat' first | exact rA _ | exact g4 | (refine W.drawnM (id := 8) 0 TT_ok hmix1 [0, 0, 0, 0, 0, 0, 0, 0, 0, 0, 1, 1] [0, 0, 0, 0, 0, 1, 1, 1, 0, 1, 1, 2] rfl ?_; conv => whnf) | exact clA _ | (refine And.intro ?_ ?_ <;> conv => whnf) | exact clG _ | (refine gand ?_ h; assumption) | exact clN _ | fail
 ·unfold law16_few_c0 at b19
  have fx19 : (0 : Int) ≤ ((k19 : Nat) : Int) ∧ (((a0.Plans.map PlanT.cells).take ((mn (((a0.Plans.map PlanT.cells).length : Nat) : Int) 8) : Int).toNat))[((k19 : Nat) : Int).toNat]? = some (PlanT.cells x19) := by (have h0 := kixF (f := PlanT.cells) hx19); simpa only [se_map, se_len, se_byL, List.length_map] using h0
  have hd : decide (((k19 : Nat) : Int) < ((((a0.Plans.map PlanT.cells).take ((mn (((a0.Plans.map PlanT.cells).length : Nat) : Int) 8) : Int).toNat).length : Nat) : Int)) = true := by rw [decide_eq_true_eq]; (try simp only [se_len, se_ch, List.length_map] at hk19); (try simp only [se_len, se_ch, List.length_map]); omega
  refine LoopW.round TT_ok [0, 1, 2, 3, 5, 12, 13, 14, 15] ?_
  conv => whnf
  repeat' first | exact rA _ | refine parkI ?_ | (refine W.drawnM (id := 8) 0 TT_ok hmix1 [0, 0, 0, 0, 0, 0, 0, 0, 0, 0, 1, 1] [0, 0, 0, 0, 0, 1, 1, 1, 0, 1, 1, 2] rfl ?_; conv => whnf) | exact clA _ | (refine And.intro ?_ ?_ <;> conv => whnf) | exact clG _ | (refine gand ?_ h; assumption) | exact clN _ | fail
  refine parkE (fun hc => ?_) (fun hc => ?_)
  ·clear hd
   conv => whnf
   replace b19 := grdS b19
   obtain ⟨g2, b19⟩ := b19
   replace g2 : (0 : Int) ≤ (mn (((x19.Ports.map LinkT.cells).length : Nat) : Int) 10) ∧ (mn (((x19.Ports.map LinkT.cells).length : Nat) : Int) 10) ≤ (((x19.Ports.map LinkT.cells).length : Nat) : Int) := by simpa only [se_len, se_ch, List.length_map] using g2
   replace b19 := grdS b19
   obtain ⟨g3, b19⟩ := b19
   replace g3 : fits (((s19.map PlanT.cells) ++ [[(I x19.ID), (LV.ro 3 ((x19.Ports.map LinkT.cells).take ((mn (((x19.Ports.map LinkT.cells).length : Nat) : Int) 10) : Int).toNat))]])).length 32 := by simpa only [se_len, se_ch, List.length_map] using g3
   repeat' first | exact rA _ | refine parkI ?_ | (refine ⟨_, fx19, ?_⟩; conv => whnf) | exact g2 | exact g3 | (refine W.drawnM (id := 8) 0 TT_ok hmix1 [0, 0, 0, 0, 0, 0, 0, 0, 0, 0, 1, 1] [0, 0, 0, 0, 0, 1, 1, 1, 0, 1, 1, 2] rfl ?_; conv => whnf) | exact clA _ | (refine And.intro ?_ ?_ <;> conv => whnf) | exact clG _ | (refine gand ?_ h; assumption) | exact clN _ | fail
   have e := Option.some.inj b19
   refine LoopW.ren [(0, 0), (1, 1), (5, 2)] [(1, (LV.ptr 0 0 0)), (2, (LV.ptr 1 0 0)), (3, (LV.sl 2 0 ((s19 ++ ([(⟨x19.ID, (x19.Ports.take ((mn ((x19.Ports.length : Nat) : Int) 10) : Int).toNat)⟩ : PlanT)] : (List PlanT))).map PlanT.cells).length)), (12, (LV.ro 2 ((a0.Plans.map PlanT.cells).take ((mn (((a0.Plans.map PlanT.cells).length : Nat) : Int) 8) : Int).toNat))), (13, (I ((((a0.Plans.map PlanT.cells).take ((mn (((a0.Plans.map PlanT.cells).length : Nat) : Int) 8) : Int).toNat).length : Nat) : Int))), (14, (I ((k19 + 1 : Nat) : Int)))] 3 [(0, (.row 25 3 [[(I a0.Segs), (LV.ro 2 (a0.Plans.map PlanT.cells)), (LV.ro 2 (a0.Hosts.map HostT.cells))]])), (1, (.row 25 3 [[(I 0), LV.nils, LV.nils]])), (2, (.row 33 2 ((s19 ++ ([(⟨x19.ID, (x19.Ports.take ((mn ((x19.Ports.length : Nat) : Int) 10) : Int).toNat)⟩ : PlanT)] : (List PlanT))).map PlanT.cells)))] rfl ⟨rfl, rfl, (by exact congrArg (LV.sl 2 0) (clL _ : (((s19.map PlanT.cells) ++ [[(I x19.ID), (LV.ro 3 ((x19.Ports.map LinkT.cells).take ((mn (((x19.Ports.map LinkT.cells).length : Nat) : Int) 10) : Int).toNat))]])).length = ((s19 ++ ([(⟨x19.ID, (x19.Ports.take ((mn ((x19.Ports.length : Nat) : Int) 10) : Int).toNat)⟩ : PlanT)] : (List PlanT))).map PlanT.cells).length)), rfl, rfl, (congrArg (LV.int .i64) (w64_nat _ (by omega))), trivial⟩ ⟨⟨rfl, rfl, .inl ⟨rfl, nlT⟩⟩, rfl, rfl, ⟨⟨rfl, rfl, .inl ⟨rfl, nlT⟩⟩, rfl, rfl, ⟨⟨rfl, rfl, .inl ⟨(by first | (simp only [se_map, se_byL, se_len, se_ch, List.length_map]; done) | (simp only [se_map, se_byL, se_len, se_ch, List.length_map, PlanT.cells]; done) : (((s19.map PlanT.cells) ++ [[(I x19.ID), (LV.ro 3 ((x19.Ports.map LinkT.cells).take ((mn (((x19.Ports.map LinkT.cells).length : Nat) : Int) 10) : Int).toNat))]]) : List (List LV)) = ((s19 ++ ([(⟨x19.ID, (x19.Ports.take ((mn ((x19.Ports.length : Nat) : Int) 10) : Int).toNat)⟩ : PlanT)] : (List PlanT))).map PlanT.cells)), nlT⟩⟩, rfl, rfl, trivial⟩⟩⟩ rfl (K19 _ e.symm)
  ·exact (Bool.false_ne_true (hc.symm.trans hd)).elim

def ref16_Same_c1 (a1 : (List (List Int))) (k20 : Nat) (k21 : Nat) (x21 : Int) (s21 : Unit) : Option (Step (Step Bool Unit) Unit) :=
 (gix a1 ((k20 : Nat) : Int)).bind fun v9 =>
 (gix v9 ((k21 : Nat) : Int)).bind fun v11 =>
 (bif (!decide (x21 = v11)) then
  some (.ret (.ret false))
 else
  some (.nxt ()))

def ref16_Same_c0 (a1 : (List (List Int))) (k20 : Nat) (x20 : (List Int)) (s20 : Unit) : Option (Step Bool Unit) :=
 (gix a1 ((k20 : Nat) : Int)).bind fun v7 =>
 (bif (!decide (((x20.length : Nat) : Int) = ((v7.length : Nat) : Int))) then
  some (.ret false)
 else
  aft (rangeL (ref16_Same_c1 a1 k20) x20 ()) fun s21 =>
  some (.nxt ()))

def ref16_Same (a0 : (List (List Int))) (a1 : (List (List Int))) : Option Bool :=
 (bif (!decide (((a0.length : Nat) : Int) = ((a1.length : Nat) : Int))) then
  some false
 else
  aft (rangeL (ref16_Same_c0 a1) a0 ()) fun s20 =>
  some true)

theorem c_ref16_Same (a0 : (List (List Int))) (a1 : (List (List Int))) (r : Bool) (h : ref16_Same a0 a1 = some r) : CallP Try.prog 18 [(LV.ro 1 (a0.map (roC 1 iC))), (LV.ro 1 (a1.map (roC 1 iC)))] (LV.bool r) := by
 unfold ref16_Same at h
 refine .intro nlA (.intro TT_ok Try.func18 rfl rfl [0, 1, 4, 5, 6, 11, 13, 14, 15, 27, 32, 33, 34, 50] rfl ?_)
 conv => whnf
 repeat' first | exact rA _ | refine parkI ?_ | (refine W.drawn TT_ok hmix1 rfl ?_; conv => whnf) | exact clA _ | (refine And.intro ?_ ?_ <;> conv => whnf) | exact clG _ | (refine gand ?_ h; assumption) | exact clN _ | fail
 refine parkE (fun hc => ?_) (fun hc => ?_)
 ·replace h := condT (by first | exact hc | (simpa only [se_len, se_ch, List.length_map] using hc; done) | (have h0 : (!decide ((((a0.map (roC 1 iC)).length : Nat) : Int) = (((a1.map (roC 1 iC)).length : Nat) : Int))) = true := hc; simpa only [se_len, se_ch, List.length_map] using h0)) h
  conv => whnf
  have e := Option.some.inj h
  subst e
  repeat' first | exact rA _ | (refine W.drawn TT_ok hmix1 rfl ?_; conv => whnf) | exact clA _ | (refine And.intro ?_ ?_ <;> conv => whnf) | exact clG _ | (refine gand ?_ h; assumption) | exact clN _ | fail
 ·replace h := condF (by first | exact hc | (simpa only [se_len, se_ch, List.length_map] using hc; done) | (have h0 : (!decide ((((a0.map (roC 1 iC)).length : Nat) : Int) = (((a1.map (roC 1 iC)).length : Nat) : Int))) = false := hc; simpa only [se_len, se_ch, List.length_map] using h0)) h
  conv => whnf
  repeat' first | exact rA _ | refine parkI ?_ | (refine W.drawn TT_ok hmix1 rfl ?_; conv => whnf) | exact clA _ | (refine And.intro ?_ ?_ <;> conv => whnf) | exact clG _ | (refine gand ?_ h; assumption) | exact clN _ | fail
  replace h := aftS h
  obtain ⟨O20, hO20, r20⟩ := h
  refine LoopW.norm [(0, (LV.ro 1 (a0.map (roC 1 iC)))), (1, (LV.ro 1 (a1.map (roC 1 iC)))), (13, (I (((a0.map (roC 1 iC)).length : Nat) : Int))), (14, (I ((0 : Nat) : Int)))] 0 [] ⟨rfl, rfl, rfl, rfl, trivial⟩ trivial blT rfl ?_
  refine LoopW.forR (fun k20 s20 => [(0, (LV.ro 1 (a0.map (roC 1 iC)))), (1, (LV.ro 1 (a1.map (roC 1 iC)))), (13, (I (((a0.map (roC 1 iC)).length : Nat) : Int))), (14, (I ((k20 : Nat) : Int)))]) (fun s20 => ⟨0, []⟩) hO20 (fun hl20 s20 hs20 => ?_) (fun hl20 k20 x20 s20 o20 hk20 hx20 b20 K20 hret20 hbrk20 => ?_)
  ·rw [hs20] at r20
   dsimp only [aftM] at r20
   have hd : decide (((a0.length : Nat) : Int) < (((a0.map (roC 1 iC)).length : Nat) : Int)) = false := by rw [decide_eq_false_iff_not]; (try simp only [se_len, se_ch, List.length_map]); omega
   refine LoopW.round TT_ok [0, 1, 4, 5, 6, 11, 13, 14, 15, 27, 32, 33, 34, 50] ?_
   conv => whnf
   repeat' first | exact rA _ | refine parkI ?_ | (refine W.drawn TT_ok hmix1 rfl ?_; conv => whnf) | exact clA _ | (refine And.intro ?_ ?_ <;> conv => whnf) | exact clG _ | (refine gand ?_ h; assumption) | exact clN _ | fail
   refine parkE (fun hc => ?_) (fun hc => ?_)
   ·exact (Bool.false_ne_true (hd.symm.trans hc)).elim
   ·clear hd
    conv => whnf
    have e := Option.some.inj r20
    subst e
    repeat' first | exact rA _ | (refine W.drawn TT_ok hmix1 rfl ?_; conv => whnf) | exact clA _ | (refine And.intro ?_ ?_ <;> conv => whnf) | exact clG _ | (refine gand ?_ h; assumption) | exact clN _ | fail
  ·unfold ref16_Same_c0 at b20
   have hd : decide (((k20 : Nat) : Int) < (((a0.map (roC 1 iC)).length : Nat) : Int)) = true := by rw [decide_eq_true_eq]; (try simp only [se_len, se_ch, List.length_map] at hk20); (try simp only [se_len, se_ch, List.length_map]); omega
   refine LoopW.round TT_ok [0, 1, 4, 5, 6, 11, 13, 14, 15, 27, 32, 33, 34, 50] ?_
   conv => whnf
   repeat' first | exact rA _ | refine parkI ?_ | (refine W.drawn TT_ok hmix1 rfl ?_; conv => whnf) | exact clA _ | (refine And.intro ?_ ?_ <;> conv => whnf) | exact clG _ | (refine gand ?_ h; assumption) | exact clN _ | fail
   refine parkE (fun hc => ?_) (fun hc => ?_)
   ·clear hd
    conv => whnf
    replace b20 := bindS b20
    obtain ⟨v7, hv7, b20⟩ := b20
    have i8 := gixF (f := (roC 1 iC)) hv7
    repeat' first | exact rA _ | refine parkI ?_ | (refine ⟨_, (kixF (f := (roC 1 iC)) hx20), ?_⟩; conv => whnf) | (refine ⟨_, i8, ?_⟩; conv => whnf) | (refine W.drawn TT_ok hmix1 rfl ?_; conv => whnf) | exact clA _ | (refine And.intro ?_ ?_ <;> conv => whnf) | exact clG _ | (refine gand ?_ h; assumption) | exact clN _ | fail
    refine parkE (fun hc => ?_) (fun hc => ?_)
    ·replace b20 := condT (by first | exact hc | (simpa only [se_len, se_ch, List.length_map] using hc; done) | (have h0 : (!decide ((((x20.map iC).length : Nat) : Int) = (((v7.map iC).length : Nat) : Int))) = true := hc; simpa only [se_len, se_ch, List.length_map] using h0)) b20
     conv => whnf
     have e := Option.some.inj b20
     replace e := hret20 _ e.symm
     rw [e] at r20
     replace e := Option.some.inj r20
     subst e
     repeat' first | exact rA _ | (refine W.drawn TT_ok hmix1 rfl ?_; conv => whnf) | exact clA _ | (refine And.intro ?_ ?_ <;> conv => whnf) | exact clG _ | (refine gand ?_ h; assumption) | exact clN _ | fail
    ·replace b20 := condF (by first | exact hc | (simpa only [se_len, se_ch, List.length_map] using hc; done) | (have h0 : (!decide ((((x20.map iC).length : Nat) : Int) = (((v7.map iC).length : Nat) : Int))) = false := hc; simpa only [se_len, se_ch, List.length_map] using h0)) b20
     conv => whnf
     repeat' first | exact rA _ | refine parkI ?_ | (refine ⟨_, (kixF (f := (roC 1 iC)) hx20), ?_⟩; conv => whnf) | (refine W.drawn TT_ok hmix1 rfl ?_; conv => whnf) | exact clA _ | (refine And.intro ?_ ?_ <;> conv => whnf) | exact clG _ | (refine gand ?_ h; assumption) | exact clN _ | fail
     replace b20 := aftS b20
     obtain ⟨O21, hO21, r21⟩ := b20
     refine LoopW.norm [(0, (LV.ro 1 (a0.map (roC 1 iC)))), (1, (LV.ro 1 (a1.map (roC 1 iC)))), (5, (I ((k20 : Nat) : Int))), (13, (I (((a0.map (roC 1 iC)).length : Nat) : Int))), (14, (I ((k20 : Nat) : Int))), (32, (I (((x20.map iC).length : Nat) : Int))), (33, (I ((0 : Nat) : Int)))] 0 [] ⟨rfl, rfl, rfl, rfl, rfl, rfl, rfl, trivial⟩ trivial blT rfl ?_
     refine LoopW.forR (fun k21 s21 => [(0, (LV.ro 1 (a0.map (roC 1 iC)))), (1, (LV.ro 1 (a1.map (roC 1 iC)))), (5, (I ((k20 : Nat) : Int))), (13, (I (((a0.map (roC 1 iC)).length : Nat) : Int))), (14, (I ((k20 : Nat) : Int))), (32, (I (((x20.map iC).length : Nat) : Int))), (33, (I ((k21 : Nat) : Int)))]) (fun s21 => ⟨0, []⟩) hO21 (fun hl21 s21 hs21 => ?_) (fun hl21 k21 x21 s21 o21 hk21 hx21 b21 K21 hret21 hbrk21 => ?_)
     ·rw [hs21] at r21
      dsimp only [aftM] at r21
      have hd : decide (((x20.length : Nat) : Int) < (((x20.map iC).length : Nat) : Int)) = false := by rw [decide_eq_false_iff_not]; (try simp only [se_len, se_ch, List.length_map]); omega
      refine LoopW.round TT_ok [0, 1, 4, 5, 6, 11, 13, 14, 15, 27, 32, 33, 34, 50] ?_
      conv => whnf
      repeat' first | exact rA _ | refine parkI ?_ | (refine W.drawn TT_ok hmix1 rfl ?_; conv => whnf) | exact clA _ | (refine And.intro ?_ ?_ <;> conv => whnf) | exact clG _ | (refine gand ?_ h; assumption) | exact clN _ | fail
      refine parkE (fun hc => ?_) (fun hc => ?_)
      ·exact (Bool.false_ne_true (hd.symm.trans hc)).elim
      ·clear hd
       conv => whnf
       repeat' first | exact rA _ | refine parkI ?_ | (refine W.drawn TT_ok hmix1 rfl ?_; conv => whnf) | exact clA _ | (refine And.intro ?_ ?_ <;> conv => whnf) | exact clG _ | (refine gand ?_ h; assumption) | exact clN _ | fail
       have e := Option.some.inj r21
       refine LoopW.norm [(0, (LV.ro 1 (a0.map (roC 1 iC)))), (1, (LV.ro 1 (a1.map (roC 1 iC)))), (13, (I (((a0.map (roC 1 iC)).length : Nat) : Int))), (14, (I ((k20 + 1 : Nat) : Int)))] 0 [] ⟨rfl, rfl, rfl, (congrArg (LV.int .i64) (w64_nat _ (by omega))), trivial⟩ trivial blT rfl (K20 _ e.symm)
     ·unfold ref16_Same_c1 at b21
      have hd : decide (((k21 : Nat) : Int) < (((x20.map iC).length : Nat) : Int)) = true := by rw [decide_eq_true_eq]; (try simp only [se_len, se_ch, List.length_map] at hk21); (try simp only [se_len, se_ch, List.length_map]); omega
      refine LoopW.round TT_ok [0, 1, 4, 5, 6, 11, 13, 14, 15, 27, 32, 33, 34, 50] ?_
      conv => whnf
      repeat' first | exact rA _ | refine parkI ?_ | (refine W.drawn TT_ok hmix1 rfl ?_; conv => whnf) | exact clA _ | (refine And.intro ?_ ?_ <;> conv => whnf) | exact clG _ | (refine gand ?_ h; assumption) | exact clN _ | fail
      refine parkE (fun hc => ?_) (fun hc => ?_)
      ·clear hd
       conv => whnf
       replace b21 := bindS b21
       obtain ⟨v9, hv9, b21⟩ := b21
       have i10 := gixF (f := (roC 1 iC)) hv9
       replace b21 := bindS b21
       obtain ⟨v11, hv11, b21⟩ := b21
       have i12 := gixF (f := iC) hv11
       repeat' first | exact rA _ | refine parkI ?_ | (refine ⟨_, (kixF (f := (roC 1 iC)) hx20), ?_⟩; conv => whnf) | (refine ⟨_, (kixF (f := iC) hx21), ?_⟩; conv => whnf) | (refine ⟨_, i10, ?_⟩; conv => whnf) | (refine ⟨_, i12, ?_⟩; conv => whnf) | (refine W.drawn TT_ok hmix1 rfl ?_; conv => whnf) | exact clA _ | (refine And.intro ?_ ?_ <;> conv => whnf) | exact clG _ | (refine gand ?_ h; assumption) | exact clN _ | fail
       refine parkE (fun hc => ?_) (fun hc => ?_)
       ·replace b21 := condT hc b21
        conv => whnf
        have e := Option.some.inj b21
        replace e := hret21 _ e.symm
        rw [e] at r21
        replace e := Option.some.inj r21
        replace e := hret20 _ e.symm
        rw [e] at r20
        replace e := Option.some.inj r20
        subst e
        repeat' first | exact rA _ | (refine W.drawn TT_ok hmix1 rfl ?_; conv => whnf) | exact clA _ | (refine And.intro ?_ ?_ <;> conv => whnf) | exact clG _ | (refine gand ?_ h; assumption) | exact clN _ | fail
       ·replace b21 := condF hc b21
        conv => whnf
        repeat' first | exact rA _ | refine parkI ?_ | (refine W.drawn TT_ok hmix1 rfl ?_; conv => whnf) | exact clA _ | (refine And.intro ?_ ?_ <;> conv => whnf) | exact clG _ | (refine gand ?_ h; assumption) | exact clN _ | fail
        have e := Option.some.inj b21
        refine LoopW.norm [(0, (LV.ro 1 (a0.map (roC 1 iC)))), (1, (LV.ro 1 (a1.map (roC 1 iC)))), (5, (I ((k20 : Nat) : Int))), (13, (I (((a0.map (roC 1 iC)).length : Nat) : Int))), (14, (I ((k20 : Nat) : Int))), (32, (I (((x20.map iC).length : Nat) : Int))), (33, (I ((k21 + 1 : Nat) : Int)))] 0 [] ⟨rfl, rfl, rfl, rfl, rfl, rfl, (congrArg (LV.int .i64) (w64_nat _ (by omega))), trivial⟩ trivial blT rfl (K21 _ e.symm)
      ·exact (Bool.false_ne_true (hc.symm.trans hd)).elim
   ·exact (Bool.false_ne_true (hc.symm.trans hd)).elim

def law16_alive  : Option Bool :=
 (tree_Roles (⟨2, ([(⟨1, ([(⟨0, 1, true⟩ : LinkT), (⟨1, 1, true⟩ : LinkT)] : (List LinkT))⟩ : PlanT), (⟨2, ([(⟨0, 1, true⟩ : LinkT), (⟨1, 1, true⟩ : LinkT)] : (List LinkT))⟩ : PlanT)] : (List PlanT)), []⟩ : LanT)).bind fun y5 =>
 (bif (decide (y5.2 = 0)) then
  (ref16_Same y5.1 ([([1, 1] : (List Int)), ([0, 2] : (List Int))] : (List (List Int)))).bind fun y7 =>
  some (bif (decide (y5.2 = 0)) then y7 else false)
 else
  some false)

theorem c_law16_alive  (r : Bool) (h : law16_alive  = some r) : CallP Try.prog 10 [] (LV.bool r) := by
 unfold law16_alive at h
 refine .intro nlA (.intro TT_ok Try.func10 rfl rfl [0, 1, 2, 3] rfl ?_)
 conv => whnf
 replace h := bindS h
 obtain ⟨y5, hy5, h⟩ := h
 have c6 : CallP Try.prog 11 [(LV.agg [(I 2), (LV.ro 2 [[(I 1), (LV.ro 3 [[(I 0), (I 1), (LV.bool true)], [(I 1), (I 1), (LV.bool true)]])], [(I 2), (LV.ro 3 [[(I 0), (I 1), (LV.bool true)], [(I 1), (I 1), (LV.bool true)]])]]), (LV.ro 2 ([] : List (List LV)))])] (LV.tup [(LV.ro 1 (y5.1.map (roC 1 iC))), (I y5.2)]) := by first | exact c_tree_Roles (⟨2, ([(⟨1, ([(⟨0, 1, true⟩ : LinkT), (⟨1, 1, true⟩ : LinkT)] : (List LinkT))⟩ : PlanT), (⟨2, ([(⟨0, 1, true⟩ : LinkT), (⟨1, 1, true⟩ : LinkT)] : (List LinkT))⟩ : PlanT)] : (List PlanT)), []⟩ : LanT) _ hy5 | (simpa only [se_map, se_byL, se_len, se_ch, List.length_map] using c_tree_Roles (⟨2, ([(⟨1, ([(⟨0, 1, true⟩ : LinkT), (⟨1, 1, true⟩ : LinkT)] : (List LinkT))⟩ : PlanT), (⟨2, ([(⟨0, 1, true⟩ : LinkT), (⟨1, 1, true⟩ : LinkT)] : (List LinkT))⟩ : PlanT)] : (List PlanT)), []⟩ : LanT) _ hy5) | (simpa only [se_map, se_byL, se_len, se_ch, List.length_map, LanT.cells, LinkT.cells, PlanT.cells] using c_tree_Roles (⟨2, ([(⟨1, ([(⟨0, 1, true⟩ : LinkT), (⟨1, 1, true⟩ : LinkT)] : (List LinkT))⟩ : PlanT), (⟨2, ([(⟨0, 1, true⟩ : LinkT), (⟨1, 1, true⟩ : LinkT)] : (List LinkT))⟩ : PlanT)] : (List PlanT)), []⟩ : LanT) _ hy5)
 repeat' first | exact rA _ | refine parkI ?_ | (refine CallP.use (CallP.up c6 upT) ?_; conv => whnf) | exact clA _ | (refine And.intro ?_ ?_ <;> conv => whnf) | exact clG _ | (refine gand ?_ h; assumption) | exact clN _ | fail
 refine parkE (fun hg1_ => ?_) (fun hg1_ => ?_)
 ·replace h := condT (by first | exact hg1_ | simpa only [se_len, se_ch, List.length_map] using hg1_) h
  conv => whnf
  replace h := bindS h
  obtain ⟨y7, hy7, h⟩ := h
  have c8 : CallP Try.prog 18 [(LV.ro 1 (y5.1.map (roC 1 iC))), (LV.ro 1 [[(LV.ro 1 [[(I 1)], [(I 1)]])], [(LV.ro 1 [[(I 0)], [(I 2)]])]])] (LV.bool y7) := by first | exact c_ref16_Same y5.1 ([([1, 1] : (List Int)), ([0, 2] : (List Int))] : (List (List Int))) _ hy7 | (simpa only [se_map, se_byL, se_len, se_ch, List.length_map] using c_ref16_Same y5.1 ([([1, 1] : (List Int)), ([0, 2] : (List Int))] : (List (List Int))) _ hy7)
  have e := Option.some.inj h
  subst e
  repeat' first | exact rA _ | ((with_reducible refine parkX hg1_ ?_); conv => whnf) | (refine CallP.use c8 ?_; conv => whnf) | exact clA _ | (refine And.intro ?_ ?_ <;> conv => whnf) | exact clG _ | (refine gand ?_ h; assumption) | exact clN _ | (intro hq_; conv => whnf) | fail
 ·replace h := condF (by first | exact hg1_ | simpa only [se_len, se_ch, List.length_map] using hg1_) h
  conv => whnf
  have e := Option.some.inj h
  subst e
  repeat' first | exact rA _ | exact (by first | exact hg1_ | simpa using hg1_ : _ = false) | (refine ⟨?_, True.intro⟩; first | exact hg1_ | (simpa using hg1_; done)) | exact clA _ | (refine And.intro ?_ ?_ <;> conv => whnf) | exact clG _ | (refine gand ?_ h; assumption) | exact clN _ | (intro hq_; conv => whnf) | fail

def law16_TreeNear_c1 (a1 : Int) (a2 : Int) (y1 : LanT) (y11 : (Int × Int × Int)) (y13 : (Int × Int × Int)) (x22 : LinkT) (k23 : Nat) (x23 : LinkT) (s23 : Unit) : Option (Step (Step Bool Unit) Unit) :=
 (bif (bif (bif (bif (bif (!decide ((((IntKind.i64.wrap (((a1).tmod ((y1.Plans.length : Nat) : Int)) + ((y1.Plans.length : Nat) : Int)))).tmod ((y1.Plans.length : Nat) : Int)) = (((IntKind.i64.wrap (((a2).tmod ((y1.Plans.length : Nat) : Int)) + ((y1.Plans.length : Nat) : Int)))).tmod ((y1.Plans.length : Nat) : Int)))) then x22.Up else false) then x23.Up else false) then (decide (x22.Seg = x23.Seg)) else false) then (bif (bif (!decide (y11.1 = y13.1)) then true else (decide ((IntKind.i64.wrap (y13.2.1 + x22.Cost)) < y11.2.1))) then true else (decide ((IntKind.i64.wrap (y11.2.1 + x23.Cost)) < y13.2.1))) else false) then
  some (.ret (.ret false))
 else
  some (.nxt ()))

def law16_TreeNear_c0 (a1 : Int) (a2 : Int) (y1 : LanT) (y11 : (Int × Int × Int)) (y13 : (Int × Int × Int)) (k22 : Nat) (x22 : LinkT) (s22 : Unit) : Option (Step Bool Unit) :=
 (gix y1.Plans (((IntKind.i64.wrap (((a2).tmod ((y1.Plans.length : Nat) : Int)) + ((y1.Plans.length : Nat) : Int)))).tmod ((y1.Plans.length : Nat) : Int))).bind fun v21 =>
 aft (rangeL (law16_TreeNear_c1 a1 a2 y1 y11 y13 x22) v21.Ports ()) fun s23 =>
 some (.nxt ())

def law16_TreeNear (a0 : LanT) (a1 : Int) (a2 : Int) : Option Bool :=
 (law16_few a0).bind fun y1 =>
 (bif (decide (((y1.Plans.length : Nat) : Int) = 0)) then
  (tree_Best y1 0).bind fun y3 =>
  (law16_alive ).bind fun y5 =>
  some (bif y5 then (!decide (y3.2.2 = 0)) else false)
 else
  grd ((((y1.Plans.length : Nat) : Int) : Int) ≠ 0) <|
  grd ((((y1.Plans.length : Nat) : Int) : Int) ≠ 0) <|
  grd ((((y1.Plans.length : Nat) : Int) : Int) ≠ 0) <|
  grd ((((y1.Plans.length : Nat) : Int) : Int) ≠ 0) <|
  (tree_Best y1 (((IntKind.i64.wrap (((a1).tmod ((y1.Plans.length : Nat) : Int)) + ((y1.Plans.length : Nat) : Int)))).tmod ((y1.Plans.length : Nat) : Int))).bind fun y11 =>
  (tree_Best y1 (((IntKind.i64.wrap (((a2).tmod ((y1.Plans.length : Nat) : Int)) + ((y1.Plans.length : Nat) : Int)))).tmod ((y1.Plans.length : Nat) : Int))).bind fun y13 =>
  (bif (!decide (y11.2.2 = 0)) then
   (law16_alive ).bind fun y15 =>
   some (bif y15 then (decide (y11.2.2 = y13.2.2)) else false)
  else
   (gd (!(!decide (y13.2.2 = 0))) (law16_alive )).bind fun y17 =>
   (bif (bif (!decide (y13.2.2 = 0)) then true else (!y17)) then
    some false
   else
    (gix y1.Plans (((IntKind.i64.wrap (((a1).tmod ((y1.Plans.length : Nat) : Int)) + ((y1.Plans.length : Nat) : Int)))).tmod ((y1.Plans.length : Nat) : Int))).bind fun v19 =>
    aft (rangeL (law16_TreeNear_c0 a1 a2 y1 y11 y13) v19.Ports ()) fun s22 =>
    (gd (decide (0 ≤ y11.2.1)) (gix y1.Plans (((IntKind.i64.wrap (((a1).tmod ((y1.Plans.length : Nat) : Int)) + ((y1.Plans.length : Nat) : Int)))).tmod ((y1.Plans.length : Nat) : Int)))).bind fun v23 =>
    some (bif (decide (0 ≤ y11.2.1)) then ((decide (y11.2.1 = 0)) == (decide (y11.1 = v23.ID))) else false))))

theorem c_law16_TreeNear (a0 : LanT) (a1 : Int) (a2 : Int) (r : Bool) (h : law16_TreeNear a0 a1 a2 = some r) : CallP Try.prog 3 [(LV.agg [(I a0.Segs), (LV.ro 2 (a0.Plans.map PlanT.cells)), (LV.ro 2 (a0.Hosts.map HostT.cells))]), (I a1), (I a2)] (LV.bool r) := by
 unfold law16_TreeNear at h
 refine .intro nlA (.intro TT_ok Try.func3 rfl rfl [0, 1, 2, 3, 6, 9, 10, 11, 12, 13, 14, 15, 17, 19, 25, 78, 90, 96, 97, 98, 99, 107, 108, 109, 110, 151] rfl ?_)
 conv => whnf
 replace h := bindS h
 obtain ⟨y1, hy1, h⟩ := h
 have c2 := c_law16_few a0 _ hy1
 repeat' first | exact rA _ | refine parkI ?_ | (refine CallP.use c2 ?_; conv => whnf) | (refine ⟨_, _, CallP.at c2, ?_⟩; conv => whnf) | (refine ⟨_, fun _ => c2, ?_⟩; conv => whnf) | (refine W.drawnM (id := 5) 0 TT_ok hmix1 [0, 0, 0, 0, 0, 0, 0, 0, 0, 0, 0, 0, 0, 0, 0, 0, 0, 0, 0, 0, 0, 0, 0, 0, 0, 0, 0, 0] [0, 0, 0, 0, 0, 0, 0, 0, 0, 0, 0, 0, 0, 0, 0, 0, 0, 0, 0, 0, 0, 0, 0, 0, 0, 0, 0, 0] rfl ?_; conv => whnf) | exact clA _ | (refine And.intro ?_ ?_ <;> conv => whnf) | exact clG _ | (refine gand ?_ h; assumption) | exact clN _ | fail
 refine parkE (fun hc => ?_) (fun hc => ?_)
 ·replace h := condT (by first | exact hc | (simpa only [se_len, se_ch, List.length_map] using hc; done) | (have h0 : (decide ((((y1.Plans.map PlanT.cells).length : Nat) : Int) = 0)) = true := hc; simpa only [se_len, se_ch, List.length_map] using h0)) h
  conv => whnf
  replace h := bindS h
  obtain ⟨y3, hy3, h⟩ := h
  have c4 := c_tree_Best y1 0 _ hy3
  replace h := bindS h
  obtain ⟨y5, hy5, h⟩ := h
  have c6 := c_law16_alive  _ hy5
  have e := Option.some.inj h
  subst e
  repeat' first | exact rA _ | (refine CallP.use c4 ?_; conv => whnf) | (refine ⟨_, _, CallP.at c4, ?_⟩; conv => whnf) | (refine ⟨_, fun _ => c4, ?_⟩; conv => whnf) | (refine CallP.use c6 ?_; conv => whnf) | (refine ⟨_, _, CallP.at c6, ?_⟩; conv => whnf) | (refine ⟨_, fun _ => c6, ?_⟩; conv => whnf) | (refine W.drawnM (id := 5) 0 TT_ok hmix1 [0, 0, 0, 0, 0, 0, 0, 0, 0, 0, 0, 0, 0, 0, 0, 0, 0, 0, 0, 0, 0, 0, 0, 0, 0, 0, 0, 0] [0, 0, 0, 0, 0, 0, 0, 0, 0, 0, 0, 0, 0, 0, 0, 0, 0, 0, 0, 0, 0, 0, 0, 0, 0, 0, 0, 0] rfl ?_; conv => whnf) | exact clA _ | (refine And.intro ?_ ?_ <;> conv => whnf) | exact clG _ | (refine gand ?_ h; assumption) | exact clN _ | fail
 ·replace h := condF (by first | exact hc | (simpa only [se_len, se_ch, List.length_map] using hc; done) | (have h0 : (decide ((((y1.Plans.map PlanT.cells).length : Nat) : Int) = 0)) = false := hc; simpa only [se_len, se_ch, List.length_map] using h0)) h
  conv => whnf
  replace h := grdS h
  obtain ⟨g7, h⟩ := h
  replace g7 : ((((y1.Plans.map PlanT.cells).length : Nat) : Int) : Int) ≠ 0 := by simpa only [se_len, se_ch, List.length_map] using g7
  replace h := grdS h
  obtain ⟨g8, h⟩ := h
  replace g8 : ((((y1.Plans.map PlanT.cells).length : Nat) : Int) : Int) ≠ 0 := by simpa only [se_len, se_ch, List.length_map] using g8
  replace h := grdS h
  obtain ⟨g9, h⟩ := h
  replace g9 : ((((y1.Plans.map PlanT.cells).length : Nat) : Int) : Int) ≠ 0 := by simpa only [se_len, se_ch, List.length_map] using g9
  replace h := grdS h
  obtain ⟨g10, h⟩ := h
  replace g10 : ((((y1.Plans.map PlanT.cells).length : Nat) : Int) : Int) ≠ 0 := by simpa only [se_len, se_ch, List.length_map] using g10
  replace h := bindS h
  obtain ⟨y11, hy11, h⟩ := h
  have c12 : CallP Try.prog 9 [(LV.agg [(I y1.Segs), (LV.ro 2 (y1.Plans.map PlanT.cells)), (LV.ro 2 (y1.Hosts.map HostT.cells))]), (I (((IntKind.i64.wrap (((a1).tmod (((y1.Plans.map PlanT.cells).length : Nat) : Int)) + (((y1.Plans.map PlanT.cells).length : Nat) : Int)))).tmod (((y1.Plans.map PlanT.cells).length : Nat) : Int)))] (LV.tup [(I y11.1), (I y11.2.1), (I y11.2.2)]) := by first | exact c_tree_Best y1 (((IntKind.i64.wrap (((a1).tmod ((y1.Plans.length : Nat) : Int)) + ((y1.Plans.length : Nat) : Int)))).tmod ((y1.Plans.length : Nat) : Int)) _ hy11 | (simpa only [se_map, se_byL, se_len, se_ch, List.length_map] using c_tree_Best y1 (((IntKind.i64.wrap (((a1).tmod ((y1.Plans.length : Nat) : Int)) + ((y1.Plans.length : Nat) : Int)))).tmod ((y1.Plans.length : Nat) : Int)) _ hy11)
  replace h := bindS h
  obtain ⟨y13, hy13, h⟩ := h
  have c14 : CallP Try.prog 9 [(LV.agg [(I y1.Segs), (LV.ro 2 (y1.Plans.map PlanT.cells)), (LV.ro 2 (y1.Hosts.map HostT.cells))]), (I (((IntKind.i64.wrap (((a2).tmod (((y1.Plans.map PlanT.cells).length : Nat) : Int)) + (((y1.Plans.map PlanT.cells).length : Nat) : Int)))).tmod (((y1.Plans.map PlanT.cells).length : Nat) : Int)))] (LV.tup [(I y13.1), (I y13.2.1), (I y13.2.2)]) := by first | exact c_tree_Best y1 (((IntKind.i64.wrap (((a2).tmod ((y1.Plans.length : Nat) : Int)) + ((y1.Plans.length : Nat) : Int)))).tmod ((y1.Plans.length : Nat) : Int)) _ hy13 | (simpa only [se_map, se_byL, se_len, se_ch, List.length_map] using c_tree_Best y1 (((IntKind.i64.wrap (((a2).tmod ((y1.Plans.length : Nat) : Int)) + ((y1.Plans.length : Nat) : Int)))).tmod ((y1.Plans.length : Nat) : Int)) _ hy13)
  repeat' first | exact rA _ | refine parkI ?_ | exact g7 | exact g8 | exact g9 | exact g10 | (refine CallP.use c12 ?_; conv => whnf) | (refine ⟨_, _, CallP.at c12, ?_⟩; conv => whnf) | (refine ⟨_, fun _ => c12, ?_⟩; conv => whnf) | (refine CallP.use c14 ?_; conv => whnf) | (refine ⟨_, _, CallP.at c14, ?_⟩; conv => whnf) | (refine ⟨_, fun _ => c14, ?_⟩; conv => whnf) | (refine W.drawnM (id := 5) 0 TT_ok hmix1 [0, 0, 0, 0, 0, 0, 0, 0, 0, 0, 0, 0, 0, 0, 0, 0, 0, 0, 0, 0, 0, 0, 0, 0, 0, 0, 0, 0] [0, 0, 0, 0, 0, 0, 0, 0, 0, 0, 0, 0, 0, 0, 0, 0, 0, 0, 0, 0, 0, 0, 0, 0, 0, 0, 0, 0] rfl ?_; conv => whnf) | exact clA _ | (refine And.intro ?_ ?_ <;> conv => whnf) | exact clG _ | (refine gand ?_ h; assumption) | exact clN _ | fail
  refine parkE (fun hc => ?_) (fun hc => ?_)
  ·replace h := condT hc h
   conv => whnf
   replace h := bindS h
   obtain ⟨y15, hy15, h⟩ := h
   have c16 := c_law16_alive  _ hy15
   have e := Option.some.inj h
   subst e
   repeat' first | exact rA _ | (refine CallP.use c16 ?_; conv => whnf) | (refine ⟨_, _, CallP.at c16, ?_⟩; conv => whnf) | (refine ⟨_, fun _ => c16, ?_⟩; conv => whnf) | (refine W.drawnM (id := 5) 0 TT_ok hmix1 [0, 0, 0, 0, 0, 0, 0, 0, 0, 0, 0, 0, 0, 0, 0, 0, 0, 0, 0, 0, 0, 0, 0, 0, 0, 0, 0, 0] [0, 0, 0, 0, 0, 0, 0, 0, 0, 0, 0, 0, 0, 0, 0, 0, 0, 0, 0, 0, 0, 0, 0, 0, 0, 0, 0, 0] rfl ?_; conv => whnf) | exact clA _ | (refine And.intro ?_ ?_ <;> conv => whnf) | exact clG _ | (refine gand ?_ h; assumption) | exact clN _ | fail
  ·replace h := condF hc h
   conv => whnf
   replace h := bindS h
   obtain ⟨y17, hy17, h⟩ := h
   have c18 := fun (hg : (!(!decide (y13.2.2 = 0))) = true) => c_law16_alive  _ (gdS hg hy17)
   repeat' first | exact rA _ | refine parkI ?_ | (refine ⟨_, c18, ?_⟩; conv => whnf) | (refine W.drawnM (id := 5) 0 TT_ok hmix1 [0, 0, 0, 0, 0, 0, 0, 0, 0, 0, 0, 0, 0, 0, 0, 0, 0, 0, 0, 0, 0, 0, 0, 0, 0, 0, 0, 0] [0, 0, 0, 0, 0, 0, 0, 0, 0, 0, 0, 0, 0, 0, 0, 0, 0, 0, 0, 0, 0, 0, 0, 0, 0, 0, 0, 0] rfl ?_; conv => whnf) | exact clA _ | (refine And.intro ?_ ?_ <;> conv => whnf) | exact clG _ | (refine gand ?_ h; assumption) | exact clN _ | fail
   refine parkE (fun hc => ?_) (fun hc => ?_)
   ·replace h := condT hc h
    conv => whnf
    have e := Option.some.inj h
    subst e
    repeat' first | exact rA _ | (refine W.drawnM (id := 5) 0 TT_ok hmix1 [0, 0, 0, 0, 0, 0, 0, 0, 0, 0, 0, 0, 0, 0, 0, 0, 0, 0, 0, 0, 0, 0, 0, 0, 0, 0, 0, 0] [0, 0, 0, 0, 0, 0, 0, 0, 0, 0, 0, 0, 0, 0, 0, 0, 0, 0, 0, 0, 0, 0, 0, 0, 0, 0, 0, 0] rfl ?_; conv => whnf) | exact clA _ | (refine And.intro ?_ ?_ <;> conv => whnf) | exact clG _ | (refine gand ?_ h; assumption) | exact clN _ | fail
   ·replace h := condF hc h
    conv => whnf
    replace h := bindS h
    obtain ⟨v19, hv19, h⟩ := h
    have i20 : (0 : Int) ≤ (((IntKind.i64.wrap (((a1).tmod (((y1.Plans.map PlanT.cells).length : Nat) : Int)) + (((y1.Plans.map PlanT.cells).length : Nat) : Int)))).tmod (((y1.Plans.map PlanT.cells).length : Nat) : Int)) ∧ (y1.Plans.map PlanT.cells)[((((IntKind.i64.wrap (((a1).tmod (((y1.Plans.map PlanT.cells).length : Nat) : Int)) + (((y1.Plans.map PlanT.cells).length : Nat) : Int)))).tmod (((y1.Plans.map PlanT.cells).length : Nat) : Int)) : Int).toNat]? = some [(I v19.ID), (LV.ro 3 (v19.Ports.map LinkT.cells))] := by simpa only [se_map, se_len, se_ch, List.length_map] using (gixF (f := PlanT.cells) hv19)
    repeat' first | exact rA _ | refine parkI ?_ | (refine ⟨_, i20, ?_⟩; conv => whnf) | (refine W.drawnM (id := 5) 0 TT_ok hmix1 [0, 0, 0, 0, 0, 0, 0, 0, 0, 0, 0, 0, 0, 0, 0, 0, 0, 0, 0, 0, 0, 0, 0, 0, 0, 0, 0, 0] [0, 0, 0, 0, 0, 0, 0, 0, 0, 0, 0, 0, 0, 0, 0, 0, 0, 0, 0, 0, 0, 0, 0, 0, 0, 0, 0, 0] rfl ?_; conv => whnf) | exact clA _ | (refine And.intro ?_ ?_ <;> conv => whnf) | exact clG _ | (refine gand ?_ h; assumption) | exact clN _ | fail
    replace h := aftS h
    obtain ⟨O22, hO22, r22⟩ := h
    refine LoopW.norm [(1, (I (((IntKind.i64.wrap (((a1).tmod (((y1.Plans.map PlanT.cells).length : Nat) : Int)) + (((y1.Plans.map PlanT.cells).length : Nat) : Int)))).tmod (((y1.Plans.map PlanT.cells).length : Nat) : Int)))), (2, (I (((IntKind.i64.wrap (((a2).tmod (((y1.Plans.map PlanT.cells).length : Nat) : Int)) + (((y1.Plans.map PlanT.cells).length : Nat) : Int)))).tmod (((y1.Plans.map PlanT.cells).length : Nat) : Int)))), (3, (LV.ptr 0 0 0)), (10, (I y11.1)), (11, (I y11.2.1)), (13, (I y13.1)), (14, (I y13.2.1)), (96, (LV.ro 3 (v19.Ports.map LinkT.cells))), (97, (I (((v19.Ports.map LinkT.cells).length : Nat) : Int))), (98, (I ((0 : Nat) : Int)))] 1 [(0, (.row 25 3 [[(I y1.Segs), (LV.ro 2 (y1.Plans.map PlanT.cells)), (LV.ro 2 (y1.Hosts.map HostT.cells))]]))] ⟨rfl, rfl, rfl, rfl, rfl, rfl, rfl, rfl, rfl, rfl, trivial⟩ ⟨⟨rfl, rfl, blT⟩, trivial⟩ blT rfl ?_
    refine LoopW.forR (fun k22 s22 => [(1, (I (((IntKind.i64.wrap (((a1).tmod (((y1.Plans.map PlanT.cells).length : Nat) : Int)) + (((y1.Plans.map PlanT.cells).length : Nat) : Int)))).tmod (((y1.Plans.map PlanT.cells).length : Nat) : Int)))), (2, (I (((IntKind.i64.wrap (((a2).tmod (((y1.Plans.map PlanT.cells).length : Nat) : Int)) + (((y1.Plans.map PlanT.cells).length : Nat) : Int)))).tmod (((y1.Plans.map PlanT.cells).length : Nat) : Int)))), (3, (LV.ptr 0 0 0)), (10, (I y11.1)), (11, (I y11.2.1)), (13, (I y13.1)), (14, (I y13.2.1)), (96, (LV.ro 3 (v19.Ports.map LinkT.cells))), (97, (I (((v19.Ports.map LinkT.cells).length : Nat) : Int))), (98, (I ((k22 : Nat) : Int)))]) (fun s22 => ⟨1, [(0, (.row 25 3 [[(I y1.Segs), (LV.ro 2 (y1.Plans.map PlanT.cells)), (LV.ro 2 (y1.Hosts.map HostT.cells))]]))]⟩) hO22 (fun hl22 s22 hs22 => ?_) (fun hl22 k22 x22 s22 o22 hk22 hx22 b22 K22 hret22 hbrk22 => ?_)
    ·rw [hs22] at r22
     dsimp only [aftM] at r22
     have hd : decide (((v19.Ports.length : Nat) : Int) < (((v19.Ports.map LinkT.cells).length : Nat) : Int)) = false := by rw [decide_eq_false_iff_not]; (try simp only [se_len, se_ch, List.length_map]); omega
     refine LoopW.round TT_ok [0, 1, 2, 3, 6, 9, 10, 11, 12, 13, 14, 15, 17, 19, 25, 78, 90, 96, 97, 98, 99, 107, 108, 109, 110, 151] ?_
     conv => whnf
     repeat' first | exact rA _ | refine parkI ?_ | (refine W.drawnM (id := 5) 0 TT_ok hmix1 [0, 0, 0, 0, 0, 0, 0, 0, 0, 0, 0, 0, 0, 0, 0, 0, 0, 0, 0, 0, 0, 0, 0, 0, 0, 0, 0, 0] [0, 0, 0, 0, 0, 0, 0, 0, 0, 0, 0, 0, 0, 0, 0, 0, 0, 0, 0, 0, 0, 0, 0, 0, 0, 0, 0, 0] rfl ?_; conv => whnf) | exact clA _ | (refine And.intro ?_ ?_ <;> conv => whnf) | exact clG _ | (refine gand ?_ h; assumption) | exact clN _ | fail
     refine parkE (fun hc => ?_) (fun hc => ?_)
     ·exact (Bool.false_ne_true (hd.symm.trans hc)).elim
     ·clear hd
      conv => whnf
      replace r22 := bindS r22
      obtain ⟨v23, hv23, r22⟩ := r22
      have i24 : (decide (0 ≤ y11.2.1)) = true → (0 : Int) ≤ (((IntKind.i64.wrap (((a1).tmod (((y1.Plans.map PlanT.cells).length : Nat) : Int)) + (((y1.Plans.map PlanT.cells).length : Nat) : Int)))).tmod (((y1.Plans.map PlanT.cells).length : Nat) : Int)) ∧ (y1.Plans.map PlanT.cells)[((((IntKind.i64.wrap (((a1).tmod (((y1.Plans.map PlanT.cells).length : Nat) : Int)) + (((y1.Plans.map PlanT.cells).length : Nat) : Int)))).tmod (((y1.Plans.map PlanT.cells).length : Nat) : Int)) : Int).toNat]? = some [(I v23.ID), (LV.ro 3 (v23.Ports.map LinkT.cells))] := by simpa only [se_map, se_len, se_ch, List.length_map] using (fun hg => gixF (f := PlanT.cells) (gdS hg hv23))
      have e := Option.some.inj r22
      subst e
      repeat' first | exact rA _ | (refine ⟨_, i24, ?_⟩; conv => whnf) | (refine W.drawnM (id := 5) 0 TT_ok hmix1 [0, 0, 0, 0, 0, 0, 0, 0, 0, 0, 0, 0, 0, 0, 0, 0, 0, 0, 0, 0, 0, 0, 0, 0, 0, 0, 0, 0] [0, 0, 0, 0, 0, 0, 0, 0, 0, 0, 0, 0, 0, 0, 0, 0, 0, 0, 0, 0, 0, 0, 0, 0, 0, 0, 0, 0] rfl ?_; conv => whnf) | exact clA _ | (refine And.intro ?_ ?_ <;> conv => whnf) | exact clG _ | (refine gand ?_ h; assumption) | exact clN _ | fail
    ·unfold law16_TreeNear_c0 at b22
     have hd : decide (((k22 : Nat) : Int) < (((v19.Ports.map LinkT.cells).length : Nat) : Int)) = true := by rw [decide_eq_true_eq]; (try simp only [se_len, se_ch, List.length_map] at hk22); (try simp only [se_len, se_ch, List.length_map]); omega
     refine LoopW.round TT_ok [0, 1, 2, 3, 6, 9, 10, 11, 12, 13, 14, 15, 17, 19, 25, 78, 90, 96, 97, 98, 99, 107, 108, 109, 110, 151] ?_
     conv => whnf
     repeat' first | exact rA _ | refine parkI ?_ | (refine W.drawnM (id := 5) 0 TT_ok hmix1 [0, 0, 0, 0, 0, 0, 0, 0, 0, 0, 0, 0, 0, 0, 0, 0, 0, 0, 0, 0, 0, 0, 0, 0, 0, 0, 0, 0] [0, 0, 0, 0, 0, 0, 0, 0, 0, 0, 0, 0, 0, 0, 0, 0, 0, 0, 0, 0, 0, 0, 0, 0, 0, 0, 0, 0] rfl ?_; conv => whnf) | exact clA _ | (refine And.intro ?_ ?_ <;> conv => whnf) | exact clG _ | (refine gand ?_ h; assumption) | exact clN _ | fail
     refine parkE (fun hc => ?_) (fun hc => ?_)
     ·clear hd
      conv => whnf
      replace b22 := bindS b22
      obtain ⟨v21, hv21, b22⟩ := b22
      have i22 : (0 : Int) ≤ (((IntKind.i64.wrap (((a2).tmod (((y1.Plans.map PlanT.cells).length : Nat) : Int)) + (((y1.Plans.map PlanT.cells).length : Nat) : Int)))).tmod (((y1.Plans.map PlanT.cells).length : Nat) : Int)) ∧ (y1.Plans.map PlanT.cells)[((((IntKind.i64.wrap (((a2).tmod (((y1.Plans.map PlanT.cells).length : Nat) : Int)) + (((y1.Plans.map PlanT.cells).length : Nat) : Int)))).tmod (((y1.Plans.map PlanT.cells).length : Nat) : Int)) : Int).toNat]? = some [(I v21.ID), (LV.ro 3 (v21.Ports.map LinkT.cells))] := by simpa only [se_map, se_len, se_ch, List.length_map] using (gixF (f := PlanT.cells) hv21)
      repeat' first | exact rA _ | refine parkI ?_ | (refine ⟨_, (kixF (f := LinkT.cells) hx22), ?_⟩; conv => whnf) | (refine ⟨_, i22, ?_⟩; conv => whnf) | (refine W.drawnM (id := 5) 0 TT_ok hmix1 [0, 0, 0, 0, 0, 0, 0, 0, 0, 0, 0, 0, 0, 0, 0, 0, 0, 0, 0, 0, 0, 0, 0, 0, 0, 0, 0, 0] [0, 0, 0, 0, 0, 0, 0, 0, 0, 0, 0, 0, 0, 0, 0, 0, 0, 0, 0, 0, 0, 0, 0, 0, 0, 0, 0, 0] rfl ?_; conv => whnf) | exact clA _ | (refine And.intro ?_ ?_ <;> conv => whnf) | exact clG _ | (refine gand ?_ h; assumption) | exact clN _ | fail
      replace b22 := aftS b22
      obtain ⟨O23, hO23, r23⟩ := b22
      refine LoopW.norm [(1, (I (((IntKind.i64.wrap (((a1).tmod (((y1.Plans.map PlanT.cells).length : Nat) : Int)) + (((y1.Plans.map PlanT.cells).length : Nat) : Int)))).tmod (((y1.Plans.map PlanT.cells).length : Nat) : Int)))), (2, (I (((IntKind.i64.wrap (((a2).tmod (((y1.Plans.map PlanT.cells).length : Nat) : Int)) + (((y1.Plans.map PlanT.cells).length : Nat) : Int)))).tmod (((y1.Plans.map PlanT.cells).length : Nat) : Int)))), (3, (LV.ptr 0 0 0)), (10, (I y11.1)), (11, (I y11.2.1)), (13, (I y13.1)), (14, (I y13.2.1)), (17, (LV.ptr 1 0 0)), (96, (LV.ro 3 (v19.Ports.map LinkT.cells))), (97, (I (((v19.Ports.map LinkT.cells).length : Nat) : Int))), (98, (I ((k22 : Nat) : Int))), (107, (LV.ro 3 (v21.Ports.map LinkT.cells))), (108, (I (((v21.Ports.map LinkT.cells).length : Nat) : Int))), (109, (I ((0 : Nat) : Int)))] 2 [(0, (.row 25 3 [[(I y1.Segs), (LV.ro 2 (y1.Plans.map PlanT.cells)), (LV.ro 2 (y1.Hosts.map HostT.cells))]])), (1, (.row 35 3 [[(I x22.Seg), (I x22.Cost), (LV.bool x22.Up)]]))] ⟨rfl, rfl, rfl, rfl, rfl, rfl, rfl, rfl, rfl, rfl, rfl, rfl, rfl, rfl, trivial⟩ ⟨⟨rfl, rfl, blT⟩, ⟨⟨rfl, rfl, blT⟩, trivial⟩⟩ blT rfl ?_
      refine LoopW.forR (fun k23 s23 => [(1, (I (((IntKind.i64.wrap (((a1).tmod (((y1.Plans.map PlanT.cells).length : Nat) : Int)) + (((y1.Plans.map PlanT.cells).length : Nat) : Int)))).tmod (((y1.Plans.map PlanT.cells).length : Nat) : Int)))), (2, (I (((IntKind.i64.wrap (((a2).tmod (((y1.Plans.map PlanT.cells).length : Nat) : Int)) + (((y1.Plans.map PlanT.cells).length : Nat) : Int)))).tmod (((y1.Plans.map PlanT.cells).length : Nat) : Int)))), (3, (LV.ptr 0 0 0)), (10, (I y11.1)), (11, (I y11.2.1)), (13, (I y13.1)), (14, (I y13.2.1)), (17, (LV.ptr 1 0 0)), (96, (LV.ro 3 (v19.Ports.map LinkT.cells))), (97, (I (((v19.Ports.map LinkT.cells).length : Nat) : Int))), (98, (I ((k22 : Nat) : Int))), (107, (LV.ro 3 (v21.Ports.map LinkT.cells))), (108, (I (((v21.Ports.map LinkT.cells).length : Nat) : Int))), (109, (I ((k23 : Nat) : Int)))]) (fun s23 => ⟨2, [(0, (.row 25 3 [[(I y1.Segs), (LV.ro 2 (y1.Plans.map PlanT.cells)), (LV.ro 2 (y1.Hosts.map HostT.cells))]])), (1, (.row 35 3 [[(I x22.Seg), (I x22.Cost), (LV.bool x22.Up)]]))]⟩) hO23 (fun hl23 s23 hs23 => ?_) (fun hl23 k23 x23 s23 o23 hk23 hx23 b23 K23 hret23 hbrk23 => ?_)
      ·rw [hs23] at r23
       dsimp only [aftM] at r23
       have hd : decide (((v21.Ports.length : Nat) : Int) < (((v21.Ports.map LinkT.cells).length : Nat) : Int)) = false := by rw [decide_eq_false_iff_not]; (try simp only [se_len, se_ch, List.length_map]); omega
       refine LoopW.round TT_ok [0, 1, 2, 3, 6, 9, 10, 11, 12, 13, 14, 15, 17, 19, 25, 78, 90, 96, 97, 98, 99, 107, 108, 109, 110, 151] ?_
       conv => whnf
       repeat' first | exact rA _ | refine parkI ?_ | (refine W.drawnM (id := 5) 0 TT_ok hmix1 [0, 0, 0, 0, 0, 0, 0, 0, 0, 0, 0, 0, 0, 0, 0, 0, 0, 0, 0, 0, 0, 0, 0, 0, 0, 0, 0, 0] [0, 0, 0, 0, 0, 0, 0, 0, 0, 0, 0, 0, 0, 0, 0, 0, 0, 0, 0, 0, 0, 0, 0, 0, 0, 0, 0, 0] rfl ?_; conv => whnf) | exact clA _ | (refine And.intro ?_ ?_ <;> conv => whnf) | exact clG _ | (refine gand ?_ h; assumption) | exact clN _ | fail
       refine parkE (fun hc => ?_) (fun hc => ?_)
       ·exact (Bool.false_ne_true (hd.symm.trans hc)).elim
       ·clear hd
        conv => whnf
        repeat' first | exact rA _ | refine parkI ?_ | (refine W.drawnM (id := 5) 0 TT_ok hmix1 [0, 0, 0, 0, 0, 0, 0, 0, 0, 0, 0, 0, 0, 0, 0, 0, 0, 0, 0, 0, 0, 0, 0, 0, 0, 0, 0, 0] [0, 0, 0, 0, 0, 0, 0, 0, 0, 0, 0, 0, 0, 0, 0, 0, 0, 0, 0, 0, 0, 0, 0, 0, 0, 0, 0, 0] rfl ?_; conv => whnf) | exact clA _ | (refine And.intro ?_ ?_ <;> conv => whnf) | exact clG _ | (refine gand ?_ h; assumption) | exact clN _ | fail
        have e := Option.some.inj r23
        refine LoopW.norm [(1, (I (((IntKind.i64.wrap (((a1).tmod (((y1.Plans.map PlanT.cells).length : Nat) : Int)) + (((y1.Plans.map PlanT.cells).length : Nat) : Int)))).tmod (((y1.Plans.map PlanT.cells).length : Nat) : Int)))), (2, (I (((IntKind.i64.wrap (((a2).tmod (((y1.Plans.map PlanT.cells).length : Nat) : Int)) + (((y1.Plans.map PlanT.cells).length : Nat) : Int)))).tmod (((y1.Plans.map PlanT.cells).length : Nat) : Int)))), (3, (LV.ptr 0 0 0)), (10, (I y11.1)), (11, (I y11.2.1)), (13, (I y13.1)), (14, (I y13.2.1)), (96, (LV.ro 3 (v19.Ports.map LinkT.cells))), (97, (I (((v19.Ports.map LinkT.cells).length : Nat) : Int))), (98, (I ((k22 + 1 : Nat) : Int)))] 1 [(0, (.row 25 3 [[(I y1.Segs), (LV.ro 2 (y1.Plans.map PlanT.cells)), (LV.ro 2 (y1.Hosts.map HostT.cells))]]))] ⟨rfl, rfl, rfl, rfl, rfl, rfl, rfl, rfl, rfl, (congrArg (LV.int .i64) (w64_nat _ (by omega))), trivial⟩ ⟨⟨rfl, rfl, blT⟩, trivial⟩ blT rfl (K22 _ e.symm)
      ·unfold law16_TreeNear_c1 at b23
       have hd : decide (((k23 : Nat) : Int) < (((v21.Ports.map LinkT.cells).length : Nat) : Int)) = true := by rw [decide_eq_true_eq]; (try simp only [se_len, se_ch, List.length_map] at hk23); (try simp only [se_len, se_ch, List.length_map]); omega
       refine LoopW.round TT_ok [0, 1, 2, 3, 6, 9, 10, 11, 12, 13, 14, 15, 17, 19, 25, 78, 90, 96, 97, 98, 99, 107, 108, 109, 110, 151] ?_
       conv => whnf
       repeat' first | exact rA _ | refine parkI ?_ | (refine W.drawnM (id := 5) 0 TT_ok hmix1 [0, 0, 0, 0, 0, 0, 0, 0, 0, 0, 0, 0, 0, 0, 0, 0, 0, 0, 0, 0, 0, 0, 0, 0, 0, 0, 0, 0] [0, 0, 0, 0, 0, 0, 0, 0, 0, 0, 0, 0, 0, 0, 0, 0, 0, 0, 0, 0, 0, 0, 0, 0, 0, 0, 0, 0] rfl ?_; conv => whnf) | exact clA _ | (refine And.intro ?_ ?_ <;> conv => whnf) | exact clG _ | (refine gand ?_ h; assumption) | exact clN _ | fail
       refine parkE (fun hc => ?_) (fun hc => ?_)
       ·clear hd
        conv => whnf
        repeat' first | exact rA _ | refine parkI ?_ | (refine ⟨_, (kixF (f := LinkT.cells) hx23), ?_⟩; conv => whnf) | (refine W.drawnM (id := 5) 0 TT_ok hmix1 [0, 0, 0, 0, 0, 0, 0, 0, 0, 0, 0, 0, 0, 0, 0, 0, 0, 0, 0, 0, 0, 0, 0, 0, 0, 0, 0, 0] [0, 0, 0, 0, 0, 0, 0, 0, 0, 0, 0, 0, 0, 0, 0, 0, 0, 0, 0, 0, 0, 0, 0, 0, 0, 0, 0, 0] rfl ?_; conv => whnf) | exact clA _ | (refine And.intro ?_ ?_ <;> conv => whnf) | exact clG _ | (refine gand ?_ h; assumption) | exact clN _ | fail
        refine parkE (fun hc => ?_) (fun hc => ?_)
        ·replace b23 := condT (by first | exact hc | simpa only [se_len, se_ch, List.length_map] using hc) b23
         conv => whnf
         have e := Option.some.inj b23
         replace e := hret23 _ e.symm
         rw [e] at r23
         replace e := Option.some.inj r23
         replace e := hret22 _ e.symm
         rw [e] at r22
         replace e := Option.some.inj r22
         subst e
         repeat' first | exact rA _ | (refine W.drawnM (id := 5) 0 TT_ok hmix1 [0, 0, 0, 0, 0, 0, 0, 0, 0, 0, 0, 0, 0, 0, 0, 0, 0, 0, 0, 0, 0, 0, 0, 0, 0, 0, 0, 0] [0, 0, 0, 0, 0, 0, 0, 0, 0, 0, 0, 0, 0, 0, 0, 0, 0, 0, 0, 0, 0, 0, 0, 0, 0, 0, 0, 0] rfl ?_; conv => whnf) | exact clA _ | (refine And.intro ?_ ?_ <;> conv => whnf) | exact clG _ | (refine gand ?_ h; assumption) | exact clN _ | fail
        ·replace b23 := condF (by first | exact hc | simpa only [se_len, se_ch, List.length_map] using hc) b23
         conv => whnf
         repeat' first | exact rA _ | refine parkI ?_ | (refine W.drawnM (id := 5) 0 TT_ok hmix1 [0, 0, 0, 0, 0, 0, 0, 0, 0, 0, 0, 0, 0, 0, 0, 0, 0, 0, 0, 0, 0, 0, 0, 0, 0, 0, 0, 0] [0, 0, 0, 0, 0, 0, 0, 0, 0, 0, 0, 0, 0, 0, 0, 0, 0, 0, 0, 0, 0, 0, 0, 0, 0, 0, 0, 0] rfl ?_; conv => whnf) | exact clA _ | (refine And.intro ?_ ?_ <;> conv => whnf) | exact clG _ | (refine gand ?_ h; assumption) | exact clN _ | fail
         have e := Option.some.inj b23
         refine LoopW.norm [(1, (I (((IntKind.i64.wrap (((a1).tmod (((y1.Plans.map PlanT.cells).length : Nat) : Int)) + (((y1.Plans.map PlanT.cells).length : Nat) : Int)))).tmod (((y1.Plans.map PlanT.cells).length : Nat) : Int)))), (2, (I (((IntKind.i64.wrap (((a2).tmod (((y1.Plans.map PlanT.cells).length : Nat) : Int)) + (((y1.Plans.map PlanT.cells).length : Nat) : Int)))).tmod (((y1.Plans.map PlanT.cells).length : Nat) : Int)))), (3, (LV.ptr 0 0 0)), (10, (I y11.1)), (11, (I y11.2.1)), (13, (I y13.1)), (14, (I y13.2.1)), (17, (LV.ptr 1 0 0)), (96, (LV.ro 3 (v19.Ports.map LinkT.cells))), (97, (I (((v19.Ports.map LinkT.cells).length : Nat) : Int))), (98, (I ((k22 : Nat) : Int))), (107, (LV.ro 3 (v21.Ports.map LinkT.cells))), (108, (I (((v21.Ports.map LinkT.cells).length : Nat) : Int))), (109, (I ((k23 + 1 : Nat) : Int)))] 2 [(0, (.row 25 3 [[(I y1.Segs), (LV.ro 2 (y1.Plans.map PlanT.cells)), (LV.ro 2 (y1.Hosts.map HostT.cells))]])), (1, (.row 35 3 [[(I x22.Seg), (I x22.Cost), (LV.bool x22.Up)]]))] ⟨rfl, rfl, rfl, rfl, rfl, rfl, rfl, rfl, rfl, rfl, rfl, rfl, rfl, (congrArg (LV.int .i64) (w64_nat _ (by omega))), trivial⟩ ⟨⟨rfl, rfl, blT⟩, ⟨⟨rfl, rfl, blT⟩, trivial⟩⟩ blT rfl (K23 _ e.symm)
       ·exact (Bool.false_ne_true (hc.symm.trans hd)).elim
     ·exact (Bool.false_ne_true (hc.symm.trans hd)).elim

end Go.RX
