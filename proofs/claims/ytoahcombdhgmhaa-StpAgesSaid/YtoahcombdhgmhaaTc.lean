/- Plain functions, and what says that the program's functions compute them. -/
import Derived.Test.YtoahcombdhgmhaaTb
set_option linter.unusedVariables false
set_option linter.unusedSimpArgs false
open Go Go.RX Go.Proofs
namespace Go.RX
set_option maxRecDepth 10000
set_option maxHeartbeats 4000000
attribute [local irreducible] CallW CallP LoopW W IntKind.wrap bitI
def stp_Hear_1_x (a0 : StpT) (a1 : ConfigT) (a2 : Int) : Option StpT :=
  grd ((0 : Int) ≤ a2 ∧ a2 < ((a0.Self.Infos.length : Nat) : Int)) <|
  (gixN a0.Self.Infos (a2 : Int).toNat).bind fun v16 =>
  some (⟨(⟨a0.Self.ID, a0.Self.Costs, a0.Self.Ups, (a0.Self.Infos.set (a2 : Int).toNat (⟨true, a1.Vec, a1.Age⟩ : InfoT))⟩ : SelfT), a0.States, a0.Max, a0.Delay⟩ : StpT)

theorem w_stp_Hear_1_x (a0 : StpT) (a1 : ConfigT) (a2 : Int) (r : StpT) (h : stp_Hear_1_x a0 a1 a2 = some r) : CallW Try.prog 169 [(LV.ptr 0 0 0), (LV.ptr 4 0 0), (LV.ptr 5 0 0)] ⟨6, [(0, (.row 85 7 [[(I a0.Self.ID), (LV.ro 1 (a0.Self.Costs.map iC)), (LV.sl 1 0 (a0.Self.Ups.map bC).length), (LV.sl 2 0 (a0.Self.Infos.map InfoT.cells).length), (LV.sl 3 0 (a0.States.map PortStateT.cells).length), (I a0.Max), (I a0.Delay)]])), (1, (.row 4 1 (a0.Self.Ups.map bC))), (2, (.row 120 6 (a0.Self.Infos.map InfoT.cells))), (3, (.row 224 2 (a0.States.map PortStateT.cells))), (4, (.row 89 5 [[(I a1.Vec.Root), (I a1.Vec.Cost), (I a1.Vec.Bridge), (I a1.Vec.Port), (I a1.Age)]])), (5, (.row 3 1 [[(I a2)]]))]⟩ (fun lv H' => lv = (LV.tup []) ∧ H' = ⟨9, [(0, (.row 85 7 [[(I r.Self.ID), (LV.ro 1 (r.Self.Costs.map iC)), (LV.sl 6 0 (r.Self.Ups.map bC).length), (LV.sl 7 0 (r.Self.Infos.map InfoT.cells).length), (LV.sl 8 0 (r.States.map PortStateT.cells).length), (I r.Max), (I r.Delay)]])), (6, (.row 4 1 (r.Self.Ups.map bC))), (7, (.row 120 6 (r.Self.Infos.map InfoT.cells))), (8, (.row 224 2 (r.States.map PortStateT.cells))), (4, (.row 89 5 [[(I a1.Vec.Root), (I a1.Vec.Cost), (I a1.Vec.Bridge), (I a1.Vec.Port), (I a1.Age)]])), (5, (.row 3 1 [[(I a2)]]))]⟩) := by
  unfold stp_Hear_1_x at h
  refine CallW.shrinkR (CallW.intro TT_ok Try.func169 rfl rfl [0, 1, 2] rfl ?_)
  conv => whnf
  replace h := grdS h
  obtain ⟨g15, h⟩ := h
  replace g15 : (0 : Int) ≤ a2 ∧ a2 < (((a0.Self.Infos.map InfoT.cells).length : Nat) : Int) := by simpa only [se_len, se_ch, List.length_map] using g15
  replace h := bindS h
  obtain ⟨v16, hv16, h⟩ := h
  have i17 : nth (a0.Self.Infos.map InfoT.cells) (0 + ((a2 : Int).toNat)) = some [(LV.bool v16.Has), (I v16.Vec.Root), (I v16.Vec.Cost), (I v16.Vec.Bridge), (I v16.Vec.Port), (I v16.Age)] := by simpa only [se_map, se_len, se_ch, List.length_map, nth_eq, Nat.zero_add, List.getElem?_map] using gixNF (f := InfoT.cells) hv16
  have e := Option.some.inj h
  subst e
  repeat' first | with_reducible rfl | with_reducible exact True.intro | with_reducible assumption | exact ⟨[(0, 0), (1, 6), (2, 7), (3, 8), (4, 4), (5, 5)], 9, [(0, (.row 85 7 [[(I (⟨(⟨a0.Self.ID, a0.Self.Costs, a0.Self.Ups, (a0.Self.Infos.set (a2 : Int).toNat (⟨true, a1.Vec, a1.Age⟩ : InfoT))⟩ : SelfT), a0.States, a0.Max, a0.Delay⟩ : StpT).Self.ID), (LV.ro 1 ((⟨(⟨a0.Self.ID, a0.Self.Costs, a0.Self.Ups, (a0.Self.Infos.set (a2 : Int).toNat (⟨true, a1.Vec, a1.Age⟩ : InfoT))⟩ : SelfT), a0.States, a0.Max, a0.Delay⟩ : StpT).Self.Costs.map iC)), (LV.sl 6 0 ((⟨(⟨a0.Self.ID, a0.Self.Costs, a0.Self.Ups, (a0.Self.Infos.set (a2 : Int).toNat (⟨true, a1.Vec, a1.Age⟩ : InfoT))⟩ : SelfT), a0.States, a0.Max, a0.Delay⟩ : StpT).Self.Ups.map bC).length), (LV.sl 7 0 ((⟨(⟨a0.Self.ID, a0.Self.Costs, a0.Self.Ups, (a0.Self.Infos.set (a2 : Int).toNat (⟨true, a1.Vec, a1.Age⟩ : InfoT))⟩ : SelfT), a0.States, a0.Max, a0.Delay⟩ : StpT).Self.Infos.map InfoT.cells).length), (LV.sl 8 0 ((⟨(⟨a0.Self.ID, a0.Self.Costs, a0.Self.Ups, (a0.Self.Infos.set (a2 : Int).toNat (⟨true, a1.Vec, a1.Age⟩ : InfoT))⟩ : SelfT), a0.States, a0.Max, a0.Delay⟩ : StpT).States.map PortStateT.cells).length), (I (⟨(⟨a0.Self.ID, a0.Self.Costs, a0.Self.Ups, (a0.Self.Infos.set (a2 : Int).toNat (⟨true, a1.Vec, a1.Age⟩ : InfoT))⟩ : SelfT), a0.States, a0.Max, a0.Delay⟩ : StpT).Max), (I (⟨(⟨a0.Self.ID, a0.Self.Costs, a0.Self.Ups, (a0.Self.Infos.set (a2 : Int).toNat (⟨true, a1.Vec, a1.Age⟩ : InfoT))⟩ : SelfT), a0.States, a0.Max, a0.Delay⟩ : StpT).Delay)]])), (6, (.row 4 1 ((⟨(⟨a0.Self.ID, a0.Self.Costs, a0.Self.Ups, (a0.Self.Infos.set (a2 : Int).toNat (⟨true, a1.Vec, a1.Age⟩ : InfoT))⟩ : SelfT), a0.States, a0.Max, a0.Delay⟩ : StpT).Self.Ups.map bC))), (7, (.row 120 6 ((⟨(⟨a0.Self.ID, a0.Self.Costs, a0.Self.Ups, (a0.Self.Infos.set (a2 : Int).toNat (⟨true, a1.Vec, a1.Age⟩ : InfoT))⟩ : SelfT), a0.States, a0.Max, a0.Delay⟩ : StpT).Self.Infos.map InfoT.cells))), (8, (.row 224 2 ((⟨(⟨a0.Self.ID, a0.Self.Costs, a0.Self.Ups, (a0.Self.Infos.set (a2 : Int).toNat (⟨true, a1.Vec, a1.Age⟩ : InfoT))⟩ : SelfT), a0.States, a0.Max, a0.Delay⟩ : StpT).States.map PortStateT.cells))), (4, (.row 89 5 [[(I a1.Vec.Root), (I a1.Vec.Cost), (I a1.Vec.Bridge), (I a1.Vec.Port), (I a1.Age)]])), (5, (.row 3 1 [[(I a2)]]))], rfl, ⟨⟨rfl, rfl, .inr (by first | exact rfl | (show ([[(I a0.Self.ID), (LV.ro 1 (a0.Self.Costs.map iC)), (LV.sl 6 0 (a0.Self.Ups.map bC).length), (LV.sl 7 0 (a0.Self.Infos.map InfoT.cells).length), (LV.sl 8 0 (a0.States.map PortStateT.cells).length), (I a0.Max), (I a0.Delay)]] : List (List LV)) = [[(I (⟨(⟨a0.Self.ID, a0.Self.Costs, a0.Self.Ups, (a0.Self.Infos.set (a2 : Int).toNat (⟨true, a1.Vec, a1.Age⟩ : InfoT))⟩ : SelfT), a0.States, a0.Max, a0.Delay⟩ : StpT).Self.ID), (LV.ro 1 ((⟨(⟨a0.Self.ID, a0.Self.Costs, a0.Self.Ups, (a0.Self.Infos.set (a2 : Int).toNat (⟨true, a1.Vec, a1.Age⟩ : InfoT))⟩ : SelfT), a0.States, a0.Max, a0.Delay⟩ : StpT).Self.Costs.map iC)), (LV.sl 6 0 ((⟨(⟨a0.Self.ID, a0.Self.Costs, a0.Self.Ups, (a0.Self.Infos.set (a2 : Int).toNat (⟨true, a1.Vec, a1.Age⟩ : InfoT))⟩ : SelfT), a0.States, a0.Max, a0.Delay⟩ : StpT).Self.Ups.map bC).length), (LV.sl 7 0 ((⟨(⟨a0.Self.ID, a0.Self.Costs, a0.Self.Ups, (a0.Self.Infos.set (a2 : Int).toNat (⟨true, a1.Vec, a1.Age⟩ : InfoT))⟩ : SelfT), a0.States, a0.Max, a0.Delay⟩ : StpT).Self.Infos.map InfoT.cells).length), (LV.sl 8 0 ((⟨(⟨a0.Self.ID, a0.Self.Costs, a0.Self.Ups, (a0.Self.Infos.set (a2 : Int).toNat (⟨true, a1.Vec, a1.Age⟩ : InfoT))⟩ : SelfT), a0.States, a0.Max, a0.Delay⟩ : StpT).States.map PortStateT.cells).length), (I (⟨(⟨a0.Self.ID, a0.Self.Costs, a0.Self.Ups, (a0.Self.Infos.set (a2 : Int).toNat (⟨true, a1.Vec, a1.Age⟩ : InfoT))⟩ : SelfT), a0.States, a0.Max, a0.Delay⟩ : StpT).Max), (I (⟨(⟨a0.Self.ID, a0.Self.Costs, a0.Self.Ups, (a0.Self.Infos.set (a2 : Int).toNat (⟨true, a1.Vec, a1.Age⟩ : InfoT))⟩ : SelfT), a0.States, a0.Max, a0.Delay⟩ : StpT).Delay)]]; simp only [se_map, se_byL, se_len, se_ch, List.length_map]))⟩, rfl, rfl, ⟨⟨rfl, rfl, .inl ⟨(by first | (simp only [se_map, se_byL, se_len, se_ch, List.length_map]; done) | (simp only [se_map, se_byL, se_len, se_ch, List.length_map, InfoT.cells, SelfT.cells, StpT.cells]; done) : ((a0.Self.Ups.map bC) : List (List LV)) = ((⟨(⟨a0.Self.ID, a0.Self.Costs, a0.Self.Ups, (a0.Self.Infos.set (a2 : Int).toNat (⟨true, a1.Vec, a1.Age⟩ : InfoT))⟩ : SelfT), a0.States, a0.Max, a0.Delay⟩ : StpT).Self.Ups.map bC)), nlT⟩⟩, rfl, rfl, ⟨⟨rfl, rfl, .inl ⟨(by first | (simp only [se_map, se_byL, se_len, se_ch, List.length_map]; done) | (simp only [se_map, se_byL, se_len, se_ch, List.length_map, InfoT.cells, SelfT.cells, StpT.cells]; done) : ((setN (a0.Self.Infos.map InfoT.cells) (0 + ((a2 : Int).toNat)) [(LV.bool true), (I a1.Vec.Root), (I a1.Vec.Cost), (I a1.Vec.Bridge), (I a1.Vec.Port), (I a1.Age)]) : List (List LV)) = ((⟨(⟨a0.Self.ID, a0.Self.Costs, a0.Self.Ups, (a0.Self.Infos.set (a2 : Int).toNat (⟨true, a1.Vec, a1.Age⟩ : InfoT))⟩ : SelfT), a0.States, a0.Max, a0.Delay⟩ : StpT).Self.Infos.map InfoT.cells)), nlT⟩⟩, rfl, rfl, ⟨⟨rfl, rfl, .inl ⟨(by first | (simp only [se_map, se_byL, se_len, se_ch, List.length_map]; done) | (simp only [se_map, se_byL, se_len, se_ch, List.length_map, InfoT.cells, SelfT.cells, StpT.cells]; done) : ((a0.States.map PortStateT.cells) : List (List LV)) = ((⟨(⟨a0.Self.ID, a0.Self.Costs, a0.Self.Ups, (a0.Self.Infos.set (a2 : Int).toNat (⟨true, a1.Vec, a1.Age⟩ : InfoT))⟩ : SelfT), a0.States, a0.Max, a0.Delay⟩ : StpT).States.map PortStateT.cells)), nlT⟩⟩, rfl, rfl, ⟨⟨rfl, rfl, .inl ⟨rfl, nlT⟩⟩, rfl, rfl, ⟨⟨rfl, rfl, .inl ⟨rfl, nlT⟩⟩, rfl, rfl, trivial⟩⟩⟩⟩⟩⟩, rfl, rfl, rfl, rfl⟩ | exact g15 | (rw [i17]; conv => whnf) | (refine W.drawnM (id := 0) 0 TT_ok hmix1 [0, 0, 0, 0, 0, 0, 0, 0, 0, 0, 0, 0, 0] [0, 0, 0, 0, 0, 0, 0, 0, 0, 0, 0, 0, 1] rfl ?_; conv => whnf) | exact clA _ | (refine And.intro ?_ ?_ <;> conv => whnf) | exact clH _ | (refine gand ?_ h; assumption) | exact clN _ | exact clL _ | fail

def stp_changed_x2_b14  (k14 : Nat) (x14 : Int) (s14 : StpT) : Option (Step StpT StpT) :=
  grd ((0 : Int) ≤ ((k14 : Nat) : Int) ∧ ((k14 : Nat) : Int) < ((s14.States.length : Nat) : Int)) <|
  (gixN s14.States (((k14 : Nat) : Int) : Int).toNat).bind fun v24 =>
  (stp_isActive x14).bind fun y26 =>
  (port_Role v24 s14.Delay y26).bind fun y28 =>
  grd ((0 : Int) ≤ ((k14 : Nat) : Int) ∧ ((k14 : Nat) : Int) < ((s14.States.length : Nat) : Int)) <|
  some (.nxt (⟨s14.Self, (s14.States.set (((k14 : Nat) : Int) : Int).toNat y28.1), s14.Max, s14.Delay⟩ : StpT))

def stp_changed_x2 (a0 : StpT) (a1 : ConfigT) (a1_1 : Int) : Option StpT :=
  grd ((0 : Int) ≤ ((a0.Self.Infos.length : Nat) : Int) ∧ ((a0.Self.Infos.length : Nat) : Int) ≤ ((a0.Self.Infos.length : Nat) : Int) ∧ fits (((a0.Self.Infos.length : Nat) : Int)).toNat 48) <|
  grd ((0 : Int) ≤ ((a0.Self.Ups.length : Nat) : Int) ∧ ((a0.Self.Ups.length : Nat) : Int) ≤ ((a0.Self.Ups.length : Nat) : Int) ∧ fits (((a0.Self.Ups.length : Nat) : Int)).toNat 1) <|
  (slices_Clone_PortState a0.States).bind fun y13 =>
  (stp_Hear_1_x (⟨(⟨a0.Self.ID, a0.Self.Costs, (a0.Self.Ups.take (List.replicate (((a0.Self.Ups.length : Nat) : Int)).toNat false).length ++ (List.replicate (((a0.Self.Ups.length : Nat) : Int)).toNat false).drop a0.Self.Ups.length), (a0.Self.Infos.take (List.replicate (((a0.Self.Infos.length : Nat) : Int)).toNat (⟨false, (⟨0, 0, 0, 0⟩ : VecT), 0⟩ : InfoT)).length ++ (List.replicate (((a0.Self.Infos.length : Nat) : Int)).toNat (⟨false, (⟨0, 0, 0, 0⟩ : VecT), 0⟩ : InfoT)).drop a0.Self.Infos.length)⟩ : SelfT), y13, a0.Max, a0.Delay⟩ : StpT) a1 a1_1).bind fun y15 =>
  (role_Roles y15.Self).bind fun y21 =>
  aft (rangeL (stp_changed_x2_b14 ) y21.1 y15) fun s14 =>
  some s14

theorem w_stp_changed_x2 (a0 : StpT) (a1 : ConfigT) (a1_1 : Int) (r : StpT) (h : stp_changed_x2 a0 a1 a1_1 = some r) : CallW Try.prog 164 [(LV.agg [(I a0.Self.ID), (LV.ro 1 (a0.Self.Costs.map iC)), (LV.ro 1 (a0.Self.Ups.map bC)), (LV.ro 6 (a0.Self.Infos.map InfoT.cells)), (LV.ro 2 (a0.States.map PortStateT.cells)), (I a0.Max), (I a0.Delay)]), (LV.func (.func 169) [] [(LV.ptr 0 0 0), (LV.ptr 1 0 0)])] ⟨2, [(0, (.row 89 5 [[(I a1.Vec.Root), (I a1.Vec.Cost), (I a1.Vec.Bridge), (I a1.Vec.Port), (I a1.Age)]])), (1, (.row 3 1 [[(I a1_1)]]))]⟩ (fun lv H' => lv = (LV.agg [(I r.Self.ID), (LV.ro 1 (r.Self.Costs.map iC)), (LV.ro 1 (r.Self.Ups.map bC)), (LV.ro 6 (r.Self.Infos.map InfoT.cells)), (LV.sl 2 0 (r.States.map PortStateT.cells).length), (I r.Max), (I r.Delay)]) ∧ H' = ⟨3, [(2, (.row 224 2 (r.States.map PortStateT.cells))), (0, (.row 89 5 [[(I a1.Vec.Root), (I a1.Vec.Cost), (I a1.Vec.Bridge), (I a1.Vec.Port), (I a1.Age)]])), (1, (.row 3 1 [[(I a1_1)]]))]⟩) := by
  unfold stp_changed_x2 at h
  refine CallW.shrinkR (CallW.intro TT_ok Try.func164 rfl rfl [0, 1, 2, 4, 5, 6, 7, 9, 10, 49, 50, 51, 52, 999999, 3000002] rfl ?_)
  conv => whnf
  repeat' first | with_reducible rfl | with_reducible exact True.intro | with_reducible assumption | refine parkI ?_ | (refine W.drawnM (id := 10) 0 TT_ok hmix1 [0, 0, 0, 0, 0, 0, 0, 0, 0, 0, 0, 0, 0, 0, 0, 0, 0, 0] [0, 0, 0, 0, 0, 0, 0, 0, 0, 0, 0, 0, 0, 0, 0, 1, 0, 1] rfl ?_; conv => whnf) | exact clA _ | (refine And.intro ?_ ?_ <;> conv => whnf) | exact clH _ | (refine gand ?_ h; assumption) | exact clN _ | exact clL _ | fail
  replace h := grdS h
  obtain ⟨g11, h⟩ := h
  replace g11 : (0 : Int) ≤ (((a0.Self.Infos.map InfoT.cells).length : Nat) : Int) ∧ (((a0.Self.Infos.map InfoT.cells).length : Nat) : Int) ≤ (((a0.Self.Infos.map InfoT.cells).length : Nat) : Int) ∧ fits ((((a0.Self.Infos.map InfoT.cells).length : Nat) : Int)).toNat 48 := by simpa only [se_len, se_ch, List.length_map] using g11
  replace h := grdS h
  obtain ⟨g12, h⟩ := h
  replace g12 : (0 : Int) ≤ (((a0.Self.Ups.map bC).length : Nat) : Int) ∧ (((a0.Self.Ups.map bC).length : Nat) : Int) ≤ (((a0.Self.Ups.map bC).length : Nat) : Int) ∧ fits ((((a0.Self.Ups.map bC).length : Nat) : Int)).toNat 1 := by simpa only [se_len, se_ch, List.length_map] using g12
  refine W.two 4 9 [0, 1, 2, 3, 5, 6, 7, 8, 9, 4, 10, 11] [0, 1, 2, 3, 9, 4, 5, 6, 7, 8, 10, 11] [(1, (LV.func (.func 169) [] [(LV.ptr 0 0 0), (LV.ptr 1 0 0)])), (2, (LV.ptr 2 0 0)), (4, (LV.ptr 3 0 0)), (5, (LV.sl 4 0 ((((a0.Self.Infos.map InfoT.cells).length : Nat) : Int)).toNat)), (6, (LV.sl 5 0 ((((a0.Self.Ups.map bC).length : Nat) : Int)).toNat))] 6 [(0, (.row 89 5 [[(I a1.Vec.Root), (I a1.Vec.Cost), (I a1.Vec.Bridge), (I a1.Vec.Port), (I a1.Age)]])), (1, (.row 3 1 [[(I a1_1)]])), (2, (.row 85 7 [[(I a0.Self.ID), (LV.ro 1 (a0.Self.Costs.map iC)), (LV.ro 1 (a0.Self.Ups.map bC)), (LV.ro 6 (a0.Self.Infos.map InfoT.cells)), (LV.ro 2 (a0.States.map PortStateT.cells)), (I a0.Max), (I a0.Delay)]])), (3, (.row 85 7 [[(I 0), LV.nils, LV.nils, LV.nils, LV.nils, (I 0), (I 0)]])), (4, (.row 120 6 (List.replicate ((((a0.Self.Infos.map InfoT.cells).length : Nat) : Int)).toNat [(LV.bool false), (I 0), (I 0), (I 0), (I 0), (I 0)]))), (5, (.row 4 1 (List.replicate ((((a0.Self.Ups.map bC).length : Nat) : Int)).toNat [(LV.bool false)])))] hmix1 rfl rfl rfl ?_ ?_ ?_
  · refine WA.drawnM 0 TT_ok [0, 0, 0, 0, 0, 0, 0, 0, 0, 1, 1, 2] [0, 0, 0, 0, 1, 1, 1, 1, 1, 2, 2, 2] rfl ?_
    conv => whnf
    repeat' first | with_reducible rfl | with_reducible exact True.intro | with_reducible assumption | exact ⟨[(0, 0), (1, 1), (2, 2), (3, 3), (4, 4), (5, 5)], rfl, ⟨rfl, rfl, rfl, rfl, rfl, trivial⟩, ⟨⟨rfl, rfl, .inl ⟨rfl, nlT⟩⟩, rfl, rfl, ⟨⟨rfl, rfl, .inl ⟨rfl, nlT⟩⟩, rfl, rfl, ⟨⟨rfl, rfl, .inl ⟨rfl, nlT⟩⟩, rfl, rfl, ⟨⟨rfl, rfl, .inl ⟨rfl, nlT⟩⟩, rfl, rfl, ⟨⟨rfl, rfl, .inl ⟨rfl, nlT⟩⟩, rfl, rfl, ⟨⟨rfl, rfl, .inl ⟨rfl, nlT⟩⟩, rfl, rfl, trivial⟩⟩⟩⟩⟩⟩, rfl, rfl⟩ | exact g11 | exact g12 | (refine W.drawnM (id := 10) 0 TT_ok hmix1 [0, 0, 0, 0, 0, 0, 0, 0, 0, 0, 0, 0, 0, 0, 0, 0, 0, 0] [0, 0, 0, 0, 0, 0, 0, 0, 0, 0, 0, 0, 0, 0, 0, 1, 0, 1] rfl ?_; conv => whnf) | exact clA _ | (refine And.intro ?_ ?_ <;> conv => whnf) | exact clH _ | (refine gand ?_ h; assumption) | exact clN _ | exact clL _ | fail
  · refine WA.drawnM 0 TT_ok [0, 0, 0, 0, 0, 0, 0, 0, 0, 1, 2, 2] [1, 1, 1, 1, 0, 0, 0, 0, 1, 2, 2, 2] rfl ?_
    conv => whnf
    repeat' first | with_reducible rfl | with_reducible exact True.intro | with_reducible assumption | exact ⟨[(0, 0), (1, 1), (2, 2), (3, 3), (5, 4), (4, 5)], rfl, ⟨rfl, rfl, rfl, rfl, rfl, trivial⟩, ⟨⟨rfl, rfl, .inl ⟨rfl, nlT⟩⟩, rfl, rfl, ⟨⟨rfl, rfl, .inl ⟨rfl, nlT⟩⟩, rfl, rfl, ⟨⟨rfl, rfl, .inl ⟨rfl, nlT⟩⟩, rfl, rfl, ⟨⟨rfl, rfl, .inl ⟨rfl, nlT⟩⟩, rfl, rfl, ⟨⟨rfl, rfl, .inl ⟨rfl, nlT⟩⟩, rfl, rfl, ⟨⟨rfl, rfl, .inl ⟨rfl, nlT⟩⟩, rfl, rfl, trivial⟩⟩⟩⟩⟩⟩, rfl, rfl⟩ | exact g11 | exact g12 | (refine W.drawnM (id := 10) 0 TT_ok hmix1 [0, 0, 0, 0, 0, 0, 0, 0, 0, 0, 0, 0, 0, 0, 0, 0, 0, 0] [0, 0, 0, 0, 0, 0, 0, 0, 0, 0, 0, 0, 0, 0, 0, 1, 0, 1] rfl ?_; conv => whnf) | exact clA _ | (refine And.intro ?_ ?_ <;> conv => whnf) | exact clH _ | (refine gand ?_ h; assumption) | exact clN _ | exact clL _ | fail
  · conv => whnf
    replace h := bindS h
    obtain ⟨y13, hy13, h⟩ := h
    have c14 := cf_slices_Clone_PortState a0.States _ hy13
    replace h := bindS h
    obtain ⟨y15, hy15, h⟩ := h
    have c16 : CallW Try.prog 169 [(LV.ptr 0 0 0), (LV.ptr 4 0 0), (LV.ptr 5 0 0)] ⟨6, [(0, (.row 85 7 [[(I a0.Self.ID), (LV.ro 1 (a0.Self.Costs.map iC)), (LV.sl 1 0 ((a0.Self.Ups.take (List.replicate (((a0.Self.Ups.length : Nat) : Int)).toNat false).length ++ (List.replicate (((a0.Self.Ups.length : Nat) : Int)).toNat false).drop a0.Self.Ups.length).map bC).length), (LV.sl 2 0 ((a0.Self.Infos.take (List.replicate (((a0.Self.Infos.length : Nat) : Int)).toNat (⟨false, (⟨0, 0, 0, 0⟩ : VecT), 0⟩ : InfoT)).length ++ (List.replicate (((a0.Self.Infos.length : Nat) : Int)).toNat (⟨false, (⟨0, 0, 0, 0⟩ : VecT), 0⟩ : InfoT)).drop a0.Self.Infos.length).map InfoT.cells).length), (LV.sl 3 0 (y13.map PortStateT.cells).length), (I a0.Max), (I a0.Delay)]])), (1, (.row 4 1 ((a0.Self.Ups.take (List.replicate (((a0.Self.Ups.length : Nat) : Int)).toNat false).length ++ (List.replicate (((a0.Self.Ups.length : Nat) : Int)).toNat false).drop a0.Self.Ups.length).map bC))), (2, (.row 120 6 ((a0.Self.Infos.take (List.replicate (((a0.Self.Infos.length : Nat) : Int)).toNat (⟨false, (⟨0, 0, 0, 0⟩ : VecT), 0⟩ : InfoT)).length ++ (List.replicate (((a0.Self.Infos.length : Nat) : Int)).toNat (⟨false, (⟨0, 0, 0, 0⟩ : VecT), 0⟩ : InfoT)).drop a0.Self.Infos.length).map InfoT.cells))), (3, (.row 224 2 (y13.map PortStateT.cells))), (4, (.row 89 5 [[(I a1.Vec.Root), (I a1.Vec.Cost), (I a1.Vec.Bridge), (I a1.Vec.Port), (I a1.Age)]])), (5, (.row 3 1 [[(I a1_1)]]))]⟩ (fun lv H' => lv = (LV.tup []) ∧ H' = ⟨9, [(0, (.row 85 7 [[(I y15.Self.ID), (LV.ro 1 (y15.Self.Costs.map iC)), (LV.sl 6 0 (y15.Self.Ups.map bC).length), (LV.sl 7 0 (y15.Self.Infos.map InfoT.cells).length), (LV.sl 8 0 (y15.States.map PortStateT.cells).length), (I y15.Max), (I y15.Delay)]])), (6, (.row 4 1 (y15.Self.Ups.map bC))), (7, (.row 120 6 (y15.Self.Infos.map InfoT.cells))), (8, (.row 224 2 (y15.States.map PortStateT.cells))), (4, (.row 89 5 [[(I a1.Vec.Root), (I a1.Vec.Cost), (I a1.Vec.Bridge), (I a1.Vec.Port), (I a1.Age)]])), (5, (.row 3 1 [[(I a1_1)]]))]⟩) := w_stp_Hear_1_x (⟨(⟨a0.Self.ID, a0.Self.Costs, (a0.Self.Ups.take (List.replicate (((a0.Self.Ups.length : Nat) : Int)).toNat false).length ++ (List.replicate (((a0.Self.Ups.length : Nat) : Int)).toNat false).drop a0.Self.Ups.length), (a0.Self.Infos.take (List.replicate (((a0.Self.Infos.length : Nat) : Int)).toNat (⟨false, (⟨0, 0, 0, 0⟩ : VecT), 0⟩ : InfoT)).length ++ (List.replicate (((a0.Self.Infos.length : Nat) : Int)).toNat (⟨false, (⟨0, 0, 0, 0⟩ : VecT), 0⟩ : InfoT)).drop a0.Self.Infos.length)⟩ : SelfT), y13, a0.Max, a0.Delay⟩ : StpT) a1 a1_1 _ hy15
    have l17 : ((a0.Self.Ups.take (List.replicate (((a0.Self.Ups.length : Nat) : Int)).toNat false).length ++ (List.replicate (((a0.Self.Ups.length : Nat) : Int)).toNat false).drop a0.Self.Ups.length).map bC).length = ((((a0.Self.Ups.map bC).length : Nat) : Int)).toNat := clM _
    rw [l17] at c16
    have l18 : ((a0.Self.Infos.take (List.replicate (((a0.Self.Infos.length : Nat) : Int)).toNat (⟨false, (⟨0, 0, 0, 0⟩ : VecT), 0⟩ : InfoT)).length ++ (List.replicate (((a0.Self.Infos.length : Nat) : Int)).toNat (⟨false, (⟨0, 0, 0, 0⟩ : VecT), 0⟩ : InfoT)).drop a0.Self.Infos.length).map InfoT.cells).length = ((((a0.Self.Infos.map InfoT.cells).length : Nat) : Int)).toNat := clM _
    rw [l18] at c16
    have l19 : ((a0.Self.Ups.take (List.replicate (((a0.Self.Ups.length : Nat) : Int)).toNat false).length ++ (List.replicate (((a0.Self.Ups.length : Nat) : Int)).toNat false).drop a0.Self.Ups.length).map bC) = ((a0.Self.Ups.map bC).take (List.replicate ((((a0.Self.Ups.map bC).length : Nat) : Int)).toNat [(LV.bool false)]).length ++ (List.replicate ((((a0.Self.Ups.map bC).length : Nat) : Int)).toNat [(LV.bool false)]).drop (a0.Self.Ups.map bC).length) := clM _
    rw [l19] at c16
    have l20 : ((a0.Self.Infos.take (List.replicate (((a0.Self.Infos.length : Nat) : Int)).toNat (⟨false, (⟨0, 0, 0, 0⟩ : VecT), 0⟩ : InfoT)).length ++ (List.replicate (((a0.Self.Infos.length : Nat) : Int)).toNat (⟨false, (⟨0, 0, 0, 0⟩ : VecT), 0⟩ : InfoT)).drop a0.Self.Infos.length).map InfoT.cells) = ((a0.Self.Infos.map InfoT.cells).take (List.replicate ((((a0.Self.Infos.map InfoT.cells).length : Nat) : Int)).toNat [(LV.bool false), (I 0), (I 0), (I 0), (I 0), (I 0)]).length ++ (List.replicate ((((a0.Self.Infos.map InfoT.cells).length : Nat) : Int)).toNat [(LV.bool false), (I 0), (I 0), (I 0), (I 0), (I 0)]).drop (a0.Self.Infos.map InfoT.cells).length) := clM _
    rw [l20] at c16
    replace h := bindS h
    obtain ⟨y21, hy21, h⟩ := h
    have c22 := c_role_Roles y15.Self _ hy21
    repeat' first | with_reducible rfl | with_reducible exact True.intro | with_reducible assumption | refine parkI ?_ | (refine CallP.use c22 ?_; conv => whnf) | (refine ⟨_, _, CallP.at c22, ?_⟩; conv => whnf) | (refine ⟨_, fun _ => c22, ?_⟩; conv => whnf) | (refine CallW.done (CallF.at c14 nlA (NLss_map' _)) ?_; conv => whnf) | (refine ⟨_, _, CallF.at c14 nlA (NLss_map' _), ?_⟩; conv => whnf) | (refine CallW.frame (nx2 := 10) (l2 := [(2, (.row 85 7 [[(I y15.Self.ID), (LV.ro 1 (y15.Self.Costs.map iC)), (LV.sl 7 0 (y15.Self.Ups.map bC).length), (LV.sl 8 0 (y15.Self.Infos.map InfoT.cells).length), (LV.sl 9 0 (y15.States.map PortStateT.cells).length), (I y15.Max), (I y15.Delay)]])), (7, (.row 4 1 (y15.Self.Ups.map bC))), (8, (.row 120 6 (y15.Self.Infos.map InfoT.cells))), (9, (.row 224 2 (y15.States.map PortStateT.cells))), (0, (.row 89 5 [[(I a1.Vec.Root), (I a1.Vec.Cost), (I a1.Vec.Bridge), (I a1.Vec.Port), (I a1.Age)]])), (1, (.row 3 1 [[(I a1_1)]]))]) [(2, 0), (5, 1), (4, 2), (6, 3), (0, 4), (1, 5)] [(0, 2), (6, 7), (7, 8), (8, 9), (4, 0), (5, 1)] c16 rfl rfl ⟨⟨rfl, rfl, .inr rfl⟩, rfl, rfl, ⟨⟨rfl, rfl, .inl ⟨rfl, nlT⟩⟩, rfl, rfl, ⟨⟨rfl, rfl, .inl ⟨rfl, nlT⟩⟩, rfl, rfl, ⟨⟨rfl, rfl, .inl ⟨rfl, nlT⟩⟩, rfl, rfl, ⟨⟨rfl, rfl, .inl ⟨rfl, nlT⟩⟩, rfl, rfl, ⟨⟨rfl, rfl, .inl ⟨rfl, nlT⟩⟩, rfl, rfl, trivial⟩⟩⟩⟩⟩⟩ rfl rfl ⟨⟨rfl, rfl, .inr rfl⟩, rfl, rfl, ⟨⟨rfl, rfl, .inl ⟨rfl, nlT⟩⟩, rfl, rfl, ⟨⟨rfl, rfl, .inl ⟨rfl, nlT⟩⟩, rfl, rfl, ⟨⟨rfl, rfl, .inl ⟨rfl, nlT⟩⟩, rfl, rfl, ⟨⟨rfl, rfl, .inl ⟨rfl, nlT⟩⟩, rfl, rfl, ⟨⟨rfl, rfl, .inl ⟨rfl, nlT⟩⟩, rfl, rfl, trivial⟩⟩⟩⟩⟩⟩ ?_; conv => whnf) | (refine W.drawnM (id := 1) 0 TT_ok hmix1 [0, 0, 0, 0, 0, 0, 0, 0, 0, 1, 1, 2] [0, 0, 0, 0, 2, 1, 1, 1, 1, 2, 2, 2] rfl ?_; conv => whnf) | (refine W.drawnM (id := 10) 0 TT_ok hmix1 [0, 0, 0, 0, 0, 0, 0, 0, 0, 0, 0, 0, 0, 0, 0, 0, 0, 0] [0, 0, 0, 0, 0, 0, 0, 0, 0, 0, 0, 0, 0, 0, 0, 1, 0, 1] rfl ?_; conv => whnf) | exact clA _ | (refine And.intro ?_ ?_ <;> conv => whnf) | exact clH _ | (refine gand ?_ h; assumption) | exact clN _ | exact clL _ | fail
    replace h := aftS h
    obtain ⟨O14, hO14, r14⟩ := h
    refine LoopW.norm [(2, (LV.ptr 2 0 0)), (4, (LV.ptr 3 0 0)), (49, (LV.ro 1 (y21.1.map iC))), (50, (I (((y21.1.map iC).length : Nat) : Int))), (51, (I ((0 : Nat) : Int)))] 10 [(2, (.row 85 7 [[(I y15.Self.ID), (LV.ro 1 (y15.Self.Costs.map iC)), (LV.ro 1 (y15.Self.Ups.map bC)), (LV.ro 6 (y15.Self.Infos.map InfoT.cells)), (LV.sl 9 0 (y15.States.map PortStateT.cells).length), (I y15.Max), (I y15.Delay)]])), (9, (.row 224 2 (y15.States.map PortStateT.cells))), (3, (.row 85 7 [[(I 0), LV.nils, LV.nils, LV.nils, LV.nils, (I 0), (I 0)]])), (0, (.row 89 5 [[(I a1.Vec.Root), (I a1.Vec.Cost), (I a1.Vec.Bridge), (I a1.Vec.Port), (I a1.Age)]])), (1, (.row 3 1 [[(I a1_1)]]))] ⟨rfl, rfl, rfl, rfl, rfl, trivial⟩ ⟨⟨rfl, rfl, blT⟩, ⟨⟨rfl, rfl, NLss_bel (NLss_map' _)⟩, ⟨⟨rfl, rfl, blT⟩, ⟨⟨rfl, rfl, blT⟩, ⟨⟨rfl, rfl, blT⟩, trivial⟩⟩⟩⟩⟩ blT rfl ?_
    refine LoopW.forR (fun k14 s14 => [(2, (LV.ptr 2 0 0)), (4, (LV.ptr 3 0 0)), (49, (LV.ro 1 (y21.1.map iC))), (50, (I (((y21.1.map iC).length : Nat) : Int))), (51, (I ((k14 : Nat) : Int)))]) (fun s14 => ⟨10, [(2, (.row 85 7 [[(I s14.Self.ID), (LV.ro 1 (s14.Self.Costs.map iC)), (LV.ro 1 (s14.Self.Ups.map bC)), (LV.ro 6 (s14.Self.Infos.map InfoT.cells)), (LV.sl 9 0 (s14.States.map PortStateT.cells).length), (I s14.Max), (I s14.Delay)]])), (9, (.row 224 2 (s14.States.map PortStateT.cells))), (3, (.row 85 7 [[(I 0), LV.nils, LV.nils, LV.nils, LV.nils, (I 0), (I 0)]])), (0, (.row 89 5 [[(I a1.Vec.Root), (I a1.Vec.Cost), (I a1.Vec.Bridge), (I a1.Vec.Port), (I a1.Age)]])), (1, (.row 3 1 [[(I a1_1)]]))]⟩) hO14 (fun hl14 s14 hs14 => ?_) (fun hl14 k14 x14 s14 o14 hk14 hx14 b14 K14 hret14 hbrk14 => ?_)
    · rw [hs14] at r14
      dsimp only [aftM] at r14
      have hd : decide (((y21.1.length : Nat) : Int) < (((y21.1.map iC).length : Nat) : Int)) = false := by rw [decide_eq_false_iff_not]; (try simp only [se_len, se_ch, List.length_map]); omega
      refine LoopW.round TT_ok [0, 1, 2, 4, 5, 6, 7, 9, 10, 49, 50, 51, 52, 999999, 3000002] ?_
      conv => whnf
      repeat' first | with_reducible rfl | with_reducible exact True.intro | with_reducible assumption | refine parkI ?_ | (refine W.drawnM (id := 1) 0 TT_ok hmix1 [0, 0, 0, 0, 0, 0, 0, 0, 0, 1, 1, 2] [0, 0, 0, 0, 2, 1, 1, 1, 1, 2, 2, 2] rfl ?_; conv => whnf) | (refine W.drawnM (id := 10) 0 TT_ok hmix1 [0, 0, 0, 0, 0, 0, 0, 0, 0, 0, 0, 0, 0, 0, 0, 0, 0, 0] [0, 0, 0, 0, 0, 0, 0, 0, 0, 0, 0, 0, 0, 0, 0, 1, 0, 1] rfl ?_; conv => whnf) | exact clA _ | (refine And.intro ?_ ?_ <;> conv => whnf) | exact clH _ | (refine gand ?_ h; assumption) | exact clN _ | exact clL _ | fail
      refine parkE (fun hc => ?_) (fun hc => ?_)
      · exact (Bool.false_ne_true (hd.symm.trans hc)).elim
      · clear hd
        conv => whnf
        have e := Option.some.inj r14
        subst e
        repeat' first | with_reducible rfl | with_reducible exact True.intro | with_reducible assumption | exact ⟨[(9, 2), (0, 0), (1, 1)], 3, [(2, (.row 224 2 (s14.States.map PortStateT.cells))), (0, (.row 89 5 [[(I a1.Vec.Root), (I a1.Vec.Cost), (I a1.Vec.Bridge), (I a1.Vec.Port), (I a1.Age)]])), (1, (.row 3 1 [[(I a1_1)]]))], rfl, ⟨⟨rfl, rfl, .inl ⟨rfl, nlT⟩⟩, rfl, rfl, ⟨⟨rfl, rfl, .inl ⟨rfl, nlT⟩⟩, rfl, rfl, ⟨⟨rfl, rfl, .inl ⟨rfl, nlT⟩⟩, rfl, rfl, trivial⟩⟩⟩, rfl, rfl, rfl, rfl⟩ | (refine W.drawnM (id := 1) 0 TT_ok hmix1 [0, 0, 0, 0, 0, 0, 0, 0, 0, 1, 1, 2] [0, 0, 0, 0, 2, 1, 1, 1, 1, 2, 2, 2] rfl ?_; conv => whnf) | (refine W.drawnM (id := 10) 0 TT_ok hmix1 [0, 0, 0, 0, 0, 0, 0, 0, 0, 0, 0, 0, 0, 0, 0, 0, 0, 0] [0, 0, 0, 0, 0, 0, 0, 0, 0, 0, 0, 0, 0, 0, 0, 1, 0, 1] rfl ?_; conv => whnf) | exact clA _ | (refine And.intro ?_ ?_ <;> conv => whnf) | exact clH _ | (refine gand ?_ h; assumption) | exact clN _ | exact clL _ | fail
    · unfold stp_changed_x2_b14 at b14
      have hd : decide (((k14 : Nat) : Int) < (((y21.1.map iC).length : Nat) : Int)) = true := by rw [decide_eq_true_eq]; (try simp only [se_len, se_ch, List.length_map] at hk14); (try simp only [se_len, se_ch, List.length_map]); omega
      refine LoopW.round TT_ok [0, 1, 2, 4, 5, 6, 7, 9, 10, 49, 50, 51, 52, 999999, 3000002] ?_
      conv => whnf
      repeat' first | with_reducible rfl | with_reducible exact True.intro | with_reducible assumption | refine parkI ?_ | (refine W.drawnM (id := 1) 0 TT_ok hmix1 [0, 0, 0, 0, 0, 0, 0, 0, 0, 1, 1, 2] [0, 0, 0, 0, 2, 1, 1, 1, 1, 2, 2, 2] rfl ?_; conv => whnf) | (refine W.drawnM (id := 10) 0 TT_ok hmix1 [0, 0, 0, 0, 0, 0, 0, 0, 0, 0, 0, 0, 0, 0, 0, 0, 0, 0] [0, 0, 0, 0, 0, 0, 0, 0, 0, 0, 0, 0, 0, 0, 0, 1, 0, 1] rfl ?_; conv => whnf) | exact clA _ | (refine And.intro ?_ ?_ <;> conv => whnf) | exact clH _ | (refine gand ?_ h; assumption) | exact clN _ | exact clL _ | fail
      refine parkE (fun hc => ?_) (fun hc => ?_)
      · clear hd
        conv => whnf
        replace b14 := grdS b14
        obtain ⟨g23, b14⟩ := b14
        replace g23 : (0 : Int) ≤ ((k14 : Nat) : Int) ∧ ((k14 : Nat) : Int) < (((s14.States.map PortStateT.cells).length : Nat) : Int) := by simpa only [se_len, se_ch, List.length_map] using g23
        replace b14 := bindS b14
        obtain ⟨v24, hv24, b14⟩ := b14
        have i25 : nth (s14.States.map PortStateT.cells) (0 + ((((k14 : Nat) : Int) : Int).toNat)) = some [(I v24.State), (I v24.Left)] := by simpa only [se_map, se_len, se_ch, List.length_map, nth_eq, Nat.zero_add, List.getElem?_map] using gixNF (f := PortStateT.cells) hv24
        replace b14 := bindS b14
        obtain ⟨y26, hy26, b14⟩ := b14
        have c27 := c_stp_isActive x14 _ hy26
        replace b14 := bindS b14
        obtain ⟨y28, hy28, b14⟩ := b14
        have c29 := c_port_Role v24 s14.Delay y26 _ hy28
        replace b14 := grdS b14
        obtain ⟨g30, b14⟩ := b14
        replace g30 : (0 : Int) ≤ ((k14 : Nat) : Int) ∧ ((k14 : Nat) : Int) < (((s14.States.map PortStateT.cells).length : Nat) : Int) := by simpa only [se_len, se_ch, List.length_map] using g30
        repeat' first | with_reducible rfl | with_reducible exact True.intro | with_reducible assumption | refine parkI ?_ | (refine ⟨_, (kixF (f := iC) hx14), ?_⟩; conv => whnf) | exact g23 | exact g30 | (refine CallP.use c27 ?_; conv => whnf) | (refine ⟨_, _, CallP.at c27, ?_⟩; conv => whnf) | (refine ⟨_, fun _ => c27, ?_⟩; conv => whnf) | (refine CallP.use c29 ?_; conv => whnf) | (refine ⟨_, _, CallP.at c29, ?_⟩; conv => whnf) | (refine ⟨_, fun _ => c29, ?_⟩; conv => whnf) | (rw [i25]; conv => whnf) | (refine W.drawnM (id := 1) 0 TT_ok hmix1 [0, 0, 0, 0, 0, 0, 0, 0, 0, 1, 1, 2] [0, 0, 0, 0, 2, 1, 1, 1, 1, 2, 2, 2] rfl ?_; conv => whnf) | (refine W.drawnM (id := 10) 0 TT_ok hmix1 [0, 0, 0, 0, 0, 0, 0, 0, 0, 0, 0, 0, 0, 0, 0, 0, 0, 0] [0, 0, 0, 0, 0, 0, 0, 0, 0, 0, 0, 0, 0, 0, 0, 1, 0, 1] rfl ?_; conv => whnf) | exact clA _ | (refine And.intro ?_ ?_ <;> conv => whnf) | exact clH _ | (refine gand ?_ h; assumption) | exact clN _ | exact clL _ | fail
        have e := Option.some.inj b14
        refine LoopW.norm [(2, (LV.ptr 2 0 0)), (4, (LV.ptr 3 0 0)), (49, (LV.ro 1 (y21.1.map iC))), (50, (I (((y21.1.map iC).length : Nat) : Int))), (51, (I ((k14 + 1 : Nat) : Int)))] 10 [(2, (.row 85 7 [[(I (⟨s14.Self, (s14.States.set (((k14 : Nat) : Int) : Int).toNat y28.1), s14.Max, s14.Delay⟩ : StpT).Self.ID), (LV.ro 1 ((⟨s14.Self, (s14.States.set (((k14 : Nat) : Int) : Int).toNat y28.1), s14.Max, s14.Delay⟩ : StpT).Self.Costs.map iC)), (LV.ro 1 ((⟨s14.Self, (s14.States.set (((k14 : Nat) : Int) : Int).toNat y28.1), s14.Max, s14.Delay⟩ : StpT).Self.Ups.map bC)), (LV.ro 6 ((⟨s14.Self, (s14.States.set (((k14 : Nat) : Int) : Int).toNat y28.1), s14.Max, s14.Delay⟩ : StpT).Self.Infos.map InfoT.cells)), (LV.sl 9 0 ((⟨s14.Self, (s14.States.set (((k14 : Nat) : Int) : Int).toNat y28.1), s14.Max, s14.Delay⟩ : StpT).States.map PortStateT.cells).length), (I (⟨s14.Self, (s14.States.set (((k14 : Nat) : Int) : Int).toNat y28.1), s14.Max, s14.Delay⟩ : StpT).Max), (I (⟨s14.Self, (s14.States.set (((k14 : Nat) : Int) : Int).toNat y28.1), s14.Max, s14.Delay⟩ : StpT).Delay)]])), (9, (.row 224 2 ((⟨s14.Self, (s14.States.set (((k14 : Nat) : Int) : Int).toNat y28.1), s14.Max, s14.Delay⟩ : StpT).States.map PortStateT.cells))), (3, (.row 85 7 [[(I 0), LV.nils, LV.nils, LV.nils, LV.nils, (I 0), (I 0)]])), (0, (.row 89 5 [[(I a1.Vec.Root), (I a1.Vec.Cost), (I a1.Vec.Bridge), (I a1.Vec.Port), (I a1.Age)]])), (1, (.row 3 1 [[(I a1_1)]]))] ⟨rfl, rfl, rfl, rfl, (congrArg (LV.int .i64) (w64_nat _ (by omega))), trivial⟩ ⟨⟨(congrArg (fun q => some (Blk.row 85 7 q)) (by first | (simp only [se_map, se_byL, se_len, se_ch, List.length_map]; done) | (simp only [se_map, se_byL, se_len, se_ch, List.length_map, StpT.cells]; done) : ([[(I s14.Self.ID), (LV.ro 1 (s14.Self.Costs.map iC)), (LV.ro 1 (s14.Self.Ups.map bC)), (LV.ro 6 (s14.Self.Infos.map InfoT.cells)), (LV.sl 9 0 (s14.States.map PortStateT.cells).length), (I s14.Max), (I s14.Delay)]] : List (List LV)) = [[(I (⟨s14.Self, (s14.States.set (((k14 : Nat) : Int) : Int).toNat y28.1), s14.Max, s14.Delay⟩ : StpT).Self.ID), (LV.ro 1 ((⟨s14.Self, (s14.States.set (((k14 : Nat) : Int) : Int).toNat y28.1), s14.Max, s14.Delay⟩ : StpT).Self.Costs.map iC)), (LV.ro 1 ((⟨s14.Self, (s14.States.set (((k14 : Nat) : Int) : Int).toNat y28.1), s14.Max, s14.Delay⟩ : StpT).Self.Ups.map bC)), (LV.ro 6 ((⟨s14.Self, (s14.States.set (((k14 : Nat) : Int) : Int).toNat y28.1), s14.Max, s14.Delay⟩ : StpT).Self.Infos.map InfoT.cells)), (LV.sl 9 0 ((⟨s14.Self, (s14.States.set (((k14 : Nat) : Int) : Int).toNat y28.1), s14.Max, s14.Delay⟩ : StpT).States.map PortStateT.cells).length), (I (⟨s14.Self, (s14.States.set (((k14 : Nat) : Int) : Int).toNat y28.1), s14.Max, s14.Delay⟩ : StpT).Max), (I (⟨s14.Self, (s14.States.set (((k14 : Nat) : Int) : Int).toNat y28.1), s14.Max, s14.Delay⟩ : StpT).Delay)]])), rfl, blT⟩, ⟨⟨(congrArg (fun q => some (Blk.row 224 2 q)) (by first | (simp only [se_map, se_byL, se_len, se_ch, List.length_map]; done) | (simp only [se_map, se_byL, se_len, se_ch, List.length_map, StpT.cells]; done) : ((setN (s14.States.map PortStateT.cells) (0 + ((((k14 : Nat) : Int) : Int).toNat)) [(I y28.1.State), (I y28.1.Left)]) : List (List LV)) = ((⟨s14.Self, (s14.States.set (((k14 : Nat) : Int) : Int).toNat y28.1), s14.Max, s14.Delay⟩ : StpT).States.map PortStateT.cells))), rfl, NLss_bel (NLss_map' _)⟩, ⟨⟨rfl, rfl, blT⟩, ⟨⟨rfl, rfl, blT⟩, ⟨⟨rfl, rfl, blT⟩, trivial⟩⟩⟩⟩⟩ blT rfl (K14 _ e.symm)
      · exact (Bool.false_ne_true (hc.symm.trans hd)).elim

def stp_Hear (a0 : StpT) (a1 : Int) (a2 : ConfigT) : Option (StpT × Bool × Int) :=
  (stp_may a0 a1).bind fun y1 =>
  (bif (!decide (y1 = 0)) then
    some ((⟨(⟨0, [], [], []⟩ : SelfT), [], 0, 0⟩ : StpT), false, y1)
  else
    (vec_Right a2.Vec).bind fun y3 =>
    (bif (bif (bif (!y3) then true else (decide (a2.Age < 0))) then true else (decide (255 < a2.Age))) then
      some ((⟨(⟨0, [], [], []⟩ : SelfT), [], 0, 0⟩ : StpT), false, 1)
    else
      (gix a0.Self.Infos a1).bind fun v5 =>
      (vec_Better a2.Vec v5.Vec).bind fun y7 =>
      (gix a0.Self.Ups a1).bind fun v9 =>
      (bif (bif (bif (!v9) then true else (decide (a0.Max ≤ a2.Age))) then true else (bif (bif v5.Has then (!y7.1) else false) then (!(bif (decide (a2.Vec.Bridge = v5.Vec.Bridge)) then (decide (a2.Vec.Port = v5.Vec.Port)) else false)) else false)) then
        some (a0, false, 0)
      else
        (stp_changed_x2 a0 a2 a1).bind fun y31 =>
        some (y31, true, 0))))

theorem c_stp_Hear (a0 : StpT) (a1 : Int) (a2 : ConfigT) (r : (StpT × Bool × Int)) (h : stp_Hear a0 a1 a2 = some r) : CallP Try.prog 55 [(LV.agg [(I a0.Self.ID), (LV.ro 1 (a0.Self.Costs.map iC)), (LV.ro 1 (a0.Self.Ups.map bC)), (LV.ro 6 (a0.Self.Infos.map InfoT.cells)), (LV.ro 2 (a0.States.map PortStateT.cells)), (I a0.Max), (I a0.Delay)]), (I a1), (LV.agg [(I a2.Vec.Root), (I a2.Vec.Cost), (I a2.Vec.Bridge), (I a2.Vec.Port), (I a2.Age)])] (LV.tup [(LV.agg [(I r.1.Self.ID), (LV.ro 1 (r.1.Self.Costs.map iC)), (LV.ro 1 (r.1.Self.Ups.map bC)), (LV.ro 6 (r.1.Self.Infos.map InfoT.cells)), (LV.ro 2 (r.1.States.map PortStateT.cells)), (I r.1.Max), (I r.1.Delay)]), (LV.bool r.2.1), (I r.2.2)]) := by
  unfold stp_Hear at h
  refine .intro nlA (.intro TT_ok Try.func55 rfl rfl [0, 1, 2, 3, 4, 5, 6, 7, 8, 9, 10, 11, 13, 18, 34, 91, 1000164] rfl ?_)
  conv => whnf
  replace h := bindS h
  obtain ⟨y1, hy1, h⟩ := h
  have c2 := c_stp_may a0 a1 _ hy1
  repeat' first | with_reducible rfl | with_reducible exact True.intro | with_reducible assumption | refine parkI ?_ | (refine CallP.use c2 ?_; conv => whnf) | (refine And.intro ?_ ?_ <;> conv => whnf) | fail
  refine parkE (fun hc => ?_) (fun hc => ?_)
  · replace h := condT hc h
    conv => whnf
    have e := Option.some.inj h
    subst e
    repeat' first | with_reducible rfl | with_reducible exact True.intro | with_reducible assumption | exact clA _ | (refine And.intro ?_ ?_ <;> conv => whnf) | exact clG _ | (refine gand ?_ h; assumption) | exact clN _ | fail
  · replace h := condF hc h
    conv => whnf
    replace h := bindS h
    obtain ⟨y3, hy3, h⟩ := h
    have c4 := c_vec_Right a2.Vec _ hy3
    repeat' first | with_reducible rfl | with_reducible exact True.intro | with_reducible assumption | refine parkI ?_ | (refine CallP.use c4 ?_; conv => whnf) | exact clA _ | (refine And.intro ?_ ?_ <;> conv => whnf) | exact clG _ | (refine gand ?_ h; assumption) | fail
    refine parkE (fun hc => ?_) (fun hc => ?_)
    · replace h := condT hc h
      conv => whnf
      have e := Option.some.inj h
      subst e
      repeat' first | with_reducible rfl | with_reducible exact True.intro | with_reducible assumption | exact clA _ | (refine And.intro ?_ ?_ <;> conv => whnf) | exact clG _ | (refine gand ?_ h; assumption) | exact clN _ | fail
    · replace h := condF hc h
      conv => whnf
      replace h := bindS h
      obtain ⟨v5, hv5, h⟩ := h
      have i6 := gixF (f := InfoT.cells) hv5
      replace h := bindS h
      obtain ⟨y7, hy7, h⟩ := h
      have c8 := c_vec_Better a2.Vec v5.Vec _ hy7
      replace h := bindS h
      obtain ⟨v9, hv9, h⟩ := h
      have i10 := gixF (f := bC) hv9
      repeat' first | with_reducible rfl | with_reducible exact True.intro | with_reducible assumption | refine parkI ?_ | (refine ⟨_, i6, ?_⟩; conv => whnf) | (refine ⟨_, i10, ?_⟩; conv => whnf) | (refine CallP.use c8 ?_; conv => whnf) | exact clA _ | (refine And.intro ?_ ?_ <;> conv => whnf) | exact clG _ | (refine gand ?_ h; assumption) | fail
      refine parkE (fun hc => ?_) (fun hc => ?_)
      · replace h := condT hc h
        conv => whnf
        have e := Option.some.inj h
        subst e
        repeat' first | with_reducible rfl | with_reducible exact True.intro | with_reducible assumption | exact clA _ | (refine And.intro ?_ ?_ <;> conv => whnf) | exact clG _ | (refine gand ?_ h; assumption) | exact clN _ | fail
      · replace h := condF hc h
        conv => whnf
        replace h := bindS h
        obtain ⟨y31, hy31, h⟩ := h
        have c32 : CallW Try.prog 164 [(LV.agg [(I a0.Self.ID), (LV.ro 1 (a0.Self.Costs.map iC)), (LV.ro 1 (a0.Self.Ups.map bC)), (LV.ro 6 (a0.Self.Infos.map InfoT.cells)), (LV.ro 2 (a0.States.map PortStateT.cells)), (I a0.Max), (I a0.Delay)]), (LV.func (.func 169) [] [(LV.ptr 0 0 0), (LV.ptr 1 0 0)])] ⟨2, [(0, (.row 89 5 [[(I a2.Vec.Root), (I a2.Vec.Cost), (I a2.Vec.Bridge), (I a2.Vec.Port), (I a2.Age)]])), (1, (.row 3 1 [[(I a1)]]))]⟩ (fun lv H' => lv = (LV.agg [(I y31.Self.ID), (LV.ro 1 (y31.Self.Costs.map iC)), (LV.ro 1 (y31.Self.Ups.map bC)), (LV.ro 6 (y31.Self.Infos.map InfoT.cells)), (LV.sl 2 0 (y31.States.map PortStateT.cells).length), (I y31.Max), (I y31.Delay)]) ∧ H' = ⟨3, [(2, (.row 224 2 (y31.States.map PortStateT.cells))), (0, (.row 89 5 [[(I a2.Vec.Root), (I a2.Vec.Cost), (I a2.Vec.Bridge), (I a2.Vec.Port), (I a2.Age)]])), (1, (.row 3 1 [[(I a1)]]))]⟩) := w_stp_changed_x2 a0 a2 a1 _ hy31
        have e := Option.some.inj h
        subst e
        repeat' first | with_reducible rfl | with_reducible exact True.intro | with_reducible assumption | (refine CallW.frame (nx2 := 6) (l2 := [(5, (.row 224 2 (y31.States.map PortStateT.cells))), (2, (.row 89 5 [[(I a2.Vec.Root), (I a2.Vec.Cost), (I a2.Vec.Bridge), (I a2.Vec.Port), (I a2.Age)]])), (1, (.row 3 1 [[(I a1)]]))]) [(2, 0), (1, 1)] [(2, 5), (0, 2), (1, 1)] c32 rfl rfl ⟨⟨rfl, rfl, .inl ⟨rfl, nlT⟩⟩, rfl, rfl, ⟨⟨rfl, rfl, .inl ⟨rfl, nlT⟩⟩, rfl, rfl, trivial⟩⟩ rfl rfl ⟨⟨rfl, rfl, .inl ⟨rfl, nlT⟩⟩, rfl, rfl, ⟨⟨rfl, rfl, .inl ⟨rfl, nlT⟩⟩, rfl, rfl, ⟨⟨rfl, rfl, .inl ⟨rfl, nlT⟩⟩, rfl, rfl, trivial⟩⟩⟩ ?_; conv => whnf) | exact clA _ | (refine And.intro ?_ ?_ <;> conv => whnf) | exact clG _ | (refine gand ?_ h; assumption) | exact clN _ | fail

end Go.RX
