/- Plain functions, and what says that the program's functions compute them. -/
import Derived.Test.YtoahcombdhgmhaaTc
set_option linter.unusedVariables false
set_option linter.unusedSimpArgs false
open Go Go.RX Go.Proofs
namespace Go.RX
set_option maxRecDepth 10000
set_option maxHeartbeats 4000000
attribute [local irreducible] CallW CallP LoopW W IntKind.wrap bitI
def law12_few (a0 : StpT) : Option StpT :=
  grd ((0 : Int) ≤ (mn ((a0.Self.Costs.length : Nat) : Int) 12) ∧ (mn ((a0.Self.Costs.length : Nat) : Int) 12) ≤ ((a0.Self.Costs.length : Nat) : Int)) <|
  grd ((0 : Int) ≤ (mn ((a0.Self.Ups.length : Nat) : Int) 12) ∧ (mn ((a0.Self.Ups.length : Nat) : Int) 12) ≤ ((a0.Self.Ups.length : Nat) : Int)) <|
  grd ((0 : Int) ≤ (mn ((a0.Self.Infos.length : Nat) : Int) 12) ∧ (mn ((a0.Self.Infos.length : Nat) : Int) 12) ≤ ((a0.Self.Infos.length : Nat) : Int)) <|
  grd ((0 : Int) ≤ (mn ((a0.States.length : Nat) : Int) 12) ∧ (mn ((a0.States.length : Nat) : Int) 12) ≤ ((a0.States.length : Nat) : Int)) <|
  some (⟨(⟨a0.Self.ID, (a0.Self.Costs.take ((mn ((a0.Self.Costs.length : Nat) : Int) 12) : Int).toNat), (a0.Self.Ups.take ((mn ((a0.Self.Ups.length : Nat) : Int) 12) : Int).toNat), (a0.Self.Infos.take ((mn ((a0.Self.Infos.length : Nat) : Int) 12) : Int).toNat)⟩ : SelfT), (a0.States.take ((mn ((a0.States.length : Nat) : Int) 12) : Int).toNat), a0.Max, a0.Delay⟩ : StpT)

theorem c_law12_few (a0 : StpT) (r : StpT) (h : law12_few a0 = some r) : CallP Try.prog 53 [(LV.agg [(I a0.Self.ID), (LV.ro 1 (a0.Self.Costs.map iC)), (LV.ro 1 (a0.Self.Ups.map bC)), (LV.ro 6 (a0.Self.Infos.map InfoT.cells)), (LV.ro 2 (a0.States.map PortStateT.cells)), (I a0.Max), (I a0.Delay)])] (LV.agg [(I r.Self.ID), (LV.ro 1 (r.Self.Costs.map iC)), (LV.ro 1 (r.Self.Ups.map bC)), (LV.ro 6 (r.Self.Infos.map InfoT.cells)), (LV.ro 2 (r.States.map PortStateT.cells)), (I r.Max), (I r.Delay)]) := by
  unfold law12_few at h
  refine .intro nlA (.intro TT_ok Try.func53 rfl rfl [0, 1, 2, 3] rfl ?_)
  conv => whnf
  replace h := grdS h
  obtain ⟨g2, h⟩ := h
  replace g2 : (0 : Int) ≤ (mn (((a0.Self.Costs.map iC).length : Nat) : Int) 12) ∧ (mn (((a0.Self.Costs.map iC).length : Nat) : Int) 12) ≤ (((a0.Self.Costs.map iC).length : Nat) : Int) := by simpa only [se_len, se_ch, List.length_map] using g2
  replace h := grdS h
  obtain ⟨g3, h⟩ := h
  replace g3 : (0 : Int) ≤ (mn (((a0.Self.Ups.map bC).length : Nat) : Int) 12) ∧ (mn (((a0.Self.Ups.map bC).length : Nat) : Int) 12) ≤ (((a0.Self.Ups.map bC).length : Nat) : Int) := by simpa only [se_len, se_ch, List.length_map] using g3
  replace h := grdS h
  obtain ⟨g4, h⟩ := h
  replace g4 : (0 : Int) ≤ (mn (((a0.Self.Infos.map InfoT.cells).length : Nat) : Int) 12) ∧ (mn (((a0.Self.Infos.map InfoT.cells).length : Nat) : Int) 12) ≤ (((a0.Self.Infos.map InfoT.cells).length : Nat) : Int) := by simpa only [se_len, se_ch, List.length_map] using g4
  replace h := grdS h
  obtain ⟨g5, h⟩ := h
  replace g5 : (0 : Int) ≤ (mn (((a0.States.map PortStateT.cells).length : Nat) : Int) 12) ∧ (mn (((a0.States.map PortStateT.cells).length : Nat) : Int) 12) ≤ (((a0.States.map PortStateT.cells).length : Nat) : Int) := by simpa only [se_len, se_ch, List.length_map] using g5
  have e := Option.some.inj h
  subst e
  repeat' first | with_reducible rfl | with_reducible exact True.intro | with_reducible assumption | exact g2 | exact g3 | exact g4 | exact g5 | (refine W.drawnM (id := 2) 0 TT_ok hmix1 [0, 0, 0, 0, 0, 0, 0, 0, 0, 0, 0, 0, 0, 0, 0, 0, 0, 0, 0, 0, 0, 0, 0, 1, 1, 2, 2] [0, 0, 0, 0, 0, 0, 0, 0, 0, 0, 0, 1, 1, 1, 0, 0, 0, 0, 2, 2, 2, 0, 1, 1, 2, 2, 3] rfl ?_; conv => whnf) | (refine W.drawnM (id := 3) 0 TT_ok hmix1 [0, 0, 0, 0, 0, 0, 0, 0, 0, 0, 1, 1] [0, 0, 0, 0, 0, 1, 1, 1, 0, 1, 1, 2] rfl ?_; conv => whnf) | exact clA _ | (refine And.intro ?_ ?_ <;> conv => whnf) | exact clG _ | (refine gand ?_ h; assumption) | exact clN _ | fail

def ref04_Right (a0 : VecT) : Option Bool :=
  some (bif (bif (bif (bif (bif (bif (bif (decide (0 ≤ a0.Root)) then (decide (a0.Root < 65536)) else false) then (decide (0 ≤ a0.Bridge)) else false) then (decide (a0.Bridge < 65536)) else false) then (decide (0 ≤ a0.Cost)) else false) then (decide (a0.Cost < 2147483648)) else false) then (decide (0 ≤ a0.Port)) else false) then (decide (a0.Port < 8)) else false)

theorem c_ref04_Right (a0 : VecT) (r : Bool) (h : ref04_Right a0 = some r) : CallP Try.prog 180 [(LV.agg [(I a0.Root), (I a0.Cost), (I a0.Bridge), (I a0.Port)])] (LV.bool r) := by
  unfold ref04_Right at h
  refine .intro nlA (.intro TT_ok Try.func180 rfl rfl [0, 1, 2] rfl ?_)
  conv => whnf
  have e := Option.some.inj h
  subst e
  repeat' first | with_reducible rfl | with_reducible exact True.intro | with_reducible assumption | exact clA _ | (refine And.intro ?_ ?_ <;> conv => whnf) | exact clG _ | (refine gand ?_ h; assumption) | exact clN _ | fail

def ref11_info (a0 : InfoT) (a1 : Bool) : Option Bool :=
  (bif (bif (!a0.Has) then true else (!a1)) then
    some ((a0.Has == false) && (((decide (a0.Vec.Root = 0)) && ((decide (a0.Vec.Cost = 0)) && ((decide (a0.Vec.Bridge = 0)) && ((decide (a0.Vec.Port = 0)) && true)))) && ((decide (a0.Age = 0)) && true)))
  else
    (ref04_Right a0.Vec).bind fun y18 =>
    some (bif (bif y18 then (decide (0 ≤ a0.Age)) else false) then (decide (a0.Age ≤ 255)) else false))

theorem c_ref11_info (a0 : InfoT) (a1 : Bool) (r : Bool) (h : ref11_info a0 a1 = some r) : CallP Try.prog 258 [(LV.agg [(LV.bool a0.Has), (I a0.Vec.Root), (I a0.Vec.Cost), (I a0.Vec.Bridge), (I a0.Vec.Port), (I a0.Age)]), (LV.bool a1)] (LV.bool r) := by
  unfold ref11_info at h
  refine .intro nlA (.intro TT_ok Try.func258 rfl rfl [0, 1, 2, 4, 11] rfl ?_)
  conv => whnf
  repeat' first | with_reducible rfl | with_reducible exact True.intro | with_reducible assumption | refine parkI ?_ | exact clA _ | (refine And.intro ?_ ?_ <;> conv => whnf) | exact clG _ | (refine gand ?_ h; assumption) | fail
  refine parkE (fun hc => ?_) (fun hc => ?_)
  · replace h := condT hc h
    conv => whnf
    have e := Option.some.inj h
    subst e
    repeat' first | with_reducible rfl | with_reducible exact True.intro | with_reducible assumption | exact clA _ | (refine And.intro ?_ ?_ <;> conv => whnf) | exact clG _ | (refine gand ?_ h; assumption) | exact clN _ | fail
  · replace h := condF hc h
    conv => whnf
    replace h := bindS h
    obtain ⟨y18, hy18, h⟩ := h
    have c19 := c_ref04_Right a0.Vec _ hy18
    have e := Option.some.inj h
    subst e
    repeat' first | with_reducible rfl | with_reducible exact True.intro | with_reducible assumption | (refine CallP.use c19 ?_; conv => whnf) | exact clA _ | (refine And.intro ?_ ?_ <;> conv => whnf) | exact clG _ | (refine gand ?_ h; assumption) | exact clN _ | fail

def ref11_Right_b15 (a0 : SelfT) (k15 : Nat) (x15 : Int) (s15 : Unit) : Option (Step Bool Unit) :=
  (gd (!(bif (decide (x15 < 1)) then true else (decide (1000 < x15)))) (gix a0.Infos ((k15 : Nat) : Int))).bind fun v14 =>
  (gd (!(bif (decide (x15 < 1)) then true else (decide (1000 < x15)))) (gix a0.Ups ((k15 : Nat) : Int))).bind fun v16 =>
  (gd (!(bif (decide (x15 < 1)) then true else (decide (1000 < x15)))) (ref11_info v14 v16)).bind fun y20 =>
  (bif (bif (bif (decide (x15 < 1)) then true else (decide (1000 < x15))) then true else (!y20)) then
    some (.ret false)
  else
    some (.nxt ()))

def ref11_Right (a0 : SelfT) : Option Bool :=
  (bif (bif (bif (bif (bif (bif (decide (a0.ID < 0)) then true else (decide (65535 < a0.ID))) then true else (decide (((a0.Costs.length : Nat) : Int) < 1))) then true else (decide (8 < ((a0.Costs.length : Nat) : Int)))) then true else (!decide (((a0.Ups.length : Nat) : Int) = ((a0.Costs.length : Nat) : Int)))) then true else (!decide (((a0.Infos.length : Nat) : Int) = ((a0.Costs.length : Nat) : Int)))) then
    some false
  else
    aft (rangeL (ref11_Right_b15 a0) a0.Costs ()) fun s15 =>
    some true)

theorem c_ref11_Right (a0 : SelfT) (r : Bool) (h : ref11_Right a0 = some r) : CallP Try.prog 173 [(LV.agg [(I a0.ID), (LV.ro 1 (a0.Costs.map iC)), (LV.ro 1 (a0.Ups.map bC)), (LV.ro 6 (a0.Infos.map InfoT.cells))])] (LV.bool r) := by
  unfold ref11_Right at h
  refine .intro nlA (.intro TT_ok Try.func173 rfl rfl [0, 1, 2, 3, 4, 37, 40, 41, 42, 71] rfl ?_)
  conv => whnf
  repeat' first | with_reducible rfl | with_reducible exact True.intro | with_reducible assumption | refine parkI ?_ | (refine W.drawn TT_ok hmix1 rfl ?_; conv => whnf) | exact clA _ | (refine And.intro ?_ ?_ <;> conv => whnf) | exact clG _ | (refine gand ?_ h; assumption) | exact clN _ | fail
  refine parkE (fun hc => ?_) (fun hc => ?_)
  · replace h := condT (by first | exact hc | simpa only [se_len, se_ch, List.length_map] using hc) h
    conv => whnf
    have e := Option.some.inj h
    subst e
    repeat' first | with_reducible rfl | with_reducible exact True.intro | with_reducible assumption | (refine W.drawn TT_ok hmix1 rfl ?_; conv => whnf) | exact clA _ | (refine And.intro ?_ ?_ <;> conv => whnf) | exact clG _ | (refine gand ?_ h; assumption) | exact clN _ | fail
  · replace h := condF (by first | exact hc | simpa only [se_len, se_ch, List.length_map] using hc) h
    conv => whnf
    repeat' first | with_reducible rfl | with_reducible exact True.intro | with_reducible assumption | refine parkI ?_ | (refine W.drawn TT_ok hmix1 rfl ?_; conv => whnf) | exact clA _ | (refine And.intro ?_ ?_ <;> conv => whnf) | exact clG _ | (refine gand ?_ h; assumption) | exact clN _ | fail
    replace h := aftS h
    obtain ⟨O15, hO15, r15⟩ := h
    refine LoopW.norm [(1, (LV.ptr 0 0 0)), (40, (I (((a0.Costs.map iC).length : Nat) : Int))), (41, (I ((0 : Nat) : Int)))] 1 [(0, (.row 82 4 [[(I a0.ID), (LV.ro 1 (a0.Costs.map iC)), (LV.ro 1 (a0.Ups.map bC)), (LV.ro 6 (a0.Infos.map InfoT.cells))]]))] ⟨rfl, rfl, rfl, trivial⟩ ⟨⟨rfl, rfl, blT⟩, trivial⟩ blT rfl ?_
    refine LoopW.forR (fun k15 s15 => [(1, (LV.ptr 0 0 0)), (40, (I (((a0.Costs.map iC).length : Nat) : Int))), (41, (I ((k15 : Nat) : Int)))]) (fun s15 => ⟨1, [(0, (.row 82 4 [[(I a0.ID), (LV.ro 1 (a0.Costs.map iC)), (LV.ro 1 (a0.Ups.map bC)), (LV.ro 6 (a0.Infos.map InfoT.cells))]]))]⟩) hO15 (fun hl15 s15 hs15 => ?_) (fun hl15 k15 x15 s15 o15 hk15 hx15 b15 K15 hret15 hbrk15 => ?_)
    · rw [hs15] at r15
      dsimp only [aftM] at r15
      have hd : decide (((a0.Costs.length : Nat) : Int) < (((a0.Costs.map iC).length : Nat) : Int)) = false := by rw [decide_eq_false_iff_not]; (try simp only [se_len, se_ch, List.length_map]); omega
      refine LoopW.round TT_ok [0, 1, 2, 3, 4, 37, 40, 41, 42, 71] ?_
      conv => whnf
      repeat' first | with_reducible rfl | with_reducible exact True.intro | with_reducible assumption | refine parkI ?_ | (refine W.drawn TT_ok hmix1 rfl ?_; conv => whnf) | exact clA _ | (refine And.intro ?_ ?_ <;> conv => whnf) | exact clG _ | (refine gand ?_ h; assumption) | exact clN _ | fail
      refine parkE (fun hc => ?_) (fun hc => ?_)
      · exact (Bool.false_ne_true (hd.symm.trans hc)).elim
      · clear hd
        conv => whnf
        have e := Option.some.inj r15
        subst e
        repeat' first | with_reducible rfl | with_reducible exact True.intro | with_reducible assumption | (refine W.drawn TT_ok hmix1 rfl ?_; conv => whnf) | exact clA _ | (refine And.intro ?_ ?_ <;> conv => whnf) | exact clG _ | (refine gand ?_ h; assumption) | exact clN _ | fail
    · unfold ref11_Right_b15 at b15
      have hd : decide (((k15 : Nat) : Int) < (((a0.Costs.map iC).length : Nat) : Int)) = true := by rw [decide_eq_true_eq]; (try simp only [se_len, se_ch, List.length_map] at hk15); (try simp only [se_len, se_ch, List.length_map]); omega
      refine LoopW.round TT_ok [0, 1, 2, 3, 4, 37, 40, 41, 42, 71] ?_
      conv => whnf
      repeat' first | with_reducible rfl | with_reducible exact True.intro | with_reducible assumption | refine parkI ?_ | (refine W.drawn TT_ok hmix1 rfl ?_; conv => whnf) | exact clA _ | (refine And.intro ?_ ?_ <;> conv => whnf) | exact clG _ | (refine gand ?_ h; assumption) | exact clN _ | fail
      refine parkE (fun hc => ?_) (fun hc => ?_)
      · clear hd
        conv => whnf
        replace b15 := bindS b15
        obtain ⟨v14, hv14, b15⟩ := b15
        have i15 := fun hg => gixF (f := InfoT.cells) (gdS hg hv14)
        replace b15 := bindS b15
        obtain ⟨v16, hv16, b15⟩ := b15
        have i17 := fun hg => gixF (f := bC) (gdS hg hv16)
        replace b15 := bindS b15
        obtain ⟨y20, hy20, b15⟩ := b15
        have c21 := fun (hg : (!(bif (decide (x15 < 1)) then true else (decide (1000 < x15)))) = true) => c_ref11_info v14 v16 _ (gdS hg hy20)
        repeat' first | with_reducible rfl | with_reducible exact True.intro | with_reducible assumption | refine parkI ?_ | (refine ⟨_, (kixF (f := iC) hx15), ?_⟩; conv => whnf) | (refine ⟨_, (fun _ => (kixF (f := iC) hx15)), ?_⟩; conv => whnf) | (refine ⟨_, i15, ?_⟩; conv => whnf) | (refine ⟨_, i17, ?_⟩; conv => whnf) | (refine ⟨_, c21, ?_⟩; conv => whnf) | (refine W.drawn TT_ok hmix1 rfl ?_; conv => whnf) | exact clA _ | (refine And.intro ?_ ?_ <;> conv => whnf) | exact clG _ | (refine gand ?_ h; assumption) | exact clN _ | fail
        refine parkE (fun hc => ?_) (fun hc => ?_)
        · replace b15 := condT hc b15
          conv => whnf
          have e := Option.some.inj b15
          replace e := hret15 _ e.symm
          rw [e] at r15
          replace e := Option.some.inj r15
          subst e
          repeat' first | with_reducible rfl | with_reducible exact True.intro | with_reducible assumption | (refine W.drawn TT_ok hmix1 rfl ?_; conv => whnf) | exact clA _ | (refine And.intro ?_ ?_ <;> conv => whnf) | exact clG _ | (refine gand ?_ h; assumption) | exact clN _ | fail
        · replace b15 := condF hc b15
          conv => whnf
          repeat' first | with_reducible rfl | with_reducible exact True.intro | with_reducible assumption | refine parkI ?_ | (refine W.drawn TT_ok hmix1 rfl ?_; conv => whnf) | exact clA _ | (refine And.intro ?_ ?_ <;> conv => whnf) | exact clG _ | (refine gand ?_ h; assumption) | exact clN _ | fail
          have e := Option.some.inj b15
          refine LoopW.norm [(1, (LV.ptr 0 0 0)), (40, (I (((a0.Costs.map iC).length : Nat) : Int))), (41, (I ((k15 + 1 : Nat) : Int)))] 1 [(0, (.row 82 4 [[(I a0.ID), (LV.ro 1 (a0.Costs.map iC)), (LV.ro 1 (a0.Ups.map bC)), (LV.ro 6 (a0.Infos.map InfoT.cells))]]))] ⟨rfl, rfl, (congrArg (LV.int .i64) (w64_nat _ (by omega))), trivial⟩ ⟨⟨rfl, rfl, blT⟩, trivial⟩ blT rfl (K15 _ e.symm)
      · exact (Bool.false_ne_true (hc.symm.trans hd)).elim

def ref10_Right (a0 : PortStateT) (a1 : Int) : Option Bool :=
  (bif (bif (decide (a1 < 1)) then true else (decide (30 < a1))) then
    some false
  else
    (bif (bif (decide (a0.State = 1)) then true else (decide (a0.State = 2))) then
      some (bif (decide (1 ≤ a0.Left)) then (decide (a0.Left ≤ a1)) else false)
    else
      some (bif (bif (decide (a0.State = 0)) then true else (decide (a0.State = 3))) then (decide (a0.Left = 0)) else false)))

theorem c_ref10_Right (a0 : PortStateT) (a1 : Int) (r : Bool) (h : ref10_Right a0 a1 = some r) : CallP Try.prog 174 [(LV.agg [(I a0.State), (I a0.Left)]), (I a1)] (LV.bool r) := by
  unfold ref10_Right at h
  refine .intro nlA (.intro TT_ok Try.func174 rfl rfl [0, 1, 2, 4, 10, 18] rfl ?_)
  conv => whnf
  repeat' first | with_reducible rfl | with_reducible exact True.intro | with_reducible assumption | refine parkI ?_ | exact clA _ | (refine And.intro ?_ ?_ <;> conv => whnf) | exact clG _ | (refine gand ?_ h; assumption) | fail
  refine parkE (fun hc => ?_) (fun hc => ?_)
  · replace h := condT hc h
    conv => whnf
    have e := Option.some.inj h
    subst e
    repeat' first | with_reducible rfl | with_reducible exact True.intro | with_reducible assumption | exact clA _ | (refine And.intro ?_ ?_ <;> conv => whnf) | exact clG _ | (refine gand ?_ h; assumption) | exact clN _ | fail
  · replace h := condF hc h
    conv => whnf
    repeat' first | with_reducible rfl | with_reducible exact True.intro | with_reducible assumption | refine parkI ?_ | exact clA _ | (refine And.intro ?_ ?_ <;> conv => whnf) | exact clG _ | (refine gand ?_ h; assumption) | fail
    refine parkE (fun hc => ?_) (fun hc => ?_)
    · replace h := condT hc h
      conv => whnf
      have e := Option.some.inj h
      subst e
      repeat' first | with_reducible rfl | with_reducible exact True.intro | with_reducible assumption | exact clA _ | (refine And.intro ?_ ?_ <;> conv => whnf) | exact clG _ | (refine gand ?_ h; assumption) | exact clN _ | fail
    · replace h := condF hc h
      conv => whnf
      have e := Option.some.inj h
      subst e
      repeat' first | with_reducible rfl | with_reducible exact True.intro | with_reducible assumption | exact clA _ | (refine And.intro ?_ ?_ <;> conv => whnf) | exact clG _ | (refine gand ?_ h; assumption) | exact clN _ | fail

def ref04_Far (a0 : VecT) (a1 : Int) : Option VecT :=
  some (⟨a0.Root, (mn (IntKind.i64.wrap (a0.Cost + a1)) 2147483647), a0.Bridge, a0.Port⟩ : VecT)

theorem c_ref04_Far (a0 : VecT) (a1 : Int) (r : VecT) (h : ref04_Far a0 a1 = some r) : CallP Try.prog 299 [(LV.agg [(I a0.Root), (I a0.Cost), (I a0.Bridge), (I a0.Port)]), (I a1)] (LV.agg [(I r.Root), (I r.Cost), (I r.Bridge), (I r.Port)]) := by
  unfold ref04_Far at h
  refine .intro nlA (.intro TT_ok Try.func299 rfl rfl [0, 1, 2, 4] rfl ?_)
  conv => whnf
  have e := Option.some.inj h
  subst e
  repeat' first | with_reducible rfl | with_reducible exact True.intro | with_reducible assumption | exact clA _ | (refine And.intro ?_ ?_ <;> conv => whnf) | exact clG _ | (refine gand ?_ h; assumption) | exact clN _ | fail

def ref11_way (a0 : SelfT) (a1 : Int) : Option VecT :=
  (gix a0.Infos a1).bind fun v28 =>
  (gix a0.Costs a1).bind fun v30 =>
  (ref04_Far v28.Vec v30).bind fun y32 =>
  some y32

theorem c_ref11_way (a0 : SelfT) (a1 : Int) (r : VecT) (h : ref11_way a0 a1 = some r) : CallP Try.prog 302 [(LV.agg [(I a0.ID), (LV.ro 1 (a0.Costs.map iC)), (LV.ro 1 (a0.Ups.map bC)), (LV.ro 6 (a0.Infos.map InfoT.cells))]), (I a1)] (LV.agg [(I r.Root), (I r.Cost), (I r.Bridge), (I r.Port)]) := by
  unfold ref11_way at h
  refine .intro nlA (.intro TT_ok Try.func302 rfl rfl [0, 1, 2, 4] rfl ?_)
  conv => whnf
  replace h := bindS h
  obtain ⟨v28, hv28, h⟩ := h
  have i29 := gixF (f := InfoT.cells) hv28
  replace h := bindS h
  obtain ⟨v30, hv30, h⟩ := h
  have i31 := gixF (f := iC) hv30
  replace h := bindS h
  obtain ⟨y32, hy32, h⟩ := h
  have c33 := c_ref04_Far v28.Vec v30 _ hy32
  have e := Option.some.inj h
  subst e
  repeat' first | with_reducible rfl | with_reducible exact True.intro | with_reducible assumption | (refine ⟨_, i29, ?_⟩; conv => whnf) | (refine ⟨_, i31, ?_⟩; conv => whnf) | (refine CallP.use c33 ?_; conv => whnf) | (refine ⟨_, _, CallP.at c33, ?_⟩; conv => whnf) | (refine ⟨_, fun _ => c33, ?_⟩; conv => whnf) | (refine W.drawnM (id := 1) 0 TT_ok hmix1 [0, 0, 0, 0, 0, 0, 0, 0, 0, 0, 0, 0, 0] [0, 0, 0, 0, 0, 0, 0, 0, 0, 0, 0, 0, 1] rfl ?_; conv => whnf) | exact clA _ | (refine And.intro ?_ ?_ <;> conv => whnf) | exact clG _ | (refine gand ?_ h; assumption) | exact clN _ | fail

def ref04_Better (a0 : VecT) (a1 : VecT) : Option Bool :=
  (bif (!decide (a0.Root = a1.Root)) then
    some (decide (a0.Root < a1.Root))
  else
    (bif (!decide (a0.Cost = a1.Cost)) then
      some (decide (a0.Cost < a1.Cost))
    else
      (bif (!decide (a0.Bridge = a1.Bridge)) then
        some (decide (a0.Bridge < a1.Bridge))
      else
        some (decide (a0.Port < a1.Port)))))

theorem c_ref04_Better (a0 : VecT) (a1 : VecT) (r : Bool) (h : ref04_Better a0 a1 = some r) : CallP Try.prog 181 [(LV.agg [(I a0.Root), (I a0.Cost), (I a0.Bridge), (I a0.Port)]), (LV.agg [(I a1.Root), (I a1.Cost), (I a1.Bridge), (I a1.Port)])] (LV.bool r) := by
  unfold ref04_Better at h
  refine .intro nlA (.intro TT_ok Try.func181 rfl rfl [0, 1, 2, 3, 4, 9, 19, 29] rfl ?_)
  conv => whnf
  repeat' first | with_reducible rfl | with_reducible exact True.intro | with_reducible assumption | refine parkI ?_ | (refine And.intro ?_ ?_ <;> conv => whnf) | fail
  refine parkE (fun hc => ?_) (fun hc => ?_)
  · replace h := condT hc h
    conv => whnf
    have e := Option.some.inj h
    subst e
    repeat' first | with_reducible rfl | with_reducible exact True.intro | with_reducible assumption | exact clA _ | (refine And.intro ?_ ?_ <;> conv => whnf) | exact clG _ | (refine gand ?_ h; assumption) | exact clN _ | fail
  · replace h := condF hc h
    conv => whnf
    repeat' first | with_reducible rfl | with_reducible exact True.intro | with_reducible assumption | refine parkI ?_ | (refine And.intro ?_ ?_ <;> conv => whnf) | fail
    refine parkE (fun hc => ?_) (fun hc => ?_)
    · replace h := condT hc h
      conv => whnf
      have e := Option.some.inj h
      subst e
      repeat' first | with_reducible rfl | with_reducible exact True.intro | with_reducible assumption | exact clA _ | (refine And.intro ?_ ?_ <;> conv => whnf) | exact clG _ | (refine gand ?_ h; assumption) | exact clN _ | fail
    · replace h := condF hc h
      conv => whnf
      repeat' first | with_reducible rfl | with_reducible exact True.intro | with_reducible assumption | refine parkI ?_ | (refine And.intro ?_ ?_ <;> conv => whnf) | fail
      refine parkE (fun hc => ?_) (fun hc => ?_)
      · replace h := condT hc h
        conv => whnf
        have e := Option.some.inj h
        subst e
        repeat' first | with_reducible rfl | with_reducible exact True.intro | with_reducible assumption | exact clA _ | (refine And.intro ?_ ?_ <;> conv => whnf) | exact clG _ | (refine gand ?_ h; assumption) | exact clN _ | fail
      · replace h := condF hc h
        conv => whnf
        have e := Option.some.inj h
        subst e
        repeat' first | with_reducible rfl | with_reducible exact True.intro | with_reducible assumption | exact clA _ | (refine And.intro ?_ ?_ <;> conv => whnf) | exact clG _ | (refine gand ?_ h; assumption) | exact clN _ | fail

def ref11_RootPort_b17 (a0 : SelfT) (k17 : Nat) (x17 : InfoT) (s17 : Int) : Option (Step Int Int) :=
  (gd (bif x17.Has then (!(decide (s17 < 0))) else false) (ref11_way a0 ((k17 : Nat) : Int))).bind fun y34 =>
  (gd (bif x17.Has then (!(decide (s17 < 0))) else false) (ref11_way a0 s17)).bind fun y36 =>
  (gd (bif x17.Has then (!(decide (s17 < 0))) else false) (ref04_Better y34 y36)).bind fun y38 =>
  (bif (bif x17.Has then (bif (decide (s17 < 0)) then true else y38) else false) then
    some (.nxt ((k17 : Nat) : Int))
  else
    some (.nxt s17))

def ref11_RootPort (a0 : SelfT) : Option Int :=
  aft (rangeL (ref11_RootPort_b17 a0) a0.Infos (-1)) fun s17 =>
  (gd (decide (0 ≤ s17)) (ref11_way a0 s17)).bind fun y40 =>
  (bif (bif (decide (0 ≤ s17)) then (decide (y40.Root < a0.ID)) else false) then
    some s17
  else
    some (-1))

theorem c_ref11_RootPort (a0 : SelfT) (r : Int) (h : ref11_RootPort a0 = some r) : CallP Try.prog 259 [(LV.agg [(I a0.ID), (LV.ro 1 (a0.Costs.map iC)), (LV.ro 1 (a0.Ups.map bC)), (LV.ro 6 (a0.Infos.map InfoT.cells))])] (I r) := by
  unfold ref11_RootPort at h
  refine .intro nlA (.intro TT_ok Try.func259 rfl rfl [0, 1, 2, 3, 4, 5, 7, 8, 9, 10, 28, 41] rfl ?_)
  conv => whnf
  repeat' first | with_reducible rfl | with_reducible exact True.intro | with_reducible assumption | refine parkI ?_ | (refine W.drawn TT_ok hmix1 rfl ?_; conv => whnf) | exact clA _ | (refine And.intro ?_ ?_ <;> conv => whnf) | exact clG _ | (refine gand ?_ h; assumption) | exact clN _ | fail
  replace h := aftS h
  obtain ⟨O17, hO17, r17⟩ := h
  refine LoopW.norm [(1, (LV.ptr 0 0 0)), (3, (I (-1))), (7, (LV.ro 6 (a0.Infos.map InfoT.cells))), (8, (I (((a0.Infos.map InfoT.cells).length : Nat) : Int))), (9, (I ((0 : Nat) : Int)))] 1 [(0, (.row 82 4 [[(I a0.ID), (LV.ro 1 (a0.Costs.map iC)), (LV.ro 1 (a0.Ups.map bC)), (LV.ro 6 (a0.Infos.map InfoT.cells))]]))] ⟨rfl, rfl, rfl, rfl, rfl, trivial⟩ ⟨⟨rfl, rfl, blT⟩, trivial⟩ blT rfl ?_
  refine LoopW.forR (fun k17 s17 => [(1, (LV.ptr 0 0 0)), (3, (I s17)), (7, (LV.ro 6 (a0.Infos.map InfoT.cells))), (8, (I (((a0.Infos.map InfoT.cells).length : Nat) : Int))), (9, (I ((k17 : Nat) : Int)))]) (fun s17 => ⟨1, [(0, (.row 82 4 [[(I a0.ID), (LV.ro 1 (a0.Costs.map iC)), (LV.ro 1 (a0.Ups.map bC)), (LV.ro 6 (a0.Infos.map InfoT.cells))]]))]⟩) hO17 (fun hl17 s17 hs17 => ?_) (fun hl17 k17 x17 s17 o17 hk17 hx17 b17 K17 hret17 hbrk17 => ?_)
  · rw [hs17] at r17
    dsimp only [aftM] at r17
    have hd : decide (((a0.Infos.length : Nat) : Int) < (((a0.Infos.map InfoT.cells).length : Nat) : Int)) = false := by rw [decide_eq_false_iff_not]; (try simp only [se_len, se_ch, List.length_map]); omega
    refine LoopW.round TT_ok [0, 1, 2, 3, 4, 5, 7, 8, 9, 10, 28, 41] ?_
    conv => whnf
    repeat' first | with_reducible rfl | with_reducible exact True.intro | with_reducible assumption | refine parkI ?_ | (refine W.drawn TT_ok hmix1 rfl ?_; conv => whnf) | exact clA _ | (refine And.intro ?_ ?_ <;> conv => whnf) | exact clG _ | (refine gand ?_ h; assumption) | exact clN _ | fail
    refine parkE (fun hc => ?_) (fun hc => ?_)
    · exact (Bool.false_ne_true (hd.symm.trans hc)).elim
    · clear hd
      conv => whnf
      replace r17 := bindS r17
      obtain ⟨y40, hy40, r17⟩ := r17
      have c41 := fun (hg : (decide (0 ≤ s17)) = true) => c_ref11_way a0 s17 _ (gdS hg hy40)
      repeat' first | with_reducible rfl | with_reducible exact True.intro | with_reducible assumption | refine parkI ?_ | (refine ⟨_, c41, ?_⟩; conv => whnf) | (refine W.drawn TT_ok hmix1 rfl ?_; conv => whnf) | exact clA _ | (refine And.intro ?_ ?_ <;> conv => whnf) | exact clG _ | (refine gand ?_ h; assumption) | exact clN _ | fail
      refine parkE (fun hc => ?_) (fun hc => ?_)
      · replace r17 := condT hc r17
        conv => whnf
        have e := Option.some.inj r17
        subst e
        repeat' first | with_reducible rfl | with_reducible exact True.intro | with_reducible assumption | (refine W.drawn TT_ok hmix1 rfl ?_; conv => whnf) | exact clA _ | (refine And.intro ?_ ?_ <;> conv => whnf) | exact clG _ | (refine gand ?_ h; assumption) | exact clN _ | fail
      · replace r17 := condF hc r17
        conv => whnf
        have e := Option.some.inj r17
        subst e
        repeat' first | with_reducible rfl | with_reducible exact True.intro | with_reducible assumption | (refine W.drawn TT_ok hmix1 rfl ?_; conv => whnf) | exact clA _ | (refine And.intro ?_ ?_ <;> conv => whnf) | exact clG _ | (refine gand ?_ h; assumption) | exact clN _ | fail
  · unfold ref11_RootPort_b17 at b17
    have hd : decide (((k17 : Nat) : Int) < (((a0.Infos.map InfoT.cells).length : Nat) : Int)) = true := by rw [decide_eq_true_eq]; (try simp only [se_len, se_ch, List.length_map] at hk17); (try simp only [se_len, se_ch, List.length_map]); omega
    refine LoopW.round TT_ok [0, 1, 2, 3, 4, 5, 7, 8, 9, 10, 28, 41] ?_
    conv => whnf
    repeat' first | with_reducible rfl | with_reducible exact True.intro | with_reducible assumption | refine parkI ?_ | (refine W.drawn TT_ok hmix1 rfl ?_; conv => whnf) | exact clA _ | (refine And.intro ?_ ?_ <;> conv => whnf) | exact clG _ | (refine gand ?_ h; assumption) | exact clN _ | fail
    refine parkE (fun hc => ?_) (fun hc => ?_)
    · clear hd
      conv => whnf
      replace b17 := bindS b17
      obtain ⟨y34, hy34, b17⟩ := b17
      have c35 := fun (hg : (bif x17.Has then (!(decide (s17 < 0))) else false) = true) => c_ref11_way a0 ((k17 : Nat) : Int) _ (gdS hg hy34)
      replace b17 := bindS b17
      obtain ⟨y36, hy36, b17⟩ := b17
      have c37 := fun (hg : (bif x17.Has then (!(decide (s17 < 0))) else false) = true) => c_ref11_way a0 s17 _ (gdS hg hy36)
      replace b17 := bindS b17
      obtain ⟨y38, hy38, b17⟩ := b17
      have c39 := fun (hg : (bif x17.Has then (!(decide (s17 < 0))) else false) = true) => c_ref04_Better y34 y36 _ (gdS hg hy38)
      repeat' first | with_reducible rfl | with_reducible exact True.intro | with_reducible assumption | refine parkI ?_ | (refine ⟨_, (kixF (f := InfoT.cells) hx17), ?_⟩; conv => whnf) | (refine ⟨_, c35, ?_⟩; conv => whnf) | (refine ⟨_, c37, ?_⟩; conv => whnf) | (refine ⟨_, c39, ?_⟩; conv => whnf) | (refine W.drawn TT_ok hmix1 rfl ?_; conv => whnf) | exact clA _ | (refine And.intro ?_ ?_ <;> conv => whnf) | exact clG _ | (refine gand ?_ h; assumption) | exact clN _ | fail
      refine parkE (fun hc => ?_) (fun hc => ?_)
      · replace b17 := condT hc b17
        conv => whnf
        repeat' first | with_reducible rfl | with_reducible exact True.intro | with_reducible assumption | refine parkI ?_ | (refine W.drawn TT_ok hmix1 rfl ?_; conv => whnf) | exact clA _ | (refine And.intro ?_ ?_ <;> conv => whnf) | exact clG _ | (refine gand ?_ h; assumption) | exact clN _ | fail
        have e := Option.some.inj b17
        refine LoopW.norm [(1, (LV.ptr 0 0 0)), (3, (I ((k17 : Nat) : Int))), (7, (LV.ro 6 (a0.Infos.map InfoT.cells))), (8, (I (((a0.Infos.map InfoT.cells).length : Nat) : Int))), (9, (I ((k17 + 1 : Nat) : Int)))] 1 [(0, (.row 82 4 [[(I a0.ID), (LV.ro 1 (a0.Costs.map iC)), (LV.ro 1 (a0.Ups.map bC)), (LV.ro 6 (a0.Infos.map InfoT.cells))]]))] ⟨rfl, rfl, rfl, rfl, (congrArg (LV.int .i64) (w64_nat _ (by omega))), trivial⟩ ⟨⟨rfl, rfl, blT⟩, trivial⟩ blT rfl (K17 _ e.symm)
      · replace b17 := condF hc b17
        conv => whnf
        repeat' first | with_reducible rfl | with_reducible exact True.intro | with_reducible assumption | refine parkI ?_ | (refine W.drawn TT_ok hmix1 rfl ?_; conv => whnf) | exact clA _ | (refine And.intro ?_ ?_ <;> conv => whnf) | exact clG _ | (refine gand ?_ h; assumption) | exact clN _ | fail
        have e := Option.some.inj b17
        refine LoopW.norm [(1, (LV.ptr 0 0 0)), (3, (I s17)), (7, (LV.ro 6 (a0.Infos.map InfoT.cells))), (8, (I (((a0.Infos.map InfoT.cells).length : Nat) : Int))), (9, (I ((k17 + 1 : Nat) : Int)))] 1 [(0, (.row 82 4 [[(I a0.ID), (LV.ro 1 (a0.Costs.map iC)), (LV.ro 1 (a0.Ups.map bC)), (LV.ro 6 (a0.Infos.map InfoT.cells))]]))] ⟨rfl, rfl, rfl, rfl, (congrArg (LV.int .i64) (w64_nat _ (by omega))), trivial⟩ ⟨⟨rfl, rfl, blT⟩, trivial⟩ blT rfl (K17 _ e.symm)
    · exact (Bool.false_ne_true (hc.symm.trans hd)).elim

def ref11_Tells (a0 : SelfT) (a1 : Int) : Option VecT :=
  (ref11_RootPort a0).bind fun y46 =>
  (bif (decide (y46 < 0)) then
    some (⟨a0.ID, 0, a0.ID, a1⟩ : VecT)
  else
    (ref11_way a0 y46).bind fun y48 =>
    some (⟨y48.Root, y48.Cost, a0.ID, a1⟩ : VecT))

theorem c_ref11_Tells (a0 : SelfT) (a1 : Int) (r : VecT) (h : ref11_Tells a0 a1 = some r) : CallP Try.prog 260 [(LV.agg [(I a0.ID), (LV.ro 1 (a0.Costs.map iC)), (LV.ro 1 (a0.Ups.map bC)), (LV.ro 6 (a0.Infos.map InfoT.cells))]), (I a1)] (LV.agg [(I r.Root), (I r.Cost), (I r.Bridge), (I r.Port)]) := by
  unfold ref11_Tells at h
  refine .intro nlA (.intro TT_ok Try.func260 rfl rfl [0, 1, 2, 4, 5, 6, 10] rfl ?_)
  conv => whnf
  replace h := bindS h
  obtain ⟨y46, hy46, h⟩ := h
  have c47 := c_ref11_RootPort a0 _ hy46
  repeat' first | with_reducible rfl | with_reducible exact True.intro | with_reducible assumption | refine parkI ?_ | (refine CallP.use c47 ?_; conv => whnf) | (refine And.intro ?_ ?_ <;> conv => whnf) | fail
  refine parkE (fun hc => ?_) (fun hc => ?_)
  · replace h := condT hc h
    conv => whnf
    have e := Option.some.inj h
    subst e
    repeat' first | with_reducible rfl | with_reducible exact True.intro | with_reducible assumption | exact clA _ | (refine And.intro ?_ ?_ <;> conv => whnf) | exact clG _ | (refine gand ?_ h; assumption) | exact clN _ | fail
  · replace h := condF hc h
    conv => whnf
    replace h := bindS h
    obtain ⟨y48, hy48, h⟩ := h
    have c49 := c_ref11_way a0 y46 _ hy48
    have e := Option.some.inj h
    subst e
    repeat' first | with_reducible rfl | with_reducible exact True.intro | with_reducible assumption | (refine CallP.use c49 ?_; conv => whnf) | exact clA _ | (refine And.intro ?_ ?_ <;> conv => whnf) | exact clG _ | (refine gand ?_ h; assumption) | exact clN _ | fail

def ref11_Role (a0 : SelfT) (a1 : Int) : Option Int :=
  (gix a0.Ups a1).bind fun v26 =>
  (bif (!v26) then
    some 3
  else
    (ref11_RootPort a0).bind fun y42 =>
    (bif (decide (a1 = y42)) then
      some 0
    else
      (gix a0.Infos a1).bind fun v44 =>
      (gd v44.Has (ref11_Tells a0 a1)).bind fun y50 =>
      (gd v44.Has (ref04_Better v44.Vec y50)).bind fun y52 =>
      (bif (bif v44.Has then y52 else false) then
        some 2
      else
        some 1)))

theorem c_ref11_Role (a0 : SelfT) (a1 : Int) (r : Int) (h : ref11_Role a0 a1 = some r) : CallP Try.prog 176 [(LV.agg [(I a0.ID), (LV.ro 1 (a0.Costs.map iC)), (LV.ro 1 (a0.Ups.map bC)), (LV.ro 6 (a0.Infos.map InfoT.cells))]), (I a1)] (I r) := by
  unfold ref11_Role at h
  refine .intro nlA (.intro TT_ok Try.func176 rfl rfl [0, 1, 2, 4, 10, 14, 32] rfl ?_)
  conv => whnf
  replace h := bindS h
  obtain ⟨v26, hv26, h⟩ := h
  have i27 := gixF (f := bC) hv26
  repeat' first | with_reducible rfl | with_reducible exact True.intro | with_reducible assumption | refine parkI ?_ | (refine ⟨_, i27, ?_⟩; conv => whnf) | (refine W.drawn TT_ok hmix1 rfl ?_; conv => whnf) | exact clA _ | (refine And.intro ?_ ?_ <;> conv => whnf) | exact clG _ | (refine gand ?_ h; assumption) | exact clN _ | fail
  refine parkE (fun hc => ?_) (fun hc => ?_)
  · replace h := condT hc h
    conv => whnf
    have e := Option.some.inj h
    subst e
    repeat' first | with_reducible rfl | with_reducible exact True.intro | with_reducible assumption | (refine W.drawn TT_ok hmix1 rfl ?_; conv => whnf) | exact clA _ | (refine And.intro ?_ ?_ <;> conv => whnf) | exact clG _ | (refine gand ?_ h; assumption) | exact clN _ | fail
  · replace h := condF hc h
    conv => whnf
    replace h := bindS h
    obtain ⟨y42, hy42, h⟩ := h
    have c43 := c_ref11_RootPort a0 _ hy42
    repeat' first | with_reducible rfl | with_reducible exact True.intro | with_reducible assumption | refine parkI ?_ | (refine CallP.use c43 ?_; conv => whnf) | (refine ⟨_, _, CallP.at c43, ?_⟩; conv => whnf) | (refine ⟨_, fun _ => c43, ?_⟩; conv => whnf) | (refine W.drawn TT_ok hmix1 rfl ?_; conv => whnf) | exact clA _ | (refine And.intro ?_ ?_ <;> conv => whnf) | exact clG _ | (refine gand ?_ h; assumption) | exact clN _ | fail
    refine parkE (fun hc => ?_) (fun hc => ?_)
    · replace h := condT hc h
      conv => whnf
      have e := Option.some.inj h
      subst e
      repeat' first | with_reducible rfl | with_reducible exact True.intro | with_reducible assumption | (refine W.drawn TT_ok hmix1 rfl ?_; conv => whnf) | exact clA _ | (refine And.intro ?_ ?_ <;> conv => whnf) | exact clG _ | (refine gand ?_ h; assumption) | exact clN _ | fail
    · replace h := condF hc h
      conv => whnf
      replace h := bindS h
      obtain ⟨v44, hv44, h⟩ := h
      have i45 := gixF (f := InfoT.cells) hv44
      replace h := bindS h
      obtain ⟨y50, hy50, h⟩ := h
      have c51 := fun (hg : v44.Has = true) => c_ref11_Tells a0 a1 _ (gdS hg hy50)
      replace h := bindS h
      obtain ⟨y52, hy52, h⟩ := h
      have c53 := fun (hg : v44.Has = true) => c_ref04_Better v44.Vec y50 _ (gdS hg hy52)
      repeat' first | with_reducible rfl | with_reducible exact True.intro | with_reducible assumption | refine parkI ?_ | (refine ⟨_, i45, ?_⟩; conv => whnf) | (refine ⟨_, (fun _ => i45), ?_⟩; conv => whnf) | (refine ⟨_, c51, ?_⟩; conv => whnf) | (refine ⟨_, c53, ?_⟩; conv => whnf) | (refine W.drawn TT_ok hmix1 rfl ?_; conv => whnf) | exact clA _ | (refine And.intro ?_ ?_ <;> conv => whnf) | exact clG _ | (refine gand ?_ h; assumption) | exact clN _ | fail
      refine parkE (fun hc => ?_) (fun hc => ?_)
      · replace h := condT hc h
        conv => whnf
        have e := Option.some.inj h
        subst e
        repeat' first | with_reducible rfl | with_reducible exact True.intro | with_reducible assumption | (refine W.drawn TT_ok hmix1 rfl ?_; conv => whnf) | exact clA _ | (refine And.intro ?_ ?_ <;> conv => whnf) | exact clG _ | (refine gand ?_ h; assumption) | exact clN _ | fail
      · replace h := condF hc h
        conv => whnf
        have e := Option.some.inj h
        subst e
        repeat' first | with_reducible rfl | with_reducible exact True.intro | with_reducible assumption | (refine W.drawn TT_ok hmix1 rfl ?_; conv => whnf) | exact clA _ | (refine And.intro ?_ ?_ <;> conv => whnf) | exact clG _ | (refine gand ?_ h; assumption) | exact clN _ | fail

def ref12_active (a0 : Int) : Option Bool :=
  some (bif (decide (a0 = 0)) then true else (decide (a0 = 1)))

theorem c_ref12_active (a0 : Int) (r : Bool) (h : ref12_active a0 = some r) : CallP Try.prog 175 [(I a0)] (LV.bool r) := by
  unfold ref12_active at h
  refine .intro nlA (.intro TT_ok Try.func175 rfl rfl [0, 2] rfl ?_)
  conv => whnf
  have e := Option.some.inj h
  subst e
  repeat' first | with_reducible rfl | with_reducible exact True.intro | with_reducible assumption | exact clA _ | (refine And.intro ?_ ?_ <;> conv => whnf) | exact clG _ | (refine gand ?_ h; assumption) | exact clN _ | fail

def ref12_Right_b16 (a0 : StpT) (k16 : Nat) (x16 : PortStateT) (s16 : Unit) : Option (Step Bool Unit) :=
  (ref10_Right x16 a0.Delay).bind fun y24 =>
  (gd (!(!y24)) (ref11_Role a0.Self ((k16 : Nat) : Int))).bind fun y54 =>
  (gd (!(!y24)) (ref12_active y54)).bind fun y56 =>
  (gd (!(bif (!y24) then true else (!(y56 == (!decide (x16.State = 0)))))) (gix a0.Self.Infos ((k16 : Nat) : Int))).bind fun v58 =>
  (bif (bif (bif (!y24) then true else (!(y56 == (!decide (x16.State = 0))))) then true else (decide (a0.Max ≤ v58.Age))) then
    some (.ret false)
  else
    some (.nxt ()))

def ref12_Right (a0 : StpT) : Option Bool :=
  (ref11_Right a0.Self).bind fun y22 =>
  (bif (bif (bif (bif (!y22) then true else (!decide (((a0.States.length : Nat) : Int) = ((a0.Self.Costs.length : Nat) : Int)))) then true else (decide (a0.Max < 1))) then true else (decide (255 < a0.Max))) then
    some false
  else
    aft (rangeL (ref12_Right_b16 a0) a0.States ()) fun s16 =>
    some true)

theorem c_ref12_Right (a0 : StpT) (r : Bool) (h : ref12_Right a0 = some r) : CallP Try.prog 57 [(LV.agg [(I a0.Self.ID), (LV.ro 1 (a0.Self.Costs.map iC)), (LV.ro 1 (a0.Self.Ups.map bC)), (LV.ro 6 (a0.Self.Infos.map InfoT.cells)), (LV.ro 2 (a0.States.map PortStateT.cells)), (I a0.Max), (I a0.Delay)])] (LV.bool r) := by
  unfold ref12_Right at h
  refine .intro nlA (.intro TT_ok Try.func57 rfl rfl [0, 1, 2, 3, 4, 28, 30, 31, 32, 33, 64] rfl ?_)
  conv => whnf
  replace h := bindS h
  obtain ⟨y22, hy22, h⟩ := h
  have c23 := c_ref11_Right a0.Self _ hy22
  repeat' first | with_reducible rfl | with_reducible exact True.intro | with_reducible assumption | refine parkI ?_ | (refine CallP.use c23 ?_; conv => whnf) | (refine ⟨_, _, CallP.at c23, ?_⟩; conv => whnf) | (refine ⟨_, fun _ => c23, ?_⟩; conv => whnf) | (refine W.drawn TT_ok hmix1 rfl ?_; conv => whnf) | exact clA _ | (refine And.intro ?_ ?_ <;> conv => whnf) | exact clG _ | (refine gand ?_ h; assumption) | exact clN _ | fail
  refine parkE (fun hc => ?_) (fun hc => ?_)
  · replace h := condT (by first | exact hc | simpa only [se_len, se_ch, List.length_map] using hc) h
    conv => whnf
    have e := Option.some.inj h
    subst e
    repeat' first | with_reducible rfl | with_reducible exact True.intro | with_reducible assumption | (refine W.drawn TT_ok hmix1 rfl ?_; conv => whnf) | exact clA _ | (refine And.intro ?_ ?_ <;> conv => whnf) | exact clG _ | (refine gand ?_ h; assumption) | exact clN _ | fail
  · replace h := condF (by first | exact hc | simpa only [se_len, se_ch, List.length_map] using hc) h
    conv => whnf
    repeat' first | with_reducible rfl | with_reducible exact True.intro | with_reducible assumption | refine parkI ?_ | (refine W.drawn TT_ok hmix1 rfl ?_; conv => whnf) | exact clA _ | (refine And.intro ?_ ?_ <;> conv => whnf) | exact clG _ | (refine gand ?_ h; assumption) | exact clN _ | fail
    replace h := aftS h
    obtain ⟨O16, hO16, r16⟩ := h
    refine LoopW.norm [(1, (LV.ptr 0 0 0)), (30, (LV.ro 2 (a0.States.map PortStateT.cells))), (31, (I (((a0.States.map PortStateT.cells).length : Nat) : Int))), (32, (I ((0 : Nat) : Int)))] 1 [(0, (.row 85 7 [[(I a0.Self.ID), (LV.ro 1 (a0.Self.Costs.map iC)), (LV.ro 1 (a0.Self.Ups.map bC)), (LV.ro 6 (a0.Self.Infos.map InfoT.cells)), (LV.ro 2 (a0.States.map PortStateT.cells)), (I a0.Max), (I a0.Delay)]]))] ⟨rfl, rfl, rfl, rfl, trivial⟩ ⟨⟨rfl, rfl, blT⟩, trivial⟩ blT rfl ?_
    refine LoopW.forR (fun k16 s16 => [(1, (LV.ptr 0 0 0)), (30, (LV.ro 2 (a0.States.map PortStateT.cells))), (31, (I (((a0.States.map PortStateT.cells).length : Nat) : Int))), (32, (I ((k16 : Nat) : Int)))]) (fun s16 => ⟨1, [(0, (.row 85 7 [[(I a0.Self.ID), (LV.ro 1 (a0.Self.Costs.map iC)), (LV.ro 1 (a0.Self.Ups.map bC)), (LV.ro 6 (a0.Self.Infos.map InfoT.cells)), (LV.ro 2 (a0.States.map PortStateT.cells)), (I a0.Max), (I a0.Delay)]]))]⟩) hO16 (fun hl16 s16 hs16 => ?_) (fun hl16 k16 x16 s16 o16 hk16 hx16 b16 K16 hret16 hbrk16 => ?_)
    · rw [hs16] at r16
      dsimp only [aftM] at r16
      have hd : decide (((a0.States.length : Nat) : Int) < (((a0.States.map PortStateT.cells).length : Nat) : Int)) = false := by rw [decide_eq_false_iff_not]; (try simp only [se_len, se_ch, List.length_map]); omega
      refine LoopW.round TT_ok [0, 1, 2, 3, 4, 28, 30, 31, 32, 33, 64] ?_
      conv => whnf
      repeat' first | with_reducible rfl | with_reducible exact True.intro | with_reducible assumption | refine parkI ?_ | (refine W.drawn TT_ok hmix1 rfl ?_; conv => whnf) | exact clA _ | (refine And.intro ?_ ?_ <;> conv => whnf) | exact clG _ | (refine gand ?_ h; assumption) | exact clN _ | fail
      refine parkE (fun hc => ?_) (fun hc => ?_)
      · exact (Bool.false_ne_true (hd.symm.trans hc)).elim
      · clear hd
        conv => whnf
        have e := Option.some.inj r16
        subst e
        repeat' first | with_reducible rfl | with_reducible exact True.intro | with_reducible assumption | (refine W.drawn TT_ok hmix1 rfl ?_; conv => whnf) | exact clA _ | (refine And.intro ?_ ?_ <;> conv => whnf) | exact clG _ | (refine gand ?_ h; assumption) | exact clN _ | fail
    · unfold ref12_Right_b16 at b16
      have hd : decide (((k16 : Nat) : Int) < (((a0.States.map PortStateT.cells).length : Nat) : Int)) = true := by rw [decide_eq_true_eq]; (try simp only [se_len, se_ch, List.length_map] at hk16); (try simp only [se_len, se_ch, List.length_map]); omega
      refine LoopW.round TT_ok [0, 1, 2, 3, 4, 28, 30, 31, 32, 33, 64] ?_
      conv => whnf
      repeat' first | with_reducible rfl | with_reducible exact True.intro | with_reducible assumption | refine parkI ?_ | (refine W.drawn TT_ok hmix1 rfl ?_; conv => whnf) | exact clA _ | (refine And.intro ?_ ?_ <;> conv => whnf) | exact clG _ | (refine gand ?_ h; assumption) | exact clN _ | fail
      refine parkE (fun hc => ?_) (fun hc => ?_)
      · clear hd
        conv => whnf
        replace b16 := bindS b16
        obtain ⟨y24, hy24, b16⟩ := b16
        have c25 := c_ref10_Right x16 a0.Delay _ hy24
        replace b16 := bindS b16
        obtain ⟨y54, hy54, b16⟩ := b16
        have c55 := fun (hg : (!(!y24)) = true) => c_ref11_Role a0.Self ((k16 : Nat) : Int) _ (gdS hg hy54)
        replace b16 := bindS b16
        obtain ⟨y56, hy56, b16⟩ := b16
        have c57 := fun (hg : (!(!y24)) = true) => c_ref12_active y54 _ (gdS hg hy56)
        replace b16 := bindS b16
        obtain ⟨v58, hv58, b16⟩ := b16
        have i59 := fun hg => gixF (f := InfoT.cells) (gdS hg hv58)
        repeat' first | with_reducible rfl | with_reducible exact True.intro | with_reducible assumption | refine parkI ?_ | (refine ⟨_, (kixF (f := PortStateT.cells) hx16), ?_⟩; conv => whnf) | (refine ⟨_, c55, ?_⟩; conv => whnf) | (refine ⟨_, c57, ?_⟩; conv => whnf) | (refine ⟨_, i59, ?_⟩; conv => whnf) | (refine CallP.use c25 ?_; conv => whnf) | (refine ⟨_, _, CallP.at c25, ?_⟩; conv => whnf) | (refine ⟨_, fun _ => c25, ?_⟩; conv => whnf) | (refine W.drawn TT_ok hmix1 rfl ?_; conv => whnf) | exact clA _ | (refine And.intro ?_ ?_ <;> conv => whnf) | exact clG _ | (refine gand ?_ h; assumption) | exact clN _ | fail
        refine parkE (fun hc => ?_) (fun hc => ?_)
        · replace b16 := condT hc b16
          conv => whnf
          have e := Option.some.inj b16
          replace e := hret16 _ e.symm
          rw [e] at r16
          replace e := Option.some.inj r16
          subst e
          repeat' first | with_reducible rfl | with_reducible exact True.intro | with_reducible assumption | (refine W.drawn TT_ok hmix1 rfl ?_; conv => whnf) | exact clA _ | (refine And.intro ?_ ?_ <;> conv => whnf) | exact clG _ | (refine gand ?_ h; assumption) | exact clN _ | fail
        · replace b16 := condF hc b16
          conv => whnf
          repeat' first | with_reducible rfl | with_reducible exact True.intro | with_reducible assumption | refine parkI ?_ | (refine W.drawn TT_ok hmix1 rfl ?_; conv => whnf) | exact clA _ | (refine And.intro ?_ ?_ <;> conv => whnf) | exact clG _ | (refine gand ?_ h; assumption) | exact clN _ | fail
          have e := Option.some.inj b16
          refine LoopW.norm [(1, (LV.ptr 0 0 0)), (30, (LV.ro 2 (a0.States.map PortStateT.cells))), (31, (I (((a0.States.map PortStateT.cells).length : Nat) : Int))), (32, (I ((k16 + 1 : Nat) : Int)))] 1 [(0, (.row 85 7 [[(I a0.Self.ID), (LV.ro 1 (a0.Self.Costs.map iC)), (LV.ro 1 (a0.Self.Ups.map bC)), (LV.ro 6 (a0.Self.Infos.map InfoT.cells)), (LV.ro 2 (a0.States.map PortStateT.cells)), (I a0.Max), (I a0.Delay)]]))] ⟨rfl, rfl, rfl, (congrArg (LV.int .i64) (w64_nat _ (by omega))), trivial⟩ ⟨⟨rfl, rfl, blT⟩, trivial⟩ blT rfl (K16 _ e.symm)
      · exact (Bool.false_ne_true (hc.symm.trans hd)).elim

def ref12_blank_b18  (k18 : Nat) (x18 : Int) (s18 : SelfT) : Option (Step SelfT SelfT) :=
  grd (fits ((s18.Ups ++ ([true] : (List Bool))) : List Bool).length 1) <|
  grd (fits ((s18.Infos ++ ([(⟨false, (⟨0, 0, 0, 0⟩ : VecT), 0⟩ : InfoT)] : (List InfoT))) : List InfoT).length 48) <|
  some (.nxt (⟨s18.ID, s18.Costs, (s18.Ups ++ ([true] : (List Bool))), (s18.Infos ++ ([(⟨false, (⟨0, 0, 0, 0⟩ : VecT), 0⟩ : InfoT)] : (List InfoT)))⟩ : SelfT))

def ref12_blank (a0 : Int) (a1 : (List Int)) : Option SelfT :=
  aft (rangeL (ref12_blank_b18 ) a1 (⟨a0, a1, ([] : List Bool), ([] : List InfoT)⟩ : SelfT)) fun s18 =>
  some s18

theorem c_ref12_blank (a0 : Int) (a1 : (List Int)) (r : SelfT) (h : ref12_blank a0 a1 = some r) : CallP Try.prog 177 [(I a0), (LV.ro 1 (a1.map iC))] (LV.agg [(I r.ID), (LV.ro 1 (r.Costs.map iC)), (LV.ro 1 (r.Ups.map bC)), (LV.ro 6 (r.Infos.map InfoT.cells))]) := by
  unfold ref12_blank at h
  refine .intro nlA (.intro TT_ok Try.func177 rfl rfl [0, 1, 4, 5, 10, 11, 12] rfl ?_)
  conv => whnf
  repeat' first | with_reducible rfl | with_reducible exact True.intro | with_reducible assumption | refine parkI ?_ | (refine And.intro ?_ ?_ <;> conv => whnf) | fail
  replace h := aftS h
  obtain ⟨O18, hO18, r18⟩ := h
  refine LoopW.virtC 1 0 2 4 1 rfl rfl rfl rfl ?_
  refine LoopW.virtC 1 0 3 120 6 rfl rfl rfl rfl ?_
  refine LoopW.norm [(4, (LV.ptr 0 0 0)), (5, (LV.ptr 1 0 0)), (10, (I (((a1.map iC).length : Nat) : Int))), (11, (I ((0 : Nat) : Int)))] 4 [(0, (.row 82 4 [[(I 0), LV.nils, LV.nils, LV.nils]])), (1, (.row 82 4 [[(I (⟨a0, a1, ([] : List Bool), ([] : List InfoT)⟩ : SelfT).ID), (LV.ro 1 ((⟨a0, a1, ([] : List Bool), ([] : List InfoT)⟩ : SelfT).Costs.map iC)), (LV.sl 2 0 ((⟨a0, a1, ([] : List Bool), ([] : List InfoT)⟩ : SelfT).Ups.map bC).length), (LV.sl 3 0 ((⟨a0, a1, ([] : List Bool), ([] : List InfoT)⟩ : SelfT).Infos.map InfoT.cells).length)]])), (2, (.row 4 1 ((⟨a0, a1, ([] : List Bool), ([] : List InfoT)⟩ : SelfT).Ups.map bC))), (3, (.row 120 6 ((⟨a0, a1, ([] : List Bool), ([] : List InfoT)⟩ : SelfT).Infos.map InfoT.cells)))] ⟨rfl, rfl, rfl, rfl, trivial⟩ ⟨⟨rfl, rfl, blT⟩, ⟨⟨(congrArg (fun q => some (Blk.row 82 4 q)) (by first | (simp only [se_map, se_byL, se_len, se_ch, List.length_map]; done) | (simp only [se_map, se_byL, se_len, se_ch, List.length_map, SelfT.cells]; done) : ([[(I a0), (LV.ro 1 (a1.map iC)), (LV.sl 2 0 0), (LV.sl 3 0 0)]] : List (List LV)) = [[(I (⟨a0, a1, ([] : List Bool), ([] : List InfoT)⟩ : SelfT).ID), (LV.ro 1 ((⟨a0, a1, ([] : List Bool), ([] : List InfoT)⟩ : SelfT).Costs.map iC)), (LV.sl 2 0 ((⟨a0, a1, ([] : List Bool), ([] : List InfoT)⟩ : SelfT).Ups.map bC).length), (LV.sl 3 0 ((⟨a0, a1, ([] : List Bool), ([] : List InfoT)⟩ : SelfT).Infos.map InfoT.cells).length)]])), rfl, blT⟩, ⟨⟨(congrArg (fun q => some (Blk.row 4 1 q)) (by first | (simp only [se_map, se_byL, se_len, se_ch, List.length_map]; done) | (simp only [se_map, se_byL, se_len, se_ch, List.length_map, SelfT.cells]; done) : ([] : List (List LV)) = ((⟨a0, a1, ([] : List Bool), ([] : List InfoT)⟩ : SelfT).Ups.map bC))), rfl, NLss_bel (NLss_map' _)⟩, ⟨⟨(congrArg (fun q => some (Blk.row 120 6 q)) (by first | (simp only [se_map, se_byL, se_len, se_ch, List.length_map]; done) | (simp only [se_map, se_byL, se_len, se_ch, List.length_map, SelfT.cells]; done) : ([] : List (List LV)) = ((⟨a0, a1, ([] : List Bool), ([] : List InfoT)⟩ : SelfT).Infos.map InfoT.cells))), rfl, NLss_bel (NLss_map' _)⟩, trivial⟩⟩⟩⟩ blT rfl ?_
  refine LoopW.forR (fun k18 s18 => [(4, (LV.ptr 0 0 0)), (5, (LV.ptr 1 0 0)), (10, (I (((a1.map iC).length : Nat) : Int))), (11, (I ((k18 : Nat) : Int)))]) (fun s18 => ⟨4, [(0, (.row 82 4 [[(I 0), LV.nils, LV.nils, LV.nils]])), (1, (.row 82 4 [[(I s18.ID), (LV.ro 1 (s18.Costs.map iC)), (LV.sl 2 0 (s18.Ups.map bC).length), (LV.sl 3 0 (s18.Infos.map InfoT.cells).length)]])), (2, (.row 4 1 (s18.Ups.map bC))), (3, (.row 120 6 (s18.Infos.map InfoT.cells)))]⟩) hO18 (fun hl18 s18 hs18 => ?_) (fun hl18 k18 x18 s18 o18 hk18 hx18 b18 K18 hret18 hbrk18 => ?_)
  · rw [hs18] at r18
    dsimp only [aftM] at r18
    have hd : decide (((a1.length : Nat) : Int) < (((a1.map iC).length : Nat) : Int)) = false := by rw [decide_eq_false_iff_not]; (try simp only [se_len, se_ch, List.length_map]); omega
    refine LoopW.round TT_ok [0, 1, 4, 5, 10, 11, 12] ?_
    conv => whnf
    repeat' first | with_reducible rfl | with_reducible exact True.intro | with_reducible assumption | refine parkI ?_ | (refine And.intro ?_ ?_ <;> conv => whnf) | fail
    refine parkE (fun hc => ?_) (fun hc => ?_)
    · exact (Bool.false_ne_true (hd.symm.trans hc)).elim
    · clear hd
      conv => whnf
      have e := Option.some.inj r18
      subst e
      repeat' first | with_reducible rfl | with_reducible exact True.intro | with_reducible assumption | exact clA _ | (refine And.intro ?_ ?_ <;> conv => whnf) | exact clG _ | (refine gand ?_ h; assumption) | exact clN _ | fail
  · unfold ref12_blank_b18 at b18
    have hd : decide (((k18 : Nat) : Int) < (((a1.map iC).length : Nat) : Int)) = true := by rw [decide_eq_true_eq]; (try simp only [se_len, se_ch, List.length_map] at hk18); (try simp only [se_len, se_ch, List.length_map]); omega
    refine LoopW.round TT_ok [0, 1, 4, 5, 10, 11, 12] ?_
    conv => whnf
    repeat' first | with_reducible rfl | with_reducible exact True.intro | with_reducible assumption | refine parkI ?_ | (refine And.intro ?_ ?_ <;> conv => whnf) | fail
    refine parkE (fun hc => ?_) (fun hc => ?_)
    · clear hd
      conv => whnf
      replace b18 := grdS b18
      obtain ⟨g64, b18⟩ := b18
      replace g64 : fits (((s18.Ups.map bC) ++ [[(LV.bool true)]])).length 1 := by simpa only [se_len, se_ch, List.length_map] using g64
      replace b18 := grdS b18
      obtain ⟨g65, b18⟩ := b18
      replace g65 : fits (((s18.Infos.map InfoT.cells) ++ [[(LV.bool false), (I 0), (I 0), (I 0), (I 0), (I 0)]])).length 48 := by simpa only [se_len, se_ch, List.length_map] using g65
      repeat' first | with_reducible rfl | with_reducible exact True.intro | with_reducible assumption | refine parkI ?_ | exact g64 | exact g65 | exact clA _ | (refine And.intro ?_ ?_ <;> conv => whnf) | exact clN _ | fail
      have e := Option.some.inj b18
      refine LoopW.ren [(0, 0), (1, 1), (5, 2), (7, 3)] [(4, (LV.ptr 0 0 0)), (5, (LV.ptr 1 0 0)), (10, (I (((a1.map iC).length : Nat) : Int))), (11, (I ((k18 + 1 : Nat) : Int)))] 4 [(0, (.row 82 4 [[(I 0), LV.nils, LV.nils, LV.nils]])), (1, (.row 82 4 [[(I (⟨s18.ID, s18.Costs, (s18.Ups ++ ([true] : (List Bool))), (s18.Infos ++ ([(⟨false, (⟨0, 0, 0, 0⟩ : VecT), 0⟩ : InfoT)] : (List InfoT)))⟩ : SelfT).ID), (LV.ro 1 ((⟨s18.ID, s18.Costs, (s18.Ups ++ ([true] : (List Bool))), (s18.Infos ++ ([(⟨false, (⟨0, 0, 0, 0⟩ : VecT), 0⟩ : InfoT)] : (List InfoT)))⟩ : SelfT).Costs.map iC)), (LV.sl 2 0 ((⟨s18.ID, s18.Costs, (s18.Ups ++ ([true] : (List Bool))), (s18.Infos ++ ([(⟨false, (⟨0, 0, 0, 0⟩ : VecT), 0⟩ : InfoT)] : (List InfoT)))⟩ : SelfT).Ups.map bC).length), (LV.sl 3 0 ((⟨s18.ID, s18.Costs, (s18.Ups ++ ([true] : (List Bool))), (s18.Infos ++ ([(⟨false, (⟨0, 0, 0, 0⟩ : VecT), 0⟩ : InfoT)] : (List InfoT)))⟩ : SelfT).Infos.map InfoT.cells).length)]])), (2, (.row 4 1 ((⟨s18.ID, s18.Costs, (s18.Ups ++ ([true] : (List Bool))), (s18.Infos ++ ([(⟨false, (⟨0, 0, 0, 0⟩ : VecT), 0⟩ : InfoT)] : (List InfoT)))⟩ : SelfT).Ups.map bC))), (3, (.row 120 6 ((⟨s18.ID, s18.Costs, (s18.Ups ++ ([true] : (List Bool))), (s18.Infos ++ ([(⟨false, (⟨0, 0, 0, 0⟩ : VecT), 0⟩ : InfoT)] : (List InfoT)))⟩ : SelfT).Infos.map InfoT.cells)))] rfl ⟨rfl, rfl, rfl, (congrArg (LV.int .i64) (w64_nat _ (by omega))), trivial⟩ ⟨⟨rfl, rfl, .inl ⟨rfl, nlT⟩⟩, rfl, rfl, ⟨⟨rfl, rfl, .inr (by first | exact rfl | (show ([[(I s18.ID), (LV.ro 1 (s18.Costs.map iC)), (LV.sl 2 0 (((s18.Ups.map bC) ++ [[(LV.bool true)]])).length), (LV.sl 3 0 (((s18.Infos.map InfoT.cells) ++ [[(LV.bool false), (I 0), (I 0), (I 0), (I 0), (I 0)]])).length)]] : List (List LV)) = [[(I (⟨s18.ID, s18.Costs, (s18.Ups ++ ([true] : (List Bool))), (s18.Infos ++ ([(⟨false, (⟨0, 0, 0, 0⟩ : VecT), 0⟩ : InfoT)] : (List InfoT)))⟩ : SelfT).ID), (LV.ro 1 ((⟨s18.ID, s18.Costs, (s18.Ups ++ ([true] : (List Bool))), (s18.Infos ++ ([(⟨false, (⟨0, 0, 0, 0⟩ : VecT), 0⟩ : InfoT)] : (List InfoT)))⟩ : SelfT).Costs.map iC)), (LV.sl 2 0 ((⟨s18.ID, s18.Costs, (s18.Ups ++ ([true] : (List Bool))), (s18.Infos ++ ([(⟨false, (⟨0, 0, 0, 0⟩ : VecT), 0⟩ : InfoT)] : (List InfoT)))⟩ : SelfT).Ups.map bC).length), (LV.sl 3 0 ((⟨s18.ID, s18.Costs, (s18.Ups ++ ([true] : (List Bool))), (s18.Infos ++ ([(⟨false, (⟨0, 0, 0, 0⟩ : VecT), 0⟩ : InfoT)] : (List InfoT)))⟩ : SelfT).Infos.map InfoT.cells).length)]]; simp only [se_map, se_byL, se_len, se_ch, List.length_map]))⟩, rfl, rfl, ⟨⟨rfl, rfl, .inl ⟨(by first | (simp only [se_map, se_byL, se_len, se_ch, List.length_map]; done) | (simp only [se_map, se_byL, se_len, se_ch, List.length_map, InfoT.cells, SelfT.cells, VecT.cells]; done) : (((s18.Ups.map bC) ++ [[(LV.bool true)]]) : List (List LV)) = ((⟨s18.ID, s18.Costs, (s18.Ups ++ ([true] : (List Bool))), (s18.Infos ++ ([(⟨false, (⟨0, 0, 0, 0⟩ : VecT), 0⟩ : InfoT)] : (List InfoT)))⟩ : SelfT).Ups.map bC)), nlT⟩⟩, rfl, rfl, ⟨⟨rfl, rfl, .inl ⟨(by first | (simp only [se_map, se_byL, se_len, se_ch, List.length_map]; done) | (simp only [se_map, se_byL, se_len, se_ch, List.length_map, InfoT.cells, SelfT.cells, VecT.cells]; done) : (((s18.Infos.map InfoT.cells) ++ [[(LV.bool false), (I 0), (I 0), (I 0), (I 0), (I 0)]]) : List (List LV)) = ((⟨s18.ID, s18.Costs, (s18.Ups ++ ([true] : (List Bool))), (s18.Infos ++ ([(⟨false, (⟨0, 0, 0, 0⟩ : VecT), 0⟩ : InfoT)] : (List InfoT)))⟩ : SelfT).Infos.map InfoT.cells)), nlT⟩⟩, rfl, rfl, trivial⟩⟩⟩⟩ rfl (K18 _ e.symm)
    · exact (Bool.false_ne_true (hc.symm.trans hd)).elim

def ref10_Role (a0 : PortStateT) (a1 : Int) (a2 : Bool) : Option PortStateT :=
  (bif (!a2) then
    some (⟨0, 0⟩ : PortStateT)
  else
    (bif (decide (a0.State = 0)) then
      some (⟨1, a1⟩ : PortStateT)
    else
      some a0))

theorem c_ref10_Role (a0 : PortStateT) (a1 : Int) (a2 : Bool) (r : PortStateT) (h : ref10_Role a0 a1 a2 = some r) : CallP Try.prog 261 [(LV.agg [(I a0.State), (I a0.Left)]), (I a1), (LV.bool a2)] (LV.agg [(I r.State), (I r.Left)]) := by
  unfold ref10_Role at h
  refine .intro nlA (.intro TT_ok Try.func261 rfl rfl [0, 1, 2, 3, 6, 8, 12] rfl ?_)
  conv => whnf
  repeat' first | with_reducible rfl | with_reducible exact True.intro | with_reducible assumption | refine parkI ?_ | (refine And.intro ?_ ?_ <;> conv => whnf) | fail
  refine parkE (fun hc => ?_) (fun hc => ?_)
  · replace h := condT hc h
    conv => whnf
    have e := Option.some.inj h
    subst e
    repeat' first | with_reducible rfl | with_reducible exact True.intro | with_reducible assumption | exact clA _ | (refine And.intro ?_ ?_ <;> conv => whnf) | exact clG _ | (refine gand ?_ h; assumption) | exact clN _ | fail
  · replace h := condF hc h
    conv => whnf
    repeat' first | with_reducible rfl | with_reducible exact True.intro | with_reducible assumption | refine parkI ?_ | (refine And.intro ?_ ?_ <;> conv => whnf) | fail
    refine parkE (fun hc => ?_) (fun hc => ?_)
    · replace h := condT hc h
      conv => whnf
      have e := Option.some.inj h
      subst e
      repeat' first | with_reducible rfl | with_reducible exact True.intro | with_reducible assumption | exact clA _ | (refine And.intro ?_ ?_ <;> conv => whnf) | exact clG _ | (refine gand ?_ h; assumption) | exact clN _ | fail
    · replace h := condF hc h
      conv => whnf
      have e := Option.some.inj h
      subst e
      repeat' first | with_reducible rfl | with_reducible exact True.intro | with_reducible assumption | exact clA _ | (refine And.intro ?_ ?_ <;> conv => whnf) | exact clG _ | (refine gand ?_ h; assumption) | exact clN _ | fail

def ref12_settle_b20 (a0 : StpT) (k20 : Nat) (x20 : PortStateT) (s20 : (List PortStateT)) : Option (Step StpT (List PortStateT)) :=
  (ref11_Role a0.Self ((k20 : Nat) : Int)).bind fun y71 =>
  (ref12_active y71).bind fun y73 =>
  (ref10_Role x20 a0.Delay y73).bind fun y75 =>
  grd (fits ((s20 ++ ([y75] : (List PortStateT))) : List PortStateT).length 16) <|
  some (.nxt (s20 ++ ([y75] : (List PortStateT))))

def ref12_settle (a0 : StpT) : Option StpT :=
  aft (rangeL (ref12_settle_b20 a0) a0.States ([] : (List PortStateT))) fun s20 =>
  some (⟨a0.Self, s20, a0.Max, a0.Delay⟩ : StpT)

theorem c_ref12_settle (a0 : StpT) (r : StpT) (h : ref12_settle a0 = some r) : CallP Try.prog 178 [(LV.agg [(I a0.Self.ID), (LV.ro 1 (a0.Self.Costs.map iC)), (LV.ro 1 (a0.Self.Ups.map bC)), (LV.ro 6 (a0.Self.Infos.map InfoT.cells)), (LV.ro 2 (a0.States.map PortStateT.cells)), (I a0.Max), (I a0.Delay)])] (LV.agg [(I r.Self.ID), (LV.ro 1 (r.Self.Costs.map iC)), (LV.ro 1 (r.Self.Ups.map bC)), (LV.ro 6 (r.Self.Infos.map InfoT.cells)), (LV.ro 2 (r.States.map PortStateT.cells)), (I r.Max), (I r.Delay)]) := by
  unfold ref12_settle at h
  refine .intro nlA (.intro TT_ok Try.func178 rfl rfl [0, 1, 2, 3, 4, 5, 8, 9, 10, 11] rfl ?_)
  conv => whnf
  repeat' first | with_reducible rfl | with_reducible exact True.intro | with_reducible assumption | refine parkI ?_ | (refine W.drawnM (id := 5) 0 TT_ok hmix1 [0, 0, 0, 0, 0, 0, 0, 0, 0, 0, 0, 1, 2] [1, 0, 0, 0, 0, 0, 0, 0, 0, 0, 1, 2, 2] rfl ?_; conv => whnf) | exact clA _ | (refine And.intro ?_ ?_ <;> conv => whnf) | exact clG _ | (refine gand ?_ h; assumption) | exact clN _ | fail
  replace h := aftS h
  obtain ⟨O20, hO20, r20⟩ := h
  refine LoopW.norm [(1, (LV.ptr 0 0 0)), (2, (LV.ptr 1 0 0)), (3, (LV.sl 2 0 (([] : (List PortStateT)).map PortStateT.cells).length)), (8, (LV.ro 2 (a0.States.map PortStateT.cells))), (9, (I (((a0.States.map PortStateT.cells).length : Nat) : Int))), (10, (I ((0 : Nat) : Int)))] 3 [(0, (.row 85 7 [[(I a0.Self.ID), (LV.ro 1 (a0.Self.Costs.map iC)), (LV.ro 1 (a0.Self.Ups.map bC)), (LV.ro 6 (a0.Self.Infos.map InfoT.cells)), (LV.ro 2 (a0.States.map PortStateT.cells)), (I a0.Max), (I a0.Delay)]])), (1, (.row 85 7 [[(I 0), LV.nils, LV.nils, LV.nils, LV.nils, (I 0), (I 0)]])), (2, (.row 224 2 (([] : (List PortStateT)).map PortStateT.cells)))] ⟨rfl, rfl, (by exact congrArg (LV.sl 2 0) (clL _ : 0 = (([] : (List PortStateT)).map PortStateT.cells).length)), rfl, rfl, rfl, trivial⟩ ⟨⟨rfl, rfl, blT⟩, ⟨⟨rfl, rfl, blT⟩, ⟨⟨(congrArg (fun q => some (Blk.row 224 2 q)) (smT : (([] : List (List LV)) : List (List LV)) = (([] : (List PortStateT)).map PortStateT.cells))), rfl, NLss_bel (NLss_map' _)⟩, trivial⟩⟩⟩ blT rfl ?_
  refine LoopW.forR (fun k20 s20 => [(1, (LV.ptr 0 0 0)), (2, (LV.ptr 1 0 0)), (3, (LV.sl 2 0 (s20.map PortStateT.cells).length)), (8, (LV.ro 2 (a0.States.map PortStateT.cells))), (9, (I (((a0.States.map PortStateT.cells).length : Nat) : Int))), (10, (I ((k20 : Nat) : Int)))]) (fun s20 => ⟨3, [(0, (.row 85 7 [[(I a0.Self.ID), (LV.ro 1 (a0.Self.Costs.map iC)), (LV.ro 1 (a0.Self.Ups.map bC)), (LV.ro 6 (a0.Self.Infos.map InfoT.cells)), (LV.ro 2 (a0.States.map PortStateT.cells)), (I a0.Max), (I a0.Delay)]])), (1, (.row 85 7 [[(I 0), LV.nils, LV.nils, LV.nils, LV.nils, (I 0), (I 0)]])), (2, (.row 224 2 (s20.map PortStateT.cells)))]⟩) hO20 (fun hl20 s20 hs20 => ?_) (fun hl20 k20 x20 s20 o20 hk20 hx20 b20 K20 hret20 hbrk20 => ?_)
  · rw [hs20] at r20
    dsimp only [aftM] at r20
    have hd : decide (((a0.States.length : Nat) : Int) < (((a0.States.map PortStateT.cells).length : Nat) : Int)) = false := by rw [decide_eq_false_iff_not]; (try simp only [se_len, se_ch, List.length_map]); omega
    refine LoopW.round TT_ok [0, 1, 2, 3, 4, 5, 8, 9, 10, 11] ?_
    conv => whnf
    repeat' first | with_reducible rfl | with_reducible exact True.intro | with_reducible assumption | refine parkI ?_ | (refine W.drawnM (id := 5) 0 TT_ok hmix1 [0, 0, 0, 0, 0, 0, 0, 0, 0, 0, 0, 1, 2] [1, 0, 0, 0, 0, 0, 0, 0, 0, 0, 1, 2, 2] rfl ?_; conv => whnf) | exact clA _ | (refine And.intro ?_ ?_ <;> conv => whnf) | exact clG _ | (refine gand ?_ h; assumption) | exact clN _ | fail
    refine parkE (fun hc => ?_) (fun hc => ?_)
    · exact (Bool.false_ne_true (hd.symm.trans hc)).elim
    · clear hd
      conv => whnf
      have e := Option.some.inj r20
      subst e
      repeat' first | with_reducible rfl | with_reducible exact True.intro | with_reducible assumption | (refine W.drawnM (id := 5) 0 TT_ok hmix1 [0, 0, 0, 0, 0, 0, 0, 0, 0, 0, 0, 1, 2] [1, 0, 0, 0, 0, 0, 0, 0, 0, 0, 1, 2, 2] rfl ?_; conv => whnf) | exact clA _ | (refine And.intro ?_ ?_ <;> conv => whnf) | exact clG _ | (refine gand ?_ h; assumption) | exact clN _ | fail
  · unfold ref12_settle_b20 at b20
    have hd : decide (((k20 : Nat) : Int) < (((a0.States.map PortStateT.cells).length : Nat) : Int)) = true := by rw [decide_eq_true_eq]; (try simp only [se_len, se_ch, List.length_map] at hk20); (try simp only [se_len, se_ch, List.length_map]); omega
    refine LoopW.round TT_ok [0, 1, 2, 3, 4, 5, 8, 9, 10, 11] ?_
    conv => whnf
    repeat' first | with_reducible rfl | with_reducible exact True.intro | with_reducible assumption | refine parkI ?_ | (refine W.drawnM (id := 5) 0 TT_ok hmix1 [0, 0, 0, 0, 0, 0, 0, 0, 0, 0, 0, 1, 2] [1, 0, 0, 0, 0, 0, 0, 0, 0, 0, 1, 2, 2] rfl ?_; conv => whnf) | exact clA _ | (refine And.intro ?_ ?_ <;> conv => whnf) | exact clG _ | (refine gand ?_ h; assumption) | exact clN _ | fail
    refine parkE (fun hc => ?_) (fun hc => ?_)
    · clear hd
      conv => whnf
      replace b20 := bindS b20
      obtain ⟨y71, hy71, b20⟩ := b20
      have c72 := c_ref11_Role a0.Self ((k20 : Nat) : Int) _ hy71
      replace b20 := bindS b20
      obtain ⟨y73, hy73, b20⟩ := b20
      have c74 := c_ref12_active y71 _ hy73
      replace b20 := bindS b20
      obtain ⟨y75, hy75, b20⟩ := b20
      have c76 := c_ref10_Role x20 a0.Delay y73 _ hy75
      replace b20 := grdS b20
      obtain ⟨g77, b20⟩ := b20
      replace g77 : fits (((s20.map PortStateT.cells) ++ [[(I y75.State), (I y75.Left)]])).length 16 := by simpa only [se_len, se_ch, List.length_map] using g77
      repeat' first | with_reducible rfl | with_reducible exact True.intro | with_reducible assumption | refine parkI ?_ | (refine ⟨_, (kixF (f := PortStateT.cells) hx20), ?_⟩; conv => whnf) | exact g77 | (refine CallP.use c72 ?_; conv => whnf) | (refine ⟨_, _, CallP.at c72, ?_⟩; conv => whnf) | (refine ⟨_, fun _ => c72, ?_⟩; conv => whnf) | (refine CallP.use c74 ?_; conv => whnf) | (refine ⟨_, _, CallP.at c74, ?_⟩; conv => whnf) | (refine ⟨_, fun _ => c74, ?_⟩; conv => whnf) | (refine CallP.use c76 ?_; conv => whnf) | (refine ⟨_, _, CallP.at c76, ?_⟩; conv => whnf) | (refine ⟨_, fun _ => c76, ?_⟩; conv => whnf) | (refine W.drawnM (id := 5) 0 TT_ok hmix1 [0, 0, 0, 0, 0, 0, 0, 0, 0, 0, 0, 1, 2] [1, 0, 0, 0, 0, 0, 0, 0, 0, 0, 1, 2, 2] rfl ?_; conv => whnf) | exact clA _ | (refine And.intro ?_ ?_ <;> conv => whnf) | exact clG _ | (refine gand ?_ h; assumption) | exact clN _ | fail
      have e := Option.some.inj b20
      refine LoopW.ren [(0, 0), (1, 1), (5, 2)] [(1, (LV.ptr 0 0 0)), (2, (LV.ptr 1 0 0)), (3, (LV.sl 2 0 ((s20 ++ ([y75] : (List PortStateT))).map PortStateT.cells).length)), (8, (LV.ro 2 (a0.States.map PortStateT.cells))), (9, (I (((a0.States.map PortStateT.cells).length : Nat) : Int))), (10, (I ((k20 + 1 : Nat) : Int)))] 3 [(0, (.row 85 7 [[(I a0.Self.ID), (LV.ro 1 (a0.Self.Costs.map iC)), (LV.ro 1 (a0.Self.Ups.map bC)), (LV.ro 6 (a0.Self.Infos.map InfoT.cells)), (LV.ro 2 (a0.States.map PortStateT.cells)), (I a0.Max), (I a0.Delay)]])), (1, (.row 85 7 [[(I 0), LV.nils, LV.nils, LV.nils, LV.nils, (I 0), (I 0)]])), (2, (.row 224 2 ((s20 ++ ([y75] : (List PortStateT))).map PortStateT.cells)))] rfl ⟨rfl, rfl, (by exact congrArg (LV.sl 2 0) (clL _ : (((s20.map PortStateT.cells) ++ [[(I y75.State), (I y75.Left)]])).length = ((s20 ++ ([y75] : (List PortStateT))).map PortStateT.cells).length)), rfl, rfl, (congrArg (LV.int .i64) (w64_nat _ (by omega))), trivial⟩ ⟨⟨rfl, rfl, .inl ⟨rfl, nlT⟩⟩, rfl, rfl, ⟨⟨rfl, rfl, .inl ⟨rfl, nlT⟩⟩, rfl, rfl, ⟨⟨rfl, rfl, .inl ⟨(smT : (((s20.map PortStateT.cells) ++ [[(I y75.State), (I y75.Left)]]) : List (List LV)) = ((s20 ++ ([y75] : (List PortStateT))).map PortStateT.cells)), nlT⟩⟩, rfl, rfl, trivial⟩⟩⟩ rfl (K20 _ e.symm)
    · exact (Bool.false_ne_true (hc.symm.trans hd)).elim

def ref12_New_b19  (k19 : Nat) (x19 : Int) (s19 : StpT) : Option (Step (StpT × Bool) StpT) :=
  grd (fits ((s19.States ++ ([(⟨0, 0⟩ : PortStateT)] : (List PortStateT))) : List PortStateT).length 16) <|
  some (.nxt (⟨s19.Self, (s19.States ++ ([(⟨0, 0⟩ : PortStateT)] : (List PortStateT))), s19.Max, s19.Delay⟩ : StpT))

def ref12_New (a0 : Int) (a1 : (List Int)) (a2 : Int) (a3 : Int) : Option (StpT × Bool) :=
  (ref12_blank a0 a1).bind fun y66 =>
  (ref11_Right y66).bind fun y68 =>
  (bif (bif (bif (bif (bif (!y68) then true else (decide (a2 < 1))) then true else (decide (255 < a2))) then true else (decide (a3 < 1))) then true else (decide (30 < a3))) then
    some ((⟨(⟨0, [], [], []⟩ : SelfT), [], 0, 0⟩ : StpT), false)
  else
    aft (rangeL (ref12_New_b19 ) a1 (⟨y66, ([] : List PortStateT), a2, a3⟩ : StpT)) fun s19 =>
    (ref12_settle s19).bind fun y78 =>
    some (y78, true))

theorem c_ref12_New (a0 : Int) (a1 : (List Int)) (a2 : Int) (a3 : Int) (r : (StpT × Bool)) (h : ref12_New a0 a1 a2 a3 = some r) : CallP Try.prog 59 [(I a0), (LV.ro 1 (a1.map iC)), (I a2), (I a3)] (LV.tup [(LV.agg [(I r.1.Self.ID), (LV.ro 1 (r.1.Self.Costs.map iC)), (LV.ro 1 (r.1.Self.Ups.map bC)), (LV.ro 6 (r.1.Self.Infos.map InfoT.cells)), (LV.ro 2 (r.1.States.map PortStateT.cells)), (I r.1.Max), (I r.1.Delay)]), (LV.bool r.2)]) := by
  unfold ref12_New at h
  refine .intro nlA (.intro TT_ok Try.func59 rfl rfl [0, 1, 2, 3, 8, 9, 10, 36, 39, 40, 41, 3000001] rfl ?_)
  conv => whnf
  replace h := bindS h
  obtain ⟨y66, hy66, h⟩ := h
  have c67 := c_ref12_blank a0 a1 _ hy66
  replace h := bindS h
  obtain ⟨y68, hy68, h⟩ := h
  have c69 := c_ref11_Right y66 _ hy68
  repeat' first | with_reducible rfl | with_reducible exact True.intro | with_reducible assumption | refine parkI ?_ | (refine CallP.use c67 ?_; conv => whnf) | (refine CallP.use c69 ?_; conv => whnf) | exact clA _ | (refine And.intro ?_ ?_ <;> conv => whnf) | exact clG _ | (refine gand ?_ h; assumption) | fail
  refine parkE (fun hc => ?_) (fun hc => ?_)
  · replace h := condT hc h
    conv => whnf
    have e := Option.some.inj h
    subst e
    repeat' first | with_reducible rfl | with_reducible exact True.intro | with_reducible assumption | exact clA _ | (refine And.intro ?_ ?_ <;> conv => whnf) | exact clG _ | (refine gand ?_ h; assumption) | exact clN _ | fail
  · replace h := condF hc h
    conv => whnf
    repeat' first | with_reducible rfl | with_reducible exact True.intro | with_reducible assumption | refine parkI ?_ | (refine And.intro ?_ ?_ <;> conv => whnf) | fail
    replace h := aftS h
    obtain ⟨O19, hO19, r19⟩ := h
    refine LoopW.virtC 1 0 4 224 2 rfl rfl rfl rfl ?_
    refine LoopW.norm [(8, (LV.ptr 0 0 0)), (10, (LV.ptr 1 0 0)), (39, (I (((a1.map iC).length : Nat) : Int))), (40, (I ((0 : Nat) : Int)))] 3 [(0, (.row 85 7 [[(I 0), LV.nils, LV.nils, LV.nils, LV.nils, (I 0), (I 0)]])), (1, (.row 85 7 [[(I (⟨y66, ([] : List PortStateT), a2, a3⟩ : StpT).Self.ID), (LV.ro 1 ((⟨y66, ([] : List PortStateT), a2, a3⟩ : StpT).Self.Costs.map iC)), (LV.ro 1 ((⟨y66, ([] : List PortStateT), a2, a3⟩ : StpT).Self.Ups.map bC)), (LV.ro 6 ((⟨y66, ([] : List PortStateT), a2, a3⟩ : StpT).Self.Infos.map InfoT.cells)), (LV.sl 2 0 ((⟨y66, ([] : List PortStateT), a2, a3⟩ : StpT).States.map PortStateT.cells).length), (I (⟨y66, ([] : List PortStateT), a2, a3⟩ : StpT).Max), (I (⟨y66, ([] : List PortStateT), a2, a3⟩ : StpT).Delay)]])), (2, (.row 224 2 ((⟨y66, ([] : List PortStateT), a2, a3⟩ : StpT).States.map PortStateT.cells)))] ⟨rfl, rfl, rfl, rfl, trivial⟩ ⟨⟨rfl, rfl, blT⟩, ⟨⟨(congrArg (fun q => some (Blk.row 85 7 q)) (by first | (simp only [se_map, se_byL, se_len, se_ch, List.length_map]; done) | (simp only [se_map, se_byL, se_len, se_ch, List.length_map, StpT.cells]; done) : ([[(I y66.ID), (LV.ro 1 (y66.Costs.map iC)), (LV.ro 1 (y66.Ups.map bC)), (LV.ro 6 (y66.Infos.map InfoT.cells)), (LV.sl 2 0 0), (I a2), (I a3)]] : List (List LV)) = [[(I (⟨y66, ([] : List PortStateT), a2, a3⟩ : StpT).Self.ID), (LV.ro 1 ((⟨y66, ([] : List PortStateT), a2, a3⟩ : StpT).Self.Costs.map iC)), (LV.ro 1 ((⟨y66, ([] : List PortStateT), a2, a3⟩ : StpT).Self.Ups.map bC)), (LV.ro 6 ((⟨y66, ([] : List PortStateT), a2, a3⟩ : StpT).Self.Infos.map InfoT.cells)), (LV.sl 2 0 ((⟨y66, ([] : List PortStateT), a2, a3⟩ : StpT).States.map PortStateT.cells).length), (I (⟨y66, ([] : List PortStateT), a2, a3⟩ : StpT).Max), (I (⟨y66, ([] : List PortStateT), a2, a3⟩ : StpT).Delay)]])), rfl, blT⟩, ⟨⟨(congrArg (fun q => some (Blk.row 224 2 q)) (by first | (simp only [se_map, se_byL, se_len, se_ch, List.length_map]; done) | (simp only [se_map, se_byL, se_len, se_ch, List.length_map, StpT.cells]; done) : ([] : List (List LV)) = ((⟨y66, ([] : List PortStateT), a2, a3⟩ : StpT).States.map PortStateT.cells))), rfl, NLss_bel (NLss_map' _)⟩, trivial⟩⟩⟩ blT rfl ?_
    refine LoopW.forR (fun k19 s19 => [(8, (LV.ptr 0 0 0)), (10, (LV.ptr 1 0 0)), (39, (I (((a1.map iC).length : Nat) : Int))), (40, (I ((k19 : Nat) : Int)))]) (fun s19 => ⟨3, [(0, (.row 85 7 [[(I 0), LV.nils, LV.nils, LV.nils, LV.nils, (I 0), (I 0)]])), (1, (.row 85 7 [[(I s19.Self.ID), (LV.ro 1 (s19.Self.Costs.map iC)), (LV.ro 1 (s19.Self.Ups.map bC)), (LV.ro 6 (s19.Self.Infos.map InfoT.cells)), (LV.sl 2 0 (s19.States.map PortStateT.cells).length), (I s19.Max), (I s19.Delay)]])), (2, (.row 224 2 (s19.States.map PortStateT.cells)))]⟩) hO19 (fun hl19 s19 hs19 => ?_) (fun hl19 k19 x19 s19 o19 hk19 hx19 b19 K19 hret19 hbrk19 => ?_)
    · rw [hs19] at r19
      dsimp only [aftM] at r19
      have hd : decide (((a1.length : Nat) : Int) < (((a1.map iC).length : Nat) : Int)) = false := by rw [decide_eq_false_iff_not]; (try simp only [se_len, se_ch, List.length_map]); omega
      refine LoopW.round TT_ok [0, 1, 2, 3, 8, 9, 10, 36, 39, 40, 41, 3000001] ?_
      conv => whnf
      repeat' first | with_reducible rfl | with_reducible exact True.intro | with_reducible assumption | refine parkI ?_ | (refine And.intro ?_ ?_ <;> conv => whnf) | fail
      refine parkE (fun hc => ?_) (fun hc => ?_)
      · exact (Bool.false_ne_true (hd.symm.trans hc)).elim
      · clear hd
        conv => whnf
        replace r19 := bindS r19
        obtain ⟨y78, hy78, r19⟩ := r19
        have c79 := c_ref12_settle s19 _ hy78
        have e := Option.some.inj r19
        subst e
        repeat' first | with_reducible rfl | with_reducible exact True.intro | with_reducible assumption | (refine CallP.use c79 ?_; conv => whnf) | exact clA _ | (refine And.intro ?_ ?_ <;> conv => whnf) | exact clG _ | (refine gand ?_ h; assumption) | exact clN _ | fail
    · unfold ref12_New_b19 at b19
      have hd : decide (((k19 : Nat) : Int) < (((a1.map iC).length : Nat) : Int)) = true := by rw [decide_eq_true_eq]; (try simp only [se_len, se_ch, List.length_map] at hk19); (try simp only [se_len, se_ch, List.length_map]); omega
      refine LoopW.round TT_ok [0, 1, 2, 3, 8, 9, 10, 36, 39, 40, 41, 3000001] ?_
      conv => whnf
      repeat' first | with_reducible rfl | with_reducible exact True.intro | with_reducible assumption | refine parkI ?_ | (refine And.intro ?_ ?_ <;> conv => whnf) | fail
      refine parkE (fun hc => ?_) (fun hc => ?_)
      · clear hd
        conv => whnf
        replace b19 := grdS b19
        obtain ⟨g70, b19⟩ := b19
        replace g70 : fits (((s19.States.map PortStateT.cells) ++ [[(I 0), (I 0)]])).length 16 := by simpa only [se_len, se_ch, List.length_map] using g70
        repeat' first | with_reducible rfl | with_reducible exact True.intro | with_reducible assumption | refine parkI ?_ | exact g70 | exact clA _ | (refine And.intro ?_ ?_ <;> conv => whnf) | exact clN _ | fail
        have e := Option.some.inj b19
        refine LoopW.ren [(0, 0), (1, 1), (4, 2)] [(8, (LV.ptr 0 0 0)), (10, (LV.ptr 1 0 0)), (39, (I (((a1.map iC).length : Nat) : Int))), (40, (I ((k19 + 1 : Nat) : Int)))] 3 [(0, (.row 85 7 [[(I 0), LV.nils, LV.nils, LV.nils, LV.nils, (I 0), (I 0)]])), (1, (.row 85 7 [[(I (⟨s19.Self, (s19.States ++ ([(⟨0, 0⟩ : PortStateT)] : (List PortStateT))), s19.Max, s19.Delay⟩ : StpT).Self.ID), (LV.ro 1 ((⟨s19.Self, (s19.States ++ ([(⟨0, 0⟩ : PortStateT)] : (List PortStateT))), s19.Max, s19.Delay⟩ : StpT).Self.Costs.map iC)), (LV.ro 1 ((⟨s19.Self, (s19.States ++ ([(⟨0, 0⟩ : PortStateT)] : (List PortStateT))), s19.Max, s19.Delay⟩ : StpT).Self.Ups.map bC)), (LV.ro 6 ((⟨s19.Self, (s19.States ++ ([(⟨0, 0⟩ : PortStateT)] : (List PortStateT))), s19.Max, s19.Delay⟩ : StpT).Self.Infos.map InfoT.cells)), (LV.sl 2 0 ((⟨s19.Self, (s19.States ++ ([(⟨0, 0⟩ : PortStateT)] : (List PortStateT))), s19.Max, s19.Delay⟩ : StpT).States.map PortStateT.cells).length), (I (⟨s19.Self, (s19.States ++ ([(⟨0, 0⟩ : PortStateT)] : (List PortStateT))), s19.Max, s19.Delay⟩ : StpT).Max), (I (⟨s19.Self, (s19.States ++ ([(⟨0, 0⟩ : PortStateT)] : (List PortStateT))), s19.Max, s19.Delay⟩ : StpT).Delay)]])), (2, (.row 224 2 ((⟨s19.Self, (s19.States ++ ([(⟨0, 0⟩ : PortStateT)] : (List PortStateT))), s19.Max, s19.Delay⟩ : StpT).States.map PortStateT.cells)))] rfl ⟨rfl, rfl, rfl, (congrArg (LV.int .i64) (w64_nat _ (by omega))), trivial⟩ ⟨⟨rfl, rfl, .inl ⟨rfl, nlT⟩⟩, rfl, rfl, ⟨⟨rfl, rfl, .inr (by first | exact rfl | (show ([[(I s19.Self.ID), (LV.ro 1 (s19.Self.Costs.map iC)), (LV.ro 1 (s19.Self.Ups.map bC)), (LV.ro 6 (s19.Self.Infos.map InfoT.cells)), (LV.sl 2 0 (((s19.States.map PortStateT.cells) ++ [[(I 0), (I 0)]])).length), (I s19.Max), (I s19.Delay)]] : List (List LV)) = [[(I (⟨s19.Self, (s19.States ++ ([(⟨0, 0⟩ : PortStateT)] : (List PortStateT))), s19.Max, s19.Delay⟩ : StpT).Self.ID), (LV.ro 1 ((⟨s19.Self, (s19.States ++ ([(⟨0, 0⟩ : PortStateT)] : (List PortStateT))), s19.Max, s19.Delay⟩ : StpT).Self.Costs.map iC)), (LV.ro 1 ((⟨s19.Self, (s19.States ++ ([(⟨0, 0⟩ : PortStateT)] : (List PortStateT))), s19.Max, s19.Delay⟩ : StpT).Self.Ups.map bC)), (LV.ro 6 ((⟨s19.Self, (s19.States ++ ([(⟨0, 0⟩ : PortStateT)] : (List PortStateT))), s19.Max, s19.Delay⟩ : StpT).Self.Infos.map InfoT.cells)), (LV.sl 2 0 ((⟨s19.Self, (s19.States ++ ([(⟨0, 0⟩ : PortStateT)] : (List PortStateT))), s19.Max, s19.Delay⟩ : StpT).States.map PortStateT.cells).length), (I (⟨s19.Self, (s19.States ++ ([(⟨0, 0⟩ : PortStateT)] : (List PortStateT))), s19.Max, s19.Delay⟩ : StpT).Max), (I (⟨s19.Self, (s19.States ++ ([(⟨0, 0⟩ : PortStateT)] : (List PortStateT))), s19.Max, s19.Delay⟩ : StpT).Delay)]]; simp only [se_map, se_byL, se_len, se_ch, List.length_map]))⟩, rfl, rfl, ⟨⟨rfl, rfl, .inl ⟨(by first | (simp only [se_map, se_byL, se_len, se_ch, List.length_map]; done) | (simp only [se_map, se_byL, se_len, se_ch, List.length_map, PortStateT.cells, StpT.cells]; done) : (((s19.States.map PortStateT.cells) ++ [[(I 0), (I 0)]]) : List (List LV)) = ((⟨s19.Self, (s19.States ++ ([(⟨0, 0⟩ : PortStateT)] : (List PortStateT))), s19.Max, s19.Delay⟩ : StpT).States.map PortStateT.cells)), nlT⟩⟩, rfl, rfl, trivial⟩⟩⟩ rfl (K19 _ e.symm)
      · exact (Bool.false_ne_true (hc.symm.trans hd)).elim

def ref11_Same_b21 (a1 : SelfT) (k21 : Nat) (x21 : Int) (s21 : Unit) : Option (Step Bool Unit) :=
  (gix a1.Costs ((k21 : Nat) : Int)).bind fun v82 =>
  (bif (!decide (x21 = v82)) then
    some (.ret false)
  else
    some (.nxt ()))

def ref11_Same_b22 (a1 : SelfT) (k22 : Nat) (x22 : Bool) (s22 : Unit) : Option (Step Bool Unit) :=
  (gix a1.Ups ((k22 : Nat) : Int)).bind fun v84 =>
  (bif (!(x22 == v84)) then
    some (.ret false)
  else
    some (.nxt ()))

def ref11_Same_b23 (a1 : SelfT) (k23 : Nat) (x23 : InfoT) (s23 : Unit) : Option (Step Bool Unit) :=
  (gix a1.Infos ((k23 : Nat) : Int)).bind fun v86 =>
  (bif (!((x23.Has == v86.Has) && (((decide (x23.Vec.Root = v86.Vec.Root)) && ((decide (x23.Vec.Cost = v86.Vec.Cost)) && ((decide (x23.Vec.Bridge = v86.Vec.Bridge)) && ((decide (x23.Vec.Port = v86.Vec.Port)) && true)))) && ((decide (x23.Age = v86.Age)) && true)))) then
    some (.ret false)
  else
    some (.nxt ()))

def ref11_Same (a0 : SelfT) (a1 : SelfT) : Option Bool :=
  (bif (bif (bif (bif (!decide (a0.ID = a1.ID)) then true else (!decide (((a0.Costs.length : Nat) : Int) = ((a1.Costs.length : Nat) : Int)))) then true else (!decide (((a0.Ups.length : Nat) : Int) = ((a1.Ups.length : Nat) : Int)))) then true else (!decide (((a0.Infos.length : Nat) : Int) = ((a1.Infos.length : Nat) : Int)))) then
    some false
  else
    aft (rangeL (ref11_Same_b21 a1) a0.Costs ()) fun s21 =>
    aft (rangeL (ref11_Same_b22 a1) a0.Ups ()) fun s22 =>
    aft (rangeL (ref11_Same_b23 a1) a0.Infos ()) fun s23 =>
    some true)

theorem c_ref11_Same (a0 : SelfT) (a1 : SelfT) (r : Bool) (h : ref11_Same a0 a1 = some r) : CallP Try.prog 179 [(LV.agg [(I a0.ID), (LV.ro 1 (a0.Costs.map iC)), (LV.ro 1 (a0.Ups.map bC)), (LV.ro 6 (a0.Infos.map InfoT.cells))]), (LV.agg [(I a1.ID), (LV.ro 1 (a1.Costs.map iC)), (LV.ro 1 (a1.Ups.map bC)), (LV.ro 6 (a1.Infos.map InfoT.cells))])] (LV.bool r) := by
  unfold ref11_Same at h
  refine .intro nlA (.intro TT_ok Try.func179 rfl rfl [0, 1, 2, 3, 4, 5, 6, 7, 39, 42, 43, 44, 56, 60, 61, 62, 74, 78, 79, 80, 92] rfl ?_)
  conv => whnf
  repeat' first | with_reducible rfl | with_reducible exact True.intro | with_reducible assumption | refine parkI ?_ | (refine W.drawn TT_ok hmix1 rfl ?_; conv => whnf) | exact clA _ | (refine And.intro ?_ ?_ <;> conv => whnf) | exact clG _ | (refine gand ?_ h; assumption) | exact clN _ | fail
  refine parkE (fun hc => ?_) (fun hc => ?_)
  · replace h := condT (by first | exact hc | simpa only [se_len, se_ch, List.length_map] using hc) h
    conv => whnf
    have e := Option.some.inj h
    subst e
    repeat' first | with_reducible rfl | with_reducible exact True.intro | with_reducible assumption | (refine W.drawn TT_ok hmix1 rfl ?_; conv => whnf) | exact clA _ | (refine And.intro ?_ ?_ <;> conv => whnf) | exact clG _ | (refine gand ?_ h; assumption) | exact clN _ | fail
  · replace h := condF (by first | exact hc | simpa only [se_len, se_ch, List.length_map] using hc) h
    conv => whnf
    repeat' first | with_reducible rfl | with_reducible exact True.intro | with_reducible assumption | refine parkI ?_ | (refine W.drawn TT_ok hmix1 rfl ?_; conv => whnf) | exact clA _ | (refine And.intro ?_ ?_ <;> conv => whnf) | exact clG _ | (refine gand ?_ h; assumption) | exact clN _ | fail
    replace h := aftS h
    obtain ⟨O21, hO21, r21⟩ := h
    refine LoopW.norm [(2, (LV.ptr 0 0 0)), (3, (LV.ptr 1 0 0)), (42, (I (((a0.Costs.map iC).length : Nat) : Int))), (43, (I ((0 : Nat) : Int)))] 2 [(0, (.row 82 4 [[(I a0.ID), (LV.ro 1 (a0.Costs.map iC)), (LV.ro 1 (a0.Ups.map bC)), (LV.ro 6 (a0.Infos.map InfoT.cells))]])), (1, (.row 82 4 [[(I a1.ID), (LV.ro 1 (a1.Costs.map iC)), (LV.ro 1 (a1.Ups.map bC)), (LV.ro 6 (a1.Infos.map InfoT.cells))]]))] ⟨rfl, rfl, rfl, rfl, trivial⟩ ⟨⟨rfl, rfl, blT⟩, ⟨⟨rfl, rfl, blT⟩, trivial⟩⟩ blT rfl ?_
    refine LoopW.forR (fun k21 s21 => [(2, (LV.ptr 0 0 0)), (3, (LV.ptr 1 0 0)), (42, (I (((a0.Costs.map iC).length : Nat) : Int))), (43, (I ((k21 : Nat) : Int)))]) (fun s21 => ⟨2, [(0, (.row 82 4 [[(I a0.ID), (LV.ro 1 (a0.Costs.map iC)), (LV.ro 1 (a0.Ups.map bC)), (LV.ro 6 (a0.Infos.map InfoT.cells))]])), (1, (.row 82 4 [[(I a1.ID), (LV.ro 1 (a1.Costs.map iC)), (LV.ro 1 (a1.Ups.map bC)), (LV.ro 6 (a1.Infos.map InfoT.cells))]]))]⟩) hO21 (fun hl21 s21 hs21 => ?_) (fun hl21 k21 x21 s21 o21 hk21 hx21 b21 K21 hret21 hbrk21 => ?_)
    · rw [hs21] at r21
      dsimp only [aftM] at r21
      have hd : decide (((a0.Costs.length : Nat) : Int) < (((a0.Costs.map iC).length : Nat) : Int)) = false := by rw [decide_eq_false_iff_not]; (try simp only [se_len, se_ch, List.length_map]); omega
      refine LoopW.round TT_ok [0, 1, 2, 3, 4, 5, 6, 7, 39, 42, 43, 44, 56, 60, 61, 62, 74, 78, 79, 80, 92] ?_
      conv => whnf
      repeat' first | with_reducible rfl | with_reducible exact True.intro | with_reducible assumption | refine parkI ?_ | (refine W.drawn TT_ok hmix1 rfl ?_; conv => whnf) | exact clA _ | (refine And.intro ?_ ?_ <;> conv => whnf) | exact clG _ | (refine gand ?_ h; assumption) | exact clN _ | fail
      refine parkE (fun hc => ?_) (fun hc => ?_)
      · exact (Bool.false_ne_true (hd.symm.trans hc)).elim
      · clear hd
        conv => whnf
        repeat' first | with_reducible rfl | with_reducible exact True.intro | with_reducible assumption | refine parkI ?_ | (refine W.drawn TT_ok hmix1 rfl ?_; conv => whnf) | exact clA _ | (refine And.intro ?_ ?_ <;> conv => whnf) | exact clG _ | (refine gand ?_ h; assumption) | exact clN _ | fail
        replace r21 := aftS r21
        obtain ⟨O22, hO22, r22⟩ := r21
        refine LoopW.norm [(2, (LV.ptr 0 0 0)), (3, (LV.ptr 1 0 0)), (60, (I (((a0.Ups.map bC).length : Nat) : Int))), (61, (I ((0 : Nat) : Int)))] 2 [(0, (.row 82 4 [[(I a0.ID), (LV.ro 1 (a0.Costs.map iC)), (LV.ro 1 (a0.Ups.map bC)), (LV.ro 6 (a0.Infos.map InfoT.cells))]])), (1, (.row 82 4 [[(I a1.ID), (LV.ro 1 (a1.Costs.map iC)), (LV.ro 1 (a1.Ups.map bC)), (LV.ro 6 (a1.Infos.map InfoT.cells))]]))] ⟨rfl, rfl, rfl, rfl, trivial⟩ ⟨⟨rfl, rfl, blT⟩, ⟨⟨rfl, rfl, blT⟩, trivial⟩⟩ blT rfl ?_
        refine LoopW.forR (fun k22 s22 => [(2, (LV.ptr 0 0 0)), (3, (LV.ptr 1 0 0)), (60, (I (((a0.Ups.map bC).length : Nat) : Int))), (61, (I ((k22 : Nat) : Int)))]) (fun s22 => ⟨2, [(0, (.row 82 4 [[(I a0.ID), (LV.ro 1 (a0.Costs.map iC)), (LV.ro 1 (a0.Ups.map bC)), (LV.ro 6 (a0.Infos.map InfoT.cells))]])), (1, (.row 82 4 [[(I a1.ID), (LV.ro 1 (a1.Costs.map iC)), (LV.ro 1 (a1.Ups.map bC)), (LV.ro 6 (a1.Infos.map InfoT.cells))]]))]⟩) hO22 (fun hl22 s22 hs22 => ?_) (fun hl22 k22 x22 s22 o22 hk22 hx22 b22 K22 hret22 hbrk22 => ?_)
        · rw [hs22] at r22
          dsimp only [aftM] at r22
          have hd : decide (((a0.Ups.length : Nat) : Int) < (((a0.Ups.map bC).length : Nat) : Int)) = false := by rw [decide_eq_false_iff_not]; (try simp only [se_len, se_ch, List.length_map]); omega
          refine LoopW.round TT_ok [0, 1, 2, 3, 4, 5, 6, 7, 39, 42, 43, 44, 56, 60, 61, 62, 74, 78, 79, 80, 92] ?_
          conv => whnf
          repeat' first | with_reducible rfl | with_reducible exact True.intro | with_reducible assumption | refine parkI ?_ | (refine W.drawn TT_ok hmix1 rfl ?_; conv => whnf) | exact clA _ | (refine And.intro ?_ ?_ <;> conv => whnf) | exact clG _ | (refine gand ?_ h; assumption) | exact clN _ | fail
          refine parkE (fun hc => ?_) (fun hc => ?_)
          · exact (Bool.false_ne_true (hd.symm.trans hc)).elim
          · clear hd
            conv => whnf
            repeat' first | with_reducible rfl | with_reducible exact True.intro | with_reducible assumption | refine parkI ?_ | (refine W.drawn TT_ok hmix1 rfl ?_; conv => whnf) | exact clA _ | (refine And.intro ?_ ?_ <;> conv => whnf) | exact clG _ | (refine gand ?_ h; assumption) | exact clN _ | fail
            replace r22 := aftS r22
            obtain ⟨O23, hO23, r23⟩ := r22
            refine LoopW.norm [(2, (LV.ptr 0 0 0)), (3, (LV.ptr 1 0 0)), (78, (I (((a0.Infos.map InfoT.cells).length : Nat) : Int))), (79, (I ((0 : Nat) : Int)))] 2 [(0, (.row 82 4 [[(I a0.ID), (LV.ro 1 (a0.Costs.map iC)), (LV.ro 1 (a0.Ups.map bC)), (LV.ro 6 (a0.Infos.map InfoT.cells))]])), (1, (.row 82 4 [[(I a1.ID), (LV.ro 1 (a1.Costs.map iC)), (LV.ro 1 (a1.Ups.map bC)), (LV.ro 6 (a1.Infos.map InfoT.cells))]]))] ⟨rfl, rfl, rfl, rfl, trivial⟩ ⟨⟨rfl, rfl, blT⟩, ⟨⟨rfl, rfl, blT⟩, trivial⟩⟩ blT rfl ?_
            refine LoopW.forR (fun k23 s23 => [(2, (LV.ptr 0 0 0)), (3, (LV.ptr 1 0 0)), (78, (I (((a0.Infos.map InfoT.cells).length : Nat) : Int))), (79, (I ((k23 : Nat) : Int)))]) (fun s23 => ⟨2, [(0, (.row 82 4 [[(I a0.ID), (LV.ro 1 (a0.Costs.map iC)), (LV.ro 1 (a0.Ups.map bC)), (LV.ro 6 (a0.Infos.map InfoT.cells))]])), (1, (.row 82 4 [[(I a1.ID), (LV.ro 1 (a1.Costs.map iC)), (LV.ro 1 (a1.Ups.map bC)), (LV.ro 6 (a1.Infos.map InfoT.cells))]]))]⟩) hO23 (fun hl23 s23 hs23 => ?_) (fun hl23 k23 x23 s23 o23 hk23 hx23 b23 K23 hret23 hbrk23 => ?_)
            · rw [hs23] at r23
              dsimp only [aftM] at r23
              have hd : decide (((a0.Infos.length : Nat) : Int) < (((a0.Infos.map InfoT.cells).length : Nat) : Int)) = false := by rw [decide_eq_false_iff_not]; (try simp only [se_len, se_ch, List.length_map]); omega
              refine LoopW.round TT_ok [0, 1, 2, 3, 4, 5, 6, 7, 39, 42, 43, 44, 56, 60, 61, 62, 74, 78, 79, 80, 92] ?_
              conv => whnf
              repeat' first | with_reducible rfl | with_reducible exact True.intro | with_reducible assumption | refine parkI ?_ | (refine W.drawn TT_ok hmix1 rfl ?_; conv => whnf) | exact clA _ | (refine And.intro ?_ ?_ <;> conv => whnf) | exact clG _ | (refine gand ?_ h; assumption) | exact clN _ | fail
              refine parkE (fun hc => ?_) (fun hc => ?_)
              · exact (Bool.false_ne_true (hd.symm.trans hc)).elim
              · clear hd
                conv => whnf
                have e := Option.some.inj r23
                subst e
                repeat' first | with_reducible rfl | with_reducible exact True.intro | with_reducible assumption | (refine W.drawn TT_ok hmix1 rfl ?_; conv => whnf) | exact clA _ | (refine And.intro ?_ ?_ <;> conv => whnf) | exact clG _ | (refine gand ?_ h; assumption) | exact clN _ | fail
            · unfold ref11_Same_b23 at b23
              have hd : decide (((k23 : Nat) : Int) < (((a0.Infos.map InfoT.cells).length : Nat) : Int)) = true := by rw [decide_eq_true_eq]; (try simp only [se_len, se_ch, List.length_map] at hk23); (try simp only [se_len, se_ch, List.length_map]); omega
              refine LoopW.round TT_ok [0, 1, 2, 3, 4, 5, 6, 7, 39, 42, 43, 44, 56, 60, 61, 62, 74, 78, 79, 80, 92] ?_
              conv => whnf
              repeat' first | with_reducible rfl | with_reducible exact True.intro | with_reducible assumption | refine parkI ?_ | (refine W.drawn TT_ok hmix1 rfl ?_; conv => whnf) | exact clA _ | (refine And.intro ?_ ?_ <;> conv => whnf) | exact clG _ | (refine gand ?_ h; assumption) | exact clN _ | fail
              refine parkE (fun hc => ?_) (fun hc => ?_)
              · clear hd
                conv => whnf
                replace b23 := bindS b23
                obtain ⟨v86, hv86, b23⟩ := b23
                have i87 := gixF (f := InfoT.cells) hv86
                repeat' first | with_reducible rfl | with_reducible exact True.intro | with_reducible assumption | refine parkI ?_ | (refine ⟨_, (kixF (f := InfoT.cells) hx23), ?_⟩; conv => whnf) | (refine ⟨_, i87, ?_⟩; conv => whnf) | (refine W.drawn TT_ok hmix1 rfl ?_; conv => whnf) | exact clA _ | (refine And.intro ?_ ?_ <;> conv => whnf) | exact clG _ | (refine gand ?_ h; assumption) | exact clN _ | fail
                refine parkE (fun hc => ?_) (fun hc => ?_)
                · replace b23 := condT hc b23
                  conv => whnf
                  have e := Option.some.inj b23
                  replace e := hret23 _ e.symm
                  rw [e] at r23
                  replace e := Option.some.inj r23
                  subst e
                  repeat' first | with_reducible rfl | with_reducible exact True.intro | with_reducible assumption | (refine W.drawn TT_ok hmix1 rfl ?_; conv => whnf) | exact clA _ | (refine And.intro ?_ ?_ <;> conv => whnf) | exact clG _ | (refine gand ?_ h; assumption) | exact clN _ | fail
                · replace b23 := condF hc b23
                  conv => whnf
                  repeat' first | with_reducible rfl | with_reducible exact True.intro | with_reducible assumption | refine parkI ?_ | (refine W.drawn TT_ok hmix1 rfl ?_; conv => whnf) | exact clA _ | (refine And.intro ?_ ?_ <;> conv => whnf) | exact clG _ | (refine gand ?_ h; assumption) | exact clN _ | fail
                  have e := Option.some.inj b23
                  refine LoopW.norm [(2, (LV.ptr 0 0 0)), (3, (LV.ptr 1 0 0)), (78, (I (((a0.Infos.map InfoT.cells).length : Nat) : Int))), (79, (I ((k23 + 1 : Nat) : Int)))] 2 [(0, (.row 82 4 [[(I a0.ID), (LV.ro 1 (a0.Costs.map iC)), (LV.ro 1 (a0.Ups.map bC)), (LV.ro 6 (a0.Infos.map InfoT.cells))]])), (1, (.row 82 4 [[(I a1.ID), (LV.ro 1 (a1.Costs.map iC)), (LV.ro 1 (a1.Ups.map bC)), (LV.ro 6 (a1.Infos.map InfoT.cells))]]))] ⟨rfl, rfl, rfl, (congrArg (LV.int .i64) (w64_nat _ (by omega))), trivial⟩ ⟨⟨rfl, rfl, blT⟩, ⟨⟨rfl, rfl, blT⟩, trivial⟩⟩ blT rfl (K23 _ e.symm)
              · exact (Bool.false_ne_true (hc.symm.trans hd)).elim
        · unfold ref11_Same_b22 at b22
          have hd : decide (((k22 : Nat) : Int) < (((a0.Ups.map bC).length : Nat) : Int)) = true := by rw [decide_eq_true_eq]; (try simp only [se_len, se_ch, List.length_map] at hk22); (try simp only [se_len, se_ch, List.length_map]); omega
          refine LoopW.round TT_ok [0, 1, 2, 3, 4, 5, 6, 7, 39, 42, 43, 44, 56, 60, 61, 62, 74, 78, 79, 80, 92] ?_
          conv => whnf
          repeat' first | with_reducible rfl | with_reducible exact True.intro | with_reducible assumption | refine parkI ?_ | (refine W.drawn TT_ok hmix1 rfl ?_; conv => whnf) | exact clA _ | (refine And.intro ?_ ?_ <;> conv => whnf) | exact clG _ | (refine gand ?_ h; assumption) | exact clN _ | fail
          refine parkE (fun hc => ?_) (fun hc => ?_)
          · clear hd
            conv => whnf
            replace b22 := bindS b22
            obtain ⟨v84, hv84, b22⟩ := b22
            have i85 := gixF (f := bC) hv84
            repeat' first | with_reducible rfl | with_reducible exact True.intro | with_reducible assumption | refine parkI ?_ | (refine ⟨_, (kixF (f := bC) hx22), ?_⟩; conv => whnf) | (refine ⟨_, i85, ?_⟩; conv => whnf) | (refine W.drawn TT_ok hmix1 rfl ?_; conv => whnf) | exact clA _ | (refine And.intro ?_ ?_ <;> conv => whnf) | exact clG _ | (refine gand ?_ h; assumption) | exact clN _ | fail
            refine parkE (fun hc => ?_) (fun hc => ?_)
            · replace b22 := condT hc b22
              conv => whnf
              have e := Option.some.inj b22
              replace e := hret22 _ e.symm
              rw [e] at r22
              replace e := Option.some.inj r22
              subst e
              repeat' first | with_reducible rfl | with_reducible exact True.intro | with_reducible assumption | (refine W.drawn TT_ok hmix1 rfl ?_; conv => whnf) | exact clA _ | (refine And.intro ?_ ?_ <;> conv => whnf) | exact clG _ | (refine gand ?_ h; assumption) | exact clN _ | fail
            · replace b22 := condF hc b22
              conv => whnf
              repeat' first | with_reducible rfl | with_reducible exact True.intro | with_reducible assumption | refine parkI ?_ | (refine W.drawn TT_ok hmix1 rfl ?_; conv => whnf) | exact clA _ | (refine And.intro ?_ ?_ <;> conv => whnf) | exact clG _ | (refine gand ?_ h; assumption) | exact clN _ | fail
              have e := Option.some.inj b22
              refine LoopW.norm [(2, (LV.ptr 0 0 0)), (3, (LV.ptr 1 0 0)), (60, (I (((a0.Ups.map bC).length : Nat) : Int))), (61, (I ((k22 + 1 : Nat) : Int)))] 2 [(0, (.row 82 4 [[(I a0.ID), (LV.ro 1 (a0.Costs.map iC)), (LV.ro 1 (a0.Ups.map bC)), (LV.ro 6 (a0.Infos.map InfoT.cells))]])), (1, (.row 82 4 [[(I a1.ID), (LV.ro 1 (a1.Costs.map iC)), (LV.ro 1 (a1.Ups.map bC)), (LV.ro 6 (a1.Infos.map InfoT.cells))]]))] ⟨rfl, rfl, rfl, (congrArg (LV.int .i64) (w64_nat _ (by omega))), trivial⟩ ⟨⟨rfl, rfl, blT⟩, ⟨⟨rfl, rfl, blT⟩, trivial⟩⟩ blT rfl (K22 _ e.symm)
          · exact (Bool.false_ne_true (hc.symm.trans hd)).elim
    · unfold ref11_Same_b21 at b21
      have hd : decide (((k21 : Nat) : Int) < (((a0.Costs.map iC).length : Nat) : Int)) = true := by rw [decide_eq_true_eq]; (try simp only [se_len, se_ch, List.length_map] at hk21); (try simp only [se_len, se_ch, List.length_map]); omega
      refine LoopW.round TT_ok [0, 1, 2, 3, 4, 5, 6, 7, 39, 42, 43, 44, 56, 60, 61, 62, 74, 78, 79, 80, 92] ?_
      conv => whnf
      repeat' first | with_reducible rfl | with_reducible exact True.intro | with_reducible assumption | refine parkI ?_ | (refine W.drawn TT_ok hmix1 rfl ?_; conv => whnf) | exact clA _ | (refine And.intro ?_ ?_ <;> conv => whnf) | exact clG _ | (refine gand ?_ h; assumption) | exact clN _ | fail
      refine parkE (fun hc => ?_) (fun hc => ?_)
      · clear hd
        conv => whnf
        replace b21 := bindS b21
        obtain ⟨v82, hv82, b21⟩ := b21
        have i83 := gixF (f := iC) hv82
        repeat' first | with_reducible rfl | with_reducible exact True.intro | with_reducible assumption | refine parkI ?_ | (refine ⟨_, (kixF (f := iC) hx21), ?_⟩; conv => whnf) | (refine ⟨_, i83, ?_⟩; conv => whnf) | (refine W.drawn TT_ok hmix1 rfl ?_; conv => whnf) | exact clA _ | (refine And.intro ?_ ?_ <;> conv => whnf) | exact clG _ | (refine gand ?_ h; assumption) | exact clN _ | fail
        refine parkE (fun hc => ?_) (fun hc => ?_)
        · replace b21 := condT hc b21
          conv => whnf
          have e := Option.some.inj b21
          replace e := hret21 _ e.symm
          rw [e] at r21
          replace e := Option.some.inj r21
          subst e
          repeat' first | with_reducible rfl | with_reducible exact True.intro | with_reducible assumption | (refine W.drawn TT_ok hmix1 rfl ?_; conv => whnf) | exact clA _ | (refine And.intro ?_ ?_ <;> conv => whnf) | exact clG _ | (refine gand ?_ h; assumption) | exact clN _ | fail
        · replace b21 := condF hc b21
          conv => whnf
          repeat' first | with_reducible rfl | with_reducible exact True.intro | with_reducible assumption | refine parkI ?_ | (refine W.drawn TT_ok hmix1 rfl ?_; conv => whnf) | exact clA _ | (refine And.intro ?_ ?_ <;> conv => whnf) | exact clG _ | (refine gand ?_ h; assumption) | exact clN _ | fail
          have e := Option.some.inj b21
          refine LoopW.norm [(2, (LV.ptr 0 0 0)), (3, (LV.ptr 1 0 0)), (42, (I (((a0.Costs.map iC).length : Nat) : Int))), (43, (I ((k21 + 1 : Nat) : Int)))] 2 [(0, (.row 82 4 [[(I a0.ID), (LV.ro 1 (a0.Costs.map iC)), (LV.ro 1 (a0.Ups.map bC)), (LV.ro 6 (a0.Infos.map InfoT.cells))]])), (1, (.row 82 4 [[(I a1.ID), (LV.ro 1 (a1.Costs.map iC)), (LV.ro 1 (a1.Ups.map bC)), (LV.ro 6 (a1.Infos.map InfoT.cells))]]))] ⟨rfl, rfl, rfl, (congrArg (LV.int .i64) (w64_nat _ (by omega))), trivial⟩ ⟨⟨rfl, rfl, blT⟩, ⟨⟨rfl, rfl, blT⟩, trivial⟩⟩ blT rfl (K21 _ e.symm)
      · exact (Bool.false_ne_true (hc.symm.trans hd)).elim

def ref12_Same_b24 (a1 : StpT) (k24 : Nat) (x24 : PortStateT) (s24 : Unit) : Option (Step Bool Unit) :=
  (gix a1.States ((k24 : Nat) : Int)).bind fun v90 =>
  (bif (!((decide (x24.State = v90.State)) && ((decide (x24.Left = v90.Left)) && true))) then
    some (.ret false)
  else
    some (.nxt ()))

def ref12_Same (a0 : StpT) (a1 : StpT) : Option Bool :=
  (ref11_Same a0.Self a1.Self).bind fun y88 =>
  (bif (bif (bif (bif (!y88) then true else (!decide (a0.Max = a1.Max))) then true else (!decide (a0.Delay = a1.Delay))) then true else (!decide (((a0.States.length : Nat) : Int) = ((a1.States.length : Nat) : Int)))) then
    some false
  else
    aft (rangeL (ref12_Same_b24 a1) a0.States ()) fun s24 =>
    some true)

theorem c_ref12_Same (a0 : StpT) (a1 : StpT) (r : Bool) (h : ref12_Same a0 a1 = some r) : CallP Try.prog 60 [(LV.agg [(I a0.Self.ID), (LV.ro 1 (a0.Self.Costs.map iC)), (LV.ro 1 (a0.Self.Ups.map bC)), (LV.ro 6 (a0.Self.Infos.map InfoT.cells)), (LV.ro 2 (a0.States.map PortStateT.cells)), (I a0.Max), (I a0.Delay)]), (LV.agg [(I a1.Self.ID), (LV.ro 1 (a1.Self.Costs.map iC)), (LV.ro 1 (a1.Self.Ups.map bC)), (LV.ro 6 (a1.Self.Infos.map InfoT.cells)), (LV.ro 2 (a1.States.map PortStateT.cells)), (I a1.Max), (I a1.Delay)])] (LV.bool r) := by
  unfold ref12_Same at h
  refine .intro nlA (.intro TT_ok Try.func60 rfl rfl [0, 1, 2, 3, 4, 5, 34, 37, 38, 39, 51] rfl ?_)
  conv => whnf
  replace h := bindS h
  obtain ⟨y88, hy88, h⟩ := h
  have c89 := c_ref11_Same a0.Self a1.Self _ hy88
  repeat' first | with_reducible rfl | with_reducible exact True.intro | with_reducible assumption | refine parkI ?_ | (refine CallP.use c89 ?_; conv => whnf) | (refine ⟨_, _, CallP.at c89, ?_⟩; conv => whnf) | (refine ⟨_, fun _ => c89, ?_⟩; conv => whnf) | (refine W.drawn TT_ok hmix1 rfl ?_; conv => whnf) | exact clA _ | (refine And.intro ?_ ?_ <;> conv => whnf) | exact clG _ | (refine gand ?_ h; assumption) | exact clN _ | fail
  refine parkE (fun hc => ?_) (fun hc => ?_)
  · replace h := condT (by first | exact hc | simpa only [se_len, se_ch, List.length_map] using hc) h
    conv => whnf
    have e := Option.some.inj h
    subst e
    repeat' first | with_reducible rfl | with_reducible exact True.intro | with_reducible assumption | (refine W.drawn TT_ok hmix1 rfl ?_; conv => whnf) | exact clA _ | (refine And.intro ?_ ?_ <;> conv => whnf) | exact clG _ | (refine gand ?_ h; assumption) | exact clN _ | fail
  · replace h := condF (by first | exact hc | simpa only [se_len, se_ch, List.length_map] using hc) h
    conv => whnf
    repeat' first | with_reducible rfl | with_reducible exact True.intro | with_reducible assumption | refine parkI ?_ | (refine W.drawn TT_ok hmix1 rfl ?_; conv => whnf) | exact clA _ | (refine And.intro ?_ ?_ <;> conv => whnf) | exact clG _ | (refine gand ?_ h; assumption) | exact clN _ | fail
    replace h := aftS h
    obtain ⟨O24, hO24, r24⟩ := h
    refine LoopW.norm [(2, (LV.ptr 0 0 0)), (3, (LV.ptr 1 0 0)), (37, (I (((a0.States.map PortStateT.cells).length : Nat) : Int))), (38, (I ((0 : Nat) : Int)))] 2 [(0, (.row 85 7 [[(I a0.Self.ID), (LV.ro 1 (a0.Self.Costs.map iC)), (LV.ro 1 (a0.Self.Ups.map bC)), (LV.ro 6 (a0.Self.Infos.map InfoT.cells)), (LV.ro 2 (a0.States.map PortStateT.cells)), (I a0.Max), (I a0.Delay)]])), (1, (.row 85 7 [[(I a1.Self.ID), (LV.ro 1 (a1.Self.Costs.map iC)), (LV.ro 1 (a1.Self.Ups.map bC)), (LV.ro 6 (a1.Self.Infos.map InfoT.cells)), (LV.ro 2 (a1.States.map PortStateT.cells)), (I a1.Max), (I a1.Delay)]]))] ⟨rfl, rfl, rfl, rfl, trivial⟩ ⟨⟨rfl, rfl, blT⟩, ⟨⟨rfl, rfl, blT⟩, trivial⟩⟩ blT rfl ?_
    refine LoopW.forR (fun k24 s24 => [(2, (LV.ptr 0 0 0)), (3, (LV.ptr 1 0 0)), (37, (I (((a0.States.map PortStateT.cells).length : Nat) : Int))), (38, (I ((k24 : Nat) : Int)))]) (fun s24 => ⟨2, [(0, (.row 85 7 [[(I a0.Self.ID), (LV.ro 1 (a0.Self.Costs.map iC)), (LV.ro 1 (a0.Self.Ups.map bC)), (LV.ro 6 (a0.Self.Infos.map InfoT.cells)), (LV.ro 2 (a0.States.map PortStateT.cells)), (I a0.Max), (I a0.Delay)]])), (1, (.row 85 7 [[(I a1.Self.ID), (LV.ro 1 (a1.Self.Costs.map iC)), (LV.ro 1 (a1.Self.Ups.map bC)), (LV.ro 6 (a1.Self.Infos.map InfoT.cells)), (LV.ro 2 (a1.States.map PortStateT.cells)), (I a1.Max), (I a1.Delay)]]))]⟩) hO24 (fun hl24 s24 hs24 => ?_) (fun hl24 k24 x24 s24 o24 hk24 hx24 b24 K24 hret24 hbrk24 => ?_)
    · rw [hs24] at r24
      dsimp only [aftM] at r24
      have hd : decide (((a0.States.length : Nat) : Int) < (((a0.States.map PortStateT.cells).length : Nat) : Int)) = false := by rw [decide_eq_false_iff_not]; (try simp only [se_len, se_ch, List.length_map]); omega
      refine LoopW.round TT_ok [0, 1, 2, 3, 4, 5, 34, 37, 38, 39, 51] ?_
      conv => whnf
      repeat' first | with_reducible rfl | with_reducible exact True.intro | with_reducible assumption | refine parkI ?_ | (refine W.drawn TT_ok hmix1 rfl ?_; conv => whnf) | exact clA _ | (refine And.intro ?_ ?_ <;> conv => whnf) | exact clG _ | (refine gand ?_ h; assumption) | exact clN _ | fail
      refine parkE (fun hc => ?_) (fun hc => ?_)
      · exact (Bool.false_ne_true (hd.symm.trans hc)).elim
      · clear hd
        conv => whnf
        have e := Option.some.inj r24
        subst e
        repeat' first | with_reducible rfl | with_reducible exact True.intro | with_reducible assumption | (refine W.drawn TT_ok hmix1 rfl ?_; conv => whnf) | exact clA _ | (refine And.intro ?_ ?_ <;> conv => whnf) | exact clG _ | (refine gand ?_ h; assumption) | exact clN _ | fail
    · unfold ref12_Same_b24 at b24
      have hd : decide (((k24 : Nat) : Int) < (((a0.States.map PortStateT.cells).length : Nat) : Int)) = true := by rw [decide_eq_true_eq]; (try simp only [se_len, se_ch, List.length_map] at hk24); (try simp only [se_len, se_ch, List.length_map]); omega
      refine LoopW.round TT_ok [0, 1, 2, 3, 4, 5, 34, 37, 38, 39, 51] ?_
      conv => whnf
      repeat' first | with_reducible rfl | with_reducible exact True.intro | with_reducible assumption | refine parkI ?_ | (refine W.drawn TT_ok hmix1 rfl ?_; conv => whnf) | exact clA _ | (refine And.intro ?_ ?_ <;> conv => whnf) | exact clG _ | (refine gand ?_ h; assumption) | exact clN _ | fail
      refine parkE (fun hc => ?_) (fun hc => ?_)
      · clear hd
        conv => whnf
        replace b24 := bindS b24
        obtain ⟨v90, hv90, b24⟩ := b24
        have i91 := gixF (f := PortStateT.cells) hv90
        repeat' first | with_reducible rfl | with_reducible exact True.intro | with_reducible assumption | refine parkI ?_ | (refine ⟨_, (kixF (f := PortStateT.cells) hx24), ?_⟩; conv => whnf) | (refine ⟨_, i91, ?_⟩; conv => whnf) | (refine W.drawn TT_ok hmix1 rfl ?_; conv => whnf) | exact clA _ | (refine And.intro ?_ ?_ <;> conv => whnf) | exact clG _ | (refine gand ?_ h; assumption) | exact clN _ | fail
        refine parkE (fun hc => ?_) (fun hc => ?_)
        · replace b24 := condT hc b24
          conv => whnf
          have e := Option.some.inj b24
          replace e := hret24 _ e.symm
          rw [e] at r24
          replace e := Option.some.inj r24
          subst e
          repeat' first | with_reducible rfl | with_reducible exact True.intro | with_reducible assumption | (refine W.drawn TT_ok hmix1 rfl ?_; conv => whnf) | exact clA _ | (refine And.intro ?_ ?_ <;> conv => whnf) | exact clG _ | (refine gand ?_ h; assumption) | exact clN _ | fail
        · replace b24 := condF hc b24
          conv => whnf
          repeat' first | with_reducible rfl | with_reducible exact True.intro | with_reducible assumption | refine parkI ?_ | (refine W.drawn TT_ok hmix1 rfl ?_; conv => whnf) | exact clA _ | (refine And.intro ?_ ?_ <;> conv => whnf) | exact clG _ | (refine gand ?_ h; assumption) | exact clN _ | fail
          have e := Option.some.inj b24
          refine LoopW.norm [(2, (LV.ptr 0 0 0)), (3, (LV.ptr 1 0 0)), (37, (I (((a0.States.map PortStateT.cells).length : Nat) : Int))), (38, (I ((k24 + 1 : Nat) : Int)))] 2 [(0, (.row 85 7 [[(I a0.Self.ID), (LV.ro 1 (a0.Self.Costs.map iC)), (LV.ro 1 (a0.Self.Ups.map bC)), (LV.ro 6 (a0.Self.Infos.map InfoT.cells)), (LV.ro 2 (a0.States.map PortStateT.cells)), (I a0.Max), (I a0.Delay)]])), (1, (.row 85 7 [[(I a1.Self.ID), (LV.ro 1 (a1.Self.Costs.map iC)), (LV.ro 1 (a1.Self.Ups.map bC)), (LV.ro 6 (a1.Self.Infos.map InfoT.cells)), (LV.ro 2 (a1.States.map PortStateT.cells)), (I a1.Max), (I a1.Delay)]]))] ⟨rfl, rfl, rfl, (congrArg (LV.int .i64) (w64_nat _ (by omega))), trivial⟩ ⟨⟨rfl, rfl, blT⟩, ⟨⟨rfl, rfl, blT⟩, trivial⟩⟩ blT rfl (K24 _ e.symm)
      · exact (Bool.false_ne_true (hc.symm.trans hd)).elim

def ref12_Config (a0 : ConfigT) : Option Bool :=
  (ref04_Right a0.Vec).bind fun y100 =>
  some (bif (bif y100 then (decide (0 ≤ a0.Age)) else false) then (decide (a0.Age ≤ 255)) else false)

theorem c_ref12_Config (a0 : ConfigT) (r : Bool) (h : ref12_Config a0 = some r) : CallP Try.prog 61 [(LV.agg [(I a0.Vec.Root), (I a0.Vec.Cost), (I a0.Vec.Bridge), (I a0.Vec.Port), (I a0.Age)])] (LV.bool r) := by
  unfold ref12_Config at h
  refine .intro nlA (.intro TT_ok Try.func61 rfl rfl [0, 1, 2] rfl ?_)
  conv => whnf
  replace h := bindS h
  obtain ⟨y100, hy100, h⟩ := h
  have c101 := c_ref04_Right a0.Vec _ hy100
  have e := Option.some.inj h
  subst e
  repeat' first | with_reducible rfl | with_reducible exact True.intro | with_reducible assumption | (refine CallP.use c101 ?_; conv => whnf) | exact clA _ | (refine And.intro ?_ ?_ <;> conv => whnf) | exact clG _ | (refine gand ?_ h; assumption) | exact clN _ | fail

def ref12_know_b25 (a1 : Int) (a2 : InfoT) (k25 : Nat) (x25 : InfoT) (s25 : (List InfoT)) : Option (Step StpT (List InfoT)) :=
  (bif (decide (((k25 : Nat) : Int) = a1)) then
    grd (fits ((s25 ++ ([a2] : (List InfoT))) : List InfoT).length 48) <|
    some (.nxt (s25 ++ ([a2] : (List InfoT))))
  else
    grd (fits ((s25 ++ ([x25] : (List InfoT))) : List InfoT).length 48) <|
    some (.nxt (s25 ++ ([x25] : (List InfoT)))))

def ref12_know (a0 : StpT) (a1 : Int) (a2 : InfoT) : Option StpT :=
  aft (rangeL (ref12_know_b25 a1 a2) a0.Self.Infos ([] : (List InfoT))) fun s25 =>
  some (⟨(⟨a0.Self.ID, a0.Self.Costs, a0.Self.Ups, s25⟩ : SelfT), a0.States, a0.Max, a0.Delay⟩ : StpT)

theorem c_ref12_know (a0 : StpT) (a1 : Int) (a2 : InfoT) (r : StpT) (h : ref12_know a0 a1 a2 = some r) : CallP Try.prog 182 [(LV.agg [(I a0.Self.ID), (LV.ro 1 (a0.Self.Costs.map iC)), (LV.ro 1 (a0.Self.Ups.map bC)), (LV.ro 6 (a0.Self.Infos.map InfoT.cells)), (LV.ro 2 (a0.States.map PortStateT.cells)), (I a0.Max), (I a0.Delay)]), (I a1), (LV.agg [(LV.bool a2.Has), (I a2.Vec.Root), (I a2.Vec.Cost), (I a2.Vec.Bridge), (I a2.Vec.Port), (I a2.Age)])] (LV.agg [(I r.Self.ID), (LV.ro 1 (r.Self.Costs.map iC)), (LV.ro 1 (r.Self.Ups.map bC)), (LV.ro 6 (r.Self.Infos.map InfoT.cells)), (LV.ro 2 (r.States.map PortStateT.cells)), (I r.Max), (I r.Delay)]) := by
  unfold ref12_know at h
  refine .intro nlA (.intro TT_ok Try.func182 rfl rfl [0, 1, 2, 3, 5, 6, 7, 8, 9, 13, 14, 15, 16, 22] rfl ?_)
  conv => whnf
  repeat' first | with_reducible rfl | with_reducible exact True.intro | with_reducible assumption | refine parkI ?_ | (refine And.intro ?_ ?_ <;> conv => whnf) | fail
  replace h := aftS h
  obtain ⟨O25, hO25, r25⟩ := h
  refine LoopW.norm [(1, (I a1)), (3, (LV.ptr 0 0 0)), (5, (LV.ptr 1 0 0)), (6, (LV.ptr 2 0 0)), (7, (LV.sl 3 0 (([] : (List InfoT)).map InfoT.cells).length)), (13, (LV.ro 6 (a0.Self.Infos.map InfoT.cells))), (14, (I (((a0.Self.Infos.map InfoT.cells).length : Nat) : Int))), (15, (I ((0 : Nat) : Int)))] 4 [(0, (.row 85 7 [[(I a0.Self.ID), (LV.ro 1 (a0.Self.Costs.map iC)), (LV.ro 1 (a0.Self.Ups.map bC)), (LV.ro 6 (a0.Self.Infos.map InfoT.cells)), (LV.ro 2 (a0.States.map PortStateT.cells)), (I a0.Max), (I a0.Delay)]])), (1, (.row 120 6 [[(LV.bool a2.Has), (I a2.Vec.Root), (I a2.Vec.Cost), (I a2.Vec.Bridge), (I a2.Vec.Port), (I a2.Age)]])), (2, (.row 85 7 [[(I 0), LV.nils, LV.nils, LV.nils, LV.nils, (I 0), (I 0)]])), (3, (.row 120 6 (([] : (List InfoT)).map InfoT.cells)))] ⟨rfl, rfl, rfl, rfl, (by exact congrArg (LV.sl 3 0) (clL _ : 0 = (([] : (List InfoT)).map InfoT.cells).length)), rfl, rfl, rfl, trivial⟩ ⟨⟨rfl, rfl, blT⟩, ⟨⟨rfl, rfl, blT⟩, ⟨⟨rfl, rfl, blT⟩, ⟨⟨(congrArg (fun q => some (Blk.row 120 6 q)) (smT : (([] : List (List LV)) : List (List LV)) = (([] : (List InfoT)).map InfoT.cells))), rfl, NLss_bel (NLss_map' _)⟩, trivial⟩⟩⟩⟩ blT rfl ?_
  refine LoopW.forR (fun k25 s25 => [(1, (I a1)), (3, (LV.ptr 0 0 0)), (5, (LV.ptr 1 0 0)), (6, (LV.ptr 2 0 0)), (7, (LV.sl 3 0 (s25.map InfoT.cells).length)), (13, (LV.ro 6 (a0.Self.Infos.map InfoT.cells))), (14, (I (((a0.Self.Infos.map InfoT.cells).length : Nat) : Int))), (15, (I ((k25 : Nat) : Int)))]) (fun s25 => ⟨4, [(0, (.row 85 7 [[(I a0.Self.ID), (LV.ro 1 (a0.Self.Costs.map iC)), (LV.ro 1 (a0.Self.Ups.map bC)), (LV.ro 6 (a0.Self.Infos.map InfoT.cells)), (LV.ro 2 (a0.States.map PortStateT.cells)), (I a0.Max), (I a0.Delay)]])), (1, (.row 120 6 [[(LV.bool a2.Has), (I a2.Vec.Root), (I a2.Vec.Cost), (I a2.Vec.Bridge), (I a2.Vec.Port), (I a2.Age)]])), (2, (.row 85 7 [[(I 0), LV.nils, LV.nils, LV.nils, LV.nils, (I 0), (I 0)]])), (3, (.row 120 6 (s25.map InfoT.cells)))]⟩) hO25 (fun hl25 s25 hs25 => ?_) (fun hl25 k25 x25 s25 o25 hk25 hx25 b25 K25 hret25 hbrk25 => ?_)
  · rw [hs25] at r25
    dsimp only [aftM] at r25
    have hd : decide (((a0.Self.Infos.length : Nat) : Int) < (((a0.Self.Infos.map InfoT.cells).length : Nat) : Int)) = false := by rw [decide_eq_false_iff_not]; (try simp only [se_len, se_ch, List.length_map]); omega
    refine LoopW.round TT_ok [0, 1, 2, 3, 5, 6, 7, 8, 9, 13, 14, 15, 16, 22] ?_
    conv => whnf
    repeat' first | with_reducible rfl | with_reducible exact True.intro | with_reducible assumption | refine parkI ?_ | (refine And.intro ?_ ?_ <;> conv => whnf) | fail
    refine parkE (fun hc => ?_) (fun hc => ?_)
    · exact (Bool.false_ne_true (hd.symm.trans hc)).elim
    · clear hd
      conv => whnf
      have e := Option.some.inj r25
      subst e
      repeat' first | with_reducible rfl | with_reducible exact True.intro | with_reducible assumption | exact clA _ | (refine And.intro ?_ ?_ <;> conv => whnf) | exact clG _ | (refine gand ?_ h; assumption) | exact clN _ | fail
  · unfold ref12_know_b25 at b25
    have hd : decide (((k25 : Nat) : Int) < (((a0.Self.Infos.map InfoT.cells).length : Nat) : Int)) = true := by rw [decide_eq_true_eq]; (try simp only [se_len, se_ch, List.length_map] at hk25); (try simp only [se_len, se_ch, List.length_map]); omega
    refine LoopW.round TT_ok [0, 1, 2, 3, 5, 6, 7, 8, 9, 13, 14, 15, 16, 22] ?_
    conv => whnf
    repeat' first | with_reducible rfl | with_reducible exact True.intro | with_reducible assumption | refine parkI ?_ | (refine And.intro ?_ ?_ <;> conv => whnf) | fail
    refine parkE (fun hc => ?_) (fun hc => ?_)
    · clear hd
      conv => whnf
      repeat' first | with_reducible rfl | with_reducible exact True.intro | with_reducible assumption | refine parkI ?_ | (refine ⟨_, (kixF (f := InfoT.cells) hx25), ?_⟩; conv => whnf) | (refine And.intro ?_ ?_ <;> conv => whnf) | fail
      refine parkE (fun hc => ?_) (fun hc => ?_)
      · replace b25 := condT hc b25
        conv => whnf
        replace b25 := grdS b25
        obtain ⟨g112, b25⟩ := b25
        replace g112 : fits (((s25.map InfoT.cells) ++ [[(LV.bool a2.Has), (I a2.Vec.Root), (I a2.Vec.Cost), (I a2.Vec.Bridge), (I a2.Vec.Port), (I a2.Age)]])).length 48 := by simpa only [se_len, se_ch, List.length_map] using g112
        repeat' first | with_reducible rfl | with_reducible exact True.intro | with_reducible assumption | refine parkI ?_ | exact g112 | exact clA _ | (refine And.intro ?_ ?_ <;> conv => whnf) | exact clN _ | fail
        have e := Option.some.inj b25
        refine LoopW.ren [(0, 0), (1, 1), (2, 2), (6, 3)] [(1, (I a1)), (3, (LV.ptr 0 0 0)), (5, (LV.ptr 1 0 0)), (6, (LV.ptr 2 0 0)), (7, (LV.sl 3 0 ((s25 ++ ([a2] : (List InfoT))).map InfoT.cells).length)), (13, (LV.ro 6 (a0.Self.Infos.map InfoT.cells))), (14, (I (((a0.Self.Infos.map InfoT.cells).length : Nat) : Int))), (15, (I ((k25 + 1 : Nat) : Int)))] 4 [(0, (.row 85 7 [[(I a0.Self.ID), (LV.ro 1 (a0.Self.Costs.map iC)), (LV.ro 1 (a0.Self.Ups.map bC)), (LV.ro 6 (a0.Self.Infos.map InfoT.cells)), (LV.ro 2 (a0.States.map PortStateT.cells)), (I a0.Max), (I a0.Delay)]])), (1, (.row 120 6 [[(LV.bool a2.Has), (I a2.Vec.Root), (I a2.Vec.Cost), (I a2.Vec.Bridge), (I a2.Vec.Port), (I a2.Age)]])), (2, (.row 85 7 [[(I 0), LV.nils, LV.nils, LV.nils, LV.nils, (I 0), (I 0)]])), (3, (.row 120 6 ((s25 ++ ([a2] : (List InfoT))).map InfoT.cells)))] rfl ⟨rfl, rfl, rfl, rfl, (by exact congrArg (LV.sl 3 0) (clL _ : (((s25.map InfoT.cells) ++ [[(LV.bool a2.Has), (I a2.Vec.Root), (I a2.Vec.Cost), (I a2.Vec.Bridge), (I a2.Vec.Port), (I a2.Age)]])).length = ((s25 ++ ([a2] : (List InfoT))).map InfoT.cells).length)), rfl, rfl, (congrArg (LV.int .i64) (w64_nat _ (by omega))), trivial⟩ ⟨⟨rfl, rfl, .inl ⟨rfl, nlT⟩⟩, rfl, rfl, ⟨⟨rfl, rfl, .inl ⟨rfl, nlT⟩⟩, rfl, rfl, ⟨⟨rfl, rfl, .inl ⟨rfl, nlT⟩⟩, rfl, rfl, ⟨⟨rfl, rfl, .inl ⟨(smT : (((s25.map InfoT.cells) ++ [[(LV.bool a2.Has), (I a2.Vec.Root), (I a2.Vec.Cost), (I a2.Vec.Bridge), (I a2.Vec.Port), (I a2.Age)]]) : List (List LV)) = ((s25 ++ ([a2] : (List InfoT))).map InfoT.cells)), nlT⟩⟩, rfl, rfl, trivial⟩⟩⟩⟩ rfl (K25 _ e.symm)
      · replace b25 := condF hc b25
        conv => whnf
        replace b25 := grdS b25
        obtain ⟨g113, b25⟩ := b25
        replace g113 : fits (((s25.map InfoT.cells) ++ [[(LV.bool x25.Has), (I x25.Vec.Root), (I x25.Vec.Cost), (I x25.Vec.Bridge), (I x25.Vec.Port), (I x25.Age)]])).length 48 := by simpa only [se_len, se_ch, List.length_map] using g113
        repeat' first | with_reducible rfl | with_reducible exact True.intro | with_reducible assumption | refine parkI ?_ | exact g113 | exact clA _ | (refine And.intro ?_ ?_ <;> conv => whnf) | exact clN _ | fail
        have e := Option.some.inj b25
        refine LoopW.ren [(0, 0), (1, 1), (2, 2), (6, 3)] [(1, (I a1)), (3, (LV.ptr 0 0 0)), (5, (LV.ptr 1 0 0)), (6, (LV.ptr 2 0 0)), (7, (LV.sl 3 0 ((s25 ++ ([x25] : (List InfoT))).map InfoT.cells).length)), (13, (LV.ro 6 (a0.Self.Infos.map InfoT.cells))), (14, (I (((a0.Self.Infos.map InfoT.cells).length : Nat) : Int))), (15, (I ((k25 + 1 : Nat) : Int)))] 4 [(0, (.row 85 7 [[(I a0.Self.ID), (LV.ro 1 (a0.Self.Costs.map iC)), (LV.ro 1 (a0.Self.Ups.map bC)), (LV.ro 6 (a0.Self.Infos.map InfoT.cells)), (LV.ro 2 (a0.States.map PortStateT.cells)), (I a0.Max), (I a0.Delay)]])), (1, (.row 120 6 [[(LV.bool a2.Has), (I a2.Vec.Root), (I a2.Vec.Cost), (I a2.Vec.Bridge), (I a2.Vec.Port), (I a2.Age)]])), (2, (.row 85 7 [[(I 0), LV.nils, LV.nils, LV.nils, LV.nils, (I 0), (I 0)]])), (3, (.row 120 6 ((s25 ++ ([x25] : (List InfoT))).map InfoT.cells)))] rfl ⟨rfl, rfl, rfl, rfl, (by exact congrArg (LV.sl 3 0) (clL _ : (((s25.map InfoT.cells) ++ [[(LV.bool x25.Has), (I x25.Vec.Root), (I x25.Vec.Cost), (I x25.Vec.Bridge), (I x25.Vec.Port), (I x25.Age)]])).length = ((s25 ++ ([x25] : (List InfoT))).map InfoT.cells).length)), rfl, rfl, (congrArg (LV.int .i64) (w64_nat _ (by omega))), trivial⟩ ⟨⟨rfl, rfl, .inl ⟨rfl, nlT⟩⟩, rfl, rfl, ⟨⟨rfl, rfl, .inl ⟨rfl, nlT⟩⟩, rfl, rfl, ⟨⟨rfl, rfl, .inl ⟨rfl, nlT⟩⟩, rfl, rfl, ⟨⟨rfl, rfl, .inl ⟨(smT : (((s25.map InfoT.cells) ++ [[(LV.bool x25.Has), (I x25.Vec.Root), (I x25.Vec.Cost), (I x25.Vec.Bridge), (I x25.Vec.Port), (I x25.Age)]]) : List (List LV)) = ((s25 ++ ([x25] : (List InfoT))).map InfoT.cells)), nlT⟩⟩, rfl, rfl, trivial⟩⟩⟩⟩ rfl (K25 _ e.symm)
    · exact (Bool.false_ne_true (hc.symm.trans hd)).elim

def ref12_Hear (a0 : StpT) (a1 : Int) (a2 : ConfigT) : Option (StpT × Bool) :=
  (gix a0.Self.Infos a1).bind fun v106 =>
  (gix a0.Self.Ups a1).bind fun v108 =>
  (bif (bif (!v108) then true else (decide (a0.Max ≤ a2.Age))) then
    some (a0, false)
  else
    (gd (bif v106.Has then (!(bif (decide (v106.Vec.Bridge = a2.Vec.Bridge)) then (decide (v106.Vec.Port = a2.Vec.Port)) else false)) else false) (ref04_Better a2.Vec v106.Vec)).bind fun y110 =>
    (bif (bif (bif v106.Has then (!(bif (decide (v106.Vec.Bridge = a2.Vec.Bridge)) then (decide (v106.Vec.Port = a2.Vec.Port)) else false)) else false) then (!y110) else false) then
      some (a0, false)
    else
      (ref12_know a0 a1 (⟨true, a2.Vec, a2.Age⟩ : InfoT)).bind fun y114 =>
      (ref12_settle y114).bind fun y116 =>
      some (y116, true)))

theorem c_ref12_Hear (a0 : StpT) (a1 : Int) (a2 : ConfigT) (r : (StpT × Bool)) (h : ref12_Hear a0 a1 a2 = some r) : CallP Try.prog 62 [(LV.agg [(I a0.Self.ID), (LV.ro 1 (a0.Self.Costs.map iC)), (LV.ro 1 (a0.Self.Ups.map bC)), (LV.ro 6 (a0.Self.Infos.map InfoT.cells)), (LV.ro 2 (a0.States.map PortStateT.cells)), (I a0.Max), (I a0.Delay)]), (I a1), (LV.agg [(I a2.Vec.Root), (I a2.Vec.Cost), (I a2.Vec.Bridge), (I a2.Vec.Port), (I a2.Age)])] (LV.tup [(LV.agg [(I r.1.Self.ID), (LV.ro 1 (r.1.Self.Costs.map iC)), (LV.ro 1 (r.1.Self.Ups.map bC)), (LV.ro 6 (r.1.Self.Infos.map InfoT.cells)), (LV.ro 2 (r.1.States.map PortStateT.cells)), (I r.1.Max), (I r.1.Delay)]), (LV.bool r.2)]) := by
  unfold ref12_Hear at h
  refine .intro nlA (.intro TT_ok Try.func62 rfl rfl [0, 1, 2, 3, 5, 6, 7, 8, 9, 29, 60] rfl ?_)
  conv => whnf
  replace h := bindS h
  obtain ⟨v106, hv106, h⟩ := h
  have i107 := gixF (f := InfoT.cells) hv106
  replace h := bindS h
  obtain ⟨v108, hv108, h⟩ := h
  have i109 := gixF (f := bC) hv108
  repeat' first | with_reducible rfl | with_reducible exact True.intro | with_reducible assumption | refine parkI ?_ | (refine ⟨_, i107, ?_⟩; conv => whnf) | (refine ⟨_, i109, ?_⟩; conv => whnf) | exact clA _ | (refine And.intro ?_ ?_ <;> conv => whnf) | exact clG _ | (refine gand ?_ h; assumption) | fail
  refine parkE (fun hc => ?_) (fun hc => ?_)
  · replace h := condT hc h
    conv => whnf
    have e := Option.some.inj h
    subst e
    repeat' first | with_reducible rfl | with_reducible exact True.intro | with_reducible assumption | exact clA _ | (refine And.intro ?_ ?_ <;> conv => whnf) | exact clG _ | (refine gand ?_ h; assumption) | exact clN _ | fail
  · replace h := condF hc h
    conv => whnf
    replace h := bindS h
    obtain ⟨y110, hy110, h⟩ := h
    have c111 := fun (hg : (bif v106.Has then (!(bif (decide (v106.Vec.Bridge = a2.Vec.Bridge)) then (decide (v106.Vec.Port = a2.Vec.Port)) else false)) else false) = true) => c_ref04_Better a2.Vec v106.Vec _ (gdS hg hy110)
    repeat' first | with_reducible rfl | with_reducible exact True.intro | with_reducible assumption | refine parkI ?_ | (refine ⟨_, c111, ?_⟩; conv => whnf) | exact clA _ | (refine And.intro ?_ ?_ <;> conv => whnf) | exact clG _ | (refine gand ?_ h; assumption) | fail
    refine parkE (fun hc => ?_) (fun hc => ?_)
    · replace h := condT hc h
      conv => whnf
      have e := Option.some.inj h
      subst e
      repeat' first | with_reducible rfl | with_reducible exact True.intro | with_reducible assumption | exact clA _ | (refine And.intro ?_ ?_ <;> conv => whnf) | exact clG _ | (refine gand ?_ h; assumption) | exact clN _ | fail
    · replace h := condF hc h
      conv => whnf
      replace h := bindS h
      obtain ⟨y114, hy114, h⟩ := h
      have c115 : CallP Try.prog 182 [(LV.agg [(I a0.Self.ID), (LV.ro 1 (a0.Self.Costs.map iC)), (LV.ro 1 (a0.Self.Ups.map bC)), (LV.ro 6 (a0.Self.Infos.map InfoT.cells)), (LV.ro 2 (a0.States.map PortStateT.cells)), (I a0.Max), (I a0.Delay)]), (I a1), (LV.agg [(LV.bool true), (I a2.Vec.Root), (I a2.Vec.Cost), (I a2.Vec.Bridge), (I a2.Vec.Port), (I a2.Age)])] (LV.agg [(I y114.Self.ID), (LV.ro 1 (y114.Self.Costs.map iC)), (LV.ro 1 (y114.Self.Ups.map bC)), (LV.ro 6 (y114.Self.Infos.map InfoT.cells)), (LV.ro 2 (y114.States.map PortStateT.cells)), (I y114.Max), (I y114.Delay)]) := by first | exact c_ref12_know a0 a1 (⟨true, a2.Vec, a2.Age⟩ : InfoT) _ hy114 | (simpa only [se_map, se_byL, se_len, se_ch, List.length_map] using c_ref12_know a0 a1 (⟨true, a2.Vec, a2.Age⟩ : InfoT) _ hy114) | (simpa only [se_map, se_byL, se_len, se_ch, List.length_map, InfoT.cells] using c_ref12_know a0 a1 (⟨true, a2.Vec, a2.Age⟩ : InfoT) _ hy114)
      replace h := bindS h
      obtain ⟨y116, hy116, h⟩ := h
      have c117 := c_ref12_settle y114 _ hy116
      have e := Option.some.inj h
      subst e
      repeat' first | with_reducible rfl | with_reducible exact True.intro | with_reducible assumption | (refine CallP.use c115 ?_; conv => whnf) | (refine CallP.use c117 ?_; conv => whnf) | exact clA _ | (refine And.intro ?_ ?_ <;> conv => whnf) | exact clG _ | (refine gand ?_ h; assumption) | exact clN _ | fail

def law12_StpHears (a0 : Int) (a1 : (List Int)) (a2 : Int) (a3 : Int) (a4 : StpT) (a5 : Int) (a6 : ConfigT) : Option Bool :=
  grd ((0 : Int) ≤ (mn ((a1.length : Nat) : Int) 12) ∧ (mn ((a1.length : Nat) : Int) 12) ≤ ((a1.length : Nat) : Int)) <|
  (law12_few a4).bind fun y6 =>
  (stp_New a0 (a1.take ((mn ((a1.length : Nat) : Int) 12) : Int).toNat) a2 a3).bind fun y8 =>
  (stp_Hear y6 a5 a6).bind fun y10 =>
  (stp_Right y6).bind fun y12 =>
  (ref12_Right y6).bind fun y60 =>
  (gd (!(!(y12 == y60))) (law12_alive )).bind fun y62 =>
  (bif (bif (!(y12 == y60)) then true else (!y62)) then
    some false
  else
    (ref12_New a0 (a1.take ((mn ((a1.length : Nat) : Int) 12) : Int).toNat) a2 a3).bind fun y80 =>
    (gd (bif y80.2 then (!(!decide (y8.2 = 0))) else false) (ref12_Same y8.1 y80.1)).bind fun y92 =>
    (gd (bif (bif (!(bif y80.2 then (bif (!decide (y8.2 = 0)) then true else (!y92)) else false)) then (!y80.2) else false) then (!(!decide (y8.2 = 2))) else false) (ref12_Same y8.1 (⟨(⟨0, [], [], []⟩ : SelfT), [], 0, 0⟩ : StpT))).bind fun y94 =>
    (bif (bif (bif y80.2 then (bif (!decide (y8.2 = 0)) then true else (!y92)) else false) then true else (bif (!y80.2) then (bif (!decide (y8.2 = 2)) then true else (!y94)) else false)) then
      some false
    else
      (bif (!y60) then
        (gd (bif (decide (y10.2.2 = 1)) then (!y10.2.1) else false) (ref12_Same y10.1 (⟨(⟨0, [], [], []⟩ : SelfT), [], 0, 0⟩ : StpT))).bind fun y96 =>
        some (bif (bif (decide (y10.2.2 = 1)) then (!y10.2.1) else false) then y96 else false)
      else
        (bif (bif (decide (a5 < 0)) then true else (decide (((y6.States.length : Nat) : Int) ≤ a5))) then
          (gd (bif (decide (y10.2.2 = 3)) then (!y10.2.1) else false) (ref12_Same y10.1 (⟨(⟨0, [], [], []⟩ : SelfT), [], 0, 0⟩ : StpT))).bind fun y98 =>
          some (bif (bif (decide (y10.2.2 = 3)) then (!y10.2.1) else false) then y98 else false)
        else
          (ref12_Config a6).bind fun y102 =>
          (bif (!y102) then
            (gd (bif (decide (y10.2.2 = 1)) then (!y10.2.1) else false) (ref12_Same y10.1 (⟨(⟨0, [], [], []⟩ : SelfT), [], 0, 0⟩ : StpT))).bind fun y104 =>
            some (bif (bif (decide (y10.2.2 = 1)) then (!y10.2.1) else false) then y104 else false)
          else
            (ref12_Hear y6 a5 a6).bind fun y118 =>
            (gd (bif (decide (y10.2.2 = 0)) then (y10.2.1 == y118.2) else false) (ref12_Same y10.1 y118.1)).bind fun y120 =>
            some (bif (bif (decide (y10.2.2 = 0)) then (y10.2.1 == y118.2) else false) then y120 else false))))))

theorem c_law12_StpHears (a0 : Int) (a1 : (List Int)) (a2 : Int) (a3 : Int) (a4 : StpT) (a5 : Int) (a6 : ConfigT) (r : Bool) (h : law12_StpHears a0 a1 a2 a3 a4 a5 a6 = some r) : CallP Try.prog 8 [(I a0), (LV.ro 1 (a1.map iC)), (I a2), (I a3), (LV.agg [(I a4.Self.ID), (LV.ro 1 (a4.Self.Costs.map iC)), (LV.ro 1 (a4.Self.Ups.map bC)), (LV.ro 6 (a4.Self.Infos.map InfoT.cells)), (LV.ro 2 (a4.States.map PortStateT.cells)), (I a4.Max), (I a4.Delay)]), (I a5), (LV.agg [(I a6.Vec.Root), (I a6.Vec.Cost), (I a6.Vec.Bridge), (I a6.Vec.Port), (I a6.Age)])] (LV.bool r) := by
  unfold law12_StpHears at h
  refine .intro nlA (.intro TT_ok Try.func8 rfl rfl [0, 1, 2, 3, 4, 5, 6, 11, 13, 14, 15, 16, 17, 18, 19, 20, 21, 22, 23, 24, 25, 58, 91, 92, 96, 106, 111] rfl ?_)
  conv => whnf
  replace h := grdS h
  obtain ⟨g1, h⟩ := h
  replace g1 : (0 : Int) ≤ (mn (((a1.map iC).length : Nat) : Int) 12) ∧ (mn (((a1.map iC).length : Nat) : Int) 12) ≤ (((a1.map iC).length : Nat) : Int) := by simpa only [se_len, se_ch, List.length_map] using g1
  replace h := bindS h
  obtain ⟨y6, hy6, h⟩ := h
  have c7 := c_law12_few a4 _ hy6
  replace h := bindS h
  obtain ⟨y8, hy8, h⟩ := h
  have c9 : CallP Try.prog 54 [(I a0), (LV.ro 1 ((a1.map iC).take ((mn (((a1.map iC).length : Nat) : Int) 12) : Int).toNat)), (I a2), (I a3)] (LV.tup [(LV.agg [(I y8.1.Self.ID), (LV.ro 1 (y8.1.Self.Costs.map iC)), (LV.ro 1 (y8.1.Self.Ups.map bC)), (LV.ro 6 (y8.1.Self.Infos.map InfoT.cells)), (LV.ro 2 (y8.1.States.map PortStateT.cells)), (I y8.1.Max), (I y8.1.Delay)]), (I y8.2)]) := by first | exact c_stp_New a0 (a1.take ((mn ((a1.length : Nat) : Int) 12) : Int).toNat) a2 a3 _ hy8 | (simpa only [se_map, se_byL, se_len, se_ch, List.length_map] using c_stp_New a0 (a1.take ((mn ((a1.length : Nat) : Int) 12) : Int).toNat) a2 a3 _ hy8)
  replace h := bindS h
  obtain ⟨y10, hy10, h⟩ := h
  have c11 := c_stp_Hear y6 a5 a6 _ hy10
  replace h := bindS h
  obtain ⟨y12, hy12, h⟩ := h
  have c13 := c_stp_Right y6 _ hy12
  replace h := bindS h
  obtain ⟨y60, hy60, h⟩ := h
  have c61 := c_ref12_Right y6 _ hy60
  replace h := bindS h
  obtain ⟨y62, hy62, h⟩ := h
  have c63 := fun (hg : (!(!(y12 == y60))) = true) => c_law12_alive  _ (gdS hg hy62)
  repeat' first | with_reducible rfl | with_reducible exact True.intro | with_reducible assumption | refine parkI ?_ | (refine ⟨_, c63, ?_⟩; conv => whnf) | exact g1 | (refine CallP.use c7 ?_; conv => whnf) | (refine ⟨_, _, CallP.at c7, ?_⟩; conv => whnf) | (refine ⟨_, fun _ => c7, ?_⟩; conv => whnf) | (refine CallP.use c9 ?_; conv => whnf) | (refine ⟨_, _, CallP.at c9, ?_⟩; conv => whnf) | (refine ⟨_, fun _ => c9, ?_⟩; conv => whnf) | (refine CallP.use c11 ?_; conv => whnf) | (refine ⟨_, _, CallP.at c11, ?_⟩; conv => whnf) | (refine ⟨_, fun _ => c11, ?_⟩; conv => whnf) | (refine CallP.use c13 ?_; conv => whnf) | (refine ⟨_, _, CallP.at c13, ?_⟩; conv => whnf) | (refine ⟨_, fun _ => c13, ?_⟩; conv => whnf) | (refine CallP.use c61 ?_; conv => whnf) | (refine ⟨_, _, CallP.at c61, ?_⟩; conv => whnf) | (refine ⟨_, fun _ => c61, ?_⟩; conv => whnf) | (refine W.drawn TT_ok hmix1 rfl ?_; conv => whnf) | (refine W.drawnM (id := 1) 0 TT_ok hmix1 [0, 0, 0, 0, 0, 0, 0, 0, 0] [0, 0, 0, 0, 0, 0, 0, 0, 1] rfl ?_; conv => whnf) | exact clA _ | (refine And.intro ?_ ?_ <;> conv => whnf) | exact clG _ | (refine gand ?_ h; assumption) | exact clN _ | fail
  refine parkE (fun hc => ?_) (fun hc => ?_)
  · replace h := condT hc h
    conv => whnf
    have e := Option.some.inj h
    subst e
    repeat' first | with_reducible rfl | with_reducible exact True.intro | with_reducible assumption | (refine W.drawn TT_ok hmix1 rfl ?_; conv => whnf) | (refine W.drawnM (id := 1) 0 TT_ok hmix1 [0, 0, 0, 0, 0, 0, 0, 0, 0] [0, 0, 0, 0, 0, 0, 0, 0, 1] rfl ?_; conv => whnf) | exact clA _ | (refine And.intro ?_ ?_ <;> conv => whnf) | exact clG _ | (refine gand ?_ h; assumption) | exact clN _ | fail
  · replace h := condF hc h
    conv => whnf
    replace h := bindS h
    obtain ⟨y80, hy80, h⟩ := h
    have c81 : CallP Try.prog 59 [(I a0), (LV.ro 1 ((a1.map iC).take ((mn (((a1.map iC).length : Nat) : Int) 12) : Int).toNat)), (I a2), (I a3)] (LV.tup [(LV.agg [(I y80.1.Self.ID), (LV.ro 1 (y80.1.Self.Costs.map iC)), (LV.ro 1 (y80.1.Self.Ups.map bC)), (LV.ro 6 (y80.1.Self.Infos.map InfoT.cells)), (LV.ro 2 (y80.1.States.map PortStateT.cells)), (I y80.1.Max), (I y80.1.Delay)]), (LV.bool y80.2)]) := by first | exact c_ref12_New a0 (a1.take ((mn ((a1.length : Nat) : Int) 12) : Int).toNat) a2 a3 _ hy80 | (simpa only [se_map, se_byL, se_len, se_ch, List.length_map] using c_ref12_New a0 (a1.take ((mn ((a1.length : Nat) : Int) 12) : Int).toNat) a2 a3 _ hy80)
    replace h := bindS h
    obtain ⟨y92, hy92, h⟩ := h
    have c93 := fun (hg : (bif y80.2 then (!(!decide (y8.2 = 0))) else false) = true) => c_ref12_Same y8.1 y80.1 _ (gdS hg hy92)
    replace h := bindS h
    obtain ⟨y94, hy94, h⟩ := h
    have c95 : (bif (bif (!(bif y80.2 then (bif (!decide (y8.2 = 0)) then true else (!y92)) else false)) then (!y80.2) else false) then (!(!decide (y8.2 = 2))) else false) = true → CallP Try.prog 60 [(LV.agg [(I y8.1.Self.ID), (LV.ro 1 (y8.1.Self.Costs.map iC)), (LV.ro 1 (y8.1.Self.Ups.map bC)), (LV.ro 6 (y8.1.Self.Infos.map InfoT.cells)), (LV.ro 2 (y8.1.States.map PortStateT.cells)), (I y8.1.Max), (I y8.1.Delay)]), (LV.agg [(I 0), LV.nils, LV.nils, LV.nils, LV.nils, (I 0), (I 0)])] (LV.bool y94) := by first | exact fun (hg : (bif (bif (!(bif y80.2 then (bif (!decide (y8.2 = 0)) then true else (!y92)) else false)) then (!y80.2) else false) then (!(!decide (y8.2 = 2))) else false) = true) => c_ref12_Same y8.1 (⟨(⟨0, [], [], []⟩ : SelfT), [], 0, 0⟩ : StpT) _ (gdS hg hy94) | (simpa only [se_map, se_byL, se_len, se_ch, List.length_map] using fun (hg : (bif (bif (!(bif y80.2 then (bif (!decide (y8.2 = 0)) then true else (!y92)) else false)) then (!y80.2) else false) then (!(!decide (y8.2 = 2))) else false) = true) => c_ref12_Same y8.1 (⟨(⟨0, [], [], []⟩ : SelfT), [], 0, 0⟩ : StpT) _ (gdS hg hy94)) | exact fun (hg : (bif (bif (!(bif y80.2 then (bif (!decide (y8.2 = 0)) then true else (!y92)) else false)) then (!y80.2) else false) then (!(!decide (y8.2 = 2))) else false) = true) => CallP.up (c_ref12_Same y8.1 (⟨(⟨0, [], [], []⟩ : SelfT), [], 0, 0⟩ : StpT) _ (gdS hg hy94)) upT
    repeat' first | with_reducible rfl | with_reducible exact True.intro | with_reducible assumption | refine parkI ?_ | (refine ⟨_, c93, ?_⟩; conv => whnf) | (refine ⟨_, c95, ?_⟩; conv => whnf) | (refine CallP.use c81 ?_; conv => whnf) | (refine ⟨_, _, CallP.at c81, ?_⟩; conv => whnf) | (refine ⟨_, fun _ => c81, ?_⟩; conv => whnf) | (refine W.drawn TT_ok hmix1 rfl ?_; conv => whnf) | (refine W.drawnM (id := 1) 0 TT_ok hmix1 [0, 0, 0, 0, 0, 0, 0, 0, 0] [0, 0, 0, 0, 0, 0, 0, 0, 1] rfl ?_; conv => whnf) | exact clA _ | (refine And.intro ?_ ?_ <;> conv => whnf) | exact clG _ | (refine gand ?_ h; assumption) | exact clN _ | fail
    refine parkE (fun hc => ?_) (fun hc => ?_)
    · replace h := condT hc h
      conv => whnf
      have e := Option.some.inj h
      subst e
      repeat' first | with_reducible rfl | with_reducible exact True.intro | with_reducible assumption | (refine W.drawn TT_ok hmix1 rfl ?_; conv => whnf) | (refine W.drawnM (id := 1) 0 TT_ok hmix1 [0, 0, 0, 0, 0, 0, 0, 0, 0] [0, 0, 0, 0, 0, 0, 0, 0, 1] rfl ?_; conv => whnf) | exact clA _ | (refine And.intro ?_ ?_ <;> conv => whnf) | exact clG _ | (refine gand ?_ h; assumption) | exact clN _ | fail
    · replace h := condF hc h
      conv => whnf
      repeat' first | with_reducible rfl | with_reducible exact True.intro | with_reducible assumption | refine parkI ?_ | (refine CallP.use c61 ?_; conv => whnf) | (refine ⟨_, _, CallP.at c61, ?_⟩; conv => whnf) | (refine ⟨_, fun _ => c61, ?_⟩; conv => whnf) | (refine W.drawn TT_ok hmix1 rfl ?_; conv => whnf) | (refine W.drawnM (id := 1) 0 TT_ok hmix1 [0, 0, 0, 0, 0, 0, 0, 0, 0] [0, 0, 0, 0, 0, 0, 0, 0, 1] rfl ?_; conv => whnf) | exact clA _ | (refine And.intro ?_ ?_ <;> conv => whnf) | exact clG _ | (refine gand ?_ h; assumption) | exact clN _ | fail
      refine parkE (fun hc => ?_) (fun hc => ?_)
      · replace h := condT hc h
        conv => whnf
        repeat' first | with_reducible rfl | with_reducible exact True.intro | with_reducible assumption | refine parkI ?_ | (refine W.drawn TT_ok hmix1 rfl ?_; conv => whnf) | (refine W.drawnM (id := 1) 0 TT_ok hmix1 [0, 0, 0, 0, 0, 0, 0, 0, 0] [0, 0, 0, 0, 0, 0, 0, 0, 1] rfl ?_; conv => whnf) | exact clA _ | (refine And.intro ?_ ?_ <;> conv => whnf) | exact clG _ | (refine gand ?_ h; assumption) | exact clN _ | fail
        refine parkE (fun hc => ?_) (fun hc => ?_)
        · conv => whnf
          replace h := bindS h
          obtain ⟨y96, hy96, h⟩ := h
          have c97 : (bif (decide (y10.2.2 = 1)) then (!y10.2.1) else false) = true → CallP Try.prog 60 [(LV.agg [(I y10.1.Self.ID), (LV.ro 1 (y10.1.Self.Costs.map iC)), (LV.ro 1 (y10.1.Self.Ups.map bC)), (LV.ro 6 (y10.1.Self.Infos.map InfoT.cells)), (LV.ro 2 (y10.1.States.map PortStateT.cells)), (I y10.1.Max), (I y10.1.Delay)]), (LV.agg [(I 0), LV.nils, LV.nils, LV.nils, LV.nils, (I 0), (I 0)])] (LV.bool y96) := by first | exact fun (hg : (bif (decide (y10.2.2 = 1)) then (!y10.2.1) else false) = true) => c_ref12_Same y10.1 (⟨(⟨0, [], [], []⟩ : SelfT), [], 0, 0⟩ : StpT) _ (gdS hg hy96) | (simpa only [se_map, se_byL, se_len, se_ch, List.length_map] using fun (hg : (bif (decide (y10.2.2 = 1)) then (!y10.2.1) else false) = true) => c_ref12_Same y10.1 (⟨(⟨0, [], [], []⟩ : SelfT), [], 0, 0⟩ : StpT) _ (gdS hg hy96)) | exact fun (hg : (bif (decide (y10.2.2 = 1)) then (!y10.2.1) else false) = true) => CallP.up (c_ref12_Same y10.1 (⟨(⟨0, [], [], []⟩ : SelfT), [], 0, 0⟩ : StpT) _ (gdS hg hy96)) upT
          have e := Option.some.inj h
          subst e
          repeat' first | with_reducible rfl | with_reducible exact True.intro | with_reducible assumption | (refine ⟨_, c97, ?_⟩; conv => whnf) | (refine W.drawn TT_ok hmix1 rfl ?_; conv => whnf) | (refine W.drawnM (id := 1) 0 TT_ok hmix1 [0, 0, 0, 0, 0, 0, 0, 0, 0] [0, 0, 0, 0, 0, 0, 0, 0, 1] rfl ?_; conv => whnf) | exact clA _ | (refine And.intro ?_ ?_ <;> conv => whnf) | exact clG _ | (refine gand ?_ h; assumption) | exact clN _ | fail
        · exact (Bool.false_ne_true (hc.symm.trans (rfl : (!decide (1 = 0)) = true))).elim
      · replace h := condF hc h
        conv => whnf
        repeat' first | with_reducible rfl | with_reducible exact True.intro | with_reducible assumption | refine parkI ?_ | (refine W.drawn TT_ok hmix1 rfl ?_; conv => whnf) | (refine W.drawnM (id := 1) 0 TT_ok hmix1 [0, 0, 0, 0, 0, 0, 0, 0, 0] [0, 0, 0, 0, 0, 0, 0, 0, 1] rfl ?_; conv => whnf) | exact clA _ | (refine And.intro ?_ ?_ <;> conv => whnf) | exact clG _ | (refine gand ?_ h; assumption) | exact clN _ | fail
        refine parkE (fun hc => ?_) (fun hc => ?_)
        · replace h := condT (by first | exact hc | simpa only [se_len, se_ch, List.length_map] using hc) h
          conv => whnf
          repeat' first | with_reducible rfl | with_reducible exact True.intro | with_reducible assumption | refine parkI ?_ | (refine W.drawn TT_ok hmix1 rfl ?_; conv => whnf) | (refine W.drawnM (id := 1) 0 TT_ok hmix1 [0, 0, 0, 0, 0, 0, 0, 0, 0] [0, 0, 0, 0, 0, 0, 0, 0, 1] rfl ?_; conv => whnf) | exact clA _ | (refine And.intro ?_ ?_ <;> conv => whnf) | exact clG _ | (refine gand ?_ h; assumption) | exact clN _ | fail
          refine parkE (fun hc => ?_) (fun hc => ?_)
          · conv => whnf
            replace h := bindS h
            obtain ⟨y98, hy98, h⟩ := h
            have c99 : (bif (decide (y10.2.2 = 3)) then (!y10.2.1) else false) = true → CallP Try.prog 60 [(LV.agg [(I y10.1.Self.ID), (LV.ro 1 (y10.1.Self.Costs.map iC)), (LV.ro 1 (y10.1.Self.Ups.map bC)), (LV.ro 6 (y10.1.Self.Infos.map InfoT.cells)), (LV.ro 2 (y10.1.States.map PortStateT.cells)), (I y10.1.Max), (I y10.1.Delay)]), (LV.agg [(I 0), LV.nils, LV.nils, LV.nils, LV.nils, (I 0), (I 0)])] (LV.bool y98) := by first | exact fun (hg : (bif (decide (y10.2.2 = 3)) then (!y10.2.1) else false) = true) => c_ref12_Same y10.1 (⟨(⟨0, [], [], []⟩ : SelfT), [], 0, 0⟩ : StpT) _ (gdS hg hy98) | (simpa only [se_map, se_byL, se_len, se_ch, List.length_map] using fun (hg : (bif (decide (y10.2.2 = 3)) then (!y10.2.1) else false) = true) => c_ref12_Same y10.1 (⟨(⟨0, [], [], []⟩ : SelfT), [], 0, 0⟩ : StpT) _ (gdS hg hy98)) | exact fun (hg : (bif (decide (y10.2.2 = 3)) then (!y10.2.1) else false) = true) => CallP.up (c_ref12_Same y10.1 (⟨(⟨0, [], [], []⟩ : SelfT), [], 0, 0⟩ : StpT) _ (gdS hg hy98)) upT
            have e := Option.some.inj h
            subst e
            repeat' first | with_reducible rfl | with_reducible exact True.intro | with_reducible assumption | (refine ⟨_, c99, ?_⟩; conv => whnf) | (refine W.drawn TT_ok hmix1 rfl ?_; conv => whnf) | (refine W.drawnM (id := 1) 0 TT_ok hmix1 [0, 0, 0, 0, 0, 0, 0, 0, 0] [0, 0, 0, 0, 0, 0, 0, 0, 1] rfl ?_; conv => whnf) | exact clA _ | (refine And.intro ?_ ?_ <;> conv => whnf) | exact clG _ | (refine gand ?_ h; assumption) | exact clN _ | fail
          · exact (Bool.false_ne_true (hc.symm.trans (rfl : (!decide (3 = 0)) = true))).elim
        · replace h := condF (by first | exact hc | simpa only [se_len, se_ch, List.length_map] using hc) h
          conv => whnf
          replace h := bindS h
          obtain ⟨y102, hy102, h⟩ := h
          have c103 := c_ref12_Config a6 _ hy102
          repeat' first | with_reducible rfl | with_reducible exact True.intro | with_reducible assumption | refine parkI ?_ | (refine CallP.use c103 ?_; conv => whnf) | (refine ⟨_, _, CallP.at c103, ?_⟩; conv => whnf) | (refine ⟨_, fun _ => c103, ?_⟩; conv => whnf) | (refine W.drawn TT_ok hmix1 rfl ?_; conv => whnf) | (refine W.drawnM (id := 1) 0 TT_ok hmix1 [0, 0, 0, 0, 0, 0, 0, 0, 0] [0, 0, 0, 0, 0, 0, 0, 0, 1] rfl ?_; conv => whnf) | exact clA _ | (refine And.intro ?_ ?_ <;> conv => whnf) | exact clG _ | (refine gand ?_ h; assumption) | exact clN _ | fail
          refine parkE (fun hc => ?_) (fun hc => ?_)
          · replace h := condT hc h
            conv => whnf
            repeat' first | with_reducible rfl | with_reducible exact True.intro | with_reducible assumption | refine parkI ?_ | (refine W.drawn TT_ok hmix1 rfl ?_; conv => whnf) | (refine W.drawnM (id := 1) 0 TT_ok hmix1 [0, 0, 0, 0, 0, 0, 0, 0, 0] [0, 0, 0, 0, 0, 0, 0, 0, 1] rfl ?_; conv => whnf) | exact clA _ | (refine And.intro ?_ ?_ <;> conv => whnf) | exact clG _ | (refine gand ?_ h; assumption) | exact clN _ | fail
            refine parkE (fun hc => ?_) (fun hc => ?_)
            · conv => whnf
              replace h := bindS h
              obtain ⟨y104, hy104, h⟩ := h
              have c105 : (bif (decide (y10.2.2 = 1)) then (!y10.2.1) else false) = true → CallP Try.prog 60 [(LV.agg [(I y10.1.Self.ID), (LV.ro 1 (y10.1.Self.Costs.map iC)), (LV.ro 1 (y10.1.Self.Ups.map bC)), (LV.ro 6 (y10.1.Self.Infos.map InfoT.cells)), (LV.ro 2 (y10.1.States.map PortStateT.cells)), (I y10.1.Max), (I y10.1.Delay)]), (LV.agg [(I 0), LV.nils, LV.nils, LV.nils, LV.nils, (I 0), (I 0)])] (LV.bool y104) := by first | exact fun (hg : (bif (decide (y10.2.2 = 1)) then (!y10.2.1) else false) = true) => c_ref12_Same y10.1 (⟨(⟨0, [], [], []⟩ : SelfT), [], 0, 0⟩ : StpT) _ (gdS hg hy104) | (simpa only [se_map, se_byL, se_len, se_ch, List.length_map] using fun (hg : (bif (decide (y10.2.2 = 1)) then (!y10.2.1) else false) = true) => c_ref12_Same y10.1 (⟨(⟨0, [], [], []⟩ : SelfT), [], 0, 0⟩ : StpT) _ (gdS hg hy104)) | exact fun (hg : (bif (decide (y10.2.2 = 1)) then (!y10.2.1) else false) = true) => CallP.up (c_ref12_Same y10.1 (⟨(⟨0, [], [], []⟩ : SelfT), [], 0, 0⟩ : StpT) _ (gdS hg hy104)) upT
              have e := Option.some.inj h
              subst e
              repeat' first | with_reducible rfl | with_reducible exact True.intro | with_reducible assumption | (refine ⟨_, c105, ?_⟩; conv => whnf) | (refine W.drawn TT_ok hmix1 rfl ?_; conv => whnf) | (refine W.drawnM (id := 1) 0 TT_ok hmix1 [0, 0, 0, 0, 0, 0, 0, 0, 0] [0, 0, 0, 0, 0, 0, 0, 0, 1] rfl ?_; conv => whnf) | exact clA _ | (refine And.intro ?_ ?_ <;> conv => whnf) | exact clG _ | (refine gand ?_ h; assumption) | exact clN _ | fail
            · exact (Bool.false_ne_true (hc.symm.trans (rfl : (!decide (1 = 0)) = true))).elim
          · replace h := condF hc h
            conv => whnf
            repeat' first | with_reducible rfl | with_reducible exact True.intro | with_reducible assumption | refine parkI ?_ | (refine W.drawn TT_ok hmix1 rfl ?_; conv => whnf) | (refine W.drawnM (id := 1) 0 TT_ok hmix1 [0, 0, 0, 0, 0, 0, 0, 0, 0] [0, 0, 0, 0, 0, 0, 0, 0, 1] rfl ?_; conv => whnf) | exact clA _ | (refine And.intro ?_ ?_ <;> conv => whnf) | exact clG _ | (refine gand ?_ h; assumption) | exact clN _ | fail
            refine parkE (fun hc => ?_) (fun hc => ?_)
            · exact (Bool.false_ne_true (((rfl : (!decide (0 = 0)) = false)).symm.trans hc)).elim
            · conv => whnf
              replace h := bindS h
              obtain ⟨y118, hy118, h⟩ := h
              have c119 := c_ref12_Hear y6 a5 a6 _ hy118
              replace h := bindS h
              obtain ⟨y120, hy120, h⟩ := h
              have c121 := fun (hg : (bif (decide (y10.2.2 = 0)) then (y10.2.1 == y118.2) else false) = true) => c_ref12_Same y10.1 y118.1 _ (gdS hg hy120)
              have e := Option.some.inj h
              subst e
              repeat' first | with_reducible rfl | with_reducible exact True.intro | with_reducible assumption | (refine ⟨_, c121, ?_⟩; conv => whnf) | (refine CallP.use c119 ?_; conv => whnf) | (refine ⟨_, _, CallP.at c119, ?_⟩; conv => whnf) | (refine ⟨_, fun _ => c119, ?_⟩; conv => whnf) | (refine W.drawn TT_ok hmix1 rfl ?_; conv => whnf) | (refine W.drawnM (id := 1) 0 TT_ok hmix1 [0, 0, 0, 0, 0, 0, 0, 0, 0] [0, 0, 0, 0, 0, 0, 0, 0, 1] rfl ?_; conv => whnf) | exact clA _ | (refine And.intro ?_ ?_ <;> conv => whnf) | exact clG _ | (refine gand ?_ h; assumption) | exact clN _ | fail

end Go.RX
