/- Plain functions, and what says that the program's functions compute them. -/
import Derived.Test.YtoahcombdhgmhaaTd
import Derived.Test.YtoahcombdhgmhaaTe
set_option linter.unusedVariables false
set_option linter.unusedSimpArgs false
open Go Go.RX Go.Proofs
namespace Go.RX
set_option maxRecDepth 10000
set_option maxHeartbeats 4000000
attribute [local irreducible] CallW CallP LoopW W IntKind.wrap bitI
def ref12_aged_b26 (a0 : StpT) (k26 : Nat) (x26 : InfoT) (s26 : (List InfoT)) : Option (Step StpT (List InfoT)) :=
  (bif x26.Has then
    (bif (decide (a0.Max ≤ (IntKind.i64.wrap (x26.Age + 1)))) then
      grd (fits ((s26 ++ ([(⟨false, (⟨0, 0, 0, 0⟩ : VecT), 0⟩ : InfoT)] : (List InfoT))) : List InfoT).length 48) <|
      some (.nxt (s26 ++ ([(⟨false, (⟨0, 0, 0, 0⟩ : VecT), 0⟩ : InfoT)] : (List InfoT))))
    else
      grd (fits ((s26 ++ ([(⟨x26.Has, x26.Vec, (IntKind.i64.wrap (x26.Age + 1))⟩ : InfoT)] : (List InfoT))) : List InfoT).length 48) <|
      some (.nxt (s26 ++ ([(⟨x26.Has, x26.Vec, (IntKind.i64.wrap (x26.Age + 1))⟩ : InfoT)] : (List InfoT)))))
  else
    (bif (decide (a0.Max ≤ x26.Age)) then
      grd (fits ((s26 ++ ([(⟨false, (⟨0, 0, 0, 0⟩ : VecT), 0⟩ : InfoT)] : (List InfoT))) : List InfoT).length 48) <|
      some (.nxt (s26 ++ ([(⟨false, (⟨0, 0, 0, 0⟩ : VecT), 0⟩ : InfoT)] : (List InfoT))))
    else
      grd (fits ((s26 ++ ([x26] : (List InfoT))) : List InfoT).length 48) <|
      some (.nxt (s26 ++ ([x26] : (List InfoT))))))

def ref12_aged (a0 : StpT) : Option StpT :=
  aft (rangeL (ref12_aged_b26 a0) a0.Self.Infos ([] : (List InfoT))) fun s26 =>
  some (⟨(⟨a0.Self.ID, a0.Self.Costs, a0.Self.Ups, s26⟩ : SelfT), a0.States, a0.Max, a0.Delay⟩ : StpT)

theorem c_ref12_aged (a0 : StpT) (r : StpT) (h : ref12_aged a0 = some r) : CallP Try.prog 188 [(LV.agg [(I a0.Self.ID), (LV.ro 1 (a0.Self.Costs.map iC)), (LV.ro 1 (a0.Self.Ups.map bC)), (LV.ro 6 (a0.Self.Infos.map InfoT.cells)), (LV.ro 2 (a0.States.map PortStateT.cells)), (I a0.Max), (I a0.Delay)])] (LV.agg [(I r.Self.ID), (LV.ro 1 (r.Self.Costs.map iC)), (LV.ro 1 (r.Self.Ups.map bC)), (LV.ro 6 (r.Self.Infos.map InfoT.cells)), (LV.ro 2 (r.States.map PortStateT.cells)), (I r.Max), (I r.Delay)]) := by
  unfold ref12_aged at h
  refine .intro nlA (.intro TT_ok Try.func188 rfl rfl [0, 1, 2, 3, 5, 9, 10, 11, 12, 16, 25] rfl ?_)
  conv => whnf
  repeat' first | with_reducible rfl | with_reducible exact True.intro | with_reducible assumption | refine parkI ?_ | (refine And.intro ?_ ?_ <;> conv => whnf) | fail
  replace h := aftS h
  obtain ⟨O26, hO26, r26⟩ := h
  refine LoopW.norm [(1, (LV.ptr 0 0 0)), (2, (LV.ptr 1 0 0)), (3, (LV.sl 2 0 (([] : (List InfoT)).map InfoT.cells).length)), (9, (LV.ro 6 (a0.Self.Infos.map InfoT.cells))), (10, (I (((a0.Self.Infos.map InfoT.cells).length : Nat) : Int))), (11, (I ((0 : Nat) : Int)))] 3 [(0, (.row 85 7 [[(I a0.Self.ID), (LV.ro 1 (a0.Self.Costs.map iC)), (LV.ro 1 (a0.Self.Ups.map bC)), (LV.ro 6 (a0.Self.Infos.map InfoT.cells)), (LV.ro 2 (a0.States.map PortStateT.cells)), (I a0.Max), (I a0.Delay)]])), (1, (.row 85 7 [[(I 0), LV.nils, LV.nils, LV.nils, LV.nils, (I 0), (I 0)]])), (2, (.row 120 6 (([] : (List InfoT)).map InfoT.cells)))] ⟨rfl, rfl, (by exact congrArg (LV.sl 2 0) (clL _ : 0 = (([] : (List InfoT)).map InfoT.cells).length)), rfl, rfl, rfl, trivial⟩ ⟨⟨rfl, rfl, blT⟩, ⟨⟨rfl, rfl, blT⟩, ⟨⟨(congrArg (fun q => some (Blk.row 120 6 q)) (smT : (([] : List (List LV)) : List (List LV)) = (([] : (List InfoT)).map InfoT.cells))), rfl, NLss_bel (NLss_map' _)⟩, trivial⟩⟩⟩ blT rfl ?_
  refine LoopW.forR (fun k26 s26 => [(1, (LV.ptr 0 0 0)), (2, (LV.ptr 1 0 0)), (3, (LV.sl 2 0 (s26.map InfoT.cells).length)), (9, (LV.ro 6 (a0.Self.Infos.map InfoT.cells))), (10, (I (((a0.Self.Infos.map InfoT.cells).length : Nat) : Int))), (11, (I ((k26 : Nat) : Int)))]) (fun s26 => ⟨3, [(0, (.row 85 7 [[(I a0.Self.ID), (LV.ro 1 (a0.Self.Costs.map iC)), (LV.ro 1 (a0.Self.Ups.map bC)), (LV.ro 6 (a0.Self.Infos.map InfoT.cells)), (LV.ro 2 (a0.States.map PortStateT.cells)), (I a0.Max), (I a0.Delay)]])), (1, (.row 85 7 [[(I 0), LV.nils, LV.nils, LV.nils, LV.nils, (I 0), (I 0)]])), (2, (.row 120 6 (s26.map InfoT.cells)))]⟩) hO26 (fun hl26 s26 hs26 => ?_) (fun hl26 k26 x26 s26 o26 hk26 hx26 b26 K26 hret26 hbrk26 => ?_)
  · rw [hs26] at r26
    dsimp only [aftM] at r26
    have hd : decide (((a0.Self.Infos.length : Nat) : Int) < (((a0.Self.Infos.map InfoT.cells).length : Nat) : Int)) = false := by rw [decide_eq_false_iff_not]; (try simp only [se_len, se_ch, List.length_map]); omega
    refine LoopW.round TT_ok [0, 1, 2, 3, 5, 9, 10, 11, 12, 16, 25] ?_
    conv => whnf
    repeat' first | with_reducible rfl | with_reducible exact True.intro | with_reducible assumption | refine parkI ?_ | (refine And.intro ?_ ?_ <;> conv => whnf) | fail
    refine parkE (fun hc => ?_) (fun hc => ?_)
    · exact (Bool.false_ne_true (hd.symm.trans hc)).elim
    · clear hd
      conv => whnf
      have e := Option.some.inj r26
      subst e
      repeat' first | with_reducible rfl | with_reducible exact True.intro | with_reducible assumption | exact clA _ | (refine And.intro ?_ ?_ <;> conv => whnf) | exact clG _ | (refine gand ?_ h; assumption) | exact clN _ | fail
  · unfold ref12_aged_b26 at b26
    have hd : decide (((k26 : Nat) : Int) < (((a0.Self.Infos.map InfoT.cells).length : Nat) : Int)) = true := by rw [decide_eq_true_eq]; (try simp only [se_len, se_ch, List.length_map] at hk26); (try simp only [se_len, se_ch, List.length_map]); omega
    refine LoopW.round TT_ok [0, 1, 2, 3, 5, 9, 10, 11, 12, 16, 25] ?_
    conv => whnf
    repeat' first | with_reducible rfl | with_reducible exact True.intro | with_reducible assumption | refine parkI ?_ | (refine And.intro ?_ ?_ <;> conv => whnf) | fail
    refine parkE (fun hc => ?_) (fun hc => ?_)
    · clear hd
      conv => whnf
      repeat' first | with_reducible rfl | with_reducible exact True.intro | with_reducible assumption | refine parkI ?_ | (refine ⟨_, (kixF (f := InfoT.cells) hx26), ?_⟩; conv => whnf) | (refine And.intro ?_ ?_ <;> conv => whnf) | fail
      refine parkE (fun hc => ?_) (fun hc => ?_)
      · replace b26 := condT hc b26
        conv => whnf
        repeat' first | with_reducible rfl | with_reducible exact True.intro | with_reducible assumption | refine parkI ?_ | (refine And.intro ?_ ?_ <;> conv => whnf) | fail
        refine parkE (fun hc => ?_) (fun hc => ?_)
        · replace b26 := condT hc b26
          conv => whnf
          replace b26 := grdS b26
          obtain ⟨g17, b26⟩ := b26
          replace g17 : fits (((s26.map InfoT.cells) ++ [[(LV.bool false), (I 0), (I 0), (I 0), (I 0), (I 0)]])).length 48 := by simpa only [se_len, se_ch, List.length_map] using g17
          repeat' first | with_reducible rfl | with_reducible exact True.intro | with_reducible assumption | refine parkI ?_ | exact g17 | exact clA _ | (refine And.intro ?_ ?_ <;> conv => whnf) | exact clN _ | fail
          have e := Option.some.inj b26
          refine LoopW.ren [(0, 0), (1, 1), (5, 2)] [(1, (LV.ptr 0 0 0)), (2, (LV.ptr 1 0 0)), (3, (LV.sl 2 0 ((s26 ++ ([(⟨false, (⟨0, 0, 0, 0⟩ : VecT), 0⟩ : InfoT)] : (List InfoT))).map InfoT.cells).length)), (9, (LV.ro 6 (a0.Self.Infos.map InfoT.cells))), (10, (I (((a0.Self.Infos.map InfoT.cells).length : Nat) : Int))), (11, (I ((k26 + 1 : Nat) : Int)))] 3 [(0, (.row 85 7 [[(I a0.Self.ID), (LV.ro 1 (a0.Self.Costs.map iC)), (LV.ro 1 (a0.Self.Ups.map bC)), (LV.ro 6 (a0.Self.Infos.map InfoT.cells)), (LV.ro 2 (a0.States.map PortStateT.cells)), (I a0.Max), (I a0.Delay)]])), (1, (.row 85 7 [[(I 0), LV.nils, LV.nils, LV.nils, LV.nils, (I 0), (I 0)]])), (2, (.row 120 6 ((s26 ++ ([(⟨false, (⟨0, 0, 0, 0⟩ : VecT), 0⟩ : InfoT)] : (List InfoT))).map InfoT.cells)))] rfl ⟨rfl, rfl, (by exact congrArg (LV.sl 2 0) (clL _ : (((s26.map InfoT.cells) ++ [[(LV.bool false), (I 0), (I 0), (I 0), (I 0), (I 0)]])).length = ((s26 ++ ([(⟨false, (⟨0, 0, 0, 0⟩ : VecT), 0⟩ : InfoT)] : (List InfoT))).map InfoT.cells).length)), rfl, rfl, (congrArg (LV.int .i64) (w64_nat _ (by omega))), trivial⟩ ⟨⟨rfl, rfl, .inl ⟨rfl, nlT⟩⟩, rfl, rfl, ⟨⟨rfl, rfl, .inl ⟨rfl, nlT⟩⟩, rfl, rfl, ⟨⟨rfl, rfl, .inl ⟨(by first | (simp only [se_map, se_byL, se_len, se_ch, List.length_map]; done) | (simp only [se_map, se_byL, se_len, se_ch, List.length_map, InfoT.cells, VecT.cells]; done) : (((s26.map InfoT.cells) ++ [[(LV.bool false), (I 0), (I 0), (I 0), (I 0), (I 0)]]) : List (List LV)) = ((s26 ++ ([(⟨false, (⟨0, 0, 0, 0⟩ : VecT), 0⟩ : InfoT)] : (List InfoT))).map InfoT.cells)), nlT⟩⟩, rfl, rfl, trivial⟩⟩⟩ rfl (K26 _ e.symm)
        · replace b26 := condF hc b26
          conv => whnf
          replace b26 := grdS b26
          obtain ⟨g18, b26⟩ := b26
          replace g18 : fits (((s26.map InfoT.cells) ++ [[(LV.bool x26.Has), (I x26.Vec.Root), (I x26.Vec.Cost), (I x26.Vec.Bridge), (I x26.Vec.Port), (I (IntKind.i64.wrap (x26.Age + 1)))]])).length 48 := by simpa only [se_len, se_ch, List.length_map] using g18
          repeat' first | with_reducible rfl | with_reducible exact True.intro | with_reducible assumption | refine parkI ?_ | exact g18 | exact clA _ | (refine And.intro ?_ ?_ <;> conv => whnf) | exact clN _ | fail
          have e := Option.some.inj b26
          refine LoopW.ren [(0, 0), (1, 1), (5, 2)] [(1, (LV.ptr 0 0 0)), (2, (LV.ptr 1 0 0)), (3, (LV.sl 2 0 ((s26 ++ ([(⟨x26.Has, x26.Vec, (IntKind.i64.wrap (x26.Age + 1))⟩ : InfoT)] : (List InfoT))).map InfoT.cells).length)), (9, (LV.ro 6 (a0.Self.Infos.map InfoT.cells))), (10, (I (((a0.Self.Infos.map InfoT.cells).length : Nat) : Int))), (11, (I ((k26 + 1 : Nat) : Int)))] 3 [(0, (.row 85 7 [[(I a0.Self.ID), (LV.ro 1 (a0.Self.Costs.map iC)), (LV.ro 1 (a0.Self.Ups.map bC)), (LV.ro 6 (a0.Self.Infos.map InfoT.cells)), (LV.ro 2 (a0.States.map PortStateT.cells)), (I a0.Max), (I a0.Delay)]])), (1, (.row 85 7 [[(I 0), LV.nils, LV.nils, LV.nils, LV.nils, (I 0), (I 0)]])), (2, (.row 120 6 ((s26 ++ ([(⟨x26.Has, x26.Vec, (IntKind.i64.wrap (x26.Age + 1))⟩ : InfoT)] : (List InfoT))).map InfoT.cells)))] rfl ⟨rfl, rfl, (by exact congrArg (LV.sl 2 0) (clL _ : (((s26.map InfoT.cells) ++ [[(LV.bool x26.Has), (I x26.Vec.Root), (I x26.Vec.Cost), (I x26.Vec.Bridge), (I x26.Vec.Port), (I (IntKind.i64.wrap (x26.Age + 1)))]])).length = ((s26 ++ ([(⟨x26.Has, x26.Vec, (IntKind.i64.wrap (x26.Age + 1))⟩ : InfoT)] : (List InfoT))).map InfoT.cells).length)), rfl, rfl, (congrArg (LV.int .i64) (w64_nat _ (by omega))), trivial⟩ ⟨⟨rfl, rfl, .inl ⟨rfl, nlT⟩⟩, rfl, rfl, ⟨⟨rfl, rfl, .inl ⟨rfl, nlT⟩⟩, rfl, rfl, ⟨⟨rfl, rfl, .inl ⟨(by first | (simp only [se_map, se_byL, se_len, se_ch, List.length_map]; done) | (simp only [se_map, se_byL, se_len, se_ch, List.length_map, InfoT.cells]; done) : (((s26.map InfoT.cells) ++ [[(LV.bool x26.Has), (I x26.Vec.Root), (I x26.Vec.Cost), (I x26.Vec.Bridge), (I x26.Vec.Port), (I (IntKind.i64.wrap (x26.Age + 1)))]]) : List (List LV)) = ((s26 ++ ([(⟨x26.Has, x26.Vec, (IntKind.i64.wrap (x26.Age + 1))⟩ : InfoT)] : (List InfoT))).map InfoT.cells)), nlT⟩⟩, rfl, rfl, trivial⟩⟩⟩ rfl (K26 _ e.symm)
      · replace b26 := condF hc b26
        conv => whnf
        repeat' first | with_reducible rfl | with_reducible exact True.intro | with_reducible assumption | refine parkI ?_ | (refine And.intro ?_ ?_ <;> conv => whnf) | fail
        refine parkE (fun hc => ?_) (fun hc => ?_)
        · replace b26 := condT hc b26
          conv => whnf
          replace b26 := grdS b26
          obtain ⟨g19, b26⟩ := b26
          replace g19 : fits (((s26.map InfoT.cells) ++ [[(LV.bool false), (I 0), (I 0), (I 0), (I 0), (I 0)]])).length 48 := by simpa only [se_len, se_ch, List.length_map] using g19
          repeat' first | with_reducible rfl | with_reducible exact True.intro | with_reducible assumption | refine parkI ?_ | exact g19 | exact clA _ | (refine And.intro ?_ ?_ <;> conv => whnf) | exact clN _ | fail
          have e := Option.some.inj b26
          refine LoopW.ren [(0, 0), (1, 1), (5, 2)] [(1, (LV.ptr 0 0 0)), (2, (LV.ptr 1 0 0)), (3, (LV.sl 2 0 ((s26 ++ ([(⟨false, (⟨0, 0, 0, 0⟩ : VecT), 0⟩ : InfoT)] : (List InfoT))).map InfoT.cells).length)), (9, (LV.ro 6 (a0.Self.Infos.map InfoT.cells))), (10, (I (((a0.Self.Infos.map InfoT.cells).length : Nat) : Int))), (11, (I ((k26 + 1 : Nat) : Int)))] 3 [(0, (.row 85 7 [[(I a0.Self.ID), (LV.ro 1 (a0.Self.Costs.map iC)), (LV.ro 1 (a0.Self.Ups.map bC)), (LV.ro 6 (a0.Self.Infos.map InfoT.cells)), (LV.ro 2 (a0.States.map PortStateT.cells)), (I a0.Max), (I a0.Delay)]])), (1, (.row 85 7 [[(I 0), LV.nils, LV.nils, LV.nils, LV.nils, (I 0), (I 0)]])), (2, (.row 120 6 ((s26 ++ ([(⟨false, (⟨0, 0, 0, 0⟩ : VecT), 0⟩ : InfoT)] : (List InfoT))).map InfoT.cells)))] rfl ⟨rfl, rfl, (by exact congrArg (LV.sl 2 0) (clL _ : (((s26.map InfoT.cells) ++ [[(LV.bool false), (I 0), (I 0), (I 0), (I 0), (I 0)]])).length = ((s26 ++ ([(⟨false, (⟨0, 0, 0, 0⟩ : VecT), 0⟩ : InfoT)] : (List InfoT))).map InfoT.cells).length)), rfl, rfl, (congrArg (LV.int .i64) (w64_nat _ (by omega))), trivial⟩ ⟨⟨rfl, rfl, .inl ⟨rfl, nlT⟩⟩, rfl, rfl, ⟨⟨rfl, rfl, .inl ⟨rfl, nlT⟩⟩, rfl, rfl, ⟨⟨rfl, rfl, .inl ⟨(by first | (simp only [se_map, se_byL, se_len, se_ch, List.length_map]; done) | (simp only [se_map, se_byL, se_len, se_ch, List.length_map, InfoT.cells, VecT.cells]; done) : (((s26.map InfoT.cells) ++ [[(LV.bool false), (I 0), (I 0), (I 0), (I 0), (I 0)]]) : List (List LV)) = ((s26 ++ ([(⟨false, (⟨0, 0, 0, 0⟩ : VecT), 0⟩ : InfoT)] : (List InfoT))).map InfoT.cells)), nlT⟩⟩, rfl, rfl, trivial⟩⟩⟩ rfl (K26 _ e.symm)
        · replace b26 := condF hc b26
          conv => whnf
          replace b26 := grdS b26
          obtain ⟨g20, b26⟩ := b26
          replace g20 : fits (((s26.map InfoT.cells) ++ [[(LV.bool x26.Has), (I x26.Vec.Root), (I x26.Vec.Cost), (I x26.Vec.Bridge), (I x26.Vec.Port), (I x26.Age)]])).length 48 := by simpa only [se_len, se_ch, List.length_map] using g20
          repeat' first | with_reducible rfl | with_reducible exact True.intro | with_reducible assumption | refine parkI ?_ | exact g20 | exact clA _ | (refine And.intro ?_ ?_ <;> conv => whnf) | exact clN _ | fail
          have e := Option.some.inj b26
          refine LoopW.ren [(0, 0), (1, 1), (5, 2)] [(1, (LV.ptr 0 0 0)), (2, (LV.ptr 1 0 0)), (3, (LV.sl 2 0 ((s26 ++ ([x26] : (List InfoT))).map InfoT.cells).length)), (9, (LV.ro 6 (a0.Self.Infos.map InfoT.cells))), (10, (I (((a0.Self.Infos.map InfoT.cells).length : Nat) : Int))), (11, (I ((k26 + 1 : Nat) : Int)))] 3 [(0, (.row 85 7 [[(I a0.Self.ID), (LV.ro 1 (a0.Self.Costs.map iC)), (LV.ro 1 (a0.Self.Ups.map bC)), (LV.ro 6 (a0.Self.Infos.map InfoT.cells)), (LV.ro 2 (a0.States.map PortStateT.cells)), (I a0.Max), (I a0.Delay)]])), (1, (.row 85 7 [[(I 0), LV.nils, LV.nils, LV.nils, LV.nils, (I 0), (I 0)]])), (2, (.row 120 6 ((s26 ++ ([x26] : (List InfoT))).map InfoT.cells)))] rfl ⟨rfl, rfl, (by exact congrArg (LV.sl 2 0) (clL _ : (((s26.map InfoT.cells) ++ [[(LV.bool x26.Has), (I x26.Vec.Root), (I x26.Vec.Cost), (I x26.Vec.Bridge), (I x26.Vec.Port), (I x26.Age)]])).length = ((s26 ++ ([x26] : (List InfoT))).map InfoT.cells).length)), rfl, rfl, (congrArg (LV.int .i64) (w64_nat _ (by omega))), trivial⟩ ⟨⟨rfl, rfl, .inl ⟨rfl, nlT⟩⟩, rfl, rfl, ⟨⟨rfl, rfl, .inl ⟨rfl, nlT⟩⟩, rfl, rfl, ⟨⟨rfl, rfl, .inl ⟨(smT : (((s26.map InfoT.cells) ++ [[(LV.bool x26.Has), (I x26.Vec.Root), (I x26.Vec.Cost), (I x26.Vec.Bridge), (I x26.Vec.Port), (I x26.Age)]]) : List (List LV)) = ((s26 ++ ([x26] : (List InfoT))).map InfoT.cells)), nlT⟩⟩, rfl, rfl, trivial⟩⟩⟩ rfl (K26 _ e.symm)
    · exact (Bool.false_ne_true (hc.symm.trans hd)).elim

def ref10_Tick (a0 : PortStateT) (a1 : Int) : Option PortStateT :=
  (bif (bif (!decide (a0.State = 1)) then (!decide (a0.State = 2)) else false) then
    some a0
  else
    (bif (decide (1 < a0.Left)) then
      some (⟨a0.State, (IntKind.i64.wrap (a0.Left - 1))⟩ : PortStateT)
    else
      (bif (decide (a0.State = 1)) then
        some (⟨2, a1⟩ : PortStateT)
      else
        some (⟨3, 0⟩ : PortStateT))))

theorem c_ref10_Tick (a0 : PortStateT) (a1 : Int) (r : PortStateT) (h : ref10_Tick a0 a1 = some r) : CallP Try.prog 189 [(LV.agg [(I a0.State), (I a0.Left)]), (I a1)] (LV.agg [(I r.State), (I r.Left)]) := by
  unfold ref10_Tick at h
  refine .intro nlA (.intro TT_ok Try.func189 rfl rfl [0, 1, 2, 4, 12, 16, 25] rfl ?_)
  conv => whnf
  repeat' first | with_reducible rfl | with_reducible exact True.intro | with_reducible assumption | refine parkI ?_ | exact clA _ | (refine And.intro ?_ ?_ <;> conv => whnf) | exact clG _ | (refine gand ?_ h; assumption) | fail
  refine parkE (fun hc => ?_) (fun hc => ?_)
  · replace h := condT hc h
    conv => whnf
    have e := Option.some.inj h
    subst e
    repeat' first | with_reducible rfl | with_reducible exact True.intro | with_reducible assumption | exact clA _ | (refine And.intro ?_ ?_ <;> conv => whnf) | exact clG _ | (refine gand ?_ h; assumption) | exact clN _ | fail
  · replace h := condF hc h
    conv => whnf
    repeat' first | with_reducible rfl | with_reducible exact True.intro | with_reducible assumption | refine parkI ?_ | (refine And.intro ?_ ?_ <;> conv => whnf) | fail
    refine parkE (fun hc => ?_) (fun hc => ?_)
    · replace h := condT hc h
      conv => whnf
      have e := Option.some.inj h
      subst e
      repeat' first | with_reducible rfl | with_reducible exact True.intro | with_reducible assumption | exact clA _ | (refine And.intro ?_ ?_ <;> conv => whnf) | exact clG _ | (refine gand ?_ h; assumption) | exact clN _ | fail
    · replace h := condF hc h
      conv => whnf
      repeat' first | with_reducible rfl | with_reducible exact True.intro | with_reducible assumption | refine parkI ?_ | (refine And.intro ?_ ?_ <;> conv => whnf) | fail
      refine parkE (fun hc => ?_) (fun hc => ?_)
      · replace h := condT hc h
        conv => whnf
        have e := Option.some.inj h
        subst e
        repeat' first | with_reducible rfl | with_reducible exact True.intro | with_reducible assumption | exact clA _ | (refine And.intro ?_ ?_ <;> conv => whnf) | exact clG _ | (refine gand ?_ h; assumption) | exact clN _ | fail
      · replace h := condF hc h
        conv => whnf
        have e := Option.some.inj h
        subst e
        repeat' first | with_reducible rfl | with_reducible exact True.intro | with_reducible assumption | exact clA _ | (refine And.intro ?_ ?_ <;> conv => whnf) | exact clG _ | (refine gand ?_ h; assumption) | exact clN _ | fail

def ref11_Tell (a0 : SelfT) (a1 : Int) (a2 : Int) : Option (ConfigT × Bool) :=
  (ref11_RootPort a0).bind fun y28 =>
  (bif (decide (0 ≤ y28)) then
    (gix a0.Infos y28).bind fun v30 =>
    (ref11_Role a0 a1).bind fun y32 =>
    (bif (bif (!decide (y32 = 1)) then true else (decide (a2 ≤ (IntKind.i64.wrap (v30.Age + 1))))) then
      some ((⟨(⟨0, 0, 0, 0⟩ : VecT), 0⟩ : ConfigT), false)
    else
      (ref11_Tells a0 a1).bind fun y34 =>
      some ((⟨y34, (IntKind.i64.wrap (v30.Age + 1))⟩ : ConfigT), true))
  else
    (ref11_Role a0 a1).bind fun y36 =>
    (bif (bif (!decide (y36 = 1)) then true else (decide (a2 ≤ 0))) then
      some ((⟨(⟨0, 0, 0, 0⟩ : VecT), 0⟩ : ConfigT), false)
    else
      (ref11_Tells a0 a1).bind fun y38 =>
      some ((⟨y38, 0⟩ : ConfigT), true)))

theorem c_ref11_Tell (a0 : SelfT) (a1 : Int) (a2 : Int) (r : (ConfigT × Bool)) (h : ref11_Tell a0 a1 a2 = some r) : CallP Try.prog 190 [(LV.agg [(I a0.ID), (LV.ro 1 (a0.Costs.map iC)), (LV.ro 1 (a0.Ups.map bC)), (LV.ro 6 (a0.Infos.map InfoT.cells))]), (I a1), (I a2)] (LV.tup [(LV.agg [(I r.1.Vec.Root), (I r.1.Vec.Cost), (I r.1.Vec.Bridge), (I r.1.Vec.Port), (I r.1.Age)]), (LV.bool r.2)]) := by
  unfold ref11_Tell at h
  refine .intro nlA (.intro TT_ok Try.func190 rfl rfl [0, 1, 2, 3, 6, 7, 8, 9, 13, 29] rfl ?_)
  conv => whnf
  replace h := bindS h
  obtain ⟨y28, hy28, h⟩ := h
  have c29 := c_ref11_RootPort a0 _ hy28
  repeat' first | with_reducible rfl | with_reducible exact True.intro | with_reducible assumption | refine parkI ?_ | (refine CallP.use c29 ?_; conv => whnf) | (refine And.intro ?_ ?_ <;> conv => whnf) | fail
  refine parkE (fun hc => ?_) (fun hc => ?_)
  · replace h := condT hc h
    conv => whnf
    replace h := bindS h
    obtain ⟨v30, hv30, h⟩ := h
    have i31 := gixF (f := InfoT.cells) hv30
    replace h := bindS h
    obtain ⟨y32, hy32, h⟩ := h
    have c33 := c_ref11_Role a0 a1 _ hy32
    repeat' first | with_reducible rfl | with_reducible exact True.intro | with_reducible assumption | refine parkI ?_ | (refine ⟨_, i31, ?_⟩; conv => whnf) | (refine CallP.use c33 ?_; conv => whnf) | exact clA _ | (refine And.intro ?_ ?_ <;> conv => whnf) | exact clG _ | (refine gand ?_ h; assumption) | fail
    refine parkE (fun hc => ?_) (fun hc => ?_)
    · replace h := condT hc h
      conv => whnf
      have e := Option.some.inj h
      subst e
      repeat' first | with_reducible rfl | with_reducible exact True.intro | with_reducible assumption | exact clA _ | (refine And.intro ?_ ?_ <;> conv => whnf) | exact clG _ | (refine gand ?_ h; assumption) | exact clN _ | fail
    · replace h := condF hc h
      conv => whnf
      replace h := bindS h
      obtain ⟨y34, hy34, h⟩ := h
      have c35 := c_ref11_Tells a0 a1 _ hy34
      have e := Option.some.inj h
      subst e
      repeat' first | with_reducible rfl | with_reducible exact True.intro | with_reducible assumption | (refine CallP.use c35 ?_; conv => whnf) | exact clA _ | (refine And.intro ?_ ?_ <;> conv => whnf) | exact clG _ | (refine gand ?_ h; assumption) | exact clN _ | fail
  · replace h := condF hc h
    conv => whnf
    replace h := bindS h
    obtain ⟨y36, hy36, h⟩ := h
    have c37 := c_ref11_Role a0 a1 _ hy36
    repeat' first | with_reducible rfl | with_reducible exact True.intro | with_reducible assumption | refine parkI ?_ | (refine CallP.use c37 ?_; conv => whnf) | exact clA _ | (refine And.intro ?_ ?_ <;> conv => whnf) | exact clG _ | (refine gand ?_ h; assumption) | fail
    refine parkE (fun hc => ?_) (fun hc => ?_)
    · replace h := condT hc h
      conv => whnf
      have e := Option.some.inj h
      subst e
      repeat' first | with_reducible rfl | with_reducible exact True.intro | with_reducible assumption | exact clA _ | (refine And.intro ?_ ?_ <;> conv => whnf) | exact clG _ | (refine gand ?_ h; assumption) | exact clN _ | fail
    · replace h := condF hc h
      conv => whnf
      replace h := bindS h
      obtain ⟨y38, hy38, h⟩ := h
      have c39 := c_ref11_Tells a0 a1 _ hy38
      have e := Option.some.inj h
      subst e
      repeat' first | with_reducible rfl | with_reducible exact True.intro | with_reducible assumption | (refine CallP.use c39 ?_; conv => whnf) | exact clA _ | (refine And.intro ?_ ?_ <;> conv => whnf) | exact clG _ | (refine gand ?_ h; assumption) | exact clN _ | fail

def ref12_Tick_b27 (y23 : StpT) (k27 : Nat) (x27 : PortStateT) (s27 : (List PortStateT)) : Option (Step (StpT × (List SendT)) (List PortStateT)) :=
  (ref10_Tick x27 y23.Delay).bind fun y25 =>
  grd (fits ((s27 ++ ([y25] : (List PortStateT))) : List PortStateT).length 16) <|
  some (.nxt (s27 ++ ([y25] : (List PortStateT))))

def ref12_Tick_b28 (y23 : StpT) (k28 : Nat) (s28 : (List SendT)) : Option (Step (StpT × (List SendT)) (List SendT)) :=
  (ref11_Tell y23.Self ((k28 : Nat) : Int) y23.Max).bind fun y40 =>
  (bif y40.2 then
    grd (fits ((s28 ++ ([(⟨((k28 : Nat) : Int), y40.1⟩ : SendT)] : (List SendT))) : List SendT).length 48) <|
    some (.nxt (s28 ++ ([(⟨((k28 : Nat) : Int), y40.1⟩ : SendT)] : (List SendT))))
  else
    some (.nxt s28))

def ref12_Tick (a0 : StpT) : Option (StpT × (List SendT)) :=
  (ref12_aged a0).bind fun y21 =>
  (ref12_settle y21).bind fun y23 =>
  aft (rangeL (ref12_Tick_b27 y23) y23.States ([] : (List PortStateT))) fun s27 =>
  aft (rangeN (ref12_Tick_b28 y23) ((s27.length : Nat) : Int) ([] : (List SendT))) fun s28 =>
  some ((⟨y23.Self, s27, y23.Max, y23.Delay⟩ : StpT), s28)

theorem c_ref12_Tick (a0 : StpT) (r : (StpT × (List SendT))) (h : ref12_Tick a0 = some r) : CallP Try.prog 66 [(LV.agg [(I a0.Self.ID), (LV.ro 1 (a0.Self.Costs.map iC)), (LV.ro 1 (a0.Self.Ups.map bC)), (LV.ro 6 (a0.Self.Infos.map InfoT.cells)), (LV.ro 2 (a0.States.map PortStateT.cells)), (I a0.Max), (I a0.Delay)])] (LV.tup [(LV.agg [(I r.1.Self.ID), (LV.ro 1 (r.1.Self.Costs.map iC)), (LV.ro 1 (r.1.Self.Ups.map bC)), (LV.ro 6 (r.1.Self.Infos.map InfoT.cells)), (LV.ro 2 (r.1.States.map PortStateT.cells)), (I r.1.Max), (I r.1.Delay)]), (LV.ro 6 (r.2.map SendT.cells))]) := by
  unfold ref12_Tick at h
  refine .intro nlA (.intro TT_ok Try.func66 rfl rfl [0, 1, 2, 3, 4, 6, 7, 8, 9, 10, 16, 17, 18, 19, 35, 36, 37, 48] rfl ?_)
  conv => whnf
  replace h := bindS h
  obtain ⟨y21, hy21, h⟩ := h
  have c22 := c_ref12_aged a0 _ hy21
  replace h := bindS h
  obtain ⟨y23, hy23, h⟩ := h
  have c24 := c_ref12_settle y21 _ hy23
  repeat' first | with_reducible rfl | with_reducible exact True.intro | with_reducible assumption | refine parkI ?_ | (refine CallP.use c22 ?_; conv => whnf) | (refine CallP.use c24 ?_; conv => whnf) | (refine And.intro ?_ ?_ <;> conv => whnf) | fail
  replace h := aftS h
  obtain ⟨O27, hO27, r27⟩ := h
  refine LoopW.norm [(1, (LV.ptr 0 0 0)), (2, (LV.ptr 1 0 0)), (4, (LV.sl 2 0 (([] : (List PortStateT)).map PortStateT.cells).length)), (16, (LV.ro 2 (y23.States.map PortStateT.cells))), (17, (I (((y23.States.map PortStateT.cells).length : Nat) : Int))), (18, (I ((0 : Nat) : Int)))] 3 [(0, (.row 85 7 [[(I y23.Self.ID), (LV.ro 1 (y23.Self.Costs.map iC)), (LV.ro 1 (y23.Self.Ups.map bC)), (LV.ro 6 (y23.Self.Infos.map InfoT.cells)), (LV.ro 2 (y23.States.map PortStateT.cells)), (I y23.Max), (I y23.Delay)]])), (1, (.row 85 7 [[(I 0), LV.nils, LV.nils, LV.nils, LV.nils, (I 0), (I 0)]])), (2, (.row 224 2 (([] : (List PortStateT)).map PortStateT.cells)))] ⟨rfl, rfl, (by exact congrArg (LV.sl 2 0) (clL _ : 0 = (([] : (List PortStateT)).map PortStateT.cells).length)), rfl, rfl, rfl, trivial⟩ ⟨⟨rfl, rfl, blT⟩, ⟨⟨rfl, rfl, blT⟩, ⟨⟨(congrArg (fun q => some (Blk.row 224 2 q)) (smT : (([] : List (List LV)) : List (List LV)) = (([] : (List PortStateT)).map PortStateT.cells))), rfl, NLss_bel (NLss_map' _)⟩, trivial⟩⟩⟩ blT rfl ?_
  refine LoopW.forR (fun k27 s27 => [(1, (LV.ptr 0 0 0)), (2, (LV.ptr 1 0 0)), (4, (LV.sl 2 0 (s27.map PortStateT.cells).length)), (16, (LV.ro 2 (y23.States.map PortStateT.cells))), (17, (I (((y23.States.map PortStateT.cells).length : Nat) : Int))), (18, (I ((k27 : Nat) : Int)))]) (fun s27 => ⟨3, [(0, (.row 85 7 [[(I y23.Self.ID), (LV.ro 1 (y23.Self.Costs.map iC)), (LV.ro 1 (y23.Self.Ups.map bC)), (LV.ro 6 (y23.Self.Infos.map InfoT.cells)), (LV.ro 2 (y23.States.map PortStateT.cells)), (I y23.Max), (I y23.Delay)]])), (1, (.row 85 7 [[(I 0), LV.nils, LV.nils, LV.nils, LV.nils, (I 0), (I 0)]])), (2, (.row 224 2 (s27.map PortStateT.cells)))]⟩) hO27 (fun hl27 s27 hs27 => ?_) (fun hl27 k27 x27 s27 o27 hk27 hx27 b27 K27 hret27 hbrk27 => ?_)
  · rw [hs27] at r27
    dsimp only [aftM] at r27
    have hd : decide (((y23.States.length : Nat) : Int) < (((y23.States.map PortStateT.cells).length : Nat) : Int)) = false := by rw [decide_eq_false_iff_not]; (try simp only [se_len, se_ch, List.length_map]); omega
    refine LoopW.round TT_ok [0, 1, 2, 3, 4, 6, 7, 8, 9, 10, 16, 17, 18, 19, 35, 36, 37, 48] ?_
    conv => whnf
    repeat' first | with_reducible rfl | with_reducible exact True.intro | with_reducible assumption | refine parkI ?_ | (refine And.intro ?_ ?_ <;> conv => whnf) | fail
    refine parkE (fun hc => ?_) (fun hc => ?_)
    · exact (Bool.false_ne_true (hd.symm.trans hc)).elim
    · clear hd
      conv => whnf
      repeat' first | with_reducible rfl | with_reducible exact True.intro | with_reducible assumption | refine parkI ?_ | (refine And.intro ?_ ?_ <;> conv => whnf) | fail
      replace r27 := aftS r27
      obtain ⟨O28, hO28, r28⟩ := r27
      refine LoopW.norm [(1, (LV.ptr 0 0 0)), (2, (LV.ptr 1 0 0)), (7, (LV.sl 3 0 (([] : (List SendT)).map SendT.cells).length)), (35, (I (((s27.map PortStateT.cells).length : Nat) : Int))), (36, (I ((0 : Nat) : Int)))] 4 [(0, (.row 85 7 [[(I y23.Self.ID), (LV.ro 1 (y23.Self.Costs.map iC)), (LV.ro 1 (y23.Self.Ups.map bC)), (LV.ro 6 (y23.Self.Infos.map InfoT.cells)), (LV.sl 2 0 (s27.map PortStateT.cells).length), (I y23.Max), (I y23.Delay)]])), (2, (.row 224 2 (s27.map PortStateT.cells))), (1, (.row 85 7 [[(I 0), LV.nils, LV.nils, LV.nils, LV.nils, (I 0), (I 0)]])), (3, (.row 122 6 (([] : (List SendT)).map SendT.cells)))] ⟨rfl, rfl, (by exact congrArg (LV.sl 3 0) (clL _ : 0 = (([] : (List SendT)).map SendT.cells).length)), rfl, rfl, trivial⟩ ⟨⟨rfl, rfl, blT⟩, ⟨⟨rfl, rfl, NLss_bel (NLss_map' _)⟩, ⟨⟨rfl, rfl, blT⟩, ⟨⟨(congrArg (fun q => some (Blk.row 122 6 q)) (smT : (([] : List (List LV)) : List (List LV)) = (([] : (List SendT)).map SendT.cells))), rfl, NLss_bel (NLss_map' _)⟩, trivial⟩⟩⟩⟩ blT rfl ?_
      refine LoopW.forN (fun k28 s28 => [(1, (LV.ptr 0 0 0)), (2, (LV.ptr 1 0 0)), (7, (LV.sl 3 0 (s28.map SendT.cells).length)), (35, (I (((s27.map PortStateT.cells).length : Nat) : Int))), (36, (I ((k28 : Nat) : Int)))]) (fun s28 => ⟨4, [(0, (.row 85 7 [[(I y23.Self.ID), (LV.ro 1 (y23.Self.Costs.map iC)), (LV.ro 1 (y23.Self.Ups.map bC)), (LV.ro 6 (y23.Self.Infos.map InfoT.cells)), (LV.sl 2 0 (s27.map PortStateT.cells).length), (I y23.Max), (I y23.Delay)]])), (2, (.row 224 2 (s27.map PortStateT.cells))), (1, (.row 85 7 [[(I 0), LV.nils, LV.nils, LV.nils, LV.nils, (I 0), (I 0)]])), (3, (.row 122 6 (s28.map SendT.cells)))]⟩) hO28 (fun hl28 s28 hs28 => ?_) (fun hl28 k28 s28 o28 hk28 b28 K28 hret28 hbrk28 => ?_)
      · rw [hs28] at r28
        dsimp only [aftM] at r28
        have hd : decide ((((((s27.length : Nat) : Int)).toNat : Nat) : Int) < (((s27.map PortStateT.cells).length : Nat) : Int)) = false := by rw [decide_eq_false_iff_not]; (try simp only [se_len, se_ch, List.length_map]); omega
        refine LoopW.round TT_ok [0, 1, 2, 3, 4, 6, 7, 8, 9, 10, 16, 17, 18, 19, 35, 36, 37, 48] ?_
        conv => whnf
        repeat' first | with_reducible rfl | with_reducible exact True.intro | with_reducible assumption | refine parkI ?_ | (refine And.intro ?_ ?_ <;> conv => whnf) | fail
        refine parkE (fun hc => ?_) (fun hc => ?_)
        · exact (Bool.false_ne_true (hd.symm.trans hc)).elim
        · clear hd
          conv => whnf
          have e := Option.some.inj r28
          subst e
          repeat' first | with_reducible rfl | with_reducible exact True.intro | with_reducible assumption | exact clA _ | (refine And.intro ?_ ?_ <;> conv => whnf) | exact clG _ | (refine gand ?_ h; assumption) | exact clN _ | fail
      · unfold ref12_Tick_b28 at b28
        have hd : decide (((k28 : Nat) : Int) < (((s27.map PortStateT.cells).length : Nat) : Int)) = true := by rw [decide_eq_true_eq]; (try simp only [se_len, se_ch, List.length_map] at hk28); (try simp only [se_len, se_ch, List.length_map]); omega
        refine LoopW.round TT_ok [0, 1, 2, 3, 4, 6, 7, 8, 9, 10, 16, 17, 18, 19, 35, 36, 37, 48] ?_
        conv => whnf
        repeat' first | with_reducible rfl | with_reducible exact True.intro | with_reducible assumption | refine parkI ?_ | (refine And.intro ?_ ?_ <;> conv => whnf) | fail
        refine parkE (fun hc => ?_) (fun hc => ?_)
        · clear hd
          conv => whnf
          replace b28 := bindS b28
          obtain ⟨y40, hy40, b28⟩ := b28
          have c41 := c_ref11_Tell y23.Self ((k28 : Nat) : Int) y23.Max _ hy40
          repeat' first | with_reducible rfl | with_reducible exact True.intro | with_reducible assumption | refine parkI ?_ | (refine CallP.use c41 ?_; conv => whnf) | (refine And.intro ?_ ?_ <;> conv => whnf) | fail
          refine parkE (fun hc => ?_) (fun hc => ?_)
          · replace b28 := condT hc b28
            conv => whnf
            replace b28 := grdS b28
            obtain ⟨g42, b28⟩ := b28
            replace g42 : fits (((s28.map SendT.cells) ++ [[(I ((k28 : Nat) : Int)), (I y40.1.Vec.Root), (I y40.1.Vec.Cost), (I y40.1.Vec.Bridge), (I y40.1.Vec.Port), (I y40.1.Age)]])).length 48 := by simpa only [se_len, se_ch, List.length_map] using g42
            repeat' first | with_reducible rfl | with_reducible exact True.intro | with_reducible assumption | refine parkI ?_ | exact g42 | exact clA _ | (refine And.intro ?_ ?_ <;> conv => whnf) | exact clN _ | fail
            have e := Option.some.inj b28
            refine LoopW.ren [(0, 0), (2, 2), (1, 1), (6, 3)] [(1, (LV.ptr 0 0 0)), (2, (LV.ptr 1 0 0)), (7, (LV.sl 3 0 ((s28 ++ ([(⟨((k28 : Nat) : Int), y40.1⟩ : SendT)] : (List SendT))).map SendT.cells).length)), (35, (I (((s27.map PortStateT.cells).length : Nat) : Int))), (36, (I ((k28 + 1 : Nat) : Int)))] 4 [(0, (.row 85 7 [[(I y23.Self.ID), (LV.ro 1 (y23.Self.Costs.map iC)), (LV.ro 1 (y23.Self.Ups.map bC)), (LV.ro 6 (y23.Self.Infos.map InfoT.cells)), (LV.sl 2 0 (s27.map PortStateT.cells).length), (I y23.Max), (I y23.Delay)]])), (2, (.row 224 2 (s27.map PortStateT.cells))), (1, (.row 85 7 [[(I 0), LV.nils, LV.nils, LV.nils, LV.nils, (I 0), (I 0)]])), (3, (.row 122 6 ((s28 ++ ([(⟨((k28 : Nat) : Int), y40.1⟩ : SendT)] : (List SendT))).map SendT.cells)))] rfl ⟨rfl, rfl, (by exact congrArg (LV.sl 3 0) (clL _ : (((s28.map SendT.cells) ++ [[(I ((k28 : Nat) : Int)), (I y40.1.Vec.Root), (I y40.1.Vec.Cost), (I y40.1.Vec.Bridge), (I y40.1.Vec.Port), (I y40.1.Age)]])).length = ((s28 ++ ([(⟨((k28 : Nat) : Int), y40.1⟩ : SendT)] : (List SendT))).map SendT.cells).length)), rfl, (congrArg (LV.int .i64) (w64_nat _ (by omega))), trivial⟩ ⟨⟨rfl, rfl, .inr (by first | exact rfl | (show ([[(I y23.Self.ID), (LV.ro 1 (y23.Self.Costs.map iC)), (LV.ro 1 (y23.Self.Ups.map bC)), (LV.ro 6 (y23.Self.Infos.map InfoT.cells)), (LV.sl 2 0 (s27.map PortStateT.cells).length), (I y23.Max), (I y23.Delay)]] : List (List LV)) = [[(I y23.Self.ID), (LV.ro 1 (y23.Self.Costs.map iC)), (LV.ro 1 (y23.Self.Ups.map bC)), (LV.ro 6 (y23.Self.Infos.map InfoT.cells)), (LV.sl 2 0 (s27.map PortStateT.cells).length), (I y23.Max), (I y23.Delay)]]; simp only [se_map, se_byL, se_len, se_ch, List.length_map]))⟩, rfl, rfl, ⟨⟨rfl, rfl, .inl ⟨rfl, nlT⟩⟩, rfl, rfl, ⟨⟨rfl, rfl, .inl ⟨rfl, nlT⟩⟩, rfl, rfl, ⟨⟨rfl, rfl, .inl ⟨(by first | (simp only [se_map, se_byL, se_len, se_ch, List.length_map]; done) | (simp only [se_map, se_byL, se_len, se_ch, List.length_map, SendT.cells]; done) : (((s28.map SendT.cells) ++ [[(I ((k28 : Nat) : Int)), (I y40.1.Vec.Root), (I y40.1.Vec.Cost), (I y40.1.Vec.Bridge), (I y40.1.Vec.Port), (I y40.1.Age)]]) : List (List LV)) = ((s28 ++ ([(⟨((k28 : Nat) : Int), y40.1⟩ : SendT)] : (List SendT))).map SendT.cells)), nlT⟩⟩, rfl, rfl, trivial⟩⟩⟩⟩ rfl (K28 _ e.symm)
          · replace b28 := condF hc b28
            conv => whnf
            repeat' first | with_reducible rfl | with_reducible exact True.intro | with_reducible assumption | refine parkI ?_ | (refine And.intro ?_ ?_ <;> conv => whnf) | fail
            have e := Option.some.inj b28
            refine LoopW.norm [(1, (LV.ptr 0 0 0)), (2, (LV.ptr 1 0 0)), (7, (LV.sl 3 0 (s28.map SendT.cells).length)), (35, (I (((s27.map PortStateT.cells).length : Nat) : Int))), (36, (I ((k28 + 1 : Nat) : Int)))] 4 [(0, (.row 85 7 [[(I y23.Self.ID), (LV.ro 1 (y23.Self.Costs.map iC)), (LV.ro 1 (y23.Self.Ups.map bC)), (LV.ro 6 (y23.Self.Infos.map InfoT.cells)), (LV.sl 2 0 (s27.map PortStateT.cells).length), (I y23.Max), (I y23.Delay)]])), (2, (.row 224 2 (s27.map PortStateT.cells))), (1, (.row 85 7 [[(I 0), LV.nils, LV.nils, LV.nils, LV.nils, (I 0), (I 0)]])), (3, (.row 122 6 (s28.map SendT.cells)))] ⟨rfl, rfl, rfl, rfl, (congrArg (LV.int .i64) (w64_nat _ (by omega))), trivial⟩ ⟨⟨rfl, rfl, blT⟩, ⟨⟨rfl, rfl, NLss_bel (NLss_map' _)⟩, ⟨⟨rfl, rfl, blT⟩, ⟨⟨rfl, rfl, NLss_bel (NLss_map' _)⟩, trivial⟩⟩⟩⟩ blT rfl (K28 _ e.symm)
        · exact (Bool.false_ne_true (hc.symm.trans hd)).elim
  · unfold ref12_Tick_b27 at b27
    have hd : decide (((k27 : Nat) : Int) < (((y23.States.map PortStateT.cells).length : Nat) : Int)) = true := by rw [decide_eq_true_eq]; (try simp only [se_len, se_ch, List.length_map] at hk27); (try simp only [se_len, se_ch, List.length_map]); omega
    refine LoopW.round TT_ok [0, 1, 2, 3, 4, 6, 7, 8, 9, 10, 16, 17, 18, 19, 35, 36, 37, 48] ?_
    conv => whnf
    repeat' first | with_reducible rfl | with_reducible exact True.intro | with_reducible assumption | refine parkI ?_ | (refine And.intro ?_ ?_ <;> conv => whnf) | fail
    refine parkE (fun hc => ?_) (fun hc => ?_)
    · clear hd
      conv => whnf
      replace b27 := bindS b27
      obtain ⟨y25, hy25, b27⟩ := b27
      have c26 := c_ref10_Tick x27 y23.Delay _ hy25
      replace b27 := grdS b27
      obtain ⟨g27, b27⟩ := b27
      replace g27 : fits (((s27.map PortStateT.cells) ++ [[(I y25.State), (I y25.Left)]])).length 16 := by simpa only [se_len, se_ch, List.length_map] using g27
      repeat' first | with_reducible rfl | with_reducible exact True.intro | with_reducible assumption | refine parkI ?_ | (refine ⟨_, (kixF (f := PortStateT.cells) hx27), ?_⟩; conv => whnf) | exact g27 | (refine CallP.use c26 ?_; conv => whnf) | exact clA _ | (refine And.intro ?_ ?_ <;> conv => whnf) | exact clN _ | fail
      have e := Option.some.inj b27
      refine LoopW.ren [(0, 0), (1, 1), (5, 2)] [(1, (LV.ptr 0 0 0)), (2, (LV.ptr 1 0 0)), (4, (LV.sl 2 0 ((s27 ++ ([y25] : (List PortStateT))).map PortStateT.cells).length)), (16, (LV.ro 2 (y23.States.map PortStateT.cells))), (17, (I (((y23.States.map PortStateT.cells).length : Nat) : Int))), (18, (I ((k27 + 1 : Nat) : Int)))] 3 [(0, (.row 85 7 [[(I y23.Self.ID), (LV.ro 1 (y23.Self.Costs.map iC)), (LV.ro 1 (y23.Self.Ups.map bC)), (LV.ro 6 (y23.Self.Infos.map InfoT.cells)), (LV.ro 2 (y23.States.map PortStateT.cells)), (I y23.Max), (I y23.Delay)]])), (1, (.row 85 7 [[(I 0), LV.nils, LV.nils, LV.nils, LV.nils, (I 0), (I 0)]])), (2, (.row 224 2 ((s27 ++ ([y25] : (List PortStateT))).map PortStateT.cells)))] rfl ⟨rfl, rfl, (by exact congrArg (LV.sl 2 0) (clL _ : (((s27.map PortStateT.cells) ++ [[(I y25.State), (I y25.Left)]])).length = ((s27 ++ ([y25] : (List PortStateT))).map PortStateT.cells).length)), rfl, rfl, (congrArg (LV.int .i64) (w64_nat _ (by omega))), trivial⟩ ⟨⟨rfl, rfl, .inl ⟨rfl, nlT⟩⟩, rfl, rfl, ⟨⟨rfl, rfl, .inl ⟨rfl, nlT⟩⟩, rfl, rfl, ⟨⟨rfl, rfl, .inl ⟨(smT : (((s27.map PortStateT.cells) ++ [[(I y25.State), (I y25.Left)]]) : List (List LV)) = ((s27 ++ ([y25] : (List PortStateT))).map PortStateT.cells)), nlT⟩⟩, rfl, rfl, trivial⟩⟩⟩ rfl (K27 _ e.symm)
    · exact (Bool.false_ne_true (hc.symm.trans hd)).elim

def ref12_Sends_b29 (a1 : (List SendT)) (k29 : Nat) (x29 : SendT) (s29 : Unit) : Option (Step Bool Unit) :=
  (gix a1 ((k29 : Nat) : Int)).bind fun v47 =>
  (bif (!((decide (x29.Port = v47.Port)) && ((((decide (x29.Config.Vec.Root = v47.Config.Vec.Root)) && ((decide (x29.Config.Vec.Cost = v47.Config.Vec.Cost)) && ((decide (x29.Config.Vec.Bridge = v47.Config.Vec.Bridge)) && ((decide (x29.Config.Vec.Port = v47.Config.Vec.Port)) && true)))) && ((decide (x29.Config.Age = v47.Config.Age)) && true)) && true))) then
    some (.ret false)
  else
    some (.nxt ()))

def ref12_Sends (a0 : (List SendT)) (a1 : (List SendT)) : Option Bool :=
  (bif (!decide (((a0.length : Nat) : Int) = ((a1.length : Nat) : Int))) then
    some false
  else
    aft (rangeL (ref12_Sends_b29 a1) a0 ()) fun s29 =>
    some true)

theorem c_ref12_Sends (a0 : (List SendT)) (a1 : (List SendT)) (r : Bool) (h : ref12_Sends a0 a1 = some r) : CallP Try.prog 67 [(LV.ro 6 (a0.map SendT.cells)), (LV.ro 6 (a1.map SendT.cells))] (LV.bool r) := by
  unfold ref12_Sends at h
  refine .intro nlA (.intro TT_ok Try.func67 rfl rfl [0, 1, 4, 5, 10, 12, 13, 14, 24] rfl ?_)
  conv => whnf
  repeat' first | with_reducible rfl | with_reducible exact True.intro | with_reducible assumption | refine parkI ?_ | (refine W.drawn TT_ok hmix1 rfl ?_; conv => whnf) | exact clA _ | (refine And.intro ?_ ?_ <;> conv => whnf) | exact clG _ | (refine gand ?_ h; assumption) | exact clN _ | fail
  refine parkE (fun hc => ?_) (fun hc => ?_)
  · replace h := condT (by first | exact hc | simpa only [se_len, se_ch, List.length_map] using hc) h
    conv => whnf
    have e := Option.some.inj h
    subst e
    repeat' first | with_reducible rfl | with_reducible exact True.intro | with_reducible assumption | (refine W.drawn TT_ok hmix1 rfl ?_; conv => whnf) | exact clA _ | (refine And.intro ?_ ?_ <;> conv => whnf) | exact clG _ | (refine gand ?_ h; assumption) | exact clN _ | fail
  · replace h := condF (by first | exact hc | simpa only [se_len, se_ch, List.length_map] using hc) h
    conv => whnf
    repeat' first | with_reducible rfl | with_reducible exact True.intro | with_reducible assumption | refine parkI ?_ | (refine W.drawn TT_ok hmix1 rfl ?_; conv => whnf) | exact clA _ | (refine And.intro ?_ ?_ <;> conv => whnf) | exact clG _ | (refine gand ?_ h; assumption) | exact clN _ | fail
    replace h := aftS h
    obtain ⟨O29, hO29, r29⟩ := h
    refine LoopW.norm [(0, (LV.ro 6 (a0.map SendT.cells))), (1, (LV.ro 6 (a1.map SendT.cells))), (12, (I (((a0.map SendT.cells).length : Nat) : Int))), (13, (I ((0 : Nat) : Int)))] 0 [] ⟨rfl, rfl, rfl, rfl, trivial⟩ trivial blT rfl ?_
    refine LoopW.forR (fun k29 s29 => [(0, (LV.ro 6 (a0.map SendT.cells))), (1, (LV.ro 6 (a1.map SendT.cells))), (12, (I (((a0.map SendT.cells).length : Nat) : Int))), (13, (I ((k29 : Nat) : Int)))]) (fun s29 => ⟨0, []⟩) hO29 (fun hl29 s29 hs29 => ?_) (fun hl29 k29 x29 s29 o29 hk29 hx29 b29 K29 hret29 hbrk29 => ?_)
    · rw [hs29] at r29
      dsimp only [aftM] at r29
      have hd : decide (((a0.length : Nat) : Int) < (((a0.map SendT.cells).length : Nat) : Int)) = false := by rw [decide_eq_false_iff_not]; (try simp only [se_len, se_ch, List.length_map]); omega
      refine LoopW.round TT_ok [0, 1, 4, 5, 10, 12, 13, 14, 24] ?_
      conv => whnf
      repeat' first | with_reducible rfl | with_reducible exact True.intro | with_reducible assumption | refine parkI ?_ | (refine W.drawn TT_ok hmix1 rfl ?_; conv => whnf) | exact clA _ | (refine And.intro ?_ ?_ <;> conv => whnf) | exact clG _ | (refine gand ?_ h; assumption) | exact clN _ | fail
      refine parkE (fun hc => ?_) (fun hc => ?_)
      · exact (Bool.false_ne_true (hd.symm.trans hc)).elim
      · clear hd
        conv => whnf
        have e := Option.some.inj r29
        subst e
        repeat' first | with_reducible rfl | with_reducible exact True.intro | with_reducible assumption | (refine W.drawn TT_ok hmix1 rfl ?_; conv => whnf) | exact clA _ | (refine And.intro ?_ ?_ <;> conv => whnf) | exact clG _ | (refine gand ?_ h; assumption) | exact clN _ | fail
    · unfold ref12_Sends_b29 at b29
      have hd : decide (((k29 : Nat) : Int) < (((a0.map SendT.cells).length : Nat) : Int)) = true := by rw [decide_eq_true_eq]; (try simp only [se_len, se_ch, List.length_map] at hk29); (try simp only [se_len, se_ch, List.length_map]); omega
      refine LoopW.round TT_ok [0, 1, 4, 5, 10, 12, 13, 14, 24] ?_
      conv => whnf
      repeat' first | with_reducible rfl | with_reducible exact True.intro | with_reducible assumption | refine parkI ?_ | (refine W.drawn TT_ok hmix1 rfl ?_; conv => whnf) | exact clA _ | (refine And.intro ?_ ?_ <;> conv => whnf) | exact clG _ | (refine gand ?_ h; assumption) | exact clN _ | fail
      refine parkE (fun hc => ?_) (fun hc => ?_)
      · clear hd
        conv => whnf
        replace b29 := bindS b29
        obtain ⟨v47, hv47, b29⟩ := b29
        have i48 := gixF (f := SendT.cells) hv47
        repeat' first | with_reducible rfl | with_reducible exact True.intro | with_reducible assumption | refine parkI ?_ | (refine ⟨_, (kixF (f := SendT.cells) hx29), ?_⟩; conv => whnf) | (refine ⟨_, i48, ?_⟩; conv => whnf) | (refine W.drawn TT_ok hmix1 rfl ?_; conv => whnf) | exact clA _ | (refine And.intro ?_ ?_ <;> conv => whnf) | exact clG _ | (refine gand ?_ h; assumption) | exact clN _ | fail
        refine parkE (fun hc => ?_) (fun hc => ?_)
        · replace b29 := condT hc b29
          conv => whnf
          have e := Option.some.inj b29
          replace e := hret29 _ e.symm
          rw [e] at r29
          replace e := Option.some.inj r29
          subst e
          repeat' first | with_reducible rfl | with_reducible exact True.intro | with_reducible assumption | (refine W.drawn TT_ok hmix1 rfl ?_; conv => whnf) | exact clA _ | (refine And.intro ?_ ?_ <;> conv => whnf) | exact clG _ | (refine gand ?_ h; assumption) | exact clN _ | fail
        · replace b29 := condF hc b29
          conv => whnf
          repeat' first | with_reducible rfl | with_reducible exact True.intro | with_reducible assumption | refine parkI ?_ | (refine W.drawn TT_ok hmix1 rfl ?_; conv => whnf) | exact clA _ | (refine And.intro ?_ ?_ <;> conv => whnf) | exact clG _ | (refine gand ?_ h; assumption) | exact clN _ | fail
          have e := Option.some.inj b29
          refine LoopW.norm [(0, (LV.ro 6 (a0.map SendT.cells))), (1, (LV.ro 6 (a1.map SendT.cells))), (12, (I (((a0.map SendT.cells).length : Nat) : Int))), (13, (I ((k29 + 1 : Nat) : Int)))] 0 [] ⟨rfl, rfl, rfl, (congrArg (LV.int .i64) (w64_nat _ (by omega))), trivial⟩ trivial blT rfl (K29 _ e.symm)
      · exact (Bool.false_ne_true (hc.symm.trans hd)).elim

def ref12_Forwards_b30  (k30 : Nat) (x30 : PortStateT) (s30 : (List Int)) : Option (Step (List Int) (List Int)) :=
  (bif (decide (x30.State = 3)) then
    grd (fits ((s30 ++ ([((k30 : Nat) : Int)] : (List Int))) : List Int).length 8) <|
    some (.nxt (s30 ++ ([((k30 : Nat) : Int)] : (List Int))))
  else
    some (.nxt s30))

def ref12_Forwards (a0 : StpT) : Option (List Int) :=
  aft (rangeL (ref12_Forwards_b30 ) a0.States ([] : (List Int))) fun s30 =>
  some s30

theorem cf_ref12_Forwards (a0 : StpT) (r : (List Int)) (h : ref12_Forwards a0 = some r) : CallF Try.prog 69 [(LV.agg [(I a0.Self.ID), (LV.ro 1 (a0.Self.Costs.map iC)), (LV.ro 1 (a0.Self.Ups.map bC)), (LV.ro 6 (a0.Self.Infos.map InfoT.cells)), (LV.ro 2 (a0.States.map PortStateT.cells)), (I a0.Max), (I a0.Delay)])] 3 1 (r.map iC) := by
  unfold ref12_Forwards at h
  refine CallF.of (NLss_map' _) (CallW.intro TT_ok Try.func69 rfl rfl [0, 1, 2, 3, 4, 5, 8, 9, 10, 11, 17] rfl ?_)
  conv => whnf
  repeat' first | with_reducible rfl | with_reducible exact True.intro | with_reducible assumption | refine parkI ?_ | (refine And.intro ?_ ?_ <;> conv => whnf) | fail
  replace h := aftS h
  obtain ⟨O30, hO30, r30⟩ := h
  refine LoopW.norm [(3, (LV.sl 1 0 (([] : (List Int)).map iC).length)), (8, (LV.ro 2 (a0.States.map PortStateT.cells))), (9, (I (((a0.States.map PortStateT.cells).length : Nat) : Int))), (10, (I ((0 : Nat) : Int)))] 2 [(1, (.row 3 1 (([] : (List Int)).map iC)))] ⟨(by exact congrArg (LV.sl 1 0) (clL _ : 0 = (([] : (List Int)).map iC).length)), rfl, rfl, rfl, trivial⟩ ⟨⟨(congrArg (fun q => some (Blk.row 3 1 q)) (smT : (([] : List (List LV)) : List (List LV)) = (([] : (List Int)).map iC))), rfl, NLss_bel (NLss_map' _)⟩, trivial⟩ blT rfl ?_
  refine LoopW.forR (fun k30 s30 => [(3, (LV.sl 1 0 (s30.map iC).length)), (8, (LV.ro 2 (a0.States.map PortStateT.cells))), (9, (I (((a0.States.map PortStateT.cells).length : Nat) : Int))), (10, (I ((k30 : Nat) : Int)))]) (fun s30 => ⟨2, [(1, (.row 3 1 (s30.map iC)))]⟩) hO30 (fun hl30 s30 hs30 => ?_) (fun hl30 k30 x30 s30 o30 hk30 hx30 b30 K30 hret30 hbrk30 => ?_)
  · rw [hs30] at r30
    dsimp only [aftM] at r30
    have hd : decide (((a0.States.length : Nat) : Int) < (((a0.States.map PortStateT.cells).length : Nat) : Int)) = false := by rw [decide_eq_false_iff_not]; (try simp only [se_len, se_ch, List.length_map]); omega
    refine LoopW.round TT_ok [0, 1, 2, 3, 4, 5, 8, 9, 10, 11, 17] ?_
    conv => whnf
    repeat' first | with_reducible rfl | with_reducible exact True.intro | with_reducible assumption | refine parkI ?_ | (refine And.intro ?_ ?_ <;> conv => whnf) | fail
    refine parkE (fun hc => ?_) (fun hc => ?_)
    · exact (Bool.false_ne_true (hd.symm.trans hc)).elim
    · clear hd
      conv => whnf
      have e := Option.some.inj r30
      subst e
      repeat' first | with_reducible rfl | with_reducible exact True.intro | with_reducible assumption | exact Or.inr ⟨_, rfl, congrArg (fun q => some (Blk.row 3 1 q)) rfl⟩ | exact clA _ | (refine And.intro ?_ ?_ <;> conv => whnf) | exact clG _ | (refine gand ?_ h; assumption) | exact clN _ | fail
  · unfold ref12_Forwards_b30 at b30
    have hd : decide (((k30 : Nat) : Int) < (((a0.States.map PortStateT.cells).length : Nat) : Int)) = true := by rw [decide_eq_true_eq]; (try simp only [se_len, se_ch, List.length_map] at hk30); (try simp only [se_len, se_ch, List.length_map]); omega
    refine LoopW.round TT_ok [0, 1, 2, 3, 4, 5, 8, 9, 10, 11, 17] ?_
    conv => whnf
    repeat' first | with_reducible rfl | with_reducible exact True.intro | with_reducible assumption | refine parkI ?_ | (refine And.intro ?_ ?_ <;> conv => whnf) | fail
    refine parkE (fun hc => ?_) (fun hc => ?_)
    · clear hd
      conv => whnf
      repeat' first | with_reducible rfl | with_reducible exact True.intro | with_reducible assumption | refine parkI ?_ | (refine ⟨_, (kixF (f := PortStateT.cells) hx30), ?_⟩; conv => whnf) | (refine And.intro ?_ ?_ <;> conv => whnf) | fail
      refine parkE (fun hc => ?_) (fun hc => ?_)
      · replace b30 := condT hc b30
        conv => whnf
        replace b30 := grdS b30
        obtain ⟨g51, b30⟩ := b30
        replace g51 : fits (((s30.map iC) ++ [[(I ((k30 : Nat) : Int))]])).length 8 := by simpa only [se_len, se_ch, List.length_map] using g51
        repeat' first | with_reducible rfl | with_reducible exact True.intro | with_reducible assumption | refine parkI ?_ | exact g51 | exact clA _ | (refine And.intro ?_ ?_ <;> conv => whnf) | exact clN _ | fail
        have e := Option.some.inj b30
        refine LoopW.ren [(4, 1)] [(3, (LV.sl 1 0 ((s30 ++ ([((k30 : Nat) : Int)] : (List Int))).map iC).length)), (8, (LV.ro 2 (a0.States.map PortStateT.cells))), (9, (I (((a0.States.map PortStateT.cells).length : Nat) : Int))), (10, (I ((k30 + 1 : Nat) : Int)))] 2 [(1, (.row 3 1 ((s30 ++ ([((k30 : Nat) : Int)] : (List Int))).map iC)))] rfl ⟨(by exact congrArg (LV.sl 1 0) (clL _ : (((s30.map iC) ++ [[(I ((k30 : Nat) : Int))]])).length = ((s30 ++ ([((k30 : Nat) : Int)] : (List Int))).map iC).length)), rfl, rfl, (congrArg (LV.int .i64) (w64_nat _ (by omega))), trivial⟩ ⟨⟨rfl, rfl, .inl ⟨(smT : (((s30.map iC) ++ [[(I ((k30 : Nat) : Int))]]) : List (List LV)) = ((s30 ++ ([((k30 : Nat) : Int)] : (List Int))).map iC)), nlT⟩⟩, rfl, rfl, trivial⟩ rfl (K30 _ e.symm)
      · replace b30 := condF hc b30
        conv => whnf
        repeat' first | with_reducible rfl | with_reducible exact True.intro | with_reducible assumption | refine parkI ?_ | (refine And.intro ?_ ?_ <;> conv => whnf) | fail
        have e := Option.some.inj b30
        refine LoopW.norm [(3, (LV.sl 1 0 (s30.map iC).length)), (8, (LV.ro 2 (a0.States.map PortStateT.cells))), (9, (I (((a0.States.map PortStateT.cells).length : Nat) : Int))), (10, (I ((k30 + 1 : Nat) : Int)))] 2 [(1, (.row 3 1 (s30.map iC)))] ⟨rfl, rfl, rfl, (congrArg (LV.int .i64) (w64_nat _ (by omega))), trivial⟩ ⟨⟨rfl, rfl, NLss_bel (NLss_map' _)⟩, trivial⟩ blT rfl (K30 _ e.symm)
    · exact (Bool.false_ne_true (hc.symm.trans hd)).elim

theorem c_ref12_Forwards (a0 : StpT) (r : (List Int)) (h : ref12_Forwards a0 = some r) : CallP Try.prog 69 [(LV.agg [(I a0.Self.ID), (LV.ro 1 (a0.Self.Costs.map iC)), (LV.ro 1 (a0.Self.Ups.map bC)), (LV.ro 6 (a0.Self.Infos.map InfoT.cells)), (LV.ro 2 (a0.States.map PortStateT.cells)), (I a0.Max), (I a0.Delay)])] (LV.ro 1 (r.map iC)) := by
  exact CallF.toP (cf_ref12_Forwards a0 r h) nlA (NLss_map' _)

def ref06_Same_b31 (a1 : (List Int)) (k31 : Nat) (x31 : Int) (s31 : Unit) : Option (Step Bool Unit) :=
  (gix a1 ((k31 : Nat) : Int)).bind fun v54 =>
  (bif (!decide (x31 = v54)) then
    some (.ret false)
  else
    some (.nxt ()))

def ref06_Same (a0 : (List Int)) (a1 : (List Int)) : Option Bool :=
  (bif (!decide (((a0.length : Nat) : Int) = ((a1.length : Nat) : Int))) then
    some false
  else
    aft (rangeL (ref06_Same_b31 a1) a0 ()) fun s31 =>
    some true)

theorem c_ref06_Same (a0 : (List Int)) (a1 : (List Int)) (r : Bool) (h : ref06_Same a0 a1 = some r) : CallP Try.prog 68 [(LV.ro 1 (a0.map iC)), (LV.ro 1 (a1.map iC))] (LV.bool r) := by
  unfold ref06_Same at h
  refine .intro nlA (.intro TT_ok Try.func68 rfl rfl [0, 1, 4, 5, 10, 12, 13, 14, 24] rfl ?_)
  conv => whnf
  repeat' first | with_reducible rfl | with_reducible exact True.intro | with_reducible assumption | refine parkI ?_ | (refine W.drawn TT_ok hmix1 rfl ?_; conv => whnf) | exact clA _ | (refine And.intro ?_ ?_ <;> conv => whnf) | exact clG _ | (refine gand ?_ h; assumption) | exact clN _ | fail
  refine parkE (fun hc => ?_) (fun hc => ?_)
  · replace h := condT (by first | exact hc | simpa only [se_len, se_ch, List.length_map] using hc) h
    conv => whnf
    have e := Option.some.inj h
    subst e
    repeat' first | with_reducible rfl | with_reducible exact True.intro | with_reducible assumption | (refine W.drawn TT_ok hmix1 rfl ?_; conv => whnf) | exact clA _ | (refine And.intro ?_ ?_ <;> conv => whnf) | exact clG _ | (refine gand ?_ h; assumption) | exact clN _ | fail
  · replace h := condF (by first | exact hc | simpa only [se_len, se_ch, List.length_map] using hc) h
    conv => whnf
    repeat' first | with_reducible rfl | with_reducible exact True.intro | with_reducible assumption | refine parkI ?_ | (refine W.drawn TT_ok hmix1 rfl ?_; conv => whnf) | exact clA _ | (refine And.intro ?_ ?_ <;> conv => whnf) | exact clG _ | (refine gand ?_ h; assumption) | exact clN _ | fail
    replace h := aftS h
    obtain ⟨O31, hO31, r31⟩ := h
    refine LoopW.norm [(0, (LV.ro 1 (a0.map iC))), (1, (LV.ro 1 (a1.map iC))), (12, (I (((a0.map iC).length : Nat) : Int))), (13, (I ((0 : Nat) : Int)))] 0 [] ⟨rfl, rfl, rfl, rfl, trivial⟩ trivial blT rfl ?_
    refine LoopW.forR (fun k31 s31 => [(0, (LV.ro 1 (a0.map iC))), (1, (LV.ro 1 (a1.map iC))), (12, (I (((a0.map iC).length : Nat) : Int))), (13, (I ((k31 : Nat) : Int)))]) (fun s31 => ⟨0, []⟩) hO31 (fun hl31 s31 hs31 => ?_) (fun hl31 k31 x31 s31 o31 hk31 hx31 b31 K31 hret31 hbrk31 => ?_)
    · rw [hs31] at r31
      dsimp only [aftM] at r31
      have hd : decide (((a0.length : Nat) : Int) < (((a0.map iC).length : Nat) : Int)) = false := by rw [decide_eq_false_iff_not]; (try simp only [se_len, se_ch, List.length_map]); omega
      refine LoopW.round TT_ok [0, 1, 4, 5, 10, 12, 13, 14, 24] ?_
      conv => whnf
      repeat' first | with_reducible rfl | with_reducible exact True.intro | with_reducible assumption | refine parkI ?_ | (refine W.drawn TT_ok hmix1 rfl ?_; conv => whnf) | exact clA _ | (refine And.intro ?_ ?_ <;> conv => whnf) | exact clG _ | (refine gand ?_ h; assumption) | exact clN _ | fail
      refine parkE (fun hc => ?_) (fun hc => ?_)
      · exact (Bool.false_ne_true (hd.symm.trans hc)).elim
      · clear hd
        conv => whnf
        have e := Option.some.inj r31
        subst e
        repeat' first | with_reducible rfl | with_reducible exact True.intro | with_reducible assumption | (refine W.drawn TT_ok hmix1 rfl ?_; conv => whnf) | exact clA _ | (refine And.intro ?_ ?_ <;> conv => whnf) | exact clG _ | (refine gand ?_ h; assumption) | exact clN _ | fail
    · unfold ref06_Same_b31 at b31
      have hd : decide (((k31 : Nat) : Int) < (((a0.map iC).length : Nat) : Int)) = true := by rw [decide_eq_true_eq]; (try simp only [se_len, se_ch, List.length_map] at hk31); (try simp only [se_len, se_ch, List.length_map]); omega
      refine LoopW.round TT_ok [0, 1, 4, 5, 10, 12, 13, 14, 24] ?_
      conv => whnf
      repeat' first | with_reducible rfl | with_reducible exact True.intro | with_reducible assumption | refine parkI ?_ | (refine W.drawn TT_ok hmix1 rfl ?_; conv => whnf) | exact clA _ | (refine And.intro ?_ ?_ <;> conv => whnf) | exact clG _ | (refine gand ?_ h; assumption) | exact clN _ | fail
      refine parkE (fun hc => ?_) (fun hc => ?_)
      · clear hd
        conv => whnf
        replace b31 := bindS b31
        obtain ⟨v54, hv54, b31⟩ := b31
        have i55 := gixF (f := iC) hv54
        repeat' first | with_reducible rfl | with_reducible exact True.intro | with_reducible assumption | refine parkI ?_ | (refine ⟨_, (kixF (f := iC) hx31), ?_⟩; conv => whnf) | (refine ⟨_, i55, ?_⟩; conv => whnf) | (refine W.drawn TT_ok hmix1 rfl ?_; conv => whnf) | exact clA _ | (refine And.intro ?_ ?_ <;> conv => whnf) | exact clG _ | (refine gand ?_ h; assumption) | exact clN _ | fail
        refine parkE (fun hc => ?_) (fun hc => ?_)
        · replace b31 := condT hc b31
          conv => whnf
          have e := Option.some.inj b31
          replace e := hret31 _ e.symm
          rw [e] at r31
          replace e := Option.some.inj r31
          subst e
          repeat' first | with_reducible rfl | with_reducible exact True.intro | with_reducible assumption | (refine W.drawn TT_ok hmix1 rfl ?_; conv => whnf) | exact clA _ | (refine And.intro ?_ ?_ <;> conv => whnf) | exact clG _ | (refine gand ?_ h; assumption) | exact clN _ | fail
        · replace b31 := condF hc b31
          conv => whnf
          repeat' first | with_reducible rfl | with_reducible exact True.intro | with_reducible assumption | refine parkI ?_ | (refine W.drawn TT_ok hmix1 rfl ?_; conv => whnf) | exact clA _ | (refine And.intro ?_ ?_ <;> conv => whnf) | exact clG _ | (refine gand ?_ h; assumption) | exact clN _ | fail
          have e := Option.some.inj b31
          refine LoopW.norm [(0, (LV.ro 1 (a0.map iC))), (1, (LV.ro 1 (a1.map iC))), (12, (I (((a0.map iC).length : Nat) : Int))), (13, (I ((k31 + 1 : Nat) : Int)))] 0 [] ⟨rfl, rfl, rfl, (congrArg (LV.int .i64) (w64_nat _ (by omega))), trivial⟩ trivial blT rfl (K31 _ e.symm)
      · exact (Bool.false_ne_true (hc.symm.trans hd)).elim

def ref12_Link_b32 (a1 : Int) (a2 : Bool) (k32 : Nat) (x32 : Bool) (s32 : (List Bool)) : Option (Step StpT (List Bool)) :=
  (bif (decide (((k32 : Nat) : Int) = a1)) then
    grd (fits ((s32 ++ ([a2] : (List Bool))) : List Bool).length 1) <|
    some (.nxt (s32 ++ ([a2] : (List Bool))))
  else
    grd (fits ((s32 ++ ([x32] : (List Bool))) : List Bool).length 1) <|
    some (.nxt (s32 ++ ([x32] : (List Bool)))))

def ref12_Link (a0 : StpT) (a1 : Int) (a2 : Bool) : Option StpT :=
  (gd (!(!a2)) (gix a0.Self.Ups a1)).bind fun v62 =>
  (bif (bif (!a2) then true else (!v62)) then
    (ref12_know a0 a1 (⟨false, (⟨0, 0, 0, 0⟩ : VecT), 0⟩ : InfoT)).bind fun y64 =>
    aft (rangeL (ref12_Link_b32 a1 a2) y64.Self.Ups ([] : (List Bool))) fun s32 =>
    (ref12_settle (⟨(⟨y64.Self.ID, y64.Self.Costs, s32, y64.Self.Infos⟩ : SelfT), y64.States, y64.Max, y64.Delay⟩ : StpT)).bind fun y68 =>
    some y68
  else
    aft (rangeL (ref12_Link_b32 a1 a2) a0.Self.Ups ([] : (List Bool))) fun s32 =>
    (ref12_settle (⟨(⟨a0.Self.ID, a0.Self.Costs, s32, a0.Self.Infos⟩ : SelfT), a0.States, a0.Max, a0.Delay⟩ : StpT)).bind fun y72 =>
    some y72)

theorem c_ref12_Link (a0 : StpT) (a1 : Int) (a2 : Bool) (r : StpT) (h : ref12_Link a0 a1 a2 = some r) : CallP Try.prog 70 [(LV.agg [(I a0.Self.ID), (LV.ro 1 (a0.Self.Costs.map iC)), (LV.ro 1 (a0.Self.Ups.map bC)), (LV.ro 6 (a0.Self.Infos.map InfoT.cells)), (LV.ro 2 (a0.States.map PortStateT.cells)), (I a0.Max), (I a0.Delay)]), (I a1), (LV.bool a2)] (LV.agg [(I r.Self.ID), (LV.ro 1 (r.Self.Costs.map iC)), (LV.ro 1 (r.Self.Ups.map bC)), (LV.ro 6 (r.Self.Infos.map InfoT.cells)), (LV.ro 2 (r.States.map PortStateT.cells)), (I r.Max), (I r.Delay)]) := by
  unfold ref12_Link at h
  refine .intro nlA (.intro TT_ok Try.func70 rfl rfl [0, 1, 2, 3, 6, 7, 8, 9, 20, 28, 29, 30, 31, 37, 3000000] rfl ?_)
  conv => whnf
  replace h := bindS h
  obtain ⟨v62, hv62, h⟩ := h
  have i63 := fun hg => gixF (f := bC) (gdS hg hv62)
  repeat' first | with_reducible rfl | with_reducible exact True.intro | with_reducible assumption | refine parkI ?_ | (refine ⟨_, i63, ?_⟩; conv => whnf) | exact clA _ | (refine And.intro ?_ ?_ <;> conv => whnf) | exact clG _ | (refine gand ?_ h; assumption) | fail
  refine parkE (fun hc => ?_) (fun hc => ?_)
  · replace h := condT hc h
    conv => whnf
    replace h := bindS h
    obtain ⟨y64, hy64, h⟩ := h
    have c65 : CallP Try.prog 182 [(LV.agg [(I a0.Self.ID), (LV.ro 1 (a0.Self.Costs.map iC)), (LV.ro 1 (a0.Self.Ups.map bC)), (LV.ro 6 (a0.Self.Infos.map InfoT.cells)), (LV.ro 2 (a0.States.map PortStateT.cells)), (I a0.Max), (I a0.Delay)]), (I a1), (LV.agg [(LV.bool false), (I 0), (I 0), (I 0), (I 0), (I 0)])] (LV.agg [(I y64.Self.ID), (LV.ro 1 (y64.Self.Costs.map iC)), (LV.ro 1 (y64.Self.Ups.map bC)), (LV.ro 6 (y64.Self.Infos.map InfoT.cells)), (LV.ro 2 (y64.States.map PortStateT.cells)), (I y64.Max), (I y64.Delay)]) := by first | exact c_ref12_know a0 a1 (⟨false, (⟨0, 0, 0, 0⟩ : VecT), 0⟩ : InfoT) _ hy64 | (simpa only [se_map, se_byL, se_len, se_ch, List.length_map] using c_ref12_know a0 a1 (⟨false, (⟨0, 0, 0, 0⟩ : VecT), 0⟩ : InfoT) _ hy64) | (simpa only [se_map, se_byL, se_len, se_ch, List.length_map, InfoT.cells, VecT.cells] using c_ref12_know a0 a1 (⟨false, (⟨0, 0, 0, 0⟩ : VecT), 0⟩ : InfoT) _ hy64)
    repeat' first | with_reducible rfl | with_reducible exact True.intro | with_reducible assumption | refine parkI ?_ | (refine CallP.use c65 ?_; conv => whnf) | (refine And.intro ?_ ?_ <;> conv => whnf) | fail
    replace h := aftS h
    obtain ⟨O32, hO32, r32⟩ := h
    refine LoopW.norm [(1, (I a1)), (2, (LV.bool a2)), (3, (LV.ptr 0 0 0)), (6, (LV.ptr 1 0 0)), (7, (LV.sl 2 0 (([] : (List Bool)).map bC).length)), (28, (LV.ro 1 (y64.Self.Ups.map bC))), (29, (I (((y64.Self.Ups.map bC).length : Nat) : Int))), (30, (I ((0 : Nat) : Int)))] 3 [(0, (.row 85 7 [[(I y64.Self.ID), (LV.ro 1 (y64.Self.Costs.map iC)), (LV.ro 1 (y64.Self.Ups.map bC)), (LV.ro 6 (y64.Self.Infos.map InfoT.cells)), (LV.ro 2 (y64.States.map PortStateT.cells)), (I y64.Max), (I y64.Delay)]])), (1, (.row 85 7 [[(I 0), LV.nils, LV.nils, LV.nils, LV.nils, (I 0), (I 0)]])), (2, (.row 4 1 (([] : (List Bool)).map bC)))] ⟨rfl, rfl, rfl, rfl, (by exact congrArg (LV.sl 2 0) (clL _ : 0 = (([] : (List Bool)).map bC).length)), rfl, rfl, rfl, trivial⟩ ⟨⟨rfl, rfl, blT⟩, ⟨⟨rfl, rfl, blT⟩, ⟨⟨(congrArg (fun q => some (Blk.row 4 1 q)) (smT : (([] : List (List LV)) : List (List LV)) = (([] : (List Bool)).map bC))), rfl, NLss_bel (NLss_map' _)⟩, trivial⟩⟩⟩ blT rfl ?_
    refine LoopW.forR (fun k32 s32 => [(1, (I a1)), (2, (LV.bool a2)), (3, (LV.ptr 0 0 0)), (6, (LV.ptr 1 0 0)), (7, (LV.sl 2 0 (s32.map bC).length)), (28, (LV.ro 1 (y64.Self.Ups.map bC))), (29, (I (((y64.Self.Ups.map bC).length : Nat) : Int))), (30, (I ((k32 : Nat) : Int)))]) (fun s32 => ⟨3, [(0, (.row 85 7 [[(I y64.Self.ID), (LV.ro 1 (y64.Self.Costs.map iC)), (LV.ro 1 (y64.Self.Ups.map bC)), (LV.ro 6 (y64.Self.Infos.map InfoT.cells)), (LV.ro 2 (y64.States.map PortStateT.cells)), (I y64.Max), (I y64.Delay)]])), (1, (.row 85 7 [[(I 0), LV.nils, LV.nils, LV.nils, LV.nils, (I 0), (I 0)]])), (2, (.row 4 1 (s32.map bC)))]⟩) hO32 (fun hl32 s32 hs32 => ?_) (fun hl32 k32 x32 s32 o32 hk32 hx32 b32 K32 hret32 hbrk32 => ?_)
    · rw [hs32] at r32
      dsimp only [aftM] at r32
      have hd : decide (((y64.Self.Ups.length : Nat) : Int) < (((y64.Self.Ups.map bC).length : Nat) : Int)) = false := by rw [decide_eq_false_iff_not]; (try simp only [se_len, se_ch, List.length_map]); omega
      refine LoopW.round TT_ok [0, 1, 2, 3, 6, 7, 8, 9, 20, 28, 29, 30, 31, 37, 3000000] ?_
      conv => whnf
      repeat' first | with_reducible rfl | with_reducible exact True.intro | with_reducible assumption | refine parkI ?_ | (refine And.intro ?_ ?_ <;> conv => whnf) | fail
      refine parkE (fun hc => ?_) (fun hc => ?_)
      · exact (Bool.false_ne_true (hd.symm.trans hc)).elim
      · clear hd
        conv => whnf
        replace r32 := bindS r32
        obtain ⟨y68, hy68, r32⟩ := r32
        have c69 : CallP Try.prog 178 [(LV.agg [(I y64.Self.ID), (LV.ro 1 (y64.Self.Costs.map iC)), (LV.ro 1 (s32.map bC)), (LV.ro 6 (y64.Self.Infos.map InfoT.cells)), (LV.ro 2 (y64.States.map PortStateT.cells)), (I y64.Max), (I y64.Delay)])] (LV.agg [(I y68.Self.ID), (LV.ro 1 (y68.Self.Costs.map iC)), (LV.ro 1 (y68.Self.Ups.map bC)), (LV.ro 6 (y68.Self.Infos.map InfoT.cells)), (LV.ro 2 (y68.States.map PortStateT.cells)), (I y68.Max), (I y68.Delay)]) := by first | exact c_ref12_settle (⟨(⟨y64.Self.ID, y64.Self.Costs, s32, y64.Self.Infos⟩ : SelfT), y64.States, y64.Max, y64.Delay⟩ : StpT) _ hy68 | (simpa only [se_map, se_byL, se_len, se_ch, List.length_map] using c_ref12_settle (⟨(⟨y64.Self.ID, y64.Self.Costs, s32, y64.Self.Infos⟩ : SelfT), y64.States, y64.Max, y64.Delay⟩ : StpT) _ hy68) | (simpa only [se_map, se_byL, se_len, se_ch, List.length_map, SelfT.cells, StpT.cells] using c_ref12_settle (⟨(⟨y64.Self.ID, y64.Self.Costs, s32, y64.Self.Infos⟩ : SelfT), y64.States, y64.Max, y64.Delay⟩ : StpT) _ hy68)
        have e := Option.some.inj r32
        subst e
        repeat' first | with_reducible rfl | with_reducible exact True.intro | with_reducible assumption | (refine CallP.use c69 ?_; conv => whnf) | exact clA _ | (refine And.intro ?_ ?_ <;> conv => whnf) | exact clG _ | (refine gand ?_ h; assumption) | exact clN _ | fail
    · unfold ref12_Link_b32 at b32
      have hd : decide (((k32 : Nat) : Int) < (((y64.Self.Ups.map bC).length : Nat) : Int)) = true := by rw [decide_eq_true_eq]; (try simp only [se_len, se_ch, List.length_map] at hk32); (try simp only [se_len, se_ch, List.length_map]); omega
      refine LoopW.round TT_ok [0, 1, 2, 3, 6, 7, 8, 9, 20, 28, 29, 30, 31, 37, 3000000] ?_
      conv => whnf
      repeat' first | with_reducible rfl | with_reducible exact True.intro | with_reducible assumption | refine parkI ?_ | (refine And.intro ?_ ?_ <;> conv => whnf) | fail
      refine parkE (fun hc => ?_) (fun hc => ?_)
      · clear hd
        conv => whnf
        repeat' first | with_reducible rfl | with_reducible exact True.intro | with_reducible assumption | refine parkI ?_ | (refine ⟨_, (kixF (f := bC) hx32), ?_⟩; conv => whnf) | (refine And.intro ?_ ?_ <;> conv => whnf) | fail
        refine parkE (fun hc => ?_) (fun hc => ?_)
        · replace b32 := condT hc b32
          conv => whnf
          replace b32 := grdS b32
          obtain ⟨g66, b32⟩ := b32
          replace g66 : fits (((s32.map bC) ++ [[(LV.bool a2)]])).length 1 := by simpa only [se_len, se_ch, List.length_map] using g66
          repeat' first | with_reducible rfl | with_reducible exact True.intro | with_reducible assumption | refine parkI ?_ | exact g66 | exact clA _ | (refine And.intro ?_ ?_ <;> conv => whnf) | exact clN _ | fail
          have e := Option.some.inj b32
          refine LoopW.ren [(0, 0), (1, 1), (4, 2)] [(1, (I a1)), (2, (LV.bool a2)), (3, (LV.ptr 0 0 0)), (6, (LV.ptr 1 0 0)), (7, (LV.sl 2 0 ((s32 ++ ([a2] : (List Bool))).map bC).length)), (28, (LV.ro 1 (y64.Self.Ups.map bC))), (29, (I (((y64.Self.Ups.map bC).length : Nat) : Int))), (30, (I ((k32 + 1 : Nat) : Int)))] 3 [(0, (.row 85 7 [[(I y64.Self.ID), (LV.ro 1 (y64.Self.Costs.map iC)), (LV.ro 1 (y64.Self.Ups.map bC)), (LV.ro 6 (y64.Self.Infos.map InfoT.cells)), (LV.ro 2 (y64.States.map PortStateT.cells)), (I y64.Max), (I y64.Delay)]])), (1, (.row 85 7 [[(I 0), LV.nils, LV.nils, LV.nils, LV.nils, (I 0), (I 0)]])), (2, (.row 4 1 ((s32 ++ ([a2] : (List Bool))).map bC)))] rfl ⟨rfl, rfl, rfl, rfl, (by exact congrArg (LV.sl 2 0) (clL _ : (((s32.map bC) ++ [[(LV.bool a2)]])).length = ((s32 ++ ([a2] : (List Bool))).map bC).length)), rfl, rfl, (congrArg (LV.int .i64) (w64_nat _ (by omega))), trivial⟩ ⟨⟨rfl, rfl, .inl ⟨rfl, nlT⟩⟩, rfl, rfl, ⟨⟨rfl, rfl, .inl ⟨rfl, nlT⟩⟩, rfl, rfl, ⟨⟨rfl, rfl, .inl ⟨(smT : (((s32.map bC) ++ [[(LV.bool a2)]]) : List (List LV)) = ((s32 ++ ([a2] : (List Bool))).map bC)), nlT⟩⟩, rfl, rfl, trivial⟩⟩⟩ rfl (K32 _ e.symm)
        · replace b32 := condF hc b32
          conv => whnf
          replace b32 := grdS b32
          obtain ⟨g67, b32⟩ := b32
          replace g67 : fits (((s32.map bC) ++ [[(LV.bool x32)]])).length 1 := by simpa only [se_len, se_ch, List.length_map] using g67
          repeat' first | with_reducible rfl | with_reducible exact True.intro | with_reducible assumption | refine parkI ?_ | exact g67 | exact clA _ | (refine And.intro ?_ ?_ <;> conv => whnf) | exact clN _ | fail
          have e := Option.some.inj b32
          refine LoopW.ren [(0, 0), (1, 1), (4, 2)] [(1, (I a1)), (2, (LV.bool a2)), (3, (LV.ptr 0 0 0)), (6, (LV.ptr 1 0 0)), (7, (LV.sl 2 0 ((s32 ++ ([x32] : (List Bool))).map bC).length)), (28, (LV.ro 1 (y64.Self.Ups.map bC))), (29, (I (((y64.Self.Ups.map bC).length : Nat) : Int))), (30, (I ((k32 + 1 : Nat) : Int)))] 3 [(0, (.row 85 7 [[(I y64.Self.ID), (LV.ro 1 (y64.Self.Costs.map iC)), (LV.ro 1 (y64.Self.Ups.map bC)), (LV.ro 6 (y64.Self.Infos.map InfoT.cells)), (LV.ro 2 (y64.States.map PortStateT.cells)), (I y64.Max), (I y64.Delay)]])), (1, (.row 85 7 [[(I 0), LV.nils, LV.nils, LV.nils, LV.nils, (I 0), (I 0)]])), (2, (.row 4 1 ((s32 ++ ([x32] : (List Bool))).map bC)))] rfl ⟨rfl, rfl, rfl, rfl, (by exact congrArg (LV.sl 2 0) (clL _ : (((s32.map bC) ++ [[(LV.bool x32)]])).length = ((s32 ++ ([x32] : (List Bool))).map bC).length)), rfl, rfl, (congrArg (LV.int .i64) (w64_nat _ (by omega))), trivial⟩ ⟨⟨rfl, rfl, .inl ⟨rfl, nlT⟩⟩, rfl, rfl, ⟨⟨rfl, rfl, .inl ⟨rfl, nlT⟩⟩, rfl, rfl, ⟨⟨rfl, rfl, .inl ⟨(smT : (((s32.map bC) ++ [[(LV.bool x32)]]) : List (List LV)) = ((s32 ++ ([x32] : (List Bool))).map bC)), nlT⟩⟩, rfl, rfl, trivial⟩⟩⟩ rfl (K32 _ e.symm)
      · exact (Bool.false_ne_true (hc.symm.trans hd)).elim
  · replace h := condF hc h
    conv => whnf
    repeat' first | with_reducible rfl | with_reducible exact True.intro | with_reducible assumption | refine parkI ?_ | (refine And.intro ?_ ?_ <;> conv => whnf) | fail
    replace h := aftS h
    obtain ⟨O32, hO32, r32⟩ := h
    refine LoopW.norm [(1, (I a1)), (2, (LV.bool a2)), (3, (LV.ptr 0 0 0)), (6, (LV.ptr 1 0 0)), (7, (LV.sl 2 0 (([] : (List Bool)).map bC).length)), (28, (LV.ro 1 (a0.Self.Ups.map bC))), (29, (I (((a0.Self.Ups.map bC).length : Nat) : Int))), (30, (I ((0 : Nat) : Int)))] 3 [(0, (.row 85 7 [[(I a0.Self.ID), (LV.ro 1 (a0.Self.Costs.map iC)), (LV.ro 1 (a0.Self.Ups.map bC)), (LV.ro 6 (a0.Self.Infos.map InfoT.cells)), (LV.ro 2 (a0.States.map PortStateT.cells)), (I a0.Max), (I a0.Delay)]])), (1, (.row 85 7 [[(I 0), LV.nils, LV.nils, LV.nils, LV.nils, (I 0), (I 0)]])), (2, (.row 4 1 (([] : (List Bool)).map bC)))] ⟨rfl, rfl, rfl, rfl, (by exact congrArg (LV.sl 2 0) (clL _ : 0 = (([] : (List Bool)).map bC).length)), rfl, rfl, rfl, trivial⟩ ⟨⟨rfl, rfl, blT⟩, ⟨⟨rfl, rfl, blT⟩, ⟨⟨(congrArg (fun q => some (Blk.row 4 1 q)) (smT : (([] : List (List LV)) : List (List LV)) = (([] : (List Bool)).map bC))), rfl, NLss_bel (NLss_map' _)⟩, trivial⟩⟩⟩ blT rfl ?_
    refine LoopW.forR (fun k32 s32 => [(1, (I a1)), (2, (LV.bool a2)), (3, (LV.ptr 0 0 0)), (6, (LV.ptr 1 0 0)), (7, (LV.sl 2 0 (s32.map bC).length)), (28, (LV.ro 1 (a0.Self.Ups.map bC))), (29, (I (((a0.Self.Ups.map bC).length : Nat) : Int))), (30, (I ((k32 : Nat) : Int)))]) (fun s32 => ⟨3, [(0, (.row 85 7 [[(I a0.Self.ID), (LV.ro 1 (a0.Self.Costs.map iC)), (LV.ro 1 (a0.Self.Ups.map bC)), (LV.ro 6 (a0.Self.Infos.map InfoT.cells)), (LV.ro 2 (a0.States.map PortStateT.cells)), (I a0.Max), (I a0.Delay)]])), (1, (.row 85 7 [[(I 0), LV.nils, LV.nils, LV.nils, LV.nils, (I 0), (I 0)]])), (2, (.row 4 1 (s32.map bC)))]⟩) hO32 (fun hl32 s32 hs32 => ?_) (fun hl32 k32 x32 s32 o32 hk32 hx32 b32 K32 hret32 hbrk32 => ?_)
    · rw [hs32] at r32
      dsimp only [aftM] at r32
      have hd : decide (((a0.Self.Ups.length : Nat) : Int) < (((a0.Self.Ups.map bC).length : Nat) : Int)) = false := by rw [decide_eq_false_iff_not]; (try simp only [se_len, se_ch, List.length_map]); omega
      refine LoopW.round TT_ok [0, 1, 2, 3, 6, 7, 8, 9, 20, 28, 29, 30, 31, 37, 3000000] ?_
      conv => whnf
      repeat' first | with_reducible rfl | with_reducible exact True.intro | with_reducible assumption | refine parkI ?_ | (refine And.intro ?_ ?_ <;> conv => whnf) | fail
      refine parkE (fun hc => ?_) (fun hc => ?_)
      · exact (Bool.false_ne_true (hd.symm.trans hc)).elim
      · clear hd
        conv => whnf
        replace r32 := bindS r32
        obtain ⟨y72, hy72, r32⟩ := r32
        have c73 : CallP Try.prog 178 [(LV.agg [(I a0.Self.ID), (LV.ro 1 (a0.Self.Costs.map iC)), (LV.ro 1 (s32.map bC)), (LV.ro 6 (a0.Self.Infos.map InfoT.cells)), (LV.ro 2 (a0.States.map PortStateT.cells)), (I a0.Max), (I a0.Delay)])] (LV.agg [(I y72.Self.ID), (LV.ro 1 (y72.Self.Costs.map iC)), (LV.ro 1 (y72.Self.Ups.map bC)), (LV.ro 6 (y72.Self.Infos.map InfoT.cells)), (LV.ro 2 (y72.States.map PortStateT.cells)), (I y72.Max), (I y72.Delay)]) := by first | exact c_ref12_settle (⟨(⟨a0.Self.ID, a0.Self.Costs, s32, a0.Self.Infos⟩ : SelfT), a0.States, a0.Max, a0.Delay⟩ : StpT) _ hy72 | (simpa only [se_map, se_byL, se_len, se_ch, List.length_map] using c_ref12_settle (⟨(⟨a0.Self.ID, a0.Self.Costs, s32, a0.Self.Infos⟩ : SelfT), a0.States, a0.Max, a0.Delay⟩ : StpT) _ hy72) | (simpa only [se_map, se_byL, se_len, se_ch, List.length_map, SelfT.cells, StpT.cells] using c_ref12_settle (⟨(⟨a0.Self.ID, a0.Self.Costs, s32, a0.Self.Infos⟩ : SelfT), a0.States, a0.Max, a0.Delay⟩ : StpT) _ hy72)
        have e := Option.some.inj r32
        subst e
        repeat' first | with_reducible rfl | with_reducible exact True.intro | with_reducible assumption | (refine CallP.use c73 ?_; conv => whnf) | exact clA _ | (refine And.intro ?_ ?_ <;> conv => whnf) | exact clG _ | (refine gand ?_ h; assumption) | exact clN _ | fail
    · unfold ref12_Link_b32 at b32
      have hd : decide (((k32 : Nat) : Int) < (((a0.Self.Ups.map bC).length : Nat) : Int)) = true := by rw [decide_eq_true_eq]; (try simp only [se_len, se_ch, List.length_map] at hk32); (try simp only [se_len, se_ch, List.length_map]); omega
      refine LoopW.round TT_ok [0, 1, 2, 3, 6, 7, 8, 9, 20, 28, 29, 30, 31, 37, 3000000] ?_
      conv => whnf
      repeat' first | with_reducible rfl | with_reducible exact True.intro | with_reducible assumption | refine parkI ?_ | (refine And.intro ?_ ?_ <;> conv => whnf) | fail
      refine parkE (fun hc => ?_) (fun hc => ?_)
      · clear hd
        conv => whnf
        repeat' first | with_reducible rfl | with_reducible exact True.intro | with_reducible assumption | refine parkI ?_ | (refine ⟨_, (kixF (f := bC) hx32), ?_⟩; conv => whnf) | (refine And.intro ?_ ?_ <;> conv => whnf) | fail
        refine parkE (fun hc => ?_) (fun hc => ?_)
        · replace b32 := condT hc b32
          conv => whnf
          replace b32 := grdS b32
          obtain ⟨g70, b32⟩ := b32
          replace g70 : fits (((s32.map bC) ++ [[(LV.bool a2)]])).length 1 := by simpa only [se_len, se_ch, List.length_map] using g70
          repeat' first | with_reducible rfl | with_reducible exact True.intro | with_reducible assumption | refine parkI ?_ | exact g70 | exact clA _ | (refine And.intro ?_ ?_ <;> conv => whnf) | exact clN _ | fail
          have e := Option.some.inj b32
          refine LoopW.ren [(0, 0), (1, 1), (4, 2)] [(1, (I a1)), (2, (LV.bool a2)), (3, (LV.ptr 0 0 0)), (6, (LV.ptr 1 0 0)), (7, (LV.sl 2 0 ((s32 ++ ([a2] : (List Bool))).map bC).length)), (28, (LV.ro 1 (a0.Self.Ups.map bC))), (29, (I (((a0.Self.Ups.map bC).length : Nat) : Int))), (30, (I ((k32 + 1 : Nat) : Int)))] 3 [(0, (.row 85 7 [[(I a0.Self.ID), (LV.ro 1 (a0.Self.Costs.map iC)), (LV.ro 1 (a0.Self.Ups.map bC)), (LV.ro 6 (a0.Self.Infos.map InfoT.cells)), (LV.ro 2 (a0.States.map PortStateT.cells)), (I a0.Max), (I a0.Delay)]])), (1, (.row 85 7 [[(I 0), LV.nils, LV.nils, LV.nils, LV.nils, (I 0), (I 0)]])), (2, (.row 4 1 ((s32 ++ ([a2] : (List Bool))).map bC)))] rfl ⟨rfl, rfl, rfl, rfl, (by exact congrArg (LV.sl 2 0) (clL _ : (((s32.map bC) ++ [[(LV.bool a2)]])).length = ((s32 ++ ([a2] : (List Bool))).map bC).length)), rfl, rfl, (congrArg (LV.int .i64) (w64_nat _ (by omega))), trivial⟩ ⟨⟨rfl, rfl, .inl ⟨rfl, nlT⟩⟩, rfl, rfl, ⟨⟨rfl, rfl, .inl ⟨rfl, nlT⟩⟩, rfl, rfl, ⟨⟨rfl, rfl, .inl ⟨(smT : (((s32.map bC) ++ [[(LV.bool a2)]]) : List (List LV)) = ((s32 ++ ([a2] : (List Bool))).map bC)), nlT⟩⟩, rfl, rfl, trivial⟩⟩⟩ rfl (K32 _ e.symm)
        · replace b32 := condF hc b32
          conv => whnf
          replace b32 := grdS b32
          obtain ⟨g71, b32⟩ := b32
          replace g71 : fits (((s32.map bC) ++ [[(LV.bool x32)]])).length 1 := by simpa only [se_len, se_ch, List.length_map] using g71
          repeat' first | with_reducible rfl | with_reducible exact True.intro | with_reducible assumption | refine parkI ?_ | exact g71 | exact clA _ | (refine And.intro ?_ ?_ <;> conv => whnf) | exact clN _ | fail
          have e := Option.some.inj b32
          refine LoopW.ren [(0, 0), (1, 1), (4, 2)] [(1, (I a1)), (2, (LV.bool a2)), (3, (LV.ptr 0 0 0)), (6, (LV.ptr 1 0 0)), (7, (LV.sl 2 0 ((s32 ++ ([x32] : (List Bool))).map bC).length)), (28, (LV.ro 1 (a0.Self.Ups.map bC))), (29, (I (((a0.Self.Ups.map bC).length : Nat) : Int))), (30, (I ((k32 + 1 : Nat) : Int)))] 3 [(0, (.row 85 7 [[(I a0.Self.ID), (LV.ro 1 (a0.Self.Costs.map iC)), (LV.ro 1 (a0.Self.Ups.map bC)), (LV.ro 6 (a0.Self.Infos.map InfoT.cells)), (LV.ro 2 (a0.States.map PortStateT.cells)), (I a0.Max), (I a0.Delay)]])), (1, (.row 85 7 [[(I 0), LV.nils, LV.nils, LV.nils, LV.nils, (I 0), (I 0)]])), (2, (.row 4 1 ((s32 ++ ([x32] : (List Bool))).map bC)))] rfl ⟨rfl, rfl, rfl, rfl, (by exact congrArg (LV.sl 2 0) (clL _ : (((s32.map bC) ++ [[(LV.bool x32)]])).length = ((s32 ++ ([x32] : (List Bool))).map bC).length)), rfl, rfl, (congrArg (LV.int .i64) (w64_nat _ (by omega))), trivial⟩ ⟨⟨rfl, rfl, .inl ⟨rfl, nlT⟩⟩, rfl, rfl, ⟨⟨rfl, rfl, .inl ⟨rfl, nlT⟩⟩, rfl, rfl, ⟨⟨rfl, rfl, .inl ⟨(smT : (((s32.map bC) ++ [[(LV.bool x32)]]) : List (List LV)) = ((s32 ++ ([x32] : (List Bool))).map bC)), nlT⟩⟩, rfl, rfl, trivial⟩⟩⟩ rfl (K32 _ e.symm)
      · exact (Bool.false_ne_true (hc.symm.trans hd)).elim

def law12_StpTicks (a0 : StpT) (a1 : Int) (a2 : Bool) : Option Bool :=
  (law12_few a0).bind fun y1 =>
  (stp_Tick y1).bind fun y3 =>
  (stp_Link y1 a1 a2).bind fun y5 =>
  (stp_Forwards y1).bind fun y7 =>
  (ref12_Right y1).bind fun y9 =>
  (bif (!y9) then
    (law12_alive ).bind fun y11 =>
    (gd (bif (bif (bif (bif (bif y11 then (decide (y3.2.2 = 1)) else false) then (decide (y5.2 = 1)) else false) then (decide (y7.2 = 1)) else false) then (decide (((y3.2.1.length : Nat) : Int) = 0)) else false) then (decide (((y7.1.length : Nat) : Int) = 0)) else false) (ref12_Same y3.1 (⟨(⟨0, [], [], []⟩ : SelfT), [], 0, 0⟩ : StpT))).bind fun y13 =>
    (gd (bif (bif (bif (bif (bif (bif y11 then (decide (y3.2.2 = 1)) else false) then (decide (y5.2 = 1)) else false) then (decide (y7.2 = 1)) else false) then (decide (((y3.2.1.length : Nat) : Int) = 0)) else false) then (decide (((y7.1.length : Nat) : Int) = 0)) else false) then y13 else false) (ref12_Same y5.1 (⟨(⟨0, [], [], []⟩ : SelfT), [], 0, 0⟩ : StpT))).bind fun y15 =>
    some (bif (bif (bif (bif (bif (bif (bif y11 then (decide (y3.2.2 = 1)) else false) then (decide (y5.2 = 1)) else false) then (decide (y7.2 = 1)) else false) then (decide (((y3.2.1.length : Nat) : Int) = 0)) else false) then (decide (((y7.1.length : Nat) : Int) = 0)) else false) then y13 else false) then y15 else false)
  else
    (ref12_Tick y1).bind fun y43 =>
    (gd (!(bif (!decide (y3.2.2 = 0)) then true else (!decide (y7.2 = 0)))) (ref12_Same y3.1 y43.1)).bind fun y45 =>
    (gd (!(bif (bif (!decide (y3.2.2 = 0)) then true else (!decide (y7.2 = 0))) then true else (!y45))) (ref12_Sends y3.2.1 y43.2)).bind fun y49 =>
    (gd (!(bif (bif (bif (!decide (y3.2.2 = 0)) then true else (!decide (y7.2 = 0))) then true else (!y45)) then true else (!y49))) (ref12_Forwards y1)).bind fun y52 =>
    (gd (!(bif (bif (bif (!decide (y3.2.2 = 0)) then true else (!decide (y7.2 = 0))) then true else (!y45)) then true else (!y49))) (ref06_Same y7.1 y52)).bind fun y56 =>
    (gd (!(bif (bif (bif (bif (!decide (y3.2.2 = 0)) then true else (!decide (y7.2 = 0))) then true else (!y45)) then true else (!y49)) then true else (!y56))) (law12_alive )).bind fun y58 =>
    (bif (bif (bif (bif (bif (bif (!decide (y3.2.2 = 0)) then true else (!decide (y7.2 = 0))) then true else (!y45)) then true else (!y49)) then true else (!y56)) then true else (!y58)) then
      some false
    else
      (bif (bif (decide (a1 < 0)) then true else (decide (((y1.States.length : Nat) : Int) ≤ a1))) then
        (gd (decide (y5.2 = 3)) (ref12_Same y5.1 (⟨(⟨0, [], [], []⟩ : SelfT), [], 0, 0⟩ : StpT))).bind fun y60 =>
        some (bif (decide (y5.2 = 3)) then y60 else false)
      else
        (gd (decide (y5.2 = 0)) (ref12_Link y1 a1 a2)).bind fun y74 =>
        (gd (decide (y5.2 = 0)) (ref12_Same y5.1 y74)).bind fun y76 =>
        some (bif (decide (y5.2 = 0)) then y76 else false))))

theorem c_law12_StpTicks (a0 : StpT) (a1 : Int) (a2 : Bool) (r : Bool) (h : law12_StpTicks a0 a1 a2 = some r) : CallP Try.prog 9 [(LV.agg [(I a0.Self.ID), (LV.ro 1 (a0.Self.Costs.map iC)), (LV.ro 1 (a0.Self.Ups.map bC)), (LV.ro 6 (a0.Self.Infos.map InfoT.cells)), (LV.ro 2 (a0.States.map PortStateT.cells)), (I a0.Max), (I a0.Delay)]), (I a1), (LV.bool a2)] (LV.bool r) := by
  unfold law12_StpTicks at h
  refine .intro nlA (.intro TT_ok Try.func9 rfl rfl [0, 1, 2, 3, 6, 7, 8, 9, 10, 11, 12, 13, 14, 15, 16, 40, 107, 116] rfl ?_)
  conv => whnf
  replace h := bindS h
  obtain ⟨y1, hy1, h⟩ := h
  have c2 := c_law12_few a0 _ hy1
  replace h := bindS h
  obtain ⟨y3, hy3, h⟩ := h
  have c4 := c_stp_Tick y1 _ hy3
  replace h := bindS h
  obtain ⟨y5, hy5, h⟩ := h
  have c6 := c_stp_Link y1 a1 a2 _ hy5
  replace h := bindS h
  obtain ⟨y7, hy7, h⟩ := h
  have c8 := c_stp_Forwards y1 _ hy7
  replace h := bindS h
  obtain ⟨y9, hy9, h⟩ := h
  have c10 := c_ref12_Right y1 _ hy9
  repeat' first | with_reducible rfl | with_reducible exact True.intro | with_reducible assumption | refine parkI ?_ | (refine CallP.use c2 ?_; conv => whnf) | (refine ⟨_, _, CallP.at c2, ?_⟩; conv => whnf) | (refine ⟨_, fun _ => c2, ?_⟩; conv => whnf) | (refine CallP.use c4 ?_; conv => whnf) | (refine ⟨_, _, CallP.at c4, ?_⟩; conv => whnf) | (refine ⟨_, fun _ => c4, ?_⟩; conv => whnf) | (refine CallP.use c6 ?_; conv => whnf) | (refine ⟨_, _, CallP.at c6, ?_⟩; conv => whnf) | (refine ⟨_, fun _ => c6, ?_⟩; conv => whnf) | (refine CallP.use c8 ?_; conv => whnf) | (refine ⟨_, _, CallP.at c8, ?_⟩; conv => whnf) | (refine ⟨_, fun _ => c8, ?_⟩; conv => whnf) | (refine CallP.use c10 ?_; conv => whnf) | (refine ⟨_, _, CallP.at c10, ?_⟩; conv => whnf) | (refine ⟨_, fun _ => c10, ?_⟩; conv => whnf) | (refine W.drawn TT_ok hmix1 rfl ?_; conv => whnf) | exact clA _ | (refine And.intro ?_ ?_ <;> conv => whnf) | exact clG _ | (refine gand ?_ h; assumption) | exact clN _ | fail
  refine parkE (fun hc => ?_) (fun hc => ?_)
  · replace h := condT hc h
    conv => whnf
    replace h := bindS h
    obtain ⟨y11, hy11, h⟩ := h
    have c12 := c_law12_alive  _ hy11
    replace h := bindS h
    obtain ⟨y13, hy13, h⟩ := h
    have c14 : (bif (bif (bif (bif (bif y11 then (decide (y3.2.2 = 1)) else false) then (decide (y5.2 = 1)) else false) then (decide (y7.2 = 1)) else false) then (decide ((((y3.2.1.map SendT.cells).length : Nat) : Int) = 0)) else false) then (decide ((((y7.1.map iC).length : Nat) : Int) = 0)) else false) = true → CallP Try.prog 60 [(LV.agg [(I y3.1.Self.ID), (LV.ro 1 (y3.1.Self.Costs.map iC)), (LV.ro 1 (y3.1.Self.Ups.map bC)), (LV.ro 6 (y3.1.Self.Infos.map InfoT.cells)), (LV.ro 2 (y3.1.States.map PortStateT.cells)), (I y3.1.Max), (I y3.1.Delay)]), (LV.agg [(I 0), LV.nils, LV.nils, LV.nils, LV.nils, (I 0), (I 0)])] (LV.bool y13) := by first | exact fun (hg : (bif (bif (bif (bif (bif y11 then (decide (y3.2.2 = 1)) else false) then (decide (y5.2 = 1)) else false) then (decide (y7.2 = 1)) else false) then (decide ((((y3.2.1.map SendT.cells).length : Nat) : Int) = 0)) else false) then (decide ((((y7.1.map iC).length : Nat) : Int) = 0)) else false) = true) => c_ref12_Same y3.1 (⟨(⟨0, [], [], []⟩ : SelfT), [], 0, 0⟩ : StpT) _ (gdS (show (bif (bif (bif (bif (bif y11 then (decide (y3.2.2 = 1)) else false) then (decide (y5.2 = 1)) else false) then (decide (y7.2 = 1)) else false) then (decide (((y3.2.1.length : Nat) : Int) = 0)) else false) then (decide (((y7.1.length : Nat) : Int) = 0)) else false) = true by simpa only [se_len, se_ch, List.length_map] using hg) hy13) | (simpa only [se_map, se_byL, se_len, se_ch, List.length_map] using fun (hg : (bif (bif (bif (bif (bif y11 then (decide (y3.2.2 = 1)) else false) then (decide (y5.2 = 1)) else false) then (decide (y7.2 = 1)) else false) then (decide ((((y3.2.1.map SendT.cells).length : Nat) : Int) = 0)) else false) then (decide ((((y7.1.map iC).length : Nat) : Int) = 0)) else false) = true) => c_ref12_Same y3.1 (⟨(⟨0, [], [], []⟩ : SelfT), [], 0, 0⟩ : StpT) _ (gdS (show (bif (bif (bif (bif (bif y11 then (decide (y3.2.2 = 1)) else false) then (decide (y5.2 = 1)) else false) then (decide (y7.2 = 1)) else false) then (decide (((y3.2.1.length : Nat) : Int) = 0)) else false) then (decide (((y7.1.length : Nat) : Int) = 0)) else false) = true by simpa only [se_len, se_ch, List.length_map] using hg) hy13)) | exact fun (hg : (bif (bif (bif (bif (bif y11 then (decide (y3.2.2 = 1)) else false) then (decide (y5.2 = 1)) else false) then (decide (y7.2 = 1)) else false) then (decide ((((y3.2.1.map SendT.cells).length : Nat) : Int) = 0)) else false) then (decide ((((y7.1.map iC).length : Nat) : Int) = 0)) else false) = true) => CallP.up (c_ref12_Same y3.1 (⟨(⟨0, [], [], []⟩ : SelfT), [], 0, 0⟩ : StpT) _ (gdS (show (bif (bif (bif (bif (bif y11 then (decide (y3.2.2 = 1)) else false) then (decide (y5.2 = 1)) else false) then (decide (y7.2 = 1)) else false) then (decide (((y3.2.1.length : Nat) : Int) = 0)) else false) then (decide (((y7.1.length : Nat) : Int) = 0)) else false) = true by simpa only [se_len, se_ch, List.length_map] using hg) hy13)) upT
    replace h := bindS h
    obtain ⟨y15, hy15, h⟩ := h
    have c16 : (bif (bif (bif (bif (bif (bif y11 then (decide (y3.2.2 = 1)) else false) then (decide (y5.2 = 1)) else false) then (decide (y7.2 = 1)) else false) then (decide ((((y3.2.1.map SendT.cells).length : Nat) : Int) = 0)) else false) then (decide ((((y7.1.map iC).length : Nat) : Int) = 0)) else false) then y13 else false) = true → CallP Try.prog 60 [(LV.agg [(I y5.1.Self.ID), (LV.ro 1 (y5.1.Self.Costs.map iC)), (LV.ro 1 (y5.1.Self.Ups.map bC)), (LV.ro 6 (y5.1.Self.Infos.map InfoT.cells)), (LV.ro 2 (y5.1.States.map PortStateT.cells)), (I y5.1.Max), (I y5.1.Delay)]), (LV.agg [(I 0), LV.nils, LV.nils, LV.nils, LV.nils, (I 0), (I 0)])] (LV.bool y15) := by first | exact fun (hg : (bif (bif (bif (bif (bif (bif y11 then (decide (y3.2.2 = 1)) else false) then (decide (y5.2 = 1)) else false) then (decide (y7.2 = 1)) else false) then (decide ((((y3.2.1.map SendT.cells).length : Nat) : Int) = 0)) else false) then (decide ((((y7.1.map iC).length : Nat) : Int) = 0)) else false) then y13 else false) = true) => c_ref12_Same y5.1 (⟨(⟨0, [], [], []⟩ : SelfT), [], 0, 0⟩ : StpT) _ (gdS (show (bif (bif (bif (bif (bif (bif y11 then (decide (y3.2.2 = 1)) else false) then (decide (y5.2 = 1)) else false) then (decide (y7.2 = 1)) else false) then (decide (((y3.2.1.length : Nat) : Int) = 0)) else false) then (decide (((y7.1.length : Nat) : Int) = 0)) else false) then y13 else false) = true by simpa only [se_len, se_ch, List.length_map] using hg) hy15) | (simpa only [se_map, se_byL, se_len, se_ch, List.length_map] using fun (hg : (bif (bif (bif (bif (bif (bif y11 then (decide (y3.2.2 = 1)) else false) then (decide (y5.2 = 1)) else false) then (decide (y7.2 = 1)) else false) then (decide ((((y3.2.1.map SendT.cells).length : Nat) : Int) = 0)) else false) then (decide ((((y7.1.map iC).length : Nat) : Int) = 0)) else false) then y13 else false) = true) => c_ref12_Same y5.1 (⟨(⟨0, [], [], []⟩ : SelfT), [], 0, 0⟩ : StpT) _ (gdS (show (bif (bif (bif (bif (bif (bif y11 then (decide (y3.2.2 = 1)) else false) then (decide (y5.2 = 1)) else false) then (decide (y7.2 = 1)) else false) then (decide (((y3.2.1.length : Nat) : Int) = 0)) else false) then (decide (((y7.1.length : Nat) : Int) = 0)) else false) then y13 else false) = true by simpa only [se_len, se_ch, List.length_map] using hg) hy15)) | exact fun (hg : (bif (bif (bif (bif (bif (bif y11 then (decide (y3.2.2 = 1)) else false) then (decide (y5.2 = 1)) else false) then (decide (y7.2 = 1)) else false) then (decide ((((y3.2.1.map SendT.cells).length : Nat) : Int) = 0)) else false) then (decide ((((y7.1.map iC).length : Nat) : Int) = 0)) else false) then y13 else false) = true) => CallP.up (c_ref12_Same y5.1 (⟨(⟨0, [], [], []⟩ : SelfT), [], 0, 0⟩ : StpT) _ (gdS (show (bif (bif (bif (bif (bif (bif y11 then (decide (y3.2.2 = 1)) else false) then (decide (y5.2 = 1)) else false) then (decide (y7.2 = 1)) else false) then (decide (((y3.2.1.length : Nat) : Int) = 0)) else false) then (decide (((y7.1.length : Nat) : Int) = 0)) else false) then y13 else false) = true by simpa only [se_len, se_ch, List.length_map] using hg) hy15)) upT
    have e := Option.some.inj h
    subst e
    repeat' first | with_reducible rfl | with_reducible exact True.intro | with_reducible assumption | (refine ⟨_, c14, ?_⟩; conv => whnf) | (refine ⟨_, c16, ?_⟩; conv => whnf) | (refine CallP.use c12 ?_; conv => whnf) | (refine ⟨_, _, CallP.at c12, ?_⟩; conv => whnf) | (refine ⟨_, fun _ => c12, ?_⟩; conv => whnf) | (refine W.drawn TT_ok hmix1 rfl ?_; conv => whnf) | exact clA _ | (refine And.intro ?_ ?_ <;> conv => whnf) | exact clG _ | (refine gand ?_ h; assumption) | exact clN _ | fail
  · replace h := condF hc h
    conv => whnf
    replace h := bindS h
    obtain ⟨y43, hy43, h⟩ := h
    have c44 := c_ref12_Tick y1 _ hy43
    replace h := bindS h
    obtain ⟨y45, hy45, h⟩ := h
    have c46 := fun (hg : (!(bif (!decide (y3.2.2 = 0)) then true else (!decide (y7.2 = 0)))) = true) => c_ref12_Same y3.1 y43.1 _ (gdS hg hy45)
    replace h := bindS h
    obtain ⟨y49, hy49, h⟩ := h
    have c50 := fun (hg : (!(bif (bif (!decide (y3.2.2 = 0)) then true else (!decide (y7.2 = 0))) then true else (!y45))) = true) => c_ref12_Sends y3.2.1 y43.2 _ (gdS hg hy49)
    replace h := bindS h
    obtain ⟨y52, hy52, h⟩ := h
    have c53 := fun (hg : (!(bif (bif (bif (!decide (y3.2.2 = 0)) then true else (!decide (y7.2 = 0))) then true else (!y45)) then true else (!y49))) = true) => c_ref12_Forwards y1 _ (gdS hg hy52)
    replace h := bindS h
    obtain ⟨y56, hy56, h⟩ := h
    have c57 := fun (hg : (!(bif (bif (bif (!decide (y3.2.2 = 0)) then true else (!decide (y7.2 = 0))) then true else (!y45)) then true else (!y49))) = true) => c_ref06_Same y7.1 y52 _ (gdS hg hy56)
    replace h := bindS h
    obtain ⟨y58, hy58, h⟩ := h
    have c59 := fun (hg : (!(bif (bif (bif (bif (!decide (y3.2.2 = 0)) then true else (!decide (y7.2 = 0))) then true else (!y45)) then true else (!y49)) then true else (!y56))) = true) => c_law12_alive  _ (gdS hg hy58)
    repeat' first | with_reducible rfl | with_reducible exact True.intro | with_reducible assumption | refine parkI ?_ | (refine ⟨_, c46, ?_⟩; conv => whnf) | (refine ⟨_, c50, ?_⟩; conv => whnf) | (refine ⟨_, c53, ?_⟩; conv => whnf) | (refine ⟨_, c57, ?_⟩; conv => whnf) | (refine ⟨_, c59, ?_⟩; conv => whnf) | (refine CallP.use c44 ?_; conv => whnf) | (refine ⟨_, _, CallP.at c44, ?_⟩; conv => whnf) | (refine ⟨_, fun _ => c44, ?_⟩; conv => whnf) | (refine W.drawn TT_ok hmix1 rfl ?_; conv => whnf) | exact clA _ | (refine And.intro ?_ ?_ <;> conv => whnf) | exact clG _ | (refine gand ?_ h; assumption) | exact clN _ | fail
    refine parkE (fun hc => ?_) (fun hc => ?_)
    · replace h := condT hc h
      conv => whnf
      have e := Option.some.inj h
      subst e
      repeat' first | with_reducible rfl | with_reducible exact True.intro | with_reducible assumption | (refine W.drawn TT_ok hmix1 rfl ?_; conv => whnf) | exact clA _ | (refine And.intro ?_ ?_ <;> conv => whnf) | exact clG _ | (refine gand ?_ h; assumption) | exact clN _ | fail
    · replace h := condF hc h
      conv => whnf
      repeat' first | with_reducible rfl | with_reducible exact True.intro | with_reducible assumption | refine parkI ?_ | (refine W.drawn TT_ok hmix1 rfl ?_; conv => whnf) | exact clA _ | (refine And.intro ?_ ?_ <;> conv => whnf) | exact clG _ | (refine gand ?_ h; assumption) | exact clN _ | fail
      refine parkE (fun hc => ?_) (fun hc => ?_)
      · replace h := condT (by first | exact hc | simpa only [se_len, se_ch, List.length_map] using hc) h
        conv => whnf
        replace h := bindS h
        obtain ⟨y60, hy60, h⟩ := h
        have c61 : (decide (y5.2 = 3)) = true → CallP Try.prog 60 [(LV.agg [(I y5.1.Self.ID), (LV.ro 1 (y5.1.Self.Costs.map iC)), (LV.ro 1 (y5.1.Self.Ups.map bC)), (LV.ro 6 (y5.1.Self.Infos.map InfoT.cells)), (LV.ro 2 (y5.1.States.map PortStateT.cells)), (I y5.1.Max), (I y5.1.Delay)]), (LV.agg [(I 0), LV.nils, LV.nils, LV.nils, LV.nils, (I 0), (I 0)])] (LV.bool y60) := by first | exact fun (hg : (decide (y5.2 = 3)) = true) => c_ref12_Same y5.1 (⟨(⟨0, [], [], []⟩ : SelfT), [], 0, 0⟩ : StpT) _ (gdS hg hy60) | (simpa only [se_map, se_byL, se_len, se_ch, List.length_map] using fun (hg : (decide (y5.2 = 3)) = true) => c_ref12_Same y5.1 (⟨(⟨0, [], [], []⟩ : SelfT), [], 0, 0⟩ : StpT) _ (gdS hg hy60)) | exact fun (hg : (decide (y5.2 = 3)) = true) => CallP.up (c_ref12_Same y5.1 (⟨(⟨0, [], [], []⟩ : SelfT), [], 0, 0⟩ : StpT) _ (gdS hg hy60)) upT
        have e := Option.some.inj h
        subst e
        repeat' first | with_reducible rfl | with_reducible exact True.intro | with_reducible assumption | (refine ⟨_, c61, ?_⟩; conv => whnf) | (refine W.drawn TT_ok hmix1 rfl ?_; conv => whnf) | exact clA _ | (refine And.intro ?_ ?_ <;> conv => whnf) | exact clG _ | (refine gand ?_ h; assumption) | exact clN _ | fail
      · replace h := condF (by first | exact hc | simpa only [se_len, se_ch, List.length_map] using hc) h
        conv => whnf
        replace h := bindS h
        obtain ⟨y74, hy74, h⟩ := h
        have c75 := fun (hg : (decide (y5.2 = 0)) = true) => c_ref12_Link y1 a1 a2 _ (gdS hg hy74)
        replace h := bindS h
        obtain ⟨y76, hy76, h⟩ := h
        have c77 := fun (hg : (decide (y5.2 = 0)) = true) => c_ref12_Same y5.1 y74 _ (gdS hg hy76)
        have e := Option.some.inj h
        subst e
        repeat' first | with_reducible rfl | with_reducible exact True.intro | with_reducible assumption | (refine ⟨_, c75, ?_⟩; conv => whnf) | (refine ⟨_, c77, ?_⟩; conv => whnf) | (refine W.drawn TT_ok hmix1 rfl ?_; conv => whnf) | exact clA _ | (refine And.intro ?_ ?_ <;> conv => whnf) | exact clG _ | (refine gand ?_ h; assumption) | exact clN _ | fail

end Go.RX
