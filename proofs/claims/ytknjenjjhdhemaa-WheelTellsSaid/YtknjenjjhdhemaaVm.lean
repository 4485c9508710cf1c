/- Plain functions, and what says that the program's functions compute them. -/
import Derived.Test.YtknjenjjhdhemaaVi
set_option linter.unusedVariables false
set_option linter.unusedSimpArgs false
open Go Go.RX Go.Proofs
namespace Go.RX
set_option maxRecDepth 10000
set_option maxHeartbeats 4000000
attribute [local irreducible] CallW CallP LoopW W IntKind.wrap bitI
def law05_few (a0 : (List TimerT)) : Option (List TimerT) :=
  grd ((0 : Int) ≤ (mn ((a0.length : Nat) : Int) 70) ∧ (mn ((a0.length : Nat) : Int) 70) ≤ ((a0.length : Nat) : Int)) <|
  some (a0.take ((mn ((a0.length : Nat) : Int) 70) : Int).toNat)

theorem c_law05_few (a0 : (List TimerT)) (r : (List TimerT)) (h : law05_few a0 = some r) : CallP Try.prog 8 [(LV.ro 2 (a0.map TimerT.cells))] (LV.ro 2 (r.map TimerT.cells)) := by
  unfold law05_few at h
  refine .intro nlA (.intro TT_ok Try.func8 rfl rfl [0, 2] rfl ?_)
  conv => whnf
  replace h := grdS h
  obtain ⟨g1, h⟩ := h
  replace g1 : (0 : Int) ≤ (mn (((a0.map TimerT.cells).length : Nat) : Int) 70) ∧ (mn (((a0.map TimerT.cells).length : Nat) : Int) 70) ≤ (((a0.map TimerT.cells).length : Nat) : Int) := by simpa only [se_len, se_ch, List.length_map] using g1
  have e := Option.some.inj h
  subst e
  repeat' first | with_reducible rfl | with_reducible exact True.intro | with_reducible assumption | exact g1 | exact clA _ | (refine And.intro ?_ ?_ <;> conv => whnf) | exact clG _ | (refine gand ?_ h; assumption) | exact clN _ | fail

def ref05_Same_c0 (a1 : (List TimerT)) (k6 : Nat) (x6 : TimerT) (s6 : Unit) : Option (Step Bool Unit) :=
  (gix a1 ((k6 : Nat) : Int)).bind fun v7 =>
  (bif (!((decide (x6.ID = v7.ID)) && ((decide (x6.At = v7.At)) && true))) then
    some (.ret false)
  else
    some (.nxt ()))

def ref05_Same (a0 : (List TimerT)) (a1 : (List TimerT)) : Option Bool :=
  (bif (!decide (((a0.length : Nat) : Int) = ((a1.length : Nat) : Int))) then
    some false
  else
    aft (rangeL (ref05_Same_c0 a1) a0 ()) fun s6 =>
    some true)

theorem c_ref05_Same (a0 : (List TimerT)) (a1 : (List TimerT)) (r : Bool) (h : ref05_Same a0 a1 = some r) : CallP Try.prog 13 [(LV.ro 2 (a0.map TimerT.cells)), (LV.ro 2 (a1.map TimerT.cells))] (LV.bool r) := by
  unfold ref05_Same at h
  refine .intro nlA (.intro TT_ok Try.func13 rfl rfl [0, 1, 4, 5, 10, 12, 13, 14, 24] rfl ?_)
  conv => whnf
  repeat' first | with_reducible rfl | with_reducible exact True.intro | with_reducible assumption | refine parkI ?_ | (refine W.drawn TT_ok hmix1 rfl ?_; conv => whnf) | exact clA _ | (refine And.intro ?_ ?_ <;> conv => whnf) | exact clG _ | (refine gand ?_ h; assumption) | exact clN _ | fail
  refine parkE (fun hc => ?_) (fun hc => ?_)
  · replace h := condT (by first | exact hc | (simpa only [se_len, se_ch, List.length_map] using hc; done) | (have h0 : (!decide ((((a0.map TimerT.cells).length : Nat) : Int) = (((a1.map TimerT.cells).length : Nat) : Int))) = true := hc; simpa only [se_len, se_ch, List.length_map] using h0)) h
    conv => whnf
    have e := Option.some.inj h
    subst e
    repeat' first | with_reducible rfl | with_reducible exact True.intro | with_reducible assumption | (refine W.drawn TT_ok hmix1 rfl ?_; conv => whnf) | exact clA _ | (refine And.intro ?_ ?_ <;> conv => whnf) | exact clG _ | (refine gand ?_ h; assumption) | exact clN _ | fail
  · replace h := condF (by first | exact hc | (simpa only [se_len, se_ch, List.length_map] using hc; done) | (have h0 : (!decide ((((a0.map TimerT.cells).length : Nat) : Int) = (((a1.map TimerT.cells).length : Nat) : Int))) = false := hc; simpa only [se_len, se_ch, List.length_map] using h0)) h
    conv => whnf
    repeat' first | with_reducible rfl | with_reducible exact True.intro | with_reducible assumption | refine parkI ?_ | (refine W.drawn TT_ok hmix1 rfl ?_; conv => whnf) | exact clA _ | (refine And.intro ?_ ?_ <;> conv => whnf) | exact clG _ | (refine gand ?_ h; assumption) | exact clN _ | fail
    replace h := aftS h
    obtain ⟨O6, hO6, r6⟩ := h
    refine LoopW.norm [(0, (LV.ro 2 (a0.map TimerT.cells))), (1, (LV.ro 2 (a1.map TimerT.cells))), (12, (I (((a0.map TimerT.cells).length : Nat) : Int))), (13, (I ((0 : Nat) : Int)))] 0 [] ⟨rfl, rfl, rfl, rfl, trivial⟩ trivial blT rfl ?_
    refine LoopW.forR (fun k6 s6 => [(0, (LV.ro 2 (a0.map TimerT.cells))), (1, (LV.ro 2 (a1.map TimerT.cells))), (12, (I (((a0.map TimerT.cells).length : Nat) : Int))), (13, (I ((k6 : Nat) : Int)))]) (fun s6 => ⟨0, []⟩) hO6 (fun hl6 s6 hs6 => ?_) (fun hl6 k6 x6 s6 o6 hk6 hx6 b6 K6 hret6 hbrk6 => ?_)
    · rw [hs6] at r6
      dsimp only [aftM] at r6
      have hd : decide (((a0.length : Nat) : Int) < (((a0.map TimerT.cells).length : Nat) : Int)) = false := by rw [decide_eq_false_iff_not]; (try simp only [se_len, se_ch, List.length_map]); omega
      refine LoopW.round TT_ok [0, 1, 4, 5, 10, 12, 13, 14, 24] ?_
      conv => whnf
      repeat' first | with_reducible rfl | with_reducible exact True.intro | with_reducible assumption | refine parkI ?_ | (refine W.drawn TT_ok hmix1 rfl ?_; conv => whnf) | exact clA _ | (refine And.intro ?_ ?_ <;> conv => whnf) | exact clG _ | (refine gand ?_ h; assumption) | exact clN _ | fail
      refine parkE (fun hc => ?_) (fun hc => ?_)
      · exact (Bool.false_ne_true (hd.symm.trans hc)).elim
      · clear hd
        conv => whnf
        have e := Option.some.inj r6
        subst e
        repeat' first | with_reducible rfl | with_reducible exact True.intro | with_reducible assumption | (refine W.drawn TT_ok hmix1 rfl ?_; conv => whnf) | exact clA _ | (refine And.intro ?_ ?_ <;> conv => whnf) | exact clG _ | (refine gand ?_ h; assumption) | exact clN _ | fail
    · unfold ref05_Same_c0 at b6
      have hd : decide (((k6 : Nat) : Int) < (((a0.map TimerT.cells).length : Nat) : Int)) = true := by rw [decide_eq_true_eq]; (try simp only [se_len, se_ch, List.length_map] at hk6); (try simp only [se_len, se_ch, List.length_map]); omega
      refine LoopW.round TT_ok [0, 1, 4, 5, 10, 12, 13, 14, 24] ?_
      conv => whnf
      repeat' first | with_reducible rfl | with_reducible exact True.intro | with_reducible assumption | refine parkI ?_ | (refine W.drawn TT_ok hmix1 rfl ?_; conv => whnf) | exact clA _ | (refine And.intro ?_ ?_ <;> conv => whnf) | exact clG _ | (refine gand ?_ h; assumption) | exact clN _ | fail
      refine parkE (fun hc => ?_) (fun hc => ?_)
      · clear hd
        conv => whnf
        replace b6 := bindS b6
        obtain ⟨v7, hv7, b6⟩ := b6
        have i8 := gixF (f := TimerT.cells) hv7
        repeat' first | with_reducible rfl | with_reducible exact True.intro | with_reducible assumption | refine parkI ?_ | (refine ⟨_, (kixF (f := TimerT.cells) hx6), ?_⟩; conv => whnf) | (refine ⟨_, i8, ?_⟩; conv => whnf) | (refine W.drawn TT_ok hmix1 rfl ?_; conv => whnf) | exact clA _ | (refine And.intro ?_ ?_ <;> conv => whnf) | exact clG _ | (refine gand ?_ h; assumption) | exact clN _ | fail
        refine parkE (fun hc => ?_) (fun hc => ?_)
        · replace b6 := condT hc b6
          conv => whnf
          have e := Option.some.inj b6
          replace e := hret6 _ e.symm
          rw [e] at r6
          replace e := Option.some.inj r6
          subst e
          repeat' first | with_reducible rfl | with_reducible exact True.intro | with_reducible assumption | (refine W.drawn TT_ok hmix1 rfl ?_; conv => whnf) | exact clA _ | (refine And.intro ?_ ?_ <;> conv => whnf) | exact clG _ | (refine gand ?_ h; assumption) | exact clN _ | fail
        · replace b6 := condF hc b6
          conv => whnf
          repeat' first | with_reducible rfl | with_reducible exact True.intro | with_reducible assumption | refine parkI ?_ | (refine W.drawn TT_ok hmix1 rfl ?_; conv => whnf) | exact clA _ | (refine And.intro ?_ ?_ <;> conv => whnf) | exact clG _ | (refine gand ?_ h; assumption) | exact clN _ | fail
          have e := Option.some.inj b6
          refine LoopW.norm [(0, (LV.ro 2 (a0.map TimerT.cells))), (1, (LV.ro 2 (a1.map TimerT.cells))), (12, (I (((a0.map TimerT.cells).length : Nat) : Int))), (13, (I ((k6 + 1 : Nat) : Int)))] 0 [] ⟨rfl, rfl, rfl, (congrArg (LV.int .i64) (w64_nat _ (by omega))), trivial⟩ trivial blT rfl (K6 _ e.symm)
      · exact (Bool.false_ne_true (hc.symm.trans hd)).elim

def law05_alive  : Option Bool :=
  (wheel_Advance ([(⟨7, 3⟩ : TimerT), (⟨2, 5⟩ : TimerT)] : (List TimerT)) 4).bind fun y5 =>
  (bif (decide (y5.2.2 = 0)) then
    (ref05_Same y5.1 ([(⟨2, 5⟩ : TimerT)] : (List TimerT))).bind fun y7 =>
    (bif (bif (decide (y5.2.2 = 0)) then y7 else false) then
      (ref05_Same y5.2.1 ([(⟨7, 3⟩ : TimerT)] : (List TimerT))).bind fun y9 =>
      some (bif (bif (decide (y5.2.2 = 0)) then y7 else false) then y9 else false)
    else
      some false)
  else
    (bif (bif (decide (y5.2.2 = 0)) then false else false) then
      (ref05_Same y5.2.1 ([(⟨7, 3⟩ : TimerT)] : (List TimerT))).bind fun y7 =>
      some (bif false then y7 else false)
    else
      some false))

theorem c_law05_alive  (r : Bool) (h : law05_alive  = some r) : CallP Try.prog 10 [] (LV.bool r) := by
  unfold law05_alive at h
  refine .intro nlA (.intro TT_ok Try.func10 rfl rfl [0, 1, 2, 3] rfl ?_)
  conv => whnf
  replace h := bindS h
  obtain ⟨y5, hy5, h⟩ := h
  have c6 : CallP Try.prog 14 [(LV.ro 2 [[(I 7), (I 3)], [(I 2), (I 5)]]), (I 4)] (LV.tup [(LV.ro 2 (y5.1.map TimerT.cells)), (LV.ro 2 (y5.2.1.map TimerT.cells)), (I y5.2.2)]) := by first | exact c_wheel_Advance ([(⟨7, 3⟩ : TimerT), (⟨2, 5⟩ : TimerT)] : (List TimerT)) 4 _ hy5 | (simpa only [se_map, se_byL, se_len, se_ch, List.length_map] using c_wheel_Advance ([(⟨7, 3⟩ : TimerT), (⟨2, 5⟩ : TimerT)] : (List TimerT)) 4 _ hy5) | (simpa only [se_map, se_byL, se_len, se_ch, List.length_map, TimerT.cells] using c_wheel_Advance ([(⟨7, 3⟩ : TimerT), (⟨2, 5⟩ : TimerT)] : (List TimerT)) 4 _ hy5)
  repeat' first | with_reducible rfl | with_reducible exact True.intro | with_reducible assumption | refine parkI ?_ | (refine CallP.use c6 ?_; conv => whnf) | exact clA _ | (refine And.intro ?_ ?_ <;> conv => whnf) | exact clG _ | (refine gand ?_ h; assumption) | exact clN _ | fail
  refine parkE (fun hg1_ => ?_) (fun hg1_ => ?_)
  · replace h := condT (by first | exact hg1_ | simpa only [se_len, se_ch, List.length_map] using hg1_) h
    conv => whnf
    replace h := bindS h
    obtain ⟨y7, hy7, h⟩ := h
    have c8 : CallP Try.prog 13 [(LV.ro 2 (y5.1.map TimerT.cells)), (LV.ro 2 [[(I 2), (I 5)]])] (LV.bool y7) := by first | exact c_ref05_Same y5.1 ([(⟨2, 5⟩ : TimerT)] : (List TimerT)) _ hy7 | (simpa only [se_map, se_byL, se_len, se_ch, List.length_map] using c_ref05_Same y5.1 ([(⟨2, 5⟩ : TimerT)] : (List TimerT)) _ hy7) | (simpa only [se_map, se_byL, se_len, se_ch, List.length_map, TimerT.cells] using c_ref05_Same y5.1 ([(⟨2, 5⟩ : TimerT)] : (List TimerT)) _ hy7)
    repeat' first | with_reducible rfl | with_reducible exact True.intro | with_reducible assumption | ((with_reducible refine parkX hg1_ ?_); conv => whnf) | refine parkI ?_ | (refine CallP.use c8 ?_; conv => whnf) | exact clA _ | (refine And.intro ?_ ?_ <;> conv => whnf) | exact clG _ | (refine gand ?_ h; assumption) | exact clN _ | (intro hq_; conv => whnf) | fail
    refine parkE (fun hg2_ => ?_) (fun hg2_ => ?_)
    · replace h := condT (by first | exact hg2_ | simpa only [se_len, se_ch, List.length_map] using hg2_) h
      conv => whnf
      replace h := bindS h
      obtain ⟨y9, hy9, h⟩ := h
      have c10 : CallP Try.prog 13 [(LV.ro 2 (y5.2.1.map TimerT.cells)), (LV.ro 2 [[(I 7), (I 3)]])] (LV.bool y9) := by first | exact c_ref05_Same y5.2.1 ([(⟨7, 3⟩ : TimerT)] : (List TimerT)) _ hy9 | (simpa only [se_map, se_byL, se_len, se_ch, List.length_map] using c_ref05_Same y5.2.1 ([(⟨7, 3⟩ : TimerT)] : (List TimerT)) _ hy9) | (simpa only [se_map, se_byL, se_len, se_ch, List.length_map, TimerT.cells] using c_ref05_Same y5.2.1 ([(⟨7, 3⟩ : TimerT)] : (List TimerT)) _ hy9)
      have e := Option.some.inj h
      subst e
      repeat' first | with_reducible rfl | with_reducible exact True.intro | with_reducible assumption | ((with_reducible refine parkX hg1_ ?_); conv => whnf) | ((with_reducible refine parkX hg2_ ?_); conv => whnf) | (refine CallP.use c10 ?_; conv => whnf) | exact clA _ | (refine And.intro ?_ ?_ <;> conv => whnf) | exact clG _ | (refine gand ?_ h; assumption) | exact clN _ | (intro hq_; conv => whnf) | fail
    · replace h := condF (by first | exact hg2_ | simpa only [se_len, se_ch, List.length_map] using hg2_) h
      conv => whnf
      have e := Option.some.inj h
      subst e
      repeat' first | with_reducible rfl | with_reducible exact True.intro | with_reducible assumption | ((with_reducible refine parkX hg1_ ?_); conv => whnf) | exact (by first | exact hg1_ | simpa using hg1_ : _ = false) | exact (by first | exact hg2_ | simpa using hg2_ : _ = false) | (refine ⟨?_, True.intro⟩; first | exact hg1_ | (simpa using hg1_; done)) | (refine ⟨?_, True.intro⟩; first | exact hg2_ | (simpa using hg2_; done)) | exact clA _ | (refine And.intro ?_ ?_ <;> conv => whnf) | exact clG _ | (refine gand ?_ h; assumption) | exact clN _ | (intro hq_; conv => whnf) | fail
  · replace h := condF (by first | exact hg1_ | simpa only [se_len, se_ch, List.length_map] using hg1_) h
    conv => whnf
    repeat' first | with_reducible rfl | with_reducible exact True.intro | with_reducible assumption | refine parkI ?_ | exact (by first | exact hg1_ | simpa using hg1_ : _ = false) | (refine ⟨?_, True.intro⟩; first | exact hg1_ | (simpa using hg1_; done)) | exact clA _ | (refine And.intro ?_ ?_ <;> conv => whnf) | exact clG _ | (refine gand ?_ h; assumption) | exact clN _ | (intro hq_; conv => whnf) | fail
    refine parkE (fun hg3_ => ?_) (fun hg3_ => ?_)
    · replace h := condT (by first | exact hg3_ | simpa only [se_len, se_ch, List.length_map] using hg3_) h
      conv => whnf
      replace h := bindS h
      obtain ⟨y7, hy7, h⟩ := h
      have c8 : CallP Try.prog 13 [(LV.ro 2 (y5.2.1.map TimerT.cells)), (LV.ro 2 [[(I 7), (I 3)]])] (LV.bool y7) := by first | exact c_ref05_Same y5.2.1 ([(⟨7, 3⟩ : TimerT)] : (List TimerT)) _ hy7 | (simpa only [se_map, se_byL, se_len, se_ch, List.length_map] using c_ref05_Same y5.2.1 ([(⟨7, 3⟩ : TimerT)] : (List TimerT)) _ hy7) | (simpa only [se_map, se_byL, se_len, se_ch, List.length_map, TimerT.cells] using c_ref05_Same y5.2.1 ([(⟨7, 3⟩ : TimerT)] : (List TimerT)) _ hy7)
      have e := Option.some.inj h
      subst e
      repeat' first | with_reducible rfl | with_reducible exact True.intro | with_reducible assumption | ((with_reducible refine parkX hg3_ ?_); conv => whnf) | (refine CallP.use c8 ?_; conv => whnf) | exact clA _ | (refine And.intro ?_ ?_ <;> conv => whnf) | exact clG _ | (refine gand ?_ h; assumption) | exact clN _ | (intro hq_; conv => whnf) | fail
    · replace h := condF (by first | exact hg3_ | simpa only [se_len, se_ch, List.length_map] using hg3_) h
      conv => whnf
      have e := Option.some.inj h
      subst e
      repeat' first | with_reducible rfl | with_reducible exact True.intro | with_reducible assumption | exact (by first | exact hg1_ | simpa using hg1_ : _ = false) | exact (by first | exact hg3_ | simpa using hg3_ : _ = false) | (refine ⟨?_, True.intro⟩; first | exact hg1_ | (simpa using hg1_; done)) | (refine ⟨?_, True.intro⟩; first | exact hg3_ | (simpa using hg3_; done)) | exact clA _ | (refine And.intro ?_ ?_ <;> conv => whnf) | exact clG _ | (refine gand ?_ h; assumption) | exact clN _ | (intro hq_; conv => whnf) | fail

def law05_WheelArms_c0 (a1 : TimerT) (k7 : Nat) (x7 : TimerT) (s7 : Int) : Option (Step Bool Int) :=
  (bif (decide (x7.ID = (IntKind.i64.wrap (((IntKind.u64.wrap a1.ID)).tmod 1000)))) then
    some (.nxt (IntKind.i64.wrap (s7 + 1)))
  else
    some (.nxt s7))

def law05_WheelArms (a0 : (List TimerT)) (a1 : TimerT) (a2 : Int) : Option Bool :=
  (law05_few a0).bind fun y1 =>
  (wheel_Arm y1 (⟨(IntKind.i64.wrap (((IntKind.u64.wrap a1.ID)).tmod 1000)), (IntKind.i64.wrap (((IntKind.u64.wrap a1.At)).tmod 549755813888))⟩ : TimerT)).bind fun y3 =>
  (bif (!decide (y3.2 = 0)) then
    (law05_alive ).bind fun y5 =>
    (gd (bif (bif y5 then (decide (((y3.1.length : Nat) : Int) = 0)) else false) then (!(decide (y3.2 = 5))) else false) (wheel_Right y1)).bind fun y7 =>
    some (bif (bif y5 then (decide (((y3.1.length : Nat) : Int) = 0)) else false) then (bif (decide (y3.2 = 5)) then true else (!y7)) else false)
  else
    (wheel_Arm y3.1 (⟨(IntKind.i64.wrap (((IntKind.u64.wrap a1.ID)).tmod 1000)), (IntKind.i64.wrap (((IntKind.u64.wrap a2)).tmod 549755813888))⟩ : TimerT)).bind fun y9 =>
    (wheel_Arm y1 (⟨(IntKind.i64.wrap (((IntKind.u64.wrap a1.ID)).tmod 1000)), (IntKind.i64.wrap (((IntKind.u64.wrap a2)).tmod 549755813888))⟩ : TimerT)).bind fun y11 =>
    (wheel_Cancel y3.1 (IntKind.i64.wrap (((IntKind.u64.wrap a1.ID)).tmod 1000))).bind fun y13 =>
    (gd (!(bif (bif (!decide (y9.2 = 0)) then true else (!decide (y11.2 = 0))) then true else (!decide (y13.2 = 0)))) (ref05_Same y9.1 y11.1)).bind fun y15 =>
    (gd (!(bif (bif (bif (!decide (y9.2 = 0)) then true else (!decide (y11.2 = 0))) then true else (!decide (y13.2 = 0))) then true else (!y15))) (law05_alive )).bind fun y17 =>
    (bif (bif (bif (bif (bif (!decide (y9.2 = 0)) then true else (!decide (y11.2 = 0))) then true else (!decide (y13.2 = 0))) then true else (!y15)) then true else (!y17)) then
      some false
    else
      (wheel_Cancel y1 (IntKind.i64.wrap (((IntKind.u64.wrap a1.ID)).tmod 1000))).bind fun y19 =>
      (gd (decide (y19.2 = 0)) (ref05_Same y19.1 y13.1)).bind fun y21 =>
      (gd (bif (!(bif (decide (y19.2 = 0)) then (!y21) else false)) then (!decide (y19.2 = 0)) else false) (ref05_Same y1 y13.1)).bind fun y23 =>
      (bif (bif (bif (decide (y19.2 = 0)) then (!y21) else false) then true else (bif (!decide (y19.2 = 0)) then (!y23) else false)) then
        some false
      else
        (wheel_Advance y9.1 (IntKind.i64.wrap (((IntKind.u64.wrap a2)).tmod 549755813888))).bind fun y25 =>
        aft (rangeL (law05_WheelArms_c0 a1) y25.2.1 0) fun s7 =>
        some (bif (decide (y25.2.2 = 0)) then (decide (s7 = 1)) else false))))

theorem c_law05_WheelArms (a0 : (List TimerT)) (a1 : TimerT) (a2 : Int) (r : Bool) (h : law05_WheelArms a0 a1 a2 = some r) : CallP Try.prog 3 [(LV.ro 2 (a0.map TimerT.cells)), (LV.agg [(I a1.ID), (I a1.At)]), (I a2)] (LV.bool r) := by
  unfold law05_WheelArms at h
  refine .intro nlA (.intro TT_ok Try.func3 rfl rfl [0, 1, 2, 4, 6, 7, 8, 9, 10, 11, 12, 13, 14, 15, 16, 18, 19, 20, 22, 48, 108, 133, 141, 142, 143, 144, 151] rfl ?_)
  conv => whnf
  replace h := bindS h
  obtain ⟨y1, hy1, h⟩ := h
  have c2 := c_law05_few a0 _ hy1
  replace h := bindS h
  obtain ⟨y3, hy3, h⟩ := h
  have c4 : CallP Try.prog 9 [(LV.ro 2 (y1.map TimerT.cells)), (LV.agg [(I (IntKind.i64.wrap (((IntKind.u64.wrap a1.ID)).tmod 1000))), (I (IntKind.i64.wrap (((IntKind.u64.wrap a1.At)).tmod 549755813888)))])] (LV.tup [(LV.ro 2 (y3.1.map TimerT.cells)), (I y3.2)]) := by first | exact c_wheel_Arm y1 (⟨(IntKind.i64.wrap (((IntKind.u64.wrap a1.ID)).tmod 1000)), (IntKind.i64.wrap (((IntKind.u64.wrap a1.At)).tmod 549755813888))⟩ : TimerT) _ hy3 | (simpa only [se_map, se_byL, se_len, se_ch, List.length_map] using c_wheel_Arm y1 (⟨(IntKind.i64.wrap (((IntKind.u64.wrap a1.ID)).tmod 1000)), (IntKind.i64.wrap (((IntKind.u64.wrap a1.At)).tmod 549755813888))⟩ : TimerT) _ hy3) | (simpa only [se_map, se_byL, se_len, se_ch, List.length_map, TimerT.cells] using c_wheel_Arm y1 (⟨(IntKind.i64.wrap (((IntKind.u64.wrap a1.ID)).tmod 1000)), (IntKind.i64.wrap (((IntKind.u64.wrap a1.At)).tmod 549755813888))⟩ : TimerT) _ hy3)
  repeat' first | with_reducible rfl | with_reducible exact True.intro | with_reducible assumption | refine parkI ?_ | (refine CallP.use c2 ?_; conv => whnf) | (refine CallP.use c4 ?_; conv => whnf) | exact (by decide : ((1000 : Int) ≠ 0)) | exact (by decide : ((549755813888 : Int) ≠ 0)) | exact (by decide : ((549755813888 : Int) ≠ 0)) | (refine And.intro ?_ ?_ <;> conv => whnf) | fail
  refine parkE (fun hc => ?_) (fun hc => ?_)
  · replace h := condT hc h
    conv => whnf
    replace h := bindS h
    obtain ⟨y5, hy5, h⟩ := h
    have c6 := c_law05_alive  _ hy5
    replace h := bindS h
    obtain ⟨y7, hy7, h⟩ := h
    have c8 := fun (hg : (bif (bif y5 then (decide ((((y3.1.map TimerT.cells).length : Nat) : Int) = 0)) else false) then (!(decide (y3.2 = 5))) else false) = true) => c_wheel_Right y1 _ (gdS (show (bif (bif y5 then (decide (((y3.1.length : Nat) : Int) = 0)) else false) then (!(decide (y3.2 = 5))) else false) = true by simpa only [se_len, se_ch, List.length_map] using hg) hy7)
    have e := Option.some.inj h
    subst e
    repeat' first | with_reducible rfl | with_reducible exact True.intro | with_reducible assumption | (refine ⟨_, c8, ?_⟩; conv => whnf) | (refine CallP.use c6 ?_; conv => whnf) | exact clA _ | (refine And.intro ?_ ?_ <;> conv => whnf) | exact clG _ | (refine gand ?_ h; assumption) | exact clN _ | fail
  · replace h := condF hc h
    conv => whnf
    replace h := bindS h
    obtain ⟨y9, hy9, h⟩ := h
    have c10 : CallP Try.prog 9 [(LV.ro 2 (y3.1.map TimerT.cells)), (LV.agg [(I (IntKind.i64.wrap (((IntKind.u64.wrap a1.ID)).tmod 1000))), (I (IntKind.i64.wrap (((IntKind.u64.wrap a2)).tmod 549755813888)))])] (LV.tup [(LV.ro 2 (y9.1.map TimerT.cells)), (I y9.2)]) := by first | exact c_wheel_Arm y3.1 (⟨(IntKind.i64.wrap (((IntKind.u64.wrap a1.ID)).tmod 1000)), (IntKind.i64.wrap (((IntKind.u64.wrap a2)).tmod 549755813888))⟩ : TimerT) _ hy9 | (simpa only [se_map, se_byL, se_len, se_ch, List.length_map] using c_wheel_Arm y3.1 (⟨(IntKind.i64.wrap (((IntKind.u64.wrap a1.ID)).tmod 1000)), (IntKind.i64.wrap (((IntKind.u64.wrap a2)).tmod 549755813888))⟩ : TimerT) _ hy9) | (simpa only [se_map, se_byL, se_len, se_ch, List.length_map, TimerT.cells] using c_wheel_Arm y3.1 (⟨(IntKind.i64.wrap (((IntKind.u64.wrap a1.ID)).tmod 1000)), (IntKind.i64.wrap (((IntKind.u64.wrap a2)).tmod 549755813888))⟩ : TimerT) _ hy9)
    replace h := bindS h
    obtain ⟨y11, hy11, h⟩ := h
    have c12 : CallP Try.prog 9 [(LV.ro 2 (y1.map TimerT.cells)), (LV.agg [(I (IntKind.i64.wrap (((IntKind.u64.wrap a1.ID)).tmod 1000))), (I (IntKind.i64.wrap (((IntKind.u64.wrap a2)).tmod 549755813888)))])] (LV.tup [(LV.ro 2 (y11.1.map TimerT.cells)), (I y11.2)]) := by first | exact c_wheel_Arm y1 (⟨(IntKind.i64.wrap (((IntKind.u64.wrap a1.ID)).tmod 1000)), (IntKind.i64.wrap (((IntKind.u64.wrap a2)).tmod 549755813888))⟩ : TimerT) _ hy11 | (simpa only [se_map, se_byL, se_len, se_ch, List.length_map] using c_wheel_Arm y1 (⟨(IntKind.i64.wrap (((IntKind.u64.wrap a1.ID)).tmod 1000)), (IntKind.i64.wrap (((IntKind.u64.wrap a2)).tmod 549755813888))⟩ : TimerT) _ hy11) | (simpa only [se_map, se_byL, se_len, se_ch, List.length_map, TimerT.cells] using c_wheel_Arm y1 (⟨(IntKind.i64.wrap (((IntKind.u64.wrap a1.ID)).tmod 1000)), (IntKind.i64.wrap (((IntKind.u64.wrap a2)).tmod 549755813888))⟩ : TimerT) _ hy11)
    replace h := bindS h
    obtain ⟨y13, hy13, h⟩ := h
    have c14 := c_wheel_Cancel y3.1 (IntKind.i64.wrap (((IntKind.u64.wrap a1.ID)).tmod 1000)) _ hy13
    replace h := bindS h
    obtain ⟨y15, hy15, h⟩ := h
    have c16 := fun (hg : (!(bif (bif (!decide (y9.2 = 0)) then true else (!decide (y11.2 = 0))) then true else (!decide (y13.2 = 0)))) = true) => c_ref05_Same y9.1 y11.1 _ (gdS hg hy15)
    replace h := bindS h
    obtain ⟨y17, hy17, h⟩ := h
    have c18 := fun (hg : (!(bif (bif (bif (!decide (y9.2 = 0)) then true else (!decide (y11.2 = 0))) then true else (!decide (y13.2 = 0))) then true else (!y15))) = true) => c_law05_alive  _ (gdS hg hy17)
    repeat' first | with_reducible rfl | with_reducible exact True.intro | with_reducible assumption | refine parkI ?_ | (refine ⟨_, c16, ?_⟩; conv => whnf) | (refine ⟨_, c18, ?_⟩; conv => whnf) | (refine CallP.use c10 ?_; conv => whnf) | (refine CallP.use c12 ?_; conv => whnf) | (refine CallP.use c14 ?_; conv => whnf) | exact clA _ | (refine And.intro ?_ ?_ <;> conv => whnf) | exact clG _ | (refine gand ?_ h; assumption) | fail
    refine parkE (fun hc => ?_) (fun hc => ?_)
    · replace h := condT hc h
      conv => whnf
      have e := Option.some.inj h
      subst e
      repeat' first | with_reducible rfl | with_reducible exact True.intro | with_reducible assumption | exact clA _ | (refine And.intro ?_ ?_ <;> conv => whnf) | exact clG _ | (refine gand ?_ h; assumption) | exact clN _ | fail
    · replace h := condF hc h
      conv => whnf
      replace h := bindS h
      obtain ⟨y19, hy19, h⟩ := h
      have c20 := c_wheel_Cancel y1 (IntKind.i64.wrap (((IntKind.u64.wrap a1.ID)).tmod 1000)) _ hy19
      replace h := bindS h
      obtain ⟨y21, hy21, h⟩ := h
      have c22 := fun (hg : (decide (y19.2 = 0)) = true) => c_ref05_Same y19.1 y13.1 _ (gdS hg hy21)
      replace h := bindS h
      obtain ⟨y23, hy23, h⟩ := h
      have c24 := fun (hg : (bif (!(bif (decide (y19.2 = 0)) then (!y21) else false)) then (!decide (y19.2 = 0)) else false) = true) => c_ref05_Same y1 y13.1 _ (gdS hg hy23)
      repeat' first | with_reducible rfl | with_reducible exact True.intro | with_reducible assumption | refine parkI ?_ | (refine ⟨_, c22, ?_⟩; conv => whnf) | (refine ⟨_, c24, ?_⟩; conv => whnf) | (refine CallP.use c20 ?_; conv => whnf) | exact clA _ | (refine And.intro ?_ ?_ <;> conv => whnf) | exact clG _ | (refine gand ?_ h; assumption) | fail
      refine parkE (fun hc => ?_) (fun hc => ?_)
      · replace h := condT hc h
        conv => whnf
        have e := Option.some.inj h
        subst e
        repeat' first | with_reducible rfl | with_reducible exact True.intro | with_reducible assumption | exact clA _ | (refine And.intro ?_ ?_ <;> conv => whnf) | exact clG _ | (refine gand ?_ h; assumption) | exact clN _ | fail
      · replace h := condF hc h
        conv => whnf
        replace h := bindS h
        obtain ⟨y25, hy25, h⟩ := h
        have c26 := c_wheel_Advance y9.1 (IntKind.i64.wrap (((IntKind.u64.wrap a2)).tmod 549755813888)) _ hy25
        repeat' first | with_reducible rfl | with_reducible exact True.intro | with_reducible assumption | refine parkI ?_ | (refine CallP.use c26 ?_; conv => whnf) | (refine And.intro ?_ ?_ <;> conv => whnf) | fail
        replace h := aftS h
        obtain ⟨O7, hO7, r7⟩ := h
        refine LoopW.norm [(4, (LV.ptr 0 0 0)), (19, (I y25.2.2)), (20, (I 0)), (141, (LV.ro 2 (y25.2.1.map TimerT.cells))), (142, (I (((y25.2.1.map TimerT.cells).length : Nat) : Int))), (143, (I ((0 : Nat) : Int)))] 1 [(0, (.row 24 2 [[(I (IntKind.i64.wrap (((IntKind.u64.wrap a1.ID)).tmod 1000))), (I (IntKind.i64.wrap (((IntKind.u64.wrap a1.At)).tmod 549755813888)))]]))] ⟨rfl, rfl, rfl, rfl, rfl, rfl, trivial⟩ ⟨⟨rfl, rfl, blT⟩, trivial⟩ blT rfl ?_
        refine LoopW.forR (fun k7 s7 => [(4, (LV.ptr 0 0 0)), (19, (I y25.2.2)), (20, (I s7)), (141, (LV.ro 2 (y25.2.1.map TimerT.cells))), (142, (I (((y25.2.1.map TimerT.cells).length : Nat) : Int))), (143, (I ((k7 : Nat) : Int)))]) (fun s7 => ⟨1, [(0, (.row 24 2 [[(I (IntKind.i64.wrap (((IntKind.u64.wrap a1.ID)).tmod 1000))), (I (IntKind.i64.wrap (((IntKind.u64.wrap a1.At)).tmod 549755813888)))]]))]⟩) hO7 (fun hl7 s7 hs7 => ?_) (fun hl7 k7 x7 s7 o7 hk7 hx7 b7 K7 hret7 hbrk7 => ?_)
        · rw [hs7] at r7
          dsimp only [aftM] at r7
          have hd : decide (((y25.2.1.length : Nat) : Int) < (((y25.2.1.map TimerT.cells).length : Nat) : Int)) = false := by rw [decide_eq_false_iff_not]; (try simp only [se_len, se_ch, List.length_map]); omega
          refine LoopW.round TT_ok [0, 1, 2, 4, 6, 7, 8, 9, 10, 11, 12, 13, 14, 15, 16, 18, 19, 20, 22, 48, 108, 133, 141, 142, 143, 144, 151] ?_
          conv => whnf
          repeat' first | with_reducible rfl | with_reducible exact True.intro | with_reducible assumption | refine parkI ?_ | (refine And.intro ?_ ?_ <;> conv => whnf) | fail
          refine parkE (fun hc => ?_) (fun hc => ?_)
          · exact (Bool.false_ne_true (hd.symm.trans hc)).elim
          · clear hd
            conv => whnf
            have e := Option.some.inj r7
            subst e
            repeat' first | with_reducible rfl | with_reducible exact True.intro | with_reducible assumption | exact clA _ | (refine And.intro ?_ ?_ <;> conv => whnf) | exact clG _ | (refine gand ?_ h; assumption) | exact clN _ | fail
        · unfold law05_WheelArms_c0 at b7
          have hd : decide (((k7 : Nat) : Int) < (((y25.2.1.map TimerT.cells).length : Nat) : Int)) = true := by rw [decide_eq_true_eq]; (try simp only [se_len, se_ch, List.length_map] at hk7); (try simp only [se_len, se_ch, List.length_map]); omega
          refine LoopW.round TT_ok [0, 1, 2, 4, 6, 7, 8, 9, 10, 11, 12, 13, 14, 15, 16, 18, 19, 20, 22, 48, 108, 133, 141, 142, 143, 144, 151] ?_
          conv => whnf
          repeat' first | with_reducible rfl | with_reducible exact True.intro | with_reducible assumption | refine parkI ?_ | (refine And.intro ?_ ?_ <;> conv => whnf) | fail
          refine parkE (fun hc => ?_) (fun hc => ?_)
          · clear hd
            conv => whnf
            repeat' first | with_reducible rfl | with_reducible exact True.intro | with_reducible assumption | refine parkI ?_ | (refine ⟨_, (kixF (f := TimerT.cells) hx7), ?_⟩; conv => whnf) | (refine And.intro ?_ ?_ <;> conv => whnf) | fail
            refine parkE (fun hc => ?_) (fun hc => ?_)
            · replace b7 := condT hc b7
              conv => whnf
              repeat' first | with_reducible rfl | with_reducible exact True.intro | with_reducible assumption | refine parkI ?_ | (refine And.intro ?_ ?_ <;> conv => whnf) | fail
              have e := Option.some.inj b7
              refine LoopW.norm [(4, (LV.ptr 0 0 0)), (19, (I y25.2.2)), (20, (I (IntKind.i64.wrap (s7 + 1)))), (141, (LV.ro 2 (y25.2.1.map TimerT.cells))), (142, (I (((y25.2.1.map TimerT.cells).length : Nat) : Int))), (143, (I ((k7 + 1 : Nat) : Int)))] 1 [(0, (.row 24 2 [[(I (IntKind.i64.wrap (((IntKind.u64.wrap a1.ID)).tmod 1000))), (I (IntKind.i64.wrap (((IntKind.u64.wrap a1.At)).tmod 549755813888)))]]))] ⟨rfl, rfl, rfl, rfl, rfl, (congrArg (LV.int .i64) (w64_nat _ (by omega))), trivial⟩ ⟨⟨rfl, rfl, blT⟩, trivial⟩ blT rfl (K7 _ e.symm)
            · replace b7 := condF hc b7
              conv => whnf
              repeat' first | with_reducible rfl | with_reducible exact True.intro | with_reducible assumption | refine parkI ?_ | (refine And.intro ?_ ?_ <;> conv => whnf) | fail
              have e := Option.some.inj b7
              refine LoopW.norm [(4, (LV.ptr 0 0 0)), (19, (I y25.2.2)), (20, (I s7)), (141, (LV.ro 2 (y25.2.1.map TimerT.cells))), (142, (I (((y25.2.1.map TimerT.cells).length : Nat) : Int))), (143, (I ((k7 + 1 : Nat) : Int)))] 1 [(0, (.row 24 2 [[(I (IntKind.i64.wrap (((IntKind.u64.wrap a1.ID)).tmod 1000))), (I (IntKind.i64.wrap (((IntKind.u64.wrap a1.At)).tmod 549755813888)))]]))] ⟨rfl, rfl, rfl, rfl, rfl, (congrArg (LV.int .i64) (w64_nat _ (by omega))), trivial⟩ ⟨⟨rfl, rfl, blT⟩, trivial⟩ blT rfl (K7 _ e.symm)
          · exact (Bool.false_ne_true (hc.symm.trans hd)).elim

end Go.RX
