/- Plain functions, and what says that the program's functions compute them. -/
import Derived.Test.YtoahcombdhgmhaaTc
import Derived.Test.YtoahcombdhgmhaaTd
set_option linter.unusedVariables false
set_option linter.unusedSimpArgs false
open Go Go.RX Go.Proofs
namespace Go.RX
set_option maxRecDepth 10000
set_option maxHeartbeats 4000000
attribute [local irreducible] CallW CallP LoopW W IntKind.wrap bitI
def law12_StpAges_b16  (k16 : Nat) (x16 : Int) (s16 : (List Int)) : Option (Step Bool (List Int)) :=
  grd (fits ((s16 ++ ([(IntKind.i64.wrap (1 + (((IntKind.i64.wrap (((x16).tmod 9) + 9))).tmod 9)))] : (List Int))) : List Int).length 8) <|
  some (.nxt (s16 ++ ([(IntKind.i64.wrap (1 + (((IntKind.i64.wrap (((x16).tmod 9) + 9))).tmod 9)))] : (List Int))))

def law12_StpAges_b18 (a0 : Int) (a2 : Int) (y15 : (VecT × Int × Int)) (v17 : InfoT) (k18 : Nat) (x18 : SendT) (s18 : Unit) : Option (Step (Step Bool StpT) Unit) :=
  (bif (bif (bif (bif (bif (bif (!decide (x18.Config.Vec.Root = y15.1.Root)) then true else (!decide (x18.Config.Vec.Cost = y15.1.Cost))) then true else (!decide (x18.Config.Vec.Bridge = (((IntKind.i64.wrap (((a0).tmod 6) + 6))).tmod 6)))) then true else (!decide (x18.Config.Age = (IntKind.i64.wrap (v17.Age + 1))))) then true else (decide ((IntKind.i64.wrap (1 + (((IntKind.i64.wrap (((a2).tmod 20) + 20))).tmod 20))) ≤ (IntKind.i64.wrap (v17.Age + 1))))) then true else (decide (x18.Port = y15.2.1))) then
    some (.ret (.ret false))
  else
    some (.nxt ()))

def law12_StpAges_b19 (a0 : Int) (a2 : Int) (y15 : (VecT × Int × Int)) (k19 : Nat) (x19 : SendT) (s19 : Unit) : Option (Step (Step Bool StpT) Unit) :=
  (bif (bif (bif (bif (bif (bif (!decide (x19.Config.Vec.Root = y15.1.Root)) then true else (!decide (x19.Config.Vec.Cost = y15.1.Cost))) then true else (!decide (x19.Config.Vec.Bridge = (((IntKind.i64.wrap (((a0).tmod 6) + 6))).tmod 6)))) then true else (!decide (x19.Config.Age = 0))) then true else (decide ((IntKind.i64.wrap (1 + (((IntKind.i64.wrap (((a2).tmod 20) + 20))).tmod 20))) ≤ 0))) then true else (decide (x19.Port = y15.2.1))) then
    some (.ret (.ret false))
  else
    some (.nxt ()))

def law12_StpAges_b21 (a0 : Int) (a2 : Int) (y29 : (VecT × Int × Int)) (v31 : InfoT) (k21 : Nat) (x21 : SendT) (s21 : Unit) : Option (Step (Step Bool StpT) Unit) :=
  (bif (bif (bif (bif (bif (bif (!decide (x21.Config.Vec.Root = y29.1.Root)) then true else (!decide (x21.Config.Vec.Cost = y29.1.Cost))) then true else (!decide (x21.Config.Vec.Bridge = (((IntKind.i64.wrap (((a0).tmod 6) + 6))).tmod 6)))) then true else (!decide (x21.Config.Age = (IntKind.i64.wrap (v31.Age + 1))))) then true else (decide ((IntKind.i64.wrap (1 + (((IntKind.i64.wrap (((a2).tmod 20) + 20))).tmod 20))) ≤ (IntKind.i64.wrap (v31.Age + 1))))) then true else (decide (x21.Port = y29.2.1))) then
    some (.ret (.ret false))
  else
    some (.nxt ()))

def law12_StpAges_b22 (a0 : Int) (a2 : Int) (y29 : (VecT × Int × Int)) (k22 : Nat) (x22 : SendT) (s22 : Unit) : Option (Step (Step Bool StpT) Unit) :=
  (bif (bif (bif (bif (bif (bif (!decide (x22.Config.Vec.Root = y29.1.Root)) then true else (!decide (x22.Config.Vec.Cost = y29.1.Cost))) then true else (!decide (x22.Config.Vec.Bridge = (((IntKind.i64.wrap (((a0).tmod 6) + 6))).tmod 6)))) then true else (!decide (x22.Config.Age = 0))) then true else (decide ((IntKind.i64.wrap (1 + (((IntKind.i64.wrap (((a2).tmod 20) + 20))).tmod 20))) ≤ 0))) then true else (decide (x22.Port = y29.2.1))) then
    some (.ret (.ret false))
  else
    some (.nxt ()))

def law12_StpAges_b24 (a0 : Int) (a2 : Int) (y43 : (VecT × Int × Int)) (v45 : InfoT) (k24 : Nat) (x24 : SendT) (s24 : Unit) : Option (Step (Step Bool StpT) Unit) :=
  (bif (bif (bif (bif (bif (bif (!decide (x24.Config.Vec.Root = y43.1.Root)) then true else (!decide (x24.Config.Vec.Cost = y43.1.Cost))) then true else (!decide (x24.Config.Vec.Bridge = (((IntKind.i64.wrap (((a0).tmod 6) + 6))).tmod 6)))) then true else (!decide (x24.Config.Age = (IntKind.i64.wrap (v45.Age + 1))))) then true else (decide ((IntKind.i64.wrap (1 + (((IntKind.i64.wrap (((a2).tmod 20) + 20))).tmod 20))) ≤ (IntKind.i64.wrap (v45.Age + 1))))) then true else (decide (x24.Port = y43.2.1))) then
    some (.ret (.ret false))
  else
    some (.nxt ()))

def law12_StpAges_b25 (a0 : Int) (a2 : Int) (y43 : (VecT × Int × Int)) (k25 : Nat) (x25 : SendT) (s25 : Unit) : Option (Step (Step Bool StpT) Unit) :=
  (bif (bif (bif (bif (bif (bif (!decide (x25.Config.Vec.Root = y43.1.Root)) then true else (!decide (x25.Config.Vec.Cost = y43.1.Cost))) then true else (!decide (x25.Config.Vec.Bridge = (((IntKind.i64.wrap (((a0).tmod 6) + 6))).tmod 6)))) then true else (!decide (x25.Config.Age = 0))) then true else (decide ((IntKind.i64.wrap (1 + (((IntKind.i64.wrap (((a2).tmod 20) + 20))).tmod 20))) ≤ 0))) then true else (decide (x25.Port = y43.2.1))) then
    some (.ret (.ret false))
  else
    some (.nxt ()))

def law12_StpAges_b17 (a0 : Int) (a2 : Int) (s16 : (List Int)) (k17 : Nat) (x17 : A4_Int) (s17 : StpT) : Option (Step Bool StpT) :=
  grd (((((s16 ++ ([1] : (List Int))).length : Nat) : Int) : Int) ≠ 0) <|
  grd (((((s16 ++ ([1] : (List Int))).length : Nat) : Int) : Int) ≠ 0) <|
  (bif (decide ((((IntKind.i64.wrap (((x17.c0).tmod 8) + 8))).tmod 8) = 0)) then
    (stp_Link s17 (((IntKind.i64.wrap (((x17.c1).tmod (((s16 ++ ([1] : (List Int))).length : Nat) : Int)) + (((s16 ++ ([1] : (List Int))).length : Nat) : Int)))).tmod (((s16 ++ ([1] : (List Int))).length : Nat) : Int)) (decide (((x17.c2).tmod 2) = 0))).bind fun y9 =>
    (bif (!decide (y9.2 = 0)) then
      some (.ret false)
    else
      (stp_Right y9.1).bind fun y11 =>
      (bif (!y11) then
        some (.ret false)
      else
        some (.nxt y9.1)))
  else
    (bif (decide ((((IntKind.i64.wrap (((x17.c0).tmod 8) + 8))).tmod 8) = 1)) then
      (bif (decide ((((IntKind.i64.wrap (((x17.c0).tmod 8) + 8))).tmod 8) = 1)) then
        (stp_Tick s17).bind fun y13 =>
        (role_Root y13.1.Self).bind fun y15 =>
        (bif (bif (bif (bif (!decide (y13.2.2 = 0)) then true else (!decide (y15.2.2 = 0))) then true else (decide (y15.2.1 < (-1)))) then true else (decide (((y13.1.Self.Infos.length : Nat) : Int) ≤ y15.2.1))) then
          some (.ret false)
        else
          (bif (decide (0 ≤ y15.2.1)) then
            (gix y13.1.Self.Infos y15.2.1).bind fun v17 =>
            aft (rangeL (law12_StpAges_b18 a0 a2 y15 v17) y13.2.1 ()) fun s18 =>
            (stp_Right y13.1).bind fun y19 =>
            (bif (!y19) then
              some (.ret false)
            else
              some (.nxt y13.1))
          else
            aft (rangeL (law12_StpAges_b19 a0 a2 y15) y13.2.1 ()) fun s19 =>
            (stp_Right y13.1).bind fun y21 =>
            (bif (!y21) then
              some (.ret false)
            else
              some (.nxt y13.1))))
      else
        (stp_Hear s17 (((IntKind.i64.wrap (((x17.c1).tmod (((s16 ++ ([1] : (List Int))).length : Nat) : Int)) + (((s16 ++ ([1] : (List Int))).length : Nat) : Int)))).tmod (((s16 ++ ([1] : (List Int))).length : Nat) : Int)) (⟨(⟨(((IntKind.i64.wrap (((x17.c2).tmod 6) + 6))).tmod 6), (((IntKind.i64.wrap (((x17.c3).tmod 30) + 30))).tmod 30), (((IntKind.i64.wrap (((x17.c3).tmod 6) + 6))).tmod 6), (((IntKind.i64.wrap (((x17.c2).tmod 8) + 8))).tmod 8)⟩ : VecT), (((IntKind.i64.wrap (((x17.c3).tmod 25) + 25))).tmod 25)⟩ : ConfigT)).bind fun y23 =>
        (bif (!decide (y23.2.2 = 0)) then
          some (.ret false)
        else
          (stp_Right y23.1).bind fun y25 =>
          (bif (!y25) then
            some (.ret false)
          else
            some (.nxt y23.1))))
    else
      (bif (decide ((((IntKind.i64.wrap (((x17.c0).tmod 8) + 8))).tmod 8) = 2)) then
        (bif (decide ((((IntKind.i64.wrap (((x17.c0).tmod 8) + 8))).tmod 8) = 2)) then
          (stp_Tick s17).bind fun y27 =>
          (role_Root y27.1.Self).bind fun y29 =>
          (bif (bif (bif (bif (!decide (y27.2.2 = 0)) then true else (!decide (y29.2.2 = 0))) then true else (decide (y29.2.1 < (-1)))) then true else (decide (((y27.1.Self.Infos.length : Nat) : Int) ≤ y29.2.1))) then
            some (.ret false)
          else
            (bif (decide (0 ≤ y29.2.1)) then
              (gix y27.1.Self.Infos y29.2.1).bind fun v31 =>
              aft (rangeL (law12_StpAges_b21 a0 a2 y29 v31) y27.2.1 ()) fun s21 =>
              (stp_Right y27.1).bind fun y33 =>
              (bif (!y33) then
                some (.ret false)
              else
                some (.nxt y27.1))
            else
              aft (rangeL (law12_StpAges_b22 a0 a2 y29) y27.2.1 ()) fun s22 =>
              (stp_Right y27.1).bind fun y35 =>
              (bif (!y35) then
                some (.ret false)
              else
                some (.nxt y27.1))))
        else
          (stp_Hear s17 (((IntKind.i64.wrap (((x17.c1).tmod (((s16 ++ ([1] : (List Int))).length : Nat) : Int)) + (((s16 ++ ([1] : (List Int))).length : Nat) : Int)))).tmod (((s16 ++ ([1] : (List Int))).length : Nat) : Int)) (⟨(⟨(((IntKind.i64.wrap (((x17.c2).tmod 6) + 6))).tmod 6), (((IntKind.i64.wrap (((x17.c3).tmod 30) + 30))).tmod 30), (((IntKind.i64.wrap (((x17.c3).tmod 6) + 6))).tmod 6), (((IntKind.i64.wrap (((x17.c2).tmod 8) + 8))).tmod 8)⟩ : VecT), (((IntKind.i64.wrap (((x17.c3).tmod 25) + 25))).tmod 25)⟩ : ConfigT)).bind fun y37 =>
          (bif (!decide (y37.2.2 = 0)) then
            some (.ret false)
          else
            (stp_Right y37.1).bind fun y39 =>
            (bif (!y39) then
              some (.ret false)
            else
              some (.nxt y37.1))))
      else
        (bif (decide ((((IntKind.i64.wrap (((x17.c0).tmod 8) + 8))).tmod 8) = 3)) then
          (stp_Tick s17).bind fun y41 =>
          (role_Root y41.1.Self).bind fun y43 =>
          (bif (bif (bif (bif (!decide (y41.2.2 = 0)) then true else (!decide (y43.2.2 = 0))) then true else (decide (y43.2.1 < (-1)))) then true else (decide (((y41.1.Self.Infos.length : Nat) : Int) ≤ y43.2.1))) then
            some (.ret false)
          else
            (bif (decide (0 ≤ y43.2.1)) then
              (gix y41.1.Self.Infos y43.2.1).bind fun v45 =>
              aft (rangeL (law12_StpAges_b24 a0 a2 y43 v45) y41.2.1 ()) fun s24 =>
              (stp_Right y41.1).bind fun y47 =>
              (bif (!y47) then
                some (.ret false)
              else
                some (.nxt y41.1))
            else
              aft (rangeL (law12_StpAges_b25 a0 a2 y43) y41.2.1 ()) fun s25 =>
              (stp_Right y41.1).bind fun y49 =>
              (bif (!y49) then
                some (.ret false)
              else
                some (.nxt y41.1))))
        else
          (stp_Hear s17 (((IntKind.i64.wrap (((x17.c1).tmod (((s16 ++ ([1] : (List Int))).length : Nat) : Int)) + (((s16 ++ ([1] : (List Int))).length : Nat) : Int)))).tmod (((s16 ++ ([1] : (List Int))).length : Nat) : Int)) (⟨(⟨(((IntKind.i64.wrap (((x17.c2).tmod 6) + 6))).tmod 6), (((IntKind.i64.wrap (((x17.c3).tmod 30) + 30))).tmod 30), (((IntKind.i64.wrap (((x17.c3).tmod 6) + 6))).tmod 6), (((IntKind.i64.wrap (((x17.c2).tmod 8) + 8))).tmod 8)⟩ : VecT), (((IntKind.i64.wrap (((x17.c3).tmod 25) + 25))).tmod 25)⟩ : ConfigT)).bind fun y51 =>
          (bif (!decide (y51.2.2 = 0)) then
            some (.ret false)
          else
            (stp_Right y51.1).bind fun y53 =>
            (bif (!y53) then
              some (.ret false)
            else
              some (.nxt y51.1)))))))

def law12_StpAges_b26  (k26 : Nat) (s26 : StpT) : Option (Step Bool StpT) :=
  (stp_Tick s26).bind fun y55 =>
  (bif (!decide (y55.2.2 = 0)) then
    some (.ret false)
  else
    some (.nxt y55.1))

def law12_StpAges_b27  (k27 : Nat) (s27 : StpT) : Option (Step Bool StpT) :=
  (stp_Tick s27).bind fun y57 =>
  (bif (!decide (y57.2.2 = 0)) then
    some (.ret false)
  else
    some (.nxt y57.1))

def law12_StpAges_b28 (s27 : StpT) (k28 : Nat) (x28 : Bool) (s28 : Int) : Option (Step Bool Int) :=
  (bif x28 then
    (gix s27.Self.Infos ((k28 : Nat) : Int)).bind fun v59 =>
    (bif (!((v59.Has == false) && (((decide (v59.Vec.Root = 0)) && ((decide (v59.Vec.Cost = 0)) && ((decide (v59.Vec.Bridge = 0)) && ((decide (v59.Vec.Port = 0)) && true)))) && ((decide (v59.Age = 0)) && true)))) then
      some (.ret false)
    else
      some (.nxt (IntKind.i64.wrap (s28 + 1))))
  else
    (gix s27.Self.Infos ((k28 : Nat) : Int)).bind fun v61 =>
    (bif (!((v61.Has == false) && (((decide (v61.Vec.Root = 0)) && ((decide (v61.Vec.Cost = 0)) && ((decide (v61.Vec.Bridge = 0)) && ((decide (v61.Vec.Port = 0)) && true)))) && ((decide (v61.Age = 0)) && true)))) then
      some (.ret false)
    else
      some (.nxt s28)))

def law12_StpAges (a0 : Int) (a1 : (List Int)) (a2 : Int) (a3 : Int) (a4 : (List A4_Int)) : Option Bool :=
  grd ((0 : Int) ≤ (mn ((a1.length : Nat) : Int) 4) ∧ (mn ((a1.length : Nat) : Int) 4) ≤ ((a1.length : Nat) : Int)) <|
  aft (rangeL (law12_StpAges_b16 ) (a1.take ((mn ((a1.length : Nat) : Int) 4) : Int).toNat) ([] : (List Int))) fun s16 =>
  grd (fits ((s16 ++ ([1] : (List Int))) : List Int).length 8) <|
  (stp_New (((IntKind.i64.wrap (((a0).tmod 6) + 6))).tmod 6) (s16 ++ ([1] : (List Int))) (IntKind.i64.wrap (1 + (((IntKind.i64.wrap (((a2).tmod 20) + 20))).tmod 20))) (IntKind.i64.wrap (1 + (((IntKind.i64.wrap (((a3).tmod 4) + 4))).tmod 4)))).bind fun y4 =>
  (bif (!decide (y4.2 = 0)) then
    some false
  else
    grd ((0 : Int) ≤ (mn ((a4.length : Nat) : Int) 60) ∧ (mn ((a4.length : Nat) : Int) 60) ≤ ((a4.length : Nat) : Int)) <|
    aft (rangeL (law12_StpAges_b17 a0 a2 s16) (a4.take ((mn ((a4.length : Nat) : Int) 60) : Int).toNat) y4.1) fun s17 =>
    aft (rangeN (law12_StpAges_b26 ) (IntKind.i64.wrap (1 + (((IntKind.i64.wrap (((a2).tmod 20) + 20))).tmod 20))) s17) fun s26 =>
    aft (rangeN (law12_StpAges_b27 ) (IntKind.i64.wrap (2 * (IntKind.i64.wrap (1 + (((IntKind.i64.wrap (((a3).tmod 4) + 4))).tmod 4))))) s26) fun s27 =>
    (bif (bif (!decide (((s27.Self.Ups.length : Nat) : Int) = (((s16 ++ ([1] : (List Int))).length : Nat) : Int))) then true else (!decide (((s27.Self.Infos.length : Nat) : Int) = (((s16 ++ ([1] : (List Int))).length : Nat) : Int)))) then
      some false
    else
      aft (rangeL (law12_StpAges_b28 s27) s27.Self.Ups 0) fun s28 =>
      (stp_Tick s27).bind fun y63 =>
      (stp_Forwards s27).bind fun y65 =>
      (role_Root s27.Self).bind fun y67 =>
      (law12_alive ).bind fun y69 =>
      some (bif (bif (bif (bif (bif (bif (bif y69 then (decide (y63.2.2 = 0)) else false) then (decide (y65.2 = 0)) else false) then (decide (y67.2.2 = 0)) else false) then (decide (((y63.2.1.length : Nat) : Int) = s28)) else false) then (decide (((y65.1.length : Nat) : Int) = s28)) else false) then (decide (y67.2.1 = (-1))) else false) then ((decide (y67.1.Root = (((IntKind.i64.wrap (((a0).tmod 6) + 6))).tmod 6))) && ((decide (y67.1.Cost = 0)) && ((decide (y67.1.Bridge = (((IntKind.i64.wrap (((a0).tmod 6) + 6))).tmod 6))) && ((decide (y67.1.Port = 0)) && true)))) else false)))

theorem c_law12_StpAges (a0 : Int) (a1 : (List Int)) (a2 : Int) (a3 : Int) (a4 : (List A4_Int)) (r : Bool) (h : law12_StpAges a0 a1 a2 a3 a4 = some r) : CallP Try.prog 10 [(I a0), (LV.ro 1 (a1.map iC)), (I a2), (I a3), (LV.ro 4 (a4.map A4_Int.cells))] (LV.bool r) := by
  unfold law12_StpAges at h
  refine .intro nlA (.intro TT_ok Try.func10 rfl rfl [0, 1, 2, 3, 4, 10, 11, 13, 14, 15, 16, 18, 19, 20, 21, 22, 23, 24, 25, 26, 27, 28, 30, 31, 33, 34, 36, 37, 39, 40, 41, 42, 44, 45, 46, 47, 48, 49, 50, 69, 70, 71, 72, 96, 103, 104, 105, 106, 121, 157, 159, 172, 174, 208, 210, 219, 220, 221, 222, 266, 271, 273, 274, 275, 283, 287, 288, 289, 297, 313, 316, 317, 318, 319, 323, 333] rfl ?_)
  conv => whnf
  replace h := grdS h
  obtain ⟨g1, h⟩ := h
  replace g1 : (0 : Int) ≤ (mn (((a1.map iC).length : Nat) : Int) 4) ∧ (mn (((a1.map iC).length : Nat) : Int) 4) ≤ (((a1.map iC).length : Nat) : Int) := by simpa only [se_len, se_ch, List.length_map] using g1
  repeat' first | with_reducible rfl | with_reducible exact True.intro | with_reducible assumption | refine parkI ?_ | exact g1 | exact (by decide : ((6 : Int) ≠ 0)) | exact (by decide : ((6 : Int) ≠ 0)) | exact (by decide : ((20 : Int) ≠ 0)) | exact (by decide : ((20 : Int) ≠ 0)) | exact (by decide : ((4 : Int) ≠ 0)) | exact (by decide : ((4 : Int) ≠ 0)) | (refine And.intro ?_ ?_ <;> conv => whnf) | fail
  replace h := aftS h
  obtain ⟨O16, hO16, r16⟩ := h
  refine LoopW.virt 11 3 1 rfl ?_
  refine LoopW.norm [(0, (I (((IntKind.i64.wrap (((a0).tmod 6) + 6))).tmod 6))), (2, (I (IntKind.i64.wrap (1 + (((IntKind.i64.wrap (((a2).tmod 20) + 20))).tmod 20))))), (3, (I (IntKind.i64.wrap (1 + (((IntKind.i64.wrap (((a3).tmod 4) + 4))).tmod 4))))), (4, (LV.ro 4 (a4.map A4_Int.cells))), (11, (LV.sl 0 0 (([] : (List Int)).map iC).length)), (69, (LV.ro 1 ((a1.map iC).take ((mn (((a1.map iC).length : Nat) : Int) 4) : Int).toNat))), (70, (I ((((a1.map iC).take ((mn (((a1.map iC).length : Nat) : Int) 4) : Int).toNat).length : Nat) : Int))), (71, (I ((0 : Nat) : Int)))] 1 [(0, (.row 3 1 (([] : (List Int)).map iC)))] ⟨rfl, rfl, rfl, rfl, (by exact congrArg (LV.sl 0 0) (clL _ : 0 = (([] : (List Int)).map iC).length)), rfl, rfl, rfl, trivial⟩ ⟨⟨(congrArg (fun q => some (Blk.row 3 1 q)) (smT : ([] : List (List LV)) = (([] : (List Int)).map iC))), rfl, NLss_bel (NLss_map' _)⟩, trivial⟩ blT rfl ?_
  refine LoopW.forR (fun k16 s16 => [(0, (I (((IntKind.i64.wrap (((a0).tmod 6) + 6))).tmod 6))), (2, (I (IntKind.i64.wrap (1 + (((IntKind.i64.wrap (((a2).tmod 20) + 20))).tmod 20))))), (3, (I (IntKind.i64.wrap (1 + (((IntKind.i64.wrap (((a3).tmod 4) + 4))).tmod 4))))), (4, (LV.ro 4 (a4.map A4_Int.cells))), (11, (LV.sl 0 0 (s16.map iC).length)), (69, (LV.ro 1 ((a1.map iC).take ((mn (((a1.map iC).length : Nat) : Int) 4) : Int).toNat))), (70, (I ((((a1.map iC).take ((mn (((a1.map iC).length : Nat) : Int) 4) : Int).toNat).length : Nat) : Int))), (71, (I ((k16 : Nat) : Int)))]) (fun s16 => ⟨1, [(0, (.row 3 1 (s16.map iC)))]⟩) hO16 (fun hl16 s16 hs16 => ?_) (fun hl16 k16 x16 s16 o16 hk16 hx16 b16 K16 hret16 hbrk16 => ?_)
  · rw [hs16] at r16
    dsimp only [aftM] at r16
    have hd : decide ((((a1.take ((mn ((a1.length : Nat) : Int) 4) : Int).toNat).length : Nat) : Int) < ((((a1.map iC).take ((mn (((a1.map iC).length : Nat) : Int) 4) : Int).toNat).length : Nat) : Int)) = false := by rw [decide_eq_false_iff_not]; (try simp only [se_len, se_ch, List.length_map]); omega
    refine LoopW.round TT_ok [0, 1, 2, 3, 4, 10, 11, 13, 14, 15, 16, 18, 19, 20, 21, 22, 23, 24, 25, 26, 27, 28, 30, 31, 33, 34, 36, 37, 39, 40, 41, 42, 44, 45, 46, 47, 48, 49, 50, 69, 70, 71, 72, 96, 103, 104, 105, 106, 121, 157, 159, 172, 174, 208, 210, 219, 220, 221, 222, 266, 271, 273, 274, 275, 283, 287, 288, 289, 297, 313, 316, 317, 318, 319, 323, 333] ?_
    conv => whnf
    repeat' first | with_reducible rfl | with_reducible exact True.intro | with_reducible assumption | refine parkI ?_ | (refine And.intro ?_ ?_ <;> conv => whnf) | fail
    refine parkE (fun hc => ?_) (fun hc => ?_)
    · exact (Bool.false_ne_true (hd.symm.trans hc)).elim
    · clear hd
      conv => whnf
      replace r16 := grdS r16
      obtain ⟨g3, r16⟩ := r16
      replace g3 : fits (((s16.map iC) ++ [[(I 1)]])).length 8 := by simpa only [se_len, se_ch, List.length_map] using g3
      replace r16 := bindS r16
      obtain ⟨y4, hy4, r16⟩ := r16
      have c5 : CallP Try.prog 54 [(I (((IntKind.i64.wrap (((a0).tmod 6) + 6))).tmod 6)), (LV.ro 1 ((s16.map iC) ++ [[(I 1)]])), (I (IntKind.i64.wrap (1 + (((IntKind.i64.wrap (((a2).tmod 20) + 20))).tmod 20)))), (I (IntKind.i64.wrap (1 + (((IntKind.i64.wrap (((a3).tmod 4) + 4))).tmod 4))))] (LV.tup [(LV.agg [(I y4.1.Self.ID), (LV.ro 1 (y4.1.Self.Costs.map iC)), (LV.ro 1 (y4.1.Self.Ups.map bC)), (LV.ro 6 (y4.1.Self.Infos.map InfoT.cells)), (LV.ro 2 (y4.1.States.map PortStateT.cells)), (I y4.1.Max), (I y4.1.Delay)]), (I y4.2)]) := by first | exact c_stp_New (((IntKind.i64.wrap (((a0).tmod 6) + 6))).tmod 6) (s16 ++ ([1] : (List Int))) (IntKind.i64.wrap (1 + (((IntKind.i64.wrap (((a2).tmod 20) + 20))).tmod 20))) (IntKind.i64.wrap (1 + (((IntKind.i64.wrap (((a3).tmod 4) + 4))).tmod 4))) _ hy4 | (simpa only [se_map, se_byL, se_len, se_ch, List.length_map] using c_stp_New (((IntKind.i64.wrap (((a0).tmod 6) + 6))).tmod 6) (s16 ++ ([1] : (List Int))) (IntKind.i64.wrap (1 + (((IntKind.i64.wrap (((a2).tmod 20) + 20))).tmod 20))) (IntKind.i64.wrap (1 + (((IntKind.i64.wrap (((a3).tmod 4) + 4))).tmod 4))) _ hy4)
      repeat' first | with_reducible rfl | with_reducible exact True.intro | with_reducible assumption | refine parkI ?_ | exact g3 | (refine CallP.use c5 ?_; conv => whnf) | exact clA _ | (refine And.intro ?_ ?_ <;> conv => whnf) | exact clN _ | fail
      refine parkE (fun hc => ?_) (fun hc => ?_)
      · replace r16 := condT hc r16
        conv => whnf
        have e := Option.some.inj r16
        subst e
        repeat' first | with_reducible rfl | with_reducible exact True.intro | with_reducible assumption | exact clA _ | (refine And.intro ?_ ?_ <;> conv => whnf) | exact clG _ | (refine gand ?_ h; assumption) | exact clN _ | fail
      · replace r16 := condF hc r16
        conv => whnf
        replace r16 := grdS r16
        obtain ⟨g6, r16⟩ := r16
        replace g6 : (0 : Int) ≤ (mn (((a4.map A4_Int.cells).length : Nat) : Int) 60) ∧ (mn (((a4.map A4_Int.cells).length : Nat) : Int) 60) ≤ (((a4.map A4_Int.cells).length : Nat) : Int) := by simpa only [se_len, se_ch, List.length_map] using g6
        repeat' first | with_reducible rfl | with_reducible exact True.intro | with_reducible assumption | refine parkI ?_ | exact g6 | (refine And.intro ?_ ?_ <;> conv => whnf) | fail
        replace r16 := aftS r16
        obtain ⟨O17, hO17, r17⟩ := r16
        refine LoopW.norm [(0, (I (((IntKind.i64.wrap (((a0).tmod 6) + 6))).tmod 6))), (2, (I (IntKind.i64.wrap (1 + (((IntKind.i64.wrap (((a2).tmod 20) + 20))).tmod 20))))), (3, (I (IntKind.i64.wrap (1 + (((IntKind.i64.wrap (((a3).tmod 4) + 4))).tmod 4))))), (14, (LV.ptr 3 0 0)), (16, (I ((((s16.map iC) ++ [[(I 1)]]).length : Nat) : Int))), (103, (LV.ro 4 ((a4.map A4_Int.cells).take ((mn (((a4.map A4_Int.cells).length : Nat) : Int) 60) : Int).toNat))), (104, (I ((((a4.map A4_Int.cells).take ((mn (((a4.map A4_Int.cells).length : Nat) : Int) 60) : Int).toNat).length : Nat) : Int))), (105, (I ((0 : Nat) : Int)))] 4 [(3, (.row 85 7 [[(I y4.1.Self.ID), (LV.ro 1 (y4.1.Self.Costs.map iC)), (LV.ro 1 (y4.1.Self.Ups.map bC)), (LV.ro 6 (y4.1.Self.Infos.map InfoT.cells)), (LV.ro 2 (y4.1.States.map PortStateT.cells)), (I y4.1.Max), (I y4.1.Delay)]]))] ⟨rfl, rfl, rfl, rfl, rfl, rfl, rfl, rfl, trivial⟩ ⟨⟨rfl, rfl, blT⟩, trivial⟩ blT rfl ?_
        refine LoopW.forR (fun k17 s17 => [(0, (I (((IntKind.i64.wrap (((a0).tmod 6) + 6))).tmod 6))), (2, (I (IntKind.i64.wrap (1 + (((IntKind.i64.wrap (((a2).tmod 20) + 20))).tmod 20))))), (3, (I (IntKind.i64.wrap (1 + (((IntKind.i64.wrap (((a3).tmod 4) + 4))).tmod 4))))), (14, (LV.ptr 3 0 0)), (16, (I ((((s16.map iC) ++ [[(I 1)]]).length : Nat) : Int))), (103, (LV.ro 4 ((a4.map A4_Int.cells).take ((mn (((a4.map A4_Int.cells).length : Nat) : Int) 60) : Int).toNat))), (104, (I ((((a4.map A4_Int.cells).take ((mn (((a4.map A4_Int.cells).length : Nat) : Int) 60) : Int).toNat).length : Nat) : Int))), (105, (I ((k17 : Nat) : Int)))]) (fun s17 => ⟨4, [(3, (.row 85 7 [[(I s17.Self.ID), (LV.ro 1 (s17.Self.Costs.map iC)), (LV.ro 1 (s17.Self.Ups.map bC)), (LV.ro 6 (s17.Self.Infos.map InfoT.cells)), (LV.ro 2 (s17.States.map PortStateT.cells)), (I s17.Max), (I s17.Delay)]]))]⟩) hO17 (fun hl17 s17 hs17 => ?_) (fun hl17 k17 x17 s17 o17 hk17 hx17 b17 K17 hret17 hbrk17 => ?_)
        · rw [hs17] at r17
          dsimp only [aftM] at r17
          have hd : decide ((((a4.take ((mn ((a4.length : Nat) : Int) 60) : Int).toNat).length : Nat) : Int) < ((((a4.map A4_Int.cells).take ((mn (((a4.map A4_Int.cells).length : Nat) : Int) 60) : Int).toNat).length : Nat) : Int)) = false := by rw [decide_eq_false_iff_not]; (try simp only [se_len, se_ch, List.length_map]); omega
          refine LoopW.round TT_ok [0, 1, 2, 3, 4, 10, 11, 13, 14, 15, 16, 18, 19, 20, 21, 22, 23, 24, 25, 26, 27, 28, 30, 31, 33, 34, 36, 37, 39, 40, 41, 42, 44, 45, 46, 47, 48, 49, 50, 69, 70, 71, 72, 96, 103, 104, 105, 106, 121, 157, 159, 172, 174, 208, 210, 219, 220, 221, 222, 266, 271, 273, 274, 275, 283, 287, 288, 289, 297, 313, 316, 317, 318, 319, 323, 333] ?_
          conv => whnf
          repeat' first | with_reducible rfl | with_reducible exact True.intro | with_reducible assumption | refine parkI ?_ | (refine And.intro ?_ ?_ <;> conv => whnf) | fail
          refine parkE (fun hc => ?_) (fun hc => ?_)
          · exact (Bool.false_ne_true (hd.symm.trans hc)).elim
          · clear hd
            conv => whnf
            repeat' first | with_reducible rfl | with_reducible exact True.intro | with_reducible assumption | refine parkI ?_ | (refine And.intro ?_ ?_ <;> conv => whnf) | fail
            replace r17 := aftS r17
            obtain ⟨O26, hO26, r26⟩ := r17
            refine LoopW.norm [(0, (I (((IntKind.i64.wrap (((a0).tmod 6) + 6))).tmod 6))), (3, (I (IntKind.i64.wrap (1 + (((IntKind.i64.wrap (((a3).tmod 4) + 4))).tmod 4))))), (14, (LV.ptr 3 0 0)), (16, (I ((((s16.map iC) ++ [[(I 1)]]).length : Nat) : Int))), (273, (I (IntKind.i64.wrap (1 + (((IntKind.i64.wrap (((a2).tmod 20) + 20))).tmod 20))))), (274, (I ((0 : Nat) : Int)))] 4 [(3, (.row 85 7 [[(I s17.Self.ID), (LV.ro 1 (s17.Self.Costs.map iC)), (LV.ro 1 (s17.Self.Ups.map bC)), (LV.ro 6 (s17.Self.Infos.map InfoT.cells)), (LV.ro 2 (s17.States.map PortStateT.cells)), (I s17.Max), (I s17.Delay)]]))] ⟨rfl, rfl, rfl, rfl, rfl, rfl, trivial⟩ ⟨⟨rfl, rfl, blT⟩, trivial⟩ blT rfl ?_
            refine LoopW.forN (fun k26 s26 => [(0, (I (((IntKind.i64.wrap (((a0).tmod 6) + 6))).tmod 6))), (3, (I (IntKind.i64.wrap (1 + (((IntKind.i64.wrap (((a3).tmod 4) + 4))).tmod 4))))), (14, (LV.ptr 3 0 0)), (16, (I ((((s16.map iC) ++ [[(I 1)]]).length : Nat) : Int))), (273, (I (IntKind.i64.wrap (1 + (((IntKind.i64.wrap (((a2).tmod 20) + 20))).tmod 20))))), (274, (I ((k26 : Nat) : Int)))]) (fun s26 => ⟨4, [(3, (.row 85 7 [[(I s26.Self.ID), (LV.ro 1 (s26.Self.Costs.map iC)), (LV.ro 1 (s26.Self.Ups.map bC)), (LV.ro 6 (s26.Self.Infos.map InfoT.cells)), (LV.ro 2 (s26.States.map PortStateT.cells)), (I s26.Max), (I s26.Delay)]]))]⟩) hO26 (fun hl26 s26 hs26 => ?_) (fun hl26 k26 s26 o26 hk26 b26 K26 hret26 hbrk26 => ?_)
            · rw [hs26] at r26
              dsimp only [aftM] at r26
              have hd : decide (((((IntKind.i64.wrap (1 + (((IntKind.i64.wrap (((a2).tmod 20) + 20))).tmod 20)))).toNat : Nat) : Int) < (IntKind.i64.wrap (1 + (((IntKind.i64.wrap (((a2).tmod 20) + 20))).tmod 20)))) = false := by rw [decide_eq_false_iff_not]; (try simp only [se_len, se_ch, List.length_map]); omega
              refine LoopW.round TT_ok [0, 1, 2, 3, 4, 10, 11, 13, 14, 15, 16, 18, 19, 20, 21, 22, 23, 24, 25, 26, 27, 28, 30, 31, 33, 34, 36, 37, 39, 40, 41, 42, 44, 45, 46, 47, 48, 49, 50, 69, 70, 71, 72, 96, 103, 104, 105, 106, 121, 157, 159, 172, 174, 208, 210, 219, 220, 221, 222, 266, 271, 273, 274, 275, 283, 287, 288, 289, 297, 313, 316, 317, 318, 319, 323, 333] ?_
              conv => whnf
              repeat' first | with_reducible rfl | with_reducible exact True.intro | with_reducible assumption | refine parkI ?_ | (refine And.intro ?_ ?_ <;> conv => whnf) | fail
              refine parkE (fun hc => ?_) (fun hc => ?_)
              · exact (Bool.false_ne_true (hd.symm.trans hc)).elim
              · clear hd
                conv => whnf
                repeat' first | with_reducible rfl | with_reducible exact True.intro | with_reducible assumption | refine parkI ?_ | (refine And.intro ?_ ?_ <;> conv => whnf) | fail
                replace r26 := aftS r26
                obtain ⟨O27, hO27, r27⟩ := r26
                refine LoopW.norm [(0, (I (((IntKind.i64.wrap (((a0).tmod 6) + 6))).tmod 6))), (14, (LV.ptr 3 0 0)), (16, (I ((((s16.map iC) ++ [[(I 1)]]).length : Nat) : Int))), (287, (I (IntKind.i64.wrap (2 * (IntKind.i64.wrap (1 + (((IntKind.i64.wrap (((a3).tmod 4) + 4))).tmod 4))))))), (288, (I ((0 : Nat) : Int)))] 4 [(3, (.row 85 7 [[(I s26.Self.ID), (LV.ro 1 (s26.Self.Costs.map iC)), (LV.ro 1 (s26.Self.Ups.map bC)), (LV.ro 6 (s26.Self.Infos.map InfoT.cells)), (LV.ro 2 (s26.States.map PortStateT.cells)), (I s26.Max), (I s26.Delay)]]))] ⟨rfl, rfl, rfl, rfl, rfl, trivial⟩ ⟨⟨rfl, rfl, blT⟩, trivial⟩ blT rfl ?_
                refine LoopW.forN (fun k27 s27 => [(0, (I (((IntKind.i64.wrap (((a0).tmod 6) + 6))).tmod 6))), (14, (LV.ptr 3 0 0)), (16, (I ((((s16.map iC) ++ [[(I 1)]]).length : Nat) : Int))), (287, (I (IntKind.i64.wrap (2 * (IntKind.i64.wrap (1 + (((IntKind.i64.wrap (((a3).tmod 4) + 4))).tmod 4))))))), (288, (I ((k27 : Nat) : Int)))]) (fun s27 => ⟨4, [(3, (.row 85 7 [[(I s27.Self.ID), (LV.ro 1 (s27.Self.Costs.map iC)), (LV.ro 1 (s27.Self.Ups.map bC)), (LV.ro 6 (s27.Self.Infos.map InfoT.cells)), (LV.ro 2 (s27.States.map PortStateT.cells)), (I s27.Max), (I s27.Delay)]]))]⟩) hO27 (fun hl27 s27 hs27 => ?_) (fun hl27 k27 s27 o27 hk27 b27 K27 hret27 hbrk27 => ?_)
                · rw [hs27] at r27
                  dsimp only [aftM] at r27
                  have hd : decide (((((IntKind.i64.wrap (2 * (IntKind.i64.wrap (1 + (((IntKind.i64.wrap (((a3).tmod 4) + 4))).tmod 4)))))).toNat : Nat) : Int) < (IntKind.i64.wrap (2 * (IntKind.i64.wrap (1 + (((IntKind.i64.wrap (((a3).tmod 4) + 4))).tmod 4)))))) = false := by rw [decide_eq_false_iff_not]; (try simp only [se_len, se_ch, List.length_map]); omega
                  refine LoopW.round TT_ok [0, 1, 2, 3, 4, 10, 11, 13, 14, 15, 16, 18, 19, 20, 21, 22, 23, 24, 25, 26, 27, 28, 30, 31, 33, 34, 36, 37, 39, 40, 41, 42, 44, 45, 46, 47, 48, 49, 50, 69, 70, 71, 72, 96, 103, 104, 105, 106, 121, 157, 159, 172, 174, 208, 210, 219, 220, 221, 222, 266, 271, 273, 274, 275, 283, 287, 288, 289, 297, 313, 316, 317, 318, 319, 323, 333] ?_
                  conv => whnf
                  repeat' first | with_reducible rfl | with_reducible exact True.intro | with_reducible assumption | refine parkI ?_ | (refine And.intro ?_ ?_ <;> conv => whnf) | fail
                  refine parkE (fun hc => ?_) (fun hc => ?_)
                  · exact (Bool.false_ne_true (hd.symm.trans hc)).elim
                  · clear hd
                    conv => whnf
                    repeat' first | with_reducible rfl | with_reducible exact True.intro | with_reducible assumption | refine parkI ?_ | exact clA _ | (refine And.intro ?_ ?_ <;> conv => whnf) | exact clG _ | (refine gand ?_ h; assumption) | fail
                    refine parkE (fun hc => ?_) (fun hc => ?_)
                    · replace r27 := condT (by first | exact hc | simpa only [se_len, se_ch, List.length_map] using hc) r27
                      conv => whnf
                      have e := Option.some.inj r27
                      subst e
                      repeat' first | with_reducible rfl | with_reducible exact True.intro | with_reducible assumption | exact clA _ | (refine And.intro ?_ ?_ <;> conv => whnf) | exact clG _ | (refine gand ?_ h; assumption) | exact clN _ | fail
                    · replace r27 := condF (by first | exact hc | simpa only [se_len, se_ch, List.length_map] using hc) r27
                      conv => whnf
                      repeat' first | with_reducible rfl | with_reducible exact True.intro | with_reducible assumption | refine parkI ?_ | (refine And.intro ?_ ?_ <;> conv => whnf) | fail
                      replace r27 := aftS r27
                      obtain ⟨O28, hO28, r28⟩ := r27
                      refine LoopW.norm [(0, (I (((IntKind.i64.wrap (((a0).tmod 6) + 6))).tmod 6))), (14, (LV.ptr 3 0 0)), (40, (I 0)), (316, (LV.ro 1 (s27.Self.Ups.map bC))), (317, (I (((s27.Self.Ups.map bC).length : Nat) : Int))), (318, (I ((0 : Nat) : Int)))] 4 [(3, (.row 85 7 [[(I s27.Self.ID), (LV.ro 1 (s27.Self.Costs.map iC)), (LV.ro 1 (s27.Self.Ups.map bC)), (LV.ro 6 (s27.Self.Infos.map InfoT.cells)), (LV.ro 2 (s27.States.map PortStateT.cells)), (I s27.Max), (I s27.Delay)]]))] ⟨rfl, rfl, rfl, rfl, rfl, rfl, trivial⟩ ⟨⟨rfl, rfl, blT⟩, trivial⟩ blT rfl ?_
                      refine LoopW.forR (fun k28 s28 => [(0, (I (((IntKind.i64.wrap (((a0).tmod 6) + 6))).tmod 6))), (14, (LV.ptr 3 0 0)), (40, (I s28)), (316, (LV.ro 1 (s27.Self.Ups.map bC))), (317, (I (((s27.Self.Ups.map bC).length : Nat) : Int))), (318, (I ((k28 : Nat) : Int)))]) (fun s28 => ⟨4, [(3, (.row 85 7 [[(I s27.Self.ID), (LV.ro 1 (s27.Self.Costs.map iC)), (LV.ro 1 (s27.Self.Ups.map bC)), (LV.ro 6 (s27.Self.Infos.map InfoT.cells)), (LV.ro 2 (s27.States.map PortStateT.cells)), (I s27.Max), (I s27.Delay)]]))]⟩) hO28 (fun hl28 s28 hs28 => ?_) (fun hl28 k28 x28 s28 o28 hk28 hx28 b28 K28 hret28 hbrk28 => ?_)
                      · rw [hs28] at r28
                        dsimp only [aftM] at r28
                        have hd : decide (((s27.Self.Ups.length : Nat) : Int) < (((s27.Self.Ups.map bC).length : Nat) : Int)) = false := by rw [decide_eq_false_iff_not]; (try simp only [se_len, se_ch, List.length_map]); omega
                        refine LoopW.round TT_ok [0, 1, 2, 3, 4, 10, 11, 13, 14, 15, 16, 18, 19, 20, 21, 22, 23, 24, 25, 26, 27, 28, 30, 31, 33, 34, 36, 37, 39, 40, 41, 42, 44, 45, 46, 47, 48, 49, 50, 69, 70, 71, 72, 96, 103, 104, 105, 106, 121, 157, 159, 172, 174, 208, 210, 219, 220, 221, 222, 266, 271, 273, 274, 275, 283, 287, 288, 289, 297, 313, 316, 317, 318, 319, 323, 333] ?_
                        conv => whnf
                        repeat' first | with_reducible rfl | with_reducible exact True.intro | with_reducible assumption | refine parkI ?_ | (refine And.intro ?_ ?_ <;> conv => whnf) | fail
                        refine parkE (fun hc => ?_) (fun hc => ?_)
                        · exact (Bool.false_ne_true (hd.symm.trans hc)).elim
                        · clear hd
                          conv => whnf
                          replace r28 := bindS r28
                          obtain ⟨y63, hy63, r28⟩ := r28
                          have c64 := c_stp_Tick s27 _ hy63
                          replace r28 := bindS r28
                          obtain ⟨y65, hy65, r28⟩ := r28
                          have c66 := c_stp_Forwards s27 _ hy65
                          replace r28 := bindS r28
                          obtain ⟨y67, hy67, r28⟩ := r28
                          have c68 := c_role_Root s27.Self _ hy67
                          replace r28 := bindS r28
                          obtain ⟨y69, hy69, r28⟩ := r28
                          have c70 := c_law12_alive  _ hy69
                          have e := Option.some.inj r28
                          subst e
                          repeat' first | with_reducible rfl | with_reducible exact True.intro | with_reducible assumption | (refine CallP.use c64 ?_; conv => whnf) | (refine CallP.use c66 ?_; conv => whnf) | (refine CallP.use c68 ?_; conv => whnf) | (refine CallP.use c70 ?_; conv => whnf) | exact clA _ | (refine And.intro ?_ ?_ <;> conv => whnf) | exact clG _ | (refine gand ?_ h; assumption) | exact clN _ | fail
                      · unfold law12_StpAges_b28 at b28
                        have hd : decide (((k28 : Nat) : Int) < (((s27.Self.Ups.map bC).length : Nat) : Int)) = true := by rw [decide_eq_true_eq]; (try simp only [se_len, se_ch, List.length_map] at hk28); (try simp only [se_len, se_ch, List.length_map]); omega
                        refine LoopW.round TT_ok [0, 1, 2, 3, 4, 10, 11, 13, 14, 15, 16, 18, 19, 20, 21, 22, 23, 24, 25, 26, 27, 28, 30, 31, 33, 34, 36, 37, 39, 40, 41, 42, 44, 45, 46, 47, 48, 49, 50, 69, 70, 71, 72, 96, 103, 104, 105, 106, 121, 157, 159, 172, 174, 208, 210, 219, 220, 221, 222, 266, 271, 273, 274, 275, 283, 287, 288, 289, 297, 313, 316, 317, 318, 319, 323, 333] ?_
                        conv => whnf
                        repeat' first | with_reducible rfl | with_reducible exact True.intro | with_reducible assumption | refine parkI ?_ | (refine And.intro ?_ ?_ <;> conv => whnf) | fail
                        refine parkE (fun hc => ?_) (fun hc => ?_)
                        · clear hd
                          conv => whnf
                          repeat' first | with_reducible rfl | with_reducible exact True.intro | with_reducible assumption | refine parkI ?_ | (refine ⟨_, (kixF (f := bC) hx28), ?_⟩; conv => whnf) | (refine And.intro ?_ ?_ <;> conv => whnf) | fail
                          refine parkE (fun hc => ?_) (fun hc => ?_)
                          · replace b28 := condT hc b28
                            conv => whnf
                            replace b28 := bindS b28
                            obtain ⟨v59, hv59, b28⟩ := b28
                            have i60 := gixF (f := InfoT.cells) hv59
                            repeat' first | with_reducible rfl | with_reducible exact True.intro | with_reducible assumption | refine parkI ?_ | (refine ⟨_, i60, ?_⟩; conv => whnf) | (refine And.intro ?_ ?_ <;> conv => whnf) | fail
                            refine parkE (fun hc => ?_) (fun hc => ?_)
                            · replace b28 := condT hc b28
                              conv => whnf
                              have e := Option.some.inj b28
                              replace e := hret28 _ e.symm
                              rw [e] at r28
                              replace e := Option.some.inj r28
                              subst e
                              repeat' first | with_reducible rfl | with_reducible exact True.intro | with_reducible assumption | exact clA _ | (refine And.intro ?_ ?_ <;> conv => whnf) | exact clG _ | (refine gand ?_ h; assumption) | exact clN _ | fail
                            · replace b28 := condF hc b28
                              conv => whnf
                              repeat' first | with_reducible rfl | with_reducible exact True.intro | with_reducible assumption | refine parkI ?_ | (refine And.intro ?_ ?_ <;> conv => whnf) | fail
                              have e := Option.some.inj b28
                              refine LoopW.norm [(0, (I (((IntKind.i64.wrap (((a0).tmod 6) + 6))).tmod 6))), (14, (LV.ptr 3 0 0)), (40, (I (IntKind.i64.wrap (s28 + 1)))), (316, (LV.ro 1 (s27.Self.Ups.map bC))), (317, (I (((s27.Self.Ups.map bC).length : Nat) : Int))), (318, (I ((k28 + 1 : Nat) : Int)))] 4 [(3, (.row 85 7 [[(I s27.Self.ID), (LV.ro 1 (s27.Self.Costs.map iC)), (LV.ro 1 (s27.Self.Ups.map bC)), (LV.ro 6 (s27.Self.Infos.map InfoT.cells)), (LV.ro 2 (s27.States.map PortStateT.cells)), (I s27.Max), (I s27.Delay)]]))] ⟨rfl, rfl, rfl, rfl, rfl, (congrArg (LV.int .i64) (w64_nat _ (by omega))), trivial⟩ ⟨⟨rfl, rfl, blT⟩, trivial⟩ blT rfl (K28 _ e.symm)
                          · replace b28 := condF hc b28
                            conv => whnf
                            replace b28 := bindS b28
                            obtain ⟨v61, hv61, b28⟩ := b28
                            have i62 := gixF (f := InfoT.cells) hv61
                            repeat' first | with_reducible rfl | with_reducible exact True.intro | with_reducible assumption | refine parkI ?_ | (refine ⟨_, i62, ?_⟩; conv => whnf) | (refine And.intro ?_ ?_ <;> conv => whnf) | fail
                            refine parkE (fun hc => ?_) (fun hc => ?_)
                            · replace b28 := condT hc b28
                              conv => whnf
                              have e := Option.some.inj b28
                              replace e := hret28 _ e.symm
                              rw [e] at r28
                              replace e := Option.some.inj r28
                              subst e
                              repeat' first | with_reducible rfl | with_reducible exact True.intro | with_reducible assumption | exact clA _ | (refine And.intro ?_ ?_ <;> conv => whnf) | exact clG _ | (refine gand ?_ h; assumption) | exact clN _ | fail
                            · replace b28 := condF hc b28
                              conv => whnf
                              repeat' first | with_reducible rfl | with_reducible exact True.intro | with_reducible assumption | refine parkI ?_ | (refine And.intro ?_ ?_ <;> conv => whnf) | fail
                              have e := Option.some.inj b28
                              refine LoopW.norm [(0, (I (((IntKind.i64.wrap (((a0).tmod 6) + 6))).tmod 6))), (14, (LV.ptr 3 0 0)), (40, (I s28)), (316, (LV.ro 1 (s27.Self.Ups.map bC))), (317, (I (((s27.Self.Ups.map bC).length : Nat) : Int))), (318, (I ((k28 + 1 : Nat) : Int)))] 4 [(3, (.row 85 7 [[(I s27.Self.ID), (LV.ro 1 (s27.Self.Costs.map iC)), (LV.ro 1 (s27.Self.Ups.map bC)), (LV.ro 6 (s27.Self.Infos.map InfoT.cells)), (LV.ro 2 (s27.States.map PortStateT.cells)), (I s27.Max), (I s27.Delay)]]))] ⟨rfl, rfl, rfl, rfl, rfl, (congrArg (LV.int .i64) (w64_nat _ (by omega))), trivial⟩ ⟨⟨rfl, rfl, blT⟩, trivial⟩ blT rfl (K28 _ e.symm)
                        · exact (Bool.false_ne_true (hc.symm.trans hd)).elim
                · unfold law12_StpAges_b27 at b27
                  have hd : decide (((k27 : Nat) : Int) < (IntKind.i64.wrap (2 * (IntKind.i64.wrap (1 + (((IntKind.i64.wrap (((a3).tmod 4) + 4))).tmod 4)))))) = true := by rw [decide_eq_true_eq]; (try simp only [se_len, se_ch, List.length_map] at hk27); (try simp only [se_len, se_ch, List.length_map]); omega
                  refine LoopW.round TT_ok [0, 1, 2, 3, 4, 10, 11, 13, 14, 15, 16, 18, 19, 20, 21, 22, 23, 24, 25, 26, 27, 28, 30, 31, 33, 34, 36, 37, 39, 40, 41, 42, 44, 45, 46, 47, 48, 49, 50, 69, 70, 71, 72, 96, 103, 104, 105, 106, 121, 157, 159, 172, 174, 208, 210, 219, 220, 221, 222, 266, 271, 273, 274, 275, 283, 287, 288, 289, 297, 313, 316, 317, 318, 319, 323, 333] ?_
                  conv => whnf
                  repeat' first | with_reducible rfl | with_reducible exact True.intro | with_reducible assumption | refine parkI ?_ | (refine And.intro ?_ ?_ <;> conv => whnf) | fail
                  refine parkE (fun hc => ?_) (fun hc => ?_)
                  · clear hd
                    conv => whnf
                    replace b27 := bindS b27
                    obtain ⟨y57, hy57, b27⟩ := b27
                    have c58 := c_stp_Tick s27 _ hy57
                    repeat' first | with_reducible rfl | with_reducible exact True.intro | with_reducible assumption | refine parkI ?_ | (refine CallP.use c58 ?_; conv => whnf) | (refine And.intro ?_ ?_ <;> conv => whnf) | fail
                    refine parkE (fun hc => ?_) (fun hc => ?_)
                    · replace b27 := condT hc b27
                      conv => whnf
                      have e := Option.some.inj b27
                      replace e := hret27 _ e.symm
                      rw [e] at r27
                      replace e := Option.some.inj r27
                      subst e
                      repeat' first | with_reducible rfl | with_reducible exact True.intro | with_reducible assumption | exact clA _ | (refine And.intro ?_ ?_ <;> conv => whnf) | exact clG _ | (refine gand ?_ h; assumption) | exact clN _ | fail
                    · replace b27 := condF hc b27
                      conv => whnf
                      repeat' first | with_reducible rfl | with_reducible exact True.intro | with_reducible assumption | refine parkI ?_ | (refine And.intro ?_ ?_ <;> conv => whnf) | fail
                      have e := Option.some.inj b27
                      refine LoopW.norm [(0, (I (((IntKind.i64.wrap (((a0).tmod 6) + 6))).tmod 6))), (14, (LV.ptr 3 0 0)), (16, (I ((((s16.map iC) ++ [[(I 1)]]).length : Nat) : Int))), (287, (I (IntKind.i64.wrap (2 * (IntKind.i64.wrap (1 + (((IntKind.i64.wrap (((a3).tmod 4) + 4))).tmod 4))))))), (288, (I ((k27 + 1 : Nat) : Int)))] 4 [(3, (.row 85 7 [[(I y57.1.Self.ID), (LV.ro 1 (y57.1.Self.Costs.map iC)), (LV.ro 1 (y57.1.Self.Ups.map bC)), (LV.ro 6 (y57.1.Self.Infos.map InfoT.cells)), (LV.ro 2 (y57.1.States.map PortStateT.cells)), (I y57.1.Max), (I y57.1.Delay)]]))] ⟨rfl, rfl, rfl, rfl, (congrArg (LV.int .i64) (w64_nat _ (by omega))), trivial⟩ ⟨⟨rfl, rfl, blT⟩, trivial⟩ blT rfl (K27 _ e.symm)
                  · exact (Bool.false_ne_true (hc.symm.trans hd)).elim
            · unfold law12_StpAges_b26 at b26
              have hd : decide (((k26 : Nat) : Int) < (IntKind.i64.wrap (1 + (((IntKind.i64.wrap (((a2).tmod 20) + 20))).tmod 20)))) = true := by rw [decide_eq_true_eq]; (try simp only [se_len, se_ch, List.length_map] at hk26); (try simp only [se_len, se_ch, List.length_map]); omega
              refine LoopW.round TT_ok [0, 1, 2, 3, 4, 10, 11, 13, 14, 15, 16, 18, 19, 20, 21, 22, 23, 24, 25, 26, 27, 28, 30, 31, 33, 34, 36, 37, 39, 40, 41, 42, 44, 45, 46, 47, 48, 49, 50, 69, 70, 71, 72, 96, 103, 104, 105, 106, 121, 157, 159, 172, 174, 208, 210, 219, 220, 221, 222, 266, 271, 273, 274, 275, 283, 287, 288, 289, 297, 313, 316, 317, 318, 319, 323, 333] ?_
              conv => whnf
              repeat' first | with_reducible rfl | with_reducible exact True.intro | with_reducible assumption | refine parkI ?_ | (refine And.intro ?_ ?_ <;> conv => whnf) | fail
              refine parkE (fun hc => ?_) (fun hc => ?_)
              · clear hd
                conv => whnf
                replace b26 := bindS b26
                obtain ⟨y55, hy55, b26⟩ := b26
                have c56 := c_stp_Tick s26 _ hy55
                repeat' first | with_reducible rfl | with_reducible exact True.intro | with_reducible assumption | refine parkI ?_ | (refine CallP.use c56 ?_; conv => whnf) | (refine And.intro ?_ ?_ <;> conv => whnf) | fail
                refine parkE (fun hc => ?_) (fun hc => ?_)
                · replace b26 := condT hc b26
                  conv => whnf
                  have e := Option.some.inj b26
                  replace e := hret26 _ e.symm
                  rw [e] at r26
                  replace e := Option.some.inj r26
                  subst e
                  repeat' first | with_reducible rfl | with_reducible exact True.intro | with_reducible assumption | exact clA _ | (refine And.intro ?_ ?_ <;> conv => whnf) | exact clG _ | (refine gand ?_ h; assumption) | exact clN _ | fail
                · replace b26 := condF hc b26
                  conv => whnf
                  repeat' first | with_reducible rfl | with_reducible exact True.intro | with_reducible assumption | refine parkI ?_ | (refine And.intro ?_ ?_ <;> conv => whnf) | fail
                  have e := Option.some.inj b26
                  refine LoopW.norm [(0, (I (((IntKind.i64.wrap (((a0).tmod 6) + 6))).tmod 6))), (3, (I (IntKind.i64.wrap (1 + (((IntKind.i64.wrap (((a3).tmod 4) + 4))).tmod 4))))), (14, (LV.ptr 3 0 0)), (16, (I ((((s16.map iC) ++ [[(I 1)]]).length : Nat) : Int))), (273, (I (IntKind.i64.wrap (1 + (((IntKind.i64.wrap (((a2).tmod 20) + 20))).tmod 20))))), (274, (I ((k26 + 1 : Nat) : Int)))] 4 [(3, (.row 85 7 [[(I y55.1.Self.ID), (LV.ro 1 (y55.1.Self.Costs.map iC)), (LV.ro 1 (y55.1.Self.Ups.map bC)), (LV.ro 6 (y55.1.Self.Infos.map InfoT.cells)), (LV.ro 2 (y55.1.States.map PortStateT.cells)), (I y55.1.Max), (I y55.1.Delay)]]))] ⟨rfl, rfl, rfl, rfl, rfl, (congrArg (LV.int .i64) (w64_nat _ (by omega))), trivial⟩ ⟨⟨rfl, rfl, blT⟩, trivial⟩ blT rfl (K26 _ e.symm)
              · exact (Bool.false_ne_true (hc.symm.trans hd)).elim
        · unfold law12_StpAges_b17 at b17
          have fx17 : (0 : Int) ≤ ((k17 : Nat) : Int) ∧ (((a4.map A4_Int.cells).take ((mn (((a4.map A4_Int.cells).length : Nat) : Int) 60) : Int).toNat))[((k17 : Nat) : Int).toNat]? = some (A4_Int.cells x17) := by (have h0 := kixF (f := A4_Int.cells) hx17); simpa only [se_map, se_len, se_byL, List.length_map] using h0
          have hd : decide (((k17 : Nat) : Int) < ((((a4.map A4_Int.cells).take ((mn (((a4.map A4_Int.cells).length : Nat) : Int) 60) : Int).toNat).length : Nat) : Int)) = true := by rw [decide_eq_true_eq]; (try simp only [se_len, se_ch, List.length_map] at hk17); (try simp only [se_len, se_ch, List.length_map]); omega
          refine LoopW.round TT_ok [0, 1, 2, 3, 4, 10, 11, 13, 14, 15, 16, 18, 19, 20, 21, 22, 23, 24, 25, 26, 27, 28, 30, 31, 33, 34, 36, 37, 39, 40, 41, 42, 44, 45, 46, 47, 48, 49, 50, 69, 70, 71, 72, 96, 103, 104, 105, 106, 121, 157, 159, 172, 174, 208, 210, 219, 220, 221, 222, 266, 271, 273, 274, 275, 283, 287, 288, 289, 297, 313, 316, 317, 318, 319, 323, 333] ?_
          conv => whnf
          repeat' first | with_reducible rfl | with_reducible exact True.intro | with_reducible assumption | refine parkI ?_ | (refine And.intro ?_ ?_ <;> conv => whnf) | fail
          refine parkE (fun hc => ?_) (fun hc => ?_)
          · clear hd
            conv => whnf
            replace b17 := grdS b17
            obtain ⟨g7, b17⟩ := b17
            replace g7 : (((((s16.map iC) ++ [[(I 1)]]).length : Nat) : Int) : Int) ≠ 0 := by simpa only [se_len, se_ch, List.length_map] using g7
            replace b17 := grdS b17
            obtain ⟨g8, b17⟩ := b17
            replace g8 : (((((s16.map iC) ++ [[(I 1)]]).length : Nat) : Int) : Int) ≠ 0 := by simpa only [se_len, se_ch, List.length_map] using g8
            repeat' first | with_reducible rfl | with_reducible exact True.intro | with_reducible assumption | refine parkI ?_ | (refine ⟨_, fx17, ?_⟩; conv => whnf) | exact g7 | exact g8 | exact (⟨by decide, by decide⟩ : (0 : Int) ≤ 1 ∧ (1 : Int) < 4) | exact (⟨by decide, by decide⟩ : (0 : Int) ≤ 0 ∧ (0 : Int) < 4) | exact (by decide : ((8 : Int) ≠ 0)) | exact (by decide : ((8 : Int) ≠ 0)) | (refine And.intro ?_ ?_ <;> conv => whnf) | fail
            refine parkE (fun hc => ?_) (fun hc => ?_)
            · replace b17 := condT hc b17
              conv => whnf
              replace b17 := bindS b17
              obtain ⟨y9, hy9, b17⟩ := b17
              have c10 : CallP Try.prog 64 [(LV.agg [(I s17.Self.ID), (LV.ro 1 (s17.Self.Costs.map iC)), (LV.ro 1 (s17.Self.Ups.map bC)), (LV.ro 6 (s17.Self.Infos.map InfoT.cells)), (LV.ro 2 (s17.States.map PortStateT.cells)), (I s17.Max), (I s17.Delay)]), (I (((IntKind.i64.wrap (((x17.c1).tmod ((((s16.map iC) ++ [[(I 1)]]).length : Nat) : Int)) + ((((s16.map iC) ++ [[(I 1)]]).length : Nat) : Int)))).tmod ((((s16.map iC) ++ [[(I 1)]]).length : Nat) : Int))), (LV.bool (decide (((x17.c2).tmod 2) = 0)))] (LV.tup [(LV.agg [(I y9.1.Self.ID), (LV.ro 1 (y9.1.Self.Costs.map iC)), (LV.ro 1 (y9.1.Self.Ups.map bC)), (LV.ro 6 (y9.1.Self.Infos.map InfoT.cells)), (LV.ro 2 (y9.1.States.map PortStateT.cells)), (I y9.1.Max), (I y9.1.Delay)]), (I y9.2)]) := by first | exact c_stp_Link s17 (((IntKind.i64.wrap (((x17.c1).tmod (((s16 ++ ([1] : (List Int))).length : Nat) : Int)) + (((s16 ++ ([1] : (List Int))).length : Nat) : Int)))).tmod (((s16 ++ ([1] : (List Int))).length : Nat) : Int)) (decide (((x17.c2).tmod 2) = 0)) _ hy9 | (simpa only [se_map, se_byL, se_len, se_ch, List.length_map] using c_stp_Link s17 (((IntKind.i64.wrap (((x17.c1).tmod (((s16 ++ ([1] : (List Int))).length : Nat) : Int)) + (((s16 ++ ([1] : (List Int))).length : Nat) : Int)))).tmod (((s16 ++ ([1] : (List Int))).length : Nat) : Int)) (decide (((x17.c2).tmod 2) = 0)) _ hy9)
              repeat' first | with_reducible rfl | with_reducible exact True.intro | with_reducible assumption | refine parkI ?_ | (refine CallP.use c10 ?_; conv => whnf) | exact (⟨by decide, by decide⟩ : (0 : Int) ≤ 2 ∧ (2 : Int) < 4) | exact (by decide : ((2 : Int) ≠ 0)) | (refine And.intro ?_ ?_ <;> conv => whnf) | fail
              refine parkE (fun hc => ?_) (fun hc => ?_)
              · replace b17 := condT hc b17
                conv => whnf
                have e := Option.some.inj b17
                replace e := hret17 _ e.symm
                rw [e] at r17
                replace e := Option.some.inj r17
                subst e
                repeat' first | with_reducible rfl | with_reducible exact True.intro | with_reducible assumption | exact clA _ | (refine And.intro ?_ ?_ <;> conv => whnf) | exact clG _ | (refine gand ?_ h; assumption) | exact clN _ | fail
              · replace b17 := condF hc b17
                conv => whnf
                replace b17 := bindS b17
                obtain ⟨y11, hy11, b17⟩ := b17
                have c12 := c_stp_Right y9.1 _ hy11
                repeat' first | with_reducible rfl | with_reducible exact True.intro | with_reducible assumption | refine parkI ?_ | (refine CallP.use c12 ?_; conv => whnf) | (refine And.intro ?_ ?_ <;> conv => whnf) | fail
                refine parkE (fun hc => ?_) (fun hc => ?_)
                · replace b17 := condT hc b17
                  conv => whnf
                  have e := Option.some.inj b17
                  replace e := hret17 _ e.symm
                  rw [e] at r17
                  replace e := Option.some.inj r17
                  subst e
                  repeat' first | with_reducible rfl | with_reducible exact True.intro | with_reducible assumption | exact clA _ | (refine And.intro ?_ ?_ <;> conv => whnf) | exact clG _ | (refine gand ?_ h; assumption) | exact clN _ | fail
                · replace b17 := condF hc b17
                  conv => whnf
                  repeat' first | with_reducible rfl | with_reducible exact True.intro | with_reducible assumption | refine parkI ?_ | (refine And.intro ?_ ?_ <;> conv => whnf) | fail
                  have e := Option.some.inj b17
                  refine LoopW.norm [(0, (I (((IntKind.i64.wrap (((a0).tmod 6) + 6))).tmod 6))), (2, (I (IntKind.i64.wrap (1 + (((IntKind.i64.wrap (((a2).tmod 20) + 20))).tmod 20))))), (3, (I (IntKind.i64.wrap (1 + (((IntKind.i64.wrap (((a3).tmod 4) + 4))).tmod 4))))), (14, (LV.ptr 3 0 0)), (16, (I ((((s16.map iC) ++ [[(I 1)]]).length : Nat) : Int))), (103, (LV.ro 4 ((a4.map A4_Int.cells).take ((mn (((a4.map A4_Int.cells).length : Nat) : Int) 60) : Int).toNat))), (104, (I ((((a4.map A4_Int.cells).take ((mn (((a4.map A4_Int.cells).length : Nat) : Int) 60) : Int).toNat).length : Nat) : Int))), (105, (I ((k17 + 1 : Nat) : Int)))] 4 [(3, (.row 85 7 [[(I y9.1.Self.ID), (LV.ro 1 (y9.1.Self.Costs.map iC)), (LV.ro 1 (y9.1.Self.Ups.map bC)), (LV.ro 6 (y9.1.Self.Infos.map InfoT.cells)), (LV.ro 2 (y9.1.States.map PortStateT.cells)), (I y9.1.Max), (I y9.1.Delay)]]))] ⟨rfl, rfl, rfl, rfl, rfl, rfl, rfl, (congrArg (LV.int .i64) (w64_nat _ (by omega))), trivial⟩ ⟨⟨rfl, rfl, blT⟩, trivial⟩ blT rfl (K17 _ e.symm)
            · replace b17 := condF hc b17
              conv => whnf
              repeat' first | with_reducible rfl | with_reducible exact True.intro | with_reducible assumption | refine parkI ?_ | (refine And.intro ?_ ?_ <;> conv => whnf) | fail
              refine parkE (fun hc => ?_) (fun hc => ?_)
              · replace b17 := condT hc b17
                conv => whnf
                repeat' first | with_reducible rfl | with_reducible exact True.intro | with_reducible assumption | refine parkI ?_ | (refine And.intro ?_ ?_ <;> conv => whnf) | fail
                refine parkE (fun hc => ?_) (fun hc => ?_)
                · replace b17 := condT hc b17
                  conv => whnf
                  replace b17 := bindS b17
                  obtain ⟨y13, hy13, b17⟩ := b17
                  have c14 := c_stp_Tick s17 _ hy13
                  replace b17 := bindS b17
                  obtain ⟨y15, hy15, b17⟩ := b17
                  have c16 := c_role_Root y13.1.Self _ hy15
                  repeat' first | with_reducible rfl | with_reducible exact True.intro | with_reducible assumption | refine parkI ?_ | (refine CallP.use c14 ?_; conv => whnf) | (refine CallP.use c16 ?_; conv => whnf) | exact clA _ | (refine And.intro ?_ ?_ <;> conv => whnf) | exact clG _ | (refine gand ?_ h; assumption) | fail
                  refine parkE (fun hc => ?_) (fun hc => ?_)
                  · replace b17 := condT (by first | exact hc | simpa only [se_len, se_ch, List.length_map] using hc) b17
                    conv => whnf
                    have e := Option.some.inj b17
                    replace e := hret17 _ e.symm
                    rw [e] at r17
                    replace e := Option.some.inj r17
                    subst e
                    repeat' first | with_reducible rfl | with_reducible exact True.intro | with_reducible assumption | exact clA _ | (refine And.intro ?_ ?_ <;> conv => whnf) | exact clG _ | (refine gand ?_ h; assumption) | exact clN _ | fail
                  · replace b17 := condF (by first | exact hc | simpa only [se_len, se_ch, List.length_map] using hc) b17
                    conv => whnf
                    repeat' first | with_reducible rfl | with_reducible exact True.intro | with_reducible assumption | refine parkI ?_ | (refine And.intro ?_ ?_ <;> conv => whnf) | fail
                    refine parkE (fun hc => ?_) (fun hc => ?_)
                    · replace b17 := condT hc b17
                      conv => whnf
                      replace b17 := bindS b17
                      obtain ⟨v17, hv17, b17⟩ := b17
                      have i18 := gixF (f := InfoT.cells) hv17
                      repeat' first | with_reducible rfl | with_reducible exact True.intro | with_reducible assumption | refine parkI ?_ | (refine ⟨_, i18, ?_⟩; conv => whnf) | (refine And.intro ?_ ?_ <;> conv => whnf) | fail
                      replace b17 := aftS b17
                      obtain ⟨O18, hO18, r18⟩ := b17
                      refine LoopW.norm [(0, (I (((IntKind.i64.wrap (((a0).tmod 6) + 6))).tmod 6))), (2, (I (IntKind.i64.wrap (1 + (((IntKind.i64.wrap (((a2).tmod 20) + 20))).tmod 20))))), (3, (I (IntKind.i64.wrap (1 + (((IntKind.i64.wrap (((a3).tmod 4) + 4))).tmod 4))))), (14, (LV.ptr 3 0 0)), (16, (I ((((s16.map iC) ++ [[(I 1)]]).length : Nat) : Int))), (22, (LV.ptr 5 0 0)), (25, (LV.ptr 6 0 0)), (26, (I y15.2.1)), (28, (I (IntKind.i64.wrap (v17.Age + 1)))), (103, (LV.ro 4 ((a4.map A4_Int.cells).take ((mn (((a4.map A4_Int.cells).length : Nat) : Int) 60) : Int).toNat))), (104, (I ((((a4.map A4_Int.cells).take ((mn (((a4.map A4_Int.cells).length : Nat) : Int) 60) : Int).toNat).length : Nat) : Int))), (105, (I ((k17 : Nat) : Int))), (219, (LV.ro 6 (y13.2.1.map SendT.cells))), (220, (I (((y13.2.1.map SendT.cells).length : Nat) : Int))), (221, (I ((0 : Nat) : Int)))] 7 [(3, (.row 85 7 [[(I s17.Self.ID), (LV.ro 1 (s17.Self.Costs.map iC)), (LV.ro 1 (s17.Self.Ups.map bC)), (LV.ro 6 (s17.Self.Infos.map InfoT.cells)), (LV.ro 2 (s17.States.map PortStateT.cells)), (I s17.Max), (I s17.Delay)]])), (5, (.row 85 7 [[(I y13.1.Self.ID), (LV.ro 1 (y13.1.Self.Costs.map iC)), (LV.ro 1 (y13.1.Self.Ups.map bC)), (LV.ro 6 (y13.1.Self.Infos.map InfoT.cells)), (LV.ro 2 (y13.1.States.map PortStateT.cells)), (I y13.1.Max), (I y13.1.Delay)]])), (6, (.row 87 4 [[(I y15.1.Root), (I y15.1.Cost), (I y15.1.Bridge), (I y15.1.Port)]]))] ⟨rfl, rfl, rfl, rfl, rfl, rfl, rfl, rfl, rfl, rfl, rfl, rfl, rfl, rfl, rfl, trivial⟩ ⟨⟨rfl, rfl, blT⟩, ⟨⟨rfl, rfl, blT⟩, ⟨⟨rfl, rfl, blT⟩, trivial⟩⟩⟩ blT rfl ?_
                      refine LoopW.forR (fun k18 s18 => [(0, (I (((IntKind.i64.wrap (((a0).tmod 6) + 6))).tmod 6))), (2, (I (IntKind.i64.wrap (1 + (((IntKind.i64.wrap (((a2).tmod 20) + 20))).tmod 20))))), (3, (I (IntKind.i64.wrap (1 + (((IntKind.i64.wrap (((a3).tmod 4) + 4))).tmod 4))))), (14, (LV.ptr 3 0 0)), (16, (I ((((s16.map iC) ++ [[(I 1)]]).length : Nat) : Int))), (22, (LV.ptr 5 0 0)), (25, (LV.ptr 6 0 0)), (26, (I y15.2.1)), (28, (I (IntKind.i64.wrap (v17.Age + 1)))), (103, (LV.ro 4 ((a4.map A4_Int.cells).take ((mn (((a4.map A4_Int.cells).length : Nat) : Int) 60) : Int).toNat))), (104, (I ((((a4.map A4_Int.cells).take ((mn (((a4.map A4_Int.cells).length : Nat) : Int) 60) : Int).toNat).length : Nat) : Int))), (105, (I ((k17 : Nat) : Int))), (219, (LV.ro 6 (y13.2.1.map SendT.cells))), (220, (I (((y13.2.1.map SendT.cells).length : Nat) : Int))), (221, (I ((k18 : Nat) : Int)))]) (fun s18 => ⟨7, [(3, (.row 85 7 [[(I s17.Self.ID), (LV.ro 1 (s17.Self.Costs.map iC)), (LV.ro 1 (s17.Self.Ups.map bC)), (LV.ro 6 (s17.Self.Infos.map InfoT.cells)), (LV.ro 2 (s17.States.map PortStateT.cells)), (I s17.Max), (I s17.Delay)]])), (5, (.row 85 7 [[(I y13.1.Self.ID), (LV.ro 1 (y13.1.Self.Costs.map iC)), (LV.ro 1 (y13.1.Self.Ups.map bC)), (LV.ro 6 (y13.1.Self.Infos.map InfoT.cells)), (LV.ro 2 (y13.1.States.map PortStateT.cells)), (I y13.1.Max), (I y13.1.Delay)]])), (6, (.row 87 4 [[(I y15.1.Root), (I y15.1.Cost), (I y15.1.Bridge), (I y15.1.Port)]]))]⟩) hO18 (fun hl18 s18 hs18 => ?_) (fun hl18 k18 x18 s18 o18 hk18 hx18 b18 K18 hret18 hbrk18 => ?_)
                      · rw [hs18] at r18
                        dsimp only [aftM] at r18
                        have hd : decide (((y13.2.1.length : Nat) : Int) < (((y13.2.1.map SendT.cells).length : Nat) : Int)) = false := by rw [decide_eq_false_iff_not]; (try simp only [se_len, se_ch, List.length_map]); omega
                        refine LoopW.round TT_ok [0, 1, 2, 3, 4, 10, 11, 13, 14, 15, 16, 18, 19, 20, 21, 22, 23, 24, 25, 26, 27, 28, 30, 31, 33, 34, 36, 37, 39, 40, 41, 42, 44, 45, 46, 47, 48, 49, 50, 69, 70, 71, 72, 96, 103, 104, 105, 106, 121, 157, 159, 172, 174, 208, 210, 219, 220, 221, 222, 266, 271, 273, 274, 275, 283, 287, 288, 289, 297, 313, 316, 317, 318, 319, 323, 333] ?_
                        conv => whnf
                        repeat' first | with_reducible rfl | with_reducible exact True.intro | with_reducible assumption | refine parkI ?_ | (refine And.intro ?_ ?_ <;> conv => whnf) | fail
                        refine parkE (fun hc => ?_) (fun hc => ?_)
                        · exact (Bool.false_ne_true (hd.symm.trans hc)).elim
                        · clear hd
                          conv => whnf
                          replace r18 := bindS r18
                          obtain ⟨y19, hy19, r18⟩ := r18
                          have c20 := c_stp_Right y13.1 _ hy19
                          repeat' first | with_reducible rfl | with_reducible exact True.intro | with_reducible assumption | refine parkI ?_ | (refine CallP.use c20 ?_; conv => whnf) | (refine And.intro ?_ ?_ <;> conv => whnf) | fail
                          refine parkE (fun hc => ?_) (fun hc => ?_)
                          · replace r18 := condT hc r18
                            conv => whnf
                            have e := Option.some.inj r18
                            replace e := hret17 _ e.symm
                            rw [e] at r17
                            replace e := Option.some.inj r17
                            subst e
                            repeat' first | with_reducible rfl | with_reducible exact True.intro | with_reducible assumption | exact clA _ | (refine And.intro ?_ ?_ <;> conv => whnf) | exact clG _ | (refine gand ?_ h; assumption) | exact clN _ | fail
                          · replace r18 := condF hc r18
                            conv => whnf
                            repeat' first | with_reducible rfl | with_reducible exact True.intro | with_reducible assumption | refine parkI ?_ | (refine And.intro ?_ ?_ <;> conv => whnf) | fail
                            have e := Option.some.inj r18
                            refine LoopW.norm [(0, (I (((IntKind.i64.wrap (((a0).tmod 6) + 6))).tmod 6))), (2, (I (IntKind.i64.wrap (1 + (((IntKind.i64.wrap (((a2).tmod 20) + 20))).tmod 20))))), (3, (I (IntKind.i64.wrap (1 + (((IntKind.i64.wrap (((a3).tmod 4) + 4))).tmod 4))))), (14, (LV.ptr 3 0 0)), (16, (I ((((s16.map iC) ++ [[(I 1)]]).length : Nat) : Int))), (103, (LV.ro 4 ((a4.map A4_Int.cells).take ((mn (((a4.map A4_Int.cells).length : Nat) : Int) 60) : Int).toNat))), (104, (I ((((a4.map A4_Int.cells).take ((mn (((a4.map A4_Int.cells).length : Nat) : Int) 60) : Int).toNat).length : Nat) : Int))), (105, (I ((k17 + 1 : Nat) : Int)))] 4 [(3, (.row 85 7 [[(I y13.1.Self.ID), (LV.ro 1 (y13.1.Self.Costs.map iC)), (LV.ro 1 (y13.1.Self.Ups.map bC)), (LV.ro 6 (y13.1.Self.Infos.map InfoT.cells)), (LV.ro 2 (y13.1.States.map PortStateT.cells)), (I y13.1.Max), (I y13.1.Delay)]]))] ⟨rfl, rfl, rfl, rfl, rfl, rfl, rfl, (congrArg (LV.int .i64) (w64_nat _ (by omega))), trivial⟩ ⟨⟨rfl, rfl, blT⟩, trivial⟩ blT rfl (K17 _ e.symm)
                      · unfold law12_StpAges_b18 at b18
                        have hd : decide (((k18 : Nat) : Int) < (((y13.2.1.map SendT.cells).length : Nat) : Int)) = true := by rw [decide_eq_true_eq]; (try simp only [se_len, se_ch, List.length_map] at hk18); (try simp only [se_len, se_ch, List.length_map]); omega
                        refine LoopW.round TT_ok [0, 1, 2, 3, 4, 10, 11, 13, 14, 15, 16, 18, 19, 20, 21, 22, 23, 24, 25, 26, 27, 28, 30, 31, 33, 34, 36, 37, 39, 40, 41, 42, 44, 45, 46, 47, 48, 49, 50, 69, 70, 71, 72, 96, 103, 104, 105, 106, 121, 157, 159, 172, 174, 208, 210, 219, 220, 221, 222, 266, 271, 273, 274, 275, 283, 287, 288, 289, 297, 313, 316, 317, 318, 319, 323, 333] ?_
                        conv => whnf
                        repeat' first | with_reducible rfl | with_reducible exact True.intro | with_reducible assumption | refine parkI ?_ | (refine And.intro ?_ ?_ <;> conv => whnf) | fail
                        refine parkE (fun hc => ?_) (fun hc => ?_)
                        · clear hd
                          conv => whnf
                          repeat' first | with_reducible rfl | with_reducible exact True.intro | with_reducible assumption | refine parkI ?_ | (refine ⟨_, (kixF (f := SendT.cells) hx18), ?_⟩; conv => whnf) | exact clA _ | (refine And.intro ?_ ?_ <;> conv => whnf) | exact clG _ | (refine gand ?_ h; assumption) | fail
                          refine parkE (fun hc => ?_) (fun hc => ?_)
                          · replace b18 := condT hc b18
                            conv => whnf
                            have e := Option.some.inj b18
                            replace e := hret18 _ e.symm
                            rw [e] at r18
                            replace e := Option.some.inj r18
                            replace e := hret17 _ e.symm
                            rw [e] at r17
                            replace e := Option.some.inj r17
                            subst e
                            repeat' first | with_reducible rfl | with_reducible exact True.intro | with_reducible assumption | exact clA _ | (refine And.intro ?_ ?_ <;> conv => whnf) | exact clG _ | (refine gand ?_ h; assumption) | exact clN _ | fail
                          · replace b18 := condF hc b18
                            conv => whnf
                            repeat' first | with_reducible rfl | with_reducible exact True.intro | with_reducible assumption | refine parkI ?_ | (refine And.intro ?_ ?_ <;> conv => whnf) | fail
                            have e := Option.some.inj b18
                            refine LoopW.norm [(0, (I (((IntKind.i64.wrap (((a0).tmod 6) + 6))).tmod 6))), (2, (I (IntKind.i64.wrap (1 + (((IntKind.i64.wrap (((a2).tmod 20) + 20))).tmod 20))))), (3, (I (IntKind.i64.wrap (1 + (((IntKind.i64.wrap (((a3).tmod 4) + 4))).tmod 4))))), (14, (LV.ptr 3 0 0)), (16, (I ((((s16.map iC) ++ [[(I 1)]]).length : Nat) : Int))), (22, (LV.ptr 5 0 0)), (25, (LV.ptr 6 0 0)), (26, (I y15.2.1)), (28, (I (IntKind.i64.wrap (v17.Age + 1)))), (103, (LV.ro 4 ((a4.map A4_Int.cells).take ((mn (((a4.map A4_Int.cells).length : Nat) : Int) 60) : Int).toNat))), (104, (I ((((a4.map A4_Int.cells).take ((mn (((a4.map A4_Int.cells).length : Nat) : Int) 60) : Int).toNat).length : Nat) : Int))), (105, (I ((k17 : Nat) : Int))), (219, (LV.ro 6 (y13.2.1.map SendT.cells))), (220, (I (((y13.2.1.map SendT.cells).length : Nat) : Int))), (221, (I ((k18 + 1 : Nat) : Int)))] 7 [(3, (.row 85 7 [[(I s17.Self.ID), (LV.ro 1 (s17.Self.Costs.map iC)), (LV.ro 1 (s17.Self.Ups.map bC)), (LV.ro 6 (s17.Self.Infos.map InfoT.cells)), (LV.ro 2 (s17.States.map PortStateT.cells)), (I s17.Max), (I s17.Delay)]])), (5, (.row 85 7 [[(I y13.1.Self.ID), (LV.ro 1 (y13.1.Self.Costs.map iC)), (LV.ro 1 (y13.1.Self.Ups.map bC)), (LV.ro 6 (y13.1.Self.Infos.map InfoT.cells)), (LV.ro 2 (y13.1.States.map PortStateT.cells)), (I y13.1.Max), (I y13.1.Delay)]])), (6, (.row 87 4 [[(I y15.1.Root), (I y15.1.Cost), (I y15.1.Bridge), (I y15.1.Port)]]))] ⟨rfl, rfl, rfl, rfl, rfl, rfl, rfl, rfl, rfl, rfl, rfl, rfl, rfl, rfl, (congrArg (LV.int .i64) (w64_nat _ (by omega))), trivial⟩ ⟨⟨rfl, rfl, blT⟩, ⟨⟨rfl, rfl, blT⟩, ⟨⟨rfl, rfl, blT⟩, trivial⟩⟩⟩ blT rfl (K18 _ e.symm)
                        · exact (Bool.false_ne_true (hc.symm.trans hd)).elim
                    · replace b17 := condF hc b17
                      conv => whnf
                      repeat' first | with_reducible rfl | with_reducible exact True.intro | with_reducible assumption | refine parkI ?_ | (refine And.intro ?_ ?_ <;> conv => whnf) | fail
                      replace b17 := aftS b17
                      obtain ⟨O19, hO19, r19⟩ := b17
                      refine LoopW.norm [(0, (I (((IntKind.i64.wrap (((a0).tmod 6) + 6))).tmod 6))), (2, (I (IntKind.i64.wrap (1 + (((IntKind.i64.wrap (((a2).tmod 20) + 20))).tmod 20))))), (3, (I (IntKind.i64.wrap (1 + (((IntKind.i64.wrap (((a3).tmod 4) + 4))).tmod 4))))), (14, (LV.ptr 3 0 0)), (16, (I ((((s16.map iC) ++ [[(I 1)]]).length : Nat) : Int))), (22, (LV.ptr 5 0 0)), (25, (LV.ptr 6 0 0)), (26, (I y15.2.1)), (28, (I 0)), (103, (LV.ro 4 ((a4.map A4_Int.cells).take ((mn (((a4.map A4_Int.cells).length : Nat) : Int) 60) : Int).toNat))), (104, (I ((((a4.map A4_Int.cells).take ((mn (((a4.map A4_Int.cells).length : Nat) : Int) 60) : Int).toNat).length : Nat) : Int))), (105, (I ((k17 : Nat) : Int))), (219, (LV.ro 6 (y13.2.1.map SendT.cells))), (220, (I (((y13.2.1.map SendT.cells).length : Nat) : Int))), (221, (I ((0 : Nat) : Int)))] 7 [(3, (.row 85 7 [[(I s17.Self.ID), (LV.ro 1 (s17.Self.Costs.map iC)), (LV.ro 1 (s17.Self.Ups.map bC)), (LV.ro 6 (s17.Self.Infos.map InfoT.cells)), (LV.ro 2 (s17.States.map PortStateT.cells)), (I s17.Max), (I s17.Delay)]])), (5, (.row 85 7 [[(I y13.1.Self.ID), (LV.ro 1 (y13.1.Self.Costs.map iC)), (LV.ro 1 (y13.1.Self.Ups.map bC)), (LV.ro 6 (y13.1.Self.Infos.map InfoT.cells)), (LV.ro 2 (y13.1.States.map PortStateT.cells)), (I y13.1.Max), (I y13.1.Delay)]])), (6, (.row 87 4 [[(I y15.1.Root), (I y15.1.Cost), (I y15.1.Bridge), (I y15.1.Port)]]))] ⟨rfl, rfl, rfl, rfl, rfl, rfl, rfl, rfl, rfl, rfl, rfl, rfl, rfl, rfl, rfl, trivial⟩ ⟨⟨rfl, rfl, blT⟩, ⟨⟨rfl, rfl, blT⟩, ⟨⟨rfl, rfl, blT⟩, trivial⟩⟩⟩ blT rfl ?_
                      refine LoopW.forR (fun k19 s19 => [(0, (I (((IntKind.i64.wrap (((a0).tmod 6) + 6))).tmod 6))), (2, (I (IntKind.i64.wrap (1 + (((IntKind.i64.wrap (((a2).tmod 20) + 20))).tmod 20))))), (3, (I (IntKind.i64.wrap (1 + (((IntKind.i64.wrap (((a3).tmod 4) + 4))).tmod 4))))), (14, (LV.ptr 3 0 0)), (16, (I ((((s16.map iC) ++ [[(I 1)]]).length : Nat) : Int))), (22, (LV.ptr 5 0 0)), (25, (LV.ptr 6 0 0)), (26, (I y15.2.1)), (28, (I 0)), (103, (LV.ro 4 ((a4.map A4_Int.cells).take ((mn (((a4.map A4_Int.cells).length : Nat) : Int) 60) : Int).toNat))), (104, (I ((((a4.map A4_Int.cells).take ((mn (((a4.map A4_Int.cells).length : Nat) : Int) 60) : Int).toNat).length : Nat) : Int))), (105, (I ((k17 : Nat) : Int))), (219, (LV.ro 6 (y13.2.1.map SendT.cells))), (220, (I (((y13.2.1.map SendT.cells).length : Nat) : Int))), (221, (I ((k19 : Nat) : Int)))]) (fun s19 => ⟨7, [(3, (.row 85 7 [[(I s17.Self.ID), (LV.ro 1 (s17.Self.Costs.map iC)), (LV.ro 1 (s17.Self.Ups.map bC)), (LV.ro 6 (s17.Self.Infos.map InfoT.cells)), (LV.ro 2 (s17.States.map PortStateT.cells)), (I s17.Max), (I s17.Delay)]])), (5, (.row 85 7 [[(I y13.1.Self.ID), (LV.ro 1 (y13.1.Self.Costs.map iC)), (LV.ro 1 (y13.1.Self.Ups.map bC)), (LV.ro 6 (y13.1.Self.Infos.map InfoT.cells)), (LV.ro 2 (y13.1.States.map PortStateT.cells)), (I y13.1.Max), (I y13.1.Delay)]])), (6, (.row 87 4 [[(I y15.1.Root), (I y15.1.Cost), (I y15.1.Bridge), (I y15.1.Port)]]))]⟩) hO19 (fun hl19 s19 hs19 => ?_) (fun hl19 k19 x19 s19 o19 hk19 hx19 b19 K19 hret19 hbrk19 => ?_)
                      · rw [hs19] at r19
                        dsimp only [aftM] at r19
                        have hd : decide (((y13.2.1.length : Nat) : Int) < (((y13.2.1.map SendT.cells).length : Nat) : Int)) = false := by rw [decide_eq_false_iff_not]; (try simp only [se_len, se_ch, List.length_map]); omega
                        refine LoopW.round TT_ok [0, 1, 2, 3, 4, 10, 11, 13, 14, 15, 16, 18, 19, 20, 21, 22, 23, 24, 25, 26, 27, 28, 30, 31, 33, 34, 36, 37, 39, 40, 41, 42, 44, 45, 46, 47, 48, 49, 50, 69, 70, 71, 72, 96, 103, 104, 105, 106, 121, 157, 159, 172, 174, 208, 210, 219, 220, 221, 222, 266, 271, 273, 274, 275, 283, 287, 288, 289, 297, 313, 316, 317, 318, 319, 323, 333] ?_
                        conv => whnf
                        repeat' first | with_reducible rfl | with_reducible exact True.intro | with_reducible assumption | refine parkI ?_ | (refine And.intro ?_ ?_ <;> conv => whnf) | fail
                        refine parkE (fun hc => ?_) (fun hc => ?_)
                        · exact (Bool.false_ne_true (hd.symm.trans hc)).elim
                        · clear hd
                          conv => whnf
                          replace r19 := bindS r19
                          obtain ⟨y21, hy21, r19⟩ := r19
                          have c22 := c_stp_Right y13.1 _ hy21
                          repeat' first | with_reducible rfl | with_reducible exact True.intro | with_reducible assumption | refine parkI ?_ | (refine CallP.use c22 ?_; conv => whnf) | (refine And.intro ?_ ?_ <;> conv => whnf) | fail
                          refine parkE (fun hc => ?_) (fun hc => ?_)
                          · replace r19 := condT hc r19
                            conv => whnf
                            have e := Option.some.inj r19
                            replace e := hret17 _ e.symm
                            rw [e] at r17
                            replace e := Option.some.inj r17
                            subst e
                            repeat' first | with_reducible rfl | with_reducible exact True.intro | with_reducible assumption | exact clA _ | (refine And.intro ?_ ?_ <;> conv => whnf) | exact clG _ | (refine gand ?_ h; assumption) | exact clN _ | fail
                          · replace r19 := condF hc r19
                            conv => whnf
                            repeat' first | with_reducible rfl | with_reducible exact True.intro | with_reducible assumption | refine parkI ?_ | (refine And.intro ?_ ?_ <;> conv => whnf) | fail
                            have e := Option.some.inj r19
                            refine LoopW.norm [(0, (I (((IntKind.i64.wrap (((a0).tmod 6) + 6))).tmod 6))), (2, (I (IntKind.i64.wrap (1 + (((IntKind.i64.wrap (((a2).tmod 20) + 20))).tmod 20))))), (3, (I (IntKind.i64.wrap (1 + (((IntKind.i64.wrap (((a3).tmod 4) + 4))).tmod 4))))), (14, (LV.ptr 3 0 0)), (16, (I ((((s16.map iC) ++ [[(I 1)]]).length : Nat) : Int))), (103, (LV.ro 4 ((a4.map A4_Int.cells).take ((mn (((a4.map A4_Int.cells).length : Nat) : Int) 60) : Int).toNat))), (104, (I ((((a4.map A4_Int.cells).take ((mn (((a4.map A4_Int.cells).length : Nat) : Int) 60) : Int).toNat).length : Nat) : Int))), (105, (I ((k17 + 1 : Nat) : Int)))] 4 [(3, (.row 85 7 [[(I y13.1.Self.ID), (LV.ro 1 (y13.1.Self.Costs.map iC)), (LV.ro 1 (y13.1.Self.Ups.map bC)), (LV.ro 6 (y13.1.Self.Infos.map InfoT.cells)), (LV.ro 2 (y13.1.States.map PortStateT.cells)), (I y13.1.Max), (I y13.1.Delay)]]))] ⟨rfl, rfl, rfl, rfl, rfl, rfl, rfl, (congrArg (LV.int .i64) (w64_nat _ (by omega))), trivial⟩ ⟨⟨rfl, rfl, blT⟩, trivial⟩ blT rfl (K17 _ e.symm)
                      · unfold law12_StpAges_b19 at b19
                        have hd : decide (((k19 : Nat) : Int) < (((y13.2.1.map SendT.cells).length : Nat) : Int)) = true := by rw [decide_eq_true_eq]; (try simp only [se_len, se_ch, List.length_map] at hk19); (try simp only [se_len, se_ch, List.length_map]); omega
                        refine LoopW.round TT_ok [0, 1, 2, 3, 4, 10, 11, 13, 14, 15, 16, 18, 19, 20, 21, 22, 23, 24, 25, 26, 27, 28, 30, 31, 33, 34, 36, 37, 39, 40, 41, 42, 44, 45, 46, 47, 48, 49, 50, 69, 70, 71, 72, 96, 103, 104, 105, 106, 121, 157, 159, 172, 174, 208, 210, 219, 220, 221, 222, 266, 271, 273, 274, 275, 283, 287, 288, 289, 297, 313, 316, 317, 318, 319, 323, 333] ?_
                        conv => whnf
                        repeat' first | with_reducible rfl | with_reducible exact True.intro | with_reducible assumption | refine parkI ?_ | (refine And.intro ?_ ?_ <;> conv => whnf) | fail
                        refine parkE (fun hc => ?_) (fun hc => ?_)
                        · clear hd
                          conv => whnf
                          repeat' first | with_reducible rfl | with_reducible exact True.intro | with_reducible assumption | refine parkI ?_ | (refine ⟨_, (kixF (f := SendT.cells) hx19), ?_⟩; conv => whnf) | exact clA _ | (refine And.intro ?_ ?_ <;> conv => whnf) | exact clG _ | (refine gand ?_ h; assumption) | fail
                          refine parkE (fun hc => ?_) (fun hc => ?_)
                          · replace b19 := condT hc b19
                            conv => whnf
                            have e := Option.some.inj b19
                            replace e := hret19 _ e.symm
                            rw [e] at r19
                            replace e := Option.some.inj r19
                            replace e := hret17 _ e.symm
                            rw [e] at r17
                            replace e := Option.some.inj r17
                            subst e
                            repeat' first | with_reducible rfl | with_reducible exact True.intro | with_reducible assumption | exact clA _ | (refine And.intro ?_ ?_ <;> conv => whnf) | exact clG _ | (refine gand ?_ h; assumption) | exact clN _ | fail
                          · replace b19 := condF hc b19
                            conv => whnf
                            repeat' first | with_reducible rfl | with_reducible exact True.intro | with_reducible assumption | refine parkI ?_ | (refine And.intro ?_ ?_ <;> conv => whnf) | fail
                            have e := Option.some.inj b19
                            refine LoopW.norm [(0, (I (((IntKind.i64.wrap (((a0).tmod 6) + 6))).tmod 6))), (2, (I (IntKind.i64.wrap (1 + (((IntKind.i64.wrap (((a2).tmod 20) + 20))).tmod 20))))), (3, (I (IntKind.i64.wrap (1 + (((IntKind.i64.wrap (((a3).tmod 4) + 4))).tmod 4))))), (14, (LV.ptr 3 0 0)), (16, (I ((((s16.map iC) ++ [[(I 1)]]).length : Nat) : Int))), (22, (LV.ptr 5 0 0)), (25, (LV.ptr 6 0 0)), (26, (I y15.2.1)), (28, (I 0)), (103, (LV.ro 4 ((a4.map A4_Int.cells).take ((mn (((a4.map A4_Int.cells).length : Nat) : Int) 60) : Int).toNat))), (104, (I ((((a4.map A4_Int.cells).take ((mn (((a4.map A4_Int.cells).length : Nat) : Int) 60) : Int).toNat).length : Nat) : Int))), (105, (I ((k17 : Nat) : Int))), (219, (LV.ro 6 (y13.2.1.map SendT.cells))), (220, (I (((y13.2.1.map SendT.cells).length : Nat) : Int))), (221, (I ((k19 + 1 : Nat) : Int)))] 7 [(3, (.row 85 7 [[(I s17.Self.ID), (LV.ro 1 (s17.Self.Costs.map iC)), (LV.ro 1 (s17.Self.Ups.map bC)), (LV.ro 6 (s17.Self.Infos.map InfoT.cells)), (LV.ro 2 (s17.States.map PortStateT.cells)), (I s17.Max), (I s17.Delay)]])), (5, (.row 85 7 [[(I y13.1.Self.ID), (LV.ro 1 (y13.1.Self.Costs.map iC)), (LV.ro 1 (y13.1.Self.Ups.map bC)), (LV.ro 6 (y13.1.Self.Infos.map InfoT.cells)), (LV.ro 2 (y13.1.States.map PortStateT.cells)), (I y13.1.Max), (I y13.1.Delay)]])), (6, (.row 87 4 [[(I y15.1.Root), (I y15.1.Cost), (I y15.1.Bridge), (I y15.1.Port)]]))] ⟨rfl, rfl, rfl, rfl, rfl, rfl, rfl, rfl, rfl, rfl, rfl, rfl, rfl, rfl, (congrArg (LV.int .i64) (w64_nat _ (by omega))), trivial⟩ ⟨⟨rfl, rfl, blT⟩, ⟨⟨rfl, rfl, blT⟩, ⟨⟨rfl, rfl, blT⟩, trivial⟩⟩⟩ blT rfl (K19 _ e.symm)
                        · exact (Bool.false_ne_true (hc.symm.trans hd)).elim
                · replace b17 := condF hc b17
                  conv => whnf
                  replace b17 := bindS b17
                  obtain ⟨y23, hy23, b17⟩ := b17
                  have c24 : CallP Try.prog 55 [(LV.agg [(I s17.Self.ID), (LV.ro 1 (s17.Self.Costs.map iC)), (LV.ro 1 (s17.Self.Ups.map bC)), (LV.ro 6 (s17.Self.Infos.map InfoT.cells)), (LV.ro 2 (s17.States.map PortStateT.cells)), (I s17.Max), (I s17.Delay)]), (I (((IntKind.i64.wrap (((x17.c1).tmod ((((s16.map iC) ++ [[(I 1)]]).length : Nat) : Int)) + ((((s16.map iC) ++ [[(I 1)]]).length : Nat) : Int)))).tmod ((((s16.map iC) ++ [[(I 1)]]).length : Nat) : Int))), (LV.agg [(I (((IntKind.i64.wrap (((x17.c2).tmod 6) + 6))).tmod 6)), (I (((IntKind.i64.wrap (((x17.c3).tmod 30) + 30))).tmod 30)), (I (((IntKind.i64.wrap (((x17.c3).tmod 6) + 6))).tmod 6)), (I (((IntKind.i64.wrap (((x17.c2).tmod 8) + 8))).tmod 8)), (I (((IntKind.i64.wrap (((x17.c3).tmod 25) + 25))).tmod 25))])] (LV.tup [(LV.agg [(I y23.1.Self.ID), (LV.ro 1 (y23.1.Self.Costs.map iC)), (LV.ro 1 (y23.1.Self.Ups.map bC)), (LV.ro 6 (y23.1.Self.Infos.map InfoT.cells)), (LV.ro 2 (y23.1.States.map PortStateT.cells)), (I y23.1.Max), (I y23.1.Delay)]), (LV.bool y23.2.1), (I y23.2.2)]) := by first | exact c_stp_Hear s17 (((IntKind.i64.wrap (((x17.c1).tmod (((s16 ++ ([1] : (List Int))).length : Nat) : Int)) + (((s16 ++ ([1] : (List Int))).length : Nat) : Int)))).tmod (((s16 ++ ([1] : (List Int))).length : Nat) : Int)) (⟨(⟨(((IntKind.i64.wrap (((x17.c2).tmod 6) + 6))).tmod 6), (((IntKind.i64.wrap (((x17.c3).tmod 30) + 30))).tmod 30), (((IntKind.i64.wrap (((x17.c3).tmod 6) + 6))).tmod 6), (((IntKind.i64.wrap (((x17.c2).tmod 8) + 8))).tmod 8)⟩ : VecT), (((IntKind.i64.wrap (((x17.c3).tmod 25) + 25))).tmod 25)⟩ : ConfigT) _ hy23 | (simpa only [se_map, se_byL, se_len, se_ch, List.length_map] using c_stp_Hear s17 (((IntKind.i64.wrap (((x17.c1).tmod (((s16 ++ ([1] : (List Int))).length : Nat) : Int)) + (((s16 ++ ([1] : (List Int))).length : Nat) : Int)))).tmod (((s16 ++ ([1] : (List Int))).length : Nat) : Int)) (⟨(⟨(((IntKind.i64.wrap (((x17.c2).tmod 6) + 6))).tmod 6), (((IntKind.i64.wrap (((x17.c3).tmod 30) + 30))).tmod 30), (((IntKind.i64.wrap (((x17.c3).tmod 6) + 6))).tmod 6), (((IntKind.i64.wrap (((x17.c2).tmod 8) + 8))).tmod 8)⟩ : VecT), (((IntKind.i64.wrap (((x17.c3).tmod 25) + 25))).tmod 25)⟩ : ConfigT) _ hy23) | (simpa only [se_map, se_byL, se_len, se_ch, List.length_map, ConfigT.cells, VecT.cells] using c_stp_Hear s17 (((IntKind.i64.wrap (((x17.c1).tmod (((s16 ++ ([1] : (List Int))).length : Nat) : Int)) + (((s16 ++ ([1] : (List Int))).length : Nat) : Int)))).tmod (((s16 ++ ([1] : (List Int))).length : Nat) : Int)) (⟨(⟨(((IntKind.i64.wrap (((x17.c2).tmod 6) + 6))).tmod 6), (((IntKind.i64.wrap (((x17.c3).tmod 30) + 30))).tmod 30), (((IntKind.i64.wrap (((x17.c3).tmod 6) + 6))).tmod 6), (((IntKind.i64.wrap (((x17.c2).tmod 8) + 8))).tmod 8)⟩ : VecT), (((IntKind.i64.wrap (((x17.c3).tmod 25) + 25))).tmod 25)⟩ : ConfigT) _ hy23)
                  repeat' first | with_reducible rfl | with_reducible exact True.intro | with_reducible assumption | refine parkI ?_ | (refine CallP.use c24 ?_; conv => whnf) | exact (⟨by decide, by decide⟩ : (0 : Int) ≤ 2 ∧ (2 : Int) < 4) | exact (by decide : ((6 : Int) ≠ 0)) | exact (by decide : ((6 : Int) ≠ 0)) | exact (⟨by decide, by decide⟩ : (0 : Int) ≤ 3 ∧ (3 : Int) < 4) | exact (by decide : ((30 : Int) ≠ 0)) | exact (by decide : ((30 : Int) ≠ 0)) | exact (by decide : ((6 : Int) ≠ 0)) | exact (by decide : ((6 : Int) ≠ 0)) | exact (by decide : ((8 : Int) ≠ 0)) | exact (by decide : ((8 : Int) ≠ 0)) | exact (by decide : ((25 : Int) ≠ 0)) | exact (by decide : ((25 : Int) ≠ 0)) | (refine And.intro ?_ ?_ <;> conv => whnf) | fail
                  refine parkE (fun hc => ?_) (fun hc => ?_)
                  · replace b17 := condT hc b17
                    conv => whnf
                    have e := Option.some.inj b17
                    replace e := hret17 _ e.symm
                    rw [e] at r17
                    replace e := Option.some.inj r17
                    subst e
                    repeat' first | with_reducible rfl | with_reducible exact True.intro | with_reducible assumption | exact clA _ | (refine And.intro ?_ ?_ <;> conv => whnf) | exact clG _ | (refine gand ?_ h; assumption) | exact clN _ | fail
                  · replace b17 := condF hc b17
                    conv => whnf
                    replace b17 := bindS b17
                    obtain ⟨y25, hy25, b17⟩ := b17
                    have c26 := c_stp_Right y23.1 _ hy25
                    repeat' first | with_reducible rfl | with_reducible exact True.intro | with_reducible assumption | refine parkI ?_ | (refine CallP.use c26 ?_; conv => whnf) | (refine And.intro ?_ ?_ <;> conv => whnf) | fail
                    refine parkE (fun hc => ?_) (fun hc => ?_)
                    · replace b17 := condT hc b17
                      conv => whnf
                      have e := Option.some.inj b17
                      replace e := hret17 _ e.symm
                      rw [e] at r17
                      replace e := Option.some.inj r17
                      subst e
                      repeat' first | with_reducible rfl | with_reducible exact True.intro | with_reducible assumption | exact clA _ | (refine And.intro ?_ ?_ <;> conv => whnf) | exact clG _ | (refine gand ?_ h; assumption) | exact clN _ | fail
                    · replace b17 := condF hc b17
                      conv => whnf
                      repeat' first | with_reducible rfl | with_reducible exact True.intro | with_reducible assumption | refine parkI ?_ | (refine And.intro ?_ ?_ <;> conv => whnf) | fail
                      have e := Option.some.inj b17
                      refine LoopW.norm [(0, (I (((IntKind.i64.wrap (((a0).tmod 6) + 6))).tmod 6))), (2, (I (IntKind.i64.wrap (1 + (((IntKind.i64.wrap (((a2).tmod 20) + 20))).tmod 20))))), (3, (I (IntKind.i64.wrap (1 + (((IntKind.i64.wrap (((a3).tmod 4) + 4))).tmod 4))))), (14, (LV.ptr 3 0 0)), (16, (I ((((s16.map iC) ++ [[(I 1)]]).length : Nat) : Int))), (103, (LV.ro 4 ((a4.map A4_Int.cells).take ((mn (((a4.map A4_Int.cells).length : Nat) : Int) 60) : Int).toNat))), (104, (I ((((a4.map A4_Int.cells).take ((mn (((a4.map A4_Int.cells).length : Nat) : Int) 60) : Int).toNat).length : Nat) : Int))), (105, (I ((k17 + 1 : Nat) : Int)))] 4 [(3, (.row 85 7 [[(I y23.1.Self.ID), (LV.ro 1 (y23.1.Self.Costs.map iC)), (LV.ro 1 (y23.1.Self.Ups.map bC)), (LV.ro 6 (y23.1.Self.Infos.map InfoT.cells)), (LV.ro 2 (y23.1.States.map PortStateT.cells)), (I y23.1.Max), (I y23.1.Delay)]]))] ⟨rfl, rfl, rfl, rfl, rfl, rfl, rfl, (congrArg (LV.int .i64) (w64_nat _ (by omega))), trivial⟩ ⟨⟨rfl, rfl, blT⟩, trivial⟩ blT rfl (K17 _ e.symm)
              · replace b17 := condF hc b17
                conv => whnf
                repeat' first | with_reducible rfl | with_reducible exact True.intro | with_reducible assumption | refine parkI ?_ | (refine And.intro ?_ ?_ <;> conv => whnf) | fail
                refine parkE (fun hc => ?_) (fun hc => ?_)
                · replace b17 := condT hc b17
                  conv => whnf
                  repeat' first | with_reducible rfl | with_reducible exact True.intro | with_reducible assumption | refine parkI ?_ | (refine And.intro ?_ ?_ <;> conv => whnf) | fail
                  refine parkE (fun hc => ?_) (fun hc => ?_)
                  · replace b17 := condT hc b17
                    conv => whnf
                    replace b17 := bindS b17
                    obtain ⟨y27, hy27, b17⟩ := b17
                    have c28 := c_stp_Tick s17 _ hy27
                    replace b17 := bindS b17
                    obtain ⟨y29, hy29, b17⟩ := b17
                    have c30 := c_role_Root y27.1.Self _ hy29
                    repeat' first | with_reducible rfl | with_reducible exact True.intro | with_reducible assumption | refine parkI ?_ | (refine CallP.use c28 ?_; conv => whnf) | (refine CallP.use c30 ?_; conv => whnf) | exact clA _ | (refine And.intro ?_ ?_ <;> conv => whnf) | exact clG _ | (refine gand ?_ h; assumption) | fail
                    refine parkE (fun hc => ?_) (fun hc => ?_)
                    · replace b17 := condT (by first | exact hc | simpa only [se_len, se_ch, List.length_map] using hc) b17
                      conv => whnf
                      have e := Option.some.inj b17
                      replace e := hret17 _ e.symm
                      rw [e] at r17
                      replace e := Option.some.inj r17
                      subst e
                      repeat' first | with_reducible rfl | with_reducible exact True.intro | with_reducible assumption | exact clA _ | (refine And.intro ?_ ?_ <;> conv => whnf) | exact clG _ | (refine gand ?_ h; assumption) | exact clN _ | fail
                    · replace b17 := condF (by first | exact hc | simpa only [se_len, se_ch, List.length_map] using hc) b17
                      conv => whnf
                      repeat' first | with_reducible rfl | with_reducible exact True.intro | with_reducible assumption | refine parkI ?_ | (refine And.intro ?_ ?_ <;> conv => whnf) | fail
                      refine parkE (fun hc => ?_) (fun hc => ?_)
                      · replace b17 := condT hc b17
                        conv => whnf
                        replace b17 := bindS b17
                        obtain ⟨v31, hv31, b17⟩ := b17
                        have i32 := gixF (f := InfoT.cells) hv31
                        repeat' first | with_reducible rfl | with_reducible exact True.intro | with_reducible assumption | refine parkI ?_ | (refine ⟨_, i32, ?_⟩; conv => whnf) | (refine And.intro ?_ ?_ <;> conv => whnf) | fail
                        replace b17 := aftS b17
                        obtain ⟨O21, hO21, r21⟩ := b17
                        refine LoopW.norm [(0, (I (((IntKind.i64.wrap (((a0).tmod 6) + 6))).tmod 6))), (2, (I (IntKind.i64.wrap (1 + (((IntKind.i64.wrap (((a2).tmod 20) + 20))).tmod 20))))), (3, (I (IntKind.i64.wrap (1 + (((IntKind.i64.wrap (((a3).tmod 4) + 4))).tmod 4))))), (14, (LV.ptr 3 0 0)), (16, (I ((((s16.map iC) ++ [[(I 1)]]).length : Nat) : Int))), (22, (LV.ptr 5 0 0)), (25, (LV.ptr 6 0 0)), (26, (I y29.2.1)), (28, (I (IntKind.i64.wrap (v31.Age + 1)))), (103, (LV.ro 4 ((a4.map A4_Int.cells).take ((mn (((a4.map A4_Int.cells).length : Nat) : Int) 60) : Int).toNat))), (104, (I ((((a4.map A4_Int.cells).take ((mn (((a4.map A4_Int.cells).length : Nat) : Int) 60) : Int).toNat).length : Nat) : Int))), (105, (I ((k17 : Nat) : Int))), (219, (LV.ro 6 (y27.2.1.map SendT.cells))), (220, (I (((y27.2.1.map SendT.cells).length : Nat) : Int))), (221, (I ((0 : Nat) : Int)))] 7 [(3, (.row 85 7 [[(I s17.Self.ID), (LV.ro 1 (s17.Self.Costs.map iC)), (LV.ro 1 (s17.Self.Ups.map bC)), (LV.ro 6 (s17.Self.Infos.map InfoT.cells)), (LV.ro 2 (s17.States.map PortStateT.cells)), (I s17.Max), (I s17.Delay)]])), (5, (.row 85 7 [[(I y27.1.Self.ID), (LV.ro 1 (y27.1.Self.Costs.map iC)), (LV.ro 1 (y27.1.Self.Ups.map bC)), (LV.ro 6 (y27.1.Self.Infos.map InfoT.cells)), (LV.ro 2 (y27.1.States.map PortStateT.cells)), (I y27.1.Max), (I y27.1.Delay)]])), (6, (.row 87 4 [[(I y29.1.Root), (I y29.1.Cost), (I y29.1.Bridge), (I y29.1.Port)]]))] ⟨rfl, rfl, rfl, rfl, rfl, rfl, rfl, rfl, rfl, rfl, rfl, rfl, rfl, rfl, rfl, trivial⟩ ⟨⟨rfl, rfl, blT⟩, ⟨⟨rfl, rfl, blT⟩, ⟨⟨rfl, rfl, blT⟩, trivial⟩⟩⟩ blT rfl ?_
                        refine LoopW.forR (fun k21 s21 => [(0, (I (((IntKind.i64.wrap (((a0).tmod 6) + 6))).tmod 6))), (2, (I (IntKind.i64.wrap (1 + (((IntKind.i64.wrap (((a2).tmod 20) + 20))).tmod 20))))), (3, (I (IntKind.i64.wrap (1 + (((IntKind.i64.wrap (((a3).tmod 4) + 4))).tmod 4))))), (14, (LV.ptr 3 0 0)), (16, (I ((((s16.map iC) ++ [[(I 1)]]).length : Nat) : Int))), (22, (LV.ptr 5 0 0)), (25, (LV.ptr 6 0 0)), (26, (I y29.2.1)), (28, (I (IntKind.i64.wrap (v31.Age + 1)))), (103, (LV.ro 4 ((a4.map A4_Int.cells).take ((mn (((a4.map A4_Int.cells).length : Nat) : Int) 60) : Int).toNat))), (104, (I ((((a4.map A4_Int.cells).take ((mn (((a4.map A4_Int.cells).length : Nat) : Int) 60) : Int).toNat).length : Nat) : Int))), (105, (I ((k17 : Nat) : Int))), (219, (LV.ro 6 (y27.2.1.map SendT.cells))), (220, (I (((y27.2.1.map SendT.cells).length : Nat) : Int))), (221, (I ((k21 : Nat) : Int)))]) (fun s21 => ⟨7, [(3, (.row 85 7 [[(I s17.Self.ID), (LV.ro 1 (s17.Self.Costs.map iC)), (LV.ro 1 (s17.Self.Ups.map bC)), (LV.ro 6 (s17.Self.Infos.map InfoT.cells)), (LV.ro 2 (s17.States.map PortStateT.cells)), (I s17.Max), (I s17.Delay)]])), (5, (.row 85 7 [[(I y27.1.Self.ID), (LV.ro 1 (y27.1.Self.Costs.map iC)), (LV.ro 1 (y27.1.Self.Ups.map bC)), (LV.ro 6 (y27.1.Self.Infos.map InfoT.cells)), (LV.ro 2 (y27.1.States.map PortStateT.cells)), (I y27.1.Max), (I y27.1.Delay)]])), (6, (.row 87 4 [[(I y29.1.Root), (I y29.1.Cost), (I y29.1.Bridge), (I y29.1.Port)]]))]⟩) hO21 (fun hl21 s21 hs21 => ?_) (fun hl21 k21 x21 s21 o21 hk21 hx21 b21 K21 hret21 hbrk21 => ?_)
                        · rw [hs21] at r21
                          dsimp only [aftM] at r21
                          have hd : decide (((y27.2.1.length : Nat) : Int) < (((y27.2.1.map SendT.cells).length : Nat) : Int)) = false := by rw [decide_eq_false_iff_not]; (try simp only [se_len, se_ch, List.length_map]); omega
                          refine LoopW.round TT_ok [0, 1, 2, 3, 4, 10, 11, 13, 14, 15, 16, 18, 19, 20, 21, 22, 23, 24, 25, 26, 27, 28, 30, 31, 33, 34, 36, 37, 39, 40, 41, 42, 44, 45, 46, 47, 48, 49, 50, 69, 70, 71, 72, 96, 103, 104, 105, 106, 121, 157, 159, 172, 174, 208, 210, 219, 220, 221, 222, 266, 271, 273, 274, 275, 283, 287, 288, 289, 297, 313, 316, 317, 318, 319, 323, 333] ?_
                          conv => whnf
                          repeat' first | with_reducible rfl | with_reducible exact True.intro | with_reducible assumption | refine parkI ?_ | (refine And.intro ?_ ?_ <;> conv => whnf) | fail
                          refine parkE (fun hc => ?_) (fun hc => ?_)
                          · exact (Bool.false_ne_true (hd.symm.trans hc)).elim
                          · clear hd
                            conv => whnf
                            replace r21 := bindS r21
                            obtain ⟨y33, hy33, r21⟩ := r21
                            have c34 := c_stp_Right y27.1 _ hy33
                            repeat' first | with_reducible rfl | with_reducible exact True.intro | with_reducible assumption | refine parkI ?_ | (refine CallP.use c34 ?_; conv => whnf) | (refine And.intro ?_ ?_ <;> conv => whnf) | fail
                            refine parkE (fun hc => ?_) (fun hc => ?_)
                            · replace r21 := condT hc r21
                              conv => whnf
                              have e := Option.some.inj r21
                              replace e := hret17 _ e.symm
                              rw [e] at r17
                              replace e := Option.some.inj r17
                              subst e
                              repeat' first | with_reducible rfl | with_reducible exact True.intro | with_reducible assumption | exact clA _ | (refine And.intro ?_ ?_ <;> conv => whnf) | exact clG _ | (refine gand ?_ h; assumption) | exact clN _ | fail
                            · replace r21 := condF hc r21
                              conv => whnf
                              repeat' first | with_reducible rfl | with_reducible exact True.intro | with_reducible assumption | refine parkI ?_ | (refine And.intro ?_ ?_ <;> conv => whnf) | fail
                              have e := Option.some.inj r21
                              refine LoopW.norm [(0, (I (((IntKind.i64.wrap (((a0).tmod 6) + 6))).tmod 6))), (2, (I (IntKind.i64.wrap (1 + (((IntKind.i64.wrap (((a2).tmod 20) + 20))).tmod 20))))), (3, (I (IntKind.i64.wrap (1 + (((IntKind.i64.wrap (((a3).tmod 4) + 4))).tmod 4))))), (14, (LV.ptr 3 0 0)), (16, (I ((((s16.map iC) ++ [[(I 1)]]).length : Nat) : Int))), (103, (LV.ro 4 ((a4.map A4_Int.cells).take ((mn (((a4.map A4_Int.cells).length : Nat) : Int) 60) : Int).toNat))), (104, (I ((((a4.map A4_Int.cells).take ((mn (((a4.map A4_Int.cells).length : Nat) : Int) 60) : Int).toNat).length : Nat) : Int))), (105, (I ((k17 + 1 : Nat) : Int)))] 4 [(3, (.row 85 7 [[(I y27.1.Self.ID), (LV.ro 1 (y27.1.Self.Costs.map iC)), (LV.ro 1 (y27.1.Self.Ups.map bC)), (LV.ro 6 (y27.1.Self.Infos.map InfoT.cells)), (LV.ro 2 (y27.1.States.map PortStateT.cells)), (I y27.1.Max), (I y27.1.Delay)]]))] ⟨rfl, rfl, rfl, rfl, rfl, rfl, rfl, (congrArg (LV.int .i64) (w64_nat _ (by omega))), trivial⟩ ⟨⟨rfl, rfl, blT⟩, trivial⟩ blT rfl (K17 _ e.symm)
                        · unfold law12_StpAges_b21 at b21
                          have hd : decide (((k21 : Nat) : Int) < (((y27.2.1.map SendT.cells).length : Nat) : Int)) = true := by rw [decide_eq_true_eq]; (try simp only [se_len, se_ch, List.length_map] at hk21); (try simp only [se_len, se_ch, List.length_map]); omega
                          refine LoopW.round TT_ok [0, 1, 2, 3, 4, 10, 11, 13, 14, 15, 16, 18, 19, 20, 21, 22, 23, 24, 25, 26, 27, 28, 30, 31, 33, 34, 36, 37, 39, 40, 41, 42, 44, 45, 46, 47, 48, 49, 50, 69, 70, 71, 72, 96, 103, 104, 105, 106, 121, 157, 159, 172, 174, 208, 210, 219, 220, 221, 222, 266, 271, 273, 274, 275, 283, 287, 288, 289, 297, 313, 316, 317, 318, 319, 323, 333] ?_
                          conv => whnf
                          repeat' first | with_reducible rfl | with_reducible exact True.intro | with_reducible assumption | refine parkI ?_ | (refine And.intro ?_ ?_ <;> conv => whnf) | fail
                          refine parkE (fun hc => ?_) (fun hc => ?_)
                          · clear hd
                            conv => whnf
                            repeat' first | with_reducible rfl | with_reducible exact True.intro | with_reducible assumption | refine parkI ?_ | (refine ⟨_, (kixF (f := SendT.cells) hx21), ?_⟩; conv => whnf) | exact clA _ | (refine And.intro ?_ ?_ <;> conv => whnf) | exact clG _ | (refine gand ?_ h; assumption) | fail
                            refine parkE (fun hc => ?_) (fun hc => ?_)
                            · replace b21 := condT hc b21
                              conv => whnf
                              have e := Option.some.inj b21
                              replace e := hret21 _ e.symm
                              rw [e] at r21
                              replace e := Option.some.inj r21
                              replace e := hret17 _ e.symm
                              rw [e] at r17
                              replace e := Option.some.inj r17
                              subst e
                              repeat' first | with_reducible rfl | with_reducible exact True.intro | with_reducible assumption | exact clA _ | (refine And.intro ?_ ?_ <;> conv => whnf) | exact clG _ | (refine gand ?_ h; assumption) | exact clN _ | fail
                            · replace b21 := condF hc b21
                              conv => whnf
                              repeat' first | with_reducible rfl | with_reducible exact True.intro | with_reducible assumption | refine parkI ?_ | (refine And.intro ?_ ?_ <;> conv => whnf) | fail
                              have e := Option.some.inj b21
                              refine LoopW.norm [(0, (I (((IntKind.i64.wrap (((a0).tmod 6) + 6))).tmod 6))), (2, (I (IntKind.i64.wrap (1 + (((IntKind.i64.wrap (((a2).tmod 20) + 20))).tmod 20))))), (3, (I (IntKind.i64.wrap (1 + (((IntKind.i64.wrap (((a3).tmod 4) + 4))).tmod 4))))), (14, (LV.ptr 3 0 0)), (16, (I ((((s16.map iC) ++ [[(I 1)]]).length : Nat) : Int))), (22, (LV.ptr 5 0 0)), (25, (LV.ptr 6 0 0)), (26, (I y29.2.1)), (28, (I (IntKind.i64.wrap (v31.Age + 1)))), (103, (LV.ro 4 ((a4.map A4_Int.cells).take ((mn (((a4.map A4_Int.cells).length : Nat) : Int) 60) : Int).toNat))), (104, (I ((((a4.map A4_Int.cells).take ((mn (((a4.map A4_Int.cells).length : Nat) : Int) 60) : Int).toNat).length : Nat) : Int))), (105, (I ((k17 : Nat) : Int))), (219, (LV.ro 6 (y27.2.1.map SendT.cells))), (220, (I (((y27.2.1.map SendT.cells).length : Nat) : Int))), (221, (I ((k21 + 1 : Nat) : Int)))] 7 [(3, (.row 85 7 [[(I s17.Self.ID), (LV.ro 1 (s17.Self.Costs.map iC)), (LV.ro 1 (s17.Self.Ups.map bC)), (LV.ro 6 (s17.Self.Infos.map InfoT.cells)), (LV.ro 2 (s17.States.map PortStateT.cells)), (I s17.Max), (I s17.Delay)]])), (5, (.row 85 7 [[(I y27.1.Self.ID), (LV.ro 1 (y27.1.Self.Costs.map iC)), (LV.ro 1 (y27.1.Self.Ups.map bC)), (LV.ro 6 (y27.1.Self.Infos.map InfoT.cells)), (LV.ro 2 (y27.1.States.map PortStateT.cells)), (I y27.1.Max), (I y27.1.Delay)]])), (6, (.row 87 4 [[(I y29.1.Root), (I y29.1.Cost), (I y29.1.Bridge), (I y29.1.Port)]]))] ⟨rfl, rfl, rfl, rfl, rfl, rfl, rfl, rfl, rfl, rfl, rfl, rfl, rfl, rfl, (congrArg (LV.int .i64) (w64_nat _ (by omega))), trivial⟩ ⟨⟨rfl, rfl, blT⟩, ⟨⟨rfl, rfl, blT⟩, ⟨⟨rfl, rfl, blT⟩, trivial⟩⟩⟩ blT rfl (K21 _ e.symm)
                          · exact (Bool.false_ne_true (hc.symm.trans hd)).elim
                      · replace b17 := condF hc b17
                        conv => whnf
                        repeat' first | with_reducible rfl | with_reducible exact True.intro | with_reducible assumption | refine parkI ?_ | (refine And.intro ?_ ?_ <;> conv => whnf) | fail
                        replace b17 := aftS b17
                        obtain ⟨O22, hO22, r22⟩ := b17
                        refine LoopW.norm [(0, (I (((IntKind.i64.wrap (((a0).tmod 6) + 6))).tmod 6))), (2, (I (IntKind.i64.wrap (1 + (((IntKind.i64.wrap (((a2).tmod 20) + 20))).tmod 20))))), (3, (I (IntKind.i64.wrap (1 + (((IntKind.i64.wrap (((a3).tmod 4) + 4))).tmod 4))))), (14, (LV.ptr 3 0 0)), (16, (I ((((s16.map iC) ++ [[(I 1)]]).length : Nat) : Int))), (22, (LV.ptr 5 0 0)), (25, (LV.ptr 6 0 0)), (26, (I y29.2.1)), (28, (I 0)), (103, (LV.ro 4 ((a4.map A4_Int.cells).take ((mn (((a4.map A4_Int.cells).length : Nat) : Int) 60) : Int).toNat))), (104, (I ((((a4.map A4_Int.cells).take ((mn (((a4.map A4_Int.cells).length : Nat) : Int) 60) : Int).toNat).length : Nat) : Int))), (105, (I ((k17 : Nat) : Int))), (219, (LV.ro 6 (y27.2.1.map SendT.cells))), (220, (I (((y27.2.1.map SendT.cells).length : Nat) : Int))), (221, (I ((0 : Nat) : Int)))] 7 [(3, (.row 85 7 [[(I s17.Self.ID), (LV.ro 1 (s17.Self.Costs.map iC)), (LV.ro 1 (s17.Self.Ups.map bC)), (LV.ro 6 (s17.Self.Infos.map InfoT.cells)), (LV.ro 2 (s17.States.map PortStateT.cells)), (I s17.Max), (I s17.Delay)]])), (5, (.row 85 7 [[(I y27.1.Self.ID), (LV.ro 1 (y27.1.Self.Costs.map iC)), (LV.ro 1 (y27.1.Self.Ups.map bC)), (LV.ro 6 (y27.1.Self.Infos.map InfoT.cells)), (LV.ro 2 (y27.1.States.map PortStateT.cells)), (I y27.1.Max), (I y27.1.Delay)]])), (6, (.row 87 4 [[(I y29.1.Root), (I y29.1.Cost), (I y29.1.Bridge), (I y29.1.Port)]]))] ⟨rfl, rfl, rfl, rfl, rfl, rfl, rfl, rfl, rfl, rfl, rfl, rfl, rfl, rfl, rfl, trivial⟩ ⟨⟨rfl, rfl, blT⟩, ⟨⟨rfl, rfl, blT⟩, ⟨⟨rfl, rfl, blT⟩, trivial⟩⟩⟩ blT rfl ?_
                        refine LoopW.forR (fun k22 s22 => [(0, (I (((IntKind.i64.wrap (((a0).tmod 6) + 6))).tmod 6))), (2, (I (IntKind.i64.wrap (1 + (((IntKind.i64.wrap (((a2).tmod 20) + 20))).tmod 20))))), (3, (I (IntKind.i64.wrap (1 + (((IntKind.i64.wrap (((a3).tmod 4) + 4))).tmod 4))))), (14, (LV.ptr 3 0 0)), (16, (I ((((s16.map iC) ++ [[(I 1)]]).length : Nat) : Int))), (22, (LV.ptr 5 0 0)), (25, (LV.ptr 6 0 0)), (26, (I y29.2.1)), (28, (I 0)), (103, (LV.ro 4 ((a4.map A4_Int.cells).take ((mn (((a4.map A4_Int.cells).length : Nat) : Int) 60) : Int).toNat))), (104, (I ((((a4.map A4_Int.cells).take ((mn (((a4.map A4_Int.cells).length : Nat) : Int) 60) : Int).toNat).length : Nat) : Int))), (105, (I ((k17 : Nat) : Int))), (219, (LV.ro 6 (y27.2.1.map SendT.cells))), (220, (I (((y27.2.1.map SendT.cells).length : Nat) : Int))), (221, (I ((k22 : Nat) : Int)))]) (fun s22 => ⟨7, [(3, (.row 85 7 [[(I s17.Self.ID), (LV.ro 1 (s17.Self.Costs.map iC)), (LV.ro 1 (s17.Self.Ups.map bC)), (LV.ro 6 (s17.Self.Infos.map InfoT.cells)), (LV.ro 2 (s17.States.map PortStateT.cells)), (I s17.Max), (I s17.Delay)]])), (5, (.row 85 7 [[(I y27.1.Self.ID), (LV.ro 1 (y27.1.Self.Costs.map iC)), (LV.ro 1 (y27.1.Self.Ups.map bC)), (LV.ro 6 (y27.1.Self.Infos.map InfoT.cells)), (LV.ro 2 (y27.1.States.map PortStateT.cells)), (I y27.1.Max), (I y27.1.Delay)]])), (6, (.row 87 4 [[(I y29.1.Root), (I y29.1.Cost), (I y29.1.Bridge), (I y29.1.Port)]]))]⟩) hO22 (fun hl22 s22 hs22 => ?_) (fun hl22 k22 x22 s22 o22 hk22 hx22 b22 K22 hret22 hbrk22 => ?_)
                        · rw [hs22] at r22
                          dsimp only [aftM] at r22
                          have hd : decide (((y27.2.1.length : Nat) : Int) < (((y27.2.1.map SendT.cells).length : Nat) : Int)) = false := by rw [decide_eq_false_iff_not]; (try simp only [se_len, se_ch, List.length_map]); omega
                          refine LoopW.round TT_ok [0, 1, 2, 3, 4, 10, 11, 13, 14, 15, 16, 18, 19, 20, 21, 22, 23, 24, 25, 26, 27, 28, 30, 31, 33, 34, 36, 37, 39, 40, 41, 42, 44, 45, 46, 47, 48, 49, 50, 69, 70, 71, 72, 96, 103, 104, 105, 106, 121, 157, 159, 172, 174, 208, 210, 219, 220, 221, 222, 266, 271, 273, 274, 275, 283, 287, 288, 289, 297, 313, 316, 317, 318, 319, 323, 333] ?_
                          conv => whnf
                          repeat' first | with_reducible rfl | with_reducible exact True.intro | with_reducible assumption | refine parkI ?_ | (refine And.intro ?_ ?_ <;> conv => whnf) | fail
                          refine parkE (fun hc => ?_) (fun hc => ?_)
                          · exact (Bool.false_ne_true (hd.symm.trans hc)).elim
                          · clear hd
                            conv => whnf
                            replace r22 := bindS r22
                            obtain ⟨y35, hy35, r22⟩ := r22
                            have c36 := c_stp_Right y27.1 _ hy35
                            repeat' first | with_reducible rfl | with_reducible exact True.intro | with_reducible assumption | refine parkI ?_ | (refine CallP.use c36 ?_; conv => whnf) | (refine And.intro ?_ ?_ <;> conv => whnf) | fail
                            refine parkE (fun hc => ?_) (fun hc => ?_)
                            · replace r22 := condT hc r22
                              conv => whnf
                              have e := Option.some.inj r22
                              replace e := hret17 _ e.symm
                              rw [e] at r17
                              replace e := Option.some.inj r17
                              subst e
                              repeat' first | with_reducible rfl | with_reducible exact True.intro | with_reducible assumption | exact clA _ | (refine And.intro ?_ ?_ <;> conv => whnf) | exact clG _ | (refine gand ?_ h; assumption) | exact clN _ | fail
                            · replace r22 := condF hc r22
                              conv => whnf
                              repeat' first | with_reducible rfl | with_reducible exact True.intro | with_reducible assumption | refine parkI ?_ | (refine And.intro ?_ ?_ <;> conv => whnf) | fail
                              have e := Option.some.inj r22
                              refine LoopW.norm [(0, (I (((IntKind.i64.wrap (((a0).tmod 6) + 6))).tmod 6))), (2, (I (IntKind.i64.wrap (1 + (((IntKind.i64.wrap (((a2).tmod 20) + 20))).tmod 20))))), (3, (I (IntKind.i64.wrap (1 + (((IntKind.i64.wrap (((a3).tmod 4) + 4))).tmod 4))))), (14, (LV.ptr 3 0 0)), (16, (I ((((s16.map iC) ++ [[(I 1)]]).length : Nat) : Int))), (103, (LV.ro 4 ((a4.map A4_Int.cells).take ((mn (((a4.map A4_Int.cells).length : Nat) : Int) 60) : Int).toNat))), (104, (I ((((a4.map A4_Int.cells).take ((mn (((a4.map A4_Int.cells).length : Nat) : Int) 60) : Int).toNat).length : Nat) : Int))), (105, (I ((k17 + 1 : Nat) : Int)))] 4 [(3, (.row 85 7 [[(I y27.1.Self.ID), (LV.ro 1 (y27.1.Self.Costs.map iC)), (LV.ro 1 (y27.1.Self.Ups.map bC)), (LV.ro 6 (y27.1.Self.Infos.map InfoT.cells)), (LV.ro 2 (y27.1.States.map PortStateT.cells)), (I y27.1.Max), (I y27.1.Delay)]]))] ⟨rfl, rfl, rfl, rfl, rfl, rfl, rfl, (congrArg (LV.int .i64) (w64_nat _ (by omega))), trivial⟩ ⟨⟨rfl, rfl, blT⟩, trivial⟩ blT rfl (K17 _ e.symm)
                        · unfold law12_StpAges_b22 at b22
                          have hd : decide (((k22 : Nat) : Int) < (((y27.2.1.map SendT.cells).length : Nat) : Int)) = true := by rw [decide_eq_true_eq]; (try simp only [se_len, se_ch, List.length_map] at hk22); (try simp only [se_len, se_ch, List.length_map]); omega
                          refine LoopW.round TT_ok [0, 1, 2, 3, 4, 10, 11, 13, 14, 15, 16, 18, 19, 20, 21, 22, 23, 24, 25, 26, 27, 28, 30, 31, 33, 34, 36, 37, 39, 40, 41, 42, 44, 45, 46, 47, 48, 49, 50, 69, 70, 71, 72, 96, 103, 104, 105, 106, 121, 157, 159, 172, 174, 208, 210, 219, 220, 221, 222, 266, 271, 273, 274, 275, 283, 287, 288, 289, 297, 313, 316, 317, 318, 319, 323, 333] ?_
                          conv => whnf
                          repeat' first | with_reducible rfl | with_reducible exact True.intro | with_reducible assumption | refine parkI ?_ | (refine And.intro ?_ ?_ <;> conv => whnf) | fail
                          refine parkE (fun hc => ?_) (fun hc => ?_)
                          · clear hd
                            conv => whnf
                            repeat' first | with_reducible rfl | with_reducible exact True.intro | with_reducible assumption | refine parkI ?_ | (refine ⟨_, (kixF (f := SendT.cells) hx22), ?_⟩; conv => whnf) | exact clA _ | (refine And.intro ?_ ?_ <;> conv => whnf) | exact clG _ | (refine gand ?_ h; assumption) | fail
                            refine parkE (fun hc => ?_) (fun hc => ?_)
                            · replace b22 := condT hc b22
                              conv => whnf
                              have e := Option.some.inj b22
                              replace e := hret22 _ e.symm
                              rw [e] at r22
                              replace e := Option.some.inj r22
                              replace e := hret17 _ e.symm
                              rw [e] at r17
                              replace e := Option.some.inj r17
                              subst e
                              repeat' first | with_reducible rfl | with_reducible exact True.intro | with_reducible assumption | exact clA _ | (refine And.intro ?_ ?_ <;> conv => whnf) | exact clG _ | (refine gand ?_ h; assumption) | exact clN _ | fail
                            · replace b22 := condF hc b22
                              conv => whnf
                              repeat' first | with_reducible rfl | with_reducible exact True.intro | with_reducible assumption | refine parkI ?_ | (refine And.intro ?_ ?_ <;> conv => whnf) | fail
                              have e := Option.some.inj b22
                              refine LoopW.norm [(0, (I (((IntKind.i64.wrap (((a0).tmod 6) + 6))).tmod 6))), (2, (I (IntKind.i64.wrap (1 + (((IntKind.i64.wrap (((a2).tmod 20) + 20))).tmod 20))))), (3, (I (IntKind.i64.wrap (1 + (((IntKind.i64.wrap (((a3).tmod 4) + 4))).tmod 4))))), (14, (LV.ptr 3 0 0)), (16, (I ((((s16.map iC) ++ [[(I 1)]]).length : Nat) : Int))), (22, (LV.ptr 5 0 0)), (25, (LV.ptr 6 0 0)), (26, (I y29.2.1)), (28, (I 0)), (103, (LV.ro 4 ((a4.map A4_Int.cells).take ((mn (((a4.map A4_Int.cells).length : Nat) : Int) 60) : Int).toNat))), (104, (I ((((a4.map A4_Int.cells).take ((mn (((a4.map A4_Int.cells).length : Nat) : Int) 60) : Int).toNat).length : Nat) : Int))), (105, (I ((k17 : Nat) : Int))), (219, (LV.ro 6 (y27.2.1.map SendT.cells))), (220, (I (((y27.2.1.map SendT.cells).length : Nat) : Int))), (221, (I ((k22 + 1 : Nat) : Int)))] 7 [(3, (.row 85 7 [[(I s17.Self.ID), (LV.ro 1 (s17.Self.Costs.map iC)), (LV.ro 1 (s17.Self.Ups.map bC)), (LV.ro 6 (s17.Self.Infos.map InfoT.cells)), (LV.ro 2 (s17.States.map PortStateT.cells)), (I s17.Max), (I s17.Delay)]])), (5, (.row 85 7 [[(I y27.1.Self.ID), (LV.ro 1 (y27.1.Self.Costs.map iC)), (LV.ro 1 (y27.1.Self.Ups.map bC)), (LV.ro 6 (y27.1.Self.Infos.map InfoT.cells)), (LV.ro 2 (y27.1.States.map PortStateT.cells)), (I y27.1.Max), (I y27.1.Delay)]])), (6, (.row 87 4 [[(I y29.1.Root), (I y29.1.Cost), (I y29.1.Bridge), (I y29.1.Port)]]))] ⟨rfl, rfl, rfl, rfl, rfl, rfl, rfl, rfl, rfl, rfl, rfl, rfl, rfl, rfl, (congrArg (LV.int .i64) (w64_nat _ (by omega))), trivial⟩ ⟨⟨rfl, rfl, blT⟩, ⟨⟨rfl, rfl, blT⟩, ⟨⟨rfl, rfl, blT⟩, trivial⟩⟩⟩ blT rfl (K22 _ e.symm)
                          · exact (Bool.false_ne_true (hc.symm.trans hd)).elim
                  · replace b17 := condF hc b17
                    conv => whnf
                    replace b17 := bindS b17
                    obtain ⟨y37, hy37, b17⟩ := b17
                    have c38 : CallP Try.prog 55 [(LV.agg [(I s17.Self.ID), (LV.ro 1 (s17.Self.Costs.map iC)), (LV.ro 1 (s17.Self.Ups.map bC)), (LV.ro 6 (s17.Self.Infos.map InfoT.cells)), (LV.ro 2 (s17.States.map PortStateT.cells)), (I s17.Max), (I s17.Delay)]), (I (((IntKind.i64.wrap (((x17.c1).tmod ((((s16.map iC) ++ [[(I 1)]]).length : Nat) : Int)) + ((((s16.map iC) ++ [[(I 1)]]).length : Nat) : Int)))).tmod ((((s16.map iC) ++ [[(I 1)]]).length : Nat) : Int))), (LV.agg [(I (((IntKind.i64.wrap (((x17.c2).tmod 6) + 6))).tmod 6)), (I (((IntKind.i64.wrap (((x17.c3).tmod 30) + 30))).tmod 30)), (I (((IntKind.i64.wrap (((x17.c3).tmod 6) + 6))).tmod 6)), (I (((IntKind.i64.wrap (((x17.c2).tmod 8) + 8))).tmod 8)), (I (((IntKind.i64.wrap (((x17.c3).tmod 25) + 25))).tmod 25))])] (LV.tup [(LV.agg [(I y37.1.Self.ID), (LV.ro 1 (y37.1.Self.Costs.map iC)), (LV.ro 1 (y37.1.Self.Ups.map bC)), (LV.ro 6 (y37.1.Self.Infos.map InfoT.cells)), (LV.ro 2 (y37.1.States.map PortStateT.cells)), (I y37.1.Max), (I y37.1.Delay)]), (LV.bool y37.2.1), (I y37.2.2)]) := by first | exact c_stp_Hear s17 (((IntKind.i64.wrap (((x17.c1).tmod (((s16 ++ ([1] : (List Int))).length : Nat) : Int)) + (((s16 ++ ([1] : (List Int))).length : Nat) : Int)))).tmod (((s16 ++ ([1] : (List Int))).length : Nat) : Int)) (⟨(⟨(((IntKind.i64.wrap (((x17.c2).tmod 6) + 6))).tmod 6), (((IntKind.i64.wrap (((x17.c3).tmod 30) + 30))).tmod 30), (((IntKind.i64.wrap (((x17.c3).tmod 6) + 6))).tmod 6), (((IntKind.i64.wrap (((x17.c2).tmod 8) + 8))).tmod 8)⟩ : VecT), (((IntKind.i64.wrap (((x17.c3).tmod 25) + 25))).tmod 25)⟩ : ConfigT) _ hy37 | (simpa only [se_map, se_byL, se_len, se_ch, List.length_map] using c_stp_Hear s17 (((IntKind.i64.wrap (((x17.c1).tmod (((s16 ++ ([1] : (List Int))).length : Nat) : Int)) + (((s16 ++ ([1] : (List Int))).length : Nat) : Int)))).tmod (((s16 ++ ([1] : (List Int))).length : Nat) : Int)) (⟨(⟨(((IntKind.i64.wrap (((x17.c2).tmod 6) + 6))).tmod 6), (((IntKind.i64.wrap (((x17.c3).tmod 30) + 30))).tmod 30), (((IntKind.i64.wrap (((x17.c3).tmod 6) + 6))).tmod 6), (((IntKind.i64.wrap (((x17.c2).tmod 8) + 8))).tmod 8)⟩ : VecT), (((IntKind.i64.wrap (((x17.c3).tmod 25) + 25))).tmod 25)⟩ : ConfigT) _ hy37) | (simpa only [se_map, se_byL, se_len, se_ch, List.length_map, ConfigT.cells, VecT.cells] using c_stp_Hear s17 (((IntKind.i64.wrap (((x17.c1).tmod (((s16 ++ ([1] : (List Int))).length : Nat) : Int)) + (((s16 ++ ([1] : (List Int))).length : Nat) : Int)))).tmod (((s16 ++ ([1] : (List Int))).length : Nat) : Int)) (⟨(⟨(((IntKind.i64.wrap (((x17.c2).tmod 6) + 6))).tmod 6), (((IntKind.i64.wrap (((x17.c3).tmod 30) + 30))).tmod 30), (((IntKind.i64.wrap (((x17.c3).tmod 6) + 6))).tmod 6), (((IntKind.i64.wrap (((x17.c2).tmod 8) + 8))).tmod 8)⟩ : VecT), (((IntKind.i64.wrap (((x17.c3).tmod 25) + 25))).tmod 25)⟩ : ConfigT) _ hy37)
                    repeat' first | with_reducible rfl | with_reducible exact True.intro | with_reducible assumption | refine parkI ?_ | (refine CallP.use c38 ?_; conv => whnf) | exact (⟨by decide, by decide⟩ : (0 : Int) ≤ 2 ∧ (2 : Int) < 4) | exact (by decide : ((6 : Int) ≠ 0)) | exact (by decide : ((6 : Int) ≠ 0)) | exact (⟨by decide, by decide⟩ : (0 : Int) ≤ 3 ∧ (3 : Int) < 4) | exact (by decide : ((30 : Int) ≠ 0)) | exact (by decide : ((30 : Int) ≠ 0)) | exact (by decide : ((6 : Int) ≠ 0)) | exact (by decide : ((6 : Int) ≠ 0)) | exact (by decide : ((8 : Int) ≠ 0)) | exact (by decide : ((8 : Int) ≠ 0)) | exact (by decide : ((25 : Int) ≠ 0)) | exact (by decide : ((25 : Int) ≠ 0)) | (refine And.intro ?_ ?_ <;> conv => whnf) | fail
                    refine parkE (fun hc => ?_) (fun hc => ?_)
                    · replace b17 := condT hc b17
                      conv => whnf
                      have e := Option.some.inj b17
                      replace e := hret17 _ e.symm
                      rw [e] at r17
                      replace e := Option.some.inj r17
                      subst e
                      repeat' first | with_reducible rfl | with_reducible exact True.intro | with_reducible assumption | exact clA _ | (refine And.intro ?_ ?_ <;> conv => whnf) | exact clG _ | (refine gand ?_ h; assumption) | exact clN _ | fail
                    · replace b17 := condF hc b17
                      conv => whnf
                      replace b17 := bindS b17
                      obtain ⟨y39, hy39, b17⟩ := b17
                      have c40 := c_stp_Right y37.1 _ hy39
                      repeat' first | with_reducible rfl | with_reducible exact True.intro | with_reducible assumption | refine parkI ?_ | (refine CallP.use c40 ?_; conv => whnf) | (refine And.intro ?_ ?_ <;> conv => whnf) | fail
                      refine parkE (fun hc => ?_) (fun hc => ?_)
                      · replace b17 := condT hc b17
                        conv => whnf
                        have e := Option.some.inj b17
                        replace e := hret17 _ e.symm
                        rw [e] at r17
                        replace e := Option.some.inj r17
                        subst e
                        repeat' first | with_reducible rfl | with_reducible exact True.intro | with_reducible assumption | exact clA _ | (refine And.intro ?_ ?_ <;> conv => whnf) | exact clG _ | (refine gand ?_ h; assumption) | exact clN _ | fail
                      · replace b17 := condF hc b17
                        conv => whnf
                        repeat' first | with_reducible rfl | with_reducible exact True.intro | with_reducible assumption | refine parkI ?_ | (refine And.intro ?_ ?_ <;> conv => whnf) | fail
                        have e := Option.some.inj b17
                        refine LoopW.norm [(0, (I (((IntKind.i64.wrap (((a0).tmod 6) + 6))).tmod 6))), (2, (I (IntKind.i64.wrap (1 + (((IntKind.i64.wrap (((a2).tmod 20) + 20))).tmod 20))))), (3, (I (IntKind.i64.wrap (1 + (((IntKind.i64.wrap (((a3).tmod 4) + 4))).tmod 4))))), (14, (LV.ptr 3 0 0)), (16, (I ((((s16.map iC) ++ [[(I 1)]]).length : Nat) : Int))), (103, (LV.ro 4 ((a4.map A4_Int.cells).take ((mn (((a4.map A4_Int.cells).length : Nat) : Int) 60) : Int).toNat))), (104, (I ((((a4.map A4_Int.cells).take ((mn (((a4.map A4_Int.cells).length : Nat) : Int) 60) : Int).toNat).length : Nat) : Int))), (105, (I ((k17 + 1 : Nat) : Int)))] 4 [(3, (.row 85 7 [[(I y37.1.Self.ID), (LV.ro 1 (y37.1.Self.Costs.map iC)), (LV.ro 1 (y37.1.Self.Ups.map bC)), (LV.ro 6 (y37.1.Self.Infos.map InfoT.cells)), (LV.ro 2 (y37.1.States.map PortStateT.cells)), (I y37.1.Max), (I y37.1.Delay)]]))] ⟨rfl, rfl, rfl, rfl, rfl, rfl, rfl, (congrArg (LV.int .i64) (w64_nat _ (by omega))), trivial⟩ ⟨⟨rfl, rfl, blT⟩, trivial⟩ blT rfl (K17 _ e.symm)
                · replace b17 := condF hc b17
                  conv => whnf
                  repeat' first | with_reducible rfl | with_reducible exact True.intro | with_reducible assumption | refine parkI ?_ | (refine And.intro ?_ ?_ <;> conv => whnf) | fail
                  refine parkE (fun hc => ?_) (fun hc => ?_)
                  · replace b17 := condT hc b17
                    conv => whnf
                    replace b17 := bindS b17
                    obtain ⟨y41, hy41, b17⟩ := b17
                    have c42 := c_stp_Tick s17 _ hy41
                    replace b17 := bindS b17
                    obtain ⟨y43, hy43, b17⟩ := b17
                    have c44 := c_role_Root y41.1.Self _ hy43
                    repeat' first | with_reducible rfl | with_reducible exact True.intro | with_reducible assumption | refine parkI ?_ | (refine CallP.use c42 ?_; conv => whnf) | (refine CallP.use c44 ?_; conv => whnf) | exact clA _ | (refine And.intro ?_ ?_ <;> conv => whnf) | exact clG _ | (refine gand ?_ h; assumption) | fail
                    refine parkE (fun hc => ?_) (fun hc => ?_)
                    · replace b17 := condT (by first | exact hc | simpa only [se_len, se_ch, List.length_map] using hc) b17
                      conv => whnf
                      have e := Option.some.inj b17
                      replace e := hret17 _ e.symm
                      rw [e] at r17
                      replace e := Option.some.inj r17
                      subst e
                      repeat' first | with_reducible rfl | with_reducible exact True.intro | with_reducible assumption | exact clA _ | (refine And.intro ?_ ?_ <;> conv => whnf) | exact clG _ | (refine gand ?_ h; assumption) | exact clN _ | fail
                    · replace b17 := condF (by first | exact hc | simpa only [se_len, se_ch, List.length_map] using hc) b17
                      conv => whnf
                      repeat' first | with_reducible rfl | with_reducible exact True.intro | with_reducible assumption | refine parkI ?_ | (refine And.intro ?_ ?_ <;> conv => whnf) | fail
                      refine parkE (fun hc => ?_) (fun hc => ?_)
                      · replace b17 := condT hc b17
                        conv => whnf
                        replace b17 := bindS b17
                        obtain ⟨v45, hv45, b17⟩ := b17
                        have i46 := gixF (f := InfoT.cells) hv45
                        repeat' first | with_reducible rfl | with_reducible exact True.intro | with_reducible assumption | refine parkI ?_ | (refine ⟨_, i46, ?_⟩; conv => whnf) | (refine And.intro ?_ ?_ <;> conv => whnf) | fail
                        replace b17 := aftS b17
                        obtain ⟨O24, hO24, r24⟩ := b17
                        refine LoopW.norm [(0, (I (((IntKind.i64.wrap (((a0).tmod 6) + 6))).tmod 6))), (2, (I (IntKind.i64.wrap (1 + (((IntKind.i64.wrap (((a2).tmod 20) + 20))).tmod 20))))), (3, (I (IntKind.i64.wrap (1 + (((IntKind.i64.wrap (((a3).tmod 4) + 4))).tmod 4))))), (14, (LV.ptr 3 0 0)), (16, (I ((((s16.map iC) ++ [[(I 1)]]).length : Nat) : Int))), (22, (LV.ptr 5 0 0)), (25, (LV.ptr 6 0 0)), (26, (I y43.2.1)), (28, (I (IntKind.i64.wrap (v45.Age + 1)))), (103, (LV.ro 4 ((a4.map A4_Int.cells).take ((mn (((a4.map A4_Int.cells).length : Nat) : Int) 60) : Int).toNat))), (104, (I ((((a4.map A4_Int.cells).take ((mn (((a4.map A4_Int.cells).length : Nat) : Int) 60) : Int).toNat).length : Nat) : Int))), (105, (I ((k17 : Nat) : Int))), (219, (LV.ro 6 (y41.2.1.map SendT.cells))), (220, (I (((y41.2.1.map SendT.cells).length : Nat) : Int))), (221, (I ((0 : Nat) : Int)))] 7 [(3, (.row 85 7 [[(I s17.Self.ID), (LV.ro 1 (s17.Self.Costs.map iC)), (LV.ro 1 (s17.Self.Ups.map bC)), (LV.ro 6 (s17.Self.Infos.map InfoT.cells)), (LV.ro 2 (s17.States.map PortStateT.cells)), (I s17.Max), (I s17.Delay)]])), (5, (.row 85 7 [[(I y41.1.Self.ID), (LV.ro 1 (y41.1.Self.Costs.map iC)), (LV.ro 1 (y41.1.Self.Ups.map bC)), (LV.ro 6 (y41.1.Self.Infos.map InfoT.cells)), (LV.ro 2 (y41.1.States.map PortStateT.cells)), (I y41.1.Max), (I y41.1.Delay)]])), (6, (.row 87 4 [[(I y43.1.Root), (I y43.1.Cost), (I y43.1.Bridge), (I y43.1.Port)]]))] ⟨rfl, rfl, rfl, rfl, rfl, rfl, rfl, rfl, rfl, rfl, rfl, rfl, rfl, rfl, rfl, trivial⟩ ⟨⟨rfl, rfl, blT⟩, ⟨⟨rfl, rfl, blT⟩, ⟨⟨rfl, rfl, blT⟩, trivial⟩⟩⟩ blT rfl ?_
                        refine LoopW.forR (fun k24 s24 => [(0, (I (((IntKind.i64.wrap (((a0).tmod 6) + 6))).tmod 6))), (2, (I (IntKind.i64.wrap (1 + (((IntKind.i64.wrap (((a2).tmod 20) + 20))).tmod 20))))), (3, (I (IntKind.i64.wrap (1 + (((IntKind.i64.wrap (((a3).tmod 4) + 4))).tmod 4))))), (14, (LV.ptr 3 0 0)), (16, (I ((((s16.map iC) ++ [[(I 1)]]).length : Nat) : Int))), (22, (LV.ptr 5 0 0)), (25, (LV.ptr 6 0 0)), (26, (I y43.2.1)), (28, (I (IntKind.i64.wrap (v45.Age + 1)))), (103, (LV.ro 4 ((a4.map A4_Int.cells).take ((mn (((a4.map A4_Int.cells).length : Nat) : Int) 60) : Int).toNat))), (104, (I ((((a4.map A4_Int.cells).take ((mn (((a4.map A4_Int.cells).length : Nat) : Int) 60) : Int).toNat).length : Nat) : Int))), (105, (I ((k17 : Nat) : Int))), (219, (LV.ro 6 (y41.2.1.map SendT.cells))), (220, (I (((y41.2.1.map SendT.cells).length : Nat) : Int))), (221, (I ((k24 : Nat) : Int)))]) (fun s24 => ⟨7, [(3, (.row 85 7 [[(I s17.Self.ID), (LV.ro 1 (s17.Self.Costs.map iC)), (LV.ro 1 (s17.Self.Ups.map bC)), (LV.ro 6 (s17.Self.Infos.map InfoT.cells)), (LV.ro 2 (s17.States.map PortStateT.cells)), (I s17.Max), (I s17.Delay)]])), (5, (.row 85 7 [[(I y41.1.Self.ID), (LV.ro 1 (y41.1.Self.Costs.map iC)), (LV.ro 1 (y41.1.Self.Ups.map bC)), (LV.ro 6 (y41.1.Self.Infos.map InfoT.cells)), (LV.ro 2 (y41.1.States.map PortStateT.cells)), (I y41.1.Max), (I y41.1.Delay)]])), (6, (.row 87 4 [[(I y43.1.Root), (I y43.1.Cost), (I y43.1.Bridge), (I y43.1.Port)]]))]⟩) hO24 (fun hl24 s24 hs24 => ?_) (fun hl24 k24 x24 s24 o24 hk24 hx24 b24 K24 hret24 hbrk24 => ?_)
                        · rw [hs24] at r24
                          dsimp only [aftM] at r24
                          have hd : decide (((y41.2.1.length : Nat) : Int) < (((y41.2.1.map SendT.cells).length : Nat) : Int)) = false := by rw [decide_eq_false_iff_not]; (try simp only [se_len, se_ch, List.length_map]); omega
                          refine LoopW.round TT_ok [0, 1, 2, 3, 4, 10, 11, 13, 14, 15, 16, 18, 19, 20, 21, 22, 23, 24, 25, 26, 27, 28, 30, 31, 33, 34, 36, 37, 39, 40, 41, 42, 44, 45, 46, 47, 48, 49, 50, 69, 70, 71, 72, 96, 103, 104, 105, 106, 121, 157, 159, 172, 174, 208, 210, 219, 220, 221, 222, 266, 271, 273, 274, 275, 283, 287, 288, 289, 297, 313, 316, 317, 318, 319, 323, 333] ?_
                          conv => whnf
                          repeat' first | with_reducible rfl | with_reducible exact True.intro | with_reducible assumption | refine parkI ?_ | (refine And.intro ?_ ?_ <;> conv => whnf) | fail
                          refine parkE (fun hc => ?_) (fun hc => ?_)
                          · exact (Bool.false_ne_true (hd.symm.trans hc)).elim
                          · clear hd
                            conv => whnf
                            replace r24 := bindS r24
                            obtain ⟨y47, hy47, r24⟩ := r24
                            have c48 := c_stp_Right y41.1 _ hy47
                            repeat' first | with_reducible rfl | with_reducible exact True.intro | with_reducible assumption | refine parkI ?_ | (refine CallP.use c48 ?_; conv => whnf) | (refine And.intro ?_ ?_ <;> conv => whnf) | fail
                            refine parkE (fun hc => ?_) (fun hc => ?_)
                            · replace r24 := condT hc r24
                              conv => whnf
                              have e := Option.some.inj r24
                              replace e := hret17 _ e.symm
                              rw [e] at r17
                              replace e := Option.some.inj r17
                              subst e
                              repeat' first | with_reducible rfl | with_reducible exact True.intro | with_reducible assumption | exact clA _ | (refine And.intro ?_ ?_ <;> conv => whnf) | exact clG _ | (refine gand ?_ h; assumption) | exact clN _ | fail
                            · replace r24 := condF hc r24
                              conv => whnf
                              repeat' first | with_reducible rfl | with_reducible exact True.intro | with_reducible assumption | refine parkI ?_ | (refine And.intro ?_ ?_ <;> conv => whnf) | fail
                              have e := Option.some.inj r24
                              refine LoopW.norm [(0, (I (((IntKind.i64.wrap (((a0).tmod 6) + 6))).tmod 6))), (2, (I (IntKind.i64.wrap (1 + (((IntKind.i64.wrap (((a2).tmod 20) + 20))).tmod 20))))), (3, (I (IntKind.i64.wrap (1 + (((IntKind.i64.wrap (((a3).tmod 4) + 4))).tmod 4))))), (14, (LV.ptr 3 0 0)), (16, (I ((((s16.map iC) ++ [[(I 1)]]).length : Nat) : Int))), (103, (LV.ro 4 ((a4.map A4_Int.cells).take ((mn (((a4.map A4_Int.cells).length : Nat) : Int) 60) : Int).toNat))), (104, (I ((((a4.map A4_Int.cells).take ((mn (((a4.map A4_Int.cells).length : Nat) : Int) 60) : Int).toNat).length : Nat) : Int))), (105, (I ((k17 + 1 : Nat) : Int)))] 4 [(3, (.row 85 7 [[(I y41.1.Self.ID), (LV.ro 1 (y41.1.Self.Costs.map iC)), (LV.ro 1 (y41.1.Self.Ups.map bC)), (LV.ro 6 (y41.1.Self.Infos.map InfoT.cells)), (LV.ro 2 (y41.1.States.map PortStateT.cells)), (I y41.1.Max), (I y41.1.Delay)]]))] ⟨rfl, rfl, rfl, rfl, rfl, rfl, rfl, (congrArg (LV.int .i64) (w64_nat _ (by omega))), trivial⟩ ⟨⟨rfl, rfl, blT⟩, trivial⟩ blT rfl (K17 _ e.symm)
                        · unfold law12_StpAges_b24 at b24
                          have hd : decide (((k24 : Nat) : Int) < (((y41.2.1.map SendT.cells).length : Nat) : Int)) = true := by rw [decide_eq_true_eq]; (try simp only [se_len, se_ch, List.length_map] at hk24); (try simp only [se_len, se_ch, List.length_map]); omega
                          refine LoopW.round TT_ok [0, 1, 2, 3, 4, 10, 11, 13, 14, 15, 16, 18, 19, 20, 21, 22, 23, 24, 25, 26, 27, 28, 30, 31, 33, 34, 36, 37, 39, 40, 41, 42, 44, 45, 46, 47, 48, 49, 50, 69, 70, 71, 72, 96, 103, 104, 105, 106, 121, 157, 159, 172, 174, 208, 210, 219, 220, 221, 222, 266, 271, 273, 274, 275, 283, 287, 288, 289, 297, 313, 316, 317, 318, 319, 323, 333] ?_
                          conv => whnf
                          repeat' first | with_reducible rfl | with_reducible exact True.intro | with_reducible assumption | refine parkI ?_ | (refine And.intro ?_ ?_ <;> conv => whnf) | fail
                          refine parkE (fun hc => ?_) (fun hc => ?_)
                          · clear hd
                            conv => whnf
                            repeat' first | with_reducible rfl | with_reducible exact True.intro | with_reducible assumption | refine parkI ?_ | (refine ⟨_, (kixF (f := SendT.cells) hx24), ?_⟩; conv => whnf) | exact clA _ | (refine And.intro ?_ ?_ <;> conv => whnf) | exact clG _ | (refine gand ?_ h; assumption) | fail
                            refine parkE (fun hc => ?_) (fun hc => ?_)
                            · replace b24 := condT hc b24
                              conv => whnf
                              have e := Option.some.inj b24
                              replace e := hret24 _ e.symm
                              rw [e] at r24
                              replace e := Option.some.inj r24
                              replace e := hret17 _ e.symm
                              rw [e] at r17
                              replace e := Option.some.inj r17
                              subst e
                              repeat' first | with_reducible rfl | with_reducible exact True.intro | with_reducible assumption | exact clA _ | (refine And.intro ?_ ?_ <;> conv => whnf) | exact clG _ | (refine gand ?_ h; assumption) | exact clN _ | fail
                            · replace b24 := condF hc b24
                              conv => whnf
                              repeat' first | with_reducible rfl | with_reducible exact True.intro | with_reducible assumption | refine parkI ?_ | (refine And.intro ?_ ?_ <;> conv => whnf) | fail
                              have e := Option.some.inj b24
                              refine LoopW.norm [(0, (I (((IntKind.i64.wrap (((a0).tmod 6) + 6))).tmod 6))), (2, (I (IntKind.i64.wrap (1 + (((IntKind.i64.wrap (((a2).tmod 20) + 20))).tmod 20))))), (3, (I (IntKind.i64.wrap (1 + (((IntKind.i64.wrap (((a3).tmod 4) + 4))).tmod 4))))), (14, (LV.ptr 3 0 0)), (16, (I ((((s16.map iC) ++ [[(I 1)]]).length : Nat) : Int))), (22, (LV.ptr 5 0 0)), (25, (LV.ptr 6 0 0)), (26, (I y43.2.1)), (28, (I (IntKind.i64.wrap (v45.Age + 1)))), (103, (LV.ro 4 ((a4.map A4_Int.cells).take ((mn (((a4.map A4_Int.cells).length : Nat) : Int) 60) : Int).toNat))), (104, (I ((((a4.map A4_Int.cells).take ((mn (((a4.map A4_Int.cells).length : Nat) : Int) 60) : Int).toNat).length : Nat) : Int))), (105, (I ((k17 : Nat) : Int))), (219, (LV.ro 6 (y41.2.1.map SendT.cells))), (220, (I (((y41.2.1.map SendT.cells).length : Nat) : Int))), (221, (I ((k24 + 1 : Nat) : Int)))] 7 [(3, (.row 85 7 [[(I s17.Self.ID), (LV.ro 1 (s17.Self.Costs.map iC)), (LV.ro 1 (s17.Self.Ups.map bC)), (LV.ro 6 (s17.Self.Infos.map InfoT.cells)), (LV.ro 2 (s17.States.map PortStateT.cells)), (I s17.Max), (I s17.Delay)]])), (5, (.row 85 7 [[(I y41.1.Self.ID), (LV.ro 1 (y41.1.Self.Costs.map iC)), (LV.ro 1 (y41.1.Self.Ups.map bC)), (LV.ro 6 (y41.1.Self.Infos.map InfoT.cells)), (LV.ro 2 (y41.1.States.map PortStateT.cells)), (I y41.1.Max), (I y41.1.Delay)]])), (6, (.row 87 4 [[(I y43.1.Root), (I y43.1.Cost), (I y43.1.Bridge), (I y43.1.Port)]]))] ⟨rfl, rfl, rfl, rfl, rfl, rfl, rfl, rfl, rfl, rfl, rfl, rfl, rfl, rfl, (congrArg (LV.int .i64) (w64_nat _ (by omega))), trivial⟩ ⟨⟨rfl, rfl, blT⟩, ⟨⟨rfl, rfl, blT⟩, ⟨⟨rfl, rfl, blT⟩, trivial⟩⟩⟩ blT rfl (K24 _ e.symm)
                          · exact (Bool.false_ne_true (hc.symm.trans hd)).elim
                      · replace b17 := condF hc b17
                        conv => whnf
                        repeat' first | with_reducible rfl | with_reducible exact True.intro | with_reducible assumption | refine parkI ?_ | (refine And.intro ?_ ?_ <;> conv => whnf) | fail
                        replace b17 := aftS b17
                        obtain ⟨O25, hO25, r25⟩ := b17
                        refine LoopW.norm [(0, (I (((IntKind.i64.wrap (((a0).tmod 6) + 6))).tmod 6))), (2, (I (IntKind.i64.wrap (1 + (((IntKind.i64.wrap (((a2).tmod 20) + 20))).tmod 20))))), (3, (I (IntKind.i64.wrap (1 + (((IntKind.i64.wrap (((a3).tmod 4) + 4))).tmod 4))))), (14, (LV.ptr 3 0 0)), (16, (I ((((s16.map iC) ++ [[(I 1)]]).length : Nat) : Int))), (22, (LV.ptr 5 0 0)), (25, (LV.ptr 6 0 0)), (26, (I y43.2.1)), (28, (I 0)), (103, (LV.ro 4 ((a4.map A4_Int.cells).take ((mn (((a4.map A4_Int.cells).length : Nat) : Int) 60) : Int).toNat))), (104, (I ((((a4.map A4_Int.cells).take ((mn (((a4.map A4_Int.cells).length : Nat) : Int) 60) : Int).toNat).length : Nat) : Int))), (105, (I ((k17 : Nat) : Int))), (219, (LV.ro 6 (y41.2.1.map SendT.cells))), (220, (I (((y41.2.1.map SendT.cells).length : Nat) : Int))), (221, (I ((0 : Nat) : Int)))] 7 [(3, (.row 85 7 [[(I s17.Self.ID), (LV.ro 1 (s17.Self.Costs.map iC)), (LV.ro 1 (s17.Self.Ups.map bC)), (LV.ro 6 (s17.Self.Infos.map InfoT.cells)), (LV.ro 2 (s17.States.map PortStateT.cells)), (I s17.Max), (I s17.Delay)]])), (5, (.row 85 7 [[(I y41.1.Self.ID), (LV.ro 1 (y41.1.Self.Costs.map iC)), (LV.ro 1 (y41.1.Self.Ups.map bC)), (LV.ro 6 (y41.1.Self.Infos.map InfoT.cells)), (LV.ro 2 (y41.1.States.map PortStateT.cells)), (I y41.1.Max), (I y41.1.Delay)]])), (6, (.row 87 4 [[(I y43.1.Root), (I y43.1.Cost), (I y43.1.Bridge), (I y43.1.Port)]]))] ⟨rfl, rfl, rfl, rfl, rfl, rfl, rfl, rfl, rfl, rfl, rfl, rfl, rfl, rfl, rfl, trivial⟩ ⟨⟨rfl, rfl, blT⟩, ⟨⟨rfl, rfl, blT⟩, ⟨⟨rfl, rfl, blT⟩, trivial⟩⟩⟩ blT rfl ?_
                        refine LoopW.forR (fun k25 s25 => [(0, (I (((IntKind.i64.wrap (((a0).tmod 6) + 6))).tmod 6))), (2, (I (IntKind.i64.wrap (1 + (((IntKind.i64.wrap (((a2).tmod 20) + 20))).tmod 20))))), (3, (I (IntKind.i64.wrap (1 + (((IntKind.i64.wrap (((a3).tmod 4) + 4))).tmod 4))))), (14, (LV.ptr 3 0 0)), (16, (I ((((s16.map iC) ++ [[(I 1)]]).length : Nat) : Int))), (22, (LV.ptr 5 0 0)), (25, (LV.ptr 6 0 0)), (26, (I y43.2.1)), (28, (I 0)), (103, (LV.ro 4 ((a4.map A4_Int.cells).take ((mn (((a4.map A4_Int.cells).length : Nat) : Int) 60) : Int).toNat))), (104, (I ((((a4.map A4_Int.cells).take ((mn (((a4.map A4_Int.cells).length : Nat) : Int) 60) : Int).toNat).length : Nat) : Int))), (105, (I ((k17 : Nat) : Int))), (219, (LV.ro 6 (y41.2.1.map SendT.cells))), (220, (I (((y41.2.1.map SendT.cells).length : Nat) : Int))), (221, (I ((k25 : Nat) : Int)))]) (fun s25 => ⟨7, [(3, (.row 85 7 [[(I s17.Self.ID), (LV.ro 1 (s17.Self.Costs.map iC)), (LV.ro 1 (s17.Self.Ups.map bC)), (LV.ro 6 (s17.Self.Infos.map InfoT.cells)), (LV.ro 2 (s17.States.map PortStateT.cells)), (I s17.Max), (I s17.Delay)]])), (5, (.row 85 7 [[(I y41.1.Self.ID), (LV.ro 1 (y41.1.Self.Costs.map iC)), (LV.ro 1 (y41.1.Self.Ups.map bC)), (LV.ro 6 (y41.1.Self.Infos.map InfoT.cells)), (LV.ro 2 (y41.1.States.map PortStateT.cells)), (I y41.1.Max), (I y41.1.Delay)]])), (6, (.row 87 4 [[(I y43.1.Root), (I y43.1.Cost), (I y43.1.Bridge), (I y43.1.Port)]]))]⟩) hO25 (fun hl25 s25 hs25 => ?_) (fun hl25 k25 x25 s25 o25 hk25 hx25 b25 K25 hret25 hbrk25 => ?_)
                        · rw [hs25] at r25
                          dsimp only [aftM] at r25
                          have hd : decide (((y41.2.1.length : Nat) : Int) < (((y41.2.1.map SendT.cells).length : Nat) : Int)) = false := by rw [decide_eq_false_iff_not]; (try simp only [se_len, se_ch, List.length_map]); omega
                          refine LoopW.round TT_ok [0, 1, 2, 3, 4, 10, 11, 13, 14, 15, 16, 18, 19, 20, 21, 22, 23, 24, 25, 26, 27, 28, 30, 31, 33, 34, 36, 37, 39, 40, 41, 42, 44, 45, 46, 47, 48, 49, 50, 69, 70, 71, 72, 96, 103, 104, 105, 106, 121, 157, 159, 172, 174, 208, 210, 219, 220, 221, 222, 266, 271, 273, 274, 275, 283, 287, 288, 289, 297, 313, 316, 317, 318, 319, 323, 333] ?_
                          conv => whnf
                          repeat' first | with_reducible rfl | with_reducible exact True.intro | with_reducible assumption | refine parkI ?_ | (refine And.intro ?_ ?_ <;> conv => whnf) | fail
                          refine parkE (fun hc => ?_) (fun hc => ?_)
                          · exact (Bool.false_ne_true (hd.symm.trans hc)).elim
                          · clear hd
                            conv => whnf
                            replace r25 := bindS r25
                            obtain ⟨y49, hy49, r25⟩ := r25
                            have c50 := c_stp_Right y41.1 _ hy49
                            repeat' first | with_reducible rfl | with_reducible exact True.intro | with_reducible assumption | refine parkI ?_ | (refine CallP.use c50 ?_; conv => whnf) | (refine And.intro ?_ ?_ <;> conv => whnf) | fail
                            refine parkE (fun hc => ?_) (fun hc => ?_)
                            · replace r25 := condT hc r25
                              conv => whnf
                              have e := Option.some.inj r25
                              replace e := hret17 _ e.symm
                              rw [e] at r17
                              replace e := Option.some.inj r17
                              subst e
                              repeat' first | with_reducible rfl | with_reducible exact True.intro | with_reducible assumption | exact clA _ | (refine And.intro ?_ ?_ <;> conv => whnf) | exact clG _ | (refine gand ?_ h; assumption) | exact clN _ | fail
                            · replace r25 := condF hc r25
                              conv => whnf
                              repeat' first | with_reducible rfl | with_reducible exact True.intro | with_reducible assumption | refine parkI ?_ | (refine And.intro ?_ ?_ <;> conv => whnf) | fail
                              have e := Option.some.inj r25
                              refine LoopW.norm [(0, (I (((IntKind.i64.wrap (((a0).tmod 6) + 6))).tmod 6))), (2, (I (IntKind.i64.wrap (1 + (((IntKind.i64.wrap (((a2).tmod 20) + 20))).tmod 20))))), (3, (I (IntKind.i64.wrap (1 + (((IntKind.i64.wrap (((a3).tmod 4) + 4))).tmod 4))))), (14, (LV.ptr 3 0 0)), (16, (I ((((s16.map iC) ++ [[(I 1)]]).length : Nat) : Int))), (103, (LV.ro 4 ((a4.map A4_Int.cells).take ((mn (((a4.map A4_Int.cells).length : Nat) : Int) 60) : Int).toNat))), (104, (I ((((a4.map A4_Int.cells).take ((mn (((a4.map A4_Int.cells).length : Nat) : Int) 60) : Int).toNat).length : Nat) : Int))), (105, (I ((k17 + 1 : Nat) : Int)))] 4 [(3, (.row 85 7 [[(I y41.1.Self.ID), (LV.ro 1 (y41.1.Self.Costs.map iC)), (LV.ro 1 (y41.1.Self.Ups.map bC)), (LV.ro 6 (y41.1.Self.Infos.map InfoT.cells)), (LV.ro 2 (y41.1.States.map PortStateT.cells)), (I y41.1.Max), (I y41.1.Delay)]]))] ⟨rfl, rfl, rfl, rfl, rfl, rfl, rfl, (congrArg (LV.int .i64) (w64_nat _ (by omega))), trivial⟩ ⟨⟨rfl, rfl, blT⟩, trivial⟩ blT rfl (K17 _ e.symm)
                        · unfold law12_StpAges_b25 at b25
                          have hd : decide (((k25 : Nat) : Int) < (((y41.2.1.map SendT.cells).length : Nat) : Int)) = true := by rw [decide_eq_true_eq]; (try simp only [se_len, se_ch, List.length_map] at hk25); (try simp only [se_len, se_ch, List.length_map]); omega
                          refine LoopW.round TT_ok [0, 1, 2, 3, 4, 10, 11, 13, 14, 15, 16, 18, 19, 20, 21, 22, 23, 24, 25, 26, 27, 28, 30, 31, 33, 34, 36, 37, 39, 40, 41, 42, 44, 45, 46, 47, 48, 49, 50, 69, 70, 71, 72, 96, 103, 104, 105, 106, 121, 157, 159, 172, 174, 208, 210, 219, 220, 221, 222, 266, 271, 273, 274, 275, 283, 287, 288, 289, 297, 313, 316, 317, 318, 319, 323, 333] ?_
                          conv => whnf
                          repeat' first | with_reducible rfl | with_reducible exact True.intro | with_reducible assumption | refine parkI ?_ | (refine And.intro ?_ ?_ <;> conv => whnf) | fail
                          refine parkE (fun hc => ?_) (fun hc => ?_)
                          · clear hd
                            conv => whnf
                            repeat' first | with_reducible rfl | with_reducible exact True.intro | with_reducible assumption | refine parkI ?_ | (refine ⟨_, (kixF (f := SendT.cells) hx25), ?_⟩; conv => whnf) | exact clA _ | (refine And.intro ?_ ?_ <;> conv => whnf) | exact clG _ | (refine gand ?_ h; assumption) | fail
                            refine parkE (fun hc => ?_) (fun hc => ?_)
                            · replace b25 := condT hc b25
                              conv => whnf
                              have e := Option.some.inj b25
                              replace e := hret25 _ e.symm
                              rw [e] at r25
                              replace e := Option.some.inj r25
                              replace e := hret17 _ e.symm
                              rw [e] at r17
                              replace e := Option.some.inj r17
                              subst e
                              repeat' first | with_reducible rfl | with_reducible exact True.intro | with_reducible assumption | exact clA _ | (refine And.intro ?_ ?_ <;> conv => whnf) | exact clG _ | (refine gand ?_ h; assumption) | exact clN _ | fail
                            · replace b25 := condF hc b25
                              conv => whnf
                              repeat' first | with_reducible rfl | with_reducible exact True.intro | with_reducible assumption | refine parkI ?_ | (refine And.intro ?_ ?_ <;> conv => whnf) | fail
                              have e := Option.some.inj b25
                              refine LoopW.norm [(0, (I (((IntKind.i64.wrap (((a0).tmod 6) + 6))).tmod 6))), (2, (I (IntKind.i64.wrap (1 + (((IntKind.i64.wrap (((a2).tmod 20) + 20))).tmod 20))))), (3, (I (IntKind.i64.wrap (1 + (((IntKind.i64.wrap (((a3).tmod 4) + 4))).tmod 4))))), (14, (LV.ptr 3 0 0)), (16, (I ((((s16.map iC) ++ [[(I 1)]]).length : Nat) : Int))), (22, (LV.ptr 5 0 0)), (25, (LV.ptr 6 0 0)), (26, (I y43.2.1)), (28, (I 0)), (103, (LV.ro 4 ((a4.map A4_Int.cells).take ((mn (((a4.map A4_Int.cells).length : Nat) : Int) 60) : Int).toNat))), (104, (I ((((a4.map A4_Int.cells).take ((mn (((a4.map A4_Int.cells).length : Nat) : Int) 60) : Int).toNat).length : Nat) : Int))), (105, (I ((k17 : Nat) : Int))), (219, (LV.ro 6 (y41.2.1.map SendT.cells))), (220, (I (((y41.2.1.map SendT.cells).length : Nat) : Int))), (221, (I ((k25 + 1 : Nat) : Int)))] 7 [(3, (.row 85 7 [[(I s17.Self.ID), (LV.ro 1 (s17.Self.Costs.map iC)), (LV.ro 1 (s17.Self.Ups.map bC)), (LV.ro 6 (s17.Self.Infos.map InfoT.cells)), (LV.ro 2 (s17.States.map PortStateT.cells)), (I s17.Max), (I s17.Delay)]])), (5, (.row 85 7 [[(I y41.1.Self.ID), (LV.ro 1 (y41.1.Self.Costs.map iC)), (LV.ro 1 (y41.1.Self.Ups.map bC)), (LV.ro 6 (y41.1.Self.Infos.map InfoT.cells)), (LV.ro 2 (y41.1.States.map PortStateT.cells)), (I y41.1.Max), (I y41.1.Delay)]])), (6, (.row 87 4 [[(I y43.1.Root), (I y43.1.Cost), (I y43.1.Bridge), (I y43.1.Port)]]))] ⟨rfl, rfl, rfl, rfl, rfl, rfl, rfl, rfl, rfl, rfl, rfl, rfl, rfl, rfl, (congrArg (LV.int .i64) (w64_nat _ (by omega))), trivial⟩ ⟨⟨rfl, rfl, blT⟩, ⟨⟨rfl, rfl, blT⟩, ⟨⟨rfl, rfl, blT⟩, trivial⟩⟩⟩ blT rfl (K25 _ e.symm)
                          · exact (Bool.false_ne_true (hc.symm.trans hd)).elim
                  · replace b17 := condF hc b17
                    conv => whnf
                    replace b17 := bindS b17
                    obtain ⟨y51, hy51, b17⟩ := b17
                    have c52 : CallP Try.prog 55 [(LV.agg [(I s17.Self.ID), (LV.ro 1 (s17.Self.Costs.map iC)), (LV.ro 1 (s17.Self.Ups.map bC)), (LV.ro 6 (s17.Self.Infos.map InfoT.cells)), (LV.ro 2 (s17.States.map PortStateT.cells)), (I s17.Max), (I s17.Delay)]), (I (((IntKind.i64.wrap (((x17.c1).tmod ((((s16.map iC) ++ [[(I 1)]]).length : Nat) : Int)) + ((((s16.map iC) ++ [[(I 1)]]).length : Nat) : Int)))).tmod ((((s16.map iC) ++ [[(I 1)]]).length : Nat) : Int))), (LV.agg [(I (((IntKind.i64.wrap (((x17.c2).tmod 6) + 6))).tmod 6)), (I (((IntKind.i64.wrap (((x17.c3).tmod 30) + 30))).tmod 30)), (I (((IntKind.i64.wrap (((x17.c3).tmod 6) + 6))).tmod 6)), (I (((IntKind.i64.wrap (((x17.c2).tmod 8) + 8))).tmod 8)), (I (((IntKind.i64.wrap (((x17.c3).tmod 25) + 25))).tmod 25))])] (LV.tup [(LV.agg [(I y51.1.Self.ID), (LV.ro 1 (y51.1.Self.Costs.map iC)), (LV.ro 1 (y51.1.Self.Ups.map bC)), (LV.ro 6 (y51.1.Self.Infos.map InfoT.cells)), (LV.ro 2 (y51.1.States.map PortStateT.cells)), (I y51.1.Max), (I y51.1.Delay)]), (LV.bool y51.2.1), (I y51.2.2)]) := by first | exact c_stp_Hear s17 (((IntKind.i64.wrap (((x17.c1).tmod (((s16 ++ ([1] : (List Int))).length : Nat) : Int)) + (((s16 ++ ([1] : (List Int))).length : Nat) : Int)))).tmod (((s16 ++ ([1] : (List Int))).length : Nat) : Int)) (⟨(⟨(((IntKind.i64.wrap (((x17.c2).tmod 6) + 6))).tmod 6), (((IntKind.i64.wrap (((x17.c3).tmod 30) + 30))).tmod 30), (((IntKind.i64.wrap (((x17.c3).tmod 6) + 6))).tmod 6), (((IntKind.i64.wrap (((x17.c2).tmod 8) + 8))).tmod 8)⟩ : VecT), (((IntKind.i64.wrap (((x17.c3).tmod 25) + 25))).tmod 25)⟩ : ConfigT) _ hy51 | (simpa only [se_map, se_byL, se_len, se_ch, List.length_map] using c_stp_Hear s17 (((IntKind.i64.wrap (((x17.c1).tmod (((s16 ++ ([1] : (List Int))).length : Nat) : Int)) + (((s16 ++ ([1] : (List Int))).length : Nat) : Int)))).tmod (((s16 ++ ([1] : (List Int))).length : Nat) : Int)) (⟨(⟨(((IntKind.i64.wrap (((x17.c2).tmod 6) + 6))).tmod 6), (((IntKind.i64.wrap (((x17.c3).tmod 30) + 30))).tmod 30), (((IntKind.i64.wrap (((x17.c3).tmod 6) + 6))).tmod 6), (((IntKind.i64.wrap (((x17.c2).tmod 8) + 8))).tmod 8)⟩ : VecT), (((IntKind.i64.wrap (((x17.c3).tmod 25) + 25))).tmod 25)⟩ : ConfigT) _ hy51) | (simpa only [se_map, se_byL, se_len, se_ch, List.length_map, ConfigT.cells, VecT.cells] using c_stp_Hear s17 (((IntKind.i64.wrap (((x17.c1).tmod (((s16 ++ ([1] : (List Int))).length : Nat) : Int)) + (((s16 ++ ([1] : (List Int))).length : Nat) : Int)))).tmod (((s16 ++ ([1] : (List Int))).length : Nat) : Int)) (⟨(⟨(((IntKind.i64.wrap (((x17.c2).tmod 6) + 6))).tmod 6), (((IntKind.i64.wrap (((x17.c3).tmod 30) + 30))).tmod 30), (((IntKind.i64.wrap (((x17.c3).tmod 6) + 6))).tmod 6), (((IntKind.i64.wrap (((x17.c2).tmod 8) + 8))).tmod 8)⟩ : VecT), (((IntKind.i64.wrap (((x17.c3).tmod 25) + 25))).tmod 25)⟩ : ConfigT) _ hy51)
                    repeat' first | with_reducible rfl | with_reducible exact True.intro | with_reducible assumption | refine parkI ?_ | (refine CallP.use c52 ?_; conv => whnf) | exact (⟨by decide, by decide⟩ : (0 : Int) ≤ 2 ∧ (2 : Int) < 4) | exact (by decide : ((6 : Int) ≠ 0)) | exact (by decide : ((6 : Int) ≠ 0)) | exact (⟨by decide, by decide⟩ : (0 : Int) ≤ 3 ∧ (3 : Int) < 4) | exact (by decide : ((30 : Int) ≠ 0)) | exact (by decide : ((30 : Int) ≠ 0)) | exact (by decide : ((6 : Int) ≠ 0)) | exact (by decide : ((6 : Int) ≠ 0)) | exact (by decide : ((8 : Int) ≠ 0)) | exact (by decide : ((8 : Int) ≠ 0)) | exact (by decide : ((25 : Int) ≠ 0)) | exact (by decide : ((25 : Int) ≠ 0)) | (refine And.intro ?_ ?_ <;> conv => whnf) | fail
                    refine parkE (fun hc => ?_) (fun hc => ?_)
                    · replace b17 := condT hc b17
                      conv => whnf
                      have e := Option.some.inj b17
                      replace e := hret17 _ e.symm
                      rw [e] at r17
                      replace e := Option.some.inj r17
                      subst e
                      repeat' first | with_reducible rfl | with_reducible exact True.intro | with_reducible assumption | exact clA _ | (refine And.intro ?_ ?_ <;> conv => whnf) | exact clG _ | (refine gand ?_ h; assumption) | exact clN _ | fail
                    · replace b17 := condF hc b17
                      conv => whnf
                      replace b17 := bindS b17
                      obtain ⟨y53, hy53, b17⟩ := b17
                      have c54 := c_stp_Right y51.1 _ hy53
                      repeat' first | with_reducible rfl | with_reducible exact True.intro | with_reducible assumption | refine parkI ?_ | (refine CallP.use c54 ?_; conv => whnf) | (refine And.intro ?_ ?_ <;> conv => whnf) | fail
                      refine parkE (fun hc => ?_) (fun hc => ?_)
                      · replace b17 := condT hc b17
                        conv => whnf
                        have e := Option.some.inj b17
                        replace e := hret17 _ e.symm
                        rw [e] at r17
                        replace e := Option.some.inj r17
                        subst e
                        repeat' first | with_reducible rfl | with_reducible exact True.intro | with_reducible assumption | exact clA _ | (refine And.intro ?_ ?_ <;> conv => whnf) | exact clG _ | (refine gand ?_ h; assumption) | exact clN _ | fail
                      · replace b17 := condF hc b17
                        conv => whnf
                        repeat' first | with_reducible rfl | with_reducible exact True.intro | with_reducible assumption | refine parkI ?_ | (refine And.intro ?_ ?_ <;> conv => whnf) | fail
                        have e := Option.some.inj b17
                        refine LoopW.norm [(0, (I (((IntKind.i64.wrap (((a0).tmod 6) + 6))).tmod 6))), (2, (I (IntKind.i64.wrap (1 + (((IntKind.i64.wrap (((a2).tmod 20) + 20))).tmod 20))))), (3, (I (IntKind.i64.wrap (1 + (((IntKind.i64.wrap (((a3).tmod 4) + 4))).tmod 4))))), (14, (LV.ptr 3 0 0)), (16, (I ((((s16.map iC) ++ [[(I 1)]]).length : Nat) : Int))), (103, (LV.ro 4 ((a4.map A4_Int.cells).take ((mn (((a4.map A4_Int.cells).length : Nat) : Int) 60) : Int).toNat))), (104, (I ((((a4.map A4_Int.cells).take ((mn (((a4.map A4_Int.cells).length : Nat) : Int) 60) : Int).toNat).length : Nat) : Int))), (105, (I ((k17 + 1 : Nat) : Int)))] 4 [(3, (.row 85 7 [[(I y51.1.Self.ID), (LV.ro 1 (y51.1.Self.Costs.map iC)), (LV.ro 1 (y51.1.Self.Ups.map bC)), (LV.ro 6 (y51.1.Self.Infos.map InfoT.cells)), (LV.ro 2 (y51.1.States.map PortStateT.cells)), (I y51.1.Max), (I y51.1.Delay)]]))] ⟨rfl, rfl, rfl, rfl, rfl, rfl, rfl, (congrArg (LV.int .i64) (w64_nat _ (by omega))), trivial⟩ ⟨⟨rfl, rfl, blT⟩, trivial⟩ blT rfl (K17 _ e.symm)
          · exact (Bool.false_ne_true (hc.symm.trans hd)).elim
  · unfold law12_StpAges_b16 at b16
    have fx16 : (0 : Int) ≤ ((k16 : Nat) : Int) ∧ (((a1.map iC).take ((mn (((a1.map iC).length : Nat) : Int) 4) : Int).toNat))[((k16 : Nat) : Int).toNat]? = some (iC x16) := by (have h0 := kixF (f := iC) hx16); simpa only [se_map, se_len, se_byL, List.length_map] using h0
    have hd : decide (((k16 : Nat) : Int) < ((((a1.map iC).take ((mn (((a1.map iC).length : Nat) : Int) 4) : Int).toNat).length : Nat) : Int)) = true := by rw [decide_eq_true_eq]; (try simp only [se_len, se_ch, List.length_map] at hk16); (try simp only [se_len, se_ch, List.length_map]); omega
    refine LoopW.round TT_ok [0, 1, 2, 3, 4, 10, 11, 13, 14, 15, 16, 18, 19, 20, 21, 22, 23, 24, 25, 26, 27, 28, 30, 31, 33, 34, 36, 37, 39, 40, 41, 42, 44, 45, 46, 47, 48, 49, 50, 69, 70, 71, 72, 96, 103, 104, 105, 106, 121, 157, 159, 172, 174, 208, 210, 219, 220, 221, 222, 266, 271, 273, 274, 275, 283, 287, 288, 289, 297, 313, 316, 317, 318, 319, 323, 333] ?_
    conv => whnf
    repeat' first | with_reducible rfl | with_reducible exact True.intro | with_reducible assumption | refine parkI ?_ | (refine And.intro ?_ ?_ <;> conv => whnf) | fail
    refine parkE (fun hc => ?_) (fun hc => ?_)
    · clear hd
      conv => whnf
      replace b16 := grdS b16
      obtain ⟨g2, b16⟩ := b16
      replace g2 : fits (((s16.map iC) ++ [[(I (IntKind.i64.wrap (1 + (((IntKind.i64.wrap (((x16).tmod 9) + 9))).tmod 9))))]])).length 8 := by simpa only [se_len, se_ch, List.length_map] using g2
      repeat' first | with_reducible rfl | with_reducible exact True.intro | with_reducible assumption | refine parkI ?_ | (refine ⟨_, fx16, ?_⟩; conv => whnf) | exact g2 | exact (by decide : ((9 : Int) ≠ 0)) | exact (by decide : ((9 : Int) ≠ 0)) | exact clA _ | (refine And.intro ?_ ?_ <;> conv => whnf) | exact clN _ | fail
      have e := Option.some.inj b16
      refine LoopW.ren [(2, 0)] [(0, (I (((IntKind.i64.wrap (((a0).tmod 6) + 6))).tmod 6))), (2, (I (IntKind.i64.wrap (1 + (((IntKind.i64.wrap (((a2).tmod 20) + 20))).tmod 20))))), (3, (I (IntKind.i64.wrap (1 + (((IntKind.i64.wrap (((a3).tmod 4) + 4))).tmod 4))))), (4, (LV.ro 4 (a4.map A4_Int.cells))), (11, (LV.sl 0 0 ((s16 ++ ([(IntKind.i64.wrap (1 + (((IntKind.i64.wrap (((x16).tmod 9) + 9))).tmod 9)))] : (List Int))).map iC).length)), (69, (LV.ro 1 ((a1.map iC).take ((mn (((a1.map iC).length : Nat) : Int) 4) : Int).toNat))), (70, (I ((((a1.map iC).take ((mn (((a1.map iC).length : Nat) : Int) 4) : Int).toNat).length : Nat) : Int))), (71, (I ((k16 + 1 : Nat) : Int)))] 1 [(0, (.row 3 1 ((s16 ++ ([(IntKind.i64.wrap (1 + (((IntKind.i64.wrap (((x16).tmod 9) + 9))).tmod 9)))] : (List Int))).map iC)))] rfl ⟨rfl, rfl, rfl, rfl, (by exact congrArg (LV.sl 0 0) (clL _ : (((s16.map iC) ++ [[(I (IntKind.i64.wrap (1 + (((IntKind.i64.wrap (((x16).tmod 9) + 9))).tmod 9))))]])).length = ((s16 ++ ([(IntKind.i64.wrap (1 + (((IntKind.i64.wrap (((x16).tmod 9) + 9))).tmod 9)))] : (List Int))).map iC).length)), rfl, rfl, (congrArg (LV.int .i64) (w64_nat _ (by omega))), trivial⟩ ⟨⟨rfl, rfl, .inl ⟨(smT : (((s16.map iC) ++ [[(I (IntKind.i64.wrap (1 + (((IntKind.i64.wrap (((x16).tmod 9) + 9))).tmod 9))))]]) : List (List LV)) = ((s16 ++ ([(IntKind.i64.wrap (1 + (((IntKind.i64.wrap (((x16).tmod 9) + 9))).tmod 9)))] : (List Int))).map iC)), nlT⟩⟩, rfl, rfl, trivial⟩ rfl (K16 _ e.symm)
    · exact (Bool.false_ne_true (hc.symm.trans hd)).elim

end Go.RX
