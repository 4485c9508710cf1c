/- Plain functions, and what says that the program's functions compute them. -/
import Derived.Test.YtoahcombdhgmhaaUc
set_option linter.unusedVariables false
set_option linter.unusedSimpArgs false
open Go Go.RX Go.Proofs
namespace Go.RX
set_option maxRecDepth 10000
set_option maxHeartbeats 4000000
attribute [local irreducible] CallW CallP LoopW W IntKind.wrap bitI
def law08_FdbCrowds_b30 (a2 : Int) (a4 : Int) (k30 : Nat) (x30 : Int) (s30 : (TableT × (List (Int × Int)))) : Option (Step Bool (TableT × (List (Int × Int)))) :=
  (bif (decide ((IntKind.i64.wrap (2 * (((IntKind.i64.wrap (((x30).tmod 12) + 12))).tmod 12))) = (IntKind.i64.wrap (2 * (((IntKind.i64.wrap (((a4).tmod 12) + 12))).tmod 12))))) then
    some (.nxt (s30.1, s30.2))
  else
    (fdb_Learn s30.1 (IntKind.i64.wrap (2 * (((IntKind.i64.wrap (((x30).tmod 12) + 12))).tmod 12))) (IntKind.i64.wrap (7 - (((IntKind.i64.wrap (((a2).tmod 8) + 8))).tmod 8))) 0).bind fun y6 =>
    (bif (!decide (y6.2 = 0)) then
      some (.ret false)
    else
      some (.nxt (y6.1, (mput s30.2 (IntKind.i64.wrap (2 * (((IntKind.i64.wrap (((x30).tmod 12) + 12))).tmod 12))) (IntKind.i64.wrap ((mget s30.2 (IntKind.i64.wrap (2 * (((IntKind.i64.wrap (((x30).tmod 12) + 12))).tmod 12))) 0) + 1)))))))

def law08_FdbCrowds (a0 : Int) (a1 : Int) (a2 : Int) (a3 : (List Int)) (a4 : Int) (a5 : Int) : Option Bool :=
  (fdb_New 1 (IntKind.i64.wrap (1 + (((IntKind.i64.wrap (((a0).tmod 4) + 4))).tmod 4))) (IntKind.i64.wrap (1 + (((IntKind.i64.wrap (((a1).tmod 50) + 50))).tmod 50)))).bind fun y1 =>
  (fdb_Learn y1.1 (IntKind.i64.wrap (2 * (((IntKind.i64.wrap (((a4).tmod 12) + 12))).tmod 12))) (((IntKind.i64.wrap (((a2).tmod 8) + 8))).tmod 8) 0).bind fun y3 =>
  (bif (bif (!decide (y1.2 = 0)) then true else (!decide (y3.2 = 0))) then
    some false
  else
    grd ((0 : Int) ≤ (mn ((a3.length : Nat) : Int) 20) ∧ (mn ((a3.length : Nat) : Int) 20) ≤ ((a3.length : Nat) : Int)) <|
    aft (rangeL (law08_FdbCrowds_b30 a2 a4) (a3.take ((mn ((a3.length : Nat) : Int) 20) : Int).toNat) (y3.1, ([] : List (Int × Int)))) fun s30 =>
    (fdb_Find s30.1 (IntKind.i64.wrap (2 * (((IntKind.i64.wrap (((a4).tmod 12) + 12))).tmod 12))) (((IntKind.i64.wrap (((a5).tmod 60) + 60))).tmod 60)).bind fun y9 =>
    (bif (bif (decide ((IntKind.i64.wrap (1 + (((IntKind.i64.wrap (((a0).tmod 4) + 4))).tmod 4))) ≤ ((s30.2.length : Nat) : Int))) then true else (decide ((IntKind.i64.wrap (1 + (((IntKind.i64.wrap (((a1).tmod 50) + 50))).tmod 50))) < (((IntKind.i64.wrap (((a5).tmod 60) + 60))).tmod 60)))) then
      (law08_alive ).bind fun y11 =>
      some (bif (bif y11 then (decide (y9.2 = 0)) else false) then (decide (y9.1 = (-1))) else false)
    else
      (law08_alive ).bind fun y13 =>
      some (bif (bif y13 then (decide (y9.2 = 0)) else false) then (decide (y9.1 = (((IntKind.i64.wrap (((a2).tmod 8) + 8))).tmod 8))) else false)))

theorem c_law08_FdbCrowds (a0 : Int) (a1 : Int) (a2 : Int) (a3 : (List Int)) (a4 : Int) (a5 : Int) (r : Bool) (h : law08_FdbCrowds a0 a1 a2 a3 a4 a5 = some r) : CallP Try.prog 4 [(I a0), (I a1), (I a2), (LV.ro 1 (a3.map iC)), (I a4), (I a5)] (LV.bool r) := by
  unfold law08_FdbCrowds at h
  refine .intro nlA (.intro TT_ok Try.func4 rfl rfl [0, 1, 2, 3, 4, 5, 12, 13, 14, 15, 16, 18, 19, 20, 21, 22, 23, 65, 71, 72, 73, 74, 84, 94, 117] rfl ?_)
  conv => whnf
  replace h := bindS h
  obtain ⟨y1, hy1, h⟩ := h
  have c2 := c_fdb_New 1 (IntKind.i64.wrap (1 + (((IntKind.i64.wrap (((a0).tmod 4) + 4))).tmod 4))) (IntKind.i64.wrap (1 + (((IntKind.i64.wrap (((a1).tmod 50) + 50))).tmod 50))) _ hy1
  replace h := bindS h
  obtain ⟨y3, hy3, h⟩ := h
  have c4 := c_fdb_Learn y1.1 (IntKind.i64.wrap (2 * (((IntKind.i64.wrap (((a4).tmod 12) + 12))).tmod 12))) (((IntKind.i64.wrap (((a2).tmod 8) + 8))).tmod 8) 0 _ hy3
  repeat' first | with_reducible rfl | with_reducible exact True.intro | with_reducible assumption | refine parkI ?_ | (refine CallP.use c2 ?_; conv => whnf) | (refine CallP.use c4 ?_; conv => whnf) | exact (by decide : ((4 : Int) ≠ 0)) | exact (by decide : ((4 : Int) ≠ 0)) | exact (by decide : ((50 : Int) ≠ 0)) | exact (by decide : ((50 : Int) ≠ 0)) | exact (by decide : ((8 : Int) ≠ 0)) | exact (by decide : ((8 : Int) ≠ 0)) | exact (by decide : ((12 : Int) ≠ 0)) | exact (by decide : ((12 : Int) ≠ 0)) | exact (by decide : ((60 : Int) ≠ 0)) | exact (by decide : ((60 : Int) ≠ 0)) | exact clA _ | (refine And.intro ?_ ?_ <;> conv => whnf) | exact clG _ | (refine gand ?_ h; assumption) | fail
  refine parkE (fun hc => ?_) (fun hc => ?_)
  · replace h := condT hc h
    conv => whnf
    have e := Option.some.inj h
    subst e
    repeat' first | with_reducible rfl | with_reducible exact True.intro | with_reducible assumption | exact clA _ | (refine And.intro ?_ ?_ <;> conv => whnf) | exact clG _ | (refine gand ?_ h; assumption) | exact clN _ | fail
  · replace h := condF hc h
    conv => whnf
    replace h := grdS h
    obtain ⟨g5, h⟩ := h
    replace g5 : (0 : Int) ≤ (mn (((a3.map iC).length : Nat) : Int) 20) ∧ (mn (((a3.map iC).length : Nat) : Int) 20) ≤ (((a3.map iC).length : Nat) : Int) := by simpa only [se_len, se_ch, List.length_map] using g5
    repeat' first | with_reducible rfl | with_reducible exact True.intro | with_reducible assumption | refine parkI ?_ | exact g5 | (refine And.intro ?_ ?_ <;> conv => whnf) | fail
    replace h := aftS h
    obtain ⟨O30, hO30, r30⟩ := h
    refine LoopW.norm [(0, (I (IntKind.i64.wrap (1 + (((IntKind.i64.wrap (((a0).tmod 4) + 4))).tmod 4))))), (1, (I (IntKind.i64.wrap (1 + (((IntKind.i64.wrap (((a1).tmod 50) + 50))).tmod 50))))), (2, (I (((IntKind.i64.wrap (((a2).tmod 8) + 8))).tmod 8))), (4, (I (IntKind.i64.wrap (2 * (((IntKind.i64.wrap (((a4).tmod 12) + 12))).tmod 12))))), (5, (I (((IntKind.i64.wrap (((a5).tmod 60) + 60))).tmod 60))), (13, (LV.ptr 0 0 0)), (16, (LV.map 1)), (71, (LV.ro 1 ((a3.map iC).take ((mn (((a3.map iC).length : Nat) : Int) 20) : Int).toNat))), (72, (I ((((a3.map iC).take ((mn (((a3.map iC).length : Nat) : Int) 20) : Int).toNat).length : Nat) : Int))), (73, (I ((0 : Nat) : Int)))] 2 [(0, (.row 24 3 [[(LV.ro 1 ((y3.1, ([] : List (Int × Int))).1.Buckets.map (roC 4 EntryT.cells))), (I (y3.1, ([] : List (Int × Int))).1.Slots), (I (y3.1, ([] : List (Int × Int))).1.Age)]])), (1, (.mp ((y3.1, ([] : List (Int × Int))).2.map (mpC I I))))] ⟨rfl, rfl, rfl, rfl, rfl, rfl, rfl, rfl, rfl, rfl, trivial⟩ ⟨⟨(congrArg (fun q => some (Blk.row 24 3 q)) (by first | (simp only [se_map, se_byL, se_len, se_ch, List.length_map]; done) | (simp only [se_map, se_byL, se_len, se_ch, List.length_map, roC]; done) : ([[(LV.ro 1 (y3.1.Buckets.map (roC 4 EntryT.cells))), (I y3.1.Slots), (I y3.1.Age)]] : List (List LV)) = [[(LV.ro 1 ((y3.1, ([] : List (Int × Int))).1.Buckets.map (roC 4 EntryT.cells))), (I (y3.1, ([] : List (Int × Int))).1.Slots), (I (y3.1, ([] : List (Int × Int))).1.Age)]])), rfl, blT⟩, ⟨⟨(congrArg (fun q => some (Blk.mp q)) (by simp only [se_mp] : (([] : List (LV × LV)) : List (LV × LV)) = ((y3.1, ([] : List (Int × Int))).2.map (mpC I I)))), rfl, bel_mp (f := I) (g := I) (fun _ => by repeat' first | exact True.intro | refine ⟨?_, ?_⟩) (fun _ => by repeat' first | exact True.intro | refine ⟨?_, ?_⟩) _ _⟩, trivial⟩⟩ blT rfl ?_
    refine LoopW.forR (fun k30 s30 => [(0, (I (IntKind.i64.wrap (1 + (((IntKind.i64.wrap (((a0).tmod 4) + 4))).tmod 4))))), (1, (I (IntKind.i64.wrap (1 + (((IntKind.i64.wrap (((a1).tmod 50) + 50))).tmod 50))))), (2, (I (((IntKind.i64.wrap (((a2).tmod 8) + 8))).tmod 8))), (4, (I (IntKind.i64.wrap (2 * (((IntKind.i64.wrap (((a4).tmod 12) + 12))).tmod 12))))), (5, (I (((IntKind.i64.wrap (((a5).tmod 60) + 60))).tmod 60))), (13, (LV.ptr 0 0 0)), (16, (LV.map 1)), (71, (LV.ro 1 ((a3.map iC).take ((mn (((a3.map iC).length : Nat) : Int) 20) : Int).toNat))), (72, (I ((((a3.map iC).take ((mn (((a3.map iC).length : Nat) : Int) 20) : Int).toNat).length : Nat) : Int))), (73, (I ((k30 : Nat) : Int)))]) (fun s30 => ⟨2, [(0, (.row 24 3 [[(LV.ro 1 (s30.1.Buckets.map (roC 4 EntryT.cells))), (I s30.1.Slots), (I s30.1.Age)]])), (1, (.mp (s30.2.map (mpC I I))))]⟩) hO30 (fun hl30 s30 hs30 => ?_) (fun hl30 k30 x30 s30 o30 hk30 hx30 b30 K30 hret30 hbrk30 => ?_)
    · rw [hs30] at r30
      dsimp only [aftM] at r30
      have hd : decide ((((a3.take ((mn ((a3.length : Nat) : Int) 20) : Int).toNat).length : Nat) : Int) < ((((a3.map iC).take ((mn (((a3.map iC).length : Nat) : Int) 20) : Int).toNat).length : Nat) : Int)) = false := by rw [decide_eq_false_iff_not]; (try simp only [se_len, se_ch, List.length_map]); omega
      refine LoopW.round TT_ok [0, 1, 2, 3, 4, 5, 12, 13, 14, 15, 16, 18, 19, 20, 21, 22, 23, 65, 71, 72, 73, 74, 84, 94, 117] ?_
      conv => whnf
      repeat' first | with_reducible rfl | with_reducible exact True.intro | with_reducible assumption | refine parkI ?_ | (refine And.intro ?_ ?_ <;> conv => whnf) | fail
      refine parkE (fun hc => ?_) (fun hc => ?_)
      · exact (Bool.false_ne_true (hd.symm.trans hc)).elim
      · clear hd
        conv => whnf
        replace r30 := bindS r30
        obtain ⟨y9, hy9, r30⟩ := r30
        have c10 := c_fdb_Find s30.1 (IntKind.i64.wrap (2 * (((IntKind.i64.wrap (((a4).tmod 12) + 12))).tmod 12))) (((IntKind.i64.wrap (((a5).tmod 60) + 60))).tmod 60) _ hy9
        repeat' first | with_reducible rfl | with_reducible exact True.intro | with_reducible assumption | refine parkI ?_ | (refine CallP.use c10 ?_; conv => whnf) | exact clA _ | (refine And.intro ?_ ?_ <;> conv => whnf) | exact clG _ | (refine gand ?_ h; assumption) | fail
        refine parkE (fun hc => ?_) (fun hc => ?_)
        · replace r30 := condT (by first | exact hc | simpa only [se_len, se_ch, List.length_map] using hc) r30
          conv => whnf
          replace r30 := bindS r30
          obtain ⟨y11, hy11, r30⟩ := r30
          have c12 := c_law08_alive  _ hy11
          have e := Option.some.inj r30
          subst e
          repeat' first | with_reducible rfl | with_reducible exact True.intro | with_reducible assumption | (refine CallP.use c12 ?_; conv => whnf) | exact clA _ | (refine And.intro ?_ ?_ <;> conv => whnf) | exact clG _ | (refine gand ?_ h; assumption) | exact clN _ | fail
        · replace r30 := condF (by first | exact hc | simpa only [se_len, se_ch, List.length_map] using hc) r30
          conv => whnf
          replace r30 := bindS r30
          obtain ⟨y13, hy13, r30⟩ := r30
          have c14 := c_law08_alive  _ hy13
          have e := Option.some.inj r30
          subst e
          repeat' first | with_reducible rfl | with_reducible exact True.intro | with_reducible assumption | (refine CallP.use c14 ?_; conv => whnf) | exact clA _ | (refine And.intro ?_ ?_ <;> conv => whnf) | exact clG _ | (refine gand ?_ h; assumption) | exact clN _ | fail
    · unfold law08_FdbCrowds_b30 at b30
      have fx30 : (0 : Int) ≤ ((k30 : Nat) : Int) ∧ (((a3.map iC).take ((mn (((a3.map iC).length : Nat) : Int) 20) : Int).toNat))[((k30 : Nat) : Int).toNat]? = some (iC x30) := by (have h0 := kixF (f := iC) hx30); simpa only [se_map, se_len, se_byL, List.length_map] using h0
      have hd : decide (((k30 : Nat) : Int) < ((((a3.map iC).take ((mn (((a3.map iC).length : Nat) : Int) 20) : Int).toNat).length : Nat) : Int)) = true := by rw [decide_eq_true_eq]; (try simp only [se_len, se_ch, List.length_map] at hk30); (try simp only [se_len, se_ch, List.length_map]); omega
      refine LoopW.round TT_ok [0, 1, 2, 3, 4, 5, 12, 13, 14, 15, 16, 18, 19, 20, 21, 22, 23, 65, 71, 72, 73, 74, 84, 94, 117] ?_
      conv => whnf
      repeat' first | with_reducible rfl | with_reducible exact True.intro | with_reducible assumption | refine parkI ?_ | (refine And.intro ?_ ?_ <;> conv => whnf) | fail
      refine parkE (fun hc => ?_) (fun hc => ?_)
      · clear hd
        conv => whnf
        repeat' first | with_reducible rfl | with_reducible exact True.intro | with_reducible assumption | refine parkI ?_ | (refine ⟨_, fx30, ?_⟩; conv => whnf) | exact (by decide : ((12 : Int) ≠ 0)) | exact (by decide : ((12 : Int) ≠ 0)) | (refine And.intro ?_ ?_ <;> conv => whnf) | fail
        refine parkE (fun hc => ?_) (fun hc => ?_)
        · replace b30 := condT hc b30
          conv => whnf
          repeat' first | with_reducible rfl | with_reducible exact True.intro | with_reducible assumption | refine parkI ?_ | (refine And.intro ?_ ?_ <;> conv => whnf) | fail
          have e := Option.some.inj b30
          refine LoopW.norm [(0, (I (IntKind.i64.wrap (1 + (((IntKind.i64.wrap (((a0).tmod 4) + 4))).tmod 4))))), (1, (I (IntKind.i64.wrap (1 + (((IntKind.i64.wrap (((a1).tmod 50) + 50))).tmod 50))))), (2, (I (((IntKind.i64.wrap (((a2).tmod 8) + 8))).tmod 8))), (4, (I (IntKind.i64.wrap (2 * (((IntKind.i64.wrap (((a4).tmod 12) + 12))).tmod 12))))), (5, (I (((IntKind.i64.wrap (((a5).tmod 60) + 60))).tmod 60))), (13, (LV.ptr 0 0 0)), (16, (LV.map 1)), (71, (LV.ro 1 ((a3.map iC).take ((mn (((a3.map iC).length : Nat) : Int) 20) : Int).toNat))), (72, (I ((((a3.map iC).take ((mn (((a3.map iC).length : Nat) : Int) 20) : Int).toNat).length : Nat) : Int))), (73, (I ((k30 + 1 : Nat) : Int)))] 2 [(0, (.row 24 3 [[(LV.ro 1 ((s30.1, s30.2).1.Buckets.map (roC 4 EntryT.cells))), (I (s30.1, s30.2).1.Slots), (I (s30.1, s30.2).1.Age)]])), (1, (.mp ((s30.1, s30.2).2.map (mpC I I))))] ⟨rfl, rfl, rfl, rfl, rfl, rfl, rfl, rfl, rfl, (congrArg (LV.int .i64) (w64_nat _ (by omega))), trivial⟩ ⟨⟨(congrArg (fun q => some (Blk.row 24 3 q)) (by first | (simp only [se_map, se_byL, se_len, se_ch, List.length_map]; done) | (simp only [se_map, se_byL, se_len, se_ch, List.length_map, roC]; done) : ([[(LV.ro 1 (s30.1.Buckets.map (roC 4 EntryT.cells))), (I s30.1.Slots), (I s30.1.Age)]] : List (List LV)) = [[(LV.ro 1 ((s30.1, s30.2).1.Buckets.map (roC 4 EntryT.cells))), (I (s30.1, s30.2).1.Slots), (I (s30.1, s30.2).1.Age)]])), rfl, blT⟩, ⟨⟨(congrArg (fun q => some (Blk.mp q)) (by simp only [se_mp] : ((s30.2.map (mpC I I)) : List (LV × LV)) = ((s30.1, s30.2).2.map (mpC I I)))), rfl, bel_mp (f := I) (g := I) (fun _ => by repeat' first | exact True.intro | refine ⟨?_, ?_⟩) (fun _ => by repeat' first | exact True.intro | refine ⟨?_, ?_⟩) _ _⟩, trivial⟩⟩ blT rfl (K30 _ e.symm)
        · replace b30 := condF hc b30
          conv => whnf
          replace b30 := bindS b30
          obtain ⟨y6, hy6, b30⟩ := b30
          have c7 := c_fdb_Learn s30.1 (IntKind.i64.wrap (2 * (((IntKind.i64.wrap (((x30).tmod 12) + 12))).tmod 12))) (IntKind.i64.wrap (7 - (((IntKind.i64.wrap (((a2).tmod 8) + 8))).tmod 8))) 0 _ hy6
          repeat' first | with_reducible rfl | with_reducible exact True.intro | with_reducible assumption | refine parkI ?_ | (refine CallP.use c7 ?_; conv => whnf) | (refine And.intro ?_ ?_ <;> conv => whnf) | fail
          refine parkE (fun hc => ?_) (fun hc => ?_)
          · replace b30 := condT hc b30
            conv => whnf
            have e := Option.some.inj b30
            replace e := hret30 _ e.symm
            rw [e] at r30
            replace e := Option.some.inj r30
            subst e
            repeat' first | with_reducible rfl | with_reducible exact True.intro | with_reducible assumption | exact clA _ | (refine And.intro ?_ ?_ <;> conv => whnf) | exact clG _ | (refine gand ?_ h; assumption) | exact clN _ | fail
          · replace b30 := condF hc b30
            conv => whnf
            rcases m1_ : mfind s30.2 (IntKind.i64.wrap (2 * (((IntKind.i64.wrap (((x30).tmod 12) + 12))).tmod 12))) with _ | ⟨w1_, u1_⟩
            · try simp only [mget_none m1_, mput_none m1_, mhas_none m1_, mget_mput] at b30
              have f8 : Finds TT 3 ((s30.2.map (mpC I I)) ++ [((I (IntKind.i64.wrap (2 * (((IntKind.i64.wrap (((x30).tmod 12) + 12))).tmod 12)))), (I (IntKind.i64.wrap (0 + 1))))]) (I (IntKind.i64.wrap (2 * (((IntKind.i64.wrap (((x30).tmod 12) + 12))).tmod 12)))) (some (s30.2.length, (I (IntKind.i64.wrap (0 + 1))))) := by simpa only [se_mp] using finds_some (f := I) (g := I) ke_3 (mfind_app m1_ (IntKind.i64.wrap (0 + 1)))
              repeat' first | with_reducible rfl | with_reducible exact True.intro | with_reducible assumption | refine parkI ?_ | (refine ⟨_, (finds_none (g := I) ke_3 m1_), ?_⟩; conv => whnf) | (refine And.intro ?_ ?_ <;> conv => whnf) | fail
              have e := Option.some.inj b30
              refine LoopW.norm [(0, (I (IntKind.i64.wrap (1 + (((IntKind.i64.wrap (((a0).tmod 4) + 4))).tmod 4))))), (1, (I (IntKind.i64.wrap (1 + (((IntKind.i64.wrap (((a1).tmod 50) + 50))).tmod 50))))), (2, (I (((IntKind.i64.wrap (((a2).tmod 8) + 8))).tmod 8))), (4, (I (IntKind.i64.wrap (2 * (((IntKind.i64.wrap (((a4).tmod 12) + 12))).tmod 12))))), (5, (I (((IntKind.i64.wrap (((a5).tmod 60) + 60))).tmod 60))), (13, (LV.ptr 0 0 0)), (16, (LV.map 1)), (71, (LV.ro 1 ((a3.map iC).take ((mn (((a3.map iC).length : Nat) : Int) 20) : Int).toNat))), (72, (I ((((a3.map iC).take ((mn (((a3.map iC).length : Nat) : Int) 20) : Int).toNat).length : Nat) : Int))), (73, (I ((k30 + 1 : Nat) : Int)))] 2 [(0, (.row 24 3 [[(LV.ro 1 ((y6.1, (s30.2 ++ [((IntKind.i64.wrap (2 * (((IntKind.i64.wrap (((x30).tmod 12) + 12))).tmod 12))), (IntKind.i64.wrap (0 + 1)))])).1.Buckets.map (roC 4 EntryT.cells))), (I (y6.1, (s30.2 ++ [((IntKind.i64.wrap (2 * (((IntKind.i64.wrap (((x30).tmod 12) + 12))).tmod 12))), (IntKind.i64.wrap (0 + 1)))])).1.Slots), (I (y6.1, (s30.2 ++ [((IntKind.i64.wrap (2 * (((IntKind.i64.wrap (((x30).tmod 12) + 12))).tmod 12))), (IntKind.i64.wrap (0 + 1)))])).1.Age)]])), (1, (.mp ((y6.1, (s30.2 ++ [((IntKind.i64.wrap (2 * (((IntKind.i64.wrap (((x30).tmod 12) + 12))).tmod 12))), (IntKind.i64.wrap (0 + 1)))])).2.map (mpC I I))))] ⟨rfl, rfl, rfl, rfl, rfl, rfl, rfl, rfl, rfl, (congrArg (LV.int .i64) (w64_nat _ (by omega))), trivial⟩ ⟨⟨(congrArg (fun q => some (Blk.row 24 3 q)) (by first | (simp only [se_map, se_byL, se_len, se_ch, List.length_map]; done) | (simp only [se_map, se_byL, se_len, se_ch, List.length_map, roC]; done) : ([[(LV.ro 1 (y6.1.Buckets.map (roC 4 EntryT.cells))), (I y6.1.Slots), (I y6.1.Age)]] : List (List LV)) = [[(LV.ro 1 ((y6.1, (s30.2 ++ [((IntKind.i64.wrap (2 * (((IntKind.i64.wrap (((x30).tmod 12) + 12))).tmod 12))), (IntKind.i64.wrap (0 + 1)))])).1.Buckets.map (roC 4 EntryT.cells))), (I (y6.1, (s30.2 ++ [((IntKind.i64.wrap (2 * (((IntKind.i64.wrap (((x30).tmod 12) + 12))).tmod 12))), (IntKind.i64.wrap (0 + 1)))])).1.Slots), (I (y6.1, (s30.2 ++ [((IntKind.i64.wrap (2 * (((IntKind.i64.wrap (((x30).tmod 12) + 12))).tmod 12))), (IntKind.i64.wrap (0 + 1)))])).1.Age)]])), rfl, blT⟩, ⟨⟨(congrArg (fun q => some (Blk.mp q)) (by simp only [se_mp] : (((s30.2.map (mpC I I)) ++ [((I (IntKind.i64.wrap (2 * (((IntKind.i64.wrap (((x30).tmod 12) + 12))).tmod 12)))), (I (IntKind.i64.wrap (0 + 1))))]) : List (LV × LV)) = ((y6.1, (s30.2 ++ [((IntKind.i64.wrap (2 * (((IntKind.i64.wrap (((x30).tmod 12) + 12))).tmod 12))), (IntKind.i64.wrap (0 + 1)))])).2.map (mpC I I)))), rfl, bel_mp (f := I) (g := I) (fun _ => by repeat' first | exact True.intro | refine ⟨?_, ?_⟩) (fun _ => by repeat' first | exact True.intro | refine ⟨?_, ?_⟩) _ _⟩, trivial⟩⟩ blT rfl (K30 _ e.symm)
            · try simp only [mget_some m1_, mput_some m1_, mhas_some m1_, mget_mput] at b30
              have f8 : Finds TT 3 (setN (s30.2.map (mpC I I)) w1_ ((I (IntKind.i64.wrap (2 * (((IntKind.i64.wrap (((x30).tmod 12) + 12))).tmod 12)))), (I (IntKind.i64.wrap (u1_ + 1))))) (I (IntKind.i64.wrap (2 * (((IntKind.i64.wrap (((x30).tmod 12) + 12))).tmod 12)))) (some (w1_, (I (IntKind.i64.wrap (u1_ + 1))))) := by simpa only [se_mp] using finds_some (f := I) (g := I) ke_3 (mfind_set m1_ (IntKind.i64.wrap (u1_ + 1)))
              repeat' first | with_reducible rfl | with_reducible exact True.intro | with_reducible assumption | refine parkI ?_ | (refine ⟨_, (finds_some (g := I) ke_3 m1_), ?_⟩; conv => whnf) | (refine And.intro ?_ ?_ <;> conv => whnf) | fail
              have e := Option.some.inj b30
              refine LoopW.norm [(0, (I (IntKind.i64.wrap (1 + (((IntKind.i64.wrap (((a0).tmod 4) + 4))).tmod 4))))), (1, (I (IntKind.i64.wrap (1 + (((IntKind.i64.wrap (((a1).tmod 50) + 50))).tmod 50))))), (2, (I (((IntKind.i64.wrap (((a2).tmod 8) + 8))).tmod 8))), (4, (I (IntKind.i64.wrap (2 * (((IntKind.i64.wrap (((a4).tmod 12) + 12))).tmod 12))))), (5, (I (((IntKind.i64.wrap (((a5).tmod 60) + 60))).tmod 60))), (13, (LV.ptr 0 0 0)), (16, (LV.map 1)), (71, (LV.ro 1 ((a3.map iC).take ((mn (((a3.map iC).length : Nat) : Int) 20) : Int).toNat))), (72, (I ((((a3.map iC).take ((mn (((a3.map iC).length : Nat) : Int) 20) : Int).toNat).length : Nat) : Int))), (73, (I ((k30 + 1 : Nat) : Int)))] 2 [(0, (.row 24 3 [[(LV.ro 1 ((y6.1, (s30.2.set w1_ ((IntKind.i64.wrap (2 * (((IntKind.i64.wrap (((x30).tmod 12) + 12))).tmod 12))), (IntKind.i64.wrap (u1_ + 1))))).1.Buckets.map (roC 4 EntryT.cells))), (I (y6.1, (s30.2.set w1_ ((IntKind.i64.wrap (2 * (((IntKind.i64.wrap (((x30).tmod 12) + 12))).tmod 12))), (IntKind.i64.wrap (u1_ + 1))))).1.Slots), (I (y6.1, (s30.2.set w1_ ((IntKind.i64.wrap (2 * (((IntKind.i64.wrap (((x30).tmod 12) + 12))).tmod 12))), (IntKind.i64.wrap (u1_ + 1))))).1.Age)]])), (1, (.mp ((y6.1, (s30.2.set w1_ ((IntKind.i64.wrap (2 * (((IntKind.i64.wrap (((x30).tmod 12) + 12))).tmod 12))), (IntKind.i64.wrap (u1_ + 1))))).2.map (mpC I I))))] ⟨rfl, rfl, rfl, rfl, rfl, rfl, rfl, rfl, rfl, (congrArg (LV.int .i64) (w64_nat _ (by omega))), trivial⟩ ⟨⟨(congrArg (fun q => some (Blk.row 24 3 q)) (by first | (simp only [se_map, se_byL, se_len, se_ch, List.length_map]; done) | (simp only [se_map, se_byL, se_len, se_ch, List.length_map, roC]; done) : ([[(LV.ro 1 (y6.1.Buckets.map (roC 4 EntryT.cells))), (I y6.1.Slots), (I y6.1.Age)]] : List (List LV)) = [[(LV.ro 1 ((y6.1, (s30.2.set w1_ ((IntKind.i64.wrap (2 * (((IntKind.i64.wrap (((x30).tmod 12) + 12))).tmod 12))), (IntKind.i64.wrap (u1_ + 1))))).1.Buckets.map (roC 4 EntryT.cells))), (I (y6.1, (s30.2.set w1_ ((IntKind.i64.wrap (2 * (((IntKind.i64.wrap (((x30).tmod 12) + 12))).tmod 12))), (IntKind.i64.wrap (u1_ + 1))))).1.Slots), (I (y6.1, (s30.2.set w1_ ((IntKind.i64.wrap (2 * (((IntKind.i64.wrap (((x30).tmod 12) + 12))).tmod 12))), (IntKind.i64.wrap (u1_ + 1))))).1.Age)]])), rfl, blT⟩, ⟨⟨(congrArg (fun q => some (Blk.mp q)) (by simp only [se_mp] : ((setN (s30.2.map (mpC I I)) w1_ ((I (IntKind.i64.wrap (2 * (((IntKind.i64.wrap (((x30).tmod 12) + 12))).tmod 12)))), (I (IntKind.i64.wrap (u1_ + 1))))) : List (LV × LV)) = ((y6.1, (s30.2.set w1_ ((IntKind.i64.wrap (2 * (((IntKind.i64.wrap (((x30).tmod 12) + 12))).tmod 12))), (IntKind.i64.wrap (u1_ + 1))))).2.map (mpC I I)))), rfl, bel_mp (f := I) (g := I) (fun _ => by repeat' first | exact True.intro | refine ⟨?_, ?_⟩) (fun _ => by repeat' first | exact True.intro | refine ⟨?_, ?_⟩) _ _⟩, trivial⟩⟩ blT rfl (K30 _ e.symm)
      · exact (Bool.false_ne_true (hc.symm.trans hd)).elim

end Go.RX
