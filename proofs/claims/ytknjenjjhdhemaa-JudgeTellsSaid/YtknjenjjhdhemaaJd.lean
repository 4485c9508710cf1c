/- Plain functions, and what says that the program's functions compute them. -/
import Derived.Test.YtknjenjjhdhemaaJc
set_option linter.unusedVariables false
set_option linter.unusedSimpArgs false
open Go Go.RX Go.Proofs
namespace Go.RX
set_option maxRecDepth 10000
set_option maxHeartbeats 4000000
attribute [local irreducible] CallW CallP LoopW W IntKind.wrap bitI
def ref20_Twice_c1 (k13 : Nat) (x13 : CopyT) (k14 : Nat) (x14 : CopyT) (s14 : Unit) : Option (Step (Step Int Unit) Unit) :=
  (bif (bif (decide (x13.Seg = x14.Seg)) then (x13.Raw == x14.Raw) else false) then
    some (.ret (.ret ((k13 : Nat) : Int)))
  else
    some (.nxt ()))

def ref20_Twice_c0 (a0 : (List CopyT)) (k13 : Nat) (x13 : CopyT) (s13 : Unit) : Option (Step Int Unit) :=
  grd ((0 : Int) ≤ ((k13 : Nat) : Int) ∧ ((k13 : Nat) : Int) ≤ ((a0.length : Nat) : Int)) <|
  aft (rangeL (ref20_Twice_c1 k13 x13) (a0.take (((k13 : Nat) : Int) : Int).toNat) ()) fun s14 =>
  some (.nxt ())

def ref20_Twice (a0 : (List CopyT)) : Option Int :=
  aft (rangeL (ref20_Twice_c0 a0) a0 ()) fun s13 =>
  some (-1)

theorem c_ref20_Twice (a0 : (List CopyT)) (r : Int) (h : ref20_Twice a0 = some r) : CallP Try.prog 29 [(LV.ro 5 (a0.map CopyT.cells))] (I r) := by
  unfold ref20_Twice at h
  refine .intro nlA (.intro TT_ok Try.func29 rfl rfl [0, 2, 3, 4, 6, 7, 8, 9, 10, 16, 17, 18, 19, 33] rfl ?_)
  conv => whnf
  repeat' first | with_reducible rfl | with_reducible exact True.intro | with_reducible assumption | refine parkI ?_ | (refine And.intro ?_ ?_ <;> conv => whnf) | fail
  replace h := aftS h
  obtain ⟨O13, hO13, r13⟩ := h
  refine LoopW.norm [(0, (LV.ro 5 (a0.map CopyT.cells))), (7, (LV.ro 5 (a0.map CopyT.cells))), (8, (I (((a0.map CopyT.cells).length : Nat) : Int))), (9, (I ((0 : Nat) : Int)))] 0 [] ⟨rfl, rfl, rfl, rfl, trivial⟩ trivial blT rfl ?_
  refine LoopW.forR (fun k13 s13 => [(0, (LV.ro 5 (a0.map CopyT.cells))), (7, (LV.ro 5 (a0.map CopyT.cells))), (8, (I (((a0.map CopyT.cells).length : Nat) : Int))), (9, (I ((k13 : Nat) : Int)))]) (fun s13 => ⟨0, []⟩) hO13 (fun hl13 s13 hs13 => ?_) (fun hl13 k13 x13 s13 o13 hk13 hx13 b13 K13 hret13 hbrk13 => ?_)
  · rw [hs13] at r13
    dsimp only [aftM] at r13
    have hd : decide (((a0.length : Nat) : Int) < (((a0.map CopyT.cells).length : Nat) : Int)) = false := by rw [decide_eq_false_iff_not]; (try simp only [se_len, se_ch, List.length_map]); omega
    refine LoopW.round TT_ok [0, 2, 3, 4, 6, 7, 8, 9, 10, 16, 17, 18, 19, 33] ?_
    conv => whnf
    repeat' first | with_reducible rfl | with_reducible exact True.intro | with_reducible assumption | refine parkI ?_ | (refine And.intro ?_ ?_ <;> conv => whnf) | fail
    refine parkE (fun hc => ?_) (fun hc => ?_)
    · exact (Bool.false_ne_true (hd.symm.trans hc)).elim
    · clear hd
      conv => whnf
      have e := Option.some.inj r13
      subst e
      repeat' first | with_reducible rfl | with_reducible exact True.intro | with_reducible assumption | exact clA _ | (refine And.intro ?_ ?_ <;> conv => whnf) | exact clG _ | (refine gand ?_ h; assumption) | exact clN _ | fail
  · unfold ref20_Twice_c0 at b13
    have hd : decide (((k13 : Nat) : Int) < (((a0.map CopyT.cells).length : Nat) : Int)) = true := by rw [decide_eq_true_eq]; (try simp only [se_len, se_ch, List.length_map] at hk13); (try simp only [se_len, se_ch, List.length_map]); omega
    refine LoopW.round TT_ok [0, 2, 3, 4, 6, 7, 8, 9, 10, 16, 17, 18, 19, 33] ?_
    conv => whnf
    repeat' first | with_reducible rfl | with_reducible exact True.intro | with_reducible assumption | refine parkI ?_ | (refine And.intro ?_ ?_ <;> conv => whnf) | fail
    refine parkE (fun hc => ?_) (fun hc => ?_)
    · clear hd
      conv => whnf
      replace b13 := grdS b13
      obtain ⟨g1, b13⟩ := b13
      replace g1 : (0 : Int) ≤ ((k13 : Nat) : Int) ∧ ((k13 : Nat) : Int) ≤ (((a0.map CopyT.cells).length : Nat) : Int) := by simpa only [se_len, se_ch, List.length_map] using g1
      repeat' first | with_reducible rfl | with_reducible exact True.intro | with_reducible assumption | refine parkI ?_ | (refine ⟨_, (kixF (f := CopyT.cells) hx13), ?_⟩; conv => whnf) | exact g1 | (refine And.intro ?_ ?_ <;> conv => whnf) | fail
      replace b13 := aftS b13
      obtain ⟨O14, hO14, r14⟩ := b13
      refine LoopW.norm [(0, (LV.ro 5 (a0.map CopyT.cells))), (3, (I ((k13 : Nat) : Int))), (4, (LV.ptr 0 0 0)), (7, (LV.ro 5 (a0.map CopyT.cells))), (8, (I (((a0.map CopyT.cells).length : Nat) : Int))), (9, (I ((k13 : Nat) : Int))), (16, (LV.ro 5 ((a0.map CopyT.cells).take (((k13 : Nat) : Int) : Int).toNat))), (17, (I ((((a0.map CopyT.cells).take (((k13 : Nat) : Int) : Int).toNat).length : Nat) : Int))), (18, (I ((0 : Nat) : Int)))] 1 [(0, (.row 90 5 [[(I x13.At), (I x13.Seg), (I x13.Bridge), (I x13.Port), (LV.str x13.Raw)]]))] ⟨rfl, rfl, rfl, rfl, rfl, rfl, rfl, rfl, rfl, trivial⟩ ⟨⟨rfl, rfl, blT⟩, trivial⟩ blT rfl ?_
      refine LoopW.forR (fun k14 s14 => [(0, (LV.ro 5 (a0.map CopyT.cells))), (3, (I ((k13 : Nat) : Int))), (4, (LV.ptr 0 0 0)), (7, (LV.ro 5 (a0.map CopyT.cells))), (8, (I (((a0.map CopyT.cells).length : Nat) : Int))), (9, (I ((k13 : Nat) : Int))), (16, (LV.ro 5 ((a0.map CopyT.cells).take (((k13 : Nat) : Int) : Int).toNat))), (17, (I ((((a0.map CopyT.cells).take (((k13 : Nat) : Int) : Int).toNat).length : Nat) : Int))), (18, (I ((k14 : Nat) : Int)))]) (fun s14 => ⟨1, [(0, (.row 90 5 [[(I x13.At), (I x13.Seg), (I x13.Bridge), (I x13.Port), (LV.str x13.Raw)]]))]⟩) hO14 (fun hl14 s14 hs14 => ?_) (fun hl14 k14 x14 s14 o14 hk14 hx14 b14 K14 hret14 hbrk14 => ?_)
      · rw [hs14] at r14
        dsimp only [aftM] at r14
        have hd : decide ((((a0.take (((k13 : Nat) : Int) : Int).toNat).length : Nat) : Int) < ((((a0.map CopyT.cells).take (((k13 : Nat) : Int) : Int).toNat).length : Nat) : Int)) = false := by rw [decide_eq_false_iff_not]; (try simp only [se_len, se_ch, List.length_map]); omega
        refine LoopW.round TT_ok [0, 2, 3, 4, 6, 7, 8, 9, 10, 16, 17, 18, 19, 33] ?_
        conv => whnf
        repeat' first | with_reducible rfl | with_reducible exact True.intro | with_reducible assumption | refine parkI ?_ | (refine And.intro ?_ ?_ <;> conv => whnf) | fail
        refine parkE (fun hc => ?_) (fun hc => ?_)
        · exact (Bool.false_ne_true (hd.symm.trans hc)).elim
        · clear hd
          conv => whnf
          repeat' first | with_reducible rfl | with_reducible exact True.intro | with_reducible assumption | refine parkI ?_ | (refine And.intro ?_ ?_ <;> conv => whnf) | fail
          have e := Option.some.inj r14
          refine LoopW.norm [(0, (LV.ro 5 (a0.map CopyT.cells))), (7, (LV.ro 5 (a0.map CopyT.cells))), (8, (I (((a0.map CopyT.cells).length : Nat) : Int))), (9, (I ((k13 + 1 : Nat) : Int)))] 0 [] ⟨rfl, rfl, rfl, (congrArg (LV.int .i64) (w64_nat _ (by omega))), trivial⟩ trivial blT rfl (K13 _ e.symm)
      · unfold ref20_Twice_c1 at b14
        have fx14 : (0 : Int) ≤ ((k14 : Nat) : Int) ∧ (((a0.map CopyT.cells).take (((k13 : Nat) : Int) : Int).toNat))[((k14 : Nat) : Int).toNat]? = some (CopyT.cells x14) := by (have h0 := kixF (f := CopyT.cells) hx14); simpa only [se_map, se_len, se_byL, List.length_map] using h0
        have hd : decide (((k14 : Nat) : Int) < ((((a0.map CopyT.cells).take (((k13 : Nat) : Int) : Int).toNat).length : Nat) : Int)) = true := by rw [decide_eq_true_eq]; (try simp only [se_len, se_ch, List.length_map] at hk14); (try simp only [se_len, se_ch, List.length_map]); omega
        refine LoopW.round TT_ok [0, 2, 3, 4, 6, 7, 8, 9, 10, 16, 17, 18, 19, 33] ?_
        conv => whnf
        repeat' first | with_reducible rfl | with_reducible exact True.intro | with_reducible assumption | refine parkI ?_ | (refine And.intro ?_ ?_ <;> conv => whnf) | fail
        refine parkE (fun hc => ?_) (fun hc => ?_)
        · clear hd
          conv => whnf
          repeat' first | with_reducible rfl | with_reducible exact True.intro | with_reducible assumption | refine parkI ?_ | (refine ⟨_, fx14, ?_⟩; conv => whnf) | exact clA _ | (refine And.intro ?_ ?_ <;> conv => whnf) | exact clG _ | (refine gand ?_ h; assumption) | fail
          refine parkE (fun hc => ?_) (fun hc => ?_)
          · replace b14 := condT hc b14
            conv => whnf
            have e := Option.some.inj b14
            replace e := hret14 _ e.symm
            rw [e] at r14
            replace e := Option.some.inj r14
            replace e := hret13 _ e.symm
            rw [e] at r13
            replace e := Option.some.inj r13
            subst e
            repeat' first | with_reducible rfl | with_reducible exact True.intro | with_reducible assumption | exact clA _ | (refine And.intro ?_ ?_ <;> conv => whnf) | exact clG _ | (refine gand ?_ h; assumption) | exact clN _ | fail
          · replace b14 := condF hc b14
            conv => whnf
            repeat' first | with_reducible rfl | with_reducible exact True.intro | with_reducible assumption | refine parkI ?_ | (refine And.intro ?_ ?_ <;> conv => whnf) | fail
            have e := Option.some.inj b14
            refine LoopW.norm [(0, (LV.ro 5 (a0.map CopyT.cells))), (3, (I ((k13 : Nat) : Int))), (4, (LV.ptr 0 0 0)), (7, (LV.ro 5 (a0.map CopyT.cells))), (8, (I (((a0.map CopyT.cells).length : Nat) : Int))), (9, (I ((k13 : Nat) : Int))), (16, (LV.ro 5 ((a0.map CopyT.cells).take (((k13 : Nat) : Int) : Int).toNat))), (17, (I ((((a0.map CopyT.cells).take (((k13 : Nat) : Int) : Int).toNat).length : Nat) : Int))), (18, (I ((k14 + 1 : Nat) : Int)))] 1 [(0, (.row 90 5 [[(I x13.At), (I x13.Seg), (I x13.Bridge), (I x13.Port), (LV.str x13.Raw)]]))] ⟨rfl, rfl, rfl, rfl, rfl, rfl, rfl, rfl, (congrArg (LV.int .i64) (w64_nat _ (by omega))), trivial⟩ ⟨⟨rfl, rfl, blT⟩, trivial⟩ blT rfl (K14 _ e.symm)
        · exact (Bool.false_ne_true (hc.symm.trans hd)).elim
    · exact (Bool.false_ne_true (hc.symm.trans hd)).elim

def ref20_Segs_c0 (a1 : Int) (k15 : Nat) (x15 : CopyT) (s15 : Unit) : Option (Step Bool Unit) :=
  (bif (bif (decide (x15.Seg < 0)) then true else (decide (a1 ≤ x15.Seg))) then
    some (.ret false)
  else
    some (.nxt ()))

def ref20_Segs (a0 : (List CopyT)) (a1 : Int) : Option Bool :=
  aft (rangeL (ref20_Segs_c0 a1) a0 ()) fun s15 =>
  some true

theorem c_ref20_Segs (a0 : (List CopyT)) (a1 : Int) (r : Bool) (h : ref20_Segs a0 a1 = some r) : CallP Try.prog 31 [(LV.ro 5 (a0.map CopyT.cells)), (I a1)] (LV.bool r) := by
  unfold ref20_Segs at h
  refine .intro nlA (.intro TT_ok Try.func31 rfl rfl [0, 1, 4, 6, 7, 8, 9, 10, 21] rfl ?_)
  conv => whnf
  repeat' first | with_reducible rfl | with_reducible exact True.intro | with_reducible assumption | refine parkI ?_ | (refine And.intro ?_ ?_ <;> conv => whnf) | fail
  replace h := aftS h
  obtain ⟨O15, hO15, r15⟩ := h
  refine LoopW.norm [(1, (I a1)), (7, (LV.ro 5 (a0.map CopyT.cells))), (8, (I (((a0.map CopyT.cells).length : Nat) : Int))), (9, (I ((0 : Nat) : Int)))] 0 [] ⟨rfl, rfl, rfl, rfl, trivial⟩ trivial blT rfl ?_
  refine LoopW.forR (fun k15 s15 => [(1, (I a1)), (7, (LV.ro 5 (a0.map CopyT.cells))), (8, (I (((a0.map CopyT.cells).length : Nat) : Int))), (9, (I ((k15 : Nat) : Int)))]) (fun s15 => ⟨0, []⟩) hO15 (fun hl15 s15 hs15 => ?_) (fun hl15 k15 x15 s15 o15 hk15 hx15 b15 K15 hret15 hbrk15 => ?_)
  · rw [hs15] at r15
    dsimp only [aftM] at r15
    have hd : decide (((a0.length : Nat) : Int) < (((a0.map CopyT.cells).length : Nat) : Int)) = false := by rw [decide_eq_false_iff_not]; (try simp only [se_len, se_ch, List.length_map]); omega
    refine LoopW.round TT_ok [0, 1, 4, 6, 7, 8, 9, 10, 21] ?_
    conv => whnf
    repeat' first | with_reducible rfl | with_reducible exact True.intro | with_reducible assumption | refine parkI ?_ | (refine And.intro ?_ ?_ <;> conv => whnf) | fail
    refine parkE (fun hc => ?_) (fun hc => ?_)
    · exact (Bool.false_ne_true (hd.symm.trans hc)).elim
    · clear hd
      conv => whnf
      have e := Option.some.inj r15
      subst e
      repeat' first | with_reducible rfl | with_reducible exact True.intro | with_reducible assumption | exact clA _ | (refine And.intro ?_ ?_ <;> conv => whnf) | exact clG _ | (refine gand ?_ h; assumption) | exact clN _ | fail
  · unfold ref20_Segs_c0 at b15
    have hd : decide (((k15 : Nat) : Int) < (((a0.map CopyT.cells).length : Nat) : Int)) = true := by rw [decide_eq_true_eq]; (try simp only [se_len, se_ch, List.length_map] at hk15); (try simp only [se_len, se_ch, List.length_map]); omega
    refine LoopW.round TT_ok [0, 1, 4, 6, 7, 8, 9, 10, 21] ?_
    conv => whnf
    repeat' first | with_reducible rfl | with_reducible exact True.intro | with_reducible assumption | refine parkI ?_ | (refine And.intro ?_ ?_ <;> conv => whnf) | fail
    refine parkE (fun hc => ?_) (fun hc => ?_)
    · clear hd
      conv => whnf
      repeat' first | with_reducible rfl | with_reducible exact True.intro | with_reducible assumption | refine parkI ?_ | (refine ⟨_, (kixF (f := CopyT.cells) hx15), ?_⟩; conv => whnf) | exact clA _ | (refine And.intro ?_ ?_ <;> conv => whnf) | exact clG _ | (refine gand ?_ h; assumption) | fail
      refine parkE (fun hc => ?_) (fun hc => ?_)
      · replace b15 := condT hc b15
        conv => whnf
        have e := Option.some.inj b15
        replace e := hret15 _ e.symm
        rw [e] at r15
        replace e := Option.some.inj r15
        subst e
        repeat' first | with_reducible rfl | with_reducible exact True.intro | with_reducible assumption | exact clA _ | (refine And.intro ?_ ?_ <;> conv => whnf) | exact clG _ | (refine gand ?_ h; assumption) | exact clN _ | fail
      · replace b15 := condF hc b15
        conv => whnf
        repeat' first | with_reducible rfl | with_reducible exact True.intro | with_reducible assumption | refine parkI ?_ | (refine And.intro ?_ ?_ <;> conv => whnf) | fail
        have e := Option.some.inj b15
        refine LoopW.norm [(1, (I a1)), (7, (LV.ro 5 (a0.map CopyT.cells))), (8, (I (((a0.map CopyT.cells).length : Nat) : Int))), (9, (I ((k15 + 1 : Nat) : Int)))] 0 [] ⟨rfl, rfl, rfl, (congrArg (LV.int .i64) (w64_nat _ (by omega))), trivial⟩ trivial blT rfl (K15 _ e.symm)
    · exact (Bool.false_ne_true (hc.symm.trans hd)).elim

def ref06_Same_c0 (a1 : (List Int)) (k16 : Nat) (x16 : Int) (s16 : Unit) : Option (Step Bool Unit) :=
  (gix a1 ((k16 : Nat) : Int)).bind fun v1 =>
  (bif (!decide (x16 = v1)) then
    some (.ret false)
  else
    some (.nxt ()))

def ref06_Same (a0 : (List Int)) (a1 : (List Int)) : Option Bool :=
  (bif (!decide (((a0.length : Nat) : Int) = ((a1.length : Nat) : Int))) then
    some false
  else
    aft (rangeL (ref06_Same_c0 a1) a0 ()) fun s16 =>
    some true)

theorem c_ref06_Same (a0 : (List Int)) (a1 : (List Int)) (r : Bool) (h : ref06_Same a0 a1 = some r) : CallP Try.prog 32 [(LV.ro 1 (a0.map iC)), (LV.ro 1 (a1.map iC))] (LV.bool r) := by
  unfold ref06_Same at h
  refine .intro nlA (.intro TT_ok Try.func32 rfl rfl [0, 1, 4, 5, 10, 12, 13, 14, 24] rfl ?_)
  conv => whnf
  repeat' first | with_reducible rfl | with_reducible exact True.intro | with_reducible assumption | refine parkI ?_ | (refine W.drawn TT_ok hmix1 rfl ?_; conv => whnf) | exact clA _ | (refine And.intro ?_ ?_ <;> conv => whnf) | exact clG _ | (refine gand ?_ h; assumption) | exact clN _ | fail
  refine parkE (fun hc => ?_) (fun hc => ?_)
  · replace h := condT (by first | exact hc | (simpa only [se_len, se_ch, List.length_map] using hc; done) | (have h0 : (!decide ((((a0.map iC).length : Nat) : Int) = (((a1.map iC).length : Nat) : Int))) = true := hc; simpa only [se_len, se_ch, List.length_map] using h0)) h
    conv => whnf
    have e := Option.some.inj h
    subst e
    repeat' first | with_reducible rfl | with_reducible exact True.intro | with_reducible assumption | (refine W.drawn TT_ok hmix1 rfl ?_; conv => whnf) | exact clA _ | (refine And.intro ?_ ?_ <;> conv => whnf) | exact clG _ | (refine gand ?_ h; assumption) | exact clN _ | fail
  · replace h := condF (by first | exact hc | (simpa only [se_len, se_ch, List.length_map] using hc; done) | (have h0 : (!decide ((((a0.map iC).length : Nat) : Int) = (((a1.map iC).length : Nat) : Int))) = false := hc; simpa only [se_len, se_ch, List.length_map] using h0)) h
    conv => whnf
    repeat' first | with_reducible rfl | with_reducible exact True.intro | with_reducible assumption | refine parkI ?_ | (refine W.drawn TT_ok hmix1 rfl ?_; conv => whnf) | exact clA _ | (refine And.intro ?_ ?_ <;> conv => whnf) | exact clG _ | (refine gand ?_ h; assumption) | exact clN _ | fail
    replace h := aftS h
    obtain ⟨O16, hO16, r16⟩ := h
    refine LoopW.norm [(0, (LV.ro 1 (a0.map iC))), (1, (LV.ro 1 (a1.map iC))), (12, (I (((a0.map iC).length : Nat) : Int))), (13, (I ((0 : Nat) : Int)))] 0 [] ⟨rfl, rfl, rfl, rfl, trivial⟩ trivial blT rfl ?_
    refine LoopW.forR (fun k16 s16 => [(0, (LV.ro 1 (a0.map iC))), (1, (LV.ro 1 (a1.map iC))), (12, (I (((a0.map iC).length : Nat) : Int))), (13, (I ((k16 : Nat) : Int)))]) (fun s16 => ⟨0, []⟩) hO16 (fun hl16 s16 hs16 => ?_) (fun hl16 k16 x16 s16 o16 hk16 hx16 b16 K16 hret16 hbrk16 => ?_)
    · rw [hs16] at r16
      dsimp only [aftM] at r16
      have hd : decide (((a0.length : Nat) : Int) < (((a0.map iC).length : Nat) : Int)) = false := by rw [decide_eq_false_iff_not]; (try simp only [se_len, se_ch, List.length_map]); omega
      refine LoopW.round TT_ok [0, 1, 4, 5, 10, 12, 13, 14, 24] ?_
      conv => whnf
      repeat' first | with_reducible rfl | with_reducible exact True.intro | with_reducible assumption | refine parkI ?_ | (refine W.drawn TT_ok hmix1 rfl ?_; conv => whnf) | exact clA _ | (refine And.intro ?_ ?_ <;> conv => whnf) | exact clG _ | (refine gand ?_ h; assumption) | exact clN _ | fail
      refine parkE (fun hc => ?_) (fun hc => ?_)
      · exact (Bool.false_ne_true (hd.symm.trans hc)).elim
      · clear hd
        conv => whnf
        have e := Option.some.inj r16
        subst e
        repeat' first | with_reducible rfl | with_reducible exact True.intro | with_reducible assumption | (refine W.drawn TT_ok hmix1 rfl ?_; conv => whnf) | exact clA _ | (refine And.intro ?_ ?_ <;> conv => whnf) | exact clG _ | (refine gand ?_ h; assumption) | exact clN _ | fail
    · unfold ref06_Same_c0 at b16
      have hd : decide (((k16 : Nat) : Int) < (((a0.map iC).length : Nat) : Int)) = true := by rw [decide_eq_true_eq]; (try simp only [se_len, se_ch, List.length_map] at hk16); (try simp only [se_len, se_ch, List.length_map]); omega
      refine LoopW.round TT_ok [0, 1, 4, 5, 10, 12, 13, 14, 24] ?_
      conv => whnf
      repeat' first | with_reducible rfl | with_reducible exact True.intro | with_reducible assumption | refine parkI ?_ | (refine W.drawn TT_ok hmix1 rfl ?_; conv => whnf) | exact clA _ | (refine And.intro ?_ ?_ <;> conv => whnf) | exact clG _ | (refine gand ?_ h; assumption) | exact clN _ | fail
      refine parkE (fun hc => ?_) (fun hc => ?_)
      · clear hd
        conv => whnf
        replace b16 := bindS b16
        obtain ⟨v1, hv1, b16⟩ := b16
        have i2 := gixF (f := iC) hv1
        repeat' first | with_reducible rfl | with_reducible exact True.intro | with_reducible assumption | refine parkI ?_ | (refine ⟨_, (kixF (f := iC) hx16), ?_⟩; conv => whnf) | (refine ⟨_, i2, ?_⟩; conv => whnf) | (refine W.drawn TT_ok hmix1 rfl ?_; conv => whnf) | exact clA _ | (refine And.intro ?_ ?_ <;> conv => whnf) | exact clG _ | (refine gand ?_ h; assumption) | exact clN _ | fail
        refine parkE (fun hc => ?_) (fun hc => ?_)
        · replace b16 := condT hc b16
          conv => whnf
          have e := Option.some.inj b16
          replace e := hret16 _ e.symm
          rw [e] at r16
          replace e := Option.some.inj r16
          subst e
          repeat' first | with_reducible rfl | with_reducible exact True.intro | with_reducible assumption | (refine W.drawn TT_ok hmix1 rfl ?_; conv => whnf) | exact clA _ | (refine And.intro ?_ ?_ <;> conv => whnf) | exact clG _ | (refine gand ?_ h; assumption) | exact clN _ | fail
        · replace b16 := condF hc b16
          conv => whnf
          repeat' first | with_reducible rfl | with_reducible exact True.intro | with_reducible assumption | refine parkI ?_ | (refine W.drawn TT_ok hmix1 rfl ?_; conv => whnf) | exact clA _ | (refine And.intro ?_ ?_ <;> conv => whnf) | exact clG _ | (refine gand ?_ h; assumption) | exact clN _ | fail
          have e := Option.some.inj b16
          refine LoopW.norm [(0, (LV.ro 1 (a0.map iC))), (1, (LV.ro 1 (a1.map iC))), (12, (I (((a0.map iC).length : Nat) : Int))), (13, (I ((k16 + 1 : Nat) : Int)))] 0 [] ⟨rfl, rfl, rfl, (congrArg (LV.int .i64) (w64_nat _ (by omega))), trivial⟩ trivial blT rfl (K16 _ e.symm)
      · exact (Bool.false_ne_true (hc.symm.trans hd)).elim

def ref15_twice_c1 (a0 : LanT) (k17 : Nat) (x17 : PlanT) (s18 : Int) : Option (Step (Step Bool Unit) Int) :=
  (bif (decide (s18 < ((k17 : Nat) : Int))) then
    (gix a0.Plans s18).bind fun v1 =>
    (bif (decide (x17.ID = v1.ID)) then
      some (.ret (.ret true))
    else
      some (.nxt (IntKind.i64.wrap (s18 + 1))))
  else
    some (.brk s18))

def ref15_twice_c0 (a0 : LanT) (k17 : Nat) (x17 : PlanT) (s17 : Unit) : Option (Step Bool Unit) :=
  aft (loopF 1000000 (ref15_twice_c1 a0 k17 x17) 0) fun s18 =>
  some (.nxt ())

def ref15_twice_c3 (a0 : LanT) (k19 : Nat) (x19 : HostT) (s20 : Int) : Option (Step (Step Bool Unit) Int) :=
  (bif (decide (s20 < ((k19 : Nat) : Int))) then
    (gix a0.Hosts s20).bind fun v3 =>
    (bif (decide (x19.Mac = v3.Mac)) then
      some (.ret (.ret true))
    else
      some (.nxt (IntKind.i64.wrap (s20 + 1))))
  else
    some (.brk s20))

def ref15_twice_c2 (a0 : LanT) (k19 : Nat) (x19 : HostT) (s19 : Unit) : Option (Step Bool Unit) :=
  aft (loopF 1000000 (ref15_twice_c3 a0 k19 x19) 0) fun s20 =>
  some (.nxt ())

def ref15_twice (a0 : LanT) : Option Bool :=
  aft (rangeL (ref15_twice_c0 a0) a0.Plans ()) fun s17 =>
  aft (rangeL (ref15_twice_c2 a0) a0.Hosts ()) fun s19 =>
  some false

theorem c_ref15_twice (a0 : LanT) (r : Bool) (h : ref15_twice a0 = some r) : CallP Try.prog 64 [(LV.agg [(I a0.Segs), (LV.ro 2 (a0.Plans.map PlanT.cells)), (LV.ro 2 (a0.Hosts.map HostT.cells))])] (LV.bool r) := by
  unfold ref15_twice at h
  refine .intro nlA (.intro TT_ok Try.func64 rfl rfl [0, 1, 2, 3, 4, 5, 6, 9, 10, 11, 15, 30, 34, 35, 36, 40, 55] rfl ?_)
  conv => whnf
  repeat' first | with_reducible rfl | with_reducible exact True.intro | with_reducible assumption | refine parkI ?_ | (refine W.drawn TT_ok hmix1 rfl ?_; conv => whnf) | exact clA _ | (refine And.intro ?_ ?_ <;> conv => whnf) | exact clG _ | (refine gand ?_ h; assumption) | exact clN _ | fail
  replace h := aftS h
  obtain ⟨O17, hO17, r17⟩ := h
  refine LoopW.norm [(1, (LV.ptr 0 0 0)), (9, (I (((a0.Plans.map PlanT.cells).length : Nat) : Int))), (10, (I ((0 : Nat) : Int)))] 1 [(0, (.row 47 3 [[(I a0.Segs), (LV.ro 2 (a0.Plans.map PlanT.cells)), (LV.ro 2 (a0.Hosts.map HostT.cells))]]))] ⟨rfl, rfl, rfl, trivial⟩ ⟨⟨rfl, rfl, blT⟩, trivial⟩ blT rfl ?_
  refine LoopW.forR (fun k17 s17 => [(1, (LV.ptr 0 0 0)), (9, (I (((a0.Plans.map PlanT.cells).length : Nat) : Int))), (10, (I ((k17 : Nat) : Int)))]) (fun s17 => ⟨1, [(0, (.row 47 3 [[(I a0.Segs), (LV.ro 2 (a0.Plans.map PlanT.cells)), (LV.ro 2 (a0.Hosts.map HostT.cells))]]))]⟩) hO17 (fun hl17 s17 hs17 => ?_) (fun hl17 k17 x17 s17 o17 hk17 hx17 b17 K17 hret17 hbrk17 => ?_)
  · rw [hs17] at r17
    dsimp only [aftM] at r17
    have hd : decide (((a0.Plans.length : Nat) : Int) < (((a0.Plans.map PlanT.cells).length : Nat) : Int)) = false := by rw [decide_eq_false_iff_not]; (try simp only [se_len, se_ch, List.length_map]); omega
    refine LoopW.round TT_ok [0, 1, 2, 3, 4, 5, 6, 9, 10, 11, 15, 30, 34, 35, 36, 40, 55] ?_
    conv => whnf
    repeat' first | with_reducible rfl | with_reducible exact True.intro | with_reducible assumption | refine parkI ?_ | (refine W.drawn TT_ok hmix1 rfl ?_; conv => whnf) | exact clA _ | (refine And.intro ?_ ?_ <;> conv => whnf) | exact clG _ | (refine gand ?_ h; assumption) | exact clN _ | fail
    refine parkE (fun hc => ?_) (fun hc => ?_)
    · exact (Bool.false_ne_true (hd.symm.trans hc)).elim
    · clear hd
      conv => whnf
      repeat' first | with_reducible rfl | with_reducible exact True.intro | with_reducible assumption | refine parkI ?_ | (refine W.drawn TT_ok hmix1 rfl ?_; conv => whnf) | exact clA _ | (refine And.intro ?_ ?_ <;> conv => whnf) | exact clG _ | (refine gand ?_ h; assumption) | exact clN _ | fail
      replace r17 := aftS r17
      obtain ⟨O19, hO19, r19⟩ := r17
      refine LoopW.norm [(1, (LV.ptr 0 0 0)), (34, (I (((a0.Hosts.map HostT.cells).length : Nat) : Int))), (35, (I ((0 : Nat) : Int)))] 1 [(0, (.row 47 3 [[(I a0.Segs), (LV.ro 2 (a0.Plans.map PlanT.cells)), (LV.ro 2 (a0.Hosts.map HostT.cells))]]))] ⟨rfl, rfl, rfl, trivial⟩ ⟨⟨rfl, rfl, blT⟩, trivial⟩ blT rfl ?_
      refine LoopW.forR (fun k19 s19 => [(1, (LV.ptr 0 0 0)), (34, (I (((a0.Hosts.map HostT.cells).length : Nat) : Int))), (35, (I ((k19 : Nat) : Int)))]) (fun s19 => ⟨1, [(0, (.row 47 3 [[(I a0.Segs), (LV.ro 2 (a0.Plans.map PlanT.cells)), (LV.ro 2 (a0.Hosts.map HostT.cells))]]))]⟩) hO19 (fun hl19 s19 hs19 => ?_) (fun hl19 k19 x19 s19 o19 hk19 hx19 b19 K19 hret19 hbrk19 => ?_)
      · rw [hs19] at r19
        dsimp only [aftM] at r19
        have hd : decide (((a0.Hosts.length : Nat) : Int) < (((a0.Hosts.map HostT.cells).length : Nat) : Int)) = false := by rw [decide_eq_false_iff_not]; (try simp only [se_len, se_ch, List.length_map]); omega
        refine LoopW.round TT_ok [0, 1, 2, 3, 4, 5, 6, 9, 10, 11, 15, 30, 34, 35, 36, 40, 55] ?_
        conv => whnf
        repeat' first | with_reducible rfl | with_reducible exact True.intro | with_reducible assumption | refine parkI ?_ | (refine W.drawn TT_ok hmix1 rfl ?_; conv => whnf) | exact clA _ | (refine And.intro ?_ ?_ <;> conv => whnf) | exact clG _ | (refine gand ?_ h; assumption) | exact clN _ | fail
        refine parkE (fun hc => ?_) (fun hc => ?_)
        · exact (Bool.false_ne_true (hd.symm.trans hc)).elim
        · clear hd
          conv => whnf
          have e := Option.some.inj r19
          subst e
          repeat' first | with_reducible rfl | with_reducible exact True.intro | with_reducible assumption | (refine W.drawn TT_ok hmix1 rfl ?_; conv => whnf) | exact clA _ | (refine And.intro ?_ ?_ <;> conv => whnf) | exact clG _ | (refine gand ?_ h; assumption) | exact clN _ | fail
      · unfold ref15_twice_c2 at b19
        have hd : decide (((k19 : Nat) : Int) < (((a0.Hosts.map HostT.cells).length : Nat) : Int)) = true := by rw [decide_eq_true_eq]; (try simp only [se_len, se_ch, List.length_map] at hk19); (try simp only [se_len, se_ch, List.length_map]); omega
        refine LoopW.round TT_ok [0, 1, 2, 3, 4, 5, 6, 9, 10, 11, 15, 30, 34, 35, 36, 40, 55] ?_
        conv => whnf
        repeat' first | with_reducible rfl | with_reducible exact True.intro | with_reducible assumption | refine parkI ?_ | (refine W.drawn TT_ok hmix1 rfl ?_; conv => whnf) | exact clA _ | (refine And.intro ?_ ?_ <;> conv => whnf) | exact clG _ | (refine gand ?_ h; assumption) | exact clN _ | fail
        refine parkE (fun hc => ?_) (fun hc => ?_)
        · clear hd
          conv => whnf
          repeat' first | with_reducible rfl | with_reducible exact True.intro | with_reducible assumption | refine parkI ?_ | (refine W.drawn TT_ok hmix1 rfl ?_; conv => whnf) | exact clA _ | (refine And.intro ?_ ?_ <;> conv => whnf) | exact clG _ | (refine gand ?_ h; assumption) | exact clN _ | fail
          replace b19 := aftS b19
          obtain ⟨O20, hO20, r20⟩ := b19
          refine LoopW.norm [(1, (LV.ptr 0 0 0)), (5, (I ((k19 : Nat) : Int))), (6, (I 0)), (34, (I (((a0.Hosts.map HostT.cells).length : Nat) : Int))), (35, (I ((k19 : Nat) : Int)))] 1 [(0, (.row 47 3 [[(I a0.Segs), (LV.ro 2 (a0.Plans.map PlanT.cells)), (LV.ro 2 (a0.Hosts.map HostT.cells))]]))] ⟨rfl, rfl, rfl, rfl, rfl, trivial⟩ ⟨⟨rfl, rfl, blT⟩, trivial⟩ blT rfl ?_
          refine LoopW.forF (fun s20 => [(1, (LV.ptr 0 0 0)), (5, (I ((k19 : Nat) : Int))), (6, (I s20)), (34, (I (((a0.Hosts.map HostT.cells).length : Nat) : Int))), (35, (I ((k19 : Nat) : Int)))]) (fun s20 => ⟨1, [(0, (.row 47 3 [[(I a0.Segs), (LV.ro 2 (a0.Plans.map PlanT.cells)), (LV.ro 2 (a0.Hosts.map HostT.cells))]]))]⟩) hO20 (fun s20 o20 b20 K20 hret20 hbrk20 => ?_)
          unfold ref15_twice_c3 at b20
          refine LoopW.round TT_ok [0, 1, 2, 3, 4, 5, 6, 9, 10, 11, 15, 30, 34, 35, 36, 40, 55] ?_
          conv => whnf
          repeat' first | with_reducible rfl | with_reducible exact True.intro | with_reducible assumption | refine parkI ?_ | (refine W.drawn TT_ok hmix1 rfl ?_; conv => whnf) | exact clA _ | (refine And.intro ?_ ?_ <;> conv => whnf) | exact clG _ | (refine gand ?_ h; assumption) | exact clN _ | fail
          refine parkE (fun hc => ?_) (fun hc => ?_)
          · replace b20 := condT hc b20
            conv => whnf
            replace b20 := bindS b20
            obtain ⟨v3, hv3, b20⟩ := b20
            have i4 := gixF (f := HostT.cells) hv3
            repeat' first | with_reducible rfl | with_reducible exact True.intro | with_reducible assumption | refine parkI ?_ | (refine ⟨_, (kixF (f := HostT.cells) hx19), ?_⟩; conv => whnf) | (refine ⟨_, i4, ?_⟩; conv => whnf) | (refine W.drawn TT_ok hmix1 rfl ?_; conv => whnf) | exact clA _ | (refine And.intro ?_ ?_ <;> conv => whnf) | exact clG _ | (refine gand ?_ h; assumption) | exact clN _ | fail
            refine parkE (fun hc => ?_) (fun hc => ?_)
            · replace b20 := condT hc b20
              conv => whnf
              have e := Option.some.inj b20
              replace e := hret20 _ e.symm
              rw [e] at r20
              replace e := Option.some.inj r20
              replace e := hret19 _ e.symm
              rw [e] at r19
              replace e := Option.some.inj r19
              subst e
              repeat' first | with_reducible rfl | with_reducible exact True.intro | with_reducible assumption | (refine W.drawn TT_ok hmix1 rfl ?_; conv => whnf) | exact clA _ | (refine And.intro ?_ ?_ <;> conv => whnf) | exact clG _ | (refine gand ?_ h; assumption) | exact clN _ | fail
            · replace b20 := condF hc b20
              conv => whnf
              repeat' first | with_reducible rfl | with_reducible exact True.intro | with_reducible assumption | refine parkI ?_ | (refine W.drawn TT_ok hmix1 rfl ?_; conv => whnf) | exact clA _ | (refine And.intro ?_ ?_ <;> conv => whnf) | exact clG _ | (refine gand ?_ h; assumption) | exact clN _ | fail
              have e := Option.some.inj b20
              refine LoopW.norm [(1, (LV.ptr 0 0 0)), (5, (I ((k19 : Nat) : Int))), (6, (I (IntKind.i64.wrap (s20 + 1)))), (34, (I (((a0.Hosts.map HostT.cells).length : Nat) : Int))), (35, (I ((k19 : Nat) : Int)))] 1 [(0, (.row 47 3 [[(I a0.Segs), (LV.ro 2 (a0.Plans.map PlanT.cells)), (LV.ro 2 (a0.Hosts.map HostT.cells))]]))] ⟨rfl, rfl, rfl, rfl, rfl, trivial⟩ ⟨⟨rfl, rfl, blT⟩, trivial⟩ blT rfl (K20 _ e.symm)
          · replace b20 := condF hc b20
            conv => whnf
            have e := Option.some.inj b20
            replace e := hbrk20 _ e.symm
            rw [e] at r20
            dsimp only [aftM] at r20
            repeat' first | with_reducible rfl | with_reducible exact True.intro | with_reducible assumption | refine parkI ?_ | (refine W.drawn TT_ok hmix1 rfl ?_; conv => whnf) | exact clA _ | (refine And.intro ?_ ?_ <;> conv => whnf) | exact clG _ | (refine gand ?_ h; assumption) | exact clN _ | fail
            have e := Option.some.inj r20
            refine LoopW.norm [(1, (LV.ptr 0 0 0)), (34, (I (((a0.Hosts.map HostT.cells).length : Nat) : Int))), (35, (I ((k19 + 1 : Nat) : Int)))] 1 [(0, (.row 47 3 [[(I a0.Segs), (LV.ro 2 (a0.Plans.map PlanT.cells)), (LV.ro 2 (a0.Hosts.map HostT.cells))]]))] ⟨rfl, rfl, (congrArg (LV.int .i64) (w64_nat _ (by omega))), trivial⟩ ⟨⟨rfl, rfl, blT⟩, trivial⟩ blT rfl (K19 _ e.symm)
        · exact (Bool.false_ne_true (hc.symm.trans hd)).elim
  · unfold ref15_twice_c0 at b17
    have hd : decide (((k17 : Nat) : Int) < (((a0.Plans.map PlanT.cells).length : Nat) : Int)) = true := by rw [decide_eq_true_eq]; (try simp only [se_len, se_ch, List.length_map] at hk17); (try simp only [se_len, se_ch, List.length_map]); omega
    refine LoopW.round TT_ok [0, 1, 2, 3, 4, 5, 6, 9, 10, 11, 15, 30, 34, 35, 36, 40, 55] ?_
    conv => whnf
    repeat' first | with_reducible rfl | with_reducible exact True.intro | with_reducible assumption | refine parkI ?_ | (refine W.drawn TT_ok hmix1 rfl ?_; conv => whnf) | exact clA _ | (refine And.intro ?_ ?_ <;> conv => whnf) | exact clG _ | (refine gand ?_ h; assumption) | exact clN _ | fail
    refine parkE (fun hc => ?_) (fun hc => ?_)
    · clear hd
      conv => whnf
      repeat' first | with_reducible rfl | with_reducible exact True.intro | with_reducible assumption | refine parkI ?_ | (refine W.drawn TT_ok hmix1 rfl ?_; conv => whnf) | exact clA _ | (refine And.intro ?_ ?_ <;> conv => whnf) | exact clG _ | (refine gand ?_ h; assumption) | exact clN _ | fail
      replace b17 := aftS b17
      obtain ⟨O18, hO18, r18⟩ := b17
      refine LoopW.norm [(1, (LV.ptr 0 0 0)), (3, (I ((k17 : Nat) : Int))), (4, (I 0)), (9, (I (((a0.Plans.map PlanT.cells).length : Nat) : Int))), (10, (I ((k17 : Nat) : Int)))] 1 [(0, (.row 47 3 [[(I a0.Segs), (LV.ro 2 (a0.Plans.map PlanT.cells)), (LV.ro 2 (a0.Hosts.map HostT.cells))]]))] ⟨rfl, rfl, rfl, rfl, rfl, trivial⟩ ⟨⟨rfl, rfl, blT⟩, trivial⟩ blT rfl ?_
      refine LoopW.forF (fun s18 => [(1, (LV.ptr 0 0 0)), (3, (I ((k17 : Nat) : Int))), (4, (I s18)), (9, (I (((a0.Plans.map PlanT.cells).length : Nat) : Int))), (10, (I ((k17 : Nat) : Int)))]) (fun s18 => ⟨1, [(0, (.row 47 3 [[(I a0.Segs), (LV.ro 2 (a0.Plans.map PlanT.cells)), (LV.ro 2 (a0.Hosts.map HostT.cells))]]))]⟩) hO18 (fun s18 o18 b18 K18 hret18 hbrk18 => ?_)
      unfold ref15_twice_c1 at b18
      refine LoopW.round TT_ok [0, 1, 2, 3, 4, 5, 6, 9, 10, 11, 15, 30, 34, 35, 36, 40, 55] ?_
      conv => whnf
      repeat' first | with_reducible rfl | with_reducible exact True.intro | with_reducible assumption | refine parkI ?_ | (refine W.drawn TT_ok hmix1 rfl ?_; conv => whnf) | exact clA _ | (refine And.intro ?_ ?_ <;> conv => whnf) | exact clG _ | (refine gand ?_ h; assumption) | exact clN _ | fail
      refine parkE (fun hc => ?_) (fun hc => ?_)
      · replace b18 := condT hc b18
        conv => whnf
        replace b18 := bindS b18
        obtain ⟨v1, hv1, b18⟩ := b18
        have i2 := gixF (f := PlanT.cells) hv1
        repeat' first | with_reducible rfl | with_reducible exact True.intro | with_reducible assumption | refine parkI ?_ | (refine ⟨_, (kixF (f := PlanT.cells) hx17), ?_⟩; conv => whnf) | (refine ⟨_, i2, ?_⟩; conv => whnf) | (refine W.drawn TT_ok hmix1 rfl ?_; conv => whnf) | exact clA _ | (refine And.intro ?_ ?_ <;> conv => whnf) | exact clG _ | (refine gand ?_ h; assumption) | exact clN _ | fail
        refine parkE (fun hc => ?_) (fun hc => ?_)
        · replace b18 := condT hc b18
          conv => whnf
          have e := Option.some.inj b18
          replace e := hret18 _ e.symm
          rw [e] at r18
          replace e := Option.some.inj r18
          replace e := hret17 _ e.symm
          rw [e] at r17
          replace e := Option.some.inj r17
          subst e
          repeat' first | with_reducible rfl | with_reducible exact True.intro | with_reducible assumption | (refine W.drawn TT_ok hmix1 rfl ?_; conv => whnf) | exact clA _ | (refine And.intro ?_ ?_ <;> conv => whnf) | exact clG _ | (refine gand ?_ h; assumption) | exact clN _ | fail
        · replace b18 := condF hc b18
          conv => whnf
          repeat' first | with_reducible rfl | with_reducible exact True.intro | with_reducible assumption | refine parkI ?_ | (refine W.drawn TT_ok hmix1 rfl ?_; conv => whnf) | exact clA _ | (refine And.intro ?_ ?_ <;> conv => whnf) | exact clG _ | (refine gand ?_ h; assumption) | exact clN _ | fail
          have e := Option.some.inj b18
          refine LoopW.norm [(1, (LV.ptr 0 0 0)), (3, (I ((k17 : Nat) : Int))), (4, (I (IntKind.i64.wrap (s18 + 1)))), (9, (I (((a0.Plans.map PlanT.cells).length : Nat) : Int))), (10, (I ((k17 : Nat) : Int)))] 1 [(0, (.row 47 3 [[(I a0.Segs), (LV.ro 2 (a0.Plans.map PlanT.cells)), (LV.ro 2 (a0.Hosts.map HostT.cells))]]))] ⟨rfl, rfl, rfl, rfl, rfl, trivial⟩ ⟨⟨rfl, rfl, blT⟩, trivial⟩ blT rfl (K18 _ e.symm)
      · replace b18 := condF hc b18
        conv => whnf
        have e := Option.some.inj b18
        replace e := hbrk18 _ e.symm
        rw [e] at r18
        dsimp only [aftM] at r18
        repeat' first | with_reducible rfl | with_reducible exact True.intro | with_reducible assumption | refine parkI ?_ | (refine W.drawn TT_ok hmix1 rfl ?_; conv => whnf) | exact clA _ | (refine And.intro ?_ ?_ <;> conv => whnf) | exact clG _ | (refine gand ?_ h; assumption) | exact clN _ | fail
        have e := Option.some.inj r18
        refine LoopW.norm [(1, (LV.ptr 0 0 0)), (9, (I (((a0.Plans.map PlanT.cells).length : Nat) : Int))), (10, (I ((k17 + 1 : Nat) : Int)))] 1 [(0, (.row 47 3 [[(I a0.Segs), (LV.ro 2 (a0.Plans.map PlanT.cells)), (LV.ro 2 (a0.Hosts.map HostT.cells))]]))] ⟨rfl, rfl, (congrArg (LV.int .i64) (w64_nat _ (by omega))), trivial⟩ ⟨⟨rfl, rfl, blT⟩, trivial⟩ blT rfl (K17 _ e.symm)
    · exact (Bool.false_ne_true (hc.symm.trans hd)).elim

def ref15_plan_c0 (a1 : Int) (k22 : Nat) (x22 : LinkT) (s22 : Unit) : Option (Step Bool Unit) :=
  (bif (bif (bif (bif (decide (x22.Seg < 0)) then true else (decide (a1 ≤ x22.Seg))) then true else (decide (x22.Cost < 1))) then true else (decide (1000 < x22.Cost))) then
    some (.ret false)
  else
    some (.nxt ()))

def ref15_plan (a0 : PlanT) (a1 : Int) : Option Bool :=
  aft (rangeL (ref15_plan_c0 a1) a0.Ports ()) fun s22 =>
  some (bif (bif (bif (decide (0 ≤ a0.ID)) then (decide (a0.ID ≤ 65535)) else false) then (decide (1 ≤ ((a0.Ports.length : Nat) : Int))) else false) then (decide (((a0.Ports.length : Nat) : Int) ≤ 8)) else false)

theorem c_ref15_plan (a0 : PlanT) (a1 : Int) (r : Bool) (h : ref15_plan a0 a1 = some r) : CallP Try.prog 65 [(LV.agg [(I a0.ID), (LV.ro 3 (a0.Ports.map LinkT.cells))]), (I a1)] (LV.bool r) := by
  unfold ref15_plan at h
  refine .intro nlA (.intro TT_ok Try.func65 rfl rfl [0, 1, 2, 4, 6, 8, 9, 10, 11, 32] rfl ?_)
  conv => whnf
  repeat' first | with_reducible rfl | with_reducible exact True.intro | with_reducible assumption | refine parkI ?_ | (refine And.intro ?_ ?_ <;> conv => whnf) | fail
  replace h := aftS h
  obtain ⟨O22, hO22, r22⟩ := h
  refine LoopW.norm [(1, (I a1)), (2, (LV.ptr 0 0 0)), (8, (LV.ro 3 (a0.Ports.map LinkT.cells))), (9, (I (((a0.Ports.map LinkT.cells).length : Nat) : Int))), (10, (I ((0 : Nat) : Int)))] 1 [(0, (.row 87 2 [[(I a0.ID), (LV.ro 3 (a0.Ports.map LinkT.cells))]]))] ⟨rfl, rfl, rfl, rfl, rfl, trivial⟩ ⟨⟨rfl, rfl, blT⟩, trivial⟩ blT rfl ?_
  refine LoopW.forR (fun k22 s22 => [(1, (I a1)), (2, (LV.ptr 0 0 0)), (8, (LV.ro 3 (a0.Ports.map LinkT.cells))), (9, (I (((a0.Ports.map LinkT.cells).length : Nat) : Int))), (10, (I ((k22 : Nat) : Int)))]) (fun s22 => ⟨1, [(0, (.row 87 2 [[(I a0.ID), (LV.ro 3 (a0.Ports.map LinkT.cells))]]))]⟩) hO22 (fun hl22 s22 hs22 => ?_) (fun hl22 k22 x22 s22 o22 hk22 hx22 b22 K22 hret22 hbrk22 => ?_)
  · rw [hs22] at r22
    dsimp only [aftM] at r22
    have hd : decide (((a0.Ports.length : Nat) : Int) < (((a0.Ports.map LinkT.cells).length : Nat) : Int)) = false := by rw [decide_eq_false_iff_not]; (try simp only [se_len, se_ch, List.length_map]); omega
    refine LoopW.round TT_ok [0, 1, 2, 4, 6, 8, 9, 10, 11, 32] ?_
    conv => whnf
    repeat' first | with_reducible rfl | with_reducible exact True.intro | with_reducible assumption | refine parkI ?_ | (refine And.intro ?_ ?_ <;> conv => whnf) | fail
    refine parkE (fun hc => ?_) (fun hc => ?_)
    · exact (Bool.false_ne_true (hd.symm.trans hc)).elim
    · clear hd
      conv => whnf
      have e := Option.some.inj r22
      subst e
      repeat' first | with_reducible rfl | with_reducible exact True.intro | with_reducible assumption | exact clA _ | (refine And.intro ?_ ?_ <;> conv => whnf) | exact clG _ | (refine gand ?_ h; assumption) | exact clN _ | fail
  · unfold ref15_plan_c0 at b22
    have hd : decide (((k22 : Nat) : Int) < (((a0.Ports.map LinkT.cells).length : Nat) : Int)) = true := by rw [decide_eq_true_eq]; (try simp only [se_len, se_ch, List.length_map] at hk22); (try simp only [se_len, se_ch, List.length_map]); omega
    refine LoopW.round TT_ok [0, 1, 2, 4, 6, 8, 9, 10, 11, 32] ?_
    conv => whnf
    repeat' first | with_reducible rfl | with_reducible exact True.intro | with_reducible assumption | refine parkI ?_ | (refine And.intro ?_ ?_ <;> conv => whnf) | fail
    refine parkE (fun hc => ?_) (fun hc => ?_)
    · clear hd
      conv => whnf
      repeat' first | with_reducible rfl | with_reducible exact True.intro | with_reducible assumption | refine parkI ?_ | (refine ⟨_, (kixF (f := LinkT.cells) hx22), ?_⟩; conv => whnf) | exact clA _ | (refine And.intro ?_ ?_ <;> conv => whnf) | exact clG _ | (refine gand ?_ h; assumption) | fail
      refine parkE (fun hc => ?_) (fun hc => ?_)
      · replace b22 := condT hc b22
        conv => whnf
        have e := Option.some.inj b22
        replace e := hret22 _ e.symm
        rw [e] at r22
        replace e := Option.some.inj r22
        subst e
        repeat' first | with_reducible rfl | with_reducible exact True.intro | with_reducible assumption | exact clA _ | (refine And.intro ?_ ?_ <;> conv => whnf) | exact clG _ | (refine gand ?_ h; assumption) | exact clN _ | fail
      · replace b22 := condF hc b22
        conv => whnf
        repeat' first | with_reducible rfl | with_reducible exact True.intro | with_reducible assumption | refine parkI ?_ | (refine And.intro ?_ ?_ <;> conv => whnf) | fail
        have e := Option.some.inj b22
        refine LoopW.norm [(1, (I a1)), (2, (LV.ptr 0 0 0)), (8, (LV.ro 3 (a0.Ports.map LinkT.cells))), (9, (I (((a0.Ports.map LinkT.cells).length : Nat) : Int))), (10, (I ((k22 + 1 : Nat) : Int)))] 1 [(0, (.row 87 2 [[(I a0.ID), (LV.ro 3 (a0.Ports.map LinkT.cells))]]))] ⟨rfl, rfl, rfl, rfl, (congrArg (LV.int .i64) (w64_nat _ (by omega))), trivial⟩ ⟨⟨rfl, rfl, blT⟩, trivial⟩ blT rfl (K22 _ e.symm)
    · exact (Bool.false_ne_true (hc.symm.trans hd)).elim

def ref01_Right (a0 : Int) : Option Bool :=
  some (bif (decide (0 ≤ a0)) then (decide (a0 < 281474976710656)) else false)

theorem c_ref01_Right (a0 : Int) (r : Bool) (h : ref01_Right a0 = some r) : CallP Try.prog 98 [(I a0)] (LV.bool r) := by
  unfold ref01_Right at h
  refine .intro nlA (.intro TT_ok Try.func98 rfl rfl [0, 2] rfl ?_)
  conv => whnf
  have e := Option.some.inj h
  subst e
  repeat' first | with_reducible rfl | with_reducible exact True.intro | with_reducible assumption | exact clA _ | (refine And.intro ?_ ?_ <;> conv => whnf) | exact clG _ | (refine gand ?_ h; assumption) | exact clN _ | fail

def ref01_Class (a0 : Int) : Option Int :=
  (bif (decide ((IntKind.i64.wrap ((a0).tdiv 16)) = 103282638848)) then
    some 2
  else
    (bif (decide ((((IntKind.i64.wrap ((a0).tdiv 1099511627776))).tmod 2) = 1)) then
      some 1
    else
      some 0))

theorem c_ref01_Class (a0 : Int) (r : Int) (h : ref01_Class a0 = some r) : CallP Try.prog 99 [(I a0)] (I r) := by
  unfold ref01_Class at h
  refine .intro nlA (.intro TT_ok Try.func99 rfl rfl [0, 2, 5, 9] rfl ?_)
  conv => whnf
  repeat' first | with_reducible rfl | with_reducible exact True.intro | with_reducible assumption | refine parkI ?_ | exact (by decide : ((16 : Int) ≠ 0)) | (refine And.intro ?_ ?_ <;> conv => whnf) | fail
  refine parkE (fun hc => ?_) (fun hc => ?_)
  · replace h := condT hc h
    conv => whnf
    have e := Option.some.inj h
    subst e
    repeat' first | with_reducible rfl | with_reducible exact True.intro | with_reducible assumption | exact clA _ | (refine And.intro ?_ ?_ <;> conv => whnf) | exact clG _ | (refine gand ?_ h; assumption) | exact clN _ | fail
  · replace h := condF hc h
    conv => whnf
    repeat' first | with_reducible rfl | with_reducible exact True.intro | with_reducible assumption | refine parkI ?_ | exact (by decide : ((1099511627776 : Int) ≠ 0)) | exact (by decide : ((2 : Int) ≠ 0)) | (refine And.intro ?_ ?_ <;> conv => whnf) | fail
    refine parkE (fun hc => ?_) (fun hc => ?_)
    · replace h := condT hc h
      conv => whnf
      have e := Option.some.inj h
      subst e
      repeat' first | with_reducible rfl | with_reducible exact True.intro | with_reducible assumption | exact clA _ | (refine And.intro ?_ ?_ <;> conv => whnf) | exact clG _ | (refine gand ?_ h; assumption) | exact clN _ | fail
    · replace h := condF hc h
      conv => whnf
      have e := Option.some.inj h
      subst e
      repeat' first | with_reducible rfl | with_reducible exact True.intro | with_reducible assumption | exact clA _ | (refine And.intro ?_ ?_ <;> conv => whnf) | exact clG _ | (refine gand ?_ h; assumption) | exact clN _ | fail

def ref08_Mac (a0 : Int) : Option Bool :=
  (ref01_Right a0).bind fun y5 =>
  (gd y5 (ref01_Class a0)).bind fun y7 =>
  some (bif y5 then (decide (y7 = 0)) else false)

theorem c_ref08_Mac (a0 : Int) (r : Bool) (h : ref08_Mac a0 = some r) : CallP Try.prog 66 [(I a0)] (LV.bool r) := by
  unfold ref08_Mac at h
  refine .intro nlA (.intro TT_ok Try.func66 rfl rfl [0, 2] rfl ?_)
  conv => whnf
  replace h := bindS h
  obtain ⟨y5, hy5, h⟩ := h
  have c6 := c_ref01_Right a0 _ hy5
  replace h := bindS h
  obtain ⟨y7, hy7, h⟩ := h
  have c8 := fun (hg : y5 = true) => c_ref01_Class a0 _ (gdS hg hy7)
  have e := Option.some.inj h
  subst e
  repeat' first | with_reducible rfl | with_reducible exact True.intro | with_reducible assumption | (refine ⟨_, c8, ?_⟩; conv => whnf) | (refine CallP.use c6 ?_; conv => whnf) | exact clA _ | (refine And.intro ?_ ?_ <;> conv => whnf) | exact clG _ | (refine gand ?_ h; assumption) | exact clN _ | fail

def ref15_Right_c0 (a0 : LanT) (k21 : Nat) (x21 : PlanT) (s21 : Unit) : Option (Step Bool Unit) :=
  (ref15_plan x21 a0.Segs).bind fun y3 =>
  (bif (!y3) then
    some (.ret false)
  else
    some (.nxt ()))

def ref15_Right_c1 (a0 : LanT) (k23 : Nat) (x23 : HostT) (s23 : Unit) : Option (Step Bool Unit) :=
  (ref08_Mac x23.Mac).bind fun y5 =>
  (bif (bif (bif (!y5) then true else (decide (x23.Seg < 0))) then true else (decide (a0.Segs ≤ x23.Seg))) then
    some (.ret false)
  else
    some (.nxt ()))

def ref15_Right (a0 : LanT) : Option Bool :=
  (gd (!(bif (bif (bif (decide (a0.Segs < 1)) then true else (decide (8 < a0.Segs))) then true else (decide (6 < ((a0.Plans.length : Nat) : Int)))) then true else (decide (8 < ((a0.Hosts.length : Nat) : Int))))) (ref15_twice a0)).bind fun y1 =>
  (bif (bif (bif (bif (bif (decide (a0.Segs < 1)) then true else (decide (8 < a0.Segs))) then true else (decide (6 < ((a0.Plans.length : Nat) : Int)))) then true else (decide (8 < ((a0.Hosts.length : Nat) : Int)))) then true else y1) then
    some false
  else
    aft (rangeL (ref15_Right_c0 a0) a0.Plans ()) fun s21 =>
    aft (rangeL (ref15_Right_c1 a0) a0.Hosts ()) fun s23 =>
    some true)

theorem c_ref15_Right (a0 : LanT) (r : Bool) (h : ref15_Right a0 = some r) : CallP Try.prog 36 [(LV.agg [(I a0.Segs), (LV.ro 2 (a0.Plans.map PlanT.cells)), (LV.ro 2 (a0.Hosts.map HostT.cells))])] (LV.bool r) := by
  unfold ref15_Right at h
  refine .intro nlA (.intro TT_ok Try.func36 rfl rfl [0, 1, 2, 4, 6, 30, 32, 33, 34, 35, 42, 45, 46, 47, 48, 66] rfl ?_)
  conv => whnf
  replace h := bindS h
  obtain ⟨y1, hy1, h⟩ := h
  have c2 := fun (hg : (!(bif (bif (bif (decide (a0.Segs < 1)) then true else (decide (8 < a0.Segs))) then true else (decide (6 < (((a0.Plans.map PlanT.cells).length : Nat) : Int)))) then true else (decide (8 < (((a0.Hosts.map HostT.cells).length : Nat) : Int))))) = true) => c_ref15_twice a0 _ (gdS (show (!(bif (bif (bif (decide (a0.Segs < 1)) then true else (decide (8 < a0.Segs))) then true else (decide (6 < ((a0.Plans.length : Nat) : Int)))) then true else (decide (8 < ((a0.Hosts.length : Nat) : Int))))) = true by simpa only [se_len, se_ch, List.length_map] using hg) hy1)
  repeat' first | with_reducible rfl | with_reducible exact True.intro | with_reducible assumption | refine parkI ?_ | (refine ⟨_, c2, ?_⟩; conv => whnf) | exact clA _ | (refine And.intro ?_ ?_ <;> conv => whnf) | exact clG _ | (refine gand ?_ h; assumption) | fail
  refine parkE (fun hc => ?_) (fun hc => ?_)
  · replace h := condT (by first | exact hc | (simpa only [se_len, se_ch, List.length_map] using hc; done) | (have h0 : (bif (bif (bif (bif (decide (a0.Segs < 1)) then true else (decide (8 < a0.Segs))) then true else (decide (6 < (((a0.Plans.map PlanT.cells).length : Nat) : Int)))) then true else (decide (8 < (((a0.Hosts.map HostT.cells).length : Nat) : Int)))) then true else y1) = true := hc; simpa only [se_len, se_ch, List.length_map] using h0)) h
    conv => whnf
    have e := Option.some.inj h
    subst e
    repeat' first | with_reducible rfl | with_reducible exact True.intro | with_reducible assumption | exact clA _ | (refine And.intro ?_ ?_ <;> conv => whnf) | exact clG _ | (refine gand ?_ h; assumption) | exact clN _ | fail
  · replace h := condF (by first | exact hc | (simpa only [se_len, se_ch, List.length_map] using hc; done) | (have h0 : (bif (bif (bif (bif (decide (a0.Segs < 1)) then true else (decide (8 < a0.Segs))) then true else (decide (6 < (((a0.Plans.map PlanT.cells).length : Nat) : Int)))) then true else (decide (8 < (((a0.Hosts.map HostT.cells).length : Nat) : Int)))) then true else y1) = false := hc; simpa only [se_len, se_ch, List.length_map] using h0)) h
    conv => whnf
    repeat' first | with_reducible rfl | with_reducible exact True.intro | with_reducible assumption | refine parkI ?_ | (refine And.intro ?_ ?_ <;> conv => whnf) | fail
    replace h := aftS h
    obtain ⟨O21, hO21, r21⟩ := h
    refine LoopW.norm [(1, (LV.ptr 0 0 0)), (32, (LV.ro 2 (a0.Plans.map PlanT.cells))), (33, (I (((a0.Plans.map PlanT.cells).length : Nat) : Int))), (34, (I ((0 : Nat) : Int)))] 1 [(0, (.row 47 3 [[(I a0.Segs), (LV.ro 2 (a0.Plans.map PlanT.cells)), (LV.ro 2 (a0.Hosts.map HostT.cells))]]))] ⟨rfl, rfl, rfl, rfl, trivial⟩ ⟨⟨rfl, rfl, blT⟩, trivial⟩ blT rfl ?_
    refine LoopW.forR (fun k21 s21 => [(1, (LV.ptr 0 0 0)), (32, (LV.ro 2 (a0.Plans.map PlanT.cells))), (33, (I (((a0.Plans.map PlanT.cells).length : Nat) : Int))), (34, (I ((k21 : Nat) : Int)))]) (fun s21 => ⟨1, [(0, (.row 47 3 [[(I a0.Segs), (LV.ro 2 (a0.Plans.map PlanT.cells)), (LV.ro 2 (a0.Hosts.map HostT.cells))]]))]⟩) hO21 (fun hl21 s21 hs21 => ?_) (fun hl21 k21 x21 s21 o21 hk21 hx21 b21 K21 hret21 hbrk21 => ?_)
    · rw [hs21] at r21
      dsimp only [aftM] at r21
      have hd : decide (((a0.Plans.length : Nat) : Int) < (((a0.Plans.map PlanT.cells).length : Nat) : Int)) = false := by rw [decide_eq_false_iff_not]; (try simp only [se_len, se_ch, List.length_map]); omega
      refine LoopW.round TT_ok [0, 1, 2, 4, 6, 30, 32, 33, 34, 35, 42, 45, 46, 47, 48, 66] ?_
      conv => whnf
      repeat' first | with_reducible rfl | with_reducible exact True.intro | with_reducible assumption | refine parkI ?_ | (refine And.intro ?_ ?_ <;> conv => whnf) | fail
      refine parkE (fun hc => ?_) (fun hc => ?_)
      · exact (Bool.false_ne_true (hd.symm.trans hc)).elim
      · clear hd
        conv => whnf
        repeat' first | with_reducible rfl | with_reducible exact True.intro | with_reducible assumption | refine parkI ?_ | (refine And.intro ?_ ?_ <;> conv => whnf) | fail
        replace r21 := aftS r21
        obtain ⟨O23, hO23, r23⟩ := r21
        refine LoopW.norm [(1, (LV.ptr 0 0 0)), (45, (LV.ro 2 (a0.Hosts.map HostT.cells))), (46, (I (((a0.Hosts.map HostT.cells).length : Nat) : Int))), (47, (I ((0 : Nat) : Int)))] 1 [(0, (.row 47 3 [[(I a0.Segs), (LV.ro 2 (a0.Plans.map PlanT.cells)), (LV.ro 2 (a0.Hosts.map HostT.cells))]]))] ⟨rfl, rfl, rfl, rfl, trivial⟩ ⟨⟨rfl, rfl, blT⟩, trivial⟩ blT rfl ?_
        refine LoopW.forR (fun k23 s23 => [(1, (LV.ptr 0 0 0)), (45, (LV.ro 2 (a0.Hosts.map HostT.cells))), (46, (I (((a0.Hosts.map HostT.cells).length : Nat) : Int))), (47, (I ((k23 : Nat) : Int)))]) (fun s23 => ⟨1, [(0, (.row 47 3 [[(I a0.Segs), (LV.ro 2 (a0.Plans.map PlanT.cells)), (LV.ro 2 (a0.Hosts.map HostT.cells))]]))]⟩) hO23 (fun hl23 s23 hs23 => ?_) (fun hl23 k23 x23 s23 o23 hk23 hx23 b23 K23 hret23 hbrk23 => ?_)
        · rw [hs23] at r23
          dsimp only [aftM] at r23
          have hd : decide (((a0.Hosts.length : Nat) : Int) < (((a0.Hosts.map HostT.cells).length : Nat) : Int)) = false := by rw [decide_eq_false_iff_not]; (try simp only [se_len, se_ch, List.length_map]); omega
          refine LoopW.round TT_ok [0, 1, 2, 4, 6, 30, 32, 33, 34, 35, 42, 45, 46, 47, 48, 66] ?_
          conv => whnf
          repeat' first | with_reducible rfl | with_reducible exact True.intro | with_reducible assumption | refine parkI ?_ | (refine And.intro ?_ ?_ <;> conv => whnf) | fail
          refine parkE (fun hc => ?_) (fun hc => ?_)
          · exact (Bool.false_ne_true (hd.symm.trans hc)).elim
          · clear hd
            conv => whnf
            have e := Option.some.inj r23
            subst e
            repeat' first | with_reducible rfl | with_reducible exact True.intro | with_reducible assumption | exact clA _ | (refine And.intro ?_ ?_ <;> conv => whnf) | exact clG _ | (refine gand ?_ h; assumption) | exact clN _ | fail
        · unfold ref15_Right_c1 at b23
          have hd : decide (((k23 : Nat) : Int) < (((a0.Hosts.map HostT.cells).length : Nat) : Int)) = true := by rw [decide_eq_true_eq]; (try simp only [se_len, se_ch, List.length_map] at hk23); (try simp only [se_len, se_ch, List.length_map]); omega
          refine LoopW.round TT_ok [0, 1, 2, 4, 6, 30, 32, 33, 34, 35, 42, 45, 46, 47, 48, 66] ?_
          conv => whnf
          repeat' first | with_reducible rfl | with_reducible exact True.intro | with_reducible assumption | refine parkI ?_ | (refine And.intro ?_ ?_ <;> conv => whnf) | fail
          refine parkE (fun hc => ?_) (fun hc => ?_)
          · clear hd
            conv => whnf
            replace b23 := bindS b23
            obtain ⟨y5, hy5, b23⟩ := b23
            have c6 := c_ref08_Mac x23.Mac _ hy5
            repeat' first | with_reducible rfl | with_reducible exact True.intro | with_reducible assumption | refine parkI ?_ | (refine ⟨_, (kixF (f := HostT.cells) hx23), ?_⟩; conv => whnf) | (refine CallP.use c6 ?_; conv => whnf) | exact clA _ | (refine And.intro ?_ ?_ <;> conv => whnf) | exact clG _ | (refine gand ?_ h; assumption) | fail
            refine parkE (fun hc => ?_) (fun hc => ?_)
            · replace b23 := condT hc b23
              conv => whnf
              have e := Option.some.inj b23
              replace e := hret23 _ e.symm
              rw [e] at r23
              replace e := Option.some.inj r23
              subst e
              repeat' first | with_reducible rfl | with_reducible exact True.intro | with_reducible assumption | exact clA _ | (refine And.intro ?_ ?_ <;> conv => whnf) | exact clG _ | (refine gand ?_ h; assumption) | exact clN _ | fail
            · replace b23 := condF hc b23
              conv => whnf
              repeat' first | with_reducible rfl | with_reducible exact True.intro | with_reducible assumption | refine parkI ?_ | (refine And.intro ?_ ?_ <;> conv => whnf) | fail
              have e := Option.some.inj b23
              refine LoopW.norm [(1, (LV.ptr 0 0 0)), (45, (LV.ro 2 (a0.Hosts.map HostT.cells))), (46, (I (((a0.Hosts.map HostT.cells).length : Nat) : Int))), (47, (I ((k23 + 1 : Nat) : Int)))] 1 [(0, (.row 47 3 [[(I a0.Segs), (LV.ro 2 (a0.Plans.map PlanT.cells)), (LV.ro 2 (a0.Hosts.map HostT.cells))]]))] ⟨rfl, rfl, rfl, (congrArg (LV.int .i64) (w64_nat _ (by omega))), trivial⟩ ⟨⟨rfl, rfl, blT⟩, trivial⟩ blT rfl (K23 _ e.symm)
          · exact (Bool.false_ne_true (hc.symm.trans hd)).elim
    · unfold ref15_Right_c0 at b21
      have hd : decide (((k21 : Nat) : Int) < (((a0.Plans.map PlanT.cells).length : Nat) : Int)) = true := by rw [decide_eq_true_eq]; (try simp only [se_len, se_ch, List.length_map] at hk21); (try simp only [se_len, se_ch, List.length_map]); omega
      refine LoopW.round TT_ok [0, 1, 2, 4, 6, 30, 32, 33, 34, 35, 42, 45, 46, 47, 48, 66] ?_
      conv => whnf
      repeat' first | with_reducible rfl | with_reducible exact True.intro | with_reducible assumption | refine parkI ?_ | (refine And.intro ?_ ?_ <;> conv => whnf) | fail
      refine parkE (fun hc => ?_) (fun hc => ?_)
      · clear hd
        conv => whnf
        replace b21 := bindS b21
        obtain ⟨y3, hy3, b21⟩ := b21
        have c4 := c_ref15_plan x21 a0.Segs _ hy3
        repeat' first | with_reducible rfl | with_reducible exact True.intro | with_reducible assumption | refine parkI ?_ | (refine ⟨_, (kixF (f := PlanT.cells) hx21), ?_⟩; conv => whnf) | (refine CallP.use c4 ?_; conv => whnf) | (refine And.intro ?_ ?_ <;> conv => whnf) | fail
        refine parkE (fun hc => ?_) (fun hc => ?_)
        · replace b21 := condT hc b21
          conv => whnf
          have e := Option.some.inj b21
          replace e := hret21 _ e.symm
          rw [e] at r21
          replace e := Option.some.inj r21
          subst e
          repeat' first | with_reducible rfl | with_reducible exact True.intro | with_reducible assumption | exact clA _ | (refine And.intro ?_ ?_ <;> conv => whnf) | exact clG _ | (refine gand ?_ h; assumption) | exact clN _ | fail
        · replace b21 := condF hc b21
          conv => whnf
          repeat' first | with_reducible rfl | with_reducible exact True.intro | with_reducible assumption | refine parkI ?_ | (refine And.intro ?_ ?_ <;> conv => whnf) | fail
          have e := Option.some.inj b21
          refine LoopW.norm [(1, (LV.ptr 0 0 0)), (32, (LV.ro 2 (a0.Plans.map PlanT.cells))), (33, (I (((a0.Plans.map PlanT.cells).length : Nat) : Int))), (34, (I ((k21 + 1 : Nat) : Int)))] 1 [(0, (.row 47 3 [[(I a0.Segs), (LV.ro 2 (a0.Plans.map PlanT.cells)), (LV.ro 2 (a0.Hosts.map HostT.cells))]]))] ⟨rfl, rfl, rfl, (congrArg (LV.int .i64) (w64_nat _ (by omega))), trivial⟩ ⟨⟨rfl, rfl, blT⟩, trivial⟩ blT rfl (K21 _ e.symm)
      · exact (Bool.false_ne_true (hc.symm.trans hd)).elim

def ref17_May_c0 (a1 : (List (List Bool))) (k24 : Nat) (x24 : PlanT) (s24 : Unit) : Option (Step Bool Unit) :=
  (gix a1 ((k24 : Nat) : Int)).bind fun v3 =>
  (bif (!decide (((v3.length : Nat) : Int) = ((x24.Ports.length : Nat) : Int))) then
    some (.ret false)
  else
    some (.nxt ()))

def ref17_May (a0 : LanT) (a1 : (List (List Bool))) : Option Bool :=
  (ref15_Right a0).bind fun y1 =>
  (bif (bif (!y1) then true else (!decide (((a1.length : Nat) : Int) = ((a0.Plans.length : Nat) : Int)))) then
    some false
  else
    aft (rangeL (ref17_May_c0 a1) a0.Plans ()) fun s24 =>
    some true)

theorem c_ref17_May (a0 : LanT) (a1 : (List (List Bool))) (r : Bool) (h : ref17_May a0 a1 = some r) : CallP Try.prog 34 [(LV.agg [(I a0.Segs), (LV.ro 2 (a0.Plans.map PlanT.cells)), (LV.ro 2 (a0.Hosts.map HostT.cells))]), (LV.ro 1 (a1.map (roC 1 bC)))] (LV.bool r) := by
  unfold ref17_May at h
  refine .intro nlA (.intro TT_ok Try.func34 rfl rfl [0, 1, 2, 4, 5, 6, 17, 19, 20, 21, 22, 34] rfl ?_)
  conv => whnf
  replace h := bindS h
  obtain ⟨y1, hy1, h⟩ := h
  have c2 := c_ref15_Right a0 _ hy1
  repeat' first | with_reducible rfl | with_reducible exact True.intro | with_reducible assumption | refine parkI ?_ | (refine CallP.use c2 ?_; conv => whnf) | (refine ⟨_, _, CallP.at c2, ?_⟩; conv => whnf) | (refine ⟨_, fun _ => c2, ?_⟩; conv => whnf) | (refine W.drawn TT_ok hmix1 rfl ?_; conv => whnf) | exact clA _ | (refine And.intro ?_ ?_ <;> conv => whnf) | exact clG _ | (refine gand ?_ h; assumption) | exact clN _ | fail
  refine parkE (fun hc => ?_) (fun hc => ?_)
  · replace h := condT (by first | exact hc | (simpa only [se_len, se_ch, List.length_map] using hc; done) | (have h0 : (bif (!y1) then true else (!decide ((((a1.map (roC 1 bC)).length : Nat) : Int) = (((a0.Plans.map PlanT.cells).length : Nat) : Int)))) = true := hc; simpa only [se_len, se_ch, List.length_map] using h0)) h
    conv => whnf
    have e := Option.some.inj h
    subst e
    repeat' first | with_reducible rfl | with_reducible exact True.intro | with_reducible assumption | (refine W.drawn TT_ok hmix1 rfl ?_; conv => whnf) | exact clA _ | (refine And.intro ?_ ?_ <;> conv => whnf) | exact clG _ | (refine gand ?_ h; assumption) | exact clN _ | fail
  · replace h := condF (by first | exact hc | (simpa only [se_len, se_ch, List.length_map] using hc; done) | (have h0 : (bif (!y1) then true else (!decide ((((a1.map (roC 1 bC)).length : Nat) : Int) = (((a0.Plans.map PlanT.cells).length : Nat) : Int)))) = false := hc; simpa only [se_len, se_ch, List.length_map] using h0)) h
    conv => whnf
    repeat' first | with_reducible rfl | with_reducible exact True.intro | with_reducible assumption | refine parkI ?_ | (refine W.drawn TT_ok hmix1 rfl ?_; conv => whnf) | exact clA _ | (refine And.intro ?_ ?_ <;> conv => whnf) | exact clG _ | (refine gand ?_ h; assumption) | exact clN _ | fail
    replace h := aftS h
    obtain ⟨O24, hO24, r24⟩ := h
    refine LoopW.norm [(1, (LV.ro 1 (a1.map (roC 1 bC)))), (19, (LV.ro 2 (a0.Plans.map PlanT.cells))), (20, (I (((a0.Plans.map PlanT.cells).length : Nat) : Int))), (21, (I ((0 : Nat) : Int)))] 0 [] ⟨rfl, rfl, rfl, rfl, trivial⟩ trivial blT rfl ?_
    refine LoopW.forR (fun k24 s24 => [(1, (LV.ro 1 (a1.map (roC 1 bC)))), (19, (LV.ro 2 (a0.Plans.map PlanT.cells))), (20, (I (((a0.Plans.map PlanT.cells).length : Nat) : Int))), (21, (I ((k24 : Nat) : Int)))]) (fun s24 => ⟨0, []⟩) hO24 (fun hl24 s24 hs24 => ?_) (fun hl24 k24 x24 s24 o24 hk24 hx24 b24 K24 hret24 hbrk24 => ?_)
    · rw [hs24] at r24
      dsimp only [aftM] at r24
      have hd : decide (((a0.Plans.length : Nat) : Int) < (((a0.Plans.map PlanT.cells).length : Nat) : Int)) = false := by rw [decide_eq_false_iff_not]; (try simp only [se_len, se_ch, List.length_map]); omega
      refine LoopW.round TT_ok [0, 1, 2, 4, 5, 6, 17, 19, 20, 21, 22, 34] ?_
      conv => whnf
      repeat' first | with_reducible rfl | with_reducible exact True.intro | with_reducible assumption | refine parkI ?_ | (refine W.drawn TT_ok hmix1 rfl ?_; conv => whnf) | exact clA _ | (refine And.intro ?_ ?_ <;> conv => whnf) | exact clG _ | (refine gand ?_ h; assumption) | exact clN _ | fail
      refine parkE (fun hc => ?_) (fun hc => ?_)
      · exact (Bool.false_ne_true (hd.symm.trans hc)).elim
      · clear hd
        conv => whnf
        have e := Option.some.inj r24
        subst e
        repeat' first | with_reducible rfl | with_reducible exact True.intro | with_reducible assumption | (refine W.drawn TT_ok hmix1 rfl ?_; conv => whnf) | exact clA _ | (refine And.intro ?_ ?_ <;> conv => whnf) | exact clG _ | (refine gand ?_ h; assumption) | exact clN _ | fail
    · unfold ref17_May_c0 at b24
      have hd : decide (((k24 : Nat) : Int) < (((a0.Plans.map PlanT.cells).length : Nat) : Int)) = true := by rw [decide_eq_true_eq]; (try simp only [se_len, se_ch, List.length_map] at hk24); (try simp only [se_len, se_ch, List.length_map]); omega
      refine LoopW.round TT_ok [0, 1, 2, 4, 5, 6, 17, 19, 20, 21, 22, 34] ?_
      conv => whnf
      repeat' first | with_reducible rfl | with_reducible exact True.intro | with_reducible assumption | refine parkI ?_ | (refine W.drawn TT_ok hmix1 rfl ?_; conv => whnf) | exact clA _ | (refine And.intro ?_ ?_ <;> conv => whnf) | exact clG _ | (refine gand ?_ h; assumption) | exact clN _ | fail
      refine parkE (fun hc => ?_) (fun hc => ?_)
      · clear hd
        conv => whnf
        replace b24 := bindS b24
        obtain ⟨v3, hv3, b24⟩ := b24
        have i4 := gixF (f := (roC 1 bC)) hv3
        repeat' first | with_reducible rfl | with_reducible exact True.intro | with_reducible assumption | refine parkI ?_ | (refine ⟨_, (kixF (f := PlanT.cells) hx24), ?_⟩; conv => whnf) | (refine ⟨_, i4, ?_⟩; conv => whnf) | (refine W.drawn TT_ok hmix1 rfl ?_; conv => whnf) | exact clA _ | (refine And.intro ?_ ?_ <;> conv => whnf) | exact clG _ | (refine gand ?_ h; assumption) | exact clN _ | fail
        refine parkE (fun hc => ?_) (fun hc => ?_)
        · replace b24 := condT (by first | exact hc | (simpa only [se_len, se_ch, List.length_map] using hc; done) | (have h0 : (!decide ((((v3.map bC).length : Nat) : Int) = (((x24.Ports.map LinkT.cells).length : Nat) : Int))) = true := hc; simpa only [se_len, se_ch, List.length_map] using h0)) b24
          conv => whnf
          have e := Option.some.inj b24
          replace e := hret24 _ e.symm
          rw [e] at r24
          replace e := Option.some.inj r24
          subst e
          repeat' first | with_reducible rfl | with_reducible exact True.intro | with_reducible assumption | (refine W.drawn TT_ok hmix1 rfl ?_; conv => whnf) | exact clA _ | (refine And.intro ?_ ?_ <;> conv => whnf) | exact clG _ | (refine gand ?_ h; assumption) | exact clN _ | fail
        · replace b24 := condF (by first | exact hc | (simpa only [se_len, se_ch, List.length_map] using hc; done) | (have h0 : (!decide ((((v3.map bC).length : Nat) : Int) = (((x24.Ports.map LinkT.cells).length : Nat) : Int))) = false := hc; simpa only [se_len, se_ch, List.length_map] using h0)) b24
          conv => whnf
          repeat' first | with_reducible rfl | with_reducible exact True.intro | with_reducible assumption | refine parkI ?_ | (refine W.drawn TT_ok hmix1 rfl ?_; conv => whnf) | exact clA _ | (refine And.intro ?_ ?_ <;> conv => whnf) | exact clG _ | (refine gand ?_ h; assumption) | exact clN _ | fail
          have e := Option.some.inj b24
          refine LoopW.norm [(1, (LV.ro 1 (a1.map (roC 1 bC)))), (19, (LV.ro 2 (a0.Plans.map PlanT.cells))), (20, (I (((a0.Plans.map PlanT.cells).length : Nat) : Int))), (21, (I ((k24 + 1 : Nat) : Int)))] 0 [] ⟨rfl, rfl, rfl, (congrArg (LV.int .i64) (w64_nat _ (by omega))), trivial⟩ trivial blT rfl (K24 _ e.symm)
      · exact (Bool.false_ne_true (hc.symm.trans hd)).elim

def ref01_Of_c0 (a0 : ByteArray) (s26 : (Int × Int)) : Option (Step Int (Int × Int)) :=
  (bif (decide (s26.2 < ((a0.size : Nat) : Int))) then
    (gixS a0 s26.2).bind fun v4 =>
    some (.nxt ((IntKind.i64.wrap ((IntKind.i64.wrap (256 * s26.1)) + (IntKind.i64.wrap ((v4.toNat : Nat) : Int)))), (IntKind.i64.wrap (s26.2 + 1))))
  else
    some (.brk (s26.1, s26.2)))

def ref01_Of (a0 : ByteArray) : Option Int :=
  aft (loopF 1000000 (ref01_Of_c0 a0) (0, 0)) fun s26 =>
  some s26.1

theorem c_ref01_Of (a0 : ByteArray) (r : Int) (h : ref01_Of a0 = some r) : CallP Try.prog 126 [(LV.str a0)] (I r) := by
  unfold ref01_Of at h
  refine .intro nlA (.intro TT_ok Try.func126 rfl rfl [0, 2, 3, 4, 8] rfl ?_)
  conv => whnf
  repeat' first | with_reducible rfl | with_reducible exact True.intro | with_reducible assumption | refine parkI ?_ | (refine And.intro ?_ ?_ <;> conv => whnf) | fail
  replace h := aftS h
  obtain ⟨O26, hO26, r26⟩ := h
  refine LoopW.norm [(0, (LV.str a0)), (3, (I (0, 0).1)), (4, (I (0, 0).2))] 0 [] ⟨rfl, (smT : ((I 0) : LV) = (I (0, 0).1)), (smT : ((I 0) : LV) = (I (0, 0).2)), trivial⟩ trivial blT rfl ?_
  refine LoopW.forF (fun s26 => [(0, (LV.str a0)), (3, (I s26.1)), (4, (I s26.2))]) (fun s26 => ⟨0, []⟩) hO26 (fun s26 o26 b26 K26 hret26 hbrk26 => ?_)
  unfold ref01_Of_c0 at b26
  refine LoopW.round TT_ok [0, 2, 3, 4, 8] ?_
  conv => whnf
  repeat' first | with_reducible rfl | with_reducible exact True.intro | with_reducible assumption | refine parkI ?_ | (refine And.intro ?_ ?_ <;> conv => whnf) | fail
  refine parkE (fun hc => ?_) (fun hc => ?_)
  · replace b26 := condT hc b26
    conv => whnf
    replace b26 := bindS b26
    obtain ⟨v4, hv4, b26⟩ := b26
    have i5 := gixSF hv4
    repeat' first | with_reducible rfl | with_reducible exact True.intro | with_reducible assumption | refine parkI ?_ | (refine ⟨_, i5, ?_⟩; conv => whnf) | (refine And.intro ?_ ?_ <;> conv => whnf) | fail
    have e := Option.some.inj b26
    refine LoopW.norm [(0, (LV.str a0)), (3, (I ((IntKind.i64.wrap ((IntKind.i64.wrap (256 * s26.1)) + (IntKind.i64.wrap ((v4.toNat : Nat) : Int)))), (IntKind.i64.wrap (s26.2 + 1))).1)), (4, (I ((IntKind.i64.wrap ((IntKind.i64.wrap (256 * s26.1)) + (IntKind.i64.wrap ((v4.toNat : Nat) : Int)))), (IntKind.i64.wrap (s26.2 + 1))).2))] 0 [] ⟨rfl, (smT : ((I (IntKind.i64.wrap ((IntKind.i64.wrap (256 * s26.1)) + (IntKind.i64.wrap ((v4.toNat : Nat) : Int))))) : LV) = (I ((IntKind.i64.wrap ((IntKind.i64.wrap (256 * s26.1)) + (IntKind.i64.wrap ((v4.toNat : Nat) : Int)))), (IntKind.i64.wrap (s26.2 + 1))).1)), (smT : ((I (IntKind.i64.wrap (s26.2 + 1))) : LV) = (I ((IntKind.i64.wrap ((IntKind.i64.wrap (256 * s26.1)) + (IntKind.i64.wrap ((v4.toNat : Nat) : Int)))), (IntKind.i64.wrap (s26.2 + 1))).2)), trivial⟩ trivial blT rfl (K26 _ e.symm)
  · replace b26 := condF hc b26
    conv => whnf
    have e := Option.some.inj b26
    replace e := hbrk26 _ e.symm
    rw [e] at r26
    dsimp only [aftM] at r26
    have e := Option.some.inj r26
    subst e
    repeat' first | with_reducible rfl | with_reducible exact True.intro | with_reducible assumption | exact clA _ | (refine And.intro ?_ ?_ <;> conv => whnf) | exact clG _ | (refine gand ?_ h; assumption) | exact clN _ | fail

def ref02_Right (a0 : FrameT) : Option Bool :=
  (ref01_Right a0.Dst).bind fun y14 =>
  (gd y14 (ref01_Right a0.Src)).bind fun y16 =>
  (gd (bif y14 then y16 else false) (ref01_Class a0.Src)).bind fun y18 =>
  some (bif (bif (bif (bif (bif y14 then y16 else false) then (decide (y18 = 0)) else false) then (decide (0 ≤ a0.Type_)) else false) then (decide (a0.Type_ < 65536)) else false) then (decide (((a0.Data.size : Nat) : Int) ≤ 100)) else false)

theorem c_ref02_Right (a0 : FrameT) (r : Bool) (h : ref02_Right a0 = some r) : CallP Try.prog 127 [(LV.agg [(I a0.Dst), (I a0.Src), (I a0.Type_), (LV.str a0.Data)])] (LV.bool r) := by
  unfold ref02_Right at h
  refine .intro nlA (.intro TT_ok Try.func127 rfl rfl [0, 1, 2] rfl ?_)
  conv => whnf
  replace h := bindS h
  obtain ⟨y14, hy14, h⟩ := h
  have c15 := c_ref01_Right a0.Dst _ hy14
  replace h := bindS h
  obtain ⟨y16, hy16, h⟩ := h
  have c17 := fun (hg : y14 = true) => c_ref01_Right a0.Src _ (gdS hg hy16)
  replace h := bindS h
  obtain ⟨y18, hy18, h⟩ := h
  have c19 := fun (hg : (bif y14 then y16 else false) = true) => c_ref01_Class a0.Src _ (gdS hg hy18)
  have e := Option.some.inj h
  subst e
  repeat' first | with_reducible rfl | with_reducible exact True.intro | with_reducible assumption | (refine ⟨_, c17, ?_⟩; conv => whnf) | (refine ⟨_, c19, ?_⟩; conv => whnf) | (refine CallP.use c15 ?_; conv => whnf) | exact clA _ | (refine And.intro ?_ ?_ <;> conv => whnf) | exact clG _ | (refine gand ?_ h; assumption) | exact clN _ | fail

def ref02_Parse (a0 : ByteArray) : Option (FrameT × Int) :=
  (bif (decide (((a0.size : Nat) : Int) < 14)) then
    some ((⟨0, 0, 0, (⟨#[]⟩ : ByteArray)⟩ : FrameT), 7)
  else
    (bif (decide (114 < ((a0.size : Nat) : Int))) then
      some ((⟨0, 0, 0, (⟨#[]⟩ : ByteArray)⟩ : FrameT), 8)
    else
      grd ((0 : Int) ≤ 6 ∧ 6 ≤ ((a0.size : Nat) : Int)) <|
      (ref01_Of (a0.extract 0 (6 : Int).toNat)).bind fun y4 =>
      grd ((0 : Int) ≤ 6 ∧ (6 : Int) ≤ 12 ∧ 12 ≤ ((a0.size : Nat) : Int)) <|
      (ref01_Of (a0.extract (6 : Int).toNat (12 : Int).toNat)).bind fun y7 =>
      (gixS a0 12).bind fun v9 =>
      (gixS a0 13).bind fun v11 =>
      grd ((0 : Int) ≤ 14 ∧ 14 ≤ ((a0.size : Nat) : Int)) <|
      (ref02_Right (⟨y4, y7, (IntKind.i64.wrap ((IntKind.i64.wrap (256 * (IntKind.i64.wrap ((v9.toNat : Nat) : Int)))) + (IntKind.i64.wrap ((v11.toNat : Nat) : Int)))), (a0.extract (14 : Int).toNat a0.size)⟩ : FrameT)).bind fun y14 =>
      (bif (!y14) then
        some ((⟨0, 0, 0, (⟨#[]⟩ : ByteArray)⟩ : FrameT), 10)
      else
        some ((⟨y4, y7, (IntKind.i64.wrap ((IntKind.i64.wrap (256 * (IntKind.i64.wrap ((v9.toNat : Nat) : Int)))) + (IntKind.i64.wrap ((v11.toNat : Nat) : Int)))), (a0.extract (14 : Int).toNat a0.size)⟩ : FrameT), 0))))

theorem c_ref02_Parse (a0 : ByteArray) (r : (FrameT × Int)) (h : ref02_Parse a0 = some r) : CallP Try.prog 100 [(LV.str a0)] (LV.tup [(LV.agg [(I r.1.Dst), (I r.1.Src), (I r.1.Type_), (LV.str r.1.Data)]), (I r.2)]) := by
  unfold ref02_Parse at h
  refine .intro nlA (.intro TT_ok Try.func100 rfl rfl [0, 2, 3, 4, 7, 11, 32] rfl ?_)
  conv => whnf
  repeat' first | with_reducible rfl | with_reducible exact True.intro | with_reducible assumption | refine parkI ?_ | (refine W.drawnM (id := 5) 0 TT_ok hmix1 [0, 0, 0, 0, 0, 0, 0, 0, 0, 0, 0, 0, 0, 0, 0, 0, 0, 0, 1] [1, 1, 1, 1, 1, 1, 1, 1, 1, 1, 1, 1, 1, 1, 1, 1, 1, 1, 2] rfl ?_; conv => whnf) | exact clA _ | (refine And.intro ?_ ?_ <;> conv => whnf) | exact clG _ | (refine gand ?_ h; assumption) | exact clN _ | fail
  refine parkE (fun hc => ?_) (fun hc => ?_)
  · replace h := condT hc h
    conv => whnf
    have e := Option.some.inj h
    subst e
    repeat' first | with_reducible rfl | with_reducible exact True.intro | with_reducible assumption | (refine W.drawnM (id := 5) 0 TT_ok hmix1 [0, 0, 0, 0, 0, 0, 0, 0, 0, 0, 0, 0, 0, 0, 0, 0, 0, 0, 1] [1, 1, 1, 1, 1, 1, 1, 1, 1, 1, 1, 1, 1, 1, 1, 1, 1, 1, 2] rfl ?_; conv => whnf) | exact clA _ | (refine And.intro ?_ ?_ <;> conv => whnf) | exact clG _ | (refine gand ?_ h; assumption) | exact clN _ | fail
  · replace h := condF hc h
    conv => whnf
    repeat' first | with_reducible rfl | with_reducible exact True.intro | with_reducible assumption | refine parkI ?_ | (refine W.drawnM (id := 5) 0 TT_ok hmix1 [0, 0, 0, 0, 0, 0, 0, 0, 0, 0, 0, 0, 0, 0, 0, 0, 0, 0, 1] [1, 1, 1, 1, 1, 1, 1, 1, 1, 1, 1, 1, 1, 1, 1, 1, 1, 1, 2] rfl ?_; conv => whnf) | exact clA _ | (refine And.intro ?_ ?_ <;> conv => whnf) | exact clG _ | (refine gand ?_ h; assumption) | exact clN _ | fail
    refine parkE (fun hc => ?_) (fun hc => ?_)
    · replace h := condT hc h
      conv => whnf
      have e := Option.some.inj h
      subst e
      repeat' first | with_reducible rfl | with_reducible exact True.intro | with_reducible assumption | (refine W.drawnM (id := 5) 0 TT_ok hmix1 [0, 0, 0, 0, 0, 0, 0, 0, 0, 0, 0, 0, 0, 0, 0, 0, 0, 0, 1] [1, 1, 1, 1, 1, 1, 1, 1, 1, 1, 1, 1, 1, 1, 1, 1, 1, 1, 2] rfl ?_; conv => whnf) | exact clA _ | (refine And.intro ?_ ?_ <;> conv => whnf) | exact clG _ | (refine gand ?_ h; assumption) | exact clN _ | fail
    · replace h := condF hc h
      conv => whnf
      replace h := grdS h
      obtain ⟨g3, h⟩ := h
      replace h := bindS h
      obtain ⟨y4, hy4, h⟩ := h
      have c5 := c_ref01_Of (a0.extract 0 (6 : Int).toNat) _ hy4
      replace h := grdS h
      obtain ⟨g6, h⟩ := h
      replace h := bindS h
      obtain ⟨y7, hy7, h⟩ := h
      have c8 := c_ref01_Of (a0.extract (6 : Int).toNat (12 : Int).toNat) _ hy7
      replace h := bindS h
      obtain ⟨v9, hv9, h⟩ := h
      have i10 := gixSF hv9
      replace h := bindS h
      obtain ⟨v11, hv11, h⟩ := h
      have i12 := gixSF hv11
      replace h := grdS h
      obtain ⟨g13, h⟩ := h
      replace h := bindS h
      obtain ⟨y14, hy14, h⟩ := h
      have c15 : CallP Try.prog 127 [(LV.agg [(I y4), (I y7), (I (IntKind.i64.wrap ((IntKind.i64.wrap (256 * (IntKind.i64.wrap ((v9.toNat : Nat) : Int)))) + (IntKind.i64.wrap ((v11.toNat : Nat) : Int))))), (LV.str (a0.extract (14 : Int).toNat a0.size))])] (LV.bool y14) := by first | exact c_ref02_Right (⟨y4, y7, (IntKind.i64.wrap ((IntKind.i64.wrap (256 * (IntKind.i64.wrap ((v9.toNat : Nat) : Int)))) + (IntKind.i64.wrap ((v11.toNat : Nat) : Int)))), (a0.extract (14 : Int).toNat a0.size)⟩ : FrameT) _ hy14 | (simpa only [se_map, se_byL, se_len, se_ch, List.length_map] using c_ref02_Right (⟨y4, y7, (IntKind.i64.wrap ((IntKind.i64.wrap (256 * (IntKind.i64.wrap ((v9.toNat : Nat) : Int)))) + (IntKind.i64.wrap ((v11.toNat : Nat) : Int)))), (a0.extract (14 : Int).toNat a0.size)⟩ : FrameT) _ hy14) | (simpa only [se_map, se_byL, se_len, se_ch, List.length_map, FrameT.cells] using c_ref02_Right (⟨y4, y7, (IntKind.i64.wrap ((IntKind.i64.wrap (256 * (IntKind.i64.wrap ((v9.toNat : Nat) : Int)))) + (IntKind.i64.wrap ((v11.toNat : Nat) : Int)))), (a0.extract (14 : Int).toNat a0.size)⟩ : FrameT) _ hy14)
      repeat' first | with_reducible rfl | with_reducible exact True.intro | with_reducible assumption | refine parkI ?_ | (refine ⟨_, i10, ?_⟩; conv => whnf) | (refine ⟨_, i12, ?_⟩; conv => whnf) | exact g3 | exact g6 | exact g13 | (refine CallP.use c5 ?_; conv => whnf) | (refine ⟨_, _, CallP.at c5, ?_⟩; conv => whnf) | (refine ⟨_, fun _ => c5, ?_⟩; conv => whnf) | (refine CallP.use c8 ?_; conv => whnf) | (refine ⟨_, _, CallP.at c8, ?_⟩; conv => whnf) | (refine ⟨_, fun _ => c8, ?_⟩; conv => whnf) | (refine CallP.use c15 ?_; conv => whnf) | (refine ⟨_, _, CallP.at c15, ?_⟩; conv => whnf) | (refine ⟨_, fun _ => c15, ?_⟩; conv => whnf) | (refine W.drawnM (id := 5) 0 TT_ok hmix1 [0, 0, 0, 0, 0, 0, 0, 0, 0, 0, 0, 0, 0, 0, 0, 0, 0, 0, 1] [1, 1, 1, 1, 1, 1, 1, 1, 1, 1, 1, 1, 1, 1, 1, 1, 1, 1, 2] rfl ?_; conv => whnf) | exact clA _ | (refine And.intro ?_ ?_ <;> conv => whnf) | exact clG _ | (refine gand ?_ h; assumption) | exact clN _ | fail
      refine parkE (fun hc => ?_) (fun hc => ?_)
      · replace h := condT hc h
        conv => whnf
        have e := Option.some.inj h
        subst e
        repeat' first | with_reducible rfl | with_reducible exact True.intro | with_reducible assumption | (refine W.drawnM (id := 5) 0 TT_ok hmix1 [0, 0, 0, 0, 0, 0, 0, 0, 0, 0, 0, 0, 0, 0, 0, 0, 0, 0, 1] [1, 1, 1, 1, 1, 1, 1, 1, 1, 1, 1, 1, 1, 1, 1, 1, 1, 1, 2] rfl ?_; conv => whnf) | exact clA _ | (refine And.intro ?_ ?_ <;> conv => whnf) | exact clG _ | (refine gand ?_ h; assumption) | exact clN _ | fail
      · replace h := condF hc h
        conv => whnf
        have e := Option.some.inj h
        subst e
        repeat' first | with_reducible rfl | with_reducible exact True.intro | with_reducible assumption | (refine W.drawnM (id := 5) 0 TT_ok hmix1 [0, 0, 0, 0, 0, 0, 0, 0, 0, 0, 0, 0, 0, 0, 0, 0, 0, 0, 1] [1, 1, 1, 1, 1, 1, 1, 1, 1, 1, 1, 1, 1, 1, 1, 1, 1, 1, 2] rfl ?_; conv => whnf) | exact clA _ | (refine And.intro ?_ ?_ <;> conv => whnf) | exact clG _ | (refine gand ?_ h; assumption) | exact clN _ | fail

def ref20_hears (a0 : HostT) (a1 : CopyT) : Option Bool :=
  (ref02_Parse a1.Raw).bind fun y3 =>
  (bif (bif (bif (!decide (y3.2 = 0)) then true else (!decide (a1.Seg = a0.Seg))) then true else (decide (y3.1.Src = a0.Mac))) then
    some false
  else
    (gd (!(decide (y3.1.Dst = a0.Mac))) (ref01_Class y3.1.Dst)).bind fun y5 =>
    some (bif (decide (y3.1.Dst = a0.Mac)) then true else (decide (y5 = 1))))

theorem c_ref20_hears (a0 : HostT) (a1 : CopyT) (r : Bool) (h : ref20_hears a0 a1 = some r) : CallP Try.prog 67 [(LV.agg [(I a0.Mac), (I a0.Seg)]), (LV.agg [(I a1.At), (I a1.Seg), (I a1.Bridge), (I a1.Port), (LV.str a1.Raw)])] (LV.bool r) := by
  unfold ref20_hears at h
  refine .intro nlA (.intro TT_ok Try.func67 rfl rfl [0, 1, 2, 3, 4, 5, 6, 28] rfl ?_)
  conv => whnf
  replace h := bindS h
  obtain ⟨y3, hy3, h⟩ := h
  have c4 := c_ref02_Parse a1.Raw _ hy3
  repeat' first | with_reducible rfl | with_reducible exact True.intro | with_reducible assumption | refine parkI ?_ | (refine CallP.use c4 ?_; conv => whnf) | exact clA _ | (refine And.intro ?_ ?_ <;> conv => whnf) | exact clG _ | (refine gand ?_ h; assumption) | fail
  refine parkE (fun hc => ?_) (fun hc => ?_)
  · replace h := condT hc h
    conv => whnf
    have e := Option.some.inj h
    subst e
    repeat' first | with_reducible rfl | with_reducible exact True.intro | with_reducible assumption | exact clA _ | (refine And.intro ?_ ?_ <;> conv => whnf) | exact clG _ | (refine gand ?_ h; assumption) | exact clN _ | fail
  · replace h := condF hc h
    conv => whnf
    replace h := bindS h
    obtain ⟨y5, hy5, h⟩ := h
    have c6 := fun (hg : (!(decide (y3.1.Dst = a0.Mac))) = true) => c_ref01_Class y3.1.Dst _ (gdS hg hy5)
    have e := Option.some.inj h
    subst e
    repeat' first | with_reducible rfl | with_reducible exact True.intro | with_reducible assumption | (refine ⟨_, c6, ?_⟩; conv => whnf) | exact clA _ | (refine And.intro ?_ ?_ <;> conv => whnf) | exact clG _ | (refine gand ?_ h; assumption) | exact clN _ | fail

def ref20_Hears_c0 (a0 : LanT) (a2 : Int) (k25 : Nat) (x25 : CopyT) (s25 : (List Int)) : Option (Step (List Int) (List Int)) :=
  (gix a0.Hosts a2).bind fun v1 =>
  (ref20_hears v1 x25).bind fun y3 =>
  (bif y3 then
    grd (fits ((s25 ++ ([((k25 : Nat) : Int)] : (List Int))) : List Int).length 8) <|
    some (.nxt (s25 ++ ([((k25 : Nat) : Int)] : (List Int))))
  else
    some (.nxt s25))

def ref20_Hears (a0 : LanT) (a1 : (List CopyT)) (a2 : Int) : Option (List Int) :=
  aft (rangeL (ref20_Hears_c0 a0 a2) a1 ([] : (List Int))) fun s25 =>
  some s25

theorem cf_ref20_Hears (a0 : LanT) (a1 : (List CopyT)) (a2 : Int) (r : (List Int)) (h : ref20_Hears a0 a1 a2 = some r) : CallF Try.prog 37 [(LV.agg [(I a0.Segs), (LV.ro 2 (a0.Plans.map PlanT.cells)), (LV.ro 2 (a0.Hosts.map HostT.cells))]), (LV.ro 5 (a1.map CopyT.cells)), (I a2)] 3 1 (r.map iC) := by
  unfold ref20_Hears at h
  refine CallF.of (NLss_map' _) (CallW.intro TT_ok Try.func37 rfl rfl [0, 1, 2, 3, 6, 7, 8, 9, 11, 12, 13, 14, 24] rfl ?_)
  conv => whnf
  repeat' first | with_reducible rfl | with_reducible exact True.intro | with_reducible assumption | refine parkI ?_ | (refine W.drawn TT_ok hmix1 rfl ?_; conv => whnf) | exact clA _ | (refine And.intro ?_ ?_ <;> conv => whnf) | exact clG _ | (refine gand ?_ h; assumption) | exact clN _ | fail
  replace h := aftS h
  obtain ⟨O25, hO25, r25⟩ := h
  refine LoopW.norm [(2, (I a2)), (3, (LV.ptr 0 0 0)), (7, (LV.sl 1 0 (([] : (List Int)).map iC).length)), (11, (LV.ro 5 (a1.map CopyT.cells))), (12, (I (((a1.map CopyT.cells).length : Nat) : Int))), (13, (I ((0 : Nat) : Int)))] 2 [(0, (.row 47 3 [[(I a0.Segs), (LV.ro 2 (a0.Plans.map PlanT.cells)), (LV.ro 2 (a0.Hosts.map HostT.cells))]])), (1, (.row 3 1 (([] : (List Int)).map iC)))] ⟨rfl, rfl, (by exact congrArg (LV.sl 1 0) (clL _ : 0 = (([] : (List Int)).map iC).length)), rfl, rfl, rfl, trivial⟩ ⟨⟨rfl, rfl, blT⟩, ⟨⟨(congrArg (fun q => some (Blk.row 3 1 q)) (smT : (([] : List (List LV)) : List (List LV)) = (([] : (List Int)).map iC))), rfl, NLss_bel (NLss_map' _)⟩, trivial⟩⟩ blT rfl ?_
  refine LoopW.forR (fun k25 s25 => [(2, (I a2)), (3, (LV.ptr 0 0 0)), (7, (LV.sl 1 0 (s25.map iC).length)), (11, (LV.ro 5 (a1.map CopyT.cells))), (12, (I (((a1.map CopyT.cells).length : Nat) : Int))), (13, (I ((k25 : Nat) : Int)))]) (fun s25 => ⟨2, [(0, (.row 47 3 [[(I a0.Segs), (LV.ro 2 (a0.Plans.map PlanT.cells)), (LV.ro 2 (a0.Hosts.map HostT.cells))]])), (1, (.row 3 1 (s25.map iC)))]⟩) hO25 (fun hl25 s25 hs25 => ?_) (fun hl25 k25 x25 s25 o25 hk25 hx25 b25 K25 hret25 hbrk25 => ?_)
  · rw [hs25] at r25
    dsimp only [aftM] at r25
    have hd : decide (((a1.length : Nat) : Int) < (((a1.map CopyT.cells).length : Nat) : Int)) = false := by rw [decide_eq_false_iff_not]; (try simp only [se_len, se_ch, List.length_map]); omega
    refine LoopW.round TT_ok [0, 1, 2, 3, 6, 7, 8, 9, 11, 12, 13, 14, 24] ?_
    conv => whnf
    repeat' first | with_reducible rfl | with_reducible exact True.intro | with_reducible assumption | refine parkI ?_ | (refine W.drawn TT_ok hmix1 rfl ?_; conv => whnf) | exact clA _ | (refine And.intro ?_ ?_ <;> conv => whnf) | exact clG _ | (refine gand ?_ h; assumption) | exact clN _ | fail
    refine parkE (fun hc => ?_) (fun hc => ?_)
    · exact (Bool.false_ne_true (hd.symm.trans hc)).elim
    · clear hd
      conv => whnf
      have e := Option.some.inj r25
      subst e
      repeat' first | with_reducible rfl | with_reducible exact True.intro | with_reducible assumption | exact Or.inr ⟨_, rfl, congrArg (fun q => some (Blk.row 3 1 q)) rfl⟩ | (refine W.drawn TT_ok hmix1 rfl ?_; conv => whnf) | exact clA _ | (refine And.intro ?_ ?_ <;> conv => whnf) | exact clG _ | (refine gand ?_ h; assumption) | exact clN _ | fail
  · unfold ref20_Hears_c0 at b25
    have hd : decide (((k25 : Nat) : Int) < (((a1.map CopyT.cells).length : Nat) : Int)) = true := by rw [decide_eq_true_eq]; (try simp only [se_len, se_ch, List.length_map] at hk25); (try simp only [se_len, se_ch, List.length_map]); omega
    refine LoopW.round TT_ok [0, 1, 2, 3, 6, 7, 8, 9, 11, 12, 13, 14, 24] ?_
    conv => whnf
    repeat' first | with_reducible rfl | with_reducible exact True.intro | with_reducible assumption | refine parkI ?_ | (refine W.drawn TT_ok hmix1 rfl ?_; conv => whnf) | exact clA _ | (refine And.intro ?_ ?_ <;> conv => whnf) | exact clG _ | (refine gand ?_ h; assumption) | exact clN _ | fail
    refine parkE (fun hc => ?_) (fun hc => ?_)
    · clear hd
      conv => whnf
      replace b25 := bindS b25
      obtain ⟨v1, hv1, b25⟩ := b25
      have i2 := gixF (f := HostT.cells) hv1
      replace b25 := bindS b25
      obtain ⟨y3, hy3, b25⟩ := b25
      have c4 := c_ref20_hears v1 x25 _ hy3
      repeat' first | with_reducible rfl | with_reducible exact True.intro | with_reducible assumption | refine parkI ?_ | (refine ⟨_, (kixF (f := CopyT.cells) hx25), ?_⟩; conv => whnf) | (refine ⟨_, i2, ?_⟩; conv => whnf) | (refine CallP.use c4 ?_; conv => whnf) | (refine ⟨_, _, CallP.at c4, ?_⟩; conv => whnf) | (refine ⟨_, fun _ => c4, ?_⟩; conv => whnf) | (refine W.drawn TT_ok hmix1 rfl ?_; conv => whnf) | exact clA _ | (refine And.intro ?_ ?_ <;> conv => whnf) | exact clG _ | (refine gand ?_ h; assumption) | exact clN _ | fail
      refine parkE (fun hc => ?_) (fun hc => ?_)
      · replace b25 := condT hc b25
        conv => whnf
        replace b25 := grdS b25
        obtain ⟨g5, b25⟩ := b25
        replace g5 : fits (((s25.map iC) ++ [[(I ((k25 : Nat) : Int))]])).length 8 := by simpa only [se_len, se_ch, List.length_map] using g5
        repeat' first | with_reducible rfl | with_reducible exact True.intro | with_reducible assumption | refine parkI ?_ | exact g5 | (refine W.drawn TT_ok hmix1 rfl ?_; conv => whnf) | exact clA _ | (refine And.intro ?_ ?_ <;> conv => whnf) | exact clG _ | (refine gand ?_ h; assumption) | exact clN _ | fail
        have e := Option.some.inj b25
        refine LoopW.ren [(0, 0), (4, 1)] [(2, (I a2)), (3, (LV.ptr 0 0 0)), (7, (LV.sl 1 0 ((s25 ++ ([((k25 : Nat) : Int)] : (List Int))).map iC).length)), (11, (LV.ro 5 (a1.map CopyT.cells))), (12, (I (((a1.map CopyT.cells).length : Nat) : Int))), (13, (I ((k25 + 1 : Nat) : Int)))] 2 [(0, (.row 47 3 [[(I a0.Segs), (LV.ro 2 (a0.Plans.map PlanT.cells)), (LV.ro 2 (a0.Hosts.map HostT.cells))]])), (1, (.row 3 1 ((s25 ++ ([((k25 : Nat) : Int)] : (List Int))).map iC)))] rfl ⟨rfl, rfl, (by exact congrArg (LV.sl 1 0) (clL _ : (((s25.map iC) ++ [[(I ((k25 : Nat) : Int))]])).length = ((s25 ++ ([((k25 : Nat) : Int)] : (List Int))).map iC).length)), rfl, rfl, (congrArg (LV.int .i64) (w64_nat _ (by omega))), trivial⟩ ⟨⟨rfl, rfl, .inl ⟨rfl, nlT⟩⟩, rfl, rfl, ⟨⟨rfl, rfl, .inl ⟨(smT : (((s25.map iC) ++ [[(I ((k25 : Nat) : Int))]]) : List (List LV)) = ((s25 ++ ([((k25 : Nat) : Int)] : (List Int))).map iC)), nlT⟩⟩, rfl, rfl, trivial⟩⟩ rfl (K25 _ e.symm)
      · replace b25 := condF hc b25
        conv => whnf
        repeat' first | with_reducible rfl | with_reducible exact True.intro | with_reducible assumption | refine parkI ?_ | (refine W.drawn TT_ok hmix1 rfl ?_; conv => whnf) | exact clA _ | (refine And.intro ?_ ?_ <;> conv => whnf) | exact clG _ | (refine gand ?_ h; assumption) | exact clN _ | fail
        have e := Option.some.inj b25
        refine LoopW.norm [(2, (I a2)), (3, (LV.ptr 0 0 0)), (7, (LV.sl 1 0 (s25.map iC).length)), (11, (LV.ro 5 (a1.map CopyT.cells))), (12, (I (((a1.map CopyT.cells).length : Nat) : Int))), (13, (I ((k25 + 1 : Nat) : Int)))] 2 [(0, (.row 47 3 [[(I a0.Segs), (LV.ro 2 (a0.Plans.map PlanT.cells)), (LV.ro 2 (a0.Hosts.map HostT.cells))]])), (1, (.row 3 1 (s25.map iC)))] ⟨rfl, rfl, rfl, rfl, rfl, (congrArg (LV.int .i64) (w64_nat _ (by omega))), trivial⟩ ⟨⟨rfl, rfl, blT⟩, ⟨⟨rfl, rfl, NLss_bel (NLss_map' _)⟩, trivial⟩⟩ blT rfl (K25 _ e.symm)
    · exact (Bool.false_ne_true (hc.symm.trans hd)).elim

theorem c_ref20_Hears (a0 : LanT) (a1 : (List CopyT)) (a2 : Int) (r : (List Int)) (h : ref20_Hears a0 a1 a2 = some r) : CallP Try.prog 37 [(LV.agg [(I a0.Segs), (LV.ro 2 (a0.Plans.map PlanT.cells)), (LV.ro 2 (a0.Hosts.map HostT.cells))]), (LV.ro 5 (a1.map CopyT.cells)), (I a2)] (LV.ro 1 (r.map iC)) := by
  exact CallF.toP (cf_ref20_Hears a0 a1 a2 r h) nlA (NLss_map' _)

def ref20_Where_c1 (a1 : ByteArray) (s26 : ((List Int) × Int)) (k27 : Nat) (x27 : CopyT) (s27 : Int) : Option (Step (Step (List Int) ((List Int) × Int)) Int) :=
  (bif (bif (decide (x27.Seg = s26.2)) then (x27.Raw == a1) else false) then
    some (.nxt (IntKind.i64.wrap (s27 + 1)))
  else
    some (.nxt s27))

def ref20_Where_c0 (a0 : (List CopyT)) (a1 : ByteArray) (a2 : Int) (s26 : ((List Int) × Int)) : Option (Step (List Int) ((List Int) × Int)) :=
  (bif (decide (s26.2 < a2)) then
    aft (rangeL (ref20_Where_c1 a1 s26) a0 0) fun s27 =>
    grd (fits ((s26.1 ++ ([s27] : (List Int))) : List Int).length 8) <|
    some (.nxt ((s26.1 ++ ([s27] : (List Int))), (IntKind.i64.wrap (s26.2 + 1))))
  else
    some (.brk (s26.1, s26.2)))

def ref20_Where (a0 : (List CopyT)) (a1 : ByteArray) (a2 : Int) : Option (List Int) :=
  aft (loopF 1000000 (ref20_Where_c0 a0 a1 a2) (([] : (List Int)), 0)) fun s26 =>
  some s26.1

theorem cf_ref20_Where (a0 : (List CopyT)) (a1 : ByteArray) (a2 : Int) (r : (List Int)) (h : ref20_Where a0 a1 a2 = some r) : CallF Try.prog 33 [(LV.ro 5 (a0.map CopyT.cells)), (LV.str a1), (I a2)] 3 1 (r.map iC) := by
  unfold ref20_Where at h
  refine CallF.of (NLss_map' _) (CallW.intro TT_ok Try.func33 rfl rfl [0, 1, 2, 6, 7, 8, 9, 11, 15, 18, 19, 20, 21, 33] rfl ?_)
  conv => whnf
  repeat' first | with_reducible rfl | with_reducible exact True.intro | with_reducible assumption | refine parkI ?_ | (refine And.intro ?_ ?_ <;> conv => whnf) | fail
  replace h := aftS h
  obtain ⟨O26, hO26, r26⟩ := h
  refine LoopW.norm [(0, (LV.ro 5 (a0.map CopyT.cells))), (1, (LV.str a1)), (2, (I a2)), (7, (LV.sl 0 0 ((([] : (List Int)), 0).1.map iC).length)), (8, (I (([] : (List Int)), 0).2))] 1 [(0, (.row 3 1 ((([] : (List Int)), 0).1.map iC)))] ⟨rfl, rfl, rfl, (by exact congrArg (LV.sl 0 0) (clL _ : 0 = ((([] : (List Int)), 0).1.map iC).length)), (smT : ((I 0) : LV) = (I (([] : (List Int)), 0).2)), trivial⟩ ⟨⟨(congrArg (fun q => some (Blk.row 3 1 q)) (smT : (([] : List (List LV)) : List (List LV)) = ((([] : (List Int)), 0).1.map iC))), rfl, NLss_bel (NLss_map' _)⟩, trivial⟩ blT rfl ?_
  refine LoopW.forF (fun s26 => [(0, (LV.ro 5 (a0.map CopyT.cells))), (1, (LV.str a1)), (2, (I a2)), (7, (LV.sl 0 0 (s26.1.map iC).length)), (8, (I s26.2))]) (fun s26 => ⟨1, [(0, (.row 3 1 (s26.1.map iC)))]⟩) hO26 (fun s26 o26 b26 K26 hret26 hbrk26 => ?_)
  unfold ref20_Where_c0 at b26
  refine LoopW.round TT_ok [0, 1, 2, 6, 7, 8, 9, 11, 15, 18, 19, 20, 21, 33] ?_
  conv => whnf
  repeat' first | with_reducible rfl | with_reducible exact True.intro | with_reducible assumption | refine parkI ?_ | (refine And.intro ?_ ?_ <;> conv => whnf) | fail
  refine parkE (fun hc => ?_) (fun hc => ?_)
  · replace b26 := condT hc b26
    conv => whnf
    repeat' first | with_reducible rfl | with_reducible exact True.intro | with_reducible assumption | refine parkI ?_ | (refine And.intro ?_ ?_ <;> conv => whnf) | fail
    replace b26 := aftS b26
    obtain ⟨O27, hO27, r27⟩ := b26
    refine LoopW.norm [(0, (LV.ro 5 (a0.map CopyT.cells))), (1, (LV.str a1)), (2, (I a2)), (7, (LV.sl 0 0 (s26.1.map iC).length)), (8, (I s26.2)), (9, (I 0)), (18, (LV.ro 5 (a0.map CopyT.cells))), (19, (I (((a0.map CopyT.cells).length : Nat) : Int))), (20, (I ((0 : Nat) : Int)))] 1 [(0, (.row 3 1 (s26.1.map iC)))] ⟨rfl, rfl, rfl, rfl, rfl, rfl, rfl, rfl, rfl, trivial⟩ ⟨⟨rfl, rfl, NLss_bel (NLss_map' _)⟩, trivial⟩ blT rfl ?_
    refine LoopW.forR (fun k27 s27 => [(0, (LV.ro 5 (a0.map CopyT.cells))), (1, (LV.str a1)), (2, (I a2)), (7, (LV.sl 0 0 (s26.1.map iC).length)), (8, (I s26.2)), (9, (I s27)), (18, (LV.ro 5 (a0.map CopyT.cells))), (19, (I (((a0.map CopyT.cells).length : Nat) : Int))), (20, (I ((k27 : Nat) : Int)))]) (fun s27 => ⟨1, [(0, (.row 3 1 (s26.1.map iC)))]⟩) hO27 (fun hl27 s27 hs27 => ?_) (fun hl27 k27 x27 s27 o27 hk27 hx27 b27 K27 hret27 hbrk27 => ?_)
    · rw [hs27] at r27
      dsimp only [aftM] at r27
      have hd : decide (((a0.length : Nat) : Int) < (((a0.map CopyT.cells).length : Nat) : Int)) = false := by rw [decide_eq_false_iff_not]; (try simp only [se_len, se_ch, List.length_map]); omega
      refine LoopW.round TT_ok [0, 1, 2, 6, 7, 8, 9, 11, 15, 18, 19, 20, 21, 33] ?_
      conv => whnf
      repeat' first | with_reducible rfl | with_reducible exact True.intro | with_reducible assumption | refine parkI ?_ | (refine And.intro ?_ ?_ <;> conv => whnf) | fail
      refine parkE (fun hc => ?_) (fun hc => ?_)
      · exact (Bool.false_ne_true (hd.symm.trans hc)).elim
      · clear hd
        conv => whnf
        replace r27 := grdS r27
        obtain ⟨g1, r27⟩ := r27
        replace g1 : fits (((s26.1.map iC) ++ [[(I s27)]])).length 8 := by simpa only [se_len, se_ch, List.length_map] using g1
        repeat' first | with_reducible rfl | with_reducible exact True.intro | with_reducible assumption | refine parkI ?_ | exact g1 | exact clA _ | (refine And.intro ?_ ?_ <;> conv => whnf) | exact clN _ | fail
        have e := Option.some.inj r27
        refine LoopW.ren [(2, 0)] [(0, (LV.ro 5 (a0.map CopyT.cells))), (1, (LV.str a1)), (2, (I a2)), (7, (LV.sl 0 0 (((s26.1 ++ ([s27] : (List Int))), (IntKind.i64.wrap (s26.2 + 1))).1.map iC).length)), (8, (I ((s26.1 ++ ([s27] : (List Int))), (IntKind.i64.wrap (s26.2 + 1))).2))] 1 [(0, (.row 3 1 (((s26.1 ++ ([s27] : (List Int))), (IntKind.i64.wrap (s26.2 + 1))).1.map iC)))] rfl ⟨rfl, rfl, rfl, (by exact congrArg (LV.sl 0 0) (clL _ : (((s26.1.map iC) ++ [[(I s27)]])).length = (((s26.1 ++ ([s27] : (List Int))), (IntKind.i64.wrap (s26.2 + 1))).1.map iC).length)), (smT : ((I (IntKind.i64.wrap (s26.2 + 1))) : LV) = (I ((s26.1 ++ ([s27] : (List Int))), (IntKind.i64.wrap (s26.2 + 1))).2)), trivial⟩ ⟨⟨rfl, rfl, .inl ⟨(smT : (((s26.1.map iC) ++ [[(I s27)]]) : List (List LV)) = (((s26.1 ++ ([s27] : (List Int))), (IntKind.i64.wrap (s26.2 + 1))).1.map iC)), nlT⟩⟩, rfl, rfl, trivial⟩ rfl (K26 _ e.symm)
    · unfold ref20_Where_c1 at b27
      have hd : decide (((k27 : Nat) : Int) < (((a0.map CopyT.cells).length : Nat) : Int)) = true := by rw [decide_eq_true_eq]; (try simp only [se_len, se_ch, List.length_map] at hk27); (try simp only [se_len, se_ch, List.length_map]); omega
      refine LoopW.round TT_ok [0, 1, 2, 6, 7, 8, 9, 11, 15, 18, 19, 20, 21, 33] ?_
      conv => whnf
      repeat' first | with_reducible rfl | with_reducible exact True.intro | with_reducible assumption | refine parkI ?_ | (refine And.intro ?_ ?_ <;> conv => whnf) | fail
      refine parkE (fun hc => ?_) (fun hc => ?_)
      · clear hd
        conv => whnf
        repeat' first | with_reducible rfl | with_reducible exact True.intro | with_reducible assumption | refine parkI ?_ | (refine ⟨_, (kixF (f := CopyT.cells) hx27), ?_⟩; conv => whnf) | exact clA _ | (refine And.intro ?_ ?_ <;> conv => whnf) | exact clG _ | (refine gand ?_ h; assumption) | fail
        refine parkE (fun hc => ?_) (fun hc => ?_)
        · replace b27 := condT hc b27
          conv => whnf
          repeat' first | with_reducible rfl | with_reducible exact True.intro | with_reducible assumption | refine parkI ?_ | (refine And.intro ?_ ?_ <;> conv => whnf) | fail
          have e := Option.some.inj b27
          refine LoopW.norm [(0, (LV.ro 5 (a0.map CopyT.cells))), (1, (LV.str a1)), (2, (I a2)), (7, (LV.sl 0 0 (s26.1.map iC).length)), (8, (I s26.2)), (9, (I (IntKind.i64.wrap (s27 + 1)))), (18, (LV.ro 5 (a0.map CopyT.cells))), (19, (I (((a0.map CopyT.cells).length : Nat) : Int))), (20, (I ((k27 + 1 : Nat) : Int)))] 1 [(0, (.row 3 1 (s26.1.map iC)))] ⟨rfl, rfl, rfl, rfl, rfl, rfl, rfl, rfl, (congrArg (LV.int .i64) (w64_nat _ (by omega))), trivial⟩ ⟨⟨rfl, rfl, NLss_bel (NLss_map' _)⟩, trivial⟩ blT rfl (K27 _ e.symm)
        · replace b27 := condF hc b27
          conv => whnf
          repeat' first | with_reducible rfl | with_reducible exact True.intro | with_reducible assumption | refine parkI ?_ | (refine And.intro ?_ ?_ <;> conv => whnf) | fail
          have e := Option.some.inj b27
          refine LoopW.norm [(0, (LV.ro 5 (a0.map CopyT.cells))), (1, (LV.str a1)), (2, (I a2)), (7, (LV.sl 0 0 (s26.1.map iC).length)), (8, (I s26.2)), (9, (I s27)), (18, (LV.ro 5 (a0.map CopyT.cells))), (19, (I (((a0.map CopyT.cells).length : Nat) : Int))), (20, (I ((k27 + 1 : Nat) : Int)))] 1 [(0, (.row 3 1 (s26.1.map iC)))] ⟨rfl, rfl, rfl, rfl, rfl, rfl, rfl, rfl, (congrArg (LV.int .i64) (w64_nat _ (by omega))), trivial⟩ ⟨⟨rfl, rfl, NLss_bel (NLss_map' _)⟩, trivial⟩ blT rfl (K27 _ e.symm)
      · exact (Bool.false_ne_true (hc.symm.trans hd)).elim
  · replace b26 := condF hc b26
    conv => whnf
    have e := Option.some.inj b26
    replace e := hbrk26 _ e.symm
    rw [e] at r26
    dsimp only [aftM] at r26
    have e := Option.some.inj r26
    subst e
    repeat' first | with_reducible rfl | with_reducible exact True.intro | with_reducible assumption | exact Or.inr ⟨_, rfl, congrArg (fun q => some (Blk.row 3 1 q)) rfl⟩ | exact clA _ | (refine And.intro ?_ ?_ <;> conv => whnf) | exact clG _ | (refine gand ?_ h; assumption) | exact clN _ | fail

theorem c_ref20_Where (a0 : (List CopyT)) (a1 : ByteArray) (a2 : Int) (r : (List Int)) (h : ref20_Where a0 a1 a2 = some r) : CallP Try.prog 33 [(LV.ro 5 (a0.map CopyT.cells)), (LV.str a1), (I a2)] (LV.ro 1 (r.map iC)) := by
  exact CallF.toP (cf_ref20_Where a0 a1 a2 r h) nlA (NLss_map' _)

def ref20_first_c0 (a1 : ByteArray) (k29 : Nat) (x29 : CopyT) (s29 : Unit) : Option (Step Int Unit) :=
  (bif (x29.Raw == a1) then
    some (.ret x29.Seg)
  else
    some (.nxt ()))

def ref20_first (a0 : (List CopyT)) (a1 : ByteArray) : Option Int :=
  aft (rangeL (ref20_first_c0 a1) a0 ()) fun s29 =>
  some 0

theorem c_ref20_first (a0 : (List CopyT)) (a1 : ByteArray) (r : Int) (h : ref20_first a0 a1 = some r) : CallP Try.prog 63 [(LV.ro 5 (a0.map CopyT.cells)), (LV.str a1)] (I r) := by
  unfold ref20_first at h
  refine .intro nlA (.intro TT_ok Try.func63 rfl rfl [0, 1, 4, 6, 7, 8, 9, 10, 16] rfl ?_)
  conv => whnf
  repeat' first | with_reducible rfl | with_reducible exact True.intro | with_reducible assumption | refine parkI ?_ | (refine And.intro ?_ ?_ <;> conv => whnf) | fail
  replace h := aftS h
  obtain ⟨O29, hO29, r29⟩ := h
  refine LoopW.norm [(1, (LV.str a1)), (7, (LV.ro 5 (a0.map CopyT.cells))), (8, (I (((a0.map CopyT.cells).length : Nat) : Int))), (9, (I ((0 : Nat) : Int)))] 0 [] ⟨rfl, rfl, rfl, rfl, trivial⟩ trivial blT rfl ?_
  refine LoopW.forR (fun k29 s29 => [(1, (LV.str a1)), (7, (LV.ro 5 (a0.map CopyT.cells))), (8, (I (((a0.map CopyT.cells).length : Nat) : Int))), (9, (I ((k29 : Nat) : Int)))]) (fun s29 => ⟨0, []⟩) hO29 (fun hl29 s29 hs29 => ?_) (fun hl29 k29 x29 s29 o29 hk29 hx29 b29 K29 hret29 hbrk29 => ?_)
  · rw [hs29] at r29
    dsimp only [aftM] at r29
    have hd : decide (((a0.length : Nat) : Int) < (((a0.map CopyT.cells).length : Nat) : Int)) = false := by rw [decide_eq_false_iff_not]; (try simp only [se_len, se_ch, List.length_map]); omega
    refine LoopW.round TT_ok [0, 1, 4, 6, 7, 8, 9, 10, 16] ?_
    conv => whnf
    repeat' first | with_reducible rfl | with_reducible exact True.intro | with_reducible assumption | refine parkI ?_ | (refine And.intro ?_ ?_ <;> conv => whnf) | fail
    refine parkE (fun hc => ?_) (fun hc => ?_)
    · exact (Bool.false_ne_true (hd.symm.trans hc)).elim
    · clear hd
      conv => whnf
      have e := Option.some.inj r29
      subst e
      repeat' first | with_reducible rfl | with_reducible exact True.intro | with_reducible assumption | exact clA _ | (refine And.intro ?_ ?_ <;> conv => whnf) | exact clG _ | (refine gand ?_ h; assumption) | exact clN _ | fail
  · unfold ref20_first_c0 at b29
    have hd : decide (((k29 : Nat) : Int) < (((a0.map CopyT.cells).length : Nat) : Int)) = true := by rw [decide_eq_true_eq]; (try simp only [se_len, se_ch, List.length_map] at hk29); (try simp only [se_len, se_ch, List.length_map]); omega
    refine LoopW.round TT_ok [0, 1, 4, 6, 7, 8, 9, 10, 16] ?_
    conv => whnf
    repeat' first | with_reducible rfl | with_reducible exact True.intro | with_reducible assumption | refine parkI ?_ | (refine And.intro ?_ ?_ <;> conv => whnf) | fail
    refine parkE (fun hc => ?_) (fun hc => ?_)
    · clear hd
      conv => whnf
      repeat' first | with_reducible rfl | with_reducible exact True.intro | with_reducible assumption | refine parkI ?_ | (refine ⟨_, (kixF (f := CopyT.cells) hx29), ?_⟩; conv => whnf) | (refine And.intro ?_ ?_ <;> conv => whnf) | fail
      refine parkE (fun hc => ?_) (fun hc => ?_)
      · replace b29 := condT hc b29
        conv => whnf
        have e := Option.some.inj b29
        replace e := hret29 _ e.symm
        rw [e] at r29
        replace e := Option.some.inj r29
        subst e
        repeat' first | with_reducible rfl | with_reducible exact True.intro | with_reducible assumption | exact clA _ | (refine And.intro ?_ ?_ <;> conv => whnf) | exact clG _ | (refine gand ?_ h; assumption) | exact clN _ | fail
      · replace b29 := condF hc b29
        conv => whnf
        repeat' first | with_reducible rfl | with_reducible exact True.intro | with_reducible assumption | refine parkI ?_ | (refine And.intro ?_ ?_ <;> conv => whnf) | fail
        have e := Option.some.inj b29
        refine LoopW.norm [(1, (LV.str a1)), (7, (LV.ro 5 (a0.map CopyT.cells))), (8, (I (((a0.map CopyT.cells).length : Nat) : Int))), (9, (I ((k29 + 1 : Nat) : Int)))] 0 [] ⟨rfl, rfl, rfl, (congrArg (LV.int .i64) (w64_nat _ (by omega))), trivial⟩ trivial blT rfl (K29 _ e.symm)
    · exact (Bool.false_ne_true (hc.symm.trans hd)).elim

def ref17_leads_c1 (a1 : (List (List Bool))) (a2 : Int) (a3 : Int) (a4 : Int) (k35 : Nat) (x35 : LinkT) (k36 : Nat) (x36 : LinkT) (s36 : Unit) : Option (Step (Step Bool Unit) Unit) :=
  (gd (bif (bif (!decide (((k35 : Nat) : Int) = ((k36 : Nat) : Int))) then x35.Up else false) then x36.Up else false) (gix a1 a2)).bind fun v17 =>
  (gd (bif (bif (!decide (((k35 : Nat) : Int) = ((k36 : Nat) : Int))) then x35.Up else false) then x36.Up else false) (gix v17 ((k35 : Nat) : Int))).bind fun v19 =>
  (gd (bif (bif (bif (!decide (((k35 : Nat) : Int) = ((k36 : Nat) : Int))) then x35.Up else false) then x36.Up else false) then v19 else false) (gix a1 a2)).bind fun v21 =>
  (gd (bif (bif (bif (!decide (((k35 : Nat) : Int) = ((k36 : Nat) : Int))) then x35.Up else false) then x36.Up else false) then v19 else false) (gix v21 ((k36 : Nat) : Int))).bind fun v23 =>
  (bif (bif (bif (bif (bif (bif (bif (!decide (((k35 : Nat) : Int) = ((k36 : Nat) : Int))) then x35.Up else false) then x36.Up else false) then v19 else false) then v23 else false) then (decide (x35.Seg = a3)) else false) then (decide (x36.Seg = a4)) else false) then
    some (.ret (.ret true))
  else
    some (.nxt ()))

def ref17_leads_c0 (a0 : LanT) (a1 : (List (List Bool))) (a2 : Int) (a3 : Int) (a4 : Int) (k35 : Nat) (x35 : LinkT) (s35 : Unit) : Option (Step Bool Unit) :=
  (gix a0.Plans a2).bind fun v15 =>
  aft (rangeL (ref17_leads_c1 a1 a2 a3 a4 k35 x35) v15.Ports ()) fun s36 =>
  some (.nxt ())

def ref17_leads (a0 : LanT) (a1 : (List (List Bool))) (a2 : Int) (a3 : Int) (a4 : Int) : Option Bool :=
  (gix a0.Plans a2).bind fun v13 =>
  aft (rangeL (ref17_leads_c0 a0 a1 a2 a3 a4) v13.Ports ()) fun s35 =>
  some false

theorem c_ref17_leads (a0 : LanT) (a1 : (List (List Bool))) (a2 : Int) (a3 : Int) (a4 : Int) (r : Bool) (h : ref17_leads a0 a1 a2 a3 a4 = some r) : CallP Try.prog 150 [(LV.agg [(I a0.Segs), (LV.ro 2 (a0.Plans.map PlanT.cells)), (LV.ro 2 (a0.Hosts.map HostT.cells))]), (LV.ro 1 (a1.map (roC 1 bC))), (I a2), (I a3), (I a4)] (LV.bool r) := by
  unfold ref17_leads at h
  refine .intro nlA (.intro TT_ok Try.func150 rfl rfl [0, 1, 2, 3, 4, 5, 10, 11, 12, 13, 14, 20, 21, 22, 23, 32, 33, 34, 35, 79] rfl ?_)
  conv => whnf
  replace h := bindS h
  obtain ⟨v13, hv13, h⟩ := h
  have i14 := gixF (f := PlanT.cells) hv13
  repeat' first | with_reducible rfl | with_reducible exact True.intro | with_reducible assumption | refine parkI ?_ | (refine ⟨_, i14, ?_⟩; conv => whnf) | (refine And.intro ?_ ?_ <;> conv => whnf) | fail
  replace h := aftS h
  obtain ⟨O35, hO35, r35⟩ := h
  refine LoopW.norm [(1, (LV.ro 1 (a1.map (roC 1 bC)))), (2, (I a2)), (3, (I a3)), (4, (I a4)), (5, (LV.ptr 0 0 0)), (20, (LV.ro 3 (v13.Ports.map LinkT.cells))), (21, (I (((v13.Ports.map LinkT.cells).length : Nat) : Int))), (22, (I ((0 : Nat) : Int)))] 1 [(0, (.row 47 3 [[(I a0.Segs), (LV.ro 2 (a0.Plans.map PlanT.cells)), (LV.ro 2 (a0.Hosts.map HostT.cells))]]))] ⟨rfl, rfl, rfl, rfl, rfl, rfl, rfl, rfl, trivial⟩ ⟨⟨rfl, rfl, blT⟩, trivial⟩ blT rfl ?_
  refine LoopW.forR (fun k35 s35 => [(1, (LV.ro 1 (a1.map (roC 1 bC)))), (2, (I a2)), (3, (I a3)), (4, (I a4)), (5, (LV.ptr 0 0 0)), (20, (LV.ro 3 (v13.Ports.map LinkT.cells))), (21, (I (((v13.Ports.map LinkT.cells).length : Nat) : Int))), (22, (I ((k35 : Nat) : Int)))]) (fun s35 => ⟨1, [(0, (.row 47 3 [[(I a0.Segs), (LV.ro 2 (a0.Plans.map PlanT.cells)), (LV.ro 2 (a0.Hosts.map HostT.cells))]]))]⟩) hO35 (fun hl35 s35 hs35 => ?_) (fun hl35 k35 x35 s35 o35 hk35 hx35 b35 K35 hret35 hbrk35 => ?_)
  · rw [hs35] at r35
    dsimp only [aftM] at r35
    have hd : decide (((v13.Ports.length : Nat) : Int) < (((v13.Ports.map LinkT.cells).length : Nat) : Int)) = false := by rw [decide_eq_false_iff_not]; (try simp only [se_len, se_ch, List.length_map]); omega
    refine LoopW.round TT_ok [0, 1, 2, 3, 4, 5, 10, 11, 12, 13, 14, 20, 21, 22, 23, 32, 33, 34, 35, 79] ?_
    conv => whnf
    repeat' first | with_reducible rfl | with_reducible exact True.intro | with_reducible assumption | refine parkI ?_ | (refine And.intro ?_ ?_ <;> conv => whnf) | fail
    refine parkE (fun hc => ?_) (fun hc => ?_)
    · exact (Bool.false_ne_true (hd.symm.trans hc)).elim
    · clear hd
      conv => whnf
      have e := Option.some.inj r35
      subst e
      repeat' first | with_reducible rfl | with_reducible exact True.intro | with_reducible assumption | exact clA _ | (refine And.intro ?_ ?_ <;> conv => whnf) | exact clG _ | (refine gand ?_ h; assumption) | exact clN _ | fail
  · unfold ref17_leads_c0 at b35
    have hd : decide (((k35 : Nat) : Int) < (((v13.Ports.map LinkT.cells).length : Nat) : Int)) = true := by rw [decide_eq_true_eq]; (try simp only [se_len, se_ch, List.length_map] at hk35); (try simp only [se_len, se_ch, List.length_map]); omega
    refine LoopW.round TT_ok [0, 1, 2, 3, 4, 5, 10, 11, 12, 13, 14, 20, 21, 22, 23, 32, 33, 34, 35, 79] ?_
    conv => whnf
    repeat' first | with_reducible rfl | with_reducible exact True.intro | with_reducible assumption | refine parkI ?_ | (refine And.intro ?_ ?_ <;> conv => whnf) | fail
    refine parkE (fun hc => ?_) (fun hc => ?_)
    · clear hd
      conv => whnf
      replace b35 := bindS b35
      obtain ⟨v15, hv15, b35⟩ := b35
      have i16 := gixF (f := PlanT.cells) hv15
      repeat' first | with_reducible rfl | with_reducible exact True.intro | with_reducible assumption | refine parkI ?_ | (refine ⟨_, (kixF (f := LinkT.cells) hx35), ?_⟩; conv => whnf) | (refine ⟨_, i16, ?_⟩; conv => whnf) | (refine And.intro ?_ ?_ <;> conv => whnf) | fail
      replace b35 := aftS b35
      obtain ⟨O36, hO36, r36⟩ := b35
      refine LoopW.norm [(1, (LV.ro 1 (a1.map (roC 1 bC)))), (2, (I a2)), (3, (I a3)), (4, (I a4)), (5, (LV.ptr 0 0 0)), (11, (I ((k35 : Nat) : Int))), (12, (LV.ptr 1 0 0)), (20, (LV.ro 3 (v13.Ports.map LinkT.cells))), (21, (I (((v13.Ports.map LinkT.cells).length : Nat) : Int))), (22, (I ((k35 : Nat) : Int))), (32, (LV.ro 3 (v15.Ports.map LinkT.cells))), (33, (I (((v15.Ports.map LinkT.cells).length : Nat) : Int))), (34, (I ((0 : Nat) : Int)))] 2 [(0, (.row 47 3 [[(I a0.Segs), (LV.ro 2 (a0.Plans.map PlanT.cells)), (LV.ro 2 (a0.Hosts.map HostT.cells))]])), (1, (.row 140 3 [[(I x35.Seg), (I x35.Cost), (LV.bool x35.Up)]]))] ⟨rfl, rfl, rfl, rfl, rfl, rfl, rfl, rfl, rfl, rfl, rfl, rfl, rfl, trivial⟩ ⟨⟨rfl, rfl, blT⟩, ⟨⟨rfl, rfl, blT⟩, trivial⟩⟩ blT rfl ?_
      refine LoopW.forR (fun k36 s36 => [(1, (LV.ro 1 (a1.map (roC 1 bC)))), (2, (I a2)), (3, (I a3)), (4, (I a4)), (5, (LV.ptr 0 0 0)), (11, (I ((k35 : Nat) : Int))), (12, (LV.ptr 1 0 0)), (20, (LV.ro 3 (v13.Ports.map LinkT.cells))), (21, (I (((v13.Ports.map LinkT.cells).length : Nat) : Int))), (22, (I ((k35 : Nat) : Int))), (32, (LV.ro 3 (v15.Ports.map LinkT.cells))), (33, (I (((v15.Ports.map LinkT.cells).length : Nat) : Int))), (34, (I ((k36 : Nat) : Int)))]) (fun s36 => ⟨2, [(0, (.row 47 3 [[(I a0.Segs), (LV.ro 2 (a0.Plans.map PlanT.cells)), (LV.ro 2 (a0.Hosts.map HostT.cells))]])), (1, (.row 140 3 [[(I x35.Seg), (I x35.Cost), (LV.bool x35.Up)]]))]⟩) hO36 (fun hl36 s36 hs36 => ?_) (fun hl36 k36 x36 s36 o36 hk36 hx36 b36 K36 hret36 hbrk36 => ?_)
      · rw [hs36] at r36
        dsimp only [aftM] at r36
        have hd : decide (((v15.Ports.length : Nat) : Int) < (((v15.Ports.map LinkT.cells).length : Nat) : Int)) = false := by rw [decide_eq_false_iff_not]; (try simp only [se_len, se_ch, List.length_map]); omega
        refine LoopW.round TT_ok [0, 1, 2, 3, 4, 5, 10, 11, 12, 13, 14, 20, 21, 22, 23, 32, 33, 34, 35, 79] ?_
        conv => whnf
        repeat' first | with_reducible rfl | with_reducible exact True.intro | with_reducible assumption | refine parkI ?_ | (refine And.intro ?_ ?_ <;> conv => whnf) | fail
        refine parkE (fun hc => ?_) (fun hc => ?_)
        · exact (Bool.false_ne_true (hd.symm.trans hc)).elim
        · clear hd
          conv => whnf
          repeat' first | with_reducible rfl | with_reducible exact True.intro | with_reducible assumption | refine parkI ?_ | (refine And.intro ?_ ?_ <;> conv => whnf) | fail
          have e := Option.some.inj r36
          refine LoopW.norm [(1, (LV.ro 1 (a1.map (roC 1 bC)))), (2, (I a2)), (3, (I a3)), (4, (I a4)), (5, (LV.ptr 0 0 0)), (20, (LV.ro 3 (v13.Ports.map LinkT.cells))), (21, (I (((v13.Ports.map LinkT.cells).length : Nat) : Int))), (22, (I ((k35 + 1 : Nat) : Int)))] 1 [(0, (.row 47 3 [[(I a0.Segs), (LV.ro 2 (a0.Plans.map PlanT.cells)), (LV.ro 2 (a0.Hosts.map HostT.cells))]]))] ⟨rfl, rfl, rfl, rfl, rfl, rfl, rfl, (congrArg (LV.int .i64) (w64_nat _ (by omega))), trivial⟩ ⟨⟨rfl, rfl, blT⟩, trivial⟩ blT rfl (K35 _ e.symm)
      · unfold ref17_leads_c1 at b36
        have hd : decide (((k36 : Nat) : Int) < (((v15.Ports.map LinkT.cells).length : Nat) : Int)) = true := by rw [decide_eq_true_eq]; (try simp only [se_len, se_ch, List.length_map] at hk36); (try simp only [se_len, se_ch, List.length_map]); omega
        refine LoopW.round TT_ok [0, 1, 2, 3, 4, 5, 10, 11, 12, 13, 14, 20, 21, 22, 23, 32, 33, 34, 35, 79] ?_
        conv => whnf
        repeat' first | with_reducible rfl | with_reducible exact True.intro | with_reducible assumption | refine parkI ?_ | (refine And.intro ?_ ?_ <;> conv => whnf) | fail
        refine parkE (fun hc => ?_) (fun hc => ?_)
        · clear hd
          conv => whnf
          replace b36 := bindS b36
          obtain ⟨v17, hv17, b36⟩ := b36
          have i18 := fun hg => gixF (f := (roC 1 bC)) (gdS hg hv17)
          replace b36 := bindS b36
          obtain ⟨v19, hv19, b36⟩ := b36
          have i20 := fun hg => gixF (f := bC) (gdS hg hv19)
          replace b36 := bindS b36
          obtain ⟨v21, hv21, b36⟩ := b36
          have i22 := fun hg => gixF (f := (roC 1 bC)) (gdS hg hv21)
          replace b36 := bindS b36
          obtain ⟨v23, hv23, b36⟩ := b36
          have i24 := fun hg => gixF (f := bC) (gdS hg hv23)
          repeat' first | with_reducible rfl | with_reducible exact True.intro | with_reducible assumption | refine parkI ?_ | (refine ⟨_, (kixF (f := LinkT.cells) hx36), ?_⟩; conv => whnf) | (refine ⟨_, i18, ?_⟩; conv => whnf) | (refine ⟨_, i20, ?_⟩; conv => whnf) | (refine ⟨_, i22, ?_⟩; conv => whnf) | (refine ⟨_, i24, ?_⟩; conv => whnf) | exact clA _ | (refine And.intro ?_ ?_ <;> conv => whnf) | exact clG _ | (refine gand ?_ h; assumption) | fail
          refine parkE (fun hc => ?_) (fun hc => ?_)
          · replace b36 := condT hc b36
            conv => whnf
            have e := Option.some.inj b36
            replace e := hret36 _ e.symm
            rw [e] at r36
            replace e := Option.some.inj r36
            replace e := hret35 _ e.symm
            rw [e] at r35
            replace e := Option.some.inj r35
            subst e
            repeat' first | with_reducible rfl | with_reducible exact True.intro | with_reducible assumption | exact clA _ | (refine And.intro ?_ ?_ <;> conv => whnf) | exact clG _ | (refine gand ?_ h; assumption) | exact clN _ | fail
          · replace b36 := condF hc b36
            conv => whnf
            repeat' first | with_reducible rfl | with_reducible exact True.intro | with_reducible assumption | refine parkI ?_ | (refine And.intro ?_ ?_ <;> conv => whnf) | fail
            have e := Option.some.inj b36
            refine LoopW.norm [(1, (LV.ro 1 (a1.map (roC 1 bC)))), (2, (I a2)), (3, (I a3)), (4, (I a4)), (5, (LV.ptr 0 0 0)), (11, (I ((k35 : Nat) : Int))), (12, (LV.ptr 1 0 0)), (20, (LV.ro 3 (v13.Ports.map LinkT.cells))), (21, (I (((v13.Ports.map LinkT.cells).length : Nat) : Int))), (22, (I ((k35 : Nat) : Int))), (32, (LV.ro 3 (v15.Ports.map LinkT.cells))), (33, (I (((v15.Ports.map LinkT.cells).length : Nat) : Int))), (34, (I ((k36 + 1 : Nat) : Int)))] 2 [(0, (.row 47 3 [[(I a0.Segs), (LV.ro 2 (a0.Plans.map PlanT.cells)), (LV.ro 2 (a0.Hosts.map HostT.cells))]])), (1, (.row 140 3 [[(I x35.Seg), (I x35.Cost), (LV.bool x35.Up)]]))] ⟨rfl, rfl, rfl, rfl, rfl, rfl, rfl, rfl, rfl, rfl, rfl, rfl, (congrArg (LV.int .i64) (w64_nat _ (by omega))), trivial⟩ ⟨⟨rfl, rfl, blT⟩, ⟨⟨rfl, rfl, blT⟩, trivial⟩⟩ blT rfl (K36 _ e.symm)
        · exact (Bool.false_ne_true (hc.symm.trans hd)).elim
    · exact (Bool.false_ne_true (hc.symm.trans hd)).elim

def ref17_Next_c0 (a0 : LanT) (a1 : (List (List Bool))) (a2 : Int) (a3 : Int) (k34 : Nat) (x34 : PlanT) (s34 : Unit) : Option (Step Bool Unit) :=
  (ref17_leads a0 a1 ((k34 : Nat) : Int) a2 a3).bind fun y13 =>
  (bif y13 then
    some (.ret true)
  else
    some (.nxt ()))

def ref17_Next (a0 : LanT) (a1 : (List (List Bool))) (a2 : Int) (a3 : Int) : Option Bool :=
  aft (rangeL (ref17_Next_c0 a0 a1 a2 a3) a0.Plans ()) fun s34 =>
  some false

theorem c_ref17_Next (a0 : LanT) (a1 : (List (List Bool))) (a2 : Int) (a3 : Int) (r : Bool) (h : ref17_Next a0 a1 a2 a3 = some r) : CallP Try.prog 125 [(LV.agg [(I a0.Segs), (LV.ro 2 (a0.Plans.map PlanT.cells)), (LV.ro 2 (a0.Hosts.map HostT.cells))]), (LV.ro 1 (a1.map (roC 1 bC))), (I a2), (I a3)] (LV.bool r) := by
  unfold ref17_Next at h
  refine .intro nlA (.intro TT_ok Try.func125 rfl rfl [0, 1, 2, 3, 4, 8, 9, 12, 13, 14, 21] rfl ?_)
  conv => whnf
  repeat' first | with_reducible rfl | with_reducible exact True.intro | with_reducible assumption | refine parkI ?_ | (refine And.intro ?_ ?_ <;> conv => whnf) | fail
  replace h := aftS h
  obtain ⟨O34, hO34, r34⟩ := h
  refine LoopW.norm [(1, (LV.ro 1 (a1.map (roC 1 bC)))), (2, (I a2)), (3, (I a3)), (4, (LV.ptr 0 0 0)), (12, (I (((a0.Plans.map PlanT.cells).length : Nat) : Int))), (13, (I ((0 : Nat) : Int)))] 1 [(0, (.row 47 3 [[(I a0.Segs), (LV.ro 2 (a0.Plans.map PlanT.cells)), (LV.ro 2 (a0.Hosts.map HostT.cells))]]))] ⟨rfl, rfl, rfl, rfl, rfl, rfl, trivial⟩ ⟨⟨rfl, rfl, blT⟩, trivial⟩ blT rfl ?_
  refine LoopW.forR (fun k34 s34 => [(1, (LV.ro 1 (a1.map (roC 1 bC)))), (2, (I a2)), (3, (I a3)), (4, (LV.ptr 0 0 0)), (12, (I (((a0.Plans.map PlanT.cells).length : Nat) : Int))), (13, (I ((k34 : Nat) : Int)))]) (fun s34 => ⟨1, [(0, (.row 47 3 [[(I a0.Segs), (LV.ro 2 (a0.Plans.map PlanT.cells)), (LV.ro 2 (a0.Hosts.map HostT.cells))]]))]⟩) hO34 (fun hl34 s34 hs34 => ?_) (fun hl34 k34 x34 s34 o34 hk34 hx34 b34 K34 hret34 hbrk34 => ?_)
  · rw [hs34] at r34
    dsimp only [aftM] at r34
    have hd : decide (((a0.Plans.length : Nat) : Int) < (((a0.Plans.map PlanT.cells).length : Nat) : Int)) = false := by rw [decide_eq_false_iff_not]; (try simp only [se_len, se_ch, List.length_map]); omega
    refine LoopW.round TT_ok [0, 1, 2, 3, 4, 8, 9, 12, 13, 14, 21] ?_
    conv => whnf
    repeat' first | with_reducible rfl | with_reducible exact True.intro | with_reducible assumption | refine parkI ?_ | (refine And.intro ?_ ?_ <;> conv => whnf) | fail
    refine parkE (fun hc => ?_) (fun hc => ?_)
    · exact (Bool.false_ne_true (hd.symm.trans hc)).elim
    · clear hd
      conv => whnf
      have e := Option.some.inj r34
      subst e
      repeat' first | with_reducible rfl | with_reducible exact True.intro | with_reducible assumption | exact clA _ | (refine And.intro ?_ ?_ <;> conv => whnf) | exact clG _ | (refine gand ?_ h; assumption) | exact clN _ | fail
  · unfold ref17_Next_c0 at b34
    have hd : decide (((k34 : Nat) : Int) < (((a0.Plans.map PlanT.cells).length : Nat) : Int)) = true := by rw [decide_eq_true_eq]; (try simp only [se_len, se_ch, List.length_map] at hk34); (try simp only [se_len, se_ch, List.length_map]); omega
    refine LoopW.round TT_ok [0, 1, 2, 3, 4, 8, 9, 12, 13, 14, 21] ?_
    conv => whnf
    repeat' first | with_reducible rfl | with_reducible exact True.intro | with_reducible assumption | refine parkI ?_ | (refine And.intro ?_ ?_ <;> conv => whnf) | fail
    refine parkE (fun hc => ?_) (fun hc => ?_)
    · clear hd
      conv => whnf
      replace b34 := bindS b34
      obtain ⟨y13, hy13, b34⟩ := b34
      have c14 := c_ref17_leads a0 a1 ((k34 : Nat) : Int) a2 a3 _ hy13
      repeat' first | with_reducible rfl | with_reducible exact True.intro | with_reducible assumption | refine parkI ?_ | (refine CallP.use c14 ?_; conv => whnf) | (refine And.intro ?_ ?_ <;> conv => whnf) | fail
      refine parkE (fun hc => ?_) (fun hc => ?_)
      · replace b34 := condT hc b34
        conv => whnf
        have e := Option.some.inj b34
        replace e := hret34 _ e.symm
        rw [e] at r34
        replace e := Option.some.inj r34
        subst e
        repeat' first | with_reducible rfl | with_reducible exact True.intro | with_reducible assumption | exact clA _ | (refine And.intro ?_ ?_ <;> conv => whnf) | exact clG _ | (refine gand ?_ h; assumption) | exact clN _ | fail
      · replace b34 := condF hc b34
        conv => whnf
        repeat' first | with_reducible rfl | with_reducible exact True.intro | with_reducible assumption | refine parkI ?_ | (refine And.intro ?_ ?_ <;> conv => whnf) | fail
        have e := Option.some.inj b34
        refine LoopW.norm [(1, (LV.ro 1 (a1.map (roC 1 bC)))), (2, (I a2)), (3, (I a3)), (4, (LV.ptr 0 0 0)), (12, (I (((a0.Plans.map PlanT.cells).length : Nat) : Int))), (13, (I ((k34 + 1 : Nat) : Int)))] 1 [(0, (.row 47 3 [[(I a0.Segs), (LV.ro 2 (a0.Plans.map PlanT.cells)), (LV.ro 2 (a0.Hosts.map HostT.cells))]]))] ⟨rfl, rfl, rfl, rfl, rfl, (congrArg (LV.int .i64) (w64_nat _ (by omega))), trivial⟩ ⟨⟨rfl, rfl, blT⟩, trivial⟩ blT rfl (K34 _ e.symm)
    · exact (Bool.false_ne_true (hc.symm.trans hd)).elim

def ref17_Steps_c0 (a0 : LanT) (s30 : ((List Int) × Int)) : Option (Step (List Int) ((List Int) × Int)) :=
  (bif (decide (s30.2 < a0.Segs)) then
    grd (fits ((s30.1 ++ ([(-1)] : (List Int))) : List Int).length 8) <|
    some (.nxt ((s30.1 ++ ([(-1)] : (List Int))), (IntKind.i64.wrap (s30.2 + 1))))
  else
    some (.brk (s30.1, s30.2)))

def ref17_Steps_c3 (a0 : LanT) (a1 : (List (List Bool))) (s31 : (Int × (List Int))) (k32 : Nat) (k33 : Nat) (s33 : (List Int)) : Option (Step (Step (Step (List Int) (Int × (List Int))) (List Int)) (List Int)) :=
  grd ((0 : Int) ≤ ((k33 : Nat) : Int) ∧ ((k33 : Nat) : Int) < ((s33.length : Nat) : Int)) <|
  (gixN s33 (((k33 : Nat) : Int) : Int).toNat).bind fun v18 =>
  grd (((decide (v18 < 0)) = true → (0 : Int) ≤ ((k32 : Nat) : Int) ∧ ((k32 : Nat) : Int) < ((s33.length : Nat) : Int))) <|
  (bif (decide (v18 < 0)) then
    (gixN s33 (((k32 : Nat) : Int) : Int).toNat).bind fun v21 =>
    (gd (bif (decide (v18 < 0)) then (decide (v21 = (IntKind.i64.wrap (s31.1 - 1)))) else false) (ref17_Next a0 a1 ((k32 : Nat) : Int) ((k33 : Nat) : Int))).bind fun y23 =>
    (bif (bif (bif (decide (v18 < 0)) then (decide (v21 = (IntKind.i64.wrap (s31.1 - 1)))) else false) then y23 else false) then
      grd ((0 : Int) ≤ ((k33 : Nat) : Int) ∧ ((k33 : Nat) : Int) < ((s33.length : Nat) : Int)) <|
      some (.nxt (s33.set (((k33 : Nat) : Int) : Int).toNat s31.1))
    else
      some (.nxt s33))
  else
    (gd (bif (decide (v18 < 0)) then false else false) (ref17_Next a0 a1 ((k32 : Nat) : Int) ((k33 : Nat) : Int))).bind fun y21 =>
    (bif (bif false then y21 else false) then
      grd ((0 : Int) ≤ ((k33 : Nat) : Int) ∧ ((k33 : Nat) : Int) < ((s33.length : Nat) : Int)) <|
      some (.nxt (s33.set (((k33 : Nat) : Int) : Int).toNat s31.1))
    else
      some (.nxt s33)))

def ref17_Steps_c2 (a0 : LanT) (a1 : (List (List Bool))) (s31 : (Int × (List Int))) (k32 : Nat) (s32 : (List Int)) : Option (Step (Step (List Int) (Int × (List Int))) (List Int)) :=
  aft (rangeN (ref17_Steps_c3 a0 a1 s31 k32) ((s32.length : Nat) : Int) s32) fun s33 =>
  some (.nxt s33)

def ref17_Steps_c1 (a0 : LanT) (a1 : (List (List Bool))) (s31 : (Int × (List Int))) : Option (Step (List Int) (Int × (List Int))) :=
  (bif (decide (s31.1 < a0.Segs)) then
    aft (rangeN (ref17_Steps_c2 a0 a1 s31) ((s31.2.length : Nat) : Int) s31.2) fun s32 =>
    some (.nxt ((IntKind.i64.wrap (s31.1 + 1)), s32))
  else
    some (.brk (s31.1, s31.2)))

def ref17_Steps (a0 : LanT) (a1 : (List (List Bool))) (a2 : Int) : Option (List Int) :=
  aft (loopF 1000000 (ref17_Steps_c0 a0) (([] : (List Int)), 0)) fun s30 =>
  grd ((0 : Int) ≤ a2 ∧ a2 < ((s30.1.length : Nat) : Int)) <|
  (gixN s30.1 (a2 : Int).toNat).bind fun v15 =>
  aft (loopF 1000000 (ref17_Steps_c1 a0 a1) (1, (s30.1.set (a2 : Int).toNat 0))) fun s31 =>
  some s31.2

theorem cf_ref17_Steps (a0 : LanT) (a1 : (List (List Bool))) (a2 : Int) (r : (List Int)) (h : ref17_Steps a0 a1 a2 = some r) : CallF Try.prog 97 [(LV.agg [(I a0.Segs), (LV.ro 2 (a0.Plans.map PlanT.cells)), (LV.ro 2 (a0.Hosts.map HostT.cells))]), (LV.ro 1 (a1.map (roC 1 bC))), (I a2)] 3 1 (r.map iC) := by
  unfold ref17_Steps at h
  refine CallF.of (NLss_map' _) (CallW.intro TT_ok Try.func97 rfl rfl [0, 1, 2, 3, 6, 7, 8, 9, 10, 11, 16, 28, 32, 33, 34, 37, 38, 39, 61, 8000050] rfl ?_)
  conv => whnf
  repeat' first | with_reducible rfl | with_reducible exact True.intro | with_reducible assumption | refine parkI ?_ | (refine And.intro ?_ ?_ <;> conv => whnf) | fail
  replace h := aftS h
  obtain ⟨O30, hO30, r30⟩ := h
  refine LoopW.norm [(1, (LV.ro 1 (a1.map (roC 1 bC)))), (2, (I a2)), (3, (LV.ptr 0 0 0)), (7, (LV.sl 1 0 ((([] : (List Int)), 0).1.map iC).length)), (8, (I (([] : (List Int)), 0).2))] 2 [(0, (.row 47 3 [[(I a0.Segs), (LV.ro 2 (a0.Plans.map PlanT.cells)), (LV.ro 2 (a0.Hosts.map HostT.cells))]])), (1, (.row 3 1 ((([] : (List Int)), 0).1.map iC)))] ⟨rfl, rfl, rfl, (by exact congrArg (LV.sl 1 0) (clL _ : 0 = ((([] : (List Int)), 0).1.map iC).length)), (smT : ((I 0) : LV) = (I (([] : (List Int)), 0).2)), trivial⟩ ⟨⟨rfl, rfl, blT⟩, ⟨⟨(congrArg (fun q => some (Blk.row 3 1 q)) (smT : (([] : List (List LV)) : List (List LV)) = ((([] : (List Int)), 0).1.map iC))), rfl, NLss_bel (NLss_map' _)⟩, trivial⟩⟩ blT rfl ?_
  refine LoopW.forF (fun s30 => [(1, (LV.ro 1 (a1.map (roC 1 bC)))), (2, (I a2)), (3, (LV.ptr 0 0 0)), (7, (LV.sl 1 0 (s30.1.map iC).length)), (8, (I s30.2))]) (fun s30 => ⟨2, [(0, (.row 47 3 [[(I a0.Segs), (LV.ro 2 (a0.Plans.map PlanT.cells)), (LV.ro 2 (a0.Hosts.map HostT.cells))]])), (1, (.row 3 1 (s30.1.map iC)))]⟩) hO30 (fun s30 o30 b30 K30 hret30 hbrk30 => ?_)
  unfold ref17_Steps_c0 at b30
  refine LoopW.round TT_ok [0, 1, 2, 3, 6, 7, 8, 9, 10, 11, 16, 28, 32, 33, 34, 37, 38, 39, 61, 8000050] ?_
  conv => whnf
  repeat' first | with_reducible rfl | with_reducible exact True.intro | with_reducible assumption | refine parkI ?_ | (refine And.intro ?_ ?_ <;> conv => whnf) | fail
  refine parkE (fun hc => ?_) (fun hc => ?_)
  · replace b30 := condT hc b30
    conv => whnf
    replace b30 := grdS b30
    obtain ⟨g3, b30⟩ := b30
    replace g3 : fits (((s30.1.map iC) ++ [[(I (-1))]])).length 8 := by simpa only [se_len, se_ch, List.length_map] using g3
    repeat' first | with_reducible rfl | with_reducible exact True.intro | with_reducible assumption | refine parkI ?_ | exact g3 | exact clA _ | (refine And.intro ?_ ?_ <;> conv => whnf) | exact clN _ | fail
    have e := Option.some.inj b30
    refine LoopW.ren [(0, 0), (3, 1)] [(1, (LV.ro 1 (a1.map (roC 1 bC)))), (2, (I a2)), (3, (LV.ptr 0 0 0)), (7, (LV.sl 1 0 (((s30.1 ++ ([(-1)] : (List Int))), (IntKind.i64.wrap (s30.2 + 1))).1.map iC).length)), (8, (I ((s30.1 ++ ([(-1)] : (List Int))), (IntKind.i64.wrap (s30.2 + 1))).2))] 2 [(0, (.row 47 3 [[(I a0.Segs), (LV.ro 2 (a0.Plans.map PlanT.cells)), (LV.ro 2 (a0.Hosts.map HostT.cells))]])), (1, (.row 3 1 (((s30.1 ++ ([(-1)] : (List Int))), (IntKind.i64.wrap (s30.2 + 1))).1.map iC)))] rfl ⟨rfl, rfl, rfl, (by exact congrArg (LV.sl 1 0) (clL _ : (((s30.1.map iC) ++ [[(I (-1))]])).length = (((s30.1 ++ ([(-1)] : (List Int))), (IntKind.i64.wrap (s30.2 + 1))).1.map iC).length)), (smT : ((I (IntKind.i64.wrap (s30.2 + 1))) : LV) = (I ((s30.1 ++ ([(-1)] : (List Int))), (IntKind.i64.wrap (s30.2 + 1))).2)), trivial⟩ ⟨⟨rfl, rfl, .inl ⟨rfl, nlT⟩⟩, rfl, rfl, ⟨⟨rfl, rfl, .inl ⟨(smT : (((s30.1.map iC) ++ [[(I (-1))]]) : List (List LV)) = (((s30.1 ++ ([(-1)] : (List Int))), (IntKind.i64.wrap (s30.2 + 1))).1.map iC)), nlT⟩⟩, rfl, rfl, trivial⟩⟩ rfl (K30 _ e.symm)
  · replace b30 := condF hc b30
    conv => whnf
    have e := Option.some.inj b30
    replace e := hbrk30 _ e.symm
    rw [e] at r30
    dsimp only [aftM] at r30
    replace r30 := grdS r30
    obtain ⟨g4, r30⟩ := r30
    replace g4 : (0 : Int) ≤ a2 ∧ a2 < (((s30.1.map iC).length : Nat) : Int) := by simpa only [se_len, se_ch, List.length_map] using g4
    replace r30 := bindS r30
    obtain ⟨v5, hv5, r30⟩ := r30
    have i6 : nth (s30.1.map iC) (0 + ((a2 : Int).toNat)) = some [(I v5)] := by simpa only [se_map, se_len, se_ch, List.length_map, nth_eq, Nat.zero_add, List.getElem?_map] using gixNF (f := iC) hv5
    repeat' first | with_reducible rfl | with_reducible exact True.intro | with_reducible assumption | refine parkI ?_ | exact g4 | (rw [i6]; conv => whnf) | (refine And.intro ?_ ?_ <;> conv => whnf) | fail
    replace r30 := aftS r30
    obtain ⟨O31, hO31, r31⟩ := r30
    refine LoopW.norm [(1, (LV.ro 1 (a1.map (roC 1 bC)))), (3, (LV.ptr 0 0 0)), (7, (LV.sl 1 0 ((1, (s30.1.set (a2 : Int).toNat 0)).2.map iC).length)), (9, (I (1, (s30.1.set (a2 : Int).toNat 0)).1))] 2 [(0, (.row 47 3 [[(I a0.Segs), (LV.ro 2 (a0.Plans.map PlanT.cells)), (LV.ro 2 (a0.Hosts.map HostT.cells))]])), (1, (.row 3 1 ((1, (s30.1.set (a2 : Int).toNat 0)).2.map iC)))] ⟨rfl, rfl, (by exact congrArg (LV.sl 1 0) (clL _ : (s30.1.map iC).length = ((1, (s30.1.set (a2 : Int).toNat 0)).2.map iC).length)), (smT : ((I 1) : LV) = (I (1, (s30.1.set (a2 : Int).toNat 0)).1)), trivial⟩ ⟨⟨rfl, rfl, blT⟩, ⟨⟨(congrArg (fun q => some (Blk.row 3 1 q)) (smT : ((setN (s30.1.map iC) (0 + ((a2 : Int).toNat)) [(I 0)]) : List (List LV)) = ((1, (s30.1.set (a2 : Int).toNat 0)).2.map iC))), rfl, NLss_bel (NLss_map' _)⟩, trivial⟩⟩ blT rfl ?_
    refine LoopW.forF (fun s31 => [(1, (LV.ro 1 (a1.map (roC 1 bC)))), (3, (LV.ptr 0 0 0)), (7, (LV.sl 1 0 (s31.2.map iC).length)), (9, (I s31.1))]) (fun s31 => ⟨2, [(0, (.row 47 3 [[(I a0.Segs), (LV.ro 2 (a0.Plans.map PlanT.cells)), (LV.ro 2 (a0.Hosts.map HostT.cells))]])), (1, (.row 3 1 (s31.2.map iC)))]⟩) hO31 (fun s31 o31 b31 K31 hret31 hbrk31 => ?_)
    unfold ref17_Steps_c1 at b31
    refine LoopW.round TT_ok [0, 1, 2, 3, 6, 7, 8, 9, 10, 11, 16, 28, 32, 33, 34, 37, 38, 39, 61, 8000050] ?_
    conv => whnf
    repeat' first | with_reducible rfl | with_reducible exact True.intro | with_reducible assumption | refine parkI ?_ | (refine And.intro ?_ ?_ <;> conv => whnf) | fail
    refine parkE (fun hc => ?_) (fun hc => ?_)
    · replace b31 := condT hc b31
      conv => whnf
      repeat' first | with_reducible rfl | with_reducible exact True.intro | with_reducible assumption | refine parkI ?_ | (refine And.intro ?_ ?_ <;> conv => whnf) | fail
      replace b31 := aftS b31
      obtain ⟨O32, hO32, r32⟩ := b31
      refine LoopW.norm [(1, (LV.ro 1 (a1.map (roC 1 bC)))), (3, (LV.ptr 0 0 0)), (7, (LV.sl 1 0 (s31.2.map iC).length)), (9, (I s31.1)), (32, (I (((s31.2.map iC).length : Nat) : Int))), (33, (I ((0 : Nat) : Int)))] 2 [(0, (.row 47 3 [[(I a0.Segs), (LV.ro 2 (a0.Plans.map PlanT.cells)), (LV.ro 2 (a0.Hosts.map HostT.cells))]])), (1, (.row 3 1 (s31.2.map iC)))] ⟨rfl, rfl, rfl, rfl, rfl, rfl, trivial⟩ ⟨⟨rfl, rfl, blT⟩, ⟨⟨rfl, rfl, NLss_bel (NLss_map' _)⟩, trivial⟩⟩ blT rfl ?_
      refine LoopW.forN (fun k32 s32 => [(1, (LV.ro 1 (a1.map (roC 1 bC)))), (3, (LV.ptr 0 0 0)), (7, (LV.sl 1 0 (s32.map iC).length)), (9, (I s31.1)), (32, (I (((s31.2.map iC).length : Nat) : Int))), (33, (I ((k32 : Nat) : Int)))]) (fun s32 => ⟨2, [(0, (.row 47 3 [[(I a0.Segs), (LV.ro 2 (a0.Plans.map PlanT.cells)), (LV.ro 2 (a0.Hosts.map HostT.cells))]])), (1, (.row 3 1 (s32.map iC)))]⟩) hO32 (fun hl32 s32 hs32 => ?_) (fun hl32 k32 s32 o32 hk32 b32 K32 hret32 hbrk32 => ?_)
      · rw [hs32] at r32
        dsimp only [aftM] at r32
        have hd : decide ((((((s31.2.length : Nat) : Int) : Int).toNat : Nat) : Int) < (((s31.2.map iC).length : Nat) : Int)) = false := by rw [decide_eq_false_iff_not]; (try simp only [se_len, se_ch, List.length_map]); omega
        refine LoopW.round TT_ok [0, 1, 2, 3, 6, 7, 8, 9, 10, 11, 16, 28, 32, 33, 34, 37, 38, 39, 61, 8000050] ?_
        conv => whnf
        repeat' first | with_reducible rfl | with_reducible exact True.intro | with_reducible assumption | refine parkI ?_ | (refine And.intro ?_ ?_ <;> conv => whnf) | fail
        refine parkE (fun hc => ?_) (fun hc => ?_)
        · exact (Bool.false_ne_true (hd.symm.trans hc)).elim
        · clear hd
          conv => whnf
          repeat' first | with_reducible rfl | with_reducible exact True.intro | with_reducible assumption | refine parkI ?_ | (refine And.intro ?_ ?_ <;> conv => whnf) | fail
          have e := Option.some.inj r32
          refine LoopW.norm [(1, (LV.ro 1 (a1.map (roC 1 bC)))), (3, (LV.ptr 0 0 0)), (7, (LV.sl 1 0 (((IntKind.i64.wrap (s31.1 + 1)), s32).2.map iC).length)), (9, (I ((IntKind.i64.wrap (s31.1 + 1)), s32).1))] 2 [(0, (.row 47 3 [[(I a0.Segs), (LV.ro 2 (a0.Plans.map PlanT.cells)), (LV.ro 2 (a0.Hosts.map HostT.cells))]])), (1, (.row 3 1 (((IntKind.i64.wrap (s31.1 + 1)), s32).2.map iC)))] ⟨rfl, rfl, (by exact congrArg (LV.sl 1 0) (clL _ : (s32.map iC).length = (((IntKind.i64.wrap (s31.1 + 1)), s32).2.map iC).length)), (smT : ((I (IntKind.i64.wrap (s31.1 + 1))) : LV) = (I ((IntKind.i64.wrap (s31.1 + 1)), s32).1)), trivial⟩ ⟨⟨rfl, rfl, blT⟩, ⟨⟨(congrArg (fun q => some (Blk.row 3 1 q)) (smT : ((s32.map iC) : List (List LV)) = (((IntKind.i64.wrap (s31.1 + 1)), s32).2.map iC))), rfl, NLss_bel (NLss_map' _)⟩, trivial⟩⟩ blT rfl (K31 _ e.symm)
      · unfold ref17_Steps_c2 at b32
        have hd : decide (((k32 : Nat) : Int) < (((s31.2.map iC).length : Nat) : Int)) = true := by rw [decide_eq_true_eq]; (try simp only [se_len, se_ch, List.length_map] at hk32); (try simp only [se_len, se_ch, List.length_map]); omega
        refine LoopW.round TT_ok [0, 1, 2, 3, 6, 7, 8, 9, 10, 11, 16, 28, 32, 33, 34, 37, 38, 39, 61, 8000050] ?_
        conv => whnf
        repeat' first | with_reducible rfl | with_reducible exact True.intro | with_reducible assumption | refine parkI ?_ | (refine And.intro ?_ ?_ <;> conv => whnf) | fail
        refine parkE (fun hc => ?_) (fun hc => ?_)
        · clear hd
          conv => whnf
          repeat' first | with_reducible rfl | with_reducible exact True.intro | with_reducible assumption | refine parkI ?_ | (refine And.intro ?_ ?_ <;> conv => whnf) | fail
          replace b32 := aftS b32
          obtain ⟨O33, hO33, r33⟩ := b32
          refine LoopW.norm [(1, (LV.ro 1 (a1.map (roC 1 bC)))), (3, (LV.ptr 0 0 0)), (7, (LV.sl 1 0 (s32.map iC).length)), (9, (I s31.1)), (10, (I ((k32 : Nat) : Int))), (32, (I (((s31.2.map iC).length : Nat) : Int))), (33, (I ((k32 : Nat) : Int))), (37, (I (((s32.map iC).length : Nat) : Int))), (38, (I ((0 : Nat) : Int)))] 2 [(0, (.row 47 3 [[(I a0.Segs), (LV.ro 2 (a0.Plans.map PlanT.cells)), (LV.ro 2 (a0.Hosts.map HostT.cells))]])), (1, (.row 3 1 (s32.map iC)))] ⟨rfl, rfl, rfl, rfl, rfl, rfl, rfl, rfl, rfl, trivial⟩ ⟨⟨rfl, rfl, blT⟩, ⟨⟨rfl, rfl, NLss_bel (NLss_map' _)⟩, trivial⟩⟩ blT rfl ?_
          refine LoopW.forN (fun k33 s33 => [(1, (LV.ro 1 (a1.map (roC 1 bC)))), (3, (LV.ptr 0 0 0)), (7, (LV.sl 1 0 (s33.map iC).length)), (9, (I s31.1)), (10, (I ((k32 : Nat) : Int))), (32, (I (((s31.2.map iC).length : Nat) : Int))), (33, (I ((k32 : Nat) : Int))), (37, (I (((s32.map iC).length : Nat) : Int))), (38, (I ((k33 : Nat) : Int)))]) (fun s33 => ⟨2, [(0, (.row 47 3 [[(I a0.Segs), (LV.ro 2 (a0.Plans.map PlanT.cells)), (LV.ro 2 (a0.Hosts.map HostT.cells))]])), (1, (.row 3 1 (s33.map iC)))]⟩) hO33 (fun hl33 s33 hs33 => ?_) (fun hl33 k33 s33 o33 hk33 b33 K33 hret33 hbrk33 => ?_)
          · rw [hs33] at r33
            dsimp only [aftM] at r33
            have hd : decide ((((((s32.length : Nat) : Int) : Int).toNat : Nat) : Int) < (((s32.map iC).length : Nat) : Int)) = false := by rw [decide_eq_false_iff_not]; (try simp only [se_len, se_ch, List.length_map]); omega
            refine LoopW.round TT_ok [0, 1, 2, 3, 6, 7, 8, 9, 10, 11, 16, 28, 32, 33, 34, 37, 38, 39, 61, 8000050] ?_
            conv => whnf
            repeat' first | with_reducible rfl | with_reducible exact True.intro | with_reducible assumption | refine parkI ?_ | (refine And.intro ?_ ?_ <;> conv => whnf) | fail
            refine parkE (fun hc => ?_) (fun hc => ?_)
            · exact (Bool.false_ne_true (hd.symm.trans hc)).elim
            · clear hd
              conv => whnf
              repeat' first | with_reducible rfl | with_reducible exact True.intro | with_reducible assumption | refine parkI ?_ | (refine And.intro ?_ ?_ <;> conv => whnf) | fail
              have e := Option.some.inj r33
              refine LoopW.norm [(1, (LV.ro 1 (a1.map (roC 1 bC)))), (3, (LV.ptr 0 0 0)), (7, (LV.sl 1 0 (s33.map iC).length)), (9, (I s31.1)), (32, (I (((s31.2.map iC).length : Nat) : Int))), (33, (I ((k32 + 1 : Nat) : Int)))] 2 [(0, (.row 47 3 [[(I a0.Segs), (LV.ro 2 (a0.Plans.map PlanT.cells)), (LV.ro 2 (a0.Hosts.map HostT.cells))]])), (1, (.row 3 1 (s33.map iC)))] ⟨rfl, rfl, rfl, rfl, rfl, (congrArg (LV.int .i64) (w64_nat _ (by omega))), trivial⟩ ⟨⟨rfl, rfl, blT⟩, ⟨⟨rfl, rfl, NLss_bel (NLss_map' _)⟩, trivial⟩⟩ blT rfl (K32 _ e.symm)
          · unfold ref17_Steps_c3 at b33
            have hd : decide (((k33 : Nat) : Int) < (((s32.map iC).length : Nat) : Int)) = true := by rw [decide_eq_true_eq]; (try simp only [se_len, se_ch, List.length_map] at hk33); (try simp only [se_len, se_ch, List.length_map]); omega
            refine LoopW.round TT_ok [0, 1, 2, 3, 6, 7, 8, 9, 10, 11, 16, 28, 32, 33, 34, 37, 38, 39, 61, 8000050] ?_
            conv => whnf
            repeat' first | with_reducible rfl | with_reducible exact True.intro | with_reducible assumption | refine parkI ?_ | (refine And.intro ?_ ?_ <;> conv => whnf) | fail
            refine parkE (fun hc => ?_) (fun hc => ?_)
            · clear hd
              conv => whnf
              replace b33 := grdS b33
              obtain ⟨g7, b33⟩ := b33
              replace g7 : (0 : Int) ≤ ((k33 : Nat) : Int) ∧ ((k33 : Nat) : Int) < (((s33.map iC).length : Nat) : Int) := by simpa only [se_len, se_ch, List.length_map] using g7
              replace b33 := bindS b33
              obtain ⟨v8, hv8, b33⟩ := b33
              have i9 : nth (s33.map iC) (0 + ((((k33 : Nat) : Int) : Int).toNat)) = some [(I v8)] := by simpa only [se_map, se_len, se_ch, List.length_map, nth_eq, Nat.zero_add, List.getElem?_map] using gixNF (f := iC) hv8
              replace b33 := grdS b33
              obtain ⟨g10, b33⟩ := b33
              replace g10 : (decide (v8 < 0)) = true → (0 : Int) ≤ ((k32 : Nat) : Int) ∧ ((k32 : Nat) : Int) < (((s33.map iC).length : Nat) : Int) := by simpa only [se_len, se_ch, List.length_map] using g10
              repeat' first | with_reducible rfl | with_reducible exact True.intro | with_reducible assumption | refine parkI ?_ | exact g7 | exact g10 | (rw [i9]; conv => whnf) | exact clA _ | (refine And.intro ?_ ?_ <;> conv => whnf) | exact clG _ | (refine gand ?_ h; assumption) | fail
              refine parkE (fun hg3_ => ?_) (fun hg3_ => ?_)
              · replace b33 := condT (by first | exact hg3_ | simpa only [se_len, se_ch, List.length_map] using hg3_) b33
                conv => whnf
                replace b33 := bindS b33
                obtain ⟨v11, hv11, b33⟩ := b33
                have i12 : nth (s33.map iC) (0 + ((((k32 : Nat) : Int) : Int).toNat)) = some [(I v11)] := by simpa only [se_map, se_len, se_ch, List.length_map, nth_eq, Nat.zero_add, List.getElem?_map] using gixNF (f := iC) hv11
                replace b33 := bindS b33
                obtain ⟨y13, hy13, b33⟩ := b33
                have c14 := fun (hg : (bif (decide (v8 < 0)) then (decide (v11 = (IntKind.i64.wrap (s31.1 - 1)))) else false) = true) => c_ref17_Next a0 a1 ((k32 : Nat) : Int) ((k33 : Nat) : Int) _ (gdS hg hy13)
                repeat' first | with_reducible rfl | with_reducible exact True.intro | with_reducible assumption | refine parkI ?_ | (refine ⟨_, c14, ?_⟩; conv => whnf) | (rw [i12]; conv => whnf) | exact clA _ | (refine And.intro ?_ ?_ <;> conv => whnf) | exact clG _ | (refine gand ?_ h; assumption) | (intro hq_; conv => whnf) | fail
                refine parkE (fun hc => ?_) (fun hc => ?_)
                · replace b33 := condT hc b33
                  conv => whnf
                  replace b33 := grdS b33
                  obtain ⟨g15, b33⟩ := b33
                  replace g15 : (0 : Int) ≤ ((k33 : Nat) : Int) ∧ ((k33 : Nat) : Int) < (((s33.map iC).length : Nat) : Int) := by simpa only [se_len, se_ch, List.length_map] using g15
                  repeat' first | with_reducible rfl | with_reducible exact True.intro | with_reducible assumption | refine parkI ?_ | exact g15 | (rw [i9]; conv => whnf) | (refine And.intro ?_ ?_ <;> conv => whnf) | (intro hq_; conv => whnf) | fail
                  have e := Option.some.inj b33
                  refine LoopW.norm [(1, (LV.ro 1 (a1.map (roC 1 bC)))), (3, (LV.ptr 0 0 0)), (7, (LV.sl 1 0 ((s33.set (((k33 : Nat) : Int) : Int).toNat s31.1).map iC).length)), (9, (I s31.1)), (10, (I ((k32 : Nat) : Int))), (32, (I (((s31.2.map iC).length : Nat) : Int))), (33, (I ((k32 : Nat) : Int))), (37, (I (((s32.map iC).length : Nat) : Int))), (38, (I ((k33 + 1 : Nat) : Int)))] 2 [(0, (.row 47 3 [[(I a0.Segs), (LV.ro 2 (a0.Plans.map PlanT.cells)), (LV.ro 2 (a0.Hosts.map HostT.cells))]])), (1, (.row 3 1 ((s33.set (((k33 : Nat) : Int) : Int).toNat s31.1).map iC)))] ⟨rfl, rfl, (by exact congrArg (LV.sl 1 0) (clL _ : (s33.map iC).length = ((s33.set (((k33 : Nat) : Int) : Int).toNat s31.1).map iC).length)), rfl, rfl, rfl, rfl, rfl, (congrArg (LV.int .i64) (w64_nat _ (by omega))), trivial⟩ ⟨⟨rfl, rfl, blT⟩, ⟨⟨(congrArg (fun q => some (Blk.row 3 1 q)) (smT : ((setN (s33.map iC) (0 + ((((k33 : Nat) : Int) : Int).toNat)) [(I s31.1)]) : List (List LV)) = ((s33.set (((k33 : Nat) : Int) : Int).toNat s31.1).map iC))), rfl, NLss_bel (NLss_map' _)⟩, trivial⟩⟩ blT rfl (K33 _ e.symm)
                · replace b33 := condF hc b33
                  conv => whnf
                  repeat' first | with_reducible rfl | with_reducible exact True.intro | with_reducible assumption | refine parkI ?_ | (refine And.intro ?_ ?_ <;> conv => whnf) | (intro hq_; conv => whnf) | fail
                  have e := Option.some.inj b33
                  refine LoopW.norm [(1, (LV.ro 1 (a1.map (roC 1 bC)))), (3, (LV.ptr 0 0 0)), (7, (LV.sl 1 0 (s33.map iC).length)), (9, (I s31.1)), (10, (I ((k32 : Nat) : Int))), (32, (I (((s31.2.map iC).length : Nat) : Int))), (33, (I ((k32 : Nat) : Int))), (37, (I (((s32.map iC).length : Nat) : Int))), (38, (I ((k33 + 1 : Nat) : Int)))] 2 [(0, (.row 47 3 [[(I a0.Segs), (LV.ro 2 (a0.Plans.map PlanT.cells)), (LV.ro 2 (a0.Hosts.map HostT.cells))]])), (1, (.row 3 1 (s33.map iC)))] ⟨rfl, rfl, rfl, rfl, rfl, rfl, rfl, rfl, (congrArg (LV.int .i64) (w64_nat _ (by omega))), trivial⟩ ⟨⟨rfl, rfl, blT⟩, ⟨⟨rfl, rfl, NLss_bel (NLss_map' _)⟩, trivial⟩⟩ blT rfl (K33 _ e.symm)
              · replace b33 := condF (by first | exact hg3_ | simpa only [se_len, se_ch, List.length_map] using hg3_) b33
                conv => whnf
                replace b33 := bindS b33
                obtain ⟨y11, hy11, b33⟩ := b33
                have c12 := fun (hg : (bif (decide (v8 < 0)) then false else false) = true) => c_ref17_Next a0 a1 ((k32 : Nat) : Int) ((k33 : Nat) : Int) _ (gdS hg hy11)
                repeat' first | with_reducible rfl | with_reducible exact True.intro | with_reducible assumption | refine parkI ?_ | (refine ⟨_, c12, ?_⟩; conv => whnf) | exact (by first | exact hg3_ | simpa using hg3_ : _ = false) | (refine ⟨?_, True.intro⟩; first | exact hg3_ | (simpa using hg3_; done)) | exact clA _ | (refine And.intro ?_ ?_ <;> conv => whnf) | exact clG _ | (refine gand ?_ h; assumption) | (intro hq_; conv => whnf) | fail
                refine parkE (fun hc => ?_) (fun hc => ?_)
                · replace b33 := condT hc b33
                  conv => whnf
                  replace b33 := grdS b33
                  obtain ⟨g13, b33⟩ := b33
                  replace g13 : (0 : Int) ≤ ((k33 : Nat) : Int) ∧ ((k33 : Nat) : Int) < (((s33.map iC).length : Nat) : Int) := by simpa only [se_len, se_ch, List.length_map] using g13
                  repeat' first | with_reducible rfl | with_reducible exact True.intro | with_reducible assumption | refine parkI ?_ | exact g13 | (rw [i9]; conv => whnf) | (refine And.intro ?_ ?_ <;> conv => whnf) | (intro hq_; conv => whnf) | fail
                  have e := Option.some.inj b33
                  refine LoopW.norm [(1, (LV.ro 1 (a1.map (roC 1 bC)))), (3, (LV.ptr 0 0 0)), (7, (LV.sl 1 0 ((s33.set (((k33 : Nat) : Int) : Int).toNat s31.1).map iC).length)), (9, (I s31.1)), (10, (I ((k32 : Nat) : Int))), (32, (I (((s31.2.map iC).length : Nat) : Int))), (33, (I ((k32 : Nat) : Int))), (37, (I (((s32.map iC).length : Nat) : Int))), (38, (I ((k33 + 1 : Nat) : Int)))] 2 [(0, (.row 47 3 [[(I a0.Segs), (LV.ro 2 (a0.Plans.map PlanT.cells)), (LV.ro 2 (a0.Hosts.map HostT.cells))]])), (1, (.row 3 1 ((s33.set (((k33 : Nat) : Int) : Int).toNat s31.1).map iC)))] ⟨rfl, rfl, (by exact congrArg (LV.sl 1 0) (clL _ : (s33.map iC).length = ((s33.set (((k33 : Nat) : Int) : Int).toNat s31.1).map iC).length)), rfl, rfl, rfl, rfl, rfl, (congrArg (LV.int .i64) (w64_nat _ (by omega))), trivial⟩ ⟨⟨rfl, rfl, blT⟩, ⟨⟨(congrArg (fun q => some (Blk.row 3 1 q)) (smT : ((setN (s33.map iC) (0 + ((((k33 : Nat) : Int) : Int).toNat)) [(I s31.1)]) : List (List LV)) = ((s33.set (((k33 : Nat) : Int) : Int).toNat s31.1).map iC))), rfl, NLss_bel (NLss_map' _)⟩, trivial⟩⟩ blT rfl (K33 _ e.symm)
                · replace b33 := condF hc b33
                  conv => whnf
                  repeat' first | with_reducible rfl | with_reducible exact True.intro | with_reducible assumption | refine parkI ?_ | (refine And.intro ?_ ?_ <;> conv => whnf) | (intro hq_; conv => whnf) | fail
                  have e := Option.some.inj b33
                  refine LoopW.norm [(1, (LV.ro 1 (a1.map (roC 1 bC)))), (3, (LV.ptr 0 0 0)), (7, (LV.sl 1 0 (s33.map iC).length)), (9, (I s31.1)), (10, (I ((k32 : Nat) : Int))), (32, (I (((s31.2.map iC).length : Nat) : Int))), (33, (I ((k32 : Nat) : Int))), (37, (I (((s32.map iC).length : Nat) : Int))), (38, (I ((k33 + 1 : Nat) : Int)))] 2 [(0, (.row 47 3 [[(I a0.Segs), (LV.ro 2 (a0.Plans.map PlanT.cells)), (LV.ro 2 (a0.Hosts.map HostT.cells))]])), (1, (.row 3 1 (s33.map iC)))] ⟨rfl, rfl, rfl, rfl, rfl, rfl, rfl, rfl, (congrArg (LV.int .i64) (w64_nat _ (by omega))), trivial⟩ ⟨⟨rfl, rfl, blT⟩, ⟨⟨rfl, rfl, NLss_bel (NLss_map' _)⟩, trivial⟩⟩ blT rfl (K33 _ e.symm)
            · exact (Bool.false_ne_true (hc.symm.trans hd)).elim
        · exact (Bool.false_ne_true (hc.symm.trans hd)).elim
    · replace b31 := condF hc b31
      conv => whnf
      have e := Option.some.inj b31
      replace e := hbrk31 _ e.symm
      rw [e] at r31
      dsimp only [aftM] at r31
      have e := Option.some.inj r31
      subst e
      repeat' first | with_reducible rfl | with_reducible exact True.intro | with_reducible assumption | exact Or.inr ⟨_, rfl, congrArg (fun q => some (Blk.row 3 1 q)) rfl⟩ | exact clA _ | (refine And.intro ?_ ?_ <;> conv => whnf) | exact clG _ | (refine gand ?_ h; assumption) | exact clN _ | fail

theorem c_ref17_Steps (a0 : LanT) (a1 : (List (List Bool))) (a2 : Int) (r : (List Int)) (h : ref17_Steps a0 a1 a2 = some r) : CallP Try.prog 97 [(LV.agg [(I a0.Segs), (LV.ro 2 (a0.Plans.map PlanT.cells)), (LV.ro 2 (a0.Hosts.map HostT.cells))]), (LV.ro 1 (a1.map (roC 1 bC))), (I a2)] (LV.ro 1 (r.map iC)) := by
  exact CallF.toP (cf_ref17_Steps a0 a1 a2 r h) nlA (NLss_map' _)

def ref17_Reach_c0 (y3 : (List Int)) (k30 : Nat) (s30 : (List Int)) : Option (Step (List Int) (List Int)) :=
  grd ((0 : Int) ≤ ((k30 : Nat) : Int) ∧ ((k30 : Nat) : Int) < ((y3.length : Nat) : Int)) <|
  (gixN y3 (((k30 : Nat) : Int) : Int).toNat).bind fun v6 =>
  (bif (decide (0 ≤ v6)) then
    grd (fits ((s30 ++ ([((k30 : Nat) : Int)] : (List Int))) : List Int).length 8) <|
    some (.nxt (s30 ++ ([((k30 : Nat) : Int)] : (List Int))))
  else
    some (.nxt s30))

def ref17_Reach (a0 : LanT) (a1 : (List (List Bool))) (a2 : Int) : Option (List Int) :=
  (ref17_Steps a0 a1 a2).bind fun y3 =>
  aft (rangeN (ref17_Reach_c0 y3) ((y3.length : Nat) : Int) ([] : (List Int))) fun s30 =>
  some s30

theorem cf_ref17_Reach (a0 : LanT) (a1 : (List (List Bool))) (a2 : Int) (r : (List Int)) (h : ref17_Reach a0 a1 a2 = some r) : CallF Try.prog 62 [(LV.agg [(I a0.Segs), (LV.ro 2 (a0.Plans.map PlanT.cells)), (LV.ro 2 (a0.Hosts.map HostT.cells))]), (LV.ro 1 (a1.map (roC 1 bC))), (I a2)] 3 1 (r.map iC) := by
  unfold ref17_Reach at h
  refine CallF.of (NLss_map' _) (CallW.intro TT_ok Try.func62 rfl rfl [0, 1, 2, 3, 6, 7, 8, 9, 14, 15, 16, 17, 22] rfl ?_)
  conv => whnf
  replace h := bindS h
  obtain ⟨y3, hy3, h⟩ := h
  have c4 := cf_ref17_Steps a0 a1 a2 _ hy3
  repeat' first | with_reducible rfl | with_reducible exact True.intro | with_reducible assumption | refine parkI ?_ | (refine CallW.done (CallF.at c4 nlA (NLss_map' _)) ?_; conv => whnf) | (refine ⟨_, _, CallF.at c4 nlA (NLss_map' _), ?_⟩; conv => whnf) | (refine And.intro ?_ ?_ <;> conv => whnf) | fail
  replace h := aftS h
  obtain ⟨O30, hO30, r30⟩ := h
  refine LoopW.norm [(7, (LV.sl 1 0 (([] : (List Int)).map iC).length)), (14, (LV.sl 2 0 (y3.map iC).length)), (15, (I (((y3.map iC).length : Nat) : Int))), (16, (I ((0 : Nat) : Int)))] 3 [(1, (.row 3 1 (([] : (List Int)).map iC))), (2, (.row 3 1 (y3.map iC)))] ⟨(by exact congrArg (LV.sl 1 0) (clL _ : 0 = (([] : (List Int)).map iC).length)), rfl, rfl, rfl, trivial⟩ ⟨⟨(congrArg (fun q => some (Blk.row 3 1 q)) (smT : (([] : List (List LV)) : List (List LV)) = (([] : (List Int)).map iC))), rfl, NLss_bel (NLss_map' _)⟩, ⟨⟨rfl, rfl, NLss_bel (NLss_map' _)⟩, trivial⟩⟩ blT rfl ?_
  refine LoopW.forN (fun k30 s30 => [(7, (LV.sl 1 0 (s30.map iC).length)), (14, (LV.sl 2 0 (y3.map iC).length)), (15, (I (((y3.map iC).length : Nat) : Int))), (16, (I ((k30 : Nat) : Int)))]) (fun s30 => ⟨3, [(1, (.row 3 1 (s30.map iC))), (2, (.row 3 1 (y3.map iC)))]⟩) hO30 (fun hl30 s30 hs30 => ?_) (fun hl30 k30 s30 o30 hk30 b30 K30 hret30 hbrk30 => ?_)
  · rw [hs30] at r30
    dsimp only [aftM] at r30
    have hd : decide ((((((y3.length : Nat) : Int) : Int).toNat : Nat) : Int) < (((y3.map iC).length : Nat) : Int)) = false := by rw [decide_eq_false_iff_not]; (try simp only [se_len, se_ch, List.length_map]); omega
    refine LoopW.round TT_ok [0, 1, 2, 3, 6, 7, 8, 9, 14, 15, 16, 17, 22] ?_
    conv => whnf
    repeat' first | with_reducible rfl | with_reducible exact True.intro | with_reducible assumption | refine parkI ?_ | (refine And.intro ?_ ?_ <;> conv => whnf) | fail
    refine parkE (fun hc => ?_) (fun hc => ?_)
    · exact (Bool.false_ne_true (hd.symm.trans hc)).elim
    · clear hd
      conv => whnf
      have e := Option.some.inj r30
      subst e
      repeat' first | with_reducible rfl | with_reducible exact True.intro | with_reducible assumption | exact Or.inr ⟨_, rfl, congrArg (fun q => some (Blk.row 3 1 q)) rfl⟩ | exact clA _ | (refine And.intro ?_ ?_ <;> conv => whnf) | exact clG _ | (refine gand ?_ h; assumption) | exact clN _ | fail
  · unfold ref17_Reach_c0 at b30
    have hd : decide (((k30 : Nat) : Int) < (((y3.map iC).length : Nat) : Int)) = true := by rw [decide_eq_true_eq]; (try simp only [se_len, se_ch, List.length_map] at hk30); (try simp only [se_len, se_ch, List.length_map]); omega
    refine LoopW.round TT_ok [0, 1, 2, 3, 6, 7, 8, 9, 14, 15, 16, 17, 22] ?_
    conv => whnf
    repeat' first | with_reducible rfl | with_reducible exact True.intro | with_reducible assumption | refine parkI ?_ | (refine And.intro ?_ ?_ <;> conv => whnf) | fail
    refine parkE (fun hc => ?_) (fun hc => ?_)
    · clear hd
      conv => whnf
      replace b30 := grdS b30
      obtain ⟨g5, b30⟩ := b30
      replace g5 : (0 : Int) ≤ ((k30 : Nat) : Int) ∧ ((k30 : Nat) : Int) < (((y3.map iC).length : Nat) : Int) := by simpa only [se_len, se_ch, List.length_map] using g5
      replace b30 := bindS b30
      obtain ⟨v6, hv6, b30⟩ := b30
      have i7 : nth (y3.map iC) (0 + ((((k30 : Nat) : Int) : Int).toNat)) = some [(I v6)] := by simpa only [se_map, se_len, se_ch, List.length_map, nth_eq, Nat.zero_add, List.getElem?_map] using gixNF (f := iC) hv6
      repeat' first | with_reducible rfl | with_reducible exact True.intro | with_reducible assumption | refine parkI ?_ | exact g5 | (rw [i7]; conv => whnf) | (refine And.intro ?_ ?_ <;> conv => whnf) | fail
      refine parkE (fun hc => ?_) (fun hc => ?_)
      · replace b30 := condT hc b30
        conv => whnf
        replace b30 := grdS b30
        obtain ⟨g8, b30⟩ := b30
        replace g8 : fits (((s30.map iC) ++ [[(I ((k30 : Nat) : Int))]])).length 8 := by simpa only [se_len, se_ch, List.length_map] using g8
        repeat' first | with_reducible rfl | with_reducible exact True.intro | with_reducible assumption | refine parkI ?_ | exact g8 | exact clA _ | (refine And.intro ?_ ?_ <;> conv => whnf) | exact clN _ | fail
        have e := Option.some.inj b30
        refine LoopW.ren [(4, 1), (2, 2)] [(7, (LV.sl 1 0 ((s30 ++ ([((k30 : Nat) : Int)] : (List Int))).map iC).length)), (14, (LV.sl 2 0 (y3.map iC).length)), (15, (I (((y3.map iC).length : Nat) : Int))), (16, (I ((k30 + 1 : Nat) : Int)))] 3 [(1, (.row 3 1 ((s30 ++ ([((k30 : Nat) : Int)] : (List Int))).map iC))), (2, (.row 3 1 (y3.map iC)))] rfl ⟨(by exact congrArg (LV.sl 1 0) (clL _ : (((s30.map iC) ++ [[(I ((k30 : Nat) : Int))]])).length = ((s30 ++ ([((k30 : Nat) : Int)] : (List Int))).map iC).length)), rfl, rfl, (congrArg (LV.int .i64) (w64_nat _ (by omega))), trivial⟩ ⟨⟨rfl, rfl, .inl ⟨(smT : (((s30.map iC) ++ [[(I ((k30 : Nat) : Int))]]) : List (List LV)) = ((s30 ++ ([((k30 : Nat) : Int)] : (List Int))).map iC)), nlT⟩⟩, rfl, rfl, ⟨⟨rfl, rfl, .inl ⟨rfl, nlT⟩⟩, rfl, rfl, trivial⟩⟩ rfl (K30 _ e.symm)
      · replace b30 := condF hc b30
        conv => whnf
        repeat' first | with_reducible rfl | with_reducible exact True.intro | with_reducible assumption | refine parkI ?_ | (refine And.intro ?_ ?_ <;> conv => whnf) | fail
        have e := Option.some.inj b30
        refine LoopW.norm [(7, (LV.sl 1 0 (s30.map iC).length)), (14, (LV.sl 2 0 (y3.map iC).length)), (15, (I (((y3.map iC).length : Nat) : Int))), (16, (I ((k30 + 1 : Nat) : Int)))] 3 [(1, (.row 3 1 (s30.map iC))), (2, (.row 3 1 (y3.map iC)))] ⟨rfl, rfl, rfl, (congrArg (LV.int .i64) (w64_nat _ (by omega))), trivial⟩ ⟨⟨rfl, rfl, NLss_bel (NLss_map' _)⟩, ⟨⟨rfl, rfl, NLss_bel (NLss_map' _)⟩, trivial⟩⟩ blT rfl (K30 _ e.symm)
    · exact (Bool.false_ne_true (hc.symm.trans hd)).elim

theorem c_ref17_Reach (a0 : LanT) (a1 : (List (List Bool))) (a2 : Int) (r : (List Int)) (h : ref17_Reach a0 a1 a2 = some r) : CallP Try.prog 62 [(LV.agg [(I a0.Segs), (LV.ro 2 (a0.Plans.map PlanT.cells)), (LV.ro 2 (a0.Hosts.map HostT.cells))]), (LV.ro 1 (a1.map (roC 1 bC))), (I a2)] (LV.ro 1 (r.map iC)) := by
  exact CallF.toP (cf_ref17_Reach a0 a1 a2 r h) nlA (NLss_map' _)

def ref06_Has_c0 (a1 : Int) (k31 : Nat) (x31 : Int) (s31 : Unit) : Option (Step Bool Unit) :=
  (bif (decide (x31 = a1)) then
    some (.ret true)
  else
    some (.nxt ()))

def ref06_Has (a0 : (List Int)) (a1 : Int) : Option Bool :=
  aft (rangeL (ref06_Has_c0 a1) a0 ()) fun s31 =>
  some false

theorem c_ref06_Has (a0 : (List Int)) (a1 : Int) (r : Bool) (h : ref06_Has a0 a1 = some r) : CallP Try.prog 61 [(LV.ro 1 (a0.map iC)), (I a1)] (LV.bool r) := by
  unfold ref06_Has at h
  refine .intro nlA (.intro TT_ok Try.func61 rfl rfl [0, 1, 4, 6, 7, 8, 9, 10, 15] rfl ?_)
  conv => whnf
  repeat' first | with_reducible rfl | with_reducible exact True.intro | with_reducible assumption | refine parkI ?_ | (refine And.intro ?_ ?_ <;> conv => whnf) | fail
  replace h := aftS h
  obtain ⟨O31, hO31, r31⟩ := h
  refine LoopW.norm [(1, (I a1)), (7, (LV.ro 1 (a0.map iC))), (8, (I (((a0.map iC).length : Nat) : Int))), (9, (I ((0 : Nat) : Int)))] 0 [] ⟨rfl, rfl, rfl, rfl, trivial⟩ trivial blT rfl ?_
  refine LoopW.forR (fun k31 s31 => [(1, (I a1)), (7, (LV.ro 1 (a0.map iC))), (8, (I (((a0.map iC).length : Nat) : Int))), (9, (I ((k31 : Nat) : Int)))]) (fun s31 => ⟨0, []⟩) hO31 (fun hl31 s31 hs31 => ?_) (fun hl31 k31 x31 s31 o31 hk31 hx31 b31 K31 hret31 hbrk31 => ?_)
  · rw [hs31] at r31
    dsimp only [aftM] at r31
    have hd : decide (((a0.length : Nat) : Int) < (((a0.map iC).length : Nat) : Int)) = false := by rw [decide_eq_false_iff_not]; (try simp only [se_len, se_ch, List.length_map]); omega
    refine LoopW.round TT_ok [0, 1, 4, 6, 7, 8, 9, 10, 15] ?_
    conv => whnf
    repeat' first | with_reducible rfl | with_reducible exact True.intro | with_reducible assumption | refine parkI ?_ | (refine And.intro ?_ ?_ <;> conv => whnf) | fail
    refine parkE (fun hc => ?_) (fun hc => ?_)
    · exact (Bool.false_ne_true (hd.symm.trans hc)).elim
    · clear hd
      conv => whnf
      have e := Option.some.inj r31
      subst e
      repeat' first | with_reducible rfl | with_reducible exact True.intro | with_reducible assumption | exact clA _ | (refine And.intro ?_ ?_ <;> conv => whnf) | exact clG _ | (refine gand ?_ h; assumption) | exact clN _ | fail
  · unfold ref06_Has_c0 at b31
    have hd : decide (((k31 : Nat) : Int) < (((a0.map iC).length : Nat) : Int)) = true := by rw [decide_eq_true_eq]; (try simp only [se_len, se_ch, List.length_map] at hk31); (try simp only [se_len, se_ch, List.length_map]); omega
    refine LoopW.round TT_ok [0, 1, 4, 6, 7, 8, 9, 10, 15] ?_
    conv => whnf
    repeat' first | with_reducible rfl | with_reducible exact True.intro | with_reducible assumption | refine parkI ?_ | (refine And.intro ?_ ?_ <;> conv => whnf) | fail
    refine parkE (fun hc => ?_) (fun hc => ?_)
    · clear hd
      conv => whnf
      repeat' first | with_reducible rfl | with_reducible exact True.intro | with_reducible assumption | refine parkI ?_ | (refine ⟨_, (kixF (f := iC) hx31), ?_⟩; conv => whnf) | (refine And.intro ?_ ?_ <;> conv => whnf) | fail
      refine parkE (fun hc => ?_) (fun hc => ?_)
      · replace b31 := condT hc b31
        conv => whnf
        have e := Option.some.inj b31
        replace e := hret31 _ e.symm
        rw [e] at r31
        replace e := Option.some.inj r31
        subst e
        repeat' first | with_reducible rfl | with_reducible exact True.intro | with_reducible assumption | exact clA _ | (refine And.intro ?_ ?_ <;> conv => whnf) | exact clG _ | (refine gand ?_ h; assumption) | exact clN _ | fail
      · replace b31 := condF hc b31
        conv => whnf
        repeat' first | with_reducible rfl | with_reducible exact True.intro | with_reducible assumption | refine parkI ?_ | (refine And.intro ?_ ?_ <;> conv => whnf) | fail
        have e := Option.some.inj b31
        refine LoopW.norm [(1, (I a1)), (7, (LV.ro 1 (a0.map iC))), (8, (I (((a0.map iC).length : Nat) : Int))), (9, (I ((k31 + 1 : Nat) : Int)))] 0 [] ⟨rfl, rfl, rfl, (congrArg (LV.int .i64) (w64_nat _ (by omega))), trivial⟩ trivial blT rfl (K31 _ e.symm)
    · exact (Bool.false_ne_true (hc.symm.trans hd)).elim

def ref20_Stray_c0 (a0 : LanT) (a1 : (List (List Bool))) (a2 : (List CopyT)) (k28 : Nat) (x28 : CopyT) (s28 : Unit) : Option (Step Int Unit) :=
  (ref20_first a2 x28.Raw).bind fun y1 =>
  (ref17_Reach a0 a1 y1).bind fun y3 =>
  (ref06_Has y3 x28.Seg).bind fun y5 =>
  (bif (!y5) then
    some (.ret ((k28 : Nat) : Int))
  else
    some (.nxt ()))

def ref20_Stray (a0 : LanT) (a1 : (List (List Bool))) (a2 : (List CopyT)) : Option Int :=
  aft (rangeL (ref20_Stray_c0 a0 a1 a2) a2 ()) fun s28 =>
  some (-1)

theorem c_ref20_Stray (a0 : LanT) (a1 : (List (List Bool))) (a2 : (List CopyT)) (r : Int) (h : ref20_Stray a0 a1 a2 = some r) : CallP Try.prog 35 [(LV.agg [(I a0.Segs), (LV.ro 2 (a0.Plans.map PlanT.cells)), (LV.ro 2 (a0.Hosts.map HostT.cells))]), (LV.ro 1 (a1.map (roC 1 bC))), (LV.ro 5 (a2.map CopyT.cells))] (I r) := by
  unfold ref20_Stray at h
  refine .intro nlA (.intro TT_ok Try.func35 rfl rfl [0, 1, 2, 3, 6, 7, 8, 9, 10, 11, 12, 26] rfl ?_)
  conv => whnf
  repeat' first | with_reducible rfl | with_reducible exact True.intro | with_reducible assumption | refine parkI ?_ | (refine W.drawn TT_ok hmix1 rfl ?_; conv => whnf) | exact clA _ | (refine And.intro ?_ ?_ <;> conv => whnf) | exact clG _ | (refine gand ?_ h; assumption) | exact clN _ | fail
  replace h := aftS h
  obtain ⟨O28, hO28, r28⟩ := h
  refine LoopW.norm [(1, (LV.ro 1 (a1.map (roC 1 bC)))), (2, (LV.ro 5 (a2.map CopyT.cells))), (3, (LV.ptr 0 0 0)), (9, (LV.ro 5 (a2.map CopyT.cells))), (10, (I (((a2.map CopyT.cells).length : Nat) : Int))), (11, (I ((0 : Nat) : Int)))] 1 [(0, (.row 47 3 [[(I a0.Segs), (LV.ro 2 (a0.Plans.map PlanT.cells)), (LV.ro 2 (a0.Hosts.map HostT.cells))]]))] ⟨rfl, rfl, rfl, rfl, rfl, rfl, trivial⟩ ⟨⟨rfl, rfl, blT⟩, trivial⟩ blT rfl ?_
  refine LoopW.forR (fun k28 s28 => [(1, (LV.ro 1 (a1.map (roC 1 bC)))), (2, (LV.ro 5 (a2.map CopyT.cells))), (3, (LV.ptr 0 0 0)), (9, (LV.ro 5 (a2.map CopyT.cells))), (10, (I (((a2.map CopyT.cells).length : Nat) : Int))), (11, (I ((k28 : Nat) : Int)))]) (fun s28 => ⟨1, [(0, (.row 47 3 [[(I a0.Segs), (LV.ro 2 (a0.Plans.map PlanT.cells)), (LV.ro 2 (a0.Hosts.map HostT.cells))]]))]⟩) hO28 (fun hl28 s28 hs28 => ?_) (fun hl28 k28 x28 s28 o28 hk28 hx28 b28 K28 hret28 hbrk28 => ?_)
  · rw [hs28] at r28
    dsimp only [aftM] at r28
    have hd : decide (((a2.length : Nat) : Int) < (((a2.map CopyT.cells).length : Nat) : Int)) = false := by rw [decide_eq_false_iff_not]; (try simp only [se_len, se_ch, List.length_map]); omega
    refine LoopW.round TT_ok [0, 1, 2, 3, 6, 7, 8, 9, 10, 11, 12, 26] ?_
    conv => whnf
    repeat' first | with_reducible rfl | with_reducible exact True.intro | with_reducible assumption | refine parkI ?_ | (refine W.drawn TT_ok hmix1 rfl ?_; conv => whnf) | exact clA _ | (refine And.intro ?_ ?_ <;> conv => whnf) | exact clG _ | (refine gand ?_ h; assumption) | exact clN _ | fail
    refine parkE (fun hc => ?_) (fun hc => ?_)
    · exact (Bool.false_ne_true (hd.symm.trans hc)).elim
    · clear hd
      conv => whnf
      have e := Option.some.inj r28
      subst e
      repeat' first | with_reducible rfl | with_reducible exact True.intro | with_reducible assumption | (refine W.drawn TT_ok hmix1 rfl ?_; conv => whnf) | exact clA _ | (refine And.intro ?_ ?_ <;> conv => whnf) | exact clG _ | (refine gand ?_ h; assumption) | exact clN _ | fail
  · unfold ref20_Stray_c0 at b28
    have hd : decide (((k28 : Nat) : Int) < (((a2.map CopyT.cells).length : Nat) : Int)) = true := by rw [decide_eq_true_eq]; (try simp only [se_len, se_ch, List.length_map] at hk28); (try simp only [se_len, se_ch, List.length_map]); omega
    refine LoopW.round TT_ok [0, 1, 2, 3, 6, 7, 8, 9, 10, 11, 12, 26] ?_
    conv => whnf
    repeat' first | with_reducible rfl | with_reducible exact True.intro | with_reducible assumption | refine parkI ?_ | (refine W.drawn TT_ok hmix1 rfl ?_; conv => whnf) | exact clA _ | (refine And.intro ?_ ?_ <;> conv => whnf) | exact clG _ | (refine gand ?_ h; assumption) | exact clN _ | fail
    refine parkE (fun hc => ?_) (fun hc => ?_)
    · clear hd
      conv => whnf
      replace b28 := bindS b28
      obtain ⟨y1, hy1, b28⟩ := b28
      have c2 := c_ref20_first a2 x28.Raw _ hy1
      replace b28 := bindS b28
      obtain ⟨y3, hy3, b28⟩ := b28
      have c4 := c_ref17_Reach a0 a1 y1 _ hy3
      replace b28 := bindS b28
      obtain ⟨y5, hy5, b28⟩ := b28
      have c6 := c_ref06_Has y3 x28.Seg _ hy5
      repeat' first | with_reducible rfl | with_reducible exact True.intro | with_reducible assumption | refine parkI ?_ | (refine ⟨_, (kixF (f := CopyT.cells) hx28), ?_⟩; conv => whnf) | (refine CallP.use c2 ?_; conv => whnf) | (refine ⟨_, _, CallP.at c2, ?_⟩; conv => whnf) | (refine ⟨_, fun _ => c2, ?_⟩; conv => whnf) | (refine CallP.use c4 ?_; conv => whnf) | (refine ⟨_, _, CallP.at c4, ?_⟩; conv => whnf) | (refine ⟨_, fun _ => c4, ?_⟩; conv => whnf) | (refine CallP.use c6 ?_; conv => whnf) | (refine ⟨_, _, CallP.at c6, ?_⟩; conv => whnf) | (refine ⟨_, fun _ => c6, ?_⟩; conv => whnf) | (refine W.drawn TT_ok hmix1 rfl ?_; conv => whnf) | exact clA _ | (refine And.intro ?_ ?_ <;> conv => whnf) | exact clG _ | (refine gand ?_ h; assumption) | exact clN _ | fail
      refine parkE (fun hc => ?_) (fun hc => ?_)
      · replace b28 := condT hc b28
        conv => whnf
        have e := Option.some.inj b28
        replace e := hret28 _ e.symm
        rw [e] at r28
        replace e := Option.some.inj r28
        subst e
        repeat' first | with_reducible rfl | with_reducible exact True.intro | with_reducible assumption | (refine W.drawn TT_ok hmix1 rfl ?_; conv => whnf) | exact clA _ | (refine And.intro ?_ ?_ <;> conv => whnf) | exact clG _ | (refine gand ?_ h; assumption) | exact clN _ | fail
      · replace b28 := condF hc b28
        conv => whnf
        repeat' first | with_reducible rfl | with_reducible exact True.intro | with_reducible assumption | refine parkI ?_ | (refine W.drawn TT_ok hmix1 rfl ?_; conv => whnf) | exact clA _ | (refine And.intro ?_ ?_ <;> conv => whnf) | exact clG _ | (refine gand ?_ h; assumption) | exact clN _ | fail
        have e := Option.some.inj b28
        refine LoopW.norm [(1, (LV.ro 1 (a1.map (roC 1 bC)))), (2, (LV.ro 5 (a2.map CopyT.cells))), (3, (LV.ptr 0 0 0)), (9, (LV.ro 5 (a2.map CopyT.cells))), (10, (I (((a2.map CopyT.cells).length : Nat) : Int))), (11, (I ((k28 + 1 : Nat) : Int)))] 1 [(0, (.row 47 3 [[(I a0.Segs), (LV.ro 2 (a0.Plans.map PlanT.cells)), (LV.ro 2 (a0.Hosts.map HostT.cells))]]))] ⟨rfl, rfl, rfl, rfl, rfl, (congrArg (LV.int .i64) (w64_nat _ (by omega))), trivial⟩ ⟨⟨rfl, rfl, blT⟩, trivial⟩ blT rfl (K28 _ e.symm)
    · exact (Bool.false_ne_true (hc.symm.trans hd)).elim

end Go.RX
