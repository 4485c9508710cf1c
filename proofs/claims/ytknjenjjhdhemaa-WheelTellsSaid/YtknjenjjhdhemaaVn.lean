/- Plain functions, and what says that the program's functions compute them. -/
import Derived.Test.YtknjenjjhdhemaaVm
set_option linter.unusedVariables false
set_option linter.unusedSimpArgs false
open Go Go.RX Go.Proofs
namespace Go.RX
set_option maxRecDepth 10000
set_option maxHeartbeats 4000000
attribute [local irreducible] CallW CallP LoopW W IntKind.wrap bitI
def ref05_May (a0 : TimerT) : Option Bool :=
  some (bif (bif (decide (0 ≤ a0.ID)) then (decide (0 ≤ a0.At)) else false) then (decide (a0.At ≤ 1099511627776)) else false)

theorem c_ref05_May (a0 : TimerT) (r : Bool) (h : ref05_May a0 = some r) : CallP Try.prog 18 [(LV.agg [(I a0.ID), (I a0.At)])] (LV.bool r) := by
  unfold ref05_May at h
  refine .intro nlA (.intro TT_ok Try.func18 rfl rfl [0, 1, 2] rfl ?_)
  conv => whnf
  have e := Option.some.inj h
  subst e
  repeat' first | with_reducible rfl | with_reducible exact True.intro | with_reducible assumption | exact clA _ | (refine And.intro ?_ ?_ <;> conv => whnf) | exact clG _ | (refine gand ?_ h; assumption) | exact clN _ | fail

def ref05_Place_c0 (a1 : Int) (k9 : Nat) (x9 : TimerT) (s9 : Unit) : Option (Step Int Unit) :=
  (bif (decide (x9.ID = a1)) then
    some (.ret ((k9 : Nat) : Int))
  else
    some (.nxt ()))

def ref05_Place (a0 : (List TimerT)) (a1 : Int) : Option Int :=
  aft (rangeL (ref05_Place_c0 a1) a0 ()) fun s9 =>
  some (-1)

theorem c_ref05_Place (a0 : (List TimerT)) (a1 : Int) (r : Int) (h : ref05_Place a0 a1 = some r) : CallP Try.prog 19 [(LV.ro 2 (a0.map TimerT.cells)), (I a1)] (I r) := by
  unfold ref05_Place at h
  refine .intro nlA (.intro TT_ok Try.func19 rfl rfl [0, 1, 4, 5, 6, 7, 8, 9, 10, 17] rfl ?_)
  conv => whnf
  repeat' first | with_reducible rfl | with_reducible exact True.intro | with_reducible assumption | refine parkI ?_ | (refine And.intro ?_ ?_ <;> conv => whnf) | fail
  replace h := aftS h
  obtain ⟨O9, hO9, r9⟩ := h
  refine LoopW.norm [(1, (I a1)), (7, (LV.ro 2 (a0.map TimerT.cells))), (8, (I (((a0.map TimerT.cells).length : Nat) : Int))), (9, (I ((0 : Nat) : Int)))] 0 [] ⟨rfl, rfl, rfl, rfl, trivial⟩ trivial blT rfl ?_
  refine LoopW.forR (fun k9 s9 => [(1, (I a1)), (7, (LV.ro 2 (a0.map TimerT.cells))), (8, (I (((a0.map TimerT.cells).length : Nat) : Int))), (9, (I ((k9 : Nat) : Int)))]) (fun s9 => ⟨0, []⟩) hO9 (fun hl9 s9 hs9 => ?_) (fun hl9 k9 x9 s9 o9 hk9 hx9 b9 K9 hret9 hbrk9 => ?_)
  · rw [hs9] at r9
    dsimp only [aftM] at r9
    have hd : decide (((a0.length : Nat) : Int) < (((a0.map TimerT.cells).length : Nat) : Int)) = false := by rw [decide_eq_false_iff_not]; (try simp only [se_len, se_ch, List.length_map]); omega
    refine LoopW.round TT_ok [0, 1, 4, 5, 6, 7, 8, 9, 10, 17] ?_
    conv => whnf
    repeat' first | with_reducible rfl | with_reducible exact True.intro | with_reducible assumption | refine parkI ?_ | (refine And.intro ?_ ?_ <;> conv => whnf) | fail
    refine parkE (fun hc => ?_) (fun hc => ?_)
    · exact (Bool.false_ne_true (hd.symm.trans hc)).elim
    · clear hd
      conv => whnf
      have e := Option.some.inj r9
      subst e
      repeat' first | with_reducible rfl | with_reducible exact True.intro | with_reducible assumption | exact clA _ | (refine And.intro ?_ ?_ <;> conv => whnf) | exact clG _ | (refine gand ?_ h; assumption) | exact clN _ | fail
  · unfold ref05_Place_c0 at b9
    have hd : decide (((k9 : Nat) : Int) < (((a0.map TimerT.cells).length : Nat) : Int)) = true := by rw [decide_eq_true_eq]; (try simp only [se_len, se_ch, List.length_map] at hk9); (try simp only [se_len, se_ch, List.length_map]); omega
    refine LoopW.round TT_ok [0, 1, 4, 5, 6, 7, 8, 9, 10, 17] ?_
    conv => whnf
    repeat' first | with_reducible rfl | with_reducible exact True.intro | with_reducible assumption | refine parkI ?_ | (refine And.intro ?_ ?_ <;> conv => whnf) | fail
    refine parkE (fun hc => ?_) (fun hc => ?_)
    · clear hd
      conv => whnf
      repeat' first | with_reducible rfl | with_reducible exact True.intro | with_reducible assumption | refine parkI ?_ | (refine ⟨_, (kixF (f := TimerT.cells) hx9), ?_⟩; conv => whnf) | (refine And.intro ?_ ?_ <;> conv => whnf) | fail
      refine parkE (fun hc => ?_) (fun hc => ?_)
      · replace b9 := condT hc b9
        conv => whnf
        have e := Option.some.inj b9
        replace e := hret9 _ e.symm
        rw [e] at r9
        replace e := Option.some.inj r9
        subst e
        repeat' first | with_reducible rfl | with_reducible exact True.intro | with_reducible assumption | exact clA _ | (refine And.intro ?_ ?_ <;> conv => whnf) | exact clG _ | (refine gand ?_ h; assumption) | exact clN _ | fail
      · replace b9 := condF hc b9
        conv => whnf
        repeat' first | with_reducible rfl | with_reducible exact True.intro | with_reducible assumption | refine parkI ?_ | (refine And.intro ?_ ?_ <;> conv => whnf) | fail
        have e := Option.some.inj b9
        refine LoopW.norm [(1, (I a1)), (7, (LV.ro 2 (a0.map TimerT.cells))), (8, (I (((a0.map TimerT.cells).length : Nat) : Int))), (9, (I ((k9 + 1 : Nat) : Int)))] 0 [] ⟨rfl, rfl, rfl, (congrArg (LV.int .i64) (w64_nat _ (by omega))), trivial⟩ trivial blT rfl (K9 _ e.symm)
    · exact (Bool.false_ne_true (hc.symm.trans hd)).elim

def ref05_ahead (a0 : TimerT) (a1 : TimerT) : Option Bool :=
  some (bif (decide (a0.At < a1.At)) then true else (bif (decide (a0.At = a1.At)) then (decide (a0.ID < a1.ID)) else false))

theorem c_ref05_ahead (a0 : TimerT) (a1 : TimerT) (r : Bool) (h : ref05_ahead a0 a1 = some r) : CallP Try.prog 53 [(LV.agg [(I a0.ID), (I a0.At)]), (LV.agg [(I a1.ID), (I a1.At)])] (LV.bool r) := by
  unfold ref05_ahead at h
  refine .intro nlA (.intro TT_ok Try.func53 rfl rfl [0, 1, 2, 3, 4] rfl ?_)
  conv => whnf
  have e := Option.some.inj h
  subst e
  repeat' first | with_reducible rfl | with_reducible exact True.intro | with_reducible assumption | exact clA _ | (refine And.intro ?_ ?_ <;> conv => whnf) | exact clG _ | (refine gand ?_ h; assumption) | exact clN _ | fail

def ref05_Right_c0 (a0 : (List TimerT)) (k8 : Nat) (x8 : TimerT) (s8 : Unit) : Option (Step Bool Unit) :=
  (ref05_May x8).bind fun y11 =>
  grd (((!(!y11)) = true → (0 : Int) ≤ ((k8 : Nat) : Int) ∧ ((k8 : Nat) : Int) ≤ ((a0.length : Nat) : Int))) <|
  (gd (!(!y11)) (ref05_Place (a0.take (((k8 : Nat) : Int) : Int).toNat) x8.ID)).bind fun y14 =>
  (gd (bif (!(bif (!y11) then true else (decide (0 ≤ y14)))) then (decide (0 < ((k8 : Nat) : Int))) else false) (gix a0 (IntKind.i64.wrap (((k8 : Nat) : Int) - 1)))).bind fun v16 =>
  (gd (bif (!(bif (!y11) then true else (decide (0 ≤ y14)))) then (decide (0 < ((k8 : Nat) : Int))) else false) (ref05_ahead v16 x8)).bind fun y18 =>
  (bif (bif (bif (!y11) then true else (decide (0 ≤ y14))) then true else (bif (decide (0 < ((k8 : Nat) : Int))) then (!y18) else false)) then
    some (.ret false)
  else
    some (.nxt ()))

def ref05_Right (a0 : (List TimerT)) : Option Bool :=
  aft (rangeL (ref05_Right_c0 a0) a0 ()) fun s8 =>
  some (decide (((a0.length : Nat) : Int) ≤ 64))

theorem c_ref05_Right (a0 : (List TimerT)) (r : Bool) (h : ref05_Right a0 = some r) : CallP Try.prog 16 [(LV.ro 2 (a0.map TimerT.cells))] (LV.bool r) := by
  unfold ref05_Right at h
  refine .intro nlA (.intro TT_ok Try.func16 rfl rfl [0, 2, 3, 4, 5, 6, 7, 8, 37] rfl ?_)
  conv => whnf
  repeat' first | with_reducible rfl | with_reducible exact True.intro | with_reducible assumption | refine parkI ?_ | (refine W.drawn TT_ok hmix1 rfl ?_; conv => whnf) | exact clA _ | (refine And.intro ?_ ?_ <;> conv => whnf) | exact clG _ | (refine gand ?_ h; assumption) | exact clN _ | fail
  replace h := aftS h
  obtain ⟨O8, hO8, r8⟩ := h
  refine LoopW.norm [(0, (LV.ro 2 (a0.map TimerT.cells))), (5, (LV.ro 2 (a0.map TimerT.cells))), (6, (I (((a0.map TimerT.cells).length : Nat) : Int))), (7, (I ((0 : Nat) : Int)))] 0 [] ⟨rfl, rfl, rfl, rfl, trivial⟩ trivial blT rfl ?_
  refine LoopW.forR (fun k8 s8 => [(0, (LV.ro 2 (a0.map TimerT.cells))), (5, (LV.ro 2 (a0.map TimerT.cells))), (6, (I (((a0.map TimerT.cells).length : Nat) : Int))), (7, (I ((k8 : Nat) : Int)))]) (fun s8 => ⟨0, []⟩) hO8 (fun hl8 s8 hs8 => ?_) (fun hl8 k8 x8 s8 o8 hk8 hx8 b8 K8 hret8 hbrk8 => ?_)
  · rw [hs8] at r8
    dsimp only [aftM] at r8
    have hd : decide (((a0.length : Nat) : Int) < (((a0.map TimerT.cells).length : Nat) : Int)) = false := by rw [decide_eq_false_iff_not]; (try simp only [se_len, se_ch, List.length_map]); omega
    refine LoopW.round TT_ok [0, 2, 3, 4, 5, 6, 7, 8, 37] ?_
    conv => whnf
    repeat' first | with_reducible rfl | with_reducible exact True.intro | with_reducible assumption | refine parkI ?_ | (refine W.drawn TT_ok hmix1 rfl ?_; conv => whnf) | exact clA _ | (refine And.intro ?_ ?_ <;> conv => whnf) | exact clG _ | (refine gand ?_ h; assumption) | exact clN _ | fail
    refine parkE (fun hc => ?_) (fun hc => ?_)
    · exact (Bool.false_ne_true (hd.symm.trans hc)).elim
    · clear hd
      conv => whnf
      have e := Option.some.inj r8
      subst e
      repeat' first | with_reducible rfl | with_reducible exact True.intro | with_reducible assumption | (refine W.drawn TT_ok hmix1 rfl ?_; conv => whnf) | exact clA _ | (refine And.intro ?_ ?_ <;> conv => whnf) | exact clG _ | (refine gand ?_ h; assumption) | exact clN _ | fail
  · unfold ref05_Right_c0 at b8
    have hd : decide (((k8 : Nat) : Int) < (((a0.map TimerT.cells).length : Nat) : Int)) = true := by rw [decide_eq_true_eq]; (try simp only [se_len, se_ch, List.length_map] at hk8); (try simp only [se_len, se_ch, List.length_map]); omega
    refine LoopW.round TT_ok [0, 2, 3, 4, 5, 6, 7, 8, 37] ?_
    conv => whnf
    repeat' first | with_reducible rfl | with_reducible exact True.intro | with_reducible assumption | refine parkI ?_ | (refine W.drawn TT_ok hmix1 rfl ?_; conv => whnf) | exact clA _ | (refine And.intro ?_ ?_ <;> conv => whnf) | exact clG _ | (refine gand ?_ h; assumption) | exact clN _ | fail
    refine parkE (fun hc => ?_) (fun hc => ?_)
    · clear hd
      conv => whnf
      replace b8 := bindS b8
      obtain ⟨y11, hy11, b8⟩ := b8
      have c12 := c_ref05_May x8 _ hy11
      replace b8 := grdS b8
      obtain ⟨g13, b8⟩ := b8
      replace g13 : ((!(!y11)) = true → (0 : Int) ≤ ((k8 : Nat) : Int) ∧ ((k8 : Nat) : Int) ≤ (((a0.map TimerT.cells).length : Nat) : Int)) := by simpa only [se_len, se_ch, List.length_map] using g13
      replace b8 := bindS b8
      obtain ⟨y14, hy14, b8⟩ := b8
      have c15 : (!(!y11)) = true → CallP Try.prog 19 [(LV.ro 2 ((a0.map TimerT.cells).take (((k8 : Nat) : Int) : Int).toNat)), (I x8.ID)] (I y14) := by first | exact fun (hg : (!(!y11)) = true) => c_ref05_Place (a0.take (((k8 : Nat) : Int) : Int).toNat) x8.ID _ (gdS hg hy14) | (simpa only [se_map, se_byL, se_len, se_ch, List.length_map] using fun (hg : (!(!y11)) = true) => c_ref05_Place (a0.take (((k8 : Nat) : Int) : Int).toNat) x8.ID _ (gdS hg hy14))
      replace b8 := bindS b8
      obtain ⟨v16, hv16, b8⟩ := b8
      have i17 := fun hg => gixF (f := TimerT.cells) (gdS hg hv16)
      replace b8 := bindS b8
      obtain ⟨y18, hy18, b8⟩ := b8
      have c19 := fun (hg : (bif (!(bif (!y11) then true else (decide (0 ≤ y14)))) then (decide (0 < ((k8 : Nat) : Int))) else false) = true) => c_ref05_ahead v16 x8 _ (gdS hg hy18)
      repeat' first | with_reducible rfl | with_reducible exact True.intro | with_reducible assumption | refine parkI ?_ | (refine ⟨_, (kixF (f := TimerT.cells) hx8), ?_⟩; conv => whnf) | (refine ⟨_, c15, ?_⟩; conv => whnf) | (refine ⟨_, i17, ?_⟩; conv => whnf) | (refine ⟨_, c19, ?_⟩; conv => whnf) | exact g13 | (refine CallP.use c12 ?_; conv => whnf) | (refine ⟨_, _, CallP.at c12, ?_⟩; conv => whnf) | (refine ⟨_, fun _ => c12, ?_⟩; conv => whnf) | (refine W.drawn TT_ok hmix1 rfl ?_; conv => whnf) | exact clA _ | (refine And.intro ?_ ?_ <;> conv => whnf) | exact clG _ | (refine gand ?_ h; assumption) | exact clN _ | fail
      refine parkE (fun hc => ?_) (fun hc => ?_)
      · replace b8 := condT hc b8
        conv => whnf
        have e := Option.some.inj b8
        replace e := hret8 _ e.symm
        rw [e] at r8
        replace e := Option.some.inj r8
        subst e
        repeat' first | with_reducible rfl | with_reducible exact True.intro | with_reducible assumption | (refine W.drawn TT_ok hmix1 rfl ?_; conv => whnf) | exact clA _ | (refine And.intro ?_ ?_ <;> conv => whnf) | exact clG _ | (refine gand ?_ h; assumption) | exact clN _ | fail
      · replace b8 := condF hc b8
        conv => whnf
        repeat' first | with_reducible rfl | with_reducible exact True.intro | with_reducible assumption | refine parkI ?_ | (refine W.drawn TT_ok hmix1 rfl ?_; conv => whnf) | exact clA _ | (refine And.intro ?_ ?_ <;> conv => whnf) | exact clG _ | (refine gand ?_ h; assumption) | exact clN _ | fail
        have e := Option.some.inj b8
        refine LoopW.norm [(0, (LV.ro 2 (a0.map TimerT.cells))), (5, (LV.ro 2 (a0.map TimerT.cells))), (6, (I (((a0.map TimerT.cells).length : Nat) : Int))), (7, (I ((k8 + 1 : Nat) : Int)))] 0 [] ⟨rfl, rfl, rfl, (congrArg (LV.int .i64) (w64_nat _ (by omega))), trivial⟩ trivial blT rfl (K8 _ e.symm)
    · exact (Bool.false_ne_true (hc.symm.trans hd)).elim

def ref05_Without_c0 (a1 : Int) (k10 : Nat) (x10 : TimerT) (s10 : (List TimerT)) : Option (Step (List TimerT) (List TimerT)) :=
  (bif (!decide (x10.ID = a1)) then
    grd (fits ((s10 ++ ([x10] : (List TimerT))) : List TimerT).length 16) <|
    some (.nxt (s10 ++ ([x10] : (List TimerT))))
  else
    some (.nxt s10))

def ref05_Without (a0 : (List TimerT)) (a1 : Int) : Option (List TimerT) :=
  aft (rangeL (ref05_Without_c0 a1) a0 ([] : (List TimerT))) fun s10 =>
  some s10

theorem cf_ref05_Without (a0 : (List TimerT)) (a1 : Int) (r : (List TimerT)) (h : ref05_Without a0 a1 = some r) : CallF Try.prog 20 [(LV.ro 2 (a0.map TimerT.cells)), (I a1)] 24 2 (r.map TimerT.cells) := by
  unfold ref05_Without at h
  refine CallF.of (NLss_map' _) (CallW.intro TT_ok Try.func20 rfl rfl [0, 1, 4, 5, 7, 9, 10, 11, 12, 18] rfl ?_)
  conv => whnf
  repeat' first | with_reducible rfl | with_reducible exact True.intro | with_reducible assumption | refine parkI ?_ | (refine And.intro ?_ ?_ <;> conv => whnf) | fail
  replace h := aftS h
  obtain ⟨O10, hO10, r10⟩ := h
  refine LoopW.norm [(1, (I a1)), (5, (LV.sl 0 0 (([] : (List TimerT)).map TimerT.cells).length)), (9, (LV.ro 2 (a0.map TimerT.cells))), (10, (I (((a0.map TimerT.cells).length : Nat) : Int))), (11, (I ((0 : Nat) : Int)))] 1 [(0, (.row 24 2 (([] : (List TimerT)).map TimerT.cells)))] ⟨rfl, (by exact congrArg (LV.sl 0 0) (clL _ : 0 = (([] : (List TimerT)).map TimerT.cells).length)), rfl, rfl, rfl, trivial⟩ ⟨⟨(congrArg (fun q => some (Blk.row 24 2 q)) (smT : (([] : List (List LV)) : List (List LV)) = (([] : (List TimerT)).map TimerT.cells))), rfl, NLss_bel (NLss_map' _)⟩, trivial⟩ blT rfl ?_
  refine LoopW.forR (fun k10 s10 => [(1, (I a1)), (5, (LV.sl 0 0 (s10.map TimerT.cells).length)), (9, (LV.ro 2 (a0.map TimerT.cells))), (10, (I (((a0.map TimerT.cells).length : Nat) : Int))), (11, (I ((k10 : Nat) : Int)))]) (fun s10 => ⟨1, [(0, (.row 24 2 (s10.map TimerT.cells)))]⟩) hO10 (fun hl10 s10 hs10 => ?_) (fun hl10 k10 x10 s10 o10 hk10 hx10 b10 K10 hret10 hbrk10 => ?_)
  · rw [hs10] at r10
    dsimp only [aftM] at r10
    have hd : decide (((a0.length : Nat) : Int) < (((a0.map TimerT.cells).length : Nat) : Int)) = false := by rw [decide_eq_false_iff_not]; (try simp only [se_len, se_ch, List.length_map]); omega
    refine LoopW.round TT_ok [0, 1, 4, 5, 7, 9, 10, 11, 12, 18] ?_
    conv => whnf
    repeat' first | with_reducible rfl | with_reducible exact True.intro | with_reducible assumption | refine parkI ?_ | (refine And.intro ?_ ?_ <;> conv => whnf) | fail
    refine parkE (fun hc => ?_) (fun hc => ?_)
    · exact (Bool.false_ne_true (hd.symm.trans hc)).elim
    · clear hd
      conv => whnf
      have e := Option.some.inj r10
      subst e
      repeat' first | with_reducible rfl | with_reducible exact True.intro | with_reducible assumption | exact Or.inr ⟨_, rfl, congrArg (fun q => some (Blk.row 24 2 q)) rfl⟩ | exact clA _ | (refine And.intro ?_ ?_ <;> conv => whnf) | exact clG _ | (refine gand ?_ h; assumption) | exact clN _ | fail
  · unfold ref05_Without_c0 at b10
    have hd : decide (((k10 : Nat) : Int) < (((a0.map TimerT.cells).length : Nat) : Int)) = true := by rw [decide_eq_true_eq]; (try simp only [se_len, se_ch, List.length_map] at hk10); (try simp only [se_len, se_ch, List.length_map]); omega
    refine LoopW.round TT_ok [0, 1, 4, 5, 7, 9, 10, 11, 12, 18] ?_
    conv => whnf
    repeat' first | with_reducible rfl | with_reducible exact True.intro | with_reducible assumption | refine parkI ?_ | (refine And.intro ?_ ?_ <;> conv => whnf) | fail
    refine parkE (fun hc => ?_) (fun hc => ?_)
    · clear hd
      conv => whnf
      repeat' first | with_reducible rfl | with_reducible exact True.intro | with_reducible assumption | refine parkI ?_ | (refine ⟨_, (kixF (f := TimerT.cells) hx10), ?_⟩; conv => whnf) | (refine And.intro ?_ ?_ <;> conv => whnf) | fail
      refine parkE (fun hc => ?_) (fun hc => ?_)
      · replace b10 := condT hc b10
        conv => whnf
        replace b10 := grdS b10
        obtain ⟨g17, b10⟩ := b10
        replace g17 : fits (((s10.map TimerT.cells) ++ [[(I x10.ID), (I x10.At)]])).length 16 := by simpa only [se_len, se_ch, List.length_map] using g17
        repeat' first | with_reducible rfl | with_reducible exact True.intro | with_reducible assumption | refine parkI ?_ | exact g17 | exact clA _ | (refine And.intro ?_ ?_ <;> conv => whnf) | exact clN _ | fail
        have e := Option.some.inj b10
        refine LoopW.ren [(3, 0)] [(1, (I a1)), (5, (LV.sl 0 0 ((s10 ++ ([x10] : (List TimerT))).map TimerT.cells).length)), (9, (LV.ro 2 (a0.map TimerT.cells))), (10, (I (((a0.map TimerT.cells).length : Nat) : Int))), (11, (I ((k10 + 1 : Nat) : Int)))] 1 [(0, (.row 24 2 ((s10 ++ ([x10] : (List TimerT))).map TimerT.cells)))] rfl ⟨rfl, (by exact congrArg (LV.sl 0 0) (clL _ : (((s10.map TimerT.cells) ++ [[(I x10.ID), (I x10.At)]])).length = ((s10 ++ ([x10] : (List TimerT))).map TimerT.cells).length)), rfl, rfl, (congrArg (LV.int .i64) (w64_nat _ (by omega))), trivial⟩ ⟨⟨rfl, rfl, .inl ⟨(smT : (((s10.map TimerT.cells) ++ [[(I x10.ID), (I x10.At)]]) : List (List LV)) = ((s10 ++ ([x10] : (List TimerT))).map TimerT.cells)), nlT⟩⟩, rfl, rfl, trivial⟩ rfl (K10 _ e.symm)
      · replace b10 := condF hc b10
        conv => whnf
        repeat' first | with_reducible rfl | with_reducible exact True.intro | with_reducible assumption | refine parkI ?_ | (refine And.intro ?_ ?_ <;> conv => whnf) | fail
        have e := Option.some.inj b10
        refine LoopW.norm [(1, (I a1)), (5, (LV.sl 0 0 (s10.map TimerT.cells).length)), (9, (LV.ro 2 (a0.map TimerT.cells))), (10, (I (((a0.map TimerT.cells).length : Nat) : Int))), (11, (I ((k10 + 1 : Nat) : Int)))] 1 [(0, (.row 24 2 (s10.map TimerT.cells)))] ⟨rfl, rfl, rfl, rfl, (congrArg (LV.int .i64) (w64_nat _ (by omega))), trivial⟩ ⟨⟨rfl, rfl, NLss_bel (NLss_map' _)⟩, trivial⟩ blT rfl (K10 _ e.symm)
    · exact (Bool.false_ne_true (hc.symm.trans hd)).elim

theorem c_ref05_Without (a0 : (List TimerT)) (a1 : Int) (r : (List TimerT)) (h : ref05_Without a0 a1 = some r) : CallP Try.prog 20 [(LV.ro 2 (a0.map TimerT.cells)), (I a1)] (LV.ro 2 (r.map TimerT.cells)) := by
  exact CallF.toP (cf_ref05_Without a0 a1 r h) nlA (NLss_map' _)

def ref05_Arm_c0 (a1 : TimerT) (y17 : (List TimerT)) (k10 : Nat) (s10 : ((List TimerT) × Bool)) : Option (Step (List TimerT) ((List TimerT) × Bool)) :=
  grd ((0 : Int) ≤ ((k10 : Nat) : Int) ∧ ((k10 : Nat) : Int) < ((y17.length : Nat) : Int)) <|
  (gixN y17 (((k10 : Nat) : Int) : Int).toNat).bind fun v20 =>
  (gd (!s10.2) (ref05_ahead a1 v20)).bind fun y22 =>
  (bif (bif (!s10.2) then y22 else false) then
    grd (fits ((s10.1 ++ ([a1] : (List TimerT))) : List TimerT).length 16) <|
    grd (fits (((s10.1 ++ ([a1] : (List TimerT))) ++ ([v20] : (List TimerT))) : List TimerT).length 16) <|
    some (.nxt (((s10.1 ++ ([a1] : (List TimerT))) ++ ([v20] : (List TimerT))), true))
  else
    grd (fits ((s10.1 ++ ([v20] : (List TimerT))) : List TimerT).length 16) <|
    some (.nxt ((s10.1 ++ ([v20] : (List TimerT))), s10.2)))

def ref05_Arm (a0 : (List TimerT)) (a1 : TimerT) : Option (List TimerT) :=
  (ref05_Without a0 a1.ID).bind fun y17 =>
  aft (rangeN (ref05_Arm_c0 a1 y17) ((y17.length : Nat) : Int) (([] : (List TimerT)), false)) fun s10 =>
  (bif (!s10.2) then
    grd (fits ((s10.1 ++ ([a1] : (List TimerT))) : List TimerT).length 16) <|
    some (s10.1 ++ ([a1] : (List TimerT)))
  else
    some s10.1)

theorem cf_ref05_Arm (a0 : (List TimerT)) (a1 : TimerT) (r : (List TimerT)) (h : ref05_Arm a0 a1 = some r) : CallF Try.prog 17 [(LV.ro 2 (a0.map TimerT.cells)), (LV.agg [(I a1.ID), (I a1.At)])] 24 2 (r.map TimerT.cells) := by
  unfold ref05_Arm at h
  refine CallF.of (NLss_map' _) (CallW.intro TT_ok Try.func17 rfl rfl [0, 1, 3, 4, 5, 6, 8, 13, 14, 15, 16, 25, 36] rfl ?_)
  conv => whnf
  replace h := bindS h
  obtain ⟨y17, hy17, h⟩ := h
  have c18 := cf_ref05_Without a0 a1.ID _ hy17
  repeat' first | with_reducible rfl | with_reducible exact True.intro | with_reducible assumption | refine parkI ?_ | (refine CallW.done (CallF.at c18 nlA (NLss_map' _)) ?_; conv => whnf) | (refine ⟨_, _, CallF.at c18 nlA (NLss_map' _), ?_⟩; conv => whnf) | (refine And.intro ?_ ?_ <;> conv => whnf) | fail
  replace h := aftS h
  obtain ⟨O10, hO10, r10⟩ := h
  refine LoopW.norm [(3, (LV.ptr 0 0 0)), (5, (LV.sl 1 0 ((([] : (List TimerT)), false).1.map TimerT.cells).length)), (6, (LV.bool (([] : (List TimerT)), false).2)), (13, (LV.sl 2 0 (y17.map TimerT.cells).length)), (14, (I (((y17.map TimerT.cells).length : Nat) : Int))), (15, (I ((0 : Nat) : Int)))] 3 [(0, (.row 24 2 [[(I a1.ID), (I a1.At)]])), (1, (.row 24 2 ((([] : (List TimerT)), false).1.map TimerT.cells))), (2, (.row 24 2 (y17.map TimerT.cells)))] ⟨rfl, (by exact congrArg (LV.sl 1 0) (clL _ : 0 = ((([] : (List TimerT)), false).1.map TimerT.cells).length)), (smT : ((LV.bool false) : LV) = (LV.bool (([] : (List TimerT)), false).2)), rfl, rfl, rfl, trivial⟩ ⟨⟨rfl, rfl, blT⟩, ⟨⟨(congrArg (fun q => some (Blk.row 24 2 q)) (smT : (([] : List (List LV)) : List (List LV)) = ((([] : (List TimerT)), false).1.map TimerT.cells))), rfl, NLss_bel (NLss_map' _)⟩, ⟨⟨rfl, rfl, NLss_bel (NLss_map' _)⟩, trivial⟩⟩⟩ blT rfl ?_
  refine LoopW.forN (fun k10 s10 => [(3, (LV.ptr 0 0 0)), (5, (LV.sl 1 0 (s10.1.map TimerT.cells).length)), (6, (LV.bool s10.2)), (13, (LV.sl 2 0 (y17.map TimerT.cells).length)), (14, (I (((y17.map TimerT.cells).length : Nat) : Int))), (15, (I ((k10 : Nat) : Int)))]) (fun s10 => ⟨3, [(0, (.row 24 2 [[(I a1.ID), (I a1.At)]])), (1, (.row 24 2 (s10.1.map TimerT.cells))), (2, (.row 24 2 (y17.map TimerT.cells)))]⟩) hO10 (fun hl10 s10 hs10 => ?_) (fun hl10 k10 s10 o10 hk10 b10 K10 hret10 hbrk10 => ?_)
  · rw [hs10] at r10
    dsimp only [aftM] at r10
    have hd : decide ((((((y17.length : Nat) : Int) : Int).toNat : Nat) : Int) < (((y17.map TimerT.cells).length : Nat) : Int)) = false := by rw [decide_eq_false_iff_not]; (try simp only [se_len, se_ch, List.length_map]); omega
    refine LoopW.round TT_ok [0, 1, 3, 4, 5, 6, 8, 13, 14, 15, 16, 25, 36] ?_
    conv => whnf
    repeat' first | with_reducible rfl | with_reducible exact True.intro | with_reducible assumption | refine parkI ?_ | (refine And.intro ?_ ?_ <;> conv => whnf) | fail
    refine parkE (fun hc => ?_) (fun hc => ?_)
    · exact (Bool.false_ne_true (hd.symm.trans hc)).elim
    · clear hd
      conv => whnf
      repeat' first | with_reducible rfl | with_reducible exact True.intro | with_reducible assumption | refine parkI ?_ | (refine And.intro ?_ ?_ <;> conv => whnf) | fail
      refine parkE (fun hc => ?_) (fun hc => ?_)
      · replace r10 := condT hc r10
        conv => whnf
        replace r10 := grdS r10
        obtain ⟨g27, r10⟩ := r10
        replace g27 : fits (((s10.1.map TimerT.cells) ++ [[(I a1.ID), (I a1.At)]])).length 16 := by simpa only [se_len, se_ch, List.length_map] using g27
        have e := Option.some.inj r10
        subst e
        repeat' first | with_reducible rfl | with_reducible exact True.intro | with_reducible assumption | exact g27 | exact Or.inr ⟨_, (congrArg (LV.sl _ 0) (by (try simp only [se_map, se_byL, se_len, se_ch, List.length_map]); first | done | rfl | omega | (simp only [se_len, se_ch, List.length_map] at *; omega) : (((s10.1.map TimerT.cells) ++ [[(I a1.ID), (I a1.At)]])).length = ((s10.1 ++ ([a1] : (List TimerT))).map TimerT.cells).length)), congrArg (fun q => some (Blk.row 24 2 q)) (smT : (((s10.1.map TimerT.cells) ++ [[(I a1.ID), (I a1.At)]]) : List (List LV)) = ((s10.1 ++ ([a1] : (List TimerT))).map TimerT.cells))⟩ | exact clA _ | (refine And.intro ?_ ?_ <;> conv => whnf) | exact clG _ | (refine gand ?_ h; assumption) | exact clN _ | fail
      · replace r10 := condF hc r10
        conv => whnf
        have e := Option.some.inj r10
        subst e
        repeat' first | with_reducible rfl | with_reducible exact True.intro | with_reducible assumption | exact Or.inr ⟨_, rfl, congrArg (fun q => some (Blk.row 24 2 q)) rfl⟩ | exact clA _ | (refine And.intro ?_ ?_ <;> conv => whnf) | exact clG _ | (refine gand ?_ h; assumption) | exact clN _ | fail
  · unfold ref05_Arm_c0 at b10
    have hd : decide (((k10 : Nat) : Int) < (((y17.map TimerT.cells).length : Nat) : Int)) = true := by rw [decide_eq_true_eq]; (try simp only [se_len, se_ch, List.length_map] at hk10); (try simp only [se_len, se_ch, List.length_map]); omega
    refine LoopW.round TT_ok [0, 1, 3, 4, 5, 6, 8, 13, 14, 15, 16, 25, 36] ?_
    conv => whnf
    repeat' first | with_reducible rfl | with_reducible exact True.intro | with_reducible assumption | refine parkI ?_ | (refine And.intro ?_ ?_ <;> conv => whnf) | fail
    refine parkE (fun hc => ?_) (fun hc => ?_)
    · clear hd
      conv => whnf
      replace b10 := grdS b10
      obtain ⟨g19, b10⟩ := b10
      replace g19 : (0 : Int) ≤ ((k10 : Nat) : Int) ∧ ((k10 : Nat) : Int) < (((y17.map TimerT.cells).length : Nat) : Int) := by simpa only [se_len, se_ch, List.length_map] using g19
      replace b10 := bindS b10
      obtain ⟨v20, hv20, b10⟩ := b10
      have i21 : nth (y17.map TimerT.cells) (0 + ((((k10 : Nat) : Int) : Int).toNat)) = some [(I v20.ID), (I v20.At)] := by simpa only [se_map, se_len, se_ch, List.length_map, nth_eq, Nat.zero_add, List.getElem?_map] using gixNF (f := TimerT.cells) hv20
      replace b10 := bindS b10
      obtain ⟨y22, hy22, b10⟩ := b10
      have c23 := fun (hg : (!s10.2) = true) => c_ref05_ahead a1 v20 _ (gdS hg hy22)
      repeat' first | with_reducible rfl | with_reducible exact True.intro | with_reducible assumption | refine parkI ?_ | (refine ⟨_, c23, ?_⟩; conv => whnf) | exact g19 | (rw [i21]; conv => whnf) | exact clA _ | (refine And.intro ?_ ?_ <;> conv => whnf) | exact clG _ | (refine gand ?_ h; assumption) | fail
      refine parkE (fun hc => ?_) (fun hc => ?_)
      · replace b10 := condT hc b10
        conv => whnf
        replace b10 := grdS b10
        obtain ⟨g24, b10⟩ := b10
        replace g24 : fits (((s10.1.map TimerT.cells) ++ [[(I a1.ID), (I a1.At)]])).length 16 := by simpa only [se_len, se_ch, List.length_map] using g24
        replace b10 := grdS b10
        obtain ⟨g25, b10⟩ := b10
        replace g25 : fits ((((s10.1.map TimerT.cells) ++ [[(I a1.ID), (I a1.At)]]) ++ [[(I v20.ID), (I v20.At)]])).length 16 := by simpa only [se_len, se_ch, List.length_map] using g25
        repeat' first | with_reducible rfl | with_reducible exact True.intro | with_reducible assumption | refine parkI ?_ | exact g24 | exact g25 | exact clA _ | (refine And.intro ?_ ?_ <;> conv => whnf) | exact clN _ | fail
        have e := Option.some.inj b10
        refine LoopW.ren [(0, 0), (7, 1), (2, 2)] [(3, (LV.ptr 0 0 0)), (5, (LV.sl 1 0 ((((s10.1 ++ ([a1] : (List TimerT))) ++ ([v20] : (List TimerT))), true).1.map TimerT.cells).length)), (6, (LV.bool (((s10.1 ++ ([a1] : (List TimerT))) ++ ([v20] : (List TimerT))), true).2)), (13, (LV.sl 2 0 (y17.map TimerT.cells).length)), (14, (I (((y17.map TimerT.cells).length : Nat) : Int))), (15, (I ((k10 + 1 : Nat) : Int)))] 3 [(0, (.row 24 2 [[(I a1.ID), (I a1.At)]])), (1, (.row 24 2 ((((s10.1 ++ ([a1] : (List TimerT))) ++ ([v20] : (List TimerT))), true).1.map TimerT.cells))), (2, (.row 24 2 (y17.map TimerT.cells)))] rfl ⟨rfl, (by exact congrArg (LV.sl 1 0) (clL _ : ((((s10.1.map TimerT.cells) ++ [[(I a1.ID), (I a1.At)]]) ++ [[(I v20.ID), (I v20.At)]])).length = ((((s10.1 ++ ([a1] : (List TimerT))) ++ ([v20] : (List TimerT))), true).1.map TimerT.cells).length)), (smT : ((LV.bool true) : LV) = (LV.bool (((s10.1 ++ ([a1] : (List TimerT))) ++ ([v20] : (List TimerT))), true).2)), rfl, rfl, (congrArg (LV.int .i64) (w64_nat _ (by omega))), trivial⟩ ⟨⟨rfl, rfl, .inl ⟨rfl, nlT⟩⟩, rfl, rfl, ⟨⟨rfl, rfl, .inl ⟨(smT : ((((s10.1.map TimerT.cells) ++ [[(I a1.ID), (I a1.At)]]) ++ [[(I v20.ID), (I v20.At)]]) : List (List LV)) = ((((s10.1 ++ ([a1] : (List TimerT))) ++ ([v20] : (List TimerT))), true).1.map TimerT.cells)), nlT⟩⟩, rfl, rfl, ⟨⟨rfl, rfl, .inl ⟨rfl, nlT⟩⟩, rfl, rfl, trivial⟩⟩⟩ rfl (K10 _ e.symm)
      · replace b10 := condF hc b10
        conv => whnf
        replace b10 := grdS b10
        obtain ⟨g26, b10⟩ := b10
        replace g26 : fits (((s10.1.map TimerT.cells) ++ [[(I v20.ID), (I v20.At)]])).length 16 := by simpa only [se_len, se_ch, List.length_map] using g26
        repeat' first | with_reducible rfl | with_reducible exact True.intro | with_reducible assumption | refine parkI ?_ | exact g26 | exact clA _ | (refine And.intro ?_ ?_ <;> conv => whnf) | exact clN _ | fail
        have e := Option.some.inj b10
        refine LoopW.ren [(0, 0), (5, 1), (2, 2)] [(3, (LV.ptr 0 0 0)), (5, (LV.sl 1 0 (((s10.1 ++ ([v20] : (List TimerT))), s10.2).1.map TimerT.cells).length)), (6, (LV.bool ((s10.1 ++ ([v20] : (List TimerT))), s10.2).2)), (13, (LV.sl 2 0 (y17.map TimerT.cells).length)), (14, (I (((y17.map TimerT.cells).length : Nat) : Int))), (15, (I ((k10 + 1 : Nat) : Int)))] 3 [(0, (.row 24 2 [[(I a1.ID), (I a1.At)]])), (1, (.row 24 2 (((s10.1 ++ ([v20] : (List TimerT))), s10.2).1.map TimerT.cells))), (2, (.row 24 2 (y17.map TimerT.cells)))] rfl ⟨rfl, (by exact congrArg (LV.sl 1 0) (clL _ : (((s10.1.map TimerT.cells) ++ [[(I v20.ID), (I v20.At)]])).length = (((s10.1 ++ ([v20] : (List TimerT))), s10.2).1.map TimerT.cells).length)), (smT : ((LV.bool s10.2) : LV) = (LV.bool ((s10.1 ++ ([v20] : (List TimerT))), s10.2).2)), rfl, rfl, (congrArg (LV.int .i64) (w64_nat _ (by omega))), trivial⟩ ⟨⟨rfl, rfl, .inl ⟨rfl, nlT⟩⟩, rfl, rfl, ⟨⟨rfl, rfl, .inl ⟨(smT : (((s10.1.map TimerT.cells) ++ [[(I v20.ID), (I v20.At)]]) : List (List LV)) = (((s10.1 ++ ([v20] : (List TimerT))), s10.2).1.map TimerT.cells)), nlT⟩⟩, rfl, rfl, ⟨⟨rfl, rfl, .inl ⟨rfl, nlT⟩⟩, rfl, rfl, trivial⟩⟩⟩ rfl (K10 _ e.symm)
    · exact (Bool.false_ne_true (hc.symm.trans hd)).elim

theorem c_ref05_Arm (a0 : (List TimerT)) (a1 : TimerT) (r : (List TimerT)) (h : ref05_Arm a0 a1 = some r) : CallP Try.prog 17 [(LV.ro 2 (a0.map TimerT.cells)), (LV.agg [(I a1.ID), (I a1.At)])] (LV.ro 2 (r.map TimerT.cells)) := by
  exact CallF.toP (cf_ref05_Arm a0 a1 r h) nlA (NLss_map' _)

def ref05_Due_c0 (a1 : Int) (k11 : Nat) (x11 : TimerT) (s11 : Int) : Option (Step Int Int) :=
  (bif (decide (x11.At ≤ a1)) then
    some (.nxt (IntKind.i64.wrap (s11 + 1)))
  else
    some (.nxt s11))

def ref05_Due (a0 : (List TimerT)) (a1 : Int) : Option Int :=
  aft (rangeL (ref05_Due_c0 a1) a0 0) fun s11 =>
  some s11

theorem c_ref05_Due (a0 : (List TimerT)) (a1 : Int) (r : Int) (h : ref05_Due a0 a1 = some r) : CallP Try.prog 21 [(LV.ro 2 (a0.map TimerT.cells)), (I a1)] (I r) := by
  unfold ref05_Due at h
  refine .intro nlA (.intro TT_ok Try.func21 rfl rfl [0, 1, 4, 5, 7, 8, 9, 10, 11, 17] rfl ?_)
  conv => whnf
  repeat' first | with_reducible rfl | with_reducible exact True.intro | with_reducible assumption | refine parkI ?_ | (refine And.intro ?_ ?_ <;> conv => whnf) | fail
  replace h := aftS h
  obtain ⟨O11, hO11, r11⟩ := h
  refine LoopW.norm [(1, (I a1)), (5, (I 0)), (8, (LV.ro 2 (a0.map TimerT.cells))), (9, (I (((a0.map TimerT.cells).length : Nat) : Int))), (10, (I ((0 : Nat) : Int)))] 0 [] ⟨rfl, rfl, rfl, rfl, rfl, trivial⟩ trivial blT rfl ?_
  refine LoopW.forR (fun k11 s11 => [(1, (I a1)), (5, (I s11)), (8, (LV.ro 2 (a0.map TimerT.cells))), (9, (I (((a0.map TimerT.cells).length : Nat) : Int))), (10, (I ((k11 : Nat) : Int)))]) (fun s11 => ⟨0, []⟩) hO11 (fun hl11 s11 hs11 => ?_) (fun hl11 k11 x11 s11 o11 hk11 hx11 b11 K11 hret11 hbrk11 => ?_)
  · rw [hs11] at r11
    dsimp only [aftM] at r11
    have hd : decide (((a0.length : Nat) : Int) < (((a0.map TimerT.cells).length : Nat) : Int)) = false := by rw [decide_eq_false_iff_not]; (try simp only [se_len, se_ch, List.length_map]); omega
    refine LoopW.round TT_ok [0, 1, 4, 5, 7, 8, 9, 10, 11, 17] ?_
    conv => whnf
    repeat' first | with_reducible rfl | with_reducible exact True.intro | with_reducible assumption | refine parkI ?_ | (refine And.intro ?_ ?_ <;> conv => whnf) | fail
    refine parkE (fun hc => ?_) (fun hc => ?_)
    · exact (Bool.false_ne_true (hd.symm.trans hc)).elim
    · clear hd
      conv => whnf
      have e := Option.some.inj r11
      subst e
      repeat' first | with_reducible rfl | with_reducible exact True.intro | with_reducible assumption | exact clA _ | (refine And.intro ?_ ?_ <;> conv => whnf) | exact clG _ | (refine gand ?_ h; assumption) | exact clN _ | fail
  · unfold ref05_Due_c0 at b11
    have hd : decide (((k11 : Nat) : Int) < (((a0.map TimerT.cells).length : Nat) : Int)) = true := by rw [decide_eq_true_eq]; (try simp only [se_len, se_ch, List.length_map] at hk11); (try simp only [se_len, se_ch, List.length_map]); omega
    refine LoopW.round TT_ok [0, 1, 4, 5, 7, 8, 9, 10, 11, 17] ?_
    conv => whnf
    repeat' first | with_reducible rfl | with_reducible exact True.intro | with_reducible assumption | refine parkI ?_ | (refine And.intro ?_ ?_ <;> conv => whnf) | fail
    refine parkE (fun hc => ?_) (fun hc => ?_)
    · clear hd
      conv => whnf
      repeat' first | with_reducible rfl | with_reducible exact True.intro | with_reducible assumption | refine parkI ?_ | (refine ⟨_, (kixF (f := TimerT.cells) hx11), ?_⟩; conv => whnf) | (refine And.intro ?_ ?_ <;> conv => whnf) | fail
      refine parkE (fun hc => ?_) (fun hc => ?_)
      · replace b11 := condT hc b11
        conv => whnf
        repeat' first | with_reducible rfl | with_reducible exact True.intro | with_reducible assumption | refine parkI ?_ | (refine And.intro ?_ ?_ <;> conv => whnf) | fail
        have e := Option.some.inj b11
        refine LoopW.norm [(1, (I a1)), (5, (I (IntKind.i64.wrap (s11 + 1)))), (8, (LV.ro 2 (a0.map TimerT.cells))), (9, (I (((a0.map TimerT.cells).length : Nat) : Int))), (10, (I ((k11 + 1 : Nat) : Int)))] 0 [] ⟨rfl, rfl, rfl, rfl, (congrArg (LV.int .i64) (w64_nat _ (by omega))), trivial⟩ trivial blT rfl (K11 _ e.symm)
      · replace b11 := condF hc b11
        conv => whnf
        repeat' first | with_reducible rfl | with_reducible exact True.intro | with_reducible assumption | refine parkI ?_ | (refine And.intro ?_ ?_ <;> conv => whnf) | fail
        have e := Option.some.inj b11
        refine LoopW.norm [(1, (I a1)), (5, (I s11)), (8, (LV.ro 2 (a0.map TimerT.cells))), (9, (I (((a0.map TimerT.cells).length : Nat) : Int))), (10, (I ((k11 + 1 : Nat) : Int)))] 0 [] ⟨rfl, rfl, rfl, rfl, (congrArg (LV.int .i64) (w64_nat _ (by omega))), trivial⟩ trivial blT rfl (K11 _ e.symm)
    · exact (Bool.false_ne_true (hc.symm.trans hd)).elim

def law05_WheelTells (a0 : (List TimerT)) (a1 : TimerT) (a2 : Int) (a3 : Int) : Option Bool :=
  (law05_few a0).bind fun y1 =>
  (wheel_Arm y1 a1).bind fun y3 =>
  (wheel_Cancel y1 a2).bind fun y5 =>
  (wheel_Advance y1 a3).bind fun y7 =>
  (wheel_Next y1).bind fun y9 =>
  (ref05_Right y1).bind fun y11 =>
  (wheel_Right y1).bind fun y13 =>
  (gd (!(!(y13 == y11))) (law05_alive )).bind fun y15 =>
  (bif (bif (!(y13 == y11)) then true else (!y15)) then
    some false
  else
    (bif (!y11) then
      some (bif (bif (bif (bif (bif (bif (bif (bif (decide (y3.2 = 1)) then (decide (y5.2 = 1)) else false) then (decide (y7.2.2 = 1)) else false) then (decide (y9.2 = 1)) else false) then (decide (((y3.1.length : Nat) : Int) = 0)) else false) then (decide (((y5.1.length : Nat) : Int) = 0)) else false) then (decide (((y7.1.length : Nat) : Int) = 0)) else false) then (decide (((y7.2.1.length : Nat) : Int) = 0)) else false) then (decide (y9.1 = 0)) else false)
    else
      (ref05_Arm y1 a1).bind fun y17 =>
      (ref05_May a1).bind fun y19 =>
      (bif (!y19) then
        (bif (bif (!decide (y3.2 = 1)) then true else (!decide (((y3.1.length : Nat) : Int) = 0))) then
          some false
        else
          (bif (decide (a2 < 0)) then
            (bif (bif (!decide (y5.2 = 1)) then true else (!decide (((y5.1.length : Nat) : Int) = 0))) then
              some false
            else
              (bif (decide (((y1.length : Nat) : Int) = 0)) then
                (bif (bif (!decide (y9.2 = 4)) then true else (!decide (y9.1 = 0))) then
                  some false
                else
                  (bif (bif (decide (a3 < 0)) then true else (decide (1099511627776 < a3))) then
                    some (bif (bif (decide (y7.2.2 = 1)) then (decide (((y7.1.length : Nat) : Int) = 0)) else false) then (decide (((y7.2.1.length : Nat) : Int) = 0)) else false)
                  else
                    (ref05_Due y1 a3).bind fun y21 =>
                    grd (((decide (y7.2.2 = 0)) = true → (0 : Int) ≤ y21 ∧ y21 ≤ ((y1.length : Nat) : Int))) <|
                    (gd (decide (y7.2.2 = 0)) (ref05_Same y7.1 (y1.drop (y21 : Int).toNat))).bind fun y24 =>
                    grd (((bif (decide (y7.2.2 = 0)) then y24 else false) = true → (0 : Int) ≤ y21 ∧ y21 ≤ ((y1.length : Nat) : Int))) <|
                    (gd (bif (decide (y7.2.2 = 0)) then y24 else false) (ref05_Same y7.2.1 (y1.take (y21 : Int).toNat))).bind fun y27 =>
                    some (bif (bif (decide (y7.2.2 = 0)) then y24 else false) then y27 else false)))
              else
                (gd (!(!decide (y9.2 = 0))) (gix y1 0)).bind fun v29 =>
                (bif (bif (!decide (y9.2 = 0)) then true else (!decide (y9.1 = v29.At))) then
                  some false
                else
                  (bif (bif (decide (a3 < 0)) then true else (decide (1099511627776 < a3))) then
                    some (bif (bif (decide (y7.2.2 = 1)) then (decide (((y7.1.length : Nat) : Int) = 0)) else false) then (decide (((y7.2.1.length : Nat) : Int) = 0)) else false)
                  else
                    (ref05_Due y1 a3).bind fun y31 =>
                    grd (((decide (y7.2.2 = 0)) = true → (0 : Int) ≤ y31 ∧ y31 ≤ ((y1.length : Nat) : Int))) <|
                    (gd (decide (y7.2.2 = 0)) (ref05_Same y7.1 (y1.drop (y31 : Int).toNat))).bind fun y34 =>
                    grd (((bif (decide (y7.2.2 = 0)) then y34 else false) = true → (0 : Int) ≤ y31 ∧ y31 ≤ ((y1.length : Nat) : Int))) <|
                    (gd (bif (decide (y7.2.2 = 0)) then y34 else false) (ref05_Same y7.2.1 (y1.take (y31 : Int).toNat))).bind fun y37 =>
                    some (bif (bif (decide (y7.2.2 = 0)) then y34 else false) then y37 else false)))))
          else
            (ref05_Place y1 a2).bind fun y39 =>
            (bif (decide (y39 < 0)) then
              (bif (bif (!decide (y5.2 = 4)) then true else (!decide (((y5.1.length : Nat) : Int) = 0))) then
                some false
              else
                (bif (decide (((y1.length : Nat) : Int) = 0)) then
                  (bif (bif (!decide (y9.2 = 4)) then true else (!decide (y9.1 = 0))) then
                    some false
                  else
                    (bif (bif (decide (a3 < 0)) then true else (decide (1099511627776 < a3))) then
                      some (bif (bif (decide (y7.2.2 = 1)) then (decide (((y7.1.length : Nat) : Int) = 0)) else false) then (decide (((y7.2.1.length : Nat) : Int) = 0)) else false)
                    else
                      (ref05_Due y1 a3).bind fun y41 =>
                      grd (((decide (y7.2.2 = 0)) = true → (0 : Int) ≤ y41 ∧ y41 ≤ ((y1.length : Nat) : Int))) <|
                      (gd (decide (y7.2.2 = 0)) (ref05_Same y7.1 (y1.drop (y41 : Int).toNat))).bind fun y44 =>
                      grd (((bif (decide (y7.2.2 = 0)) then y44 else false) = true → (0 : Int) ≤ y41 ∧ y41 ≤ ((y1.length : Nat) : Int))) <|
                      (gd (bif (decide (y7.2.2 = 0)) then y44 else false) (ref05_Same y7.2.1 (y1.take (y41 : Int).toNat))).bind fun y47 =>
                      some (bif (bif (decide (y7.2.2 = 0)) then y44 else false) then y47 else false)))
                else
                  (gd (!(!decide (y9.2 = 0))) (gix y1 0)).bind fun v49 =>
                  (bif (bif (!decide (y9.2 = 0)) then true else (!decide (y9.1 = v49.At))) then
                    some false
                  else
                    (bif (bif (decide (a3 < 0)) then true else (decide (1099511627776 < a3))) then
                      some (bif (bif (decide (y7.2.2 = 1)) then (decide (((y7.1.length : Nat) : Int) = 0)) else false) then (decide (((y7.2.1.length : Nat) : Int) = 0)) else false)
                    else
                      (ref05_Due y1 a3).bind fun y51 =>
                      grd (((decide (y7.2.2 = 0)) = true → (0 : Int) ≤ y51 ∧ y51 ≤ ((y1.length : Nat) : Int))) <|
                      (gd (decide (y7.2.2 = 0)) (ref05_Same y7.1 (y1.drop (y51 : Int).toNat))).bind fun y54 =>
                      grd (((bif (decide (y7.2.2 = 0)) then y54 else false) = true → (0 : Int) ≤ y51 ∧ y51 ≤ ((y1.length : Nat) : Int))) <|
                      (gd (bif (decide (y7.2.2 = 0)) then y54 else false) (ref05_Same y7.2.1 (y1.take (y51 : Int).toNat))).bind fun y57 =>
                      some (bif (bif (decide (y7.2.2 = 0)) then y54 else false) then y57 else false)))))
            else
              (gd (!(!decide (y5.2 = 0))) (ref05_Without y1 a2)).bind fun y59 =>
              (gd (!(!decide (y5.2 = 0))) (ref05_Same y5.1 y59)).bind fun y61 =>
              (bif (bif (!decide (y5.2 = 0)) then true else (!y61)) then
                some false
              else
                (bif (decide (((y1.length : Nat) : Int) = 0)) then
                  (bif (bif (!decide (y9.2 = 4)) then true else (!decide (y9.1 = 0))) then
                    some false
                  else
                    (bif (bif (decide (a3 < 0)) then true else (decide (1099511627776 < a3))) then
                      some (bif (bif (decide (y7.2.2 = 1)) then (decide (((y7.1.length : Nat) : Int) = 0)) else false) then (decide (((y7.2.1.length : Nat) : Int) = 0)) else false)
                    else
                      (ref05_Due y1 a3).bind fun y63 =>
                      grd (((decide (y7.2.2 = 0)) = true → (0 : Int) ≤ y63 ∧ y63 ≤ ((y1.length : Nat) : Int))) <|
                      (gd (decide (y7.2.2 = 0)) (ref05_Same y7.1 (y1.drop (y63 : Int).toNat))).bind fun y66 =>
                      grd (((bif (decide (y7.2.2 = 0)) then y66 else false) = true → (0 : Int) ≤ y63 ∧ y63 ≤ ((y1.length : Nat) : Int))) <|
                      (gd (bif (decide (y7.2.2 = 0)) then y66 else false) (ref05_Same y7.2.1 (y1.take (y63 : Int).toNat))).bind fun y69 =>
                      some (bif (bif (decide (y7.2.2 = 0)) then y66 else false) then y69 else false)))
                else
                  (gd (!(!decide (y9.2 = 0))) (gix y1 0)).bind fun v71 =>
                  (bif (bif (!decide (y9.2 = 0)) then true else (!decide (y9.1 = v71.At))) then
                    some false
                  else
                    (bif (bif (decide (a3 < 0)) then true else (decide (1099511627776 < a3))) then
                      some (bif (bif (decide (y7.2.2 = 1)) then (decide (((y7.1.length : Nat) : Int) = 0)) else false) then (decide (((y7.2.1.length : Nat) : Int) = 0)) else false)
                    else
                      (ref05_Due y1 a3).bind fun y73 =>
                      grd (((decide (y7.2.2 = 0)) = true → (0 : Int) ≤ y73 ∧ y73 ≤ ((y1.length : Nat) : Int))) <|
                      (gd (decide (y7.2.2 = 0)) (ref05_Same y7.1 (y1.drop (y73 : Int).toNat))).bind fun y76 =>
                      grd (((bif (decide (y7.2.2 = 0)) then y76 else false) = true → (0 : Int) ≤ y73 ∧ y73 ≤ ((y1.length : Nat) : Int))) <|
                      (gd (bif (decide (y7.2.2 = 0)) then y76 else false) (ref05_Same y7.2.1 (y1.take (y73 : Int).toNat))).bind fun y79 =>
                      some (bif (bif (decide (y7.2.2 = 0)) then y76 else false) then y79 else false))))))))
      else
        (bif (decide (64 < ((y17.length : Nat) : Int))) then
          (bif (bif (!decide (y3.2 = 5)) then true else (!decide (((y3.1.length : Nat) : Int) = 0))) then
            some false
          else
            (bif (decide (a2 < 0)) then
              (bif (bif (!decide (y5.2 = 1)) then true else (!decide (((y5.1.length : Nat) : Int) = 0))) then
                some false
              else
                (bif (decide (((y1.length : Nat) : Int) = 0)) then
                  (bif (bif (!decide (y9.2 = 4)) then true else (!decide (y9.1 = 0))) then
                    some false
                  else
                    (bif (bif (decide (a3 < 0)) then true else (decide (1099511627776 < a3))) then
                      some (bif (bif (decide (y7.2.2 = 1)) then (decide (((y7.1.length : Nat) : Int) = 0)) else false) then (decide (((y7.2.1.length : Nat) : Int) = 0)) else false)
                    else
                      (ref05_Due y1 a3).bind fun y81 =>
                      grd (((decide (y7.2.2 = 0)) = true → (0 : Int) ≤ y81 ∧ y81 ≤ ((y1.length : Nat) : Int))) <|
                      (gd (decide (y7.2.2 = 0)) (ref05_Same y7.1 (y1.drop (y81 : Int).toNat))).bind fun y84 =>
                      grd (((bif (decide (y7.2.2 = 0)) then y84 else false) = true → (0 : Int) ≤ y81 ∧ y81 ≤ ((y1.length : Nat) : Int))) <|
                      (gd (bif (decide (y7.2.2 = 0)) then y84 else false) (ref05_Same y7.2.1 (y1.take (y81 : Int).toNat))).bind fun y87 =>
                      some (bif (bif (decide (y7.2.2 = 0)) then y84 else false) then y87 else false)))
                else
                  (gd (!(!decide (y9.2 = 0))) (gix y1 0)).bind fun v89 =>
                  (bif (bif (!decide (y9.2 = 0)) then true else (!decide (y9.1 = v89.At))) then
                    some false
                  else
                    (bif (bif (decide (a3 < 0)) then true else (decide (1099511627776 < a3))) then
                      some (bif (bif (decide (y7.2.2 = 1)) then (decide (((y7.1.length : Nat) : Int) = 0)) else false) then (decide (((y7.2.1.length : Nat) : Int) = 0)) else false)
                    else
                      (ref05_Due y1 a3).bind fun y91 =>
                      grd (((decide (y7.2.2 = 0)) = true → (0 : Int) ≤ y91 ∧ y91 ≤ ((y1.length : Nat) : Int))) <|
                      (gd (decide (y7.2.2 = 0)) (ref05_Same y7.1 (y1.drop (y91 : Int).toNat))).bind fun y94 =>
                      grd (((bif (decide (y7.2.2 = 0)) then y94 else false) = true → (0 : Int) ≤ y91 ∧ y91 ≤ ((y1.length : Nat) : Int))) <|
                      (gd (bif (decide (y7.2.2 = 0)) then y94 else false) (ref05_Same y7.2.1 (y1.take (y91 : Int).toNat))).bind fun y97 =>
                      some (bif (bif (decide (y7.2.2 = 0)) then y94 else false) then y97 else false)))))
            else
              (ref05_Place y1 a2).bind fun y99 =>
              (bif (decide (y99 < 0)) then
                (bif (bif (!decide (y5.2 = 4)) then true else (!decide (((y5.1.length : Nat) : Int) = 0))) then
                  some false
                else
                  (bif (decide (((y1.length : Nat) : Int) = 0)) then
                    (bif (bif (!decide (y9.2 = 4)) then true else (!decide (y9.1 = 0))) then
                      some false
                    else
                      (bif (bif (decide (a3 < 0)) then true else (decide (1099511627776 < a3))) then
                        some (bif (bif (decide (y7.2.2 = 1)) then (decide (((y7.1.length : Nat) : Int) = 0)) else false) then (decide (((y7.2.1.length : Nat) : Int) = 0)) else false)
                      else
                        (ref05_Due y1 a3).bind fun y101 =>
                        grd (((decide (y7.2.2 = 0)) = true → (0 : Int) ≤ y101 ∧ y101 ≤ ((y1.length : Nat) : Int))) <|
                        (gd (decide (y7.2.2 = 0)) (ref05_Same y7.1 (y1.drop (y101 : Int).toNat))).bind fun y104 =>
                        grd (((bif (decide (y7.2.2 = 0)) then y104 else false) = true → (0 : Int) ≤ y101 ∧ y101 ≤ ((y1.length : Nat) : Int))) <|
                        (gd (bif (decide (y7.2.2 = 0)) then y104 else false) (ref05_Same y7.2.1 (y1.take (y101 : Int).toNat))).bind fun y107 =>
                        some (bif (bif (decide (y7.2.2 = 0)) then y104 else false) then y107 else false)))
                  else
                    (gd (!(!decide (y9.2 = 0))) (gix y1 0)).bind fun v109 =>
                    (bif (bif (!decide (y9.2 = 0)) then true else (!decide (y9.1 = v109.At))) then
                      some false
                    else
                      (bif (bif (decide (a3 < 0)) then true else (decide (1099511627776 < a3))) then
                        some (bif (bif (decide (y7.2.2 = 1)) then (decide (((y7.1.length : Nat) : Int) = 0)) else false) then (decide (((y7.2.1.length : Nat) : Int) = 0)) else false)
                      else
                        (ref05_Due y1 a3).bind fun y111 =>
                        grd (((decide (y7.2.2 = 0)) = true → (0 : Int) ≤ y111 ∧ y111 ≤ ((y1.length : Nat) : Int))) <|
                        (gd (decide (y7.2.2 = 0)) (ref05_Same y7.1 (y1.drop (y111 : Int).toNat))).bind fun y114 =>
                        grd (((bif (decide (y7.2.2 = 0)) then y114 else false) = true → (0 : Int) ≤ y111 ∧ y111 ≤ ((y1.length : Nat) : Int))) <|
                        (gd (bif (decide (y7.2.2 = 0)) then y114 else false) (ref05_Same y7.2.1 (y1.take (y111 : Int).toNat))).bind fun y117 =>
                        some (bif (bif (decide (y7.2.2 = 0)) then y114 else false) then y117 else false)))))
              else
                (gd (!(!decide (y5.2 = 0))) (ref05_Without y1 a2)).bind fun y119 =>
                (gd (!(!decide (y5.2 = 0))) (ref05_Same y5.1 y119)).bind fun y121 =>
                (bif (bif (!decide (y5.2 = 0)) then true else (!y121)) then
                  some false
                else
                  (bif (decide (((y1.length : Nat) : Int) = 0)) then
                    (bif (bif (!decide (y9.2 = 4)) then true else (!decide (y9.1 = 0))) then
                      some false
                    else
                      (bif (bif (decide (a3 < 0)) then true else (decide (1099511627776 < a3))) then
                        some (bif (bif (decide (y7.2.2 = 1)) then (decide (((y7.1.length : Nat) : Int) = 0)) else false) then (decide (((y7.2.1.length : Nat) : Int) = 0)) else false)
                      else
                        (ref05_Due y1 a3).bind fun y123 =>
                        grd (((decide (y7.2.2 = 0)) = true → (0 : Int) ≤ y123 ∧ y123 ≤ ((y1.length : Nat) : Int))) <|
                        (gd (decide (y7.2.2 = 0)) (ref05_Same y7.1 (y1.drop (y123 : Int).toNat))).bind fun y126 =>
                        grd (((bif (decide (y7.2.2 = 0)) then y126 else false) = true → (0 : Int) ≤ y123 ∧ y123 ≤ ((y1.length : Nat) : Int))) <|
                        (gd (bif (decide (y7.2.2 = 0)) then y126 else false) (ref05_Same y7.2.1 (y1.take (y123 : Int).toNat))).bind fun y129 =>
                        some (bif (bif (decide (y7.2.2 = 0)) then y126 else false) then y129 else false)))
                  else
                    (gd (!(!decide (y9.2 = 0))) (gix y1 0)).bind fun v131 =>
                    (bif (bif (!decide (y9.2 = 0)) then true else (!decide (y9.1 = v131.At))) then
                      some false
                    else
                      (bif (bif (decide (a3 < 0)) then true else (decide (1099511627776 < a3))) then
                        some (bif (bif (decide (y7.2.2 = 1)) then (decide (((y7.1.length : Nat) : Int) = 0)) else false) then (decide (((y7.2.1.length : Nat) : Int) = 0)) else false)
                      else
                        (ref05_Due y1 a3).bind fun y133 =>
                        grd (((decide (y7.2.2 = 0)) = true → (0 : Int) ≤ y133 ∧ y133 ≤ ((y1.length : Nat) : Int))) <|
                        (gd (decide (y7.2.2 = 0)) (ref05_Same y7.1 (y1.drop (y133 : Int).toNat))).bind fun y136 =>
                        grd (((bif (decide (y7.2.2 = 0)) then y136 else false) = true → (0 : Int) ≤ y133 ∧ y133 ≤ ((y1.length : Nat) : Int))) <|
                        (gd (bif (decide (y7.2.2 = 0)) then y136 else false) (ref05_Same y7.2.1 (y1.take (y133 : Int).toNat))).bind fun y139 =>
                        some (bif (bif (decide (y7.2.2 = 0)) then y136 else false) then y139 else false))))))))
        else
          (bif (!(!decide (y3.2 = 0))) then
            (ref05_Same y3.1 y17).bind fun y141 =>
            (bif (bif (!decide (y3.2 = 0)) then true else (!y141)) then
              some false
            else
              (bif (decide (a2 < 0)) then
                (bif (bif (!decide (y5.2 = 1)) then true else (!decide (((y5.1.length : Nat) : Int) = 0))) then
                  some false
                else
                  (bif (decide (((y1.length : Nat) : Int) = 0)) then
                    (bif (bif (!decide (y9.2 = 4)) then true else (!decide (y9.1 = 0))) then
                      some false
                    else
                      (bif (bif (decide (a3 < 0)) then true else (decide (1099511627776 < a3))) then
                        some (bif (bif (decide (y7.2.2 = 1)) then (decide (((y7.1.length : Nat) : Int) = 0)) else false) then (decide (((y7.2.1.length : Nat) : Int) = 0)) else false)
                      else
                        (ref05_Due y1 a3).bind fun y143 =>
                        grd (((decide (y7.2.2 = 0)) = true → (0 : Int) ≤ y143 ∧ y143 ≤ ((y1.length : Nat) : Int))) <|
                        (gd (decide (y7.2.2 = 0)) (ref05_Same y7.1 (y1.drop (y143 : Int).toNat))).bind fun y146 =>
                        grd (((bif (decide (y7.2.2 = 0)) then y146 else false) = true → (0 : Int) ≤ y143 ∧ y143 ≤ ((y1.length : Nat) : Int))) <|
                        (gd (bif (decide (y7.2.2 = 0)) then y146 else false) (ref05_Same y7.2.1 (y1.take (y143 : Int).toNat))).bind fun y149 =>
                        some (bif (bif (decide (y7.2.2 = 0)) then y146 else false) then y149 else false)))
                  else
                    (gd (!(!decide (y9.2 = 0))) (gix y1 0)).bind fun v151 =>
                    (bif (bif (!decide (y9.2 = 0)) then true else (!decide (y9.1 = v151.At))) then
                      some false
                    else
                      (bif (bif (decide (a3 < 0)) then true else (decide (1099511627776 < a3))) then
                        some (bif (bif (decide (y7.2.2 = 1)) then (decide (((y7.1.length : Nat) : Int) = 0)) else false) then (decide (((y7.2.1.length : Nat) : Int) = 0)) else false)
                      else
                        (ref05_Due y1 a3).bind fun y153 =>
                        grd (((decide (y7.2.2 = 0)) = true → (0 : Int) ≤ y153 ∧ y153 ≤ ((y1.length : Nat) : Int))) <|
                        (gd (decide (y7.2.2 = 0)) (ref05_Same y7.1 (y1.drop (y153 : Int).toNat))).bind fun y156 =>
                        grd (((bif (decide (y7.2.2 = 0)) then y156 else false) = true → (0 : Int) ≤ y153 ∧ y153 ≤ ((y1.length : Nat) : Int))) <|
                        (gd (bif (decide (y7.2.2 = 0)) then y156 else false) (ref05_Same y7.2.1 (y1.take (y153 : Int).toNat))).bind fun y159 =>
                        some (bif (bif (decide (y7.2.2 = 0)) then y156 else false) then y159 else false)))))
              else
                (ref05_Place y1 a2).bind fun y161 =>
                (bif (decide (y161 < 0)) then
                  (bif (bif (!decide (y5.2 = 4)) then true else (!decide (((y5.1.length : Nat) : Int) = 0))) then
                    some false
                  else
                    (bif (decide (((y1.length : Nat) : Int) = 0)) then
                      (bif (bif (!decide (y9.2 = 4)) then true else (!decide (y9.1 = 0))) then
                        some false
                      else
                        (bif (bif (decide (a3 < 0)) then true else (decide (1099511627776 < a3))) then
                          some (bif (bif (decide (y7.2.2 = 1)) then (decide (((y7.1.length : Nat) : Int) = 0)) else false) then (decide (((y7.2.1.length : Nat) : Int) = 0)) else false)
                        else
                          (ref05_Due y1 a3).bind fun y163 =>
                          grd (((decide (y7.2.2 = 0)) = true → (0 : Int) ≤ y163 ∧ y163 ≤ ((y1.length : Nat) : Int))) <|
                          (gd (decide (y7.2.2 = 0)) (ref05_Same y7.1 (y1.drop (y163 : Int).toNat))).bind fun y166 =>
                          grd (((bif (decide (y7.2.2 = 0)) then y166 else false) = true → (0 : Int) ≤ y163 ∧ y163 ≤ ((y1.length : Nat) : Int))) <|
                          (gd (bif (decide (y7.2.2 = 0)) then y166 else false) (ref05_Same y7.2.1 (y1.take (y163 : Int).toNat))).bind fun y169 =>
                          some (bif (bif (decide (y7.2.2 = 0)) then y166 else false) then y169 else false)))
                    else
                      (gd (!(!decide (y9.2 = 0))) (gix y1 0)).bind fun v171 =>
                      (bif (bif (!decide (y9.2 = 0)) then true else (!decide (y9.1 = v171.At))) then
                        some false
                      else
                        (bif (bif (decide (a3 < 0)) then true else (decide (1099511627776 < a3))) then
                          some (bif (bif (decide (y7.2.2 = 1)) then (decide (((y7.1.length : Nat) : Int) = 0)) else false) then (decide (((y7.2.1.length : Nat) : Int) = 0)) else false)
                        else
                          (ref05_Due y1 a3).bind fun y173 =>
                          grd (((decide (y7.2.2 = 0)) = true → (0 : Int) ≤ y173 ∧ y173 ≤ ((y1.length : Nat) : Int))) <|
                          (gd (decide (y7.2.2 = 0)) (ref05_Same y7.1 (y1.drop (y173 : Int).toNat))).bind fun y176 =>
                          grd (((bif (decide (y7.2.2 = 0)) then y176 else false) = true → (0 : Int) ≤ y173 ∧ y173 ≤ ((y1.length : Nat) : Int))) <|
                          (gd (bif (decide (y7.2.2 = 0)) then y176 else false) (ref05_Same y7.2.1 (y1.take (y173 : Int).toNat))).bind fun y179 =>
                          some (bif (bif (decide (y7.2.2 = 0)) then y176 else false) then y179 else false)))))
                else
                  (gd (!(!decide (y5.2 = 0))) (ref05_Without y1 a2)).bind fun y181 =>
                  (gd (!(!decide (y5.2 = 0))) (ref05_Same y5.1 y181)).bind fun y183 =>
                  (bif (bif (!decide (y5.2 = 0)) then true else (!y183)) then
                    some false
                  else
                    (bif (decide (((y1.length : Nat) : Int) = 0)) then
                      (bif (bif (!decide (y9.2 = 4)) then true else (!decide (y9.1 = 0))) then
                        some false
                      else
                        (bif (bif (decide (a3 < 0)) then true else (decide (1099511627776 < a3))) then
                          some (bif (bif (decide (y7.2.2 = 1)) then (decide (((y7.1.length : Nat) : Int) = 0)) else false) then (decide (((y7.2.1.length : Nat) : Int) = 0)) else false)
                        else
                          (ref05_Due y1 a3).bind fun y185 =>
                          grd (((decide (y7.2.2 = 0)) = true → (0 : Int) ≤ y185 ∧ y185 ≤ ((y1.length : Nat) : Int))) <|
                          (gd (decide (y7.2.2 = 0)) (ref05_Same y7.1 (y1.drop (y185 : Int).toNat))).bind fun y188 =>
                          grd (((bif (decide (y7.2.2 = 0)) then y188 else false) = true → (0 : Int) ≤ y185 ∧ y185 ≤ ((y1.length : Nat) : Int))) <|
                          (gd (bif (decide (y7.2.2 = 0)) then y188 else false) (ref05_Same y7.2.1 (y1.take (y185 : Int).toNat))).bind fun y191 =>
                          some (bif (bif (decide (y7.2.2 = 0)) then y188 else false) then y191 else false)))
                    else
                      (gd (!(!decide (y9.2 = 0))) (gix y1 0)).bind fun v193 =>
                      (bif (bif (!decide (y9.2 = 0)) then true else (!decide (y9.1 = v193.At))) then
                        some false
                      else
                        (bif (bif (decide (a3 < 0)) then true else (decide (1099511627776 < a3))) then
                          some (bif (bif (decide (y7.2.2 = 1)) then (decide (((y7.1.length : Nat) : Int) = 0)) else false) then (decide (((y7.2.1.length : Nat) : Int) = 0)) else false)
                        else
                          (ref05_Due y1 a3).bind fun y195 =>
                          grd (((decide (y7.2.2 = 0)) = true → (0 : Int) ≤ y195 ∧ y195 ≤ ((y1.length : Nat) : Int))) <|
                          (gd (decide (y7.2.2 = 0)) (ref05_Same y7.1 (y1.drop (y195 : Int).toNat))).bind fun y198 =>
                          grd (((bif (decide (y7.2.2 = 0)) then y198 else false) = true → (0 : Int) ≤ y195 ∧ y195 ≤ ((y1.length : Nat) : Int))) <|
                          (gd (bif (decide (y7.2.2 = 0)) then y198 else false) (ref05_Same y7.2.1 (y1.take (y195 : Int).toNat))).bind fun y201 =>
                          some (bif (bif (decide (y7.2.2 = 0)) then y198 else false) then y201 else false))))))))
          else
            some false)))))

theorem c_law05_WheelTells (a0 : (List TimerT)) (a1 : TimerT) (a2 : Int) (a3 : Int) (r : Bool) (h : law05_WheelTells a0 a1 a2 a3 = some r) : CallP Try.prog 4 [(LV.ro 2 (a0.map TimerT.cells)), (LV.agg [(I a1.ID), (I a1.At)]), (I a2), (I a3)] (LV.bool r) := by
  unfold law05_WheelTells at h
  refine .intro nlA (.intro TT_ok Try.func4 rfl rfl [0, 1, 2, 3, 5, 8, 9, 10, 11, 12, 13, 14, 15, 16, 17, 18, 19, 20, 56, 58, 100, 110, 111, 121, 122, 131, 140, 141, 152, 153, 166, 172, 182, 188] rfl ?_)
  conv => whnf
  replace h := bindS h
  obtain ⟨y1, hy1, h⟩ := h
  have c2 := c_law05_few a0 _ hy1
  replace h := bindS h
  obtain ⟨y3, hy3, h⟩ := h
  have c4 := c_wheel_Arm y1 a1 _ hy3
  replace h := bindS h
  obtain ⟨y5, hy5, h⟩ := h
  have c6 := c_wheel_Cancel y1 a2 _ hy5
  replace h := bindS h
  obtain ⟨y7, hy7, h⟩ := h
  have c8 := c_wheel_Advance y1 a3 _ hy7
  replace h := bindS h
  obtain ⟨y9, hy9, h⟩ := h
  have c10 := c_wheel_Next y1 _ hy9
  replace h := bindS h
  obtain ⟨y11, hy11, h⟩ := h
  have c12 := c_ref05_Right y1 _ hy11
  replace h := bindS h
  obtain ⟨y13, hy13, h⟩ := h
  have c14 := c_wheel_Right y1 _ hy13
  replace h := bindS h
  obtain ⟨y15, hy15, h⟩ := h
  have c16 := fun (hg : (!(!(y13 == y11))) = true) => c_law05_alive  _ (gdS hg hy15)
  repeat' first | with_reducible rfl | with_reducible exact True.intro | with_reducible assumption | refine parkI ?_ | (refine ⟨_, c16, ?_⟩; conv => whnf) | (refine CallP.use c2 ?_; conv => whnf) | (refine CallP.use c4 ?_; conv => whnf) | (refine CallP.use c6 ?_; conv => whnf) | (refine CallP.use c8 ?_; conv => whnf) | (refine CallP.use c10 ?_; conv => whnf) | (refine CallP.use c12 ?_; conv => whnf) | (refine CallP.use c14 ?_; conv => whnf) | exact clA _ | (refine And.intro ?_ ?_ <;> conv => whnf) | exact clG _ | (refine gand ?_ h; assumption) | fail
  refine parkE (fun hc => ?_) (fun hc => ?_)
  · replace h := condT hc h
    conv => whnf
    have e := Option.some.inj h
    subst e
    repeat' first | with_reducible rfl | with_reducible exact True.intro | with_reducible assumption | exact clA _ | (refine And.intro ?_ ?_ <;> conv => whnf) | exact clG _ | (refine gand ?_ h; assumption) | exact clN _ | fail
  · replace h := condF hc h
    conv => whnf
    repeat' first | with_reducible rfl | with_reducible exact True.intro | with_reducible assumption | refine parkI ?_ | (refine And.intro ?_ ?_ <;> conv => whnf) | fail
    refine parkE (fun hc => ?_) (fun hc => ?_)
    · replace h := condT hc h
      conv => whnf
      have e := Option.some.inj h
      subst e
      repeat' first | with_reducible rfl | with_reducible exact True.intro | with_reducible assumption | exact clA _ | (refine And.intro ?_ ?_ <;> conv => whnf) | exact clG _ | (refine gand ?_ h; assumption) | exact clN _ | fail
    · replace h := condF hc h
      conv => whnf
      replace h := bindS h
      obtain ⟨y17, hy17, h⟩ := h
      have c18 := cf_ref05_Arm y1 a1 _ hy17
      replace h := bindS h
      obtain ⟨y19, hy19, h⟩ := h
      have c20 := c_ref05_May a1 _ hy19
      repeat' first | with_reducible rfl | with_reducible exact True.intro | with_reducible assumption | refine parkI ?_ | (refine CallP.use c20 ?_; conv => whnf) | (refine CallW.done (CallF.at c18 nlA (NLss_map' _)) ?_; conv => whnf) | (refine ⟨_, _, CallF.at c18 nlA (NLss_map' _), ?_⟩; conv => whnf) | (refine And.intro ?_ ?_ <;> conv => whnf) | fail
      refine parkE (fun hc => ?_) (fun hc => ?_)
      · replace h := condT hc h
        conv => whnf
        repeat' first | with_reducible rfl | with_reducible exact True.intro | with_reducible assumption | refine parkI ?_ | exact clA _ | (refine And.intro ?_ ?_ <;> conv => whnf) | exact clG _ | (refine gand ?_ h; assumption) | fail
        refine parkE (fun hc => ?_) (fun hc => ?_)
        · replace h := condT (by first | exact hc | (simpa only [se_len, se_ch, List.length_map] using hc; done) | (have h0 : (bif (!decide (y3.2 = 1)) then true else (!decide ((((y3.1.map TimerT.cells).length : Nat) : Int) = 0))) = true := hc; simpa only [se_len, se_ch, List.length_map] using h0)) h
          conv => whnf
          have e := Option.some.inj h
          subst e
          repeat' first | with_reducible rfl | with_reducible exact True.intro | with_reducible assumption | exact clA _ | (refine And.intro ?_ ?_ <;> conv => whnf) | exact clG _ | (refine gand ?_ h; assumption) | exact clN _ | fail
        · replace h := condF (by first | exact hc | (simpa only [se_len, se_ch, List.length_map] using hc; done) | (have h0 : (bif (!decide (y3.2 = 1)) then true else (!decide ((((y3.1.map TimerT.cells).length : Nat) : Int) = 0))) = false := hc; simpa only [se_len, se_ch, List.length_map] using h0)) h
          conv => whnf
          repeat' first | with_reducible rfl | with_reducible exact True.intro | with_reducible assumption | refine parkI ?_ | (refine And.intro ?_ ?_ <;> conv => whnf) | fail
          refine parkE (fun hc => ?_) (fun hc => ?_)
          · replace h := condT hc h
            conv => whnf
            repeat' first | with_reducible rfl | with_reducible exact True.intro | with_reducible assumption | refine parkI ?_ | exact clA _ | (refine And.intro ?_ ?_ <;> conv => whnf) | exact clG _ | (refine gand ?_ h; assumption) | fail
            refine parkE (fun hc => ?_) (fun hc => ?_)
            · replace h := condT (by first | exact hc | (simpa only [se_len, se_ch, List.length_map] using hc; done) | (have h0 : (bif (!decide (y5.2 = 1)) then true else (!decide ((((y5.1.map TimerT.cells).length : Nat) : Int) = 0))) = true := hc; simpa only [se_len, se_ch, List.length_map] using h0)) h
              conv => whnf
              have e := Option.some.inj h
              subst e
              repeat' first | with_reducible rfl | with_reducible exact True.intro | with_reducible assumption | exact clA _ | (refine And.intro ?_ ?_ <;> conv => whnf) | exact clG _ | (refine gand ?_ h; assumption) | exact clN _ | fail
            · replace h := condF (by first | exact hc | (simpa only [se_len, se_ch, List.length_map] using hc; done) | (have h0 : (bif (!decide (y5.2 = 1)) then true else (!decide ((((y5.1.map TimerT.cells).length : Nat) : Int) = 0))) = false := hc; simpa only [se_len, se_ch, List.length_map] using h0)) h
              conv => whnf
              repeat' first | with_reducible rfl | with_reducible exact True.intro | with_reducible assumption | refine parkI ?_ | (refine And.intro ?_ ?_ <;> conv => whnf) | fail
              refine parkE (fun hc => ?_) (fun hc => ?_)
              · replace h := condT (by first | exact hc | (simpa only [se_len, se_ch, List.length_map] using hc; done) | (have h0 : (decide ((((y1.map TimerT.cells).length : Nat) : Int) = 0)) = true := hc; simpa only [se_len, se_ch, List.length_map] using h0)) h
                conv => whnf
                repeat' first | with_reducible rfl | with_reducible exact True.intro | with_reducible assumption | refine parkI ?_ | exact clA _ | (refine And.intro ?_ ?_ <;> conv => whnf) | exact clG _ | (refine gand ?_ h; assumption) | fail
                refine parkE (fun hc => ?_) (fun hc => ?_)
                · replace h := condT hc h
                  conv => whnf
                  have e := Option.some.inj h
                  subst e
                  repeat' first | with_reducible rfl | with_reducible exact True.intro | with_reducible assumption | exact clA _ | (refine And.intro ?_ ?_ <;> conv => whnf) | exact clG _ | (refine gand ?_ h; assumption) | exact clN _ | fail
                · replace h := condF hc h
                  conv => whnf
                  repeat' first | with_reducible rfl | with_reducible exact True.intro | with_reducible assumption | refine parkI ?_ | exact clA _ | (refine And.intro ?_ ?_ <;> conv => whnf) | exact clG _ | (refine gand ?_ h; assumption) | fail
                  refine parkE (fun hc => ?_) (fun hc => ?_)
                  · replace h := condT hc h
                    conv => whnf
                    have e := Option.some.inj h
                    subst e
                    repeat' first | with_reducible rfl | with_reducible exact True.intro | with_reducible assumption | exact clA _ | (refine And.intro ?_ ?_ <;> conv => whnf) | exact clG _ | (refine gand ?_ h; assumption) | exact clN _ | fail
                  · replace h := condF hc h
                    conv => whnf
                    replace h := bindS h
                    obtain ⟨y21, hy21, h⟩ := h
                    have c22 := c_ref05_Due y1 a3 _ hy21
                    replace h := grdS h
                    obtain ⟨g23, h⟩ := h
                    replace g23 : ((decide (y7.2.2 = 0)) = true → (0 : Int) ≤ y21 ∧ y21 ≤ (((y1.map TimerT.cells).length : Nat) : Int)) := by simpa only [se_len, se_ch, List.length_map] using g23
                    replace h := bindS h
                    obtain ⟨y24, hy24, h⟩ := h
                    have c25 : (decide (y7.2.2 = 0)) = true → CallP Try.prog 13 [(LV.ro 2 (y7.1.map TimerT.cells)), (LV.ro 2 ((y1.map TimerT.cells).drop (y21 : Int).toNat))] (LV.bool y24) := by first | exact fun (hg : (decide (y7.2.2 = 0)) = true) => c_ref05_Same y7.1 (y1.drop (y21 : Int).toNat) _ (gdS hg hy24) | (simpa only [se_map, se_byL, se_len, se_ch, List.length_map] using fun (hg : (decide (y7.2.2 = 0)) = true) => c_ref05_Same y7.1 (y1.drop (y21 : Int).toNat) _ (gdS hg hy24))
                    replace h := grdS h
                    obtain ⟨g26, h⟩ := h
                    replace g26 : ((bif (decide (y7.2.2 = 0)) then y24 else false) = true → (0 : Int) ≤ y21 ∧ y21 ≤ (((y1.map TimerT.cells).length : Nat) : Int)) := by simpa only [se_len, se_ch, List.length_map] using g26
                    replace h := bindS h
                    obtain ⟨y27, hy27, h⟩ := h
                    have c28 : (bif (decide (y7.2.2 = 0)) then y24 else false) = true → CallP Try.prog 13 [(LV.ro 2 (y7.2.1.map TimerT.cells)), (LV.ro 2 ((y1.map TimerT.cells).take (y21 : Int).toNat))] (LV.bool y27) := by first | exact fun (hg : (bif (decide (y7.2.2 = 0)) then y24 else false) = true) => c_ref05_Same y7.2.1 (y1.take (y21 : Int).toNat) _ (gdS hg hy27) | (simpa only [se_map, se_byL, se_len, se_ch, List.length_map] using fun (hg : (bif (decide (y7.2.2 = 0)) then y24 else false) = true) => c_ref05_Same y7.2.1 (y1.take (y21 : Int).toNat) _ (gdS hg hy27))
                    have e := Option.some.inj h
                    subst e
                    repeat' first | with_reducible rfl | with_reducible exact True.intro | with_reducible assumption | (refine ⟨_, c25, ?_⟩; conv => whnf) | (refine ⟨_, c28, ?_⟩; conv => whnf) | exact g23 | exact g26 | (refine CallP.use c22 ?_; conv => whnf) | exact clA _ | (refine And.intro ?_ ?_ <;> conv => whnf) | exact clG _ | (refine gand ?_ h; assumption) | exact clN _ | fail
              · replace h := condF (by first | exact hc | (simpa only [se_len, se_ch, List.length_map] using hc; done) | (have h0 : (decide ((((y1.map TimerT.cells).length : Nat) : Int) = 0)) = false := hc; simpa only [se_len, se_ch, List.length_map] using h0)) h
                conv => whnf
                replace h := bindS h
                obtain ⟨v29, hv29, h⟩ := h
                have i30 := fun hg => gixF (f := TimerT.cells) (gdS hg hv29)
                repeat' first | with_reducible rfl | with_reducible exact True.intro | with_reducible assumption | refine parkI ?_ | (refine ⟨_, i30, ?_⟩; conv => whnf) | exact clA _ | (refine And.intro ?_ ?_ <;> conv => whnf) | exact clG _ | (refine gand ?_ h; assumption) | fail
                refine parkE (fun hc => ?_) (fun hc => ?_)
                · replace h := condT hc h
                  conv => whnf
                  have e := Option.some.inj h
                  subst e
                  repeat' first | with_reducible rfl | with_reducible exact True.intro | with_reducible assumption | exact clA _ | (refine And.intro ?_ ?_ <;> conv => whnf) | exact clG _ | (refine gand ?_ h; assumption) | exact clN _ | fail
                · replace h := condF hc h
                  conv => whnf
                  repeat' first | with_reducible rfl | with_reducible exact True.intro | with_reducible assumption | refine parkI ?_ | exact clA _ | (refine And.intro ?_ ?_ <;> conv => whnf) | exact clG _ | (refine gand ?_ h; assumption) | fail
                  refine parkE (fun hc => ?_) (fun hc => ?_)
                  · replace h := condT hc h
                    conv => whnf
                    have e := Option.some.inj h
                    subst e
                    repeat' first | with_reducible rfl | with_reducible exact True.intro | with_reducible assumption | exact clA _ | (refine And.intro ?_ ?_ <;> conv => whnf) | exact clG _ | (refine gand ?_ h; assumption) | exact clN _ | fail
                  · replace h := condF hc h
                    conv => whnf
                    replace h := bindS h
                    obtain ⟨y31, hy31, h⟩ := h
                    have c32 := c_ref05_Due y1 a3 _ hy31
                    replace h := grdS h
                    obtain ⟨g33, h⟩ := h
                    replace g33 : ((decide (y7.2.2 = 0)) = true → (0 : Int) ≤ y31 ∧ y31 ≤ (((y1.map TimerT.cells).length : Nat) : Int)) := by simpa only [se_len, se_ch, List.length_map] using g33
                    replace h := bindS h
                    obtain ⟨y34, hy34, h⟩ := h
                    have c35 : (decide (y7.2.2 = 0)) = true → CallP Try.prog 13 [(LV.ro 2 (y7.1.map TimerT.cells)), (LV.ro 2 ((y1.map TimerT.cells).drop (y31 : Int).toNat))] (LV.bool y34) := by first | exact fun (hg : (decide (y7.2.2 = 0)) = true) => c_ref05_Same y7.1 (y1.drop (y31 : Int).toNat) _ (gdS hg hy34) | (simpa only [se_map, se_byL, se_len, se_ch, List.length_map] using fun (hg : (decide (y7.2.2 = 0)) = true) => c_ref05_Same y7.1 (y1.drop (y31 : Int).toNat) _ (gdS hg hy34))
                    replace h := grdS h
                    obtain ⟨g36, h⟩ := h
                    replace g36 : ((bif (decide (y7.2.2 = 0)) then y34 else false) = true → (0 : Int) ≤ y31 ∧ y31 ≤ (((y1.map TimerT.cells).length : Nat) : Int)) := by simpa only [se_len, se_ch, List.length_map] using g36
                    replace h := bindS h
                    obtain ⟨y37, hy37, h⟩ := h
                    have c38 : (bif (decide (y7.2.2 = 0)) then y34 else false) = true → CallP Try.prog 13 [(LV.ro 2 (y7.2.1.map TimerT.cells)), (LV.ro 2 ((y1.map TimerT.cells).take (y31 : Int).toNat))] (LV.bool y37) := by first | exact fun (hg : (bif (decide (y7.2.2 = 0)) then y34 else false) = true) => c_ref05_Same y7.2.1 (y1.take (y31 : Int).toNat) _ (gdS hg hy37) | (simpa only [se_map, se_byL, se_len, se_ch, List.length_map] using fun (hg : (bif (decide (y7.2.2 = 0)) then y34 else false) = true) => c_ref05_Same y7.2.1 (y1.take (y31 : Int).toNat) _ (gdS hg hy37))
                    have e := Option.some.inj h
                    subst e
                    repeat' first | with_reducible rfl | with_reducible exact True.intro | with_reducible assumption | (refine ⟨_, c35, ?_⟩; conv => whnf) | (refine ⟨_, c38, ?_⟩; conv => whnf) | exact g33 | exact g36 | (refine CallP.use c32 ?_; conv => whnf) | exact clA _ | (refine And.intro ?_ ?_ <;> conv => whnf) | exact clG _ | (refine gand ?_ h; assumption) | exact clN _ | fail
          · replace h := condF hc h
            conv => whnf
            replace h := bindS h
            obtain ⟨y39, hy39, h⟩ := h
            have c40 := c_ref05_Place y1 a2 _ hy39
            repeat' first | with_reducible rfl | with_reducible exact True.intro | with_reducible assumption | refine parkI ?_ | (refine CallP.use c40 ?_; conv => whnf) | (refine And.intro ?_ ?_ <;> conv => whnf) | fail
            refine parkE (fun hc => ?_) (fun hc => ?_)
            · replace h := condT hc h
              conv => whnf
              repeat' first | with_reducible rfl | with_reducible exact True.intro | with_reducible assumption | refine parkI ?_ | exact clA _ | (refine And.intro ?_ ?_ <;> conv => whnf) | exact clG _ | (refine gand ?_ h; assumption) | fail
              refine parkE (fun hc => ?_) (fun hc => ?_)
              · replace h := condT (by first | exact hc | (simpa only [se_len, se_ch, List.length_map] using hc; done) | (have h0 : (bif (!decide (y5.2 = 4)) then true else (!decide ((((y5.1.map TimerT.cells).length : Nat) : Int) = 0))) = true := hc; simpa only [se_len, se_ch, List.length_map] using h0)) h
                conv => whnf
                have e := Option.some.inj h
                subst e
                repeat' first | with_reducible rfl | with_reducible exact True.intro | with_reducible assumption | exact clA _ | (refine And.intro ?_ ?_ <;> conv => whnf) | exact clG _ | (refine gand ?_ h; assumption) | exact clN _ | fail
              · replace h := condF (by first | exact hc | (simpa only [se_len, se_ch, List.length_map] using hc; done) | (have h0 : (bif (!decide (y5.2 = 4)) then true else (!decide ((((y5.1.map TimerT.cells).length : Nat) : Int) = 0))) = false := hc; simpa only [se_len, se_ch, List.length_map] using h0)) h
                conv => whnf
                repeat' first | with_reducible rfl | with_reducible exact True.intro | with_reducible assumption | refine parkI ?_ | (refine And.intro ?_ ?_ <;> conv => whnf) | fail
                refine parkE (fun hc => ?_) (fun hc => ?_)
                · replace h := condT (by first | exact hc | (simpa only [se_len, se_ch, List.length_map] using hc; done) | (have h0 : (decide ((((y1.map TimerT.cells).length : Nat) : Int) = 0)) = true := hc; simpa only [se_len, se_ch, List.length_map] using h0)) h
                  conv => whnf
                  repeat' first | with_reducible rfl | with_reducible exact True.intro | with_reducible assumption | refine parkI ?_ | exact clA _ | (refine And.intro ?_ ?_ <;> conv => whnf) | exact clG _ | (refine gand ?_ h; assumption) | fail
                  refine parkE (fun hc => ?_) (fun hc => ?_)
                  · replace h := condT hc h
                    conv => whnf
                    have e := Option.some.inj h
                    subst e
                    repeat' first | with_reducible rfl | with_reducible exact True.intro | with_reducible assumption | exact clA _ | (refine And.intro ?_ ?_ <;> conv => whnf) | exact clG _ | (refine gand ?_ h; assumption) | exact clN _ | fail
                  · replace h := condF hc h
                    conv => whnf
                    repeat' first | with_reducible rfl | with_reducible exact True.intro | with_reducible assumption | refine parkI ?_ | exact clA _ | (refine And.intro ?_ ?_ <;> conv => whnf) | exact clG _ | (refine gand ?_ h; assumption) | fail
                    refine parkE (fun hc => ?_) (fun hc => ?_)
                    · replace h := condT hc h
                      conv => whnf
                      have e := Option.some.inj h
                      subst e
                      repeat' first | with_reducible rfl | with_reducible exact True.intro | with_reducible assumption | exact clA _ | (refine And.intro ?_ ?_ <;> conv => whnf) | exact clG _ | (refine gand ?_ h; assumption) | exact clN _ | fail
                    · replace h := condF hc h
                      conv => whnf
                      replace h := bindS h
                      obtain ⟨y41, hy41, h⟩ := h
                      have c42 := c_ref05_Due y1 a3 _ hy41
                      replace h := grdS h
                      obtain ⟨g43, h⟩ := h
                      replace g43 : ((decide (y7.2.2 = 0)) = true → (0 : Int) ≤ y41 ∧ y41 ≤ (((y1.map TimerT.cells).length : Nat) : Int)) := by simpa only [se_len, se_ch, List.length_map] using g43
                      replace h := bindS h
                      obtain ⟨y44, hy44, h⟩ := h
                      have c45 : (decide (y7.2.2 = 0)) = true → CallP Try.prog 13 [(LV.ro 2 (y7.1.map TimerT.cells)), (LV.ro 2 ((y1.map TimerT.cells).drop (y41 : Int).toNat))] (LV.bool y44) := by first | exact fun (hg : (decide (y7.2.2 = 0)) = true) => c_ref05_Same y7.1 (y1.drop (y41 : Int).toNat) _ (gdS hg hy44) | (simpa only [se_map, se_byL, se_len, se_ch, List.length_map] using fun (hg : (decide (y7.2.2 = 0)) = true) => c_ref05_Same y7.1 (y1.drop (y41 : Int).toNat) _ (gdS hg hy44))
                      replace h := grdS h
                      obtain ⟨g46, h⟩ := h
                      replace g46 : ((bif (decide (y7.2.2 = 0)) then y44 else false) = true → (0 : Int) ≤ y41 ∧ y41 ≤ (((y1.map TimerT.cells).length : Nat) : Int)) := by simpa only [se_len, se_ch, List.length_map] using g46
                      replace h := bindS h
                      obtain ⟨y47, hy47, h⟩ := h
                      have c48 : (bif (decide (y7.2.2 = 0)) then y44 else false) = true → CallP Try.prog 13 [(LV.ro 2 (y7.2.1.map TimerT.cells)), (LV.ro 2 ((y1.map TimerT.cells).take (y41 : Int).toNat))] (LV.bool y47) := by first | exact fun (hg : (bif (decide (y7.2.2 = 0)) then y44 else false) = true) => c_ref05_Same y7.2.1 (y1.take (y41 : Int).toNat) _ (gdS hg hy47) | (simpa only [se_map, se_byL, se_len, se_ch, List.length_map] using fun (hg : (bif (decide (y7.2.2 = 0)) then y44 else false) = true) => c_ref05_Same y7.2.1 (y1.take (y41 : Int).toNat) _ (gdS hg hy47))
                      have e := Option.some.inj h
                      subst e
                      repeat' first | with_reducible rfl | with_reducible exact True.intro | with_reducible assumption | (refine ⟨_, c45, ?_⟩; conv => whnf) | (refine ⟨_, c48, ?_⟩; conv => whnf) | exact g43 | exact g46 | (refine CallP.use c42 ?_; conv => whnf) | exact clA _ | (refine And.intro ?_ ?_ <;> conv => whnf) | exact clG _ | (refine gand ?_ h; assumption) | exact clN _ | fail
                · replace h := condF (by first | exact hc | (simpa only [se_len, se_ch, List.length_map] using hc; done) | (have h0 : (decide ((((y1.map TimerT.cells).length : Nat) : Int) = 0)) = false := hc; simpa only [se_len, se_ch, List.length_map] using h0)) h
                  conv => whnf
                  replace h := bindS h
                  obtain ⟨v49, hv49, h⟩ := h
                  have i50 := fun hg => gixF (f := TimerT.cells) (gdS hg hv49)
                  repeat' first | with_reducible rfl | with_reducible exact True.intro | with_reducible assumption | refine parkI ?_ | (refine ⟨_, i50, ?_⟩; conv => whnf) | exact clA _ | (refine And.intro ?_ ?_ <;> conv => whnf) | exact clG _ | (refine gand ?_ h; assumption) | fail
                  refine parkE (fun hc => ?_) (fun hc => ?_)
                  · replace h := condT hc h
                    conv => whnf
                    have e := Option.some.inj h
                    subst e
                    repeat' first | with_reducible rfl | with_reducible exact True.intro | with_reducible assumption | exact clA _ | (refine And.intro ?_ ?_ <;> conv => whnf) | exact clG _ | (refine gand ?_ h; assumption) | exact clN _ | fail
                  · replace h := condF hc h
                    conv => whnf
                    repeat' first | with_reducible rfl | with_reducible exact True.intro | with_reducible assumption | refine parkI ?_ | exact clA _ | (refine And.intro ?_ ?_ <;> conv => whnf) | exact clG _ | (refine gand ?_ h; assumption) | fail
                    refine parkE (fun hc => ?_) (fun hc => ?_)
                    · replace h := condT hc h
                      conv => whnf
                      have e := Option.some.inj h
                      subst e
                      repeat' first | with_reducible rfl | with_reducible exact True.intro | with_reducible assumption | exact clA _ | (refine And.intro ?_ ?_ <;> conv => whnf) | exact clG _ | (refine gand ?_ h; assumption) | exact clN _ | fail
                    · replace h := condF hc h
                      conv => whnf
                      replace h := bindS h
                      obtain ⟨y51, hy51, h⟩ := h
                      have c52 := c_ref05_Due y1 a3 _ hy51
                      replace h := grdS h
                      obtain ⟨g53, h⟩ := h
                      replace g53 : ((decide (y7.2.2 = 0)) = true → (0 : Int) ≤ y51 ∧ y51 ≤ (((y1.map TimerT.cells).length : Nat) : Int)) := by simpa only [se_len, se_ch, List.length_map] using g53
                      replace h := bindS h
                      obtain ⟨y54, hy54, h⟩ := h
                      have c55 : (decide (y7.2.2 = 0)) = true → CallP Try.prog 13 [(LV.ro 2 (y7.1.map TimerT.cells)), (LV.ro 2 ((y1.map TimerT.cells).drop (y51 : Int).toNat))] (LV.bool y54) := by first | exact fun (hg : (decide (y7.2.2 = 0)) = true) => c_ref05_Same y7.1 (y1.drop (y51 : Int).toNat) _ (gdS hg hy54) | (simpa only [se_map, se_byL, se_len, se_ch, List.length_map] using fun (hg : (decide (y7.2.2 = 0)) = true) => c_ref05_Same y7.1 (y1.drop (y51 : Int).toNat) _ (gdS hg hy54))
                      replace h := grdS h
                      obtain ⟨g56, h⟩ := h
                      replace g56 : ((bif (decide (y7.2.2 = 0)) then y54 else false) = true → (0 : Int) ≤ y51 ∧ y51 ≤ (((y1.map TimerT.cells).length : Nat) : Int)) := by simpa only [se_len, se_ch, List.length_map] using g56
                      replace h := bindS h
                      obtain ⟨y57, hy57, h⟩ := h
                      have c58 : (bif (decide (y7.2.2 = 0)) then y54 else false) = true → CallP Try.prog 13 [(LV.ro 2 (y7.2.1.map TimerT.cells)), (LV.ro 2 ((y1.map TimerT.cells).take (y51 : Int).toNat))] (LV.bool y57) := by first | exact fun (hg : (bif (decide (y7.2.2 = 0)) then y54 else false) = true) => c_ref05_Same y7.2.1 (y1.take (y51 : Int).toNat) _ (gdS hg hy57) | (simpa only [se_map, se_byL, se_len, se_ch, List.length_map] using fun (hg : (bif (decide (y7.2.2 = 0)) then y54 else false) = true) => c_ref05_Same y7.2.1 (y1.take (y51 : Int).toNat) _ (gdS hg hy57))
                      have e := Option.some.inj h
                      subst e
                      repeat' first | with_reducible rfl | with_reducible exact True.intro | with_reducible assumption | (refine ⟨_, c55, ?_⟩; conv => whnf) | (refine ⟨_, c58, ?_⟩; conv => whnf) | exact g53 | exact g56 | (refine CallP.use c52 ?_; conv => whnf) | exact clA _ | (refine And.intro ?_ ?_ <;> conv => whnf) | exact clG _ | (refine gand ?_ h; assumption) | exact clN _ | fail
            · replace h := condF hc h
              conv => whnf
              replace h := bindS h
              obtain ⟨y59, hy59, h⟩ := h
              have c60 := fun (hg : (!(!decide (y5.2 = 0))) = true) => c_ref05_Without y1 a2 _ (gdS hg hy59)
              replace h := bindS h
              obtain ⟨y61, hy61, h⟩ := h
              have c62 := fun (hg : (!(!decide (y5.2 = 0))) = true) => c_ref05_Same y5.1 y59 _ (gdS hg hy61)
              repeat' first | with_reducible rfl | with_reducible exact True.intro | with_reducible assumption | refine parkI ?_ | (refine ⟨_, c60, ?_⟩; conv => whnf) | (refine ⟨_, c62, ?_⟩; conv => whnf) | exact clA _ | (refine And.intro ?_ ?_ <;> conv => whnf) | exact clG _ | (refine gand ?_ h; assumption) | fail
              refine parkE (fun hc => ?_) (fun hc => ?_)
              · replace h := condT hc h
                conv => whnf
                have e := Option.some.inj h
                subst e
                repeat' first | with_reducible rfl | with_reducible exact True.intro | with_reducible assumption | exact clA _ | (refine And.intro ?_ ?_ <;> conv => whnf) | exact clG _ | (refine gand ?_ h; assumption) | exact clN _ | fail
              · replace h := condF hc h
                conv => whnf
                repeat' first | with_reducible rfl | with_reducible exact True.intro | with_reducible assumption | refine parkI ?_ | (refine And.intro ?_ ?_ <;> conv => whnf) | fail
                refine parkE (fun hc => ?_) (fun hc => ?_)
                · replace h := condT (by first | exact hc | (simpa only [se_len, se_ch, List.length_map] using hc; done) | (have h0 : (decide ((((y1.map TimerT.cells).length : Nat) : Int) = 0)) = true := hc; simpa only [se_len, se_ch, List.length_map] using h0)) h
                  conv => whnf
                  repeat' first | with_reducible rfl | with_reducible exact True.intro | with_reducible assumption | refine parkI ?_ | exact clA _ | (refine And.intro ?_ ?_ <;> conv => whnf) | exact clG _ | (refine gand ?_ h; assumption) | fail
                  refine parkE (fun hc => ?_) (fun hc => ?_)
                  · replace h := condT hc h
                    conv => whnf
                    have e := Option.some.inj h
                    subst e
                    repeat' first | with_reducible rfl | with_reducible exact True.intro | with_reducible assumption | exact clA _ | (refine And.intro ?_ ?_ <;> conv => whnf) | exact clG _ | (refine gand ?_ h; assumption) | exact clN _ | fail
                  · replace h := condF hc h
                    conv => whnf
                    repeat' first | with_reducible rfl | with_reducible exact True.intro | with_reducible assumption | refine parkI ?_ | exact clA _ | (refine And.intro ?_ ?_ <;> conv => whnf) | exact clG _ | (refine gand ?_ h; assumption) | fail
                    refine parkE (fun hc => ?_) (fun hc => ?_)
                    · replace h := condT hc h
                      conv => whnf
                      have e := Option.some.inj h
                      subst e
                      repeat' first | with_reducible rfl | with_reducible exact True.intro | with_reducible assumption | exact clA _ | (refine And.intro ?_ ?_ <;> conv => whnf) | exact clG _ | (refine gand ?_ h; assumption) | exact clN _ | fail
                    · replace h := condF hc h
                      conv => whnf
                      replace h := bindS h
                      obtain ⟨y63, hy63, h⟩ := h
                      have c64 := c_ref05_Due y1 a3 _ hy63
                      replace h := grdS h
                      obtain ⟨g65, h⟩ := h
                      replace g65 : ((decide (y7.2.2 = 0)) = true → (0 : Int) ≤ y63 ∧ y63 ≤ (((y1.map TimerT.cells).length : Nat) : Int)) := by simpa only [se_len, se_ch, List.length_map] using g65
                      replace h := bindS h
                      obtain ⟨y66, hy66, h⟩ := h
                      have c67 : (decide (y7.2.2 = 0)) = true → CallP Try.prog 13 [(LV.ro 2 (y7.1.map TimerT.cells)), (LV.ro 2 ((y1.map TimerT.cells).drop (y63 : Int).toNat))] (LV.bool y66) := by first | exact fun (hg : (decide (y7.2.2 = 0)) = true) => c_ref05_Same y7.1 (y1.drop (y63 : Int).toNat) _ (gdS hg hy66) | (simpa only [se_map, se_byL, se_len, se_ch, List.length_map] using fun (hg : (decide (y7.2.2 = 0)) = true) => c_ref05_Same y7.1 (y1.drop (y63 : Int).toNat) _ (gdS hg hy66))
                      replace h := grdS h
                      obtain ⟨g68, h⟩ := h
                      replace g68 : ((bif (decide (y7.2.2 = 0)) then y66 else false) = true → (0 : Int) ≤ y63 ∧ y63 ≤ (((y1.map TimerT.cells).length : Nat) : Int)) := by simpa only [se_len, se_ch, List.length_map] using g68
                      replace h := bindS h
                      obtain ⟨y69, hy69, h⟩ := h
                      have c70 : (bif (decide (y7.2.2 = 0)) then y66 else false) = true → CallP Try.prog 13 [(LV.ro 2 (y7.2.1.map TimerT.cells)), (LV.ro 2 ((y1.map TimerT.cells).take (y63 : Int).toNat))] (LV.bool y69) := by first | exact fun (hg : (bif (decide (y7.2.2 = 0)) then y66 else false) = true) => c_ref05_Same y7.2.1 (y1.take (y63 : Int).toNat) _ (gdS hg hy69) | (simpa only [se_map, se_byL, se_len, se_ch, List.length_map] using fun (hg : (bif (decide (y7.2.2 = 0)) then y66 else false) = true) => c_ref05_Same y7.2.1 (y1.take (y63 : Int).toNat) _ (gdS hg hy69))
                      have e := Option.some.inj h
                      subst e
                      repeat' first | with_reducible rfl | with_reducible exact True.intro | with_reducible assumption | (refine ⟨_, c67, ?_⟩; conv => whnf) | (refine ⟨_, c70, ?_⟩; conv => whnf) | exact g65 | exact g68 | (refine CallP.use c64 ?_; conv => whnf) | exact clA _ | (refine And.intro ?_ ?_ <;> conv => whnf) | exact clG _ | (refine gand ?_ h; assumption) | exact clN _ | fail
                · replace h := condF (by first | exact hc | (simpa only [se_len, se_ch, List.length_map] using hc; done) | (have h0 : (decide ((((y1.map TimerT.cells).length : Nat) : Int) = 0)) = false := hc; simpa only [se_len, se_ch, List.length_map] using h0)) h
                  conv => whnf
                  replace h := bindS h
                  obtain ⟨v71, hv71, h⟩ := h
                  have i72 := fun hg => gixF (f := TimerT.cells) (gdS hg hv71)
                  repeat' first | with_reducible rfl | with_reducible exact True.intro | with_reducible assumption | refine parkI ?_ | (refine ⟨_, i72, ?_⟩; conv => whnf) | exact clA _ | (refine And.intro ?_ ?_ <;> conv => whnf) | exact clG _ | (refine gand ?_ h; assumption) | fail
                  refine parkE (fun hc => ?_) (fun hc => ?_)
                  · replace h := condT hc h
                    conv => whnf
                    have e := Option.some.inj h
                    subst e
                    repeat' first | with_reducible rfl | with_reducible exact True.intro | with_reducible assumption | exact clA _ | (refine And.intro ?_ ?_ <;> conv => whnf) | exact clG _ | (refine gand ?_ h; assumption) | exact clN _ | fail
                  · replace h := condF hc h
                    conv => whnf
                    repeat' first | with_reducible rfl | with_reducible exact True.intro | with_reducible assumption | refine parkI ?_ | exact clA _ | (refine And.intro ?_ ?_ <;> conv => whnf) | exact clG _ | (refine gand ?_ h; assumption) | fail
                    refine parkE (fun hc => ?_) (fun hc => ?_)
                    · replace h := condT hc h
                      conv => whnf
                      have e := Option.some.inj h
                      subst e
                      repeat' first | with_reducible rfl | with_reducible exact True.intro | with_reducible assumption | exact clA _ | (refine And.intro ?_ ?_ <;> conv => whnf) | exact clG _ | (refine gand ?_ h; assumption) | exact clN _ | fail
                    · replace h := condF hc h
                      conv => whnf
                      replace h := bindS h
                      obtain ⟨y73, hy73, h⟩ := h
                      have c74 := c_ref05_Due y1 a3 _ hy73
                      replace h := grdS h
                      obtain ⟨g75, h⟩ := h
                      replace g75 : ((decide (y7.2.2 = 0)) = true → (0 : Int) ≤ y73 ∧ y73 ≤ (((y1.map TimerT.cells).length : Nat) : Int)) := by simpa only [se_len, se_ch, List.length_map] using g75
                      replace h := bindS h
                      obtain ⟨y76, hy76, h⟩ := h
                      have c77 : (decide (y7.2.2 = 0)) = true → CallP Try.prog 13 [(LV.ro 2 (y7.1.map TimerT.cells)), (LV.ro 2 ((y1.map TimerT.cells).drop (y73 : Int).toNat))] (LV.bool y76) := by first | exact fun (hg : (decide (y7.2.2 = 0)) = true) => c_ref05_Same y7.1 (y1.drop (y73 : Int).toNat) _ (gdS hg hy76) | (simpa only [se_map, se_byL, se_len, se_ch, List.length_map] using fun (hg : (decide (y7.2.2 = 0)) = true) => c_ref05_Same y7.1 (y1.drop (y73 : Int).toNat) _ (gdS hg hy76))
                      replace h := grdS h
                      obtain ⟨g78, h⟩ := h
                      replace g78 : ((bif (decide (y7.2.2 = 0)) then y76 else false) = true → (0 : Int) ≤ y73 ∧ y73 ≤ (((y1.map TimerT.cells).length : Nat) : Int)) := by simpa only [se_len, se_ch, List.length_map] using g78
                      replace h := bindS h
                      obtain ⟨y79, hy79, h⟩ := h
                      have c80 : (bif (decide (y7.2.2 = 0)) then y76 else false) = true → CallP Try.prog 13 [(LV.ro 2 (y7.2.1.map TimerT.cells)), (LV.ro 2 ((y1.map TimerT.cells).take (y73 : Int).toNat))] (LV.bool y79) := by first | exact fun (hg : (bif (decide (y7.2.2 = 0)) then y76 else false) = true) => c_ref05_Same y7.2.1 (y1.take (y73 : Int).toNat) _ (gdS hg hy79) | (simpa only [se_map, se_byL, se_len, se_ch, List.length_map] using fun (hg : (bif (decide (y7.2.2 = 0)) then y76 else false) = true) => c_ref05_Same y7.2.1 (y1.take (y73 : Int).toNat) _ (gdS hg hy79))
                      have e := Option.some.inj h
                      subst e
                      repeat' first | with_reducible rfl | with_reducible exact True.intro | with_reducible assumption | (refine ⟨_, c77, ?_⟩; conv => whnf) | (refine ⟨_, c80, ?_⟩; conv => whnf) | exact g75 | exact g78 | (refine CallP.use c74 ?_; conv => whnf) | exact clA _ | (refine And.intro ?_ ?_ <;> conv => whnf) | exact clG _ | (refine gand ?_ h; assumption) | exact clN _ | fail
      · replace h := condF hc h
        conv => whnf
        repeat' first | with_reducible rfl | with_reducible exact True.intro | with_reducible assumption | refine parkI ?_ | (refine And.intro ?_ ?_ <;> conv => whnf) | fail
        refine parkE (fun hc => ?_) (fun hc => ?_)
        · replace h := condT (by first | exact hc | (simpa only [se_len, se_ch, List.length_map] using hc; done) | (have h0 : (decide (64 < (((y17.map TimerT.cells).length : Nat) : Int))) = true := hc; simpa only [se_len, se_ch, List.length_map] using h0)) h
          conv => whnf
          repeat' first | with_reducible rfl | with_reducible exact True.intro | with_reducible assumption | refine parkI ?_ | exact clA _ | (refine And.intro ?_ ?_ <;> conv => whnf) | exact clG _ | (refine gand ?_ h; assumption) | fail
          refine parkE (fun hc => ?_) (fun hc => ?_)
          · replace h := condT (by first | exact hc | (simpa only [se_len, se_ch, List.length_map] using hc; done) | (have h0 : (bif (!decide (y3.2 = 5)) then true else (!decide ((((y3.1.map TimerT.cells).length : Nat) : Int) = 0))) = true := hc; simpa only [se_len, se_ch, List.length_map] using h0)) h
            conv => whnf
            have e := Option.some.inj h
            subst e
            repeat' first | with_reducible rfl | with_reducible exact True.intro | with_reducible assumption | exact clA _ | (refine And.intro ?_ ?_ <;> conv => whnf) | exact clG _ | (refine gand ?_ h; assumption) | exact clN _ | fail
          · replace h := condF (by first | exact hc | (simpa only [se_len, se_ch, List.length_map] using hc; done) | (have h0 : (bif (!decide (y3.2 = 5)) then true else (!decide ((((y3.1.map TimerT.cells).length : Nat) : Int) = 0))) = false := hc; simpa only [se_len, se_ch, List.length_map] using h0)) h
            conv => whnf
            repeat' first | with_reducible rfl | with_reducible exact True.intro | with_reducible assumption | refine parkI ?_ | (refine And.intro ?_ ?_ <;> conv => whnf) | fail
            refine parkE (fun hc => ?_) (fun hc => ?_)
            · replace h := condT hc h
              conv => whnf
              repeat' first | with_reducible rfl | with_reducible exact True.intro | with_reducible assumption | refine parkI ?_ | exact clA _ | (refine And.intro ?_ ?_ <;> conv => whnf) | exact clG _ | (refine gand ?_ h; assumption) | fail
              refine parkE (fun hc => ?_) (fun hc => ?_)
              · replace h := condT (by first | exact hc | (simpa only [se_len, se_ch, List.length_map] using hc; done) | (have h0 : (bif (!decide (y5.2 = 1)) then true else (!decide ((((y5.1.map TimerT.cells).length : Nat) : Int) = 0))) = true := hc; simpa only [se_len, se_ch, List.length_map] using h0)) h
                conv => whnf
                have e := Option.some.inj h
                subst e
                repeat' first | with_reducible rfl | with_reducible exact True.intro | with_reducible assumption | exact clA _ | (refine And.intro ?_ ?_ <;> conv => whnf) | exact clG _ | (refine gand ?_ h; assumption) | exact clN _ | fail
              · replace h := condF (by first | exact hc | (simpa only [se_len, se_ch, List.length_map] using hc; done) | (have h0 : (bif (!decide (y5.2 = 1)) then true else (!decide ((((y5.1.map TimerT.cells).length : Nat) : Int) = 0))) = false := hc; simpa only [se_len, se_ch, List.length_map] using h0)) h
                conv => whnf
                repeat' first | with_reducible rfl | with_reducible exact True.intro | with_reducible assumption | refine parkI ?_ | (refine And.intro ?_ ?_ <;> conv => whnf) | fail
                refine parkE (fun hc => ?_) (fun hc => ?_)
                · replace h := condT (by first | exact hc | (simpa only [se_len, se_ch, List.length_map] using hc; done) | (have h0 : (decide ((((y1.map TimerT.cells).length : Nat) : Int) = 0)) = true := hc; simpa only [se_len, se_ch, List.length_map] using h0)) h
                  conv => whnf
                  repeat' first | with_reducible rfl | with_reducible exact True.intro | with_reducible assumption | refine parkI ?_ | exact clA _ | (refine And.intro ?_ ?_ <;> conv => whnf) | exact clG _ | (refine gand ?_ h; assumption) | fail
                  refine parkE (fun hc => ?_) (fun hc => ?_)
                  · replace h := condT hc h
                    conv => whnf
                    have e := Option.some.inj h
                    subst e
                    repeat' first | with_reducible rfl | with_reducible exact True.intro | with_reducible assumption | exact clA _ | (refine And.intro ?_ ?_ <;> conv => whnf) | exact clG _ | (refine gand ?_ h; assumption) | exact clN _ | fail
                  · replace h := condF hc h
                    conv => whnf
                    repeat' first | with_reducible rfl | with_reducible exact True.intro | with_reducible assumption | refine parkI ?_ | exact clA _ | (refine And.intro ?_ ?_ <;> conv => whnf) | exact clG _ | (refine gand ?_ h; assumption) | fail
                    refine parkE (fun hc => ?_) (fun hc => ?_)
                    · replace h := condT hc h
                      conv => whnf
                      have e := Option.some.inj h
                      subst e
                      repeat' first | with_reducible rfl | with_reducible exact True.intro | with_reducible assumption | exact clA _ | (refine And.intro ?_ ?_ <;> conv => whnf) | exact clG _ | (refine gand ?_ h; assumption) | exact clN _ | fail
                    · replace h := condF hc h
                      conv => whnf
                      replace h := bindS h
                      obtain ⟨y81, hy81, h⟩ := h
                      have c82 := c_ref05_Due y1 a3 _ hy81
                      replace h := grdS h
                      obtain ⟨g83, h⟩ := h
                      replace g83 : ((decide (y7.2.2 = 0)) = true → (0 : Int) ≤ y81 ∧ y81 ≤ (((y1.map TimerT.cells).length : Nat) : Int)) := by simpa only [se_len, se_ch, List.length_map] using g83
                      replace h := bindS h
                      obtain ⟨y84, hy84, h⟩ := h
                      have c85 : (decide (y7.2.2 = 0)) = true → CallP Try.prog 13 [(LV.ro 2 (y7.1.map TimerT.cells)), (LV.ro 2 ((y1.map TimerT.cells).drop (y81 : Int).toNat))] (LV.bool y84) := by first | exact fun (hg : (decide (y7.2.2 = 0)) = true) => c_ref05_Same y7.1 (y1.drop (y81 : Int).toNat) _ (gdS hg hy84) | (simpa only [se_map, se_byL, se_len, se_ch, List.length_map] using fun (hg : (decide (y7.2.2 = 0)) = true) => c_ref05_Same y7.1 (y1.drop (y81 : Int).toNat) _ (gdS hg hy84))
                      replace h := grdS h
                      obtain ⟨g86, h⟩ := h
                      replace g86 : ((bif (decide (y7.2.2 = 0)) then y84 else false) = true → (0 : Int) ≤ y81 ∧ y81 ≤ (((y1.map TimerT.cells).length : Nat) : Int)) := by simpa only [se_len, se_ch, List.length_map] using g86
                      replace h := bindS h
                      obtain ⟨y87, hy87, h⟩ := h
                      have c88 : (bif (decide (y7.2.2 = 0)) then y84 else false) = true → CallP Try.prog 13 [(LV.ro 2 (y7.2.1.map TimerT.cells)), (LV.ro 2 ((y1.map TimerT.cells).take (y81 : Int).toNat))] (LV.bool y87) := by first | exact fun (hg : (bif (decide (y7.2.2 = 0)) then y84 else false) = true) => c_ref05_Same y7.2.1 (y1.take (y81 : Int).toNat) _ (gdS hg hy87) | (simpa only [se_map, se_byL, se_len, se_ch, List.length_map] using fun (hg : (bif (decide (y7.2.2 = 0)) then y84 else false) = true) => c_ref05_Same y7.2.1 (y1.take (y81 : Int).toNat) _ (gdS hg hy87))
                      have e := Option.some.inj h
                      subst e
                      repeat' first | with_reducible rfl | with_reducible exact True.intro | with_reducible assumption | (refine ⟨_, c85, ?_⟩; conv => whnf) | (refine ⟨_, c88, ?_⟩; conv => whnf) | exact g83 | exact g86 | (refine CallP.use c82 ?_; conv => whnf) | exact clA _ | (refine And.intro ?_ ?_ <;> conv => whnf) | exact clG _ | (refine gand ?_ h; assumption) | exact clN _ | fail
                · replace h := condF (by first | exact hc | (simpa only [se_len, se_ch, List.length_map] using hc; done) | (have h0 : (decide ((((y1.map TimerT.cells).length : Nat) : Int) = 0)) = false := hc; simpa only [se_len, se_ch, List.length_map] using h0)) h
                  conv => whnf
                  replace h := bindS h
                  obtain ⟨v89, hv89, h⟩ := h
                  have i90 := fun hg => gixF (f := TimerT.cells) (gdS hg hv89)
                  repeat' first | with_reducible rfl | with_reducible exact True.intro | with_reducible assumption | refine parkI ?_ | (refine ⟨_, i90, ?_⟩; conv => whnf) | exact clA _ | (refine And.intro ?_ ?_ <;> conv => whnf) | exact clG _ | (refine gand ?_ h; assumption) | fail
                  refine parkE (fun hc => ?_) (fun hc => ?_)
                  · replace h := condT hc h
                    conv => whnf
                    have e := Option.some.inj h
                    subst e
                    repeat' first | with_reducible rfl | with_reducible exact True.intro | with_reducible assumption | exact clA _ | (refine And.intro ?_ ?_ <;> conv => whnf) | exact clG _ | (refine gand ?_ h; assumption) | exact clN _ | fail
                  · replace h := condF hc h
                    conv => whnf
                    repeat' first | with_reducible rfl | with_reducible exact True.intro | with_reducible assumption | refine parkI ?_ | exact clA _ | (refine And.intro ?_ ?_ <;> conv => whnf) | exact clG _ | (refine gand ?_ h; assumption) | fail
                    refine parkE (fun hc => ?_) (fun hc => ?_)
                    · replace h := condT hc h
                      conv => whnf
                      have e := Option.some.inj h
                      subst e
                      repeat' first | with_reducible rfl | with_reducible exact True.intro | with_reducible assumption | exact clA _ | (refine And.intro ?_ ?_ <;> conv => whnf) | exact clG _ | (refine gand ?_ h; assumption) | exact clN _ | fail
                    · replace h := condF hc h
                      conv => whnf
                      replace h := bindS h
                      obtain ⟨y91, hy91, h⟩ := h
                      have c92 := c_ref05_Due y1 a3 _ hy91
                      replace h := grdS h
                      obtain ⟨g93, h⟩ := h
                      replace g93 : ((decide (y7.2.2 = 0)) = true → (0 : Int) ≤ y91 ∧ y91 ≤ (((y1.map TimerT.cells).length : Nat) : Int)) := by simpa only [se_len, se_ch, List.length_map] using g93
                      replace h := bindS h
                      obtain ⟨y94, hy94, h⟩ := h
                      have c95 : (decide (y7.2.2 = 0)) = true → CallP Try.prog 13 [(LV.ro 2 (y7.1.map TimerT.cells)), (LV.ro 2 ((y1.map TimerT.cells).drop (y91 : Int).toNat))] (LV.bool y94) := by first | exact fun (hg : (decide (y7.2.2 = 0)) = true) => c_ref05_Same y7.1 (y1.drop (y91 : Int).toNat) _ (gdS hg hy94) | (simpa only [se_map, se_byL, se_len, se_ch, List.length_map] using fun (hg : (decide (y7.2.2 = 0)) = true) => c_ref05_Same y7.1 (y1.drop (y91 : Int).toNat) _ (gdS hg hy94))
                      replace h := grdS h
                      obtain ⟨g96, h⟩ := h
                      replace g96 : ((bif (decide (y7.2.2 = 0)) then y94 else false) = true → (0 : Int) ≤ y91 ∧ y91 ≤ (((y1.map TimerT.cells).length : Nat) : Int)) := by simpa only [se_len, se_ch, List.length_map] using g96
                      replace h := bindS h
                      obtain ⟨y97, hy97, h⟩ := h
                      have c98 : (bif (decide (y7.2.2 = 0)) then y94 else false) = true → CallP Try.prog 13 [(LV.ro 2 (y7.2.1.map TimerT.cells)), (LV.ro 2 ((y1.map TimerT.cells).take (y91 : Int).toNat))] (LV.bool y97) := by first | exact fun (hg : (bif (decide (y7.2.2 = 0)) then y94 else false) = true) => c_ref05_Same y7.2.1 (y1.take (y91 : Int).toNat) _ (gdS hg hy97) | (simpa only [se_map, se_byL, se_len, se_ch, List.length_map] using fun (hg : (bif (decide (y7.2.2 = 0)) then y94 else false) = true) => c_ref05_Same y7.2.1 (y1.take (y91 : Int).toNat) _ (gdS hg hy97))
                      have e := Option.some.inj h
                      subst e
                      repeat' first | with_reducible rfl | with_reducible exact True.intro | with_reducible assumption | (refine ⟨_, c95, ?_⟩; conv => whnf) | (refine ⟨_, c98, ?_⟩; conv => whnf) | exact g93 | exact g96 | (refine CallP.use c92 ?_; conv => whnf) | exact clA _ | (refine And.intro ?_ ?_ <;> conv => whnf) | exact clG _ | (refine gand ?_ h; assumption) | exact clN _ | fail
            · replace h := condF hc h
              conv => whnf
              replace h := bindS h
              obtain ⟨y99, hy99, h⟩ := h
              have c100 := c_ref05_Place y1 a2 _ hy99
              repeat' first | with_reducible rfl | with_reducible exact True.intro | with_reducible assumption | refine parkI ?_ | (refine CallP.use c100 ?_; conv => whnf) | (refine And.intro ?_ ?_ <;> conv => whnf) | fail
              refine parkE (fun hc => ?_) (fun hc => ?_)
              · replace h := condT hc h
                conv => whnf
                repeat' first | with_reducible rfl | with_reducible exact True.intro | with_reducible assumption | refine parkI ?_ | exact clA _ | (refine And.intro ?_ ?_ <;> conv => whnf) | exact clG _ | (refine gand ?_ h; assumption) | fail
                refine parkE (fun hc => ?_) (fun hc => ?_)
                · replace h := condT (by first | exact hc | (simpa only [se_len, se_ch, List.length_map] using hc; done) | (have h0 : (bif (!decide (y5.2 = 4)) then true else (!decide ((((y5.1.map TimerT.cells).length : Nat) : Int) = 0))) = true := hc; simpa only [se_len, se_ch, List.length_map] using h0)) h
                  conv => whnf
                  have e := Option.some.inj h
                  subst e
                  repeat' first | with_reducible rfl | with_reducible exact True.intro | with_reducible assumption | exact clA _ | (refine And.intro ?_ ?_ <;> conv => whnf) | exact clG _ | (refine gand ?_ h; assumption) | exact clN _ | fail
                · replace h := condF (by first | exact hc | (simpa only [se_len, se_ch, List.length_map] using hc; done) | (have h0 : (bif (!decide (y5.2 = 4)) then true else (!decide ((((y5.1.map TimerT.cells).length : Nat) : Int) = 0))) = false := hc; simpa only [se_len, se_ch, List.length_map] using h0)) h
                  conv => whnf
                  repeat' first | with_reducible rfl | with_reducible exact True.intro | with_reducible assumption | refine parkI ?_ | (refine And.intro ?_ ?_ <;> conv => whnf) | fail
                  refine parkE (fun hc => ?_) (fun hc => ?_)
                  · replace h := condT (by first | exact hc | (simpa only [se_len, se_ch, List.length_map] using hc; done) | (have h0 : (decide ((((y1.map TimerT.cells).length : Nat) : Int) = 0)) = true := hc; simpa only [se_len, se_ch, List.length_map] using h0)) h
                    conv => whnf
                    repeat' first | with_reducible rfl | with_reducible exact True.intro | with_reducible assumption | refine parkI ?_ | exact clA _ | (refine And.intro ?_ ?_ <;> conv => whnf) | exact clG _ | (refine gand ?_ h; assumption) | fail
                    refine parkE (fun hc => ?_) (fun hc => ?_)
                    · replace h := condT hc h
                      conv => whnf
                      have e := Option.some.inj h
                      subst e
                      repeat' first | with_reducible rfl | with_reducible exact True.intro | with_reducible assumption | exact clA _ | (refine And.intro ?_ ?_ <;> conv => whnf) | exact clG _ | (refine gand ?_ h; assumption) | exact clN _ | fail
                    · replace h := condF hc h
                      conv => whnf
                      repeat' first | with_reducible rfl | with_reducible exact True.intro | with_reducible assumption | refine parkI ?_ | exact clA _ | (refine And.intro ?_ ?_ <;> conv => whnf) | exact clG _ | (refine gand ?_ h; assumption) | fail
                      refine parkE (fun hc => ?_) (fun hc => ?_)
                      · replace h := condT hc h
                        conv => whnf
                        have e := Option.some.inj h
                        subst e
                        repeat' first | with_reducible rfl | with_reducible exact True.intro | with_reducible assumption | exact clA _ | (refine And.intro ?_ ?_ <;> conv => whnf) | exact clG _ | (refine gand ?_ h; assumption) | exact clN _ | fail
                      · replace h := condF hc h
                        conv => whnf
                        replace h := bindS h
                        obtain ⟨y101, hy101, h⟩ := h
                        have c102 := c_ref05_Due y1 a3 _ hy101
                        replace h := grdS h
                        obtain ⟨g103, h⟩ := h
                        replace g103 : ((decide (y7.2.2 = 0)) = true → (0 : Int) ≤ y101 ∧ y101 ≤ (((y1.map TimerT.cells).length : Nat) : Int)) := by simpa only [se_len, se_ch, List.length_map] using g103
                        replace h := bindS h
                        obtain ⟨y104, hy104, h⟩ := h
                        have c105 : (decide (y7.2.2 = 0)) = true → CallP Try.prog 13 [(LV.ro 2 (y7.1.map TimerT.cells)), (LV.ro 2 ((y1.map TimerT.cells).drop (y101 : Int).toNat))] (LV.bool y104) := by first | exact fun (hg : (decide (y7.2.2 = 0)) = true) => c_ref05_Same y7.1 (y1.drop (y101 : Int).toNat) _ (gdS hg hy104) | (simpa only [se_map, se_byL, se_len, se_ch, List.length_map] using fun (hg : (decide (y7.2.2 = 0)) = true) => c_ref05_Same y7.1 (y1.drop (y101 : Int).toNat) _ (gdS hg hy104))
                        replace h := grdS h
                        obtain ⟨g106, h⟩ := h
                        replace g106 : ((bif (decide (y7.2.2 = 0)) then y104 else false) = true → (0 : Int) ≤ y101 ∧ y101 ≤ (((y1.map TimerT.cells).length : Nat) : Int)) := by simpa only [se_len, se_ch, List.length_map] using g106
                        replace h := bindS h
                        obtain ⟨y107, hy107, h⟩ := h
                        have c108 : (bif (decide (y7.2.2 = 0)) then y104 else false) = true → CallP Try.prog 13 [(LV.ro 2 (y7.2.1.map TimerT.cells)), (LV.ro 2 ((y1.map TimerT.cells).take (y101 : Int).toNat))] (LV.bool y107) := by first | exact fun (hg : (bif (decide (y7.2.2 = 0)) then y104 else false) = true) => c_ref05_Same y7.2.1 (y1.take (y101 : Int).toNat) _ (gdS hg hy107) | (simpa only [se_map, se_byL, se_len, se_ch, List.length_map] using fun (hg : (bif (decide (y7.2.2 = 0)) then y104 else false) = true) => c_ref05_Same y7.2.1 (y1.take (y101 : Int).toNat) _ (gdS hg hy107))
                        have e := Option.some.inj h
                        subst e
                        repeat' first | with_reducible rfl | with_reducible exact True.intro | with_reducible assumption | (refine ⟨_, c105, ?_⟩; conv => whnf) | (refine ⟨_, c108, ?_⟩; conv => whnf) | exact g103 | exact g106 | (refine CallP.use c102 ?_; conv => whnf) | exact clA _ | (refine And.intro ?_ ?_ <;> conv => whnf) | exact clG _ | (refine gand ?_ h; assumption) | exact clN _ | fail
                  · replace h := condF (by first | exact hc | (simpa only [se_len, se_ch, List.length_map] using hc; done) | (have h0 : (decide ((((y1.map TimerT.cells).length : Nat) : Int) = 0)) = false := hc; simpa only [se_len, se_ch, List.length_map] using h0)) h
                    conv => whnf
                    replace h := bindS h
                    obtain ⟨v109, hv109, h⟩ := h
                    have i110 := fun hg => gixF (f := TimerT.cells) (gdS hg hv109)
                    repeat' first | with_reducible rfl | with_reducible exact True.intro | with_reducible assumption | refine parkI ?_ | (refine ⟨_, i110, ?_⟩; conv => whnf) | exact clA _ | (refine And.intro ?_ ?_ <;> conv => whnf) | exact clG _ | (refine gand ?_ h; assumption) | fail
                    refine parkE (fun hc => ?_) (fun hc => ?_)
                    · replace h := condT hc h
                      conv => whnf
                      have e := Option.some.inj h
                      subst e
                      repeat' first | with_reducible rfl | with_reducible exact True.intro | with_reducible assumption | exact clA _ | (refine And.intro ?_ ?_ <;> conv => whnf) | exact clG _ | (refine gand ?_ h; assumption) | exact clN _ | fail
                    · replace h := condF hc h
                      conv => whnf
                      repeat' first | with_reducible rfl | with_reducible exact True.intro | with_reducible assumption | refine parkI ?_ | exact clA _ | (refine And.intro ?_ ?_ <;> conv => whnf) | exact clG _ | (refine gand ?_ h; assumption) | fail
                      refine parkE (fun hc => ?_) (fun hc => ?_)
                      · replace h := condT hc h
                        conv => whnf
                        have e := Option.some.inj h
                        subst e
                        repeat' first | with_reducible rfl | with_reducible exact True.intro | with_reducible assumption | exact clA _ | (refine And.intro ?_ ?_ <;> conv => whnf) | exact clG _ | (refine gand ?_ h; assumption) | exact clN _ | fail
                      · replace h := condF hc h
                        conv => whnf
                        replace h := bindS h
                        obtain ⟨y111, hy111, h⟩ := h
                        have c112 := c_ref05_Due y1 a3 _ hy111
                        replace h := grdS h
                        obtain ⟨g113, h⟩ := h
                        replace g113 : ((decide (y7.2.2 = 0)) = true → (0 : Int) ≤ y111 ∧ y111 ≤ (((y1.map TimerT.cells).length : Nat) : Int)) := by simpa only [se_len, se_ch, List.length_map] using g113
                        replace h := bindS h
                        obtain ⟨y114, hy114, h⟩ := h
                        have c115 : (decide (y7.2.2 = 0)) = true → CallP Try.prog 13 [(LV.ro 2 (y7.1.map TimerT.cells)), (LV.ro 2 ((y1.map TimerT.cells).drop (y111 : Int).toNat))] (LV.bool y114) := by first | exact fun (hg : (decide (y7.2.2 = 0)) = true) => c_ref05_Same y7.1 (y1.drop (y111 : Int).toNat) _ (gdS hg hy114) | (simpa only [se_map, se_byL, se_len, se_ch, List.length_map] using fun (hg : (decide (y7.2.2 = 0)) = true) => c_ref05_Same y7.1 (y1.drop (y111 : Int).toNat) _ (gdS hg hy114))
                        replace h := grdS h
                        obtain ⟨g116, h⟩ := h
                        replace g116 : ((bif (decide (y7.2.2 = 0)) then y114 else false) = true → (0 : Int) ≤ y111 ∧ y111 ≤ (((y1.map TimerT.cells).length : Nat) : Int)) := by simpa only [se_len, se_ch, List.length_map] using g116
                        replace h := bindS h
                        obtain ⟨y117, hy117, h⟩ := h
                        have c118 : (bif (decide (y7.2.2 = 0)) then y114 else false) = true → CallP Try.prog 13 [(LV.ro 2 (y7.2.1.map TimerT.cells)), (LV.ro 2 ((y1.map TimerT.cells).take (y111 : Int).toNat))] (LV.bool y117) := by first | exact fun (hg : (bif (decide (y7.2.2 = 0)) then y114 else false) = true) => c_ref05_Same y7.2.1 (y1.take (y111 : Int).toNat) _ (gdS hg hy117) | (simpa only [se_map, se_byL, se_len, se_ch, List.length_map] using fun (hg : (bif (decide (y7.2.2 = 0)) then y114 else false) = true) => c_ref05_Same y7.2.1 (y1.take (y111 : Int).toNat) _ (gdS hg hy117))
                        have e := Option.some.inj h
                        subst e
                        repeat' first | with_reducible rfl | with_reducible exact True.intro | with_reducible assumption | (refine ⟨_, c115, ?_⟩; conv => whnf) | (refine ⟨_, c118, ?_⟩; conv => whnf) | exact g113 | exact g116 | (refine CallP.use c112 ?_; conv => whnf) | exact clA _ | (refine And.intro ?_ ?_ <;> conv => whnf) | exact clG _ | (refine gand ?_ h; assumption) | exact clN _ | fail
              · replace h := condF hc h
                conv => whnf
                replace h := bindS h
                obtain ⟨y119, hy119, h⟩ := h
                have c120 := fun (hg : (!(!decide (y5.2 = 0))) = true) => c_ref05_Without y1 a2 _ (gdS hg hy119)
                replace h := bindS h
                obtain ⟨y121, hy121, h⟩ := h
                have c122 := fun (hg : (!(!decide (y5.2 = 0))) = true) => c_ref05_Same y5.1 y119 _ (gdS hg hy121)
                repeat' first | with_reducible rfl | with_reducible exact True.intro | with_reducible assumption | refine parkI ?_ | (refine ⟨_, c120, ?_⟩; conv => whnf) | (refine ⟨_, c122, ?_⟩; conv => whnf) | exact clA _ | (refine And.intro ?_ ?_ <;> conv => whnf) | exact clG _ | (refine gand ?_ h; assumption) | fail
                refine parkE (fun hc => ?_) (fun hc => ?_)
                · replace h := condT hc h
                  conv => whnf
                  have e := Option.some.inj h
                  subst e
                  repeat' first | with_reducible rfl | with_reducible exact True.intro | with_reducible assumption | exact clA _ | (refine And.intro ?_ ?_ <;> conv => whnf) | exact clG _ | (refine gand ?_ h; assumption) | exact clN _ | fail
                · replace h := condF hc h
                  conv => whnf
                  repeat' first | with_reducible rfl | with_reducible exact True.intro | with_reducible assumption | refine parkI ?_ | (refine And.intro ?_ ?_ <;> conv => whnf) | fail
                  refine parkE (fun hc => ?_) (fun hc => ?_)
                  · replace h := condT (by first | exact hc | (simpa only [se_len, se_ch, List.length_map] using hc; done) | (have h0 : (decide ((((y1.map TimerT.cells).length : Nat) : Int) = 0)) = true := hc; simpa only [se_len, se_ch, List.length_map] using h0)) h
                    conv => whnf
                    repeat' first | with_reducible rfl | with_reducible exact True.intro | with_reducible assumption | refine parkI ?_ | exact clA _ | (refine And.intro ?_ ?_ <;> conv => whnf) | exact clG _ | (refine gand ?_ h; assumption) | fail
                    refine parkE (fun hc => ?_) (fun hc => ?_)
                    · replace h := condT hc h
                      conv => whnf
                      have e := Option.some.inj h
                      subst e
                      repeat' first | with_reducible rfl | with_reducible exact True.intro | with_reducible assumption | exact clA _ | (refine And.intro ?_ ?_ <;> conv => whnf) | exact clG _ | (refine gand ?_ h; assumption) | exact clN _ | fail
                    · replace h := condF hc h
                      conv => whnf
                      repeat' first | with_reducible rfl | with_reducible exact True.intro | with_reducible assumption | refine parkI ?_ | exact clA _ | (refine And.intro ?_ ?_ <;> conv => whnf) | exact clG _ | (refine gand ?_ h; assumption) | fail
                      refine parkE (fun hc => ?_) (fun hc => ?_)
                      · replace h := condT hc h
                        conv => whnf
                        have e := Option.some.inj h
                        subst e
                        repeat' first | with_reducible rfl | with_reducible exact True.intro | with_reducible assumption | exact clA _ | (refine And.intro ?_ ?_ <;> conv => whnf) | exact clG _ | (refine gand ?_ h; assumption) | exact clN _ | fail
                      · replace h := condF hc h
                        conv => whnf
                        replace h := bindS h
                        obtain ⟨y123, hy123, h⟩ := h
                        have c124 := c_ref05_Due y1 a3 _ hy123
                        replace h := grdS h
                        obtain ⟨g125, h⟩ := h
                        replace g125 : ((decide (y7.2.2 = 0)) = true → (0 : Int) ≤ y123 ∧ y123 ≤ (((y1.map TimerT.cells).length : Nat) : Int)) := by simpa only [se_len, se_ch, List.length_map] using g125
                        replace h := bindS h
                        obtain ⟨y126, hy126, h⟩ := h
                        have c127 : (decide (y7.2.2 = 0)) = true → CallP Try.prog 13 [(LV.ro 2 (y7.1.map TimerT.cells)), (LV.ro 2 ((y1.map TimerT.cells).drop (y123 : Int).toNat))] (LV.bool y126) := by first | exact fun (hg : (decide (y7.2.2 = 0)) = true) => c_ref05_Same y7.1 (y1.drop (y123 : Int).toNat) _ (gdS hg hy126) | (simpa only [se_map, se_byL, se_len, se_ch, List.length_map] using fun (hg : (decide (y7.2.2 = 0)) = true) => c_ref05_Same y7.1 (y1.drop (y123 : Int).toNat) _ (gdS hg hy126))
                        replace h := grdS h
                        obtain ⟨g128, h⟩ := h
                        replace g128 : ((bif (decide (y7.2.2 = 0)) then y126 else false) = true → (0 : Int) ≤ y123 ∧ y123 ≤ (((y1.map TimerT.cells).length : Nat) : Int)) := by simpa only [se_len, se_ch, List.length_map] using g128
                        replace h := bindS h
                        obtain ⟨y129, hy129, h⟩ := h
                        have c130 : (bif (decide (y7.2.2 = 0)) then y126 else false) = true → CallP Try.prog 13 [(LV.ro 2 (y7.2.1.map TimerT.cells)), (LV.ro 2 ((y1.map TimerT.cells).take (y123 : Int).toNat))] (LV.bool y129) := by first | exact fun (hg : (bif (decide (y7.2.2 = 0)) then y126 else false) = true) => c_ref05_Same y7.2.1 (y1.take (y123 : Int).toNat) _ (gdS hg hy129) | (simpa only [se_map, se_byL, se_len, se_ch, List.length_map] using fun (hg : (bif (decide (y7.2.2 = 0)) then y126 else false) = true) => c_ref05_Same y7.2.1 (y1.take (y123 : Int).toNat) _ (gdS hg hy129))
                        have e := Option.some.inj h
                        subst e
                        repeat' first | with_reducible rfl | with_reducible exact True.intro | with_reducible assumption | (refine ⟨_, c127, ?_⟩; conv => whnf) | (refine ⟨_, c130, ?_⟩; conv => whnf) | exact g125 | exact g128 | (refine CallP.use c124 ?_; conv => whnf) | exact clA _ | (refine And.intro ?_ ?_ <;> conv => whnf) | exact clG _ | (refine gand ?_ h; assumption) | exact clN _ | fail
                  · replace h := condF (by first | exact hc | (simpa only [se_len, se_ch, List.length_map] using hc; done) | (have h0 : (decide ((((y1.map TimerT.cells).length : Nat) : Int) = 0)) = false := hc; simpa only [se_len, se_ch, List.length_map] using h0)) h
                    conv => whnf
                    replace h := bindS h
                    obtain ⟨v131, hv131, h⟩ := h
                    have i132 := fun hg => gixF (f := TimerT.cells) (gdS hg hv131)
                    repeat' first | with_reducible rfl | with_reducible exact True.intro | with_reducible assumption | refine parkI ?_ | (refine ⟨_, i132, ?_⟩; conv => whnf) | exact clA _ | (refine And.intro ?_ ?_ <;> conv => whnf) | exact clG _ | (refine gand ?_ h; assumption) | fail
                    refine parkE (fun hc => ?_) (fun hc => ?_)
                    · replace h := condT hc h
                      conv => whnf
                      have e := Option.some.inj h
                      subst e
                      repeat' first | with_reducible rfl | with_reducible exact True.intro | with_reducible assumption | exact clA _ | (refine And.intro ?_ ?_ <;> conv => whnf) | exact clG _ | (refine gand ?_ h; assumption) | exact clN _ | fail
                    · replace h := condF hc h
                      conv => whnf
                      repeat' first | with_reducible rfl | with_reducible exact True.intro | with_reducible assumption | refine parkI ?_ | exact clA _ | (refine And.intro ?_ ?_ <;> conv => whnf) | exact clG _ | (refine gand ?_ h; assumption) | fail
                      refine parkE (fun hc => ?_) (fun hc => ?_)
                      · replace h := condT hc h
                        conv => whnf
                        have e := Option.some.inj h
                        subst e
                        repeat' first | with_reducible rfl | with_reducible exact True.intro | with_reducible assumption | exact clA _ | (refine And.intro ?_ ?_ <;> conv => whnf) | exact clG _ | (refine gand ?_ h; assumption) | exact clN _ | fail
                      · replace h := condF hc h
                        conv => whnf
                        replace h := bindS h
                        obtain ⟨y133, hy133, h⟩ := h
                        have c134 := c_ref05_Due y1 a3 _ hy133
                        replace h := grdS h
                        obtain ⟨g135, h⟩ := h
                        replace g135 : ((decide (y7.2.2 = 0)) = true → (0 : Int) ≤ y133 ∧ y133 ≤ (((y1.map TimerT.cells).length : Nat) : Int)) := by simpa only [se_len, se_ch, List.length_map] using g135
                        replace h := bindS h
                        obtain ⟨y136, hy136, h⟩ := h
                        have c137 : (decide (y7.2.2 = 0)) = true → CallP Try.prog 13 [(LV.ro 2 (y7.1.map TimerT.cells)), (LV.ro 2 ((y1.map TimerT.cells).drop (y133 : Int).toNat))] (LV.bool y136) := by first | exact fun (hg : (decide (y7.2.2 = 0)) = true) => c_ref05_Same y7.1 (y1.drop (y133 : Int).toNat) _ (gdS hg hy136) | (simpa only [se_map, se_byL, se_len, se_ch, List.length_map] using fun (hg : (decide (y7.2.2 = 0)) = true) => c_ref05_Same y7.1 (y1.drop (y133 : Int).toNat) _ (gdS hg hy136))
                        replace h := grdS h
                        obtain ⟨g138, h⟩ := h
                        replace g138 : ((bif (decide (y7.2.2 = 0)) then y136 else false) = true → (0 : Int) ≤ y133 ∧ y133 ≤ (((y1.map TimerT.cells).length : Nat) : Int)) := by simpa only [se_len, se_ch, List.length_map] using g138
                        replace h := bindS h
                        obtain ⟨y139, hy139, h⟩ := h
                        have c140 : (bif (decide (y7.2.2 = 0)) then y136 else false) = true → CallP Try.prog 13 [(LV.ro 2 (y7.2.1.map TimerT.cells)), (LV.ro 2 ((y1.map TimerT.cells).take (y133 : Int).toNat))] (LV.bool y139) := by first | exact fun (hg : (bif (decide (y7.2.2 = 0)) then y136 else false) = true) => c_ref05_Same y7.2.1 (y1.take (y133 : Int).toNat) _ (gdS hg hy139) | (simpa only [se_map, se_byL, se_len, se_ch, List.length_map] using fun (hg : (bif (decide (y7.2.2 = 0)) then y136 else false) = true) => c_ref05_Same y7.2.1 (y1.take (y133 : Int).toNat) _ (gdS hg hy139))
                        have e := Option.some.inj h
                        subst e
                        repeat' first | with_reducible rfl | with_reducible exact True.intro | with_reducible assumption | (refine ⟨_, c137, ?_⟩; conv => whnf) | (refine ⟨_, c140, ?_⟩; conv => whnf) | exact g135 | exact g138 | (refine CallP.use c134 ?_; conv => whnf) | exact clA _ | (refine And.intro ?_ ?_ <;> conv => whnf) | exact clG _ | (refine gand ?_ h; assumption) | exact clN _ | fail
        · replace h := condF (by first | exact hc | (simpa only [se_len, se_ch, List.length_map] using hc; done) | (have h0 : (decide (64 < (((y17.map TimerT.cells).length : Nat) : Int))) = false := hc; simpa only [se_len, se_ch, List.length_map] using h0)) h
          conv => whnf
          repeat' first | with_reducible rfl | with_reducible exact True.intro | with_reducible assumption | refine parkI ?_ | exact clA _ | (refine And.intro ?_ ?_ <;> conv => whnf) | exact clG _ | (refine gand ?_ h; assumption) | fail
          refine parkE (fun hg1_ => ?_) (fun hg1_ => ?_)
          · replace h := condT (by first | exact hg1_ | simpa only [se_len, se_ch, List.length_map] using hg1_) h
            conv => whnf
            replace h := bindS h
            obtain ⟨y141, hy141, h⟩ := h
            have c142 := c_ref05_Same y3.1 y17 _ hy141
            repeat' first | with_reducible rfl | with_reducible exact True.intro | with_reducible assumption | refine parkI ?_ | (refine CallP.use c142 ?_; conv => whnf) | exact clA _ | (refine And.intro ?_ ?_ <;> conv => whnf) | exact clG _ | (refine gand ?_ h; assumption) | exact clN _ | (intro hq_; conv => whnf) | fail
            refine parkE (fun hc => ?_) (fun hc => ?_)
            · replace h := condT hc h
              conv => whnf
              have e := Option.some.inj h
              subst e
              repeat' first | with_reducible rfl | with_reducible exact True.intro | with_reducible assumption | exact clA _ | (refine And.intro ?_ ?_ <;> conv => whnf) | exact clG _ | (refine gand ?_ h; assumption) | exact clN _ | (intro hq_; conv => whnf) | fail
            · replace h := condF hc h
              conv => whnf
              repeat' first | with_reducible rfl | with_reducible exact True.intro | with_reducible assumption | refine parkI ?_ | (refine And.intro ?_ ?_ <;> conv => whnf) | (intro hq_; conv => whnf) | fail
              refine parkE (fun hc => ?_) (fun hc => ?_)
              · replace h := condT hc h
                conv => whnf
                repeat' first | with_reducible rfl | with_reducible exact True.intro | with_reducible assumption | refine parkI ?_ | exact clA _ | (refine And.intro ?_ ?_ <;> conv => whnf) | exact clG _ | (refine gand ?_ h; assumption) | (intro hq_; conv => whnf) | fail
                refine parkE (fun hc => ?_) (fun hc => ?_)
                · replace h := condT (by first | exact hc | (simpa only [se_len, se_ch, List.length_map] using hc; done) | (have h0 : (bif (!decide (y5.2 = 1)) then true else (!decide ((((y5.1.map TimerT.cells).length : Nat) : Int) = 0))) = true := hc; simpa only [se_len, se_ch, List.length_map] using h0)) h
                  conv => whnf
                  have e := Option.some.inj h
                  subst e
                  repeat' first | with_reducible rfl | with_reducible exact True.intro | with_reducible assumption | exact clA _ | (refine And.intro ?_ ?_ <;> conv => whnf) | exact clG _ | (refine gand ?_ h; assumption) | exact clN _ | (intro hq_; conv => whnf) | fail
                · replace h := condF (by first | exact hc | (simpa only [se_len, se_ch, List.length_map] using hc; done) | (have h0 : (bif (!decide (y5.2 = 1)) then true else (!decide ((((y5.1.map TimerT.cells).length : Nat) : Int) = 0))) = false := hc; simpa only [se_len, se_ch, List.length_map] using h0)) h
                  conv => whnf
                  repeat' first | with_reducible rfl | with_reducible exact True.intro | with_reducible assumption | refine parkI ?_ | (refine And.intro ?_ ?_ <;> conv => whnf) | (intro hq_; conv => whnf) | fail
                  refine parkE (fun hc => ?_) (fun hc => ?_)
                  · replace h := condT (by first | exact hc | (simpa only [se_len, se_ch, List.length_map] using hc; done) | (have h0 : (decide ((((y1.map TimerT.cells).length : Nat) : Int) = 0)) = true := hc; simpa only [se_len, se_ch, List.length_map] using h0)) h
                    conv => whnf
                    repeat' first | with_reducible rfl | with_reducible exact True.intro | with_reducible assumption | refine parkI ?_ | exact clA _ | (refine And.intro ?_ ?_ <;> conv => whnf) | exact clG _ | (refine gand ?_ h; assumption) | (intro hq_; conv => whnf) | fail
                    refine parkE (fun hc => ?_) (fun hc => ?_)
                    · replace h := condT hc h
                      conv => whnf
                      have e := Option.some.inj h
                      subst e
                      repeat' first | with_reducible rfl | with_reducible exact True.intro | with_reducible assumption | exact clA _ | (refine And.intro ?_ ?_ <;> conv => whnf) | exact clG _ | (refine gand ?_ h; assumption) | exact clN _ | (intro hq_; conv => whnf) | fail
                    · replace h := condF hc h
                      conv => whnf
                      repeat' first | with_reducible rfl | with_reducible exact True.intro | with_reducible assumption | refine parkI ?_ | exact clA _ | (refine And.intro ?_ ?_ <;> conv => whnf) | exact clG _ | (refine gand ?_ h; assumption) | (intro hq_; conv => whnf) | fail
                      refine parkE (fun hc => ?_) (fun hc => ?_)
                      · replace h := condT hc h
                        conv => whnf
                        have e := Option.some.inj h
                        subst e
                        repeat' first | with_reducible rfl | with_reducible exact True.intro | with_reducible assumption | exact clA _ | (refine And.intro ?_ ?_ <;> conv => whnf) | exact clG _ | (refine gand ?_ h; assumption) | exact clN _ | (intro hq_; conv => whnf) | fail
                      · replace h := condF hc h
                        conv => whnf
                        replace h := bindS h
                        obtain ⟨y143, hy143, h⟩ := h
                        have c144 := c_ref05_Due y1 a3 _ hy143
                        replace h := grdS h
                        obtain ⟨g145, h⟩ := h
                        replace g145 : ((decide (y7.2.2 = 0)) = true → (0 : Int) ≤ y143 ∧ y143 ≤ (((y1.map TimerT.cells).length : Nat) : Int)) := by simpa only [se_len, se_ch, List.length_map] using g145
                        replace h := bindS h
                        obtain ⟨y146, hy146, h⟩ := h
                        have c147 : (decide (y7.2.2 = 0)) = true → CallP Try.prog 13 [(LV.ro 2 (y7.1.map TimerT.cells)), (LV.ro 2 ((y1.map TimerT.cells).drop (y143 : Int).toNat))] (LV.bool y146) := by first | exact fun (hg : (decide (y7.2.2 = 0)) = true) => c_ref05_Same y7.1 (y1.drop (y143 : Int).toNat) _ (gdS hg hy146) | (simpa only [se_map, se_byL, se_len, se_ch, List.length_map] using fun (hg : (decide (y7.2.2 = 0)) = true) => c_ref05_Same y7.1 (y1.drop (y143 : Int).toNat) _ (gdS hg hy146))
                        replace h := grdS h
                        obtain ⟨g148, h⟩ := h
                        replace g148 : ((bif (decide (y7.2.2 = 0)) then y146 else false) = true → (0 : Int) ≤ y143 ∧ y143 ≤ (((y1.map TimerT.cells).length : Nat) : Int)) := by simpa only [se_len, se_ch, List.length_map] using g148
                        replace h := bindS h
                        obtain ⟨y149, hy149, h⟩ := h
                        have c150 : (bif (decide (y7.2.2 = 0)) then y146 else false) = true → CallP Try.prog 13 [(LV.ro 2 (y7.2.1.map TimerT.cells)), (LV.ro 2 ((y1.map TimerT.cells).take (y143 : Int).toNat))] (LV.bool y149) := by first | exact fun (hg : (bif (decide (y7.2.2 = 0)) then y146 else false) = true) => c_ref05_Same y7.2.1 (y1.take (y143 : Int).toNat) _ (gdS hg hy149) | (simpa only [se_map, se_byL, se_len, se_ch, List.length_map] using fun (hg : (bif (decide (y7.2.2 = 0)) then y146 else false) = true) => c_ref05_Same y7.2.1 (y1.take (y143 : Int).toNat) _ (gdS hg hy149))
                        have e := Option.some.inj h
                        subst e
                        repeat' first | with_reducible rfl | with_reducible exact True.intro | with_reducible assumption | (refine ⟨_, c147, ?_⟩; conv => whnf) | (refine ⟨_, c150, ?_⟩; conv => whnf) | exact g145 | exact g148 | (refine CallP.use c144 ?_; conv => whnf) | exact clA _ | (refine And.intro ?_ ?_ <;> conv => whnf) | exact clG _ | (refine gand ?_ h; assumption) | exact clN _ | (intro hq_; conv => whnf) | fail
                  · replace h := condF (by first | exact hc | (simpa only [se_len, se_ch, List.length_map] using hc; done) | (have h0 : (decide ((((y1.map TimerT.cells).length : Nat) : Int) = 0)) = false := hc; simpa only [se_len, se_ch, List.length_map] using h0)) h
                    conv => whnf
                    replace h := bindS h
                    obtain ⟨v151, hv151, h⟩ := h
                    have i152 := fun hg => gixF (f := TimerT.cells) (gdS hg hv151)
                    repeat' first | with_reducible rfl | with_reducible exact True.intro | with_reducible assumption | refine parkI ?_ | (refine ⟨_, i152, ?_⟩; conv => whnf) | exact clA _ | (refine And.intro ?_ ?_ <;> conv => whnf) | exact clG _ | (refine gand ?_ h; assumption) | (intro hq_; conv => whnf) | fail
                    refine parkE (fun hc => ?_) (fun hc => ?_)
                    · replace h := condT hc h
                      conv => whnf
                      have e := Option.some.inj h
                      subst e
                      repeat' first | with_reducible rfl | with_reducible exact True.intro | with_reducible assumption | exact clA _ | (refine And.intro ?_ ?_ <;> conv => whnf) | exact clG _ | (refine gand ?_ h; assumption) | exact clN _ | (intro hq_; conv => whnf) | fail
                    · replace h := condF hc h
                      conv => whnf
                      repeat' first | with_reducible rfl | with_reducible exact True.intro | with_reducible assumption | refine parkI ?_ | exact clA _ | (refine And.intro ?_ ?_ <;> conv => whnf) | exact clG _ | (refine gand ?_ h; assumption) | (intro hq_; conv => whnf) | fail
                      refine parkE (fun hc => ?_) (fun hc => ?_)
                      · replace h := condT hc h
                        conv => whnf
                        have e := Option.some.inj h
                        subst e
                        repeat' first | with_reducible rfl | with_reducible exact True.intro | with_reducible assumption | exact clA _ | (refine And.intro ?_ ?_ <;> conv => whnf) | exact clG _ | (refine gand ?_ h; assumption) | exact clN _ | (intro hq_; conv => whnf) | fail
                      · replace h := condF hc h
                        conv => whnf
                        replace h := bindS h
                        obtain ⟨y153, hy153, h⟩ := h
                        have c154 := c_ref05_Due y1 a3 _ hy153
                        replace h := grdS h
                        obtain ⟨g155, h⟩ := h
                        replace g155 : ((decide (y7.2.2 = 0)) = true → (0 : Int) ≤ y153 ∧ y153 ≤ (((y1.map TimerT.cells).length : Nat) : Int)) := by simpa only [se_len, se_ch, List.length_map] using g155
                        replace h := bindS h
                        obtain ⟨y156, hy156, h⟩ := h
                        have c157 : (decide (y7.2.2 = 0)) = true → CallP Try.prog 13 [(LV.ro 2 (y7.1.map TimerT.cells)), (LV.ro 2 ((y1.map TimerT.cells).drop (y153 : Int).toNat))] (LV.bool y156) := by first | exact fun (hg : (decide (y7.2.2 = 0)) = true) => c_ref05_Same y7.1 (y1.drop (y153 : Int).toNat) _ (gdS hg hy156) | (simpa only [se_map, se_byL, se_len, se_ch, List.length_map] using fun (hg : (decide (y7.2.2 = 0)) = true) => c_ref05_Same y7.1 (y1.drop (y153 : Int).toNat) _ (gdS hg hy156))
                        replace h := grdS h
                        obtain ⟨g158, h⟩ := h
                        replace g158 : ((bif (decide (y7.2.2 = 0)) then y156 else false) = true → (0 : Int) ≤ y153 ∧ y153 ≤ (((y1.map TimerT.cells).length : Nat) : Int)) := by simpa only [se_len, se_ch, List.length_map] using g158
                        replace h := bindS h
                        obtain ⟨y159, hy159, h⟩ := h
                        have c160 : (bif (decide (y7.2.2 = 0)) then y156 else false) = true → CallP Try.prog 13 [(LV.ro 2 (y7.2.1.map TimerT.cells)), (LV.ro 2 ((y1.map TimerT.cells).take (y153 : Int).toNat))] (LV.bool y159) := by first | exact fun (hg : (bif (decide (y7.2.2 = 0)) then y156 else false) = true) => c_ref05_Same y7.2.1 (y1.take (y153 : Int).toNat) _ (gdS hg hy159) | (simpa only [se_map, se_byL, se_len, se_ch, List.length_map] using fun (hg : (bif (decide (y7.2.2 = 0)) then y156 else false) = true) => c_ref05_Same y7.2.1 (y1.take (y153 : Int).toNat) _ (gdS hg hy159))
                        have e := Option.some.inj h
                        subst e
                        repeat' first | with_reducible rfl | with_reducible exact True.intro | with_reducible assumption | (refine ⟨_, c157, ?_⟩; conv => whnf) | (refine ⟨_, c160, ?_⟩; conv => whnf) | exact g155 | exact g158 | (refine CallP.use c154 ?_; conv => whnf) | exact clA _ | (refine And.intro ?_ ?_ <;> conv => whnf) | exact clG _ | (refine gand ?_ h; assumption) | exact clN _ | (intro hq_; conv => whnf) | fail
              · replace h := condF hc h
                conv => whnf
                replace h := bindS h
                obtain ⟨y161, hy161, h⟩ := h
                have c162 := c_ref05_Place y1 a2 _ hy161
                repeat' first | with_reducible rfl | with_reducible exact True.intro | with_reducible assumption | refine parkI ?_ | (refine CallP.use c162 ?_; conv => whnf) | (refine And.intro ?_ ?_ <;> conv => whnf) | (intro hq_; conv => whnf) | fail
                refine parkE (fun hc => ?_) (fun hc => ?_)
                · replace h := condT hc h
                  conv => whnf
                  repeat' first | with_reducible rfl | with_reducible exact True.intro | with_reducible assumption | refine parkI ?_ | exact clA _ | (refine And.intro ?_ ?_ <;> conv => whnf) | exact clG _ | (refine gand ?_ h; assumption) | (intro hq_; conv => whnf) | fail
                  refine parkE (fun hc => ?_) (fun hc => ?_)
                  · replace h := condT (by first | exact hc | (simpa only [se_len, se_ch, List.length_map] using hc; done) | (have h0 : (bif (!decide (y5.2 = 4)) then true else (!decide ((((y5.1.map TimerT.cells).length : Nat) : Int) = 0))) = true := hc; simpa only [se_len, se_ch, List.length_map] using h0)) h
                    conv => whnf
                    have e := Option.some.inj h
                    subst e
                    repeat' first | with_reducible rfl | with_reducible exact True.intro | with_reducible assumption | exact clA _ | (refine And.intro ?_ ?_ <;> conv => whnf) | exact clG _ | (refine gand ?_ h; assumption) | exact clN _ | (intro hq_; conv => whnf) | fail
                  · replace h := condF (by first | exact hc | (simpa only [se_len, se_ch, List.length_map] using hc; done) | (have h0 : (bif (!decide (y5.2 = 4)) then true else (!decide ((((y5.1.map TimerT.cells).length : Nat) : Int) = 0))) = false := hc; simpa only [se_len, se_ch, List.length_map] using h0)) h
                    conv => whnf
                    repeat' first | with_reducible rfl | with_reducible exact True.intro | with_reducible assumption | refine parkI ?_ | (refine And.intro ?_ ?_ <;> conv => whnf) | (intro hq_; conv => whnf) | fail
                    refine parkE (fun hc => ?_) (fun hc => ?_)
                    · replace h := condT (by first | exact hc | (simpa only [se_len, se_ch, List.length_map] using hc; done) | (have h0 : (decide ((((y1.map TimerT.cells).length : Nat) : Int) = 0)) = true := hc; simpa only [se_len, se_ch, List.length_map] using h0)) h
                      conv => whnf
                      repeat' first | with_reducible rfl | with_reducible exact True.intro | with_reducible assumption | refine parkI ?_ | exact clA _ | (refine And.intro ?_ ?_ <;> conv => whnf) | exact clG _ | (refine gand ?_ h; assumption) | (intro hq_; conv => whnf) | fail
                      refine parkE (fun hc => ?_) (fun hc => ?_)
                      · replace h := condT hc h
                        conv => whnf
                        have e := Option.some.inj h
                        subst e
                        repeat' first | with_reducible rfl | with_reducible exact True.intro | with_reducible assumption | exact clA _ | (refine And.intro ?_ ?_ <;> conv => whnf) | exact clG _ | (refine gand ?_ h; assumption) | exact clN _ | (intro hq_; conv => whnf) | fail
                      · replace h := condF hc h
                        conv => whnf
                        repeat' first | with_reducible rfl | with_reducible exact True.intro | with_reducible assumption | refine parkI ?_ | exact clA _ | (refine And.intro ?_ ?_ <;> conv => whnf) | exact clG _ | (refine gand ?_ h; assumption) | (intro hq_; conv => whnf) | fail
                        refine parkE (fun hc => ?_) (fun hc => ?_)
                        · replace h := condT hc h
                          conv => whnf
                          have e := Option.some.inj h
                          subst e
                          repeat' first | with_reducible rfl | with_reducible exact True.intro | with_reducible assumption | exact clA _ | (refine And.intro ?_ ?_ <;> conv => whnf) | exact clG _ | (refine gand ?_ h; assumption) | exact clN _ | (intro hq_; conv => whnf) | fail
                        · replace h := condF hc h
                          conv => whnf
                          replace h := bindS h
                          obtain ⟨y163, hy163, h⟩ := h
                          have c164 := c_ref05_Due y1 a3 _ hy163
                          replace h := grdS h
                          obtain ⟨g165, h⟩ := h
                          replace g165 : ((decide (y7.2.2 = 0)) = true → (0 : Int) ≤ y163 ∧ y163 ≤ (((y1.map TimerT.cells).length : Nat) : Int)) := by simpa only [se_len, se_ch, List.length_map] using g165
                          replace h := bindS h
                          obtain ⟨y166, hy166, h⟩ := h
                          have c167 : (decide (y7.2.2 = 0)) = true → CallP Try.prog 13 [(LV.ro 2 (y7.1.map TimerT.cells)), (LV.ro 2 ((y1.map TimerT.cells).drop (y163 : Int).toNat))] (LV.bool y166) := by first | exact fun (hg : (decide (y7.2.2 = 0)) = true) => c_ref05_Same y7.1 (y1.drop (y163 : Int).toNat) _ (gdS hg hy166) | (simpa only [se_map, se_byL, se_len, se_ch, List.length_map] using fun (hg : (decide (y7.2.2 = 0)) = true) => c_ref05_Same y7.1 (y1.drop (y163 : Int).toNat) _ (gdS hg hy166))
                          replace h := grdS h
                          obtain ⟨g168, h⟩ := h
                          replace g168 : ((bif (decide (y7.2.2 = 0)) then y166 else false) = true → (0 : Int) ≤ y163 ∧ y163 ≤ (((y1.map TimerT.cells).length : Nat) : Int)) := by simpa only [se_len, se_ch, List.length_map] using g168
                          replace h := bindS h
                          obtain ⟨y169, hy169, h⟩ := h
                          have c170 : (bif (decide (y7.2.2 = 0)) then y166 else false) = true → CallP Try.prog 13 [(LV.ro 2 (y7.2.1.map TimerT.cells)), (LV.ro 2 ((y1.map TimerT.cells).take (y163 : Int).toNat))] (LV.bool y169) := by first | exact fun (hg : (bif (decide (y7.2.2 = 0)) then y166 else false) = true) => c_ref05_Same y7.2.1 (y1.take (y163 : Int).toNat) _ (gdS hg hy169) | (simpa only [se_map, se_byL, se_len, se_ch, List.length_map] using fun (hg : (bif (decide (y7.2.2 = 0)) then y166 else false) = true) => c_ref05_Same y7.2.1 (y1.take (y163 : Int).toNat) _ (gdS hg hy169))
                          have e := Option.some.inj h
                          subst e
                          repeat' first | with_reducible rfl | with_reducible exact True.intro | with_reducible assumption | (refine ⟨_, c167, ?_⟩; conv => whnf) | (refine ⟨_, c170, ?_⟩; conv => whnf) | exact g165 | exact g168 | (refine CallP.use c164 ?_; conv => whnf) | exact clA _ | (refine And.intro ?_ ?_ <;> conv => whnf) | exact clG _ | (refine gand ?_ h; assumption) | exact clN _ | (intro hq_; conv => whnf) | fail
                    · replace h := condF (by first | exact hc | (simpa only [se_len, se_ch, List.length_map] using hc; done) | (have h0 : (decide ((((y1.map TimerT.cells).length : Nat) : Int) = 0)) = false := hc; simpa only [se_len, se_ch, List.length_map] using h0)) h
                      conv => whnf
                      replace h := bindS h
                      obtain ⟨v171, hv171, h⟩ := h
                      have i172 := fun hg => gixF (f := TimerT.cells) (gdS hg hv171)
                      repeat' first | with_reducible rfl | with_reducible exact True.intro | with_reducible assumption | refine parkI ?_ | (refine ⟨_, i172, ?_⟩; conv => whnf) | exact clA _ | (refine And.intro ?_ ?_ <;> conv => whnf) | exact clG _ | (refine gand ?_ h; assumption) | (intro hq_; conv => whnf) | fail
                      refine parkE (fun hc => ?_) (fun hc => ?_)
                      · replace h := condT hc h
                        conv => whnf
                        have e := Option.some.inj h
                        subst e
                        repeat' first | with_reducible rfl | with_reducible exact True.intro | with_reducible assumption | exact clA _ | (refine And.intro ?_ ?_ <;> conv => whnf) | exact clG _ | (refine gand ?_ h; assumption) | exact clN _ | (intro hq_; conv => whnf) | fail
                      · replace h := condF hc h
                        conv => whnf
                        repeat' first | with_reducible rfl | with_reducible exact True.intro | with_reducible assumption | refine parkI ?_ | exact clA _ | (refine And.intro ?_ ?_ <;> conv => whnf) | exact clG _ | (refine gand ?_ h; assumption) | (intro hq_; conv => whnf) | fail
                        refine parkE (fun hc => ?_) (fun hc => ?_)
                        · replace h := condT hc h
                          conv => whnf
                          have e := Option.some.inj h
                          subst e
                          repeat' first | with_reducible rfl | with_reducible exact True.intro | with_reducible assumption | exact clA _ | (refine And.intro ?_ ?_ <;> conv => whnf) | exact clG _ | (refine gand ?_ h; assumption) | exact clN _ | (intro hq_; conv => whnf) | fail
                        · replace h := condF hc h
                          conv => whnf
                          replace h := bindS h
                          obtain ⟨y173, hy173, h⟩ := h
                          have c174 := c_ref05_Due y1 a3 _ hy173
                          replace h := grdS h
                          obtain ⟨g175, h⟩ := h
                          replace g175 : ((decide (y7.2.2 = 0)) = true → (0 : Int) ≤ y173 ∧ y173 ≤ (((y1.map TimerT.cells).length : Nat) : Int)) := by simpa only [se_len, se_ch, List.length_map] using g175
                          replace h := bindS h
                          obtain ⟨y176, hy176, h⟩ := h
                          have c177 : (decide (y7.2.2 = 0)) = true → CallP Try.prog 13 [(LV.ro 2 (y7.1.map TimerT.cells)), (LV.ro 2 ((y1.map TimerT.cells).drop (y173 : Int).toNat))] (LV.bool y176) := by first | exact fun (hg : (decide (y7.2.2 = 0)) = true) => c_ref05_Same y7.1 (y1.drop (y173 : Int).toNat) _ (gdS hg hy176) | (simpa only [se_map, se_byL, se_len, se_ch, List.length_map] using fun (hg : (decide (y7.2.2 = 0)) = true) => c_ref05_Same y7.1 (y1.drop (y173 : Int).toNat) _ (gdS hg hy176))
                          replace h := grdS h
                          obtain ⟨g178, h⟩ := h
                          replace g178 : ((bif (decide (y7.2.2 = 0)) then y176 else false) = true → (0 : Int) ≤ y173 ∧ y173 ≤ (((y1.map TimerT.cells).length : Nat) : Int)) := by simpa only [se_len, se_ch, List.length_map] using g178
                          replace h := bindS h
                          obtain ⟨y179, hy179, h⟩ := h
                          have c180 : (bif (decide (y7.2.2 = 0)) then y176 else false) = true → CallP Try.prog 13 [(LV.ro 2 (y7.2.1.map TimerT.cells)), (LV.ro 2 ((y1.map TimerT.cells).take (y173 : Int).toNat))] (LV.bool y179) := by first | exact fun (hg : (bif (decide (y7.2.2 = 0)) then y176 else false) = true) => c_ref05_Same y7.2.1 (y1.take (y173 : Int).toNat) _ (gdS hg hy179) | (simpa only [se_map, se_byL, se_len, se_ch, List.length_map] using fun (hg : (bif (decide (y7.2.2 = 0)) then y176 else false) = true) => c_ref05_Same y7.2.1 (y1.take (y173 : Int).toNat) _ (gdS hg hy179))
                          have e := Option.some.inj h
                          subst e
                          repeat' first | with_reducible rfl | with_reducible exact True.intro | with_reducible assumption | (refine ⟨_, c177, ?_⟩; conv => whnf) | (refine ⟨_, c180, ?_⟩; conv => whnf) | exact g175 | exact g178 | (refine CallP.use c174 ?_; conv => whnf) | exact clA _ | (refine And.intro ?_ ?_ <;> conv => whnf) | exact clG _ | (refine gand ?_ h; assumption) | exact clN _ | (intro hq_; conv => whnf) | fail
                · replace h := condF hc h
                  conv => whnf
                  replace h := bindS h
                  obtain ⟨y181, hy181, h⟩ := h
                  have c182 := fun (hg : (!(!decide (y5.2 = 0))) = true) => c_ref05_Without y1 a2 _ (gdS hg hy181)
                  replace h := bindS h
                  obtain ⟨y183, hy183, h⟩ := h
                  have c184 := fun (hg : (!(!decide (y5.2 = 0))) = true) => c_ref05_Same y5.1 y181 _ (gdS hg hy183)
                  repeat' first | with_reducible rfl | with_reducible exact True.intro | with_reducible assumption | refine parkI ?_ | (refine ⟨_, c182, ?_⟩; conv => whnf) | (refine ⟨_, c184, ?_⟩; conv => whnf) | exact clA _ | (refine And.intro ?_ ?_ <;> conv => whnf) | exact clG _ | (refine gand ?_ h; assumption) | (intro hq_; conv => whnf) | fail
                  refine parkE (fun hc => ?_) (fun hc => ?_)
                  · replace h := condT hc h
                    conv => whnf
                    have e := Option.some.inj h
                    subst e
                    repeat' first | with_reducible rfl | with_reducible exact True.intro | with_reducible assumption | exact clA _ | (refine And.intro ?_ ?_ <;> conv => whnf) | exact clG _ | (refine gand ?_ h; assumption) | exact clN _ | (intro hq_; conv => whnf) | fail
                  · replace h := condF hc h
                    conv => whnf
                    repeat' first | with_reducible rfl | with_reducible exact True.intro | with_reducible assumption | refine parkI ?_ | (refine And.intro ?_ ?_ <;> conv => whnf) | (intro hq_; conv => whnf) | fail
                    refine parkE (fun hc => ?_) (fun hc => ?_)
                    · replace h := condT (by first | exact hc | (simpa only [se_len, se_ch, List.length_map] using hc; done) | (have h0 : (decide ((((y1.map TimerT.cells).length : Nat) : Int) = 0)) = true := hc; simpa only [se_len, se_ch, List.length_map] using h0)) h
                      conv => whnf
                      repeat' first | with_reducible rfl | with_reducible exact True.intro | with_reducible assumption | refine parkI ?_ | exact clA _ | (refine And.intro ?_ ?_ <;> conv => whnf) | exact clG _ | (refine gand ?_ h; assumption) | (intro hq_; conv => whnf) | fail
                      refine parkE (fun hc => ?_) (fun hc => ?_)
                      · replace h := condT hc h
                        conv => whnf
                        have e := Option.some.inj h
                        subst e
                        repeat' first | with_reducible rfl | with_reducible exact True.intro | with_reducible assumption | exact clA _ | (refine And.intro ?_ ?_ <;> conv => whnf) | exact clG _ | (refine gand ?_ h; assumption) | exact clN _ | (intro hq_; conv => whnf) | fail
                      · replace h := condF hc h
                        conv => whnf
                        repeat' first | with_reducible rfl | with_reducible exact True.intro | with_reducible assumption | refine parkI ?_ | exact clA _ | (refine And.intro ?_ ?_ <;> conv => whnf) | exact clG _ | (refine gand ?_ h; assumption) | (intro hq_; conv => whnf) | fail
                        refine parkE (fun hc => ?_) (fun hc => ?_)
                        · replace h := condT hc h
                          conv => whnf
                          have e := Option.some.inj h
                          subst e
                          repeat' first | with_reducible rfl | with_reducible exact True.intro | with_reducible assumption | exact clA _ | (refine And.intro ?_ ?_ <;> conv => whnf) | exact clG _ | (refine gand ?_ h; assumption) | exact clN _ | (intro hq_; conv => whnf) | fail
                        · replace h := condF hc h
                          conv => whnf
                          replace h := bindS h
                          obtain ⟨y185, hy185, h⟩ := h
                          have c186 := c_ref05_Due y1 a3 _ hy185
                          replace h := grdS h
                          obtain ⟨g187, h⟩ := h
                          replace g187 : ((decide (y7.2.2 = 0)) = true → (0 : Int) ≤ y185 ∧ y185 ≤ (((y1.map TimerT.cells).length : Nat) : Int)) := by simpa only [se_len, se_ch, List.length_map] using g187
                          replace h := bindS h
                          obtain ⟨y188, hy188, h⟩ := h
                          have c189 : (decide (y7.2.2 = 0)) = true → CallP Try.prog 13 [(LV.ro 2 (y7.1.map TimerT.cells)), (LV.ro 2 ((y1.map TimerT.cells).drop (y185 : Int).toNat))] (LV.bool y188) := by first | exact fun (hg : (decide (y7.2.2 = 0)) = true) => c_ref05_Same y7.1 (y1.drop (y185 : Int).toNat) _ (gdS hg hy188) | (simpa only [se_map, se_byL, se_len, se_ch, List.length_map] using fun (hg : (decide (y7.2.2 = 0)) = true) => c_ref05_Same y7.1 (y1.drop (y185 : Int).toNat) _ (gdS hg hy188))
                          replace h := grdS h
                          obtain ⟨g190, h⟩ := h
                          replace g190 : ((bif (decide (y7.2.2 = 0)) then y188 else false) = true → (0 : Int) ≤ y185 ∧ y185 ≤ (((y1.map TimerT.cells).length : Nat) : Int)) := by simpa only [se_len, se_ch, List.length_map] using g190
                          replace h := bindS h
                          obtain ⟨y191, hy191, h⟩ := h
                          have c192 : (bif (decide (y7.2.2 = 0)) then y188 else false) = true → CallP Try.prog 13 [(LV.ro 2 (y7.2.1.map TimerT.cells)), (LV.ro 2 ((y1.map TimerT.cells).take (y185 : Int).toNat))] (LV.bool y191) := by first | exact fun (hg : (bif (decide (y7.2.2 = 0)) then y188 else false) = true) => c_ref05_Same y7.2.1 (y1.take (y185 : Int).toNat) _ (gdS hg hy191) | (simpa only [se_map, se_byL, se_len, se_ch, List.length_map] using fun (hg : (bif (decide (y7.2.2 = 0)) then y188 else false) = true) => c_ref05_Same y7.2.1 (y1.take (y185 : Int).toNat) _ (gdS hg hy191))
                          have e := Option.some.inj h
                          subst e
                          repeat' first | with_reducible rfl | with_reducible exact True.intro | with_reducible assumption | (refine ⟨_, c189, ?_⟩; conv => whnf) | (refine ⟨_, c192, ?_⟩; conv => whnf) | exact g187 | exact g190 | (refine CallP.use c186 ?_; conv => whnf) | exact clA _ | (refine And.intro ?_ ?_ <;> conv => whnf) | exact clG _ | (refine gand ?_ h; assumption) | exact clN _ | (intro hq_; conv => whnf) | fail
                    · replace h := condF (by first | exact hc | (simpa only [se_len, se_ch, List.length_map] using hc; done) | (have h0 : (decide ((((y1.map TimerT.cells).length : Nat) : Int) = 0)) = false := hc; simpa only [se_len, se_ch, List.length_map] using h0)) h
                      conv => whnf
                      replace h := bindS h
                      obtain ⟨v193, hv193, h⟩ := h
                      have i194 := fun hg => gixF (f := TimerT.cells) (gdS hg hv193)
                      repeat' first | with_reducible rfl | with_reducible exact True.intro | with_reducible assumption | refine parkI ?_ | (refine ⟨_, i194, ?_⟩; conv => whnf) | exact clA _ | (refine And.intro ?_ ?_ <;> conv => whnf) | exact clG _ | (refine gand ?_ h; assumption) | (intro hq_; conv => whnf) | fail
                      refine parkE (fun hc => ?_) (fun hc => ?_)
                      · replace h := condT hc h
                        conv => whnf
                        have e := Option.some.inj h
                        subst e
                        repeat' first | with_reducible rfl | with_reducible exact True.intro | with_reducible assumption | exact clA _ | (refine And.intro ?_ ?_ <;> conv => whnf) | exact clG _ | (refine gand ?_ h; assumption) | exact clN _ | (intro hq_; conv => whnf) | fail
                      · replace h := condF hc h
                        conv => whnf
                        repeat' first | with_reducible rfl | with_reducible exact True.intro | with_reducible assumption | refine parkI ?_ | exact clA _ | (refine And.intro ?_ ?_ <;> conv => whnf) | exact clG _ | (refine gand ?_ h; assumption) | (intro hq_; conv => whnf) | fail
                        refine parkE (fun hc => ?_) (fun hc => ?_)
                        · replace h := condT hc h
                          conv => whnf
                          have e := Option.some.inj h
                          subst e
                          repeat' first | with_reducible rfl | with_reducible exact True.intro | with_reducible assumption | exact clA _ | (refine And.intro ?_ ?_ <;> conv => whnf) | exact clG _ | (refine gand ?_ h; assumption) | exact clN _ | (intro hq_; conv => whnf) | fail
                        · replace h := condF hc h
                          conv => whnf
                          replace h := bindS h
                          obtain ⟨y195, hy195, h⟩ := h
                          have c196 := c_ref05_Due y1 a3 _ hy195
                          replace h := grdS h
                          obtain ⟨g197, h⟩ := h
                          replace g197 : ((decide (y7.2.2 = 0)) = true → (0 : Int) ≤ y195 ∧ y195 ≤ (((y1.map TimerT.cells).length : Nat) : Int)) := by simpa only [se_len, se_ch, List.length_map] using g197
                          replace h := bindS h
                          obtain ⟨y198, hy198, h⟩ := h
                          have c199 : (decide (y7.2.2 = 0)) = true → CallP Try.prog 13 [(LV.ro 2 (y7.1.map TimerT.cells)), (LV.ro 2 ((y1.map TimerT.cells).drop (y195 : Int).toNat))] (LV.bool y198) := by first | exact fun (hg : (decide (y7.2.2 = 0)) = true) => c_ref05_Same y7.1 (y1.drop (y195 : Int).toNat) _ (gdS hg hy198) | (simpa only [se_map, se_byL, se_len, se_ch, List.length_map] using fun (hg : (decide (y7.2.2 = 0)) = true) => c_ref05_Same y7.1 (y1.drop (y195 : Int).toNat) _ (gdS hg hy198))
                          replace h := grdS h
                          obtain ⟨g200, h⟩ := h
                          replace g200 : ((bif (decide (y7.2.2 = 0)) then y198 else false) = true → (0 : Int) ≤ y195 ∧ y195 ≤ (((y1.map TimerT.cells).length : Nat) : Int)) := by simpa only [se_len, se_ch, List.length_map] using g200
                          replace h := bindS h
                          obtain ⟨y201, hy201, h⟩ := h
                          have c202 : (bif (decide (y7.2.2 = 0)) then y198 else false) = true → CallP Try.prog 13 [(LV.ro 2 (y7.2.1.map TimerT.cells)), (LV.ro 2 ((y1.map TimerT.cells).take (y195 : Int).toNat))] (LV.bool y201) := by first | exact fun (hg : (bif (decide (y7.2.2 = 0)) then y198 else false) = true) => c_ref05_Same y7.2.1 (y1.take (y195 : Int).toNat) _ (gdS hg hy201) | (simpa only [se_map, se_byL, se_len, se_ch, List.length_map] using fun (hg : (bif (decide (y7.2.2 = 0)) then y198 else false) = true) => c_ref05_Same y7.2.1 (y1.take (y195 : Int).toNat) _ (gdS hg hy201))
                          have e := Option.some.inj h
                          subst e
                          repeat' first | with_reducible rfl | with_reducible exact True.intro | with_reducible assumption | (refine ⟨_, c199, ?_⟩; conv => whnf) | (refine ⟨_, c202, ?_⟩; conv => whnf) | exact g197 | exact g200 | (refine CallP.use c196 ?_; conv => whnf) | exact clA _ | (refine And.intro ?_ ?_ <;> conv => whnf) | exact clG _ | (refine gand ?_ h; assumption) | exact clN _ | (intro hq_; conv => whnf) | fail
          · replace h := condF (by first | exact hg1_ | simpa only [se_len, se_ch, List.length_map] using hg1_) h
            conv => whnf
            repeat' first | with_reducible rfl | with_reducible exact True.intro | with_reducible assumption | refine parkI ?_ | exact (by first | exact hg1_ | simpa using hg1_ : _ = false) | (refine ⟨?_, True.intro⟩; first | exact hg1_ | (simpa using hg1_; done)) | exact clA _ | (refine And.intro ?_ ?_ <;> conv => whnf) | exact clG _ | (refine gand ?_ h; assumption) | (intro hq_; conv => whnf) | fail
            refine parkE (fun hc => ?_) (fun hc => ?_)
            · conv => whnf
              have e := Option.some.inj h
              subst e
              repeat' first | with_reducible rfl | with_reducible exact True.intro | with_reducible assumption | exact clA _ | (refine And.intro ?_ ?_ <;> conv => whnf) | exact clG _ | (refine gand ?_ h; assumption) | exact clN _ | (intro hq_; conv => whnf) | fail
            · exact (Bool.false_ne_true (hc.symm.trans (rfl : true = true))).elim

end Go.RX
