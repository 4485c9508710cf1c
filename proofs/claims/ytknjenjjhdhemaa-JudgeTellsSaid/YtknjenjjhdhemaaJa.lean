/- Plain functions, and what says that the program's functions compute them. -/
import Derived.Test.YtknjenjjhdhemaaSeb
set_option linter.unusedVariables false
set_option linter.unusedSimpArgs false
open Go Go.RX Go.Proofs
namespace Go.RX
set_option maxRecDepth 10000
set_option maxHeartbeats 4000000
attribute [local irreducible] CallW CallP LoopW W IntKind.wrap bitI
def judge_odd (a0 : Int) : Option Int :=
  some a0

theorem c_judge_odd (a0 : Int) (r : Int) (h : judge_odd a0 = some r) : CallP Try.prog 55 [(I a0)] (LV.func (.func 89) [] [(LV.rptr [(I r)])]) := by
  unfold judge_odd at h
  refine .intro nlA (.intro TT_ok Try.func55 rfl rfl [0, 1, 2] rfl ?_)
  conv => whnf
  have e := Option.some.inj h
  subst e
  repeat' first | with_reducible rfl | with_reducible exact True.intro | with_reducible assumption | exact clA _ | (refine And.intro ?_ ?_ <;> conv => whnf) | exact clG _ | (refine gand ?_ h; assumption) | exact clN _ | fail

def slices_IndexFunc_Copy_c0 (q1 : (CopyT → Option Bool)) (k1 : Nat) (x1 : CopyT) (s1 : Unit) : Option (Step Int Unit) :=
  (q1 x1).bind fun y3 =>
  (bif y3 then
    some (.ret ((k1 : Nat) : Int))
  else
    some (.nxt ()))

def slices_IndexFunc_Copy (a0 : (List CopyT)) (q1 : (CopyT → Option Bool)) : Option Int :=
  aft (rangeL (slices_IndexFunc_Copy_c0 q1) a0 ()) fun s1 =>
  some (-1)

theorem c_slices_IndexFunc_Copy (a0 : (List CopyT)) (fn1 : Nat) (ff1 fc1 : List LV) (q1 : (CopyT → Option Bool)) (hq1 : ∀ (x0 : CopyT) (r : Bool), q1 x0 = some r → CallP Try.prog fn1 (ff1 ++ [(LV.agg [(I x0.At), (I x0.Seg), (I x0.Bridge), (I x0.Port), (LV.str x0.Raw)])] ++ fc1) (LV.bool r)) (hn1 : NLs ff1 ∧ NLs fc1) (r : Int) (h : slices_IndexFunc_Copy a0 q1 = some r) : CallP Try.prog 88 [(LV.ro 5 (a0.map CopyT.cells)), (LV.func (.func fn1) ff1 fc1)] (I r) := by
  have hnA1 := hn1.1
  have hnB1 := hn1.2
  unfold slices_IndexFunc_Copy at h
  refine .intro nlA (.intro TT_ok Try.func88 rfl rfl [0, 1, 4, 5, 7, 8, 9, 16] rfl ?_)
  conv => whnf
  repeat' first | with_reducible rfl | with_reducible exact True.intro | with_reducible assumption | refine parkI ?_ | (refine And.intro ?_ ?_ <;> conv => whnf) | fail
  replace h := aftS h
  obtain ⟨O1, hO1, r1⟩ := h
  refine LoopW.norm [(0, (LV.ro 5 (a0.map CopyT.cells))), (1, (LV.func (.func fn1) ff1 fc1)), (7, (I (((a0.map CopyT.cells).length : Nat) : Int))), (8, (I ((0 : Nat) : Int)))] 0 [] ⟨rfl, rfl, rfl, rfl, trivial⟩ trivial blT rfl ?_
  refine LoopW.forR (fun k1 s1 => [(0, (LV.ro 5 (a0.map CopyT.cells))), (1, (LV.func (.func fn1) ff1 fc1)), (7, (I (((a0.map CopyT.cells).length : Nat) : Int))), (8, (I ((k1 : Nat) : Int)))]) (fun s1 => ⟨0, []⟩) hO1 (fun hl1 s1 hs1 => ?_) (fun hl1 k1 x1 s1 o1 hk1 hx1 b1 K1 hret1 hbrk1 => ?_)
  · rw [hs1] at r1
    dsimp only [aftM] at r1
    have hd : decide (((a0.length : Nat) : Int) < (((a0.map CopyT.cells).length : Nat) : Int)) = false := by rw [decide_eq_false_iff_not]; (try simp only [se_len, se_ch, List.length_map]); omega
    refine LoopW.round TT_ok [0, 1, 4, 5, 7, 8, 9, 16] ?_
    conv => whnf
    repeat' first | with_reducible rfl | with_reducible exact True.intro | with_reducible assumption | refine parkI ?_ | (refine And.intro ?_ ?_ <;> conv => whnf) | fail
    refine parkE (fun hc => ?_) (fun hc => ?_)
    · exact (Bool.false_ne_true (hd.symm.trans hc)).elim
    · clear hd
      conv => whnf
      have e := Option.some.inj r1
      subst e
      repeat' first | with_reducible rfl | with_reducible exact True.intro | with_reducible assumption | exact clA _ | (refine And.intro ?_ ?_ <;> conv => whnf) | exact clG _ | (refine gand ?_ h; assumption) | exact clN _ | fail
  · unfold slices_IndexFunc_Copy_c0 at b1
    have hd : decide (((k1 : Nat) : Int) < (((a0.map CopyT.cells).length : Nat) : Int)) = true := by rw [decide_eq_true_eq]; (try simp only [se_len, se_ch, List.length_map] at hk1); (try simp only [se_len, se_ch, List.length_map]); omega
    refine LoopW.round TT_ok [0, 1, 4, 5, 7, 8, 9, 16] ?_
    conv => whnf
    repeat' first | with_reducible rfl | with_reducible exact True.intro | with_reducible assumption | refine parkI ?_ | (refine And.intro ?_ ?_ <;> conv => whnf) | fail
    refine parkE (fun hc => ?_) (fun hc => ?_)
    · clear hd
      conv => whnf
      replace b1 := bindS b1
      obtain ⟨y3, hy3, b1⟩ := b1
      have c4 := hq1 x1 _ hy3
      repeat' first | with_reducible rfl | with_reducible exact True.intro | with_reducible assumption | refine parkI ?_ | (refine ⟨_, (kixF (f := CopyT.cells) hx1), ?_⟩; conv => whnf) | (refine CallP.use c4 ?_; conv => whnf) | (refine frzB_call rfl (slN_nil hn1) ?_; conv => whnf) | (refine And.intro ?_ ?_ <;> conv => whnf) | fail
      refine parkE (fun hc => ?_) (fun hc => ?_)
      · replace b1 := condT hc b1
        conv => whnf
        have e := Option.some.inj b1
        replace e := hret1 _ e.symm
        rw [e] at r1
        replace e := Option.some.inj r1
        subst e
        repeat' first | with_reducible rfl | with_reducible exact True.intro | with_reducible assumption | exact clA _ | (refine And.intro ?_ ?_ <;> conv => whnf) | exact clG _ | (refine gand ?_ h; assumption) | exact clN _ | fail
      · replace b1 := condF hc b1
        conv => whnf
        repeat' first | with_reducible rfl | with_reducible exact True.intro | with_reducible assumption | refine parkI ?_ | (refine And.intro ?_ ?_ <;> conv => whnf) | fail
        have e := Option.some.inj b1
        refine LoopW.norm [(0, (LV.ro 5 (a0.map CopyT.cells))), (1, (LV.func (.func fn1) ff1 fc1)), (7, (I (((a0.map CopyT.cells).length : Nat) : Int))), (8, (I ((k1 + 1 : Nat) : Int)))] 0 [] ⟨rfl, rfl, rfl, (congrArg (LV.int .i64) (w64_nat _ (by omega))), trivial⟩ trivial blT rfl (K1 _ e.symm)
    · exact (Bool.false_ne_true (hc.symm.trans hd)).elim

def slices_ContainsFunc_Copy (a0 : (List CopyT)) (q1 : (CopyT → Option Bool)) : Option Bool :=
  (slices_IndexFunc_Copy a0 q1).bind fun y4 =>
  some (decide (0 ≤ y4))

theorem c_slices_ContainsFunc_Copy (a0 : (List CopyT)) (fn1 : Nat) (ff1 fc1 : List LV) (q1 : (CopyT → Option Bool)) (hq1 : ∀ (x0 : CopyT) (r : Bool), q1 x0 = some r → CallP Try.prog fn1 (ff1 ++ [(LV.agg [(I x0.At), (I x0.Seg), (I x0.Bridge), (I x0.Port), (LV.str x0.Raw)])] ++ fc1) (LV.bool r)) (hn1 : NLs ff1 ∧ NLs fc1) (r : Bool) (h : slices_ContainsFunc_Copy a0 q1 = some r) : CallP Try.prog 54 [(LV.ro 5 (a0.map CopyT.cells)), (LV.func (.func fn1) ff1 fc1)] (LV.bool r) := by
  have hnA1 := hn1.1
  have hnB1 := hn1.2
  unfold slices_ContainsFunc_Copy at h
  refine .intro nlA (.intro TT_ok Try.func54 rfl rfl [0, 1, 4] rfl ?_)
  conv => whnf
  have n3 : slNs [(LV.ro 5 (a0.map CopyT.cells)), (LV.func (.func fn1) ff1 fc1)] = [] := slNs_nil nlA
  replace h := bindS h
  obtain ⟨y4, hy4, h⟩ := h
  have c5 := c_slices_IndexFunc_Copy a0 fn1 ff1 fc1 q1 hq1 hn1 _ hy4
  have e := Option.some.inj h
  subst e
  repeat' first | with_reducible rfl | with_reducible exact True.intro | with_reducible assumption | (refine CallP.use c5 ?_; conv => whnf) | (refine frzB_call n3 rfl ?_; conv => whnf) | (refine frz_nil n3 ?_; conv => whnf) | exact clA _ | (refine And.intro ?_ ?_ <;> conv => whnf) | exact clG _ | (refine gand ?_ h; assumption) | exact clN _ | fail

def judge_odd_1 (a0 : CopyT) (q1 : Int) : Option Bool :=
  some (bif (decide (a0.Seg < 0)) then true else (decide (q1 ≤ a0.Seg)))

theorem c_judge_odd_1 (a0 : CopyT) (q1 : Int) (r : Bool) (h : judge_odd_1 a0 q1 = some r) : CallP Try.prog 89 [(LV.agg [(I a0.At), (I a0.Seg), (I a0.Bridge), (I a0.Port), (LV.str a0.Raw)]), (LV.rptr [(I q1)])] (LV.bool r) := by
  unfold judge_odd_1 at h
  refine .intro nlA (.intro TT_ok Try.func89 rfl rfl [0, 1, 2, 3] rfl ?_)
  conv => whnf
  have e := Option.some.inj h
  subst e
  repeat' first | with_reducible rfl | with_reducible exact True.intro | with_reducible assumption | exact clA _ | (refine And.intro ?_ ?_ <;> conv => whnf) | exact clG _ | (refine gand ?_ h; assumption) | exact clN _ | fail

def judge_keyOf (a0 : CopyT) : Option judge_keyT :=
  some (⟨a0.Seg, a0.Raw⟩ : judge_keyT)

theorem c_judge_keyOf (a0 : CopyT) (r : judge_keyT) (h : judge_keyOf a0 = some r) : CallP Try.prog 56 [(LV.agg [(I a0.At), (I a0.Seg), (I a0.Bridge), (I a0.Port), (LV.str a0.Raw)])] (LV.agg [(I r.seg), (LV.str r.raw)]) := by
  unfold judge_keyOf at h
  refine .intro nlA (.intro TT_ok Try.func56 rfl rfl [0, 1, 2] rfl ?_)
  conv => whnf
  have e := Option.some.inj h
  subst e
  repeat' first | with_reducible rfl | with_reducible exact True.intro | with_reducible assumption | exact clA _ | (refine And.intro ?_ ?_ <;> conv => whnf) | exact clG _ | (refine gand ?_ h; assumption) | exact clN _ | fail

theorem ke_96 (a b : judge_keyT) : eqL TT 8 96 ((fun z : judge_keyT => (LV.agg [(I z.seg), (LV.str z.raw)])) a) ((fun z : judge_keyT => (LV.agg [(I z.seg), (LV.str z.raw)])) b) = some (decide (a = b)) := by
  refine (show eqL TT 8 96 ((fun z : judge_keyT => (LV.agg [(I z.seg), (LV.str z.raw)])) a) ((fun z : judge_keyT => (LV.agg [(I z.seg), (LV.str z.raw)])) b) = some ((decide (a.seg = b.seg)) && ((a.raw == b.raw) && true)) from rfl).trans (congrArg some ?_)
  rw [Bool.eq_iff_iff]
  cases a; cases b; simp [judge_keyT.mk.injEq, ba_beq]

def judge_Where_c0  (k2 : Nat) (x2 : CopyT) (s2 : (List (judge_keyT × Int))) : Option (Step ((List Int) × Int) (List (judge_keyT × Int))) :=
  (judge_keyOf x2).bind fun y5 =>
  some (.nxt (mput s2 y5 (IntKind.i64.wrap ((mget s2 y5 0) + 1))))

def judge_Where_c1 (a1 : ByteArray) (s2 : (List (judge_keyT × Int))) (k3 : Nat) (s3 : (List Int)) : Option (Step ((List Int) × Int) (List Int)) :=
  grd (fits ((s3 ++ ([(mget s2 (⟨((k3 : Nat) : Int), a1⟩ : judge_keyT) 0)] : (List Int))) : List Int).length 8) <|
  some (.nxt (s3 ++ ([(mget s2 (⟨((k3 : Nat) : Int), a1⟩ : judge_keyT) 0)] : (List Int))))

def judge_Where (a0 : (List CopyT)) (a1 : ByteArray) (a2 : Int) : Option ((List Int) × Int) :=
  (bif (bif (decide (a2 < 1)) then true else (decide (8 < a2))) then
    some ([], 2)
  else
    (judge_odd a2).bind fun y1 =>
    (slices_ContainsFunc_Copy a0 (fun x0_ => judge_odd_1 x0_ y1)).bind fun y3 =>
    (bif y3 then
      some ([], 1)
    else
      aft (rangeL (judge_Where_c0 ) a0 ([] : List (judge_keyT × Int))) fun s2 =>
      aft (rangeN (judge_Where_c1 a1 s2) a2 ([] : (List Int))) fun s3 =>
      some (s3, 0)))

theorem c_judge_Where (a0 : (List CopyT)) (a1 : ByteArray) (a2 : Int) (r : ((List Int) × Int)) (h : judge_Where a0 a1 a2 = some r) : CallP Try.prog 25 [(LV.ro 5 (a0.map CopyT.cells)), (LV.str a1), (I a2)] (LV.tup [(LV.ro 1 (r.1.map iC)), (I r.2)]) := by
  unfold judge_Where at h
  refine .intro nlA (.intro TT_ok Try.func25 rfl rfl [0, 1, 2, 6, 7, 8, 10, 11, 12, 13, 20, 26, 27, 28, 29, 40, 41, 42] rfl ?_)
  conv => whnf
  repeat' first | with_reducible rfl | with_reducible exact True.intro | with_reducible assumption | refine parkI ?_ | (refine W.drawnM (id := 9) 0 TT_ok hmix1 [0, 0, 0, 0, 0, 0, 1, 1] [0, 0, 0, 1, 1, 1, 1, 2] rfl ?_; conv => whnf) | exact clA _ | (refine And.intro ?_ ?_ <;> conv => whnf) | exact clG _ | (refine gand ?_ h; assumption) | exact clN _ | fail
  refine parkE (fun hc => ?_) (fun hc => ?_)
  · replace h := condT hc h
    conv => whnf
    have e := Option.some.inj h
    subst e
    repeat' first | with_reducible rfl | with_reducible exact True.intro | with_reducible assumption | (refine W.drawnM (id := 9) 0 TT_ok hmix1 [0, 0, 0, 0, 0, 0, 1, 1] [0, 0, 0, 1, 1, 1, 1, 2] rfl ?_; conv => whnf) | exact clA _ | (refine And.intro ?_ ?_ <;> conv => whnf) | exact clG _ | (refine gand ?_ h; assumption) | exact clN _ | fail
  · replace h := condF hc h
    conv => whnf
    replace h := bindS h
    obtain ⟨y1, hy1, h⟩ := h
    have c2 := c_judge_odd a2 _ hy1
    replace h := bindS h
    obtain ⟨y3, hy3, h⟩ := h
    have c4 := c_slices_ContainsFunc_Copy a0 89 [] [(LV.rptr [(I y1)])] (fun x0_ => judge_odd_1 x0_ y1) (fun x0_ r h => c_judge_odd_1 x0_ y1 r h) nlB _ hy3
    repeat' first | with_reducible rfl | with_reducible exact True.intro | with_reducible assumption | refine parkI ?_ | (refine CallP.use c2 ?_; conv => whnf) | (refine ⟨_, _, CallP.at c2, ?_⟩; conv => whnf) | (refine ⟨_, fun _ => c2, ?_⟩; conv => whnf) | (refine CallP.use c4 ?_; conv => whnf) | (refine ⟨_, _, CallP.at c4, ?_⟩; conv => whnf) | (refine ⟨_, fun _ => c4, ?_⟩; conv => whnf) | (refine W.drawnM (id := 9) 0 TT_ok hmix1 [0, 0, 0, 0, 0, 0, 1, 1] [0, 0, 0, 1, 1, 1, 1, 2] rfl ?_; conv => whnf) | exact clA _ | (refine And.intro ?_ ?_ <;> conv => whnf) | exact clG _ | (refine gand ?_ h; assumption) | exact clN _ | fail
    refine parkE (fun hc => ?_) (fun hc => ?_)
    · replace h := condT hc h
      conv => whnf
      have e := Option.some.inj h
      subst e
      repeat' first | with_reducible rfl | with_reducible exact True.intro | with_reducible assumption | (refine W.drawnM (id := 9) 0 TT_ok hmix1 [0, 0, 0, 0, 0, 0, 1, 1] [0, 0, 0, 1, 1, 1, 1, 2] rfl ?_; conv => whnf) | exact clA _ | (refine And.intro ?_ ?_ <;> conv => whnf) | exact clG _ | (refine gand ?_ h; assumption) | exact clN _ | fail
    · replace h := condF hc h
      conv => whnf
      repeat' first | with_reducible rfl | with_reducible exact True.intro | with_reducible assumption | refine parkI ?_ | (refine W.drawnM (id := 9) 0 TT_ok hmix1 [0, 0, 0, 0, 0, 0, 1, 1] [0, 0, 0, 1, 1, 1, 1, 2] rfl ?_; conv => whnf) | exact clA _ | (refine And.intro ?_ ?_ <;> conv => whnf) | exact clG _ | (refine gand ?_ h; assumption) | exact clN _ | fail
      replace h := aftS h
      obtain ⟨O2, hO2, r2⟩ := h
      refine LoopW.norm [(1, (LV.str a1)), (2, (I a2)), (8, (LV.map 0)), (26, (LV.ro 5 (a0.map CopyT.cells))), (27, (I (((a0.map CopyT.cells).length : Nat) : Int))), (28, (I ((0 : Nat) : Int)))] 1 [(0, (.mp (([] : List (judge_keyT × Int)).map (mpC (fun z : judge_keyT => (LV.agg [(I z.seg), (LV.str z.raw)])) I))))] ⟨rfl, rfl, rfl, rfl, rfl, rfl, trivial⟩ ⟨⟨(congrArg (fun q => some (Blk.mp q)) (by simp only [se_mp] : (([] : List (LV × LV)) : List (LV × LV)) = (([] : List (judge_keyT × Int)).map (mpC (fun z : judge_keyT => (LV.agg [(I z.seg), (LV.str z.raw)])) I)))), rfl, bel_mp (f := (fun z : judge_keyT => (LV.agg [(I z.seg), (LV.str z.raw)]))) (g := I) (fun _ => by repeat' first | exact True.intro | refine ⟨?_, ?_⟩) (fun _ => by repeat' first | exact True.intro | refine ⟨?_, ?_⟩) _ _⟩, trivial⟩ blT rfl ?_
      refine LoopW.forR (fun k2 s2 => [(1, (LV.str a1)), (2, (I a2)), (8, (LV.map 0)), (26, (LV.ro 5 (a0.map CopyT.cells))), (27, (I (((a0.map CopyT.cells).length : Nat) : Int))), (28, (I ((k2 : Nat) : Int)))]) (fun s2 => ⟨1, [(0, (.mp (s2.map (mpC (fun z : judge_keyT => (LV.agg [(I z.seg), (LV.str z.raw)])) I))))]⟩) hO2 (fun hl2 s2 hs2 => ?_) (fun hl2 k2 x2 s2 o2 hk2 hx2 b2 K2 hret2 hbrk2 => ?_)
      · rw [hs2] at r2
        dsimp only [aftM] at r2
        have hd : decide (((a0.length : Nat) : Int) < (((a0.map CopyT.cells).length : Nat) : Int)) = false := by rw [decide_eq_false_iff_not]; (try simp only [se_len, se_ch, List.length_map]); omega
        refine LoopW.round TT_ok [0, 1, 2, 6, 7, 8, 10, 11, 12, 13, 20, 26, 27, 28, 29, 40, 41, 42] ?_
        conv => whnf
        repeat' first | with_reducible rfl | with_reducible exact True.intro | with_reducible assumption | refine parkI ?_ | (refine W.drawnM (id := 9) 0 TT_ok hmix1 [0, 0, 0, 0, 0, 0, 1, 1] [0, 0, 0, 1, 1, 1, 1, 2] rfl ?_; conv => whnf) | exact clA _ | (refine And.intro ?_ ?_ <;> conv => whnf) | exact clG _ | (refine gand ?_ h; assumption) | exact clN _ | fail
        refine parkE (fun hc => ?_) (fun hc => ?_)
        · exact (Bool.false_ne_true (hd.symm.trans hc)).elim
        · clear hd
          conv => whnf
          repeat' first | with_reducible rfl | with_reducible exact True.intro | with_reducible assumption | refine parkI ?_ | (refine W.drawnM (id := 9) 0 TT_ok hmix1 [0, 0, 0, 0, 0, 0, 1, 1] [0, 0, 0, 1, 1, 1, 1, 2] rfl ?_; conv => whnf) | exact clA _ | (refine And.intro ?_ ?_ <;> conv => whnf) | exact clG _ | (refine gand ?_ h; assumption) | exact clN _ | fail
          replace r2 := aftS r2
          obtain ⟨O3, hO3, r3⟩ := r2
          refine LoopW.virt 11 3 1 rfl ?_
          refine LoopW.norm [(1, (LV.str a1)), (8, (LV.map 0)), (11, (LV.sl 1 0 (([] : (List Int)).map iC).length)), (40, (I a2)), (41, (I ((0 : Nat) : Int)))] 2 [(0, (.mp (s2.map (mpC (fun z : judge_keyT => (LV.agg [(I z.seg), (LV.str z.raw)])) I)))), (1, (.row 3 1 (([] : (List Int)).map iC)))] ⟨rfl, rfl, (by exact congrArg (LV.sl 1 0) (clL _ : 0 = (([] : (List Int)).map iC).length)), rfl, rfl, trivial⟩ ⟨⟨rfl, rfl, bel_mp (f := (fun z : judge_keyT => (LV.agg [(I z.seg), (LV.str z.raw)]))) (g := I) (fun _ => by repeat' first | exact True.intro | refine ⟨?_, ?_⟩) (fun _ => by repeat' first | exact True.intro | refine ⟨?_, ?_⟩) _ _⟩, ⟨⟨(congrArg (fun q => some (Blk.row 3 1 q)) (smT : ([] : List (List LV)) = (([] : (List Int)).map iC))), rfl, NLss_bel (NLss_map' _)⟩, trivial⟩⟩ blT rfl ?_
          refine LoopW.forN (fun k3 s3 => [(1, (LV.str a1)), (8, (LV.map 0)), (11, (LV.sl 1 0 (s3.map iC).length)), (40, (I a2)), (41, (I ((k3 : Nat) : Int)))]) (fun s3 => ⟨2, [(0, (.mp (s2.map (mpC (fun z : judge_keyT => (LV.agg [(I z.seg), (LV.str z.raw)])) I)))), (1, (.row 3 1 (s3.map iC)))]⟩) hO3 (fun hl3 s3 hs3 => ?_) (fun hl3 k3 s3 o3 hk3 b3 K3 hret3 hbrk3 => ?_)
          · rw [hs3] at r3
            dsimp only [aftM] at r3
            have hd : decide ((((a2 : Int).toNat : Nat) : Int) < a2) = false := by rw [decide_eq_false_iff_not]; (try simp only [se_len, se_ch, List.length_map]); omega
            refine LoopW.round TT_ok [0, 1, 2, 6, 7, 8, 10, 11, 12, 13, 20, 26, 27, 28, 29, 40, 41, 42] ?_
            conv => whnf
            repeat' first | with_reducible rfl | with_reducible exact True.intro | with_reducible assumption | refine parkI ?_ | (refine W.drawnM (id := 9) 0 TT_ok hmix1 [0, 0, 0, 0, 0, 0, 1, 1] [0, 0, 0, 1, 1, 1, 1, 2] rfl ?_; conv => whnf) | exact clA _ | (refine And.intro ?_ ?_ <;> conv => whnf) | exact clG _ | (refine gand ?_ h; assumption) | exact clN _ | fail
            refine parkE (fun hc => ?_) (fun hc => ?_)
            · exact (Bool.false_ne_true (hd.symm.trans hc)).elim
            · clear hd
              conv => whnf
              have e := Option.some.inj r3
              subst e
              repeat' first | with_reducible rfl | with_reducible exact True.intro | with_reducible assumption | (refine W.drawnM (id := 9) 0 TT_ok hmix1 [0, 0, 0, 0, 0, 0, 1, 1] [0, 0, 0, 1, 1, 1, 1, 2] rfl ?_; conv => whnf) | exact clA _ | (refine And.intro ?_ ?_ <;> conv => whnf) | exact clG _ | (refine gand ?_ h; assumption) | exact clN _ | fail
          · unfold judge_Where_c1 at b3
            have hd : decide (((k3 : Nat) : Int) < a2) = true := by rw [decide_eq_true_eq]; (try simp only [se_len, se_ch, List.length_map] at hk3); (try simp only [se_len, se_ch, List.length_map]); omega
            refine LoopW.round TT_ok [0, 1, 2, 6, 7, 8, 10, 11, 12, 13, 20, 26, 27, 28, 29, 40, 41, 42] ?_
            conv => whnf
            repeat' first | with_reducible rfl | with_reducible exact True.intro | with_reducible assumption | refine parkI ?_ | (refine W.drawnM (id := 9) 0 TT_ok hmix1 [0, 0, 0, 0, 0, 0, 1, 1] [0, 0, 0, 1, 1, 1, 1, 2] rfl ?_; conv => whnf) | exact clA _ | (refine And.intro ?_ ?_ <;> conv => whnf) | exact clG _ | (refine gand ?_ h; assumption) | exact clN _ | fail
            refine parkE (fun hc => ?_) (fun hc => ?_)
            · clear hd
              conv => whnf
              rcases m2_ : mfind s2 (⟨((k3 : Nat) : Int), a1⟩ : judge_keyT) with _ | ⟨w2_, u2_⟩
              · try simp only [mget_none m2_, mput_none m2_, mhas_none m2_, mget_mput] at b3
                replace b3 := grdS b3
                obtain ⟨g8, b3⟩ := b3
                replace g8 : fits (((s3.map iC) ++ [[(I 0)]])).length 8 := by simpa only [se_len, se_ch, List.length_map] using g8
                repeat' first | with_reducible rfl | with_reducible exact True.intro | with_reducible assumption | refine parkI ?_ | (refine ⟨_, (finds_none (g := I) ke_96 m2_), ?_⟩; conv => whnf) | exact g8 | (refine W.drawnM (id := 9) 0 TT_ok hmix1 [0, 0, 0, 0, 0, 0, 1, 1] [0, 0, 0, 1, 1, 1, 1, 2] rfl ?_; conv => whnf) | exact clA _ | (refine And.intro ?_ ?_ <;> conv => whnf) | exact clG _ | (refine gand ?_ h; assumption) | exact clN _ | fail
                have e := Option.some.inj b3
                refine LoopW.ren [(0, 0), (3, 1)] [(1, (LV.str a1)), (8, (LV.map 0)), (11, (LV.sl 1 0 ((s3 ++ ([0] : (List Int))).map iC).length)), (40, (I a2)), (41, (I ((k3 + 1 : Nat) : Int)))] 2 [(0, (.mp (s2.map (mpC (fun z : judge_keyT => (LV.agg [(I z.seg), (LV.str z.raw)])) I)))), (1, (.row 3 1 ((s3 ++ ([0] : (List Int))).map iC)))] rfl ⟨rfl, rfl, (by exact congrArg (LV.sl 1 0) (clL _ : (((s3.map iC) ++ [[(I 0)]])).length = ((s3 ++ ([0] : (List Int))).map iC).length)), rfl, (congrArg (LV.int .i64) (w64_nat _ (by omega))), trivial⟩ ⟨.inl ⟨rfl, (NL_mp (fun _ => by repeat' first | exact True.intro | refine ⟨?_, ?_⟩) (fun _ => by repeat' first | exact True.intro | refine ⟨?_, ?_⟩) _)⟩, rfl, rfl, ⟨⟨rfl, rfl, .inl ⟨(smT : (((s3.map iC) ++ [[(I 0)]]) : List (List LV)) = ((s3 ++ ([0] : (List Int))).map iC)), nlT⟩⟩, rfl, rfl, trivial⟩⟩ rfl (K3 _ e.symm)
              · try simp only [mget_some m2_, mput_some m2_, mhas_some m2_, mget_mput] at b3
                replace b3 := grdS b3
                obtain ⟨g8, b3⟩ := b3
                replace g8 : fits (((s3.map iC) ++ [[(I u2_)]])).length 8 := by simpa only [se_len, se_ch, List.length_map] using g8
                repeat' first | with_reducible rfl | with_reducible exact True.intro | with_reducible assumption | refine parkI ?_ | (refine ⟨_, (finds_some (g := I) ke_96 m2_), ?_⟩; conv => whnf) | exact g8 | (refine W.drawnM (id := 9) 0 TT_ok hmix1 [0, 0, 0, 0, 0, 0, 1, 1] [0, 0, 0, 1, 1, 1, 1, 2] rfl ?_; conv => whnf) | exact clA _ | (refine And.intro ?_ ?_ <;> conv => whnf) | exact clG _ | (refine gand ?_ h; assumption) | exact clN _ | fail
                have e := Option.some.inj b3
                refine LoopW.ren [(0, 0), (3, 1)] [(1, (LV.str a1)), (8, (LV.map 0)), (11, (LV.sl 1 0 ((s3 ++ ([u2_] : (List Int))).map iC).length)), (40, (I a2)), (41, (I ((k3 + 1 : Nat) : Int)))] 2 [(0, (.mp (s2.map (mpC (fun z : judge_keyT => (LV.agg [(I z.seg), (LV.str z.raw)])) I)))), (1, (.row 3 1 ((s3 ++ ([u2_] : (List Int))).map iC)))] rfl ⟨rfl, rfl, (by exact congrArg (LV.sl 1 0) (clL _ : (((s3.map iC) ++ [[(I u2_)]])).length = ((s3 ++ ([u2_] : (List Int))).map iC).length)), rfl, (congrArg (LV.int .i64) (w64_nat _ (by omega))), trivial⟩ ⟨.inl ⟨rfl, (NL_mp (fun _ => by repeat' first | exact True.intro | refine ⟨?_, ?_⟩) (fun _ => by repeat' first | exact True.intro | refine ⟨?_, ?_⟩) _)⟩, rfl, rfl, ⟨⟨rfl, rfl, .inl ⟨(smT : (((s3.map iC) ++ [[(I u2_)]]) : List (List LV)) = ((s3 ++ ([u2_] : (List Int))).map iC)), nlT⟩⟩, rfl, rfl, trivial⟩⟩ rfl (K3 _ e.symm)
            · exact (Bool.false_ne_true (hc.symm.trans hd)).elim
      · unfold judge_Where_c0 at b2
        have hd : decide (((k2 : Nat) : Int) < (((a0.map CopyT.cells).length : Nat) : Int)) = true := by rw [decide_eq_true_eq]; (try simp only [se_len, se_ch, List.length_map] at hk2); (try simp only [se_len, se_ch, List.length_map]); omega
        refine LoopW.round TT_ok [0, 1, 2, 6, 7, 8, 10, 11, 12, 13, 20, 26, 27, 28, 29, 40, 41, 42] ?_
        conv => whnf
        repeat' first | with_reducible rfl | with_reducible exact True.intro | with_reducible assumption | refine parkI ?_ | (refine W.drawnM (id := 9) 0 TT_ok hmix1 [0, 0, 0, 0, 0, 0, 1, 1] [0, 0, 0, 1, 1, 1, 1, 2] rfl ?_; conv => whnf) | exact clA _ | (refine And.intro ?_ ?_ <;> conv => whnf) | exact clG _ | (refine gand ?_ h; assumption) | exact clN _ | fail
        refine parkE (fun hc => ?_) (fun hc => ?_)
        · clear hd
          conv => whnf
          replace b2 := bindS b2
          obtain ⟨y5, hy5, b2⟩ := b2
          have c6 := c_judge_keyOf x2 _ hy5
          rcases m1_ : mfind s2 y5 with _ | ⟨w1_, u1_⟩
          · try simp only [mget_none m1_, mput_none m1_, mhas_none m1_, mget_mput] at b2
            have f7 : Finds TT 96 ((s2.map (mpC (fun z : judge_keyT => (LV.agg [(I z.seg), (LV.str z.raw)])) I)) ++ [((LV.agg [(I y5.seg), (LV.str y5.raw)]), (I 0))]) (LV.agg [(I y5.seg), (LV.str y5.raw)]) (some (s2.length, (I 0))) := by simpa only [se_mp] using finds_some (f := (fun z : judge_keyT => (LV.agg [(I z.seg), (LV.str z.raw)]))) (g := I) ke_96 (mfind_app m1_ 0)
            have f8 : Finds TT 96 ((s2.map (mpC (fun z : judge_keyT => (LV.agg [(I z.seg), (LV.str z.raw)])) I)) ++ [((LV.agg [(I y5.seg), (LV.str y5.raw)]), (I (IntKind.i64.wrap (0 + 1))))]) (LV.agg [(I y5.seg), (LV.str y5.raw)]) (some (s2.length, (I (IntKind.i64.wrap (0 + 1))))) := by simpa only [se_mp] using finds_some (f := (fun z : judge_keyT => (LV.agg [(I z.seg), (LV.str z.raw)]))) (g := I) ke_96 (mfind_app m1_ (IntKind.i64.wrap (0 + 1)))
            repeat' first | with_reducible rfl | with_reducible exact True.intro | with_reducible assumption | refine parkI ?_ | (refine ⟨_, (kixF (f := CopyT.cells) hx2), ?_⟩; conv => whnf) | (refine ⟨_, (finds_none (g := I) ke_96 m1_), ?_⟩; conv => whnf) | (refine ⟨_, f7, ?_⟩; conv => whnf) | (refine CallP.use c6 ?_; conv => whnf) | (refine ⟨_, _, CallP.at c6, ?_⟩; conv => whnf) | (refine ⟨_, fun _ => c6, ?_⟩; conv => whnf) | (refine ⟨_, _, entA (s2.map (mpC (fun z : judge_keyT => (LV.agg [(I z.seg), (LV.str z.raw)])) I)) ((LV.agg [(I y5.seg), (LV.str y5.raw)]), (I 0)), ?_⟩; (first | rw [entAS (s2.map (mpC (fun z : judge_keyT => (LV.agg [(I z.seg), (LV.str z.raw)])) I)) ((LV.agg [(I y5.seg), (LV.str y5.raw)]), (I 0))] | erw [entAS (s2.map (mpC (fun z : judge_keyT => (LV.agg [(I z.seg), (LV.str z.raw)])) I)) ((LV.agg [(I y5.seg), (LV.str y5.raw)]), (I 0))]); conv => whnf) | (refine W.drawnM (id := 9) 0 TT_ok hmix1 [0, 0, 0, 0, 0, 0, 1, 1] [0, 0, 0, 1, 1, 1, 1, 2] rfl ?_; conv => whnf) | exact clA _ | (refine And.intro ?_ ?_ <;> conv => whnf) | exact clG _ | (refine gand ?_ h; assumption) | exact clN _ | fail
            have e := Option.some.inj b2
            refine LoopW.norm [(1, (LV.str a1)), (2, (I a2)), (8, (LV.map 0)), (26, (LV.ro 5 (a0.map CopyT.cells))), (27, (I (((a0.map CopyT.cells).length : Nat) : Int))), (28, (I ((k2 + 1 : Nat) : Int)))] 1 [(0, (.mp ((s2 ++ [(y5, (IntKind.i64.wrap (0 + 1)))]).map (mpC (fun z : judge_keyT => (LV.agg [(I z.seg), (LV.str z.raw)])) I))))] ⟨rfl, rfl, rfl, rfl, rfl, (congrArg (LV.int .i64) (w64_nat _ (by omega))), trivial⟩ ⟨⟨(congrArg (fun q => some (Blk.mp q)) (by simp only [se_mp] : (((s2.map (mpC (fun z : judge_keyT => (LV.agg [(I z.seg), (LV.str z.raw)])) I)) ++ [((LV.agg [(I y5.seg), (LV.str y5.raw)]), (I (IntKind.i64.wrap (0 + 1))))]) : List (LV × LV)) = ((s2 ++ [(y5, (IntKind.i64.wrap (0 + 1)))]).map (mpC (fun z : judge_keyT => (LV.agg [(I z.seg), (LV.str z.raw)])) I)))), rfl, bel_mp (f := (fun z : judge_keyT => (LV.agg [(I z.seg), (LV.str z.raw)]))) (g := I) (fun _ => by repeat' first | exact True.intro | refine ⟨?_, ?_⟩) (fun _ => by repeat' first | exact True.intro | refine ⟨?_, ?_⟩) _ _⟩, trivial⟩ blT rfl (K2 _ e.symm)
          · try simp only [mget_some m1_, mput_some m1_, mhas_some m1_, mget_mput] at b2
            have f7 : Finds TT 96 (setN (s2.map (mpC (fun z : judge_keyT => (LV.agg [(I z.seg), (LV.str z.raw)])) I)) w1_ ((LV.agg [(I y5.seg), (LV.str y5.raw)]), (I (IntKind.i64.wrap (u1_ + 1))))) (LV.agg [(I y5.seg), (LV.str y5.raw)]) (some (w1_, (I (IntKind.i64.wrap (u1_ + 1))))) := by simpa only [se_mp] using finds_some (f := (fun z : judge_keyT => (LV.agg [(I z.seg), (LV.str z.raw)]))) (g := I) ke_96 (mfind_set m1_ (IntKind.i64.wrap (u1_ + 1)))
            repeat' first | with_reducible rfl | with_reducible exact True.intro | with_reducible assumption | refine parkI ?_ | (refine ⟨_, (kixF (f := CopyT.cells) hx2), ?_⟩; conv => whnf) | (refine ⟨_, (finds_some (g := I) ke_96 m1_), ?_⟩; conv => whnf) | (refine CallP.use c6 ?_; conv => whnf) | (refine ⟨_, _, CallP.at c6, ?_⟩; conv => whnf) | (refine ⟨_, fun _ => c6, ?_⟩; conv => whnf) | (refine ⟨_, _, entS (f := (fun z : judge_keyT => (LV.agg [(I z.seg), (LV.str z.raw)]))) (g := I) m1_, ?_⟩; (first | rw [entSS] | erw [entSS]); conv => whnf) | (refine W.drawnM (id := 9) 0 TT_ok hmix1 [0, 0, 0, 0, 0, 0, 1, 1] [0, 0, 0, 1, 1, 1, 1, 2] rfl ?_; conv => whnf) | exact clA _ | (refine And.intro ?_ ?_ <;> conv => whnf) | exact clG _ | (refine gand ?_ h; assumption) | exact clN _ | fail
            have e := Option.some.inj b2
            refine LoopW.norm [(1, (LV.str a1)), (2, (I a2)), (8, (LV.map 0)), (26, (LV.ro 5 (a0.map CopyT.cells))), (27, (I (((a0.map CopyT.cells).length : Nat) : Int))), (28, (I ((k2 + 1 : Nat) : Int)))] 1 [(0, (.mp ((s2.set w1_ (y5, (IntKind.i64.wrap (u1_ + 1)))).map (mpC (fun z : judge_keyT => (LV.agg [(I z.seg), (LV.str z.raw)])) I))))] ⟨rfl, rfl, rfl, rfl, rfl, (congrArg (LV.int .i64) (w64_nat _ (by omega))), trivial⟩ ⟨⟨(congrArg (fun q => some (Blk.mp q)) (by simp only [se_mp] : ((setN (s2.map (mpC (fun z : judge_keyT => (LV.agg [(I z.seg), (LV.str z.raw)])) I)) w1_ ((LV.agg [(I y5.seg), (LV.str y5.raw)]), (I (IntKind.i64.wrap (u1_ + 1))))) : List (LV × LV)) = ((s2.set w1_ (y5, (IntKind.i64.wrap (u1_ + 1)))).map (mpC (fun z : judge_keyT => (LV.agg [(I z.seg), (LV.str z.raw)])) I)))), rfl, bel_mp (f := (fun z : judge_keyT => (LV.agg [(I z.seg), (LV.str z.raw)]))) (g := I) (fun _ => by repeat' first | exact True.intro | refine ⟨?_, ?_⟩) (fun _ => by repeat' first | exact True.intro | refine ⟨?_, ?_⟩) _ _⟩, trivial⟩ blT rfl (K2 _ e.symm)
        · exact (Bool.false_ne_true (hc.symm.trans hd)).elim

end Go.RX
