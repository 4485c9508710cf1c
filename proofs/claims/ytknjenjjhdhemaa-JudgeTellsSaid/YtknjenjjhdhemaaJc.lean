/- Plain functions, and what says that the program's functions compute them. -/
import Derived.Test.YtknjenjjhdhemaaJb
import Derived.Test.YtknjenjjhdhemaaJa
set_option linter.unusedVariables false
set_option linter.unusedSimpArgs false
open Go Go.RX Go.Proofs
namespace Go.RX
set_option maxRecDepth 10000
set_option maxHeartbeats 4000000
attribute [local irreducible] CallW CallP LoopW W IntKind.wrap bitI
def judge_Twice_c0  (k9 : Nat) (x9 : CopyT) (s9 : (List (judge_keyT × Bool))) : Option (Step Int (List (judge_keyT × Bool))) :=
  (judge_keyOf x9).bind fun y1 =>
  (bif (mget s9 y1 false) then
    some (.ret ((k9 : Nat) : Int))
  else
    some (.nxt (mput s9 y1 true)))

def judge_Twice (a0 : (List CopyT)) : Option Int :=
  aft (rangeL (judge_Twice_c0 ) a0 ([] : List (judge_keyT × Bool))) fun s9 =>
  some (-1)

theorem c_judge_Twice (a0 : (List CopyT)) (r : Int) (h : judge_Twice a0 = some r) : CallP Try.prog 28 [(LV.ro 5 (a0.map CopyT.cells))] (I r) := by
  unfold judge_Twice at h
  refine .intro nlA (.intro TT_ok Try.func28 rfl rfl [0, 2, 3, 4, 5, 7, 8, 9, 10, 17] rfl ?_)
  conv => whnf
  repeat' first | with_reducible rfl | with_reducible exact True.intro | with_reducible assumption | refine parkI ?_ | (refine And.intro ?_ ?_ <;> conv => whnf) | fail
  replace h := aftS h
  obtain ⟨O9, hO9, r9⟩ := h
  refine LoopW.norm [(3, (LV.map 0)), (7, (LV.ro 5 (a0.map CopyT.cells))), (8, (I (((a0.map CopyT.cells).length : Nat) : Int))), (9, (I ((0 : Nat) : Int)))] 1 [(0, (.mp (([] : List (judge_keyT × Bool)).map (mpC (fun z : judge_keyT => (LV.agg [(I z.seg), (LV.str z.raw)])) (fun z : Bool => (LV.bool z))))))] ⟨rfl, rfl, rfl, rfl, trivial⟩ ⟨⟨(congrArg (fun q => some (Blk.mp q)) (by simp only [se_mp] : (([] : List (LV × LV)) : List (LV × LV)) = (([] : List (judge_keyT × Bool)).map (mpC (fun z : judge_keyT => (LV.agg [(I z.seg), (LV.str z.raw)])) (fun z : Bool => (LV.bool z)))))), rfl, bel_mp (f := (fun z : judge_keyT => (LV.agg [(I z.seg), (LV.str z.raw)]))) (g := (fun z : Bool => (LV.bool z))) (fun _ => by repeat' first | exact True.intro | refine ⟨?_, ?_⟩) (fun _ => by repeat' first | exact True.intro | refine ⟨?_, ?_⟩) _ _⟩, trivial⟩ blT rfl ?_
  refine LoopW.forR (fun k9 s9 => [(3, (LV.map 0)), (7, (LV.ro 5 (a0.map CopyT.cells))), (8, (I (((a0.map CopyT.cells).length : Nat) : Int))), (9, (I ((k9 : Nat) : Int)))]) (fun s9 => ⟨1, [(0, (.mp (s9.map (mpC (fun z : judge_keyT => (LV.agg [(I z.seg), (LV.str z.raw)])) (fun z : Bool => (LV.bool z))))))]⟩) hO9 (fun hl9 s9 hs9 => ?_) (fun hl9 k9 x9 s9 o9 hk9 hx9 b9 K9 hret9 hbrk9 => ?_)
  · rw [hs9] at r9
    dsimp only [aftM] at r9
    have hd : decide (((a0.length : Nat) : Int) < (((a0.map CopyT.cells).length : Nat) : Int)) = false := by rw [decide_eq_false_iff_not]; (try simp only [se_len, se_ch, List.length_map]); omega
    refine LoopW.round TT_ok [0, 2, 3, 4, 5, 7, 8, 9, 10, 17] ?_
    conv => whnf
    repeat' first | with_reducible rfl | with_reducible exact True.intro | with_reducible assumption | refine parkI ?_ | (refine And.intro ?_ ?_ <;> conv => whnf) | fail
    refine parkE (fun hc => ?_) (fun hc => ?_)
    · exact (Bool.false_ne_true (hd.symm.trans hc)).elim
    · clear hd
      conv => whnf
      have e := Option.some.inj r9
      subst e
      repeat' first | with_reducible rfl | with_reducible exact True.intro | with_reducible assumption | exact clA _ | (refine And.intro ?_ ?_ <;> conv => whnf) | exact clG _ | (refine gand ?_ h; assumption) | exact clN _ | fail
  · unfold judge_Twice_c0 at b9
    have hd : decide (((k9 : Nat) : Int) < (((a0.map CopyT.cells).length : Nat) : Int)) = true := by rw [decide_eq_true_eq]; (try simp only [se_len, se_ch, List.length_map] at hk9); (try simp only [se_len, se_ch, List.length_map]); omega
    refine LoopW.round TT_ok [0, 2, 3, 4, 5, 7, 8, 9, 10, 17] ?_
    conv => whnf
    repeat' first | with_reducible rfl | with_reducible exact True.intro | with_reducible assumption | refine parkI ?_ | (refine And.intro ?_ ?_ <;> conv => whnf) | fail
    refine parkE (fun hc => ?_) (fun hc => ?_)
    · clear hd
      conv => whnf
      replace b9 := bindS b9
      obtain ⟨y1, hy1, b9⟩ := b9
      have c2 := c_judge_keyOf x9 _ hy1
      rcases m1_ : mfind s9 y1 with _ | ⟨w1_, u1_⟩
      · try simp only [mget_none m1_, mput_none m1_, mhas_none m1_, mget_mput] at b9
        repeat' first | with_reducible rfl | with_reducible exact True.intro | with_reducible assumption | refine parkI ?_ | (refine ⟨_, (kixF (f := CopyT.cells) hx9), ?_⟩; conv => whnf) | (refine ⟨_, (finds_none (g := (fun z : Bool => (LV.bool z))) ke_96 m1_), ?_⟩; conv => whnf) | (refine CallP.use c2 ?_; conv => whnf) | (refine And.intro ?_ ?_ <;> conv => whnf) | fail
        refine parkE (fun hc => ?_) (fun hc => ?_)
        · exact (Bool.false_ne_true (((rfl : false = false)).symm.trans hc)).elim
        · conv => whnf
          have f3 : Finds TT 96 ((s9.map (mpC (fun z : judge_keyT => (LV.agg [(I z.seg), (LV.str z.raw)])) (fun z : Bool => (LV.bool z)))) ++ [((LV.agg [(I y1.seg), (LV.str y1.raw)]), (LV.bool true))]) (LV.agg [(I y1.seg), (LV.str y1.raw)]) (some (s9.length, (LV.bool true))) := by simpa only [se_mp] using finds_some (f := (fun z : judge_keyT => (LV.agg [(I z.seg), (LV.str z.raw)]))) (g := (fun z : Bool => (LV.bool z))) ke_96 (mfind_app m1_ true)
          repeat' first | with_reducible rfl | with_reducible exact True.intro | with_reducible assumption | refine parkI ?_ | (refine ⟨_, (finds_none (g := (fun z : Bool => (LV.bool z))) ke_96 m1_), ?_⟩; conv => whnf) | (refine CallP.use c2 ?_; conv => whnf) | (refine And.intro ?_ ?_ <;> conv => whnf) | fail
          have e := Option.some.inj b9
          refine LoopW.norm [(3, (LV.map 0)), (7, (LV.ro 5 (a0.map CopyT.cells))), (8, (I (((a0.map CopyT.cells).length : Nat) : Int))), (9, (I ((k9 + 1 : Nat) : Int)))] 1 [(0, (.mp ((s9 ++ [(y1, true)]).map (mpC (fun z : judge_keyT => (LV.agg [(I z.seg), (LV.str z.raw)])) (fun z : Bool => (LV.bool z))))))] ⟨rfl, rfl, rfl, (congrArg (LV.int .i64) (w64_nat _ (by omega))), trivial⟩ ⟨⟨(congrArg (fun q => some (Blk.mp q)) (by simp only [se_mp] : (((s9.map (mpC (fun z : judge_keyT => (LV.agg [(I z.seg), (LV.str z.raw)])) (fun z : Bool => (LV.bool z)))) ++ [((LV.agg [(I y1.seg), (LV.str y1.raw)]), (LV.bool true))]) : List (LV × LV)) = ((s9 ++ [(y1, true)]).map (mpC (fun z : judge_keyT => (LV.agg [(I z.seg), (LV.str z.raw)])) (fun z : Bool => (LV.bool z)))))), rfl, bel_mp (f := (fun z : judge_keyT => (LV.agg [(I z.seg), (LV.str z.raw)]))) (g := (fun z : Bool => (LV.bool z))) (fun _ => by repeat' first | exact True.intro | refine ⟨?_, ?_⟩) (fun _ => by repeat' first | exact True.intro | refine ⟨?_, ?_⟩) _ _⟩, trivial⟩ blT rfl (K9 _ e.symm)
      · try simp only [mget_some m1_, mput_some m1_, mhas_some m1_, mget_mput] at b9
        repeat' first | with_reducible rfl | with_reducible exact True.intro | with_reducible assumption | refine parkI ?_ | (refine ⟨_, (kixF (f := CopyT.cells) hx9), ?_⟩; conv => whnf) | (refine ⟨_, (finds_some (g := (fun z : Bool => (LV.bool z))) ke_96 m1_), ?_⟩; conv => whnf) | (refine CallP.use c2 ?_; conv => whnf) | (refine And.intro ?_ ?_ <;> conv => whnf) | fail
        refine parkE (fun hc => ?_) (fun hc => ?_)
        · replace b9 := condT hc b9
          conv => whnf
          have e := Option.some.inj b9
          replace e := hret9 _ e.symm
          rw [e] at r9
          replace e := Option.some.inj r9
          subst e
          repeat' first | with_reducible rfl | with_reducible exact True.intro | with_reducible assumption | exact clA _ | (refine And.intro ?_ ?_ <;> conv => whnf) | exact clG _ | (refine gand ?_ h; assumption) | exact clN _ | fail
        · replace b9 := condF hc b9
          conv => whnf
          have f3 : Finds TT 96 (setN (s9.map (mpC (fun z : judge_keyT => (LV.agg [(I z.seg), (LV.str z.raw)])) (fun z : Bool => (LV.bool z)))) w1_ ((LV.agg [(I y1.seg), (LV.str y1.raw)]), (LV.bool true))) (LV.agg [(I y1.seg), (LV.str y1.raw)]) (some (w1_, (LV.bool true))) := by simpa only [se_mp] using finds_some (f := (fun z : judge_keyT => (LV.agg [(I z.seg), (LV.str z.raw)]))) (g := (fun z : Bool => (LV.bool z))) ke_96 (mfind_set m1_ true)
          repeat' first | with_reducible rfl | with_reducible exact True.intro | with_reducible assumption | refine parkI ?_ | (refine ⟨_, (finds_some (g := (fun z : Bool => (LV.bool z))) ke_96 m1_), ?_⟩; conv => whnf) | (refine CallP.use c2 ?_; conv => whnf) | (refine And.intro ?_ ?_ <;> conv => whnf) | fail
          have e := Option.some.inj b9
          refine LoopW.norm [(3, (LV.map 0)), (7, (LV.ro 5 (a0.map CopyT.cells))), (8, (I (((a0.map CopyT.cells).length : Nat) : Int))), (9, (I ((k9 + 1 : Nat) : Int)))] 1 [(0, (.mp ((s9.set w1_ (y1, true)).map (mpC (fun z : judge_keyT => (LV.agg [(I z.seg), (LV.str z.raw)])) (fun z : Bool => (LV.bool z))))))] ⟨rfl, rfl, rfl, (congrArg (LV.int .i64) (w64_nat _ (by omega))), trivial⟩ ⟨⟨(congrArg (fun q => some (Blk.mp q)) (by simp only [se_mp] : ((setN (s9.map (mpC (fun z : judge_keyT => (LV.agg [(I z.seg), (LV.str z.raw)])) (fun z : Bool => (LV.bool z)))) w1_ ((LV.agg [(I y1.seg), (LV.str y1.raw)]), (LV.bool true))) : List (LV × LV)) = ((s9.set w1_ (y1, true)).map (mpC (fun z : judge_keyT => (LV.agg [(I z.seg), (LV.str z.raw)])) (fun z : Bool => (LV.bool z)))))), rfl, bel_mp (f := (fun z : judge_keyT => (LV.agg [(I z.seg), (LV.str z.raw)]))) (g := (fun z : Bool => (LV.bool z))) (fun _ => by repeat' first | exact True.intro | refine ⟨?_, ?_⟩) (fun _ => by repeat' first | exact True.intro | refine ⟨?_, ?_⟩) _ _⟩, trivial⟩ blT rfl (K9 _ e.symm)
    · exact (Bool.false_ne_true (hc.symm.trans hd)).elim

theorem ke_9 (a b : ByteArray) : eqL TT 8 9 ((fun z : ByteArray => (LV.str z)) a) ((fun z : ByteArray => (LV.str z)) b) = some (decide (a = b)) := congrArg some (by rw [Bool.eq_iff_iff, ba_beq, decide_eq_true_iff])

def judge_Stray_c0 (a0 : LanT) (a1 : (List (List Bool))) (k10 : Nat) (x10 : CopyT) (s10 : (List (ByteArray × (List Int)))) : Option (Step (Int × Int) (List (ByteArray × (List Int)))) :=
  (bif (!(mhas s10 x10.Raw)) then
    (flood_Reach a0 a1 x10.Seg).bind fun y7 =>
    (slices_Contains_int y7.1 x10.Seg).bind fun y9 =>
    (bif (!y9) then
      some (.ret (((k10 : Nat) : Int), 0))
    else
      some (.nxt (mput s10 x10.Raw y7.1)))
  else
    (slices_Contains_int (mget s10 x10.Raw ([])) x10.Seg).bind fun y11 =>
    (bif (!y11) then
      some (.ret (((k10 : Nat) : Int), 0))
    else
      some (.nxt s10)))

def judge_Stray (a0 : LanT) (a1 : (List (List Bool))) (a2 : (List CopyT)) : Option (Int × Int) :=
  (flood_Reach a0 a1 0).bind fun y1 =>
  (gd (!(!decide (y1.2 = 0))) (judge_odd a0.Segs)).bind fun y3 =>
  (gd (!(!decide (y1.2 = 0))) (slices_ContainsFunc_Copy a2 (fun x0_ => judge_odd_1 x0_ y3))).bind fun y5 =>
  (bif (bif (!decide (y1.2 = 0)) then true else y5) then
    some (0, 1)
  else
    aft (rangeL (judge_Stray_c0 a0 a1) a2 ([] : List (ByteArray × (List Int)))) fun s10 =>
    some ((-1), 0))

theorem c_judge_Stray (a0 : LanT) (a1 : (List (List Bool))) (a2 : (List CopyT)) (r : (Int × Int)) (h : judge_Stray a0 a1 a2 = some r) : CallP Try.prog 26 [(LV.agg [(I a0.Segs), (LV.ro 2 (a0.Plans.map PlanT.cells)), (LV.ro 2 (a0.Hosts.map HostT.cells))]), (LV.ro 1 (a1.map (roC 1 bC))), (LV.ro 5 (a2.map CopyT.cells))] (LV.tup [(I r.1), (I r.2)]) := by
  unfold judge_Stray at h
  refine .intro nlA (.intro TT_ok Try.func26 rfl rfl [0, 1, 2, 3, 6, 7, 9, 10, 11, 12, 13, 14, 29, 31, 32, 33, 34, 46, 63] rfl ?_)
  conv => whnf
  replace h := bindS h
  obtain ⟨y1, hy1, h⟩ := h
  have c2 := c_flood_Reach a0 a1 0 _ hy1
  replace h := bindS h
  obtain ⟨y3, hy3, h⟩ := h
  have c4 := fun (hg : (!(!decide (y1.2 = 0))) = true) => c_judge_odd a0.Segs _ (gdS hg hy3)
  replace h := bindS h
  obtain ⟨y5, hy5, h⟩ := h
  have c6 := fun (hg : (!(!decide (y1.2 = 0))) = true) => c_slices_ContainsFunc_Copy a2 89 [] [(LV.rptr [(I y3)])] (fun x0_ => judge_odd_1 x0_ y3) (fun x0_ r h => c_judge_odd_1 x0_ y3 r h) nlB _ (gdS hg hy5)
  repeat' first | with_reducible rfl | with_reducible exact True.intro | with_reducible assumption | refine parkI ?_ | (refine ⟨_, c4, ?_⟩; conv => whnf) | (refine ⟨_, c6, ?_⟩; conv => whnf) | (refine CallP.use c2 ?_; conv => whnf) | exact clA _ | (refine And.intro ?_ ?_ <;> conv => whnf) | exact clG _ | (refine gand ?_ h; assumption) | fail
  refine parkE (fun hc => ?_) (fun hc => ?_)
  · replace h := condT hc h
    conv => whnf
    have e := Option.some.inj h
    subst e
    repeat' first | with_reducible rfl | with_reducible exact True.intro | with_reducible assumption | exact clA _ | (refine And.intro ?_ ?_ <;> conv => whnf) | exact clG _ | (refine gand ?_ h; assumption) | exact clN _ | fail
  · replace h := condF hc h
    conv => whnf
    repeat' first | with_reducible rfl | with_reducible exact True.intro | with_reducible assumption | refine parkI ?_ | (refine And.intro ?_ ?_ <;> conv => whnf) | fail
    replace h := aftS h
    obtain ⟨O10, hO10, r10⟩ := h
    refine LoopW.norm [(1, (LV.ro 1 (a1.map (roC 1 bC)))), (3, (LV.ptr 0 0 0)), (10, (LV.map 1)), (31, (LV.ro 5 (a2.map CopyT.cells))), (32, (I (((a2.map CopyT.cells).length : Nat) : Int))), (33, (I ((0 : Nat) : Int)))] 2 [(0, (.row 47 3 [[(I a0.Segs), (LV.ro 2 (a0.Plans.map PlanT.cells)), (LV.ro 2 (a0.Hosts.map HostT.cells))]])), (1, (.mp (([] : List (ByteArray × (List Int))).map (mpC (fun z : ByteArray => (LV.str z)) (fun z : (List Int) => (LV.ro 1 (z.map iC)))))))] ⟨rfl, rfl, rfl, rfl, rfl, rfl, trivial⟩ ⟨⟨rfl, rfl, blT⟩, ⟨⟨(congrArg (fun q => some (Blk.mp q)) (by simp only [se_mp] : (([] : List (LV × LV)) : List (LV × LV)) = (([] : List (ByteArray × (List Int))).map (mpC (fun z : ByteArray => (LV.str z)) (fun z : (List Int) => (LV.ro 1 (z.map iC))))))), rfl, bel_mp (f := (fun z : ByteArray => (LV.str z))) (g := (fun z : (List Int) => (LV.ro 1 (z.map iC)))) (fun _ => by repeat' first | exact True.intro | refine ⟨?_, ?_⟩) (fun _ => by repeat' first | exact True.intro | refine ⟨?_, ?_⟩) _ _⟩, trivial⟩⟩ blT rfl ?_
    refine LoopW.forR (fun k10 s10 => [(1, (LV.ro 1 (a1.map (roC 1 bC)))), (3, (LV.ptr 0 0 0)), (10, (LV.map 1)), (31, (LV.ro 5 (a2.map CopyT.cells))), (32, (I (((a2.map CopyT.cells).length : Nat) : Int))), (33, (I ((k10 : Nat) : Int)))]) (fun s10 => ⟨2, [(0, (.row 47 3 [[(I a0.Segs), (LV.ro 2 (a0.Plans.map PlanT.cells)), (LV.ro 2 (a0.Hosts.map HostT.cells))]])), (1, (.mp (s10.map (mpC (fun z : ByteArray => (LV.str z)) (fun z : (List Int) => (LV.ro 1 (z.map iC)))))))]⟩) hO10 (fun hl10 s10 hs10 => ?_) (fun hl10 k10 x10 s10 o10 hk10 hx10 b10 K10 hret10 hbrk10 => ?_)
    · rw [hs10] at r10
      dsimp only [aftM] at r10
      have hd : decide (((a2.length : Nat) : Int) < (((a2.map CopyT.cells).length : Nat) : Int)) = false := by rw [decide_eq_false_iff_not]; (try simp only [se_len, se_ch, List.length_map]); omega
      refine LoopW.round TT_ok [0, 1, 2, 3, 6, 7, 9, 10, 11, 12, 13, 14, 29, 31, 32, 33, 34, 46, 63] ?_
      conv => whnf
      repeat' first | with_reducible rfl | with_reducible exact True.intro | with_reducible assumption | refine parkI ?_ | (refine And.intro ?_ ?_ <;> conv => whnf) | fail
      refine parkE (fun hc => ?_) (fun hc => ?_)
      · exact (Bool.false_ne_true (hd.symm.trans hc)).elim
      · clear hd
        conv => whnf
        have e := Option.some.inj r10
        subst e
        repeat' first | with_reducible rfl | with_reducible exact True.intro | with_reducible assumption | exact clA _ | (refine And.intro ?_ ?_ <;> conv => whnf) | exact clG _ | (refine gand ?_ h; assumption) | exact clN _ | fail
    · unfold judge_Stray_c0 at b10
      have hd : decide (((k10 : Nat) : Int) < (((a2.map CopyT.cells).length : Nat) : Int)) = true := by rw [decide_eq_true_eq]; (try simp only [se_len, se_ch, List.length_map] at hk10); (try simp only [se_len, se_ch, List.length_map]); omega
      refine LoopW.round TT_ok [0, 1, 2, 3, 6, 7, 9, 10, 11, 12, 13, 14, 29, 31, 32, 33, 34, 46, 63] ?_
      conv => whnf
      repeat' first | with_reducible rfl | with_reducible exact True.intro | with_reducible assumption | refine parkI ?_ | (refine And.intro ?_ ?_ <;> conv => whnf) | fail
      refine parkE (fun hc => ?_) (fun hc => ?_)
      · clear hd
        conv => whnf
        rcases m2_ : mfind s10 x10.Raw with _ | ⟨w2_, u2_⟩
        · try simp only [mget_none m2_, mput_none m2_, mhas_none m2_, mget_mput] at b10
          repeat' first | with_reducible rfl | with_reducible exact True.intro | with_reducible assumption | refine parkI ?_ | (refine ⟨_, (kixF (f := CopyT.cells) hx10), ?_⟩; conv => whnf) | (refine ⟨_, (finds_none (g := (fun z : (List Int) => (LV.ro 1 (z.map iC)))) ke_9 m2_), ?_⟩; conv => whnf) | (refine And.intro ?_ ?_ <;> conv => whnf) | fail
          refine parkE (fun hc => ?_) (fun hc => ?_)
          · replace b10 := condT hc b10
            conv => whnf
            replace b10 := bindS b10
            obtain ⟨y7, hy7, b10⟩ := b10
            have c8 := c_flood_Reach a0 a1 x10.Seg _ hy7
            have f9 : Finds TT 9 ((s10.map (mpC (fun z : ByteArray => (LV.str z)) (fun z : (List Int) => (LV.ro 1 (z.map iC))))) ++ [((LV.str x10.Raw), (LV.ro 1 (y7.1.map iC)))]) (LV.str x10.Raw) (some (s10.length, (LV.ro 1 (y7.1.map iC)))) := by simpa only [se_mp] using finds_some (f := (fun z : ByteArray => (LV.str z))) (g := (fun z : (List Int) => (LV.ro 1 (z.map iC)))) ke_9 (mfind_app m2_ y7.1)
            replace b10 := bindS b10
            obtain ⟨y10, hy10, b10⟩ := b10
            have c11 := c_slices_Contains_int y7.1 x10.Seg _ hy10
            repeat' first | with_reducible rfl | with_reducible exact True.intro | with_reducible assumption | refine parkI ?_ | (refine ⟨_, (finds_none (g := (fun z : (List Int) => (LV.ro 1 (z.map iC)))) ke_9 m2_), ?_⟩; conv => whnf) | (refine CallP.use c8 ?_; conv => whnf) | (refine CallP.use c11 ?_; conv => whnf) | (refine And.intro ?_ ?_ <;> conv => whnf) | fail
            refine parkE (fun hc => ?_) (fun hc => ?_)
            · replace b10 := condT hc b10
              conv => whnf
              have e := Option.some.inj b10
              replace e := hret10 _ e.symm
              rw [e] at r10
              replace e := Option.some.inj r10
              subst e
              repeat' first | with_reducible rfl | with_reducible exact True.intro | with_reducible assumption | exact clA _ | (refine And.intro ?_ ?_ <;> conv => whnf) | exact clG _ | (refine gand ?_ h; assumption) | exact clN _ | fail
            · replace b10 := condF hc b10
              conv => whnf
              repeat' first | with_reducible rfl | with_reducible exact True.intro | with_reducible assumption | refine parkI ?_ | (refine And.intro ?_ ?_ <;> conv => whnf) | fail
              have e := Option.some.inj b10
              refine LoopW.norm [(1, (LV.ro 1 (a1.map (roC 1 bC)))), (3, (LV.ptr 0 0 0)), (10, (LV.map 1)), (31, (LV.ro 5 (a2.map CopyT.cells))), (32, (I (((a2.map CopyT.cells).length : Nat) : Int))), (33, (I ((k10 + 1 : Nat) : Int)))] 2 [(0, (.row 47 3 [[(I a0.Segs), (LV.ro 2 (a0.Plans.map PlanT.cells)), (LV.ro 2 (a0.Hosts.map HostT.cells))]])), (1, (.mp ((s10 ++ [(x10.Raw, y7.1)]).map (mpC (fun z : ByteArray => (LV.str z)) (fun z : (List Int) => (LV.ro 1 (z.map iC)))))))] ⟨rfl, rfl, rfl, rfl, rfl, (congrArg (LV.int .i64) (w64_nat _ (by omega))), trivial⟩ ⟨⟨rfl, rfl, blT⟩, ⟨⟨(congrArg (fun q => some (Blk.mp q)) (by simp only [se_mp] : (((s10.map (mpC (fun z : ByteArray => (LV.str z)) (fun z : (List Int) => (LV.ro 1 (z.map iC))))) ++ [((LV.str x10.Raw), (LV.ro 1 (y7.1.map iC)))]) : List (LV × LV)) = ((s10 ++ [(x10.Raw, y7.1)]).map (mpC (fun z : ByteArray => (LV.str z)) (fun z : (List Int) => (LV.ro 1 (z.map iC))))))), rfl, bel_mp (f := (fun z : ByteArray => (LV.str z))) (g := (fun z : (List Int) => (LV.ro 1 (z.map iC)))) (fun _ => by repeat' first | exact True.intro | refine ⟨?_, ?_⟩) (fun _ => by repeat' first | exact True.intro | refine ⟨?_, ?_⟩) _ _⟩, trivial⟩⟩ blT rfl (K10 _ e.symm)
          · replace b10 := condF hc b10
            conv => whnf
            replace b10 := bindS b10
            obtain ⟨y12, hy12, b10⟩ := b10
            have c13 : CallP Try.prog 58 [(LV.ro 1 ([] : List (List LV))), (I x10.Seg)] (LV.bool y12) := by first | exact c_slices_Contains_int ([]) x10.Seg _ hy12 | (simpa only [se_map, se_byL, se_len, se_ch, List.length_map] using c_slices_Contains_int ([]) x10.Seg _ hy12)
            repeat' first | with_reducible rfl | with_reducible exact True.intro | with_reducible assumption | refine parkI ?_ | (refine CallP.use (CallP.up c13 upT) ?_; conv => whnf) | (refine And.intro ?_ ?_ <;> conv => whnf) | fail
            refine parkE (fun hc => ?_) (fun hc => ?_)
            · replace b10 := condT hc b10
              conv => whnf
              have e := Option.some.inj b10
              replace e := hret10 _ e.symm
              rw [e] at r10
              replace e := Option.some.inj r10
              subst e
              repeat' first | with_reducible rfl | with_reducible exact True.intro | with_reducible assumption | exact clA _ | (refine And.intro ?_ ?_ <;> conv => whnf) | exact clG _ | (refine gand ?_ h; assumption) | exact clN _ | fail
            · replace b10 := condF hc b10
              conv => whnf
              repeat' first | with_reducible rfl | with_reducible exact True.intro | with_reducible assumption | refine parkI ?_ | (refine And.intro ?_ ?_ <;> conv => whnf) | fail
              have e := Option.some.inj b10
              refine LoopW.norm [(1, (LV.ro 1 (a1.map (roC 1 bC)))), (3, (LV.ptr 0 0 0)), (10, (LV.map 1)), (31, (LV.ro 5 (a2.map CopyT.cells))), (32, (I (((a2.map CopyT.cells).length : Nat) : Int))), (33, (I ((k10 + 1 : Nat) : Int)))] 2 [(0, (.row 47 3 [[(I a0.Segs), (LV.ro 2 (a0.Plans.map PlanT.cells)), (LV.ro 2 (a0.Hosts.map HostT.cells))]])), (1, (.mp (s10.map (mpC (fun z : ByteArray => (LV.str z)) (fun z : (List Int) => (LV.ro 1 (z.map iC)))))))] ⟨rfl, rfl, rfl, rfl, rfl, (congrArg (LV.int .i64) (w64_nat _ (by omega))), trivial⟩ ⟨⟨rfl, rfl, blT⟩, ⟨⟨rfl, rfl, bel_mp (f := (fun z : ByteArray => (LV.str z))) (g := (fun z : (List Int) => (LV.ro 1 (z.map iC)))) (fun _ => by repeat' first | exact True.intro | refine ⟨?_, ?_⟩) (fun _ => by repeat' first | exact True.intro | refine ⟨?_, ?_⟩) _ _⟩, trivial⟩⟩ blT rfl (K10 _ e.symm)
        · try simp only [mget_some m2_, mput_some m2_, mhas_some m2_, mget_mput] at b10
          repeat' first | with_reducible rfl | with_reducible exact True.intro | with_reducible assumption | refine parkI ?_ | (refine ⟨_, (kixF (f := CopyT.cells) hx10), ?_⟩; conv => whnf) | (refine ⟨_, (finds_some (g := (fun z : (List Int) => (LV.ro 1 (z.map iC)))) ke_9 m2_), ?_⟩; conv => whnf) | (refine And.intro ?_ ?_ <;> conv => whnf) | fail
          refine parkE (fun hc => ?_) (fun hc => ?_)
          · replace b10 := condT hc b10
            conv => whnf
            replace b10 := bindS b10
            obtain ⟨y7, hy7, b10⟩ := b10
            have c8 := c_flood_Reach a0 a1 x10.Seg _ hy7
            have f9 : Finds TT 9 (setN (s10.map (mpC (fun z : ByteArray => (LV.str z)) (fun z : (List Int) => (LV.ro 1 (z.map iC))))) w2_ ((LV.str x10.Raw), (LV.ro 1 (y7.1.map iC)))) (LV.str x10.Raw) (some (w2_, (LV.ro 1 (y7.1.map iC)))) := by simpa only [se_mp] using finds_some (f := (fun z : ByteArray => (LV.str z))) (g := (fun z : (List Int) => (LV.ro 1 (z.map iC)))) ke_9 (mfind_set m2_ y7.1)
            replace b10 := bindS b10
            obtain ⟨y10, hy10, b10⟩ := b10
            have c11 := c_slices_Contains_int y7.1 x10.Seg _ hy10
            repeat' first | with_reducible rfl | with_reducible exact True.intro | with_reducible assumption | refine parkI ?_ | (refine ⟨_, (finds_some (g := (fun z : (List Int) => (LV.ro 1 (z.map iC)))) ke_9 m2_), ?_⟩; conv => whnf) | (refine CallP.use c8 ?_; conv => whnf) | (refine CallP.use c11 ?_; conv => whnf) | (refine And.intro ?_ ?_ <;> conv => whnf) | fail
            refine parkE (fun hc => ?_) (fun hc => ?_)
            · replace b10 := condT hc b10
              conv => whnf
              have e := Option.some.inj b10
              replace e := hret10 _ e.symm
              rw [e] at r10
              replace e := Option.some.inj r10
              subst e
              repeat' first | with_reducible rfl | with_reducible exact True.intro | with_reducible assumption | exact clA _ | (refine And.intro ?_ ?_ <;> conv => whnf) | exact clG _ | (refine gand ?_ h; assumption) | exact clN _ | fail
            · replace b10 := condF hc b10
              conv => whnf
              repeat' first | with_reducible rfl | with_reducible exact True.intro | with_reducible assumption | refine parkI ?_ | (refine And.intro ?_ ?_ <;> conv => whnf) | fail
              have e := Option.some.inj b10
              refine LoopW.norm [(1, (LV.ro 1 (a1.map (roC 1 bC)))), (3, (LV.ptr 0 0 0)), (10, (LV.map 1)), (31, (LV.ro 5 (a2.map CopyT.cells))), (32, (I (((a2.map CopyT.cells).length : Nat) : Int))), (33, (I ((k10 + 1 : Nat) : Int)))] 2 [(0, (.row 47 3 [[(I a0.Segs), (LV.ro 2 (a0.Plans.map PlanT.cells)), (LV.ro 2 (a0.Hosts.map HostT.cells))]])), (1, (.mp ((s10.set w2_ (x10.Raw, y7.1)).map (mpC (fun z : ByteArray => (LV.str z)) (fun z : (List Int) => (LV.ro 1 (z.map iC)))))))] ⟨rfl, rfl, rfl, rfl, rfl, (congrArg (LV.int .i64) (w64_nat _ (by omega))), trivial⟩ ⟨⟨rfl, rfl, blT⟩, ⟨⟨(congrArg (fun q => some (Blk.mp q)) (by simp only [se_mp] : ((setN (s10.map (mpC (fun z : ByteArray => (LV.str z)) (fun z : (List Int) => (LV.ro 1 (z.map iC))))) w2_ ((LV.str x10.Raw), (LV.ro 1 (y7.1.map iC)))) : List (LV × LV)) = ((s10.set w2_ (x10.Raw, y7.1)).map (mpC (fun z : ByteArray => (LV.str z)) (fun z : (List Int) => (LV.ro 1 (z.map iC))))))), rfl, bel_mp (f := (fun z : ByteArray => (LV.str z))) (g := (fun z : (List Int) => (LV.ro 1 (z.map iC)))) (fun _ => by repeat' first | exact True.intro | refine ⟨?_, ?_⟩) (fun _ => by repeat' first | exact True.intro | refine ⟨?_, ?_⟩) _ _⟩, trivial⟩⟩ blT rfl (K10 _ e.symm)
          · replace b10 := condF hc b10
            conv => whnf
            replace b10 := bindS b10
            obtain ⟨y12, hy12, b10⟩ := b10
            have c13 := c_slices_Contains_int u2_ x10.Seg _ hy12
            repeat' first | with_reducible rfl | with_reducible exact True.intro | with_reducible assumption | refine parkI ?_ | (refine CallP.use c13 ?_; conv => whnf) | (refine And.intro ?_ ?_ <;> conv => whnf) | fail
            refine parkE (fun hc => ?_) (fun hc => ?_)
            · replace b10 := condT hc b10
              conv => whnf
              have e := Option.some.inj b10
              replace e := hret10 _ e.symm
              rw [e] at r10
              replace e := Option.some.inj r10
              subst e
              repeat' first | with_reducible rfl | with_reducible exact True.intro | with_reducible assumption | exact clA _ | (refine And.intro ?_ ?_ <;> conv => whnf) | exact clG _ | (refine gand ?_ h; assumption) | exact clN _ | fail
            · replace b10 := condF hc b10
              conv => whnf
              repeat' first | with_reducible rfl | with_reducible exact True.intro | with_reducible assumption | refine parkI ?_ | (refine And.intro ?_ ?_ <;> conv => whnf) | fail
              have e := Option.some.inj b10
              refine LoopW.norm [(1, (LV.ro 1 (a1.map (roC 1 bC)))), (3, (LV.ptr 0 0 0)), (10, (LV.map 1)), (31, (LV.ro 5 (a2.map CopyT.cells))), (32, (I (((a2.map CopyT.cells).length : Nat) : Int))), (33, (I ((k10 + 1 : Nat) : Int)))] 2 [(0, (.row 47 3 [[(I a0.Segs), (LV.ro 2 (a0.Plans.map PlanT.cells)), (LV.ro 2 (a0.Hosts.map HostT.cells))]])), (1, (.mp (s10.map (mpC (fun z : ByteArray => (LV.str z)) (fun z : (List Int) => (LV.ro 1 (z.map iC)))))))] ⟨rfl, rfl, rfl, rfl, rfl, (congrArg (LV.int .i64) (w64_nat _ (by omega))), trivial⟩ ⟨⟨rfl, rfl, blT⟩, ⟨⟨rfl, rfl, bel_mp (f := (fun z : ByteArray => (LV.str z))) (g := (fun z : (List Int) => (LV.ro 1 (z.map iC)))) (fun _ => by repeat' first | exact True.intro | refine ⟨?_, ?_⟩) (fun _ => by repeat' first | exact True.intro | refine ⟨?_, ?_⟩) _ _⟩, trivial⟩⟩ blT rfl (K10 _ e.symm)
      · exact (Bool.false_ne_true (hc.symm.trans hd)).elim

def mac_Of_c0 (a0 : ByteArray) (k12 : Nat) (s12 : Int) : Option (Step (Int × Int) Int) :=
  (gixS a0 ((k12 : Nat) : Int)).bind fun v8 =>
  some (.nxt (bitI .or IntKind.i64 (IntKind.i64.wrap (s12 * 2 ^ (min (8 : Int).toNat 64))) (IntKind.i64.wrap ((v8.toNat : Nat) : Int))))

def mac_Of (a0 : ByteArray) : Option (Int × Int) :=
  (bif (decide (((a0.size : Nat) : Int) < 6)) then
    some (0, 7)
  else
    (bif (decide (6 < ((a0.size : Nat) : Int))) then
      some (0, 8)
    else
      aft (rangeN (mac_Of_c0 a0) 6 0) fun s12 =>
      some (s12, 0)))

theorem c_mac_Of (a0 : ByteArray) (r : (Int × Int)) (h : mac_Of a0 = some r) : CallP Try.prog 123 [(LV.str a0)] (LV.tup [(I r.1), (I r.2)]) := by
  unfold mac_Of at h
  refine .intro nlA (.intro TT_ok Try.func123 rfl rfl [0, 2, 3, 4, 5, 6, 10, 14, 15] rfl ?_)
  conv => whnf
  repeat' first | with_reducible rfl | with_reducible exact True.intro | with_reducible assumption | refine parkI ?_ | (refine And.intro ?_ ?_ <;> conv => whnf) | fail
  refine parkE (fun hc => ?_) (fun hc => ?_)
  · replace h := condT hc h
    conv => whnf
    have e := Option.some.inj h
    subst e
    repeat' first | with_reducible rfl | with_reducible exact True.intro | with_reducible assumption | exact clA _ | (refine And.intro ?_ ?_ <;> conv => whnf) | exact clG _ | (refine gand ?_ h; assumption) | exact clN _ | fail
  · replace h := condF hc h
    conv => whnf
    repeat' first | with_reducible rfl | with_reducible exact True.intro | with_reducible assumption | refine parkI ?_ | (refine And.intro ?_ ?_ <;> conv => whnf) | fail
    refine parkE (fun hc => ?_) (fun hc => ?_)
    · replace h := condT hc h
      conv => whnf
      have e := Option.some.inj h
      subst e
      repeat' first | with_reducible rfl | with_reducible exact True.intro | with_reducible assumption | exact clA _ | (refine And.intro ?_ ?_ <;> conv => whnf) | exact clG _ | (refine gand ?_ h; assumption) | exact clN _ | fail
    · replace h := condF hc h
      conv => whnf
      repeat' first | with_reducible rfl | with_reducible exact True.intro | with_reducible assumption | refine parkI ?_ | (refine And.intro ?_ ?_ <;> conv => whnf) | fail
      replace h := aftS h
      obtain ⟨O12, hO12, r12⟩ := h
      refine LoopW.norm [(0, (LV.str a0)), (4, (I 0)), (14, (I ((0 : Nat) : Int)))] 0 [] ⟨rfl, rfl, rfl, trivial⟩ trivial blT rfl ?_
      refine LoopW.forN (fun k12 s12 => [(0, (LV.str a0)), (4, (I s12)), (14, (I ((k12 : Nat) : Int)))]) (fun s12 => ⟨0, []⟩) hO12 (fun hl12 s12 hs12 => ?_) (fun hl12 k12 s12 o12 hk12 b12 K12 hret12 hbrk12 => ?_)
      · rw [hs12] at r12
        dsimp only [aftM] at r12
        have hd : decide ((((6 : Int).toNat : Nat) : Int) < 6) = false := by rw [decide_eq_false_iff_not]; (try simp only [se_len, se_ch, List.length_map]); omega
        refine LoopW.round TT_ok [0, 2, 3, 4, 5, 6, 10, 14, 15] ?_
        conv => whnf
        repeat' first | with_reducible rfl | with_reducible exact True.intro | with_reducible assumption | refine parkI ?_ | (refine And.intro ?_ ?_ <;> conv => whnf) | fail
        refine parkE (fun hc => ?_) (fun hc => ?_)
        · exact (Bool.false_ne_true (hd.symm.trans hc)).elim
        · clear hd
          conv => whnf
          have e := Option.some.inj r12
          subst e
          repeat' first | with_reducible rfl | with_reducible exact True.intro | with_reducible assumption | exact clA _ | (refine And.intro ?_ ?_ <;> conv => whnf) | exact clG _ | (refine gand ?_ h; assumption) | exact clN _ | fail
      · unfold mac_Of_c0 at b12
        have hd : decide (((k12 : Nat) : Int) < 6) = true := by rw [decide_eq_true_eq]; (try simp only [se_len, se_ch, List.length_map] at hk12); (try simp only [se_len, se_ch, List.length_map]); omega
        refine LoopW.round TT_ok [0, 2, 3, 4, 5, 6, 10, 14, 15] ?_
        conv => whnf
        repeat' first | with_reducible rfl | with_reducible exact True.intro | with_reducible assumption | refine parkI ?_ | (refine And.intro ?_ ?_ <;> conv => whnf) | fail
        refine parkE (fun hc => ?_) (fun hc => ?_)
        · clear hd
          conv => whnf
          replace b12 := bindS b12
          obtain ⟨v8, hv8, b12⟩ := b12
          have i9 := gixSF hv8
          repeat' first | with_reducible rfl | with_reducible exact True.intro | with_reducible assumption | refine parkI ?_ | (refine ⟨_, i9, ?_⟩; conv => whnf) | exact (by decide : (0 : Int) ≤ 8) | (refine And.intro ?_ ?_ <;> conv => whnf) | fail
          have e := Option.some.inj b12
          refine LoopW.norm [(0, (LV.str a0)), (4, (I (bitI .or IntKind.i64 (IntKind.i64.wrap (s12 * 2 ^ (min (8 : Int).toNat 64))) (IntKind.i64.wrap ((v8.toNat : Nat) : Int))))), (14, (I ((k12 + 1 : Nat) : Int)))] 0 [] ⟨rfl, rfl, (congrArg (LV.int .i64) (w64_nat _ (by omega))), trivial⟩ trivial blT rfl (K12 _ e.symm)
        · exact (Bool.false_ne_true (hc.symm.trans hd)).elim

def frame_Right (a0 : FrameT) : Option Bool :=
  (mac_Class a0.Src).bind fun y22 =>
  (gd (bif (decide (y22.2 = 0)) then (decide (y22.1 = 0)) else false) (mac_Right a0.Dst)).bind fun y24 =>
  some (bif (bif (bif (bif (bif (decide (y22.2 = 0)) then (decide (y22.1 = 0)) else false) then y24 else false) then (decide (0 ≤ a0.Type_)) else false) then (decide (a0.Type_ ≤ 65535)) else false) then (decide (((a0.Data.size : Nat) : Int) ≤ 100)) else false)

theorem c_frame_Right (a0 : FrameT) (r : Bool) (h : frame_Right a0 = some r) : CallP Try.prog 124 [(LV.agg [(I a0.Dst), (I a0.Src), (I a0.Type_), (LV.str a0.Data)])] (LV.bool r) := by
  unfold frame_Right at h
  refine .intro nlA (.intro TT_ok Try.func124 rfl rfl [0, 1, 2, 3, 4] rfl ?_)
  conv => whnf
  replace h := bindS h
  obtain ⟨y22, hy22, h⟩ := h
  have c23 := c_mac_Class a0.Src _ hy22
  replace h := bindS h
  obtain ⟨y24, hy24, h⟩ := h
  have c25 := fun (hg : (bif (decide (y22.2 = 0)) then (decide (y22.1 = 0)) else false) = true) => c_mac_Right a0.Dst _ (gdS hg hy24)
  have e := Option.some.inj h
  subst e
  repeat' first | with_reducible rfl | with_reducible exact True.intro | with_reducible assumption | (refine ⟨_, c25, ?_⟩; conv => whnf) | (refine CallP.use c23 ?_; conv => whnf) | exact clA _ | (refine And.intro ?_ ?_ <;> conv => whnf) | exact clG _ | (refine gand ?_ h; assumption) | exact clN _ | fail

def frame_Parse (a0 : ByteArray) : Option (FrameT × Int) :=
  (bif (decide (((a0.size : Nat) : Int) < 14)) then
    some ((⟨0, 0, 0, (⟨#[]⟩ : ByteArray)⟩ : FrameT), 7)
  else
    (bif (decide (114 < ((a0.size : Nat) : Int))) then
      some ((⟨0, 0, 0, (⟨#[]⟩ : ByteArray)⟩ : FrameT), 8)
    else
      grd ((0 : Int) ≤ 6 ∧ (6 : Int) ≤ 6 ∧ 6 ≤ (((byP a0).length : Nat) : Int)) <|
      (strP ((byP a0).take (6 : Int).toNat)).bind fun z6 =>
      (mac_Of z6).bind fun y8 =>
      grd ((0 : Int) ≤ 6 ∧ (6 : Int) ≤ 12 ∧ (12 : Int) ≤ 12 ∧ 12 ≤ (((byP a0).length : Nat) : Int)) <|
      (strP (((byP a0).take (12 : Int).toNat).drop (6 : Int).toNat)).bind fun z11 =>
      (mac_Of z11).bind fun y13 =>
      (gix (byP a0) 12).bind fun v15 =>
      (gix (byP a0) 13).bind fun v17 =>
      grd ((0 : Int) ≤ 14 ∧ 14 ≤ (((byP a0).length : Nat) : Int)) <|
      (strP ((byP a0).drop (14 : Int).toNat)).bind fun z20 =>
      (frame_Right (⟨y8.1, y13.1, (bitI .or IntKind.i64 (IntKind.i64.wrap ((IntKind.i64.wrap v15) * 2 ^ (min (8 : Int).toNat 64))) (IntKind.i64.wrap v17)), z20⟩ : FrameT)).bind fun y22 =>
      (bif (!y22) then
        some ((⟨0, 0, 0, (⟨#[]⟩ : ByteArray)⟩ : FrameT), 10)
      else
        some ((⟨y8.1, y13.1, (bitI .or IntKind.i64 (IntKind.i64.wrap ((IntKind.i64.wrap v15) * 2 ^ (min (8 : Int).toNat 64))) (IntKind.i64.wrap v17)), z20⟩ : FrameT), 0))))

theorem c_frame_Parse (a0 : ByteArray) (r : (FrameT × Int)) (h : frame_Parse a0 = some r) : CallP Try.prog 96 [(LV.str a0)] (LV.tup [(LV.agg [(I r.1.Dst), (I r.1.Src), (I r.1.Type_), (LV.str r.1.Data)]), (I r.2)]) := by
  unfold frame_Parse at h
  refine .intro nlA (.intro TT_ok Try.func96 rfl rfl [0, 2, 3, 4, 5, 7, 9, 10, 15, 54] rfl ?_)
  conv => whnf
  repeat' first | with_reducible rfl | with_reducible exact True.intro | with_reducible assumption | refine parkI ?_ | (refine W.drawnM (id := 8) 0 TT_ok hmix1 [0, 0, 0, 0, 0, 0, 0, 0, 0, 0, 0, 0, 0, 0, 0, 0, 0, 1] [1, 1, 1, 1, 1, 1, 1, 1, 1, 1, 1, 1, 1, 1, 1, 1, 1, 2] rfl ?_; conv => whnf) | exact clA _ | (refine And.intro ?_ ?_ <;> conv => whnf) | exact clG _ | (refine gand ?_ h; assumption) | exact clN _ | fail
  refine parkE (fun hc => ?_) (fun hc => ?_)
  · replace h := condT hc h
    conv => whnf
    have e := Option.some.inj h
    subst e
    repeat' first | with_reducible rfl | with_reducible exact True.intro | with_reducible assumption | (refine W.drawnM (id := 8) 0 TT_ok hmix1 [0, 0, 0, 0, 0, 0, 0, 0, 0, 0, 0, 0, 0, 0, 0, 0, 0, 1] [1, 1, 1, 1, 1, 1, 1, 1, 1, 1, 1, 1, 1, 1, 1, 1, 1, 2] rfl ?_; conv => whnf) | exact clA _ | (refine And.intro ?_ ?_ <;> conv => whnf) | exact clG _ | (refine gand ?_ h; assumption) | exact clN _ | fail
  · replace h := condF hc h
    conv => whnf
    repeat' first | with_reducible rfl | with_reducible exact True.intro | with_reducible assumption | refine parkI ?_ | (refine W.drawnM (id := 8) 0 TT_ok hmix1 [0, 0, 0, 0, 0, 0, 0, 0, 0, 0, 0, 0, 0, 0, 0, 0, 0, 1] [1, 1, 1, 1, 1, 1, 1, 1, 1, 1, 1, 1, 1, 1, 1, 1, 1, 2] rfl ?_; conv => whnf) | exact clA _ | (refine And.intro ?_ ?_ <;> conv => whnf) | exact clG _ | (refine gand ?_ h; assumption) | exact clN _ | fail
    refine parkE (fun hc => ?_) (fun hc => ?_)
    · replace h := condT hc h
      conv => whnf
      have e := Option.some.inj h
      subst e
      repeat' first | with_reducible rfl | with_reducible exact True.intro | with_reducible assumption | (refine W.drawnM (id := 8) 0 TT_ok hmix1 [0, 0, 0, 0, 0, 0, 0, 0, 0, 0, 0, 0, 0, 0, 0, 0, 0, 1] [1, 1, 1, 1, 1, 1, 1, 1, 1, 1, 1, 1, 1, 1, 1, 1, 1, 2] rfl ?_; conv => whnf) | exact clA _ | (refine And.intro ?_ ?_ <;> conv => whnf) | exact clG _ | (refine gand ?_ h; assumption) | exact clN _ | fail
    · replace h := condF hc h
      conv => whnf
      replace h := grdS h
      obtain ⟨g5, h⟩ := h
      replace g5 : (0 : Int) ≤ 6 ∧ (6 : Int) ≤ 6 ∧ 6 ≤ (((byL a0).length : Nat) : Int) := by simpa only [byL_len, byP_len, se_len, se_ch, List.length_map] using g5
      replace h := bindS h
      obtain ⟨z6, hz6, h⟩ := h
      have i7 : ((byL a0).take (6 : Int).toNat) = byL z6 := by simpa only [se_map, se_byL] using strPF hz6
      replace h := bindS h
      obtain ⟨y8, hy8, h⟩ := h
      have c9 := c_mac_Of z6 _ hy8
      replace h := grdS h
      obtain ⟨g10, h⟩ := h
      replace g10 : (0 : Int) ≤ 6 ∧ (6 : Int) ≤ 12 ∧ (12 : Int) ≤ 12 ∧ 12 ≤ (((byL a0).length : Nat) : Int) := by simpa only [byL_len, byP_len, se_len, se_ch, List.length_map] using g10
      replace h := bindS h
      obtain ⟨z11, hz11, h⟩ := h
      have i12 : (((byL a0).take (12 : Int).toNat).drop (6 : Int).toNat) = byL z11 := by simpa only [se_map, se_byL] using strPF hz11
      replace h := bindS h
      obtain ⟨y13, hy13, h⟩ := h
      have c14 := c_mac_Of z11 _ hy13
      replace h := bindS h
      obtain ⟨v15, hv15, h⟩ := h
      have i16 : (0 : Int) ≤ 12 ∧ (byL a0)[(12 : Int).toNat]? = some [(LV.int .u8 v15)] := by simpa only [se_byL, se_map, se_len, se_ch, List.length_map] using (gixF (f := (ikC .u8)) hv15)
      replace h := bindS h
      obtain ⟨v17, hv17, h⟩ := h
      have i18 : (0 : Int) ≤ 13 ∧ (byL a0)[(13 : Int).toNat]? = some [(LV.int .u8 v17)] := by simpa only [se_byL, se_map, se_len, se_ch, List.length_map] using (gixF (f := (ikC .u8)) hv17)
      replace h := grdS h
      obtain ⟨g19, h⟩ := h
      replace g19 : (0 : Int) ≤ 14 ∧ 14 ≤ (((byL a0).length : Nat) : Int) := by simpa only [byL_len, byP_len, se_len, se_ch, List.length_map] using g19
      replace h := bindS h
      obtain ⟨z20, hz20, h⟩ := h
      have i21 : ((byL a0).drop (14 : Int).toNat) = byL z20 := by simpa only [se_map, se_byL] using strPF hz20
      replace h := bindS h
      obtain ⟨y22, hy22, h⟩ := h
      have c23 : CallP Try.prog 124 [(LV.agg [(I y8.1), (I y13.1), (I (bitI .or IntKind.i64 (IntKind.i64.wrap ((IntKind.i64.wrap v15) * 2 ^ (min (8 : Int).toNat 64))) (IntKind.i64.wrap v17))), (LV.str z20)])] (LV.bool y22) := by first | exact c_frame_Right (⟨y8.1, y13.1, (bitI .or IntKind.i64 (IntKind.i64.wrap ((IntKind.i64.wrap v15) * 2 ^ (min (8 : Int).toNat 64))) (IntKind.i64.wrap v17)), z20⟩ : FrameT) _ hy22 | (simpa only [se_map, se_byL, se_len, se_ch, List.length_map] using c_frame_Right (⟨y8.1, y13.1, (bitI .or IntKind.i64 (IntKind.i64.wrap ((IntKind.i64.wrap v15) * 2 ^ (min (8 : Int).toNat 64))) (IntKind.i64.wrap v17)), z20⟩ : FrameT) _ hy22) | (simpa only [se_map, se_byL, se_len, se_ch, List.length_map, FrameT.cells] using c_frame_Right (⟨y8.1, y13.1, (bitI .or IntKind.i64 (IntKind.i64.wrap ((IntKind.i64.wrap v15) * 2 ^ (min (8 : Int).toNat 64))) (IntKind.i64.wrap v17)), z20⟩ : FrameT) _ hy22)
      repeat' first | with_reducible rfl | with_reducible exact True.intro | with_reducible assumption | refine parkI ?_ | (refine ⟨_, i16, ?_⟩; conv => whnf) | (refine ⟨_, i18, ?_⟩; conv => whnf) | exact g5 | exact g10 | exact g19 | (refine CallP.use c9 ?_; conv => whnf) | (refine ⟨_, _, CallP.at c9, ?_⟩; conv => whnf) | (refine ⟨_, fun _ => c9, ?_⟩; conv => whnf) | (refine CallP.use c14 ?_; conv => whnf) | (refine ⟨_, _, CallP.at c14, ?_⟩; conv => whnf) | (refine ⟨_, fun _ => c14, ?_⟩; conv => whnf) | (refine CallP.use c23 ?_; conv => whnf) | (refine ⟨_, _, CallP.at c23, ?_⟩; conv => whnf) | (refine ⟨_, fun _ => c23, ?_⟩; conv => whnf) | (refine ⟨rfl, _, i7, ?_⟩; conv => whnf) | (refine ⟨rfl, _, i12, ?_⟩; conv => whnf) | exact (by decide : (0 : Int) ≤ 8) | (refine ⟨rfl, _, i21, ?_⟩; conv => whnf) | (refine W.drawnM (id := 8) 0 TT_ok hmix1 [0, 0, 0, 0, 0, 0, 0, 0, 0, 0, 0, 0, 0, 0, 0, 0, 0, 1] [1, 1, 1, 1, 1, 1, 1, 1, 1, 1, 1, 1, 1, 1, 1, 1, 1, 2] rfl ?_; conv => whnf) | exact clA _ | (refine And.intro ?_ ?_ <;> conv => whnf) | exact clG _ | (refine gand ?_ h; assumption) | exact clN _ | fail
      refine parkE (fun hc => ?_) (fun hc => ?_)
      · replace h := condT hc h
        conv => whnf
        have e := Option.some.inj h
        subst e
        repeat' first | with_reducible rfl | with_reducible exact True.intro | with_reducible assumption | (refine W.drawnM (id := 8) 0 TT_ok hmix1 [0, 0, 0, 0, 0, 0, 0, 0, 0, 0, 0, 0, 0, 0, 0, 0, 0, 1] [1, 1, 1, 1, 1, 1, 1, 1, 1, 1, 1, 1, 1, 1, 1, 1, 1, 2] rfl ?_; conv => whnf) | exact clA _ | (refine And.intro ?_ ?_ <;> conv => whnf) | exact clG _ | (refine gand ?_ h; assumption) | exact clN _ | fail
      · replace h := condF hc h
        conv => whnf
        have e := Option.some.inj h
        subst e
        repeat' first | with_reducible rfl | with_reducible exact True.intro | with_reducible assumption | (refine W.drawnM (id := 8) 0 TT_ok hmix1 [0, 0, 0, 0, 0, 0, 0, 0, 0, 0, 0, 0, 0, 0, 0, 0, 0, 1] [1, 1, 1, 1, 1, 1, 1, 1, 1, 1, 1, 1, 1, 1, 1, 1, 1, 2] rfl ?_; conv => whnf) | exact clA _ | (refine And.intro ?_ ?_ <;> conv => whnf) | exact clG _ | (refine gand ?_ h; assumption) | exact clN _ | fail

def judge_hears (a0 : HostT) (a1 : ByteArray) : Option Bool :=
  (frame_Parse a1).bind fun y5 =>
  (bif (bif (!decide (y5.2 = 0)) then true else (decide (y5.1.Src = a0.Mac))) then
    some false
  else
    (mac_Class y5.1.Dst).bind fun y7 =>
    some (bif (decide (y5.1.Dst = a0.Mac)) then true else (decide (y7.1 = 1))))

theorem c_judge_hears (a0 : HostT) (a1 : ByteArray) (r : Bool) (h : judge_hears a0 a1 = some r) : CallP Try.prog 60 [(LV.agg [(I a0.Mac), (I a0.Seg)]), (LV.str a1)] (LV.bool r) := by
  unfold judge_hears at h
  refine .intro nlA (.intro TT_ok Try.func60 rfl rfl [0, 1, 2, 4, 5, 6, 7, 22] rfl ?_)
  conv => whnf
  replace h := bindS h
  obtain ⟨y5, hy5, h⟩ := h
  have c6 := c_frame_Parse a1 _ hy5
  repeat' first | with_reducible rfl | with_reducible exact True.intro | with_reducible assumption | refine parkI ?_ | (refine CallP.use c6 ?_; conv => whnf) | exact clA _ | (refine And.intro ?_ ?_ <;> conv => whnf) | exact clG _ | (refine gand ?_ h; assumption) | fail
  refine parkE (fun hc => ?_) (fun hc => ?_)
  · replace h := condT hc h
    conv => whnf
    have e := Option.some.inj h
    subst e
    repeat' first | with_reducible rfl | with_reducible exact True.intro | with_reducible assumption | exact clA _ | (refine And.intro ?_ ?_ <;> conv => whnf) | exact clG _ | (refine gand ?_ h; assumption) | exact clN _ | fail
  · replace h := condF hc h
    conv => whnf
    replace h := bindS h
    obtain ⟨y7, hy7, h⟩ := h
    have c8 := c_mac_Class y5.1.Dst _ hy7
    have e := Option.some.inj h
    subst e
    repeat' first | with_reducible rfl | with_reducible exact True.intro | with_reducible assumption | (refine CallP.use c8 ?_; conv => whnf) | exact clA _ | (refine And.intro ?_ ?_ <;> conv => whnf) | exact clG _ | (refine gand ?_ h; assumption) | exact clN _ | fail

def judge_Hears_c0 (v3 : HostT) (k11 : Nat) (x11 : CopyT) (s11 : (List Int)) : Option (Step ((List Int) × Int) (List Int)) :=
  (gd (decide (x11.Seg = v3.Seg)) (judge_hears v3 x11.Raw)).bind fun y5 =>
  (bif (bif (decide (x11.Seg = v3.Seg)) then y5 else false) then
    grd (fits ((s11 ++ ([((k11 : Nat) : Int)] : (List Int))) : List Int).length 8) <|
    some (.nxt (s11 ++ ([((k11 : Nat) : Int)] : (List Int))))
  else
    some (.nxt s11))

def judge_Hears (a0 : LanT) (a1 : (List CopyT)) (a2 : Int) : Option ((List Int) × Int) :=
  (lan_Right a0).bind fun y1 =>
  (bif (!y1) then
    some ([], 1)
  else
    (bif (bif (decide (a2 < 0)) then true else (decide (((a0.Hosts.length : Nat) : Int) ≤ a2))) then
      some ([], 3)
    else
      (gix a0.Hosts a2).bind fun v3 =>
      aft (rangeL (judge_Hears_c0 v3) a1 ([] : (List Int))) fun s11 =>
      some (s11, 0)))

theorem c_judge_Hears (a0 : LanT) (a1 : (List CopyT)) (a2 : Int) (r : ((List Int) × Int)) (h : judge_Hears a0 a1 a2 = some r) : CallP Try.prog 27 [(LV.agg [(I a0.Segs), (LV.ro 2 (a0.Plans.map PlanT.cells)), (LV.ro 2 (a0.Hosts.map HostT.cells))]), (LV.ro 5 (a1.map CopyT.cells)), (I a2)] (LV.tup [(LV.ro 1 (r.1.map iC)), (I r.2)]) := by
  unfold judge_Hears at h
  refine .intro nlA (.intro TT_ok Try.func27 rfl rfl [0, 1, 2, 3, 6, 7, 8, 9, 10, 11, 12, 16, 31, 32, 33, 34, 48] rfl ?_)
  conv => whnf
  replace h := bindS h
  obtain ⟨y1, hy1, h⟩ := h
  have c2 := c_lan_Right a0 _ hy1
  repeat' first | with_reducible rfl | with_reducible exact True.intro | with_reducible assumption | refine parkI ?_ | (refine CallP.use c2 ?_; conv => whnf) | (refine And.intro ?_ ?_ <;> conv => whnf) | fail
  refine parkE (fun hc => ?_) (fun hc => ?_)
  · replace h := condT hc h
    conv => whnf
    have e := Option.some.inj h
    subst e
    repeat' first | with_reducible rfl | with_reducible exact True.intro | with_reducible assumption | exact clA _ | (refine And.intro ?_ ?_ <;> conv => whnf) | exact clG _ | (refine gand ?_ h; assumption) | exact clN _ | fail
  · replace h := condF hc h
    conv => whnf
    repeat' first | with_reducible rfl | with_reducible exact True.intro | with_reducible assumption | refine parkI ?_ | exact clA _ | (refine And.intro ?_ ?_ <;> conv => whnf) | exact clG _ | (refine gand ?_ h; assumption) | fail
    refine parkE (fun hc => ?_) (fun hc => ?_)
    · replace h := condT (by first | exact hc | (simpa only [se_len, se_ch, List.length_map] using hc; done) | (have h0 : (bif (decide (a2 < 0)) then true else (decide ((((a0.Hosts.map HostT.cells).length : Nat) : Int) ≤ a2))) = true := hc; simpa only [se_len, se_ch, List.length_map] using h0)) h
      conv => whnf
      have e := Option.some.inj h
      subst e
      repeat' first | with_reducible rfl | with_reducible exact True.intro | with_reducible assumption | exact clA _ | (refine And.intro ?_ ?_ <;> conv => whnf) | exact clG _ | (refine gand ?_ h; assumption) | exact clN _ | fail
    · replace h := condF (by first | exact hc | (simpa only [se_len, se_ch, List.length_map] using hc; done) | (have h0 : (bif (decide (a2 < 0)) then true else (decide ((((a0.Hosts.map HostT.cells).length : Nat) : Int) ≤ a2))) = false := hc; simpa only [se_len, se_ch, List.length_map] using h0)) h
      conv => whnf
      replace h := bindS h
      obtain ⟨v3, hv3, h⟩ := h
      have i4 := gixF (f := HostT.cells) hv3
      repeat' first | with_reducible rfl | with_reducible exact True.intro | with_reducible assumption | refine parkI ?_ | (refine ⟨_, i4, ?_⟩; conv => whnf) | (refine And.intro ?_ ?_ <;> conv => whnf) | fail
      replace h := aftS h
      obtain ⟨O11, hO11, r11⟩ := h
      refine LoopW.virt 9 3 1 rfl ?_
      refine LoopW.norm [(8, (LV.ptr 1 0 0)), (9, (LV.sl 2 0 (([] : (List Int)).map iC).length)), (31, (LV.ro 5 (a1.map CopyT.cells))), (32, (I (((a1.map CopyT.cells).length : Nat) : Int))), (33, (I ((0 : Nat) : Int)))] 3 [(1, (.row 103 2 [[(I v3.Mac), (I v3.Seg)]])), (2, (.row 3 1 (([] : (List Int)).map iC)))] ⟨rfl, (by exact congrArg (LV.sl 2 0) (clL _ : 0 = (([] : (List Int)).map iC).length)), rfl, rfl, rfl, trivial⟩ ⟨⟨rfl, rfl, blT⟩, ⟨⟨(congrArg (fun q => some (Blk.row 3 1 q)) (smT : ([] : List (List LV)) = (([] : (List Int)).map iC))), rfl, NLss_bel (NLss_map' _)⟩, trivial⟩⟩ blT rfl ?_
      refine LoopW.forR (fun k11 s11 => [(8, (LV.ptr 1 0 0)), (9, (LV.sl 2 0 (s11.map iC).length)), (31, (LV.ro 5 (a1.map CopyT.cells))), (32, (I (((a1.map CopyT.cells).length : Nat) : Int))), (33, (I ((k11 : Nat) : Int)))]) (fun s11 => ⟨3, [(1, (.row 103 2 [[(I v3.Mac), (I v3.Seg)]])), (2, (.row 3 1 (s11.map iC)))]⟩) hO11 (fun hl11 s11 hs11 => ?_) (fun hl11 k11 x11 s11 o11 hk11 hx11 b11 K11 hret11 hbrk11 => ?_)
      · rw [hs11] at r11
        dsimp only [aftM] at r11
        have hd : decide (((a1.length : Nat) : Int) < (((a1.map CopyT.cells).length : Nat) : Int)) = false := by rw [decide_eq_false_iff_not]; (try simp only [se_len, se_ch, List.length_map]); omega
        refine LoopW.round TT_ok [0, 1, 2, 3, 6, 7, 8, 9, 10, 11, 12, 16, 31, 32, 33, 34, 48] ?_
        conv => whnf
        repeat' first | with_reducible rfl | with_reducible exact True.intro | with_reducible assumption | refine parkI ?_ | (refine And.intro ?_ ?_ <;> conv => whnf) | fail
        refine parkE (fun hc => ?_) (fun hc => ?_)
        · exact (Bool.false_ne_true (hd.symm.trans hc)).elim
        · clear hd
          conv => whnf
          have e := Option.some.inj r11
          subst e
          repeat' first | with_reducible rfl | with_reducible exact True.intro | with_reducible assumption | exact clA _ | (refine And.intro ?_ ?_ <;> conv => whnf) | exact clG _ | (refine gand ?_ h; assumption) | exact clN _ | fail
      · unfold judge_Hears_c0 at b11
        have hd : decide (((k11 : Nat) : Int) < (((a1.map CopyT.cells).length : Nat) : Int)) = true := by rw [decide_eq_true_eq]; (try simp only [se_len, se_ch, List.length_map] at hk11); (try simp only [se_len, se_ch, List.length_map]); omega
        refine LoopW.round TT_ok [0, 1, 2, 3, 6, 7, 8, 9, 10, 11, 12, 16, 31, 32, 33, 34, 48] ?_
        conv => whnf
        repeat' first | with_reducible rfl | with_reducible exact True.intro | with_reducible assumption | refine parkI ?_ | (refine And.intro ?_ ?_ <;> conv => whnf) | fail
        refine parkE (fun hc => ?_) (fun hc => ?_)
        · clear hd
          conv => whnf
          replace b11 := bindS b11
          obtain ⟨y5, hy5, b11⟩ := b11
          have c6 := fun (hg : (decide (x11.Seg = v3.Seg)) = true) => c_judge_hears v3 x11.Raw _ (gdS hg hy5)
          repeat' first | with_reducible rfl | with_reducible exact True.intro | with_reducible assumption | refine parkI ?_ | (refine ⟨_, (kixF (f := CopyT.cells) hx11), ?_⟩; conv => whnf) | (refine ⟨_, c6, ?_⟩; conv => whnf) | exact clA _ | (refine And.intro ?_ ?_ <;> conv => whnf) | exact clG _ | (refine gand ?_ h; assumption) | fail
          refine parkE (fun hc => ?_) (fun hc => ?_)
          · replace b11 := condT hc b11
            conv => whnf
            replace b11 := grdS b11
            obtain ⟨g7, b11⟩ := b11
            replace g7 : fits (((s11.map iC) ++ [[(I ((k11 : Nat) : Int))]])).length 8 := by simpa only [se_len, se_ch, List.length_map] using g7
            repeat' first | with_reducible rfl | with_reducible exact True.intro | with_reducible assumption | refine parkI ?_ | exact g7 | exact clA _ | (refine And.intro ?_ ?_ <;> conv => whnf) | exact clN _ | fail
            have e := Option.some.inj b11
            refine LoopW.ren [(1, 1), (5, 2)] [(8, (LV.ptr 1 0 0)), (9, (LV.sl 2 0 ((s11 ++ ([((k11 : Nat) : Int)] : (List Int))).map iC).length)), (31, (LV.ro 5 (a1.map CopyT.cells))), (32, (I (((a1.map CopyT.cells).length : Nat) : Int))), (33, (I ((k11 + 1 : Nat) : Int)))] 3 [(1, (.row 103 2 [[(I v3.Mac), (I v3.Seg)]])), (2, (.row 3 1 ((s11 ++ ([((k11 : Nat) : Int)] : (List Int))).map iC)))] rfl ⟨rfl, (by exact congrArg (LV.sl 2 0) (clL _ : (((s11.map iC) ++ [[(I ((k11 : Nat) : Int))]])).length = ((s11 ++ ([((k11 : Nat) : Int)] : (List Int))).map iC).length)), rfl, rfl, (congrArg (LV.int .i64) (w64_nat _ (by omega))), trivial⟩ ⟨⟨rfl, rfl, .inl ⟨rfl, nlT⟩⟩, rfl, rfl, ⟨⟨rfl, rfl, .inl ⟨(smT : (((s11.map iC) ++ [[(I ((k11 : Nat) : Int))]]) : List (List LV)) = ((s11 ++ ([((k11 : Nat) : Int)] : (List Int))).map iC)), nlT⟩⟩, rfl, rfl, trivial⟩⟩ rfl (K11 _ e.symm)
          · replace b11 := condF hc b11
            conv => whnf
            repeat' first | with_reducible rfl | with_reducible exact True.intro | with_reducible assumption | refine parkI ?_ | (refine And.intro ?_ ?_ <;> conv => whnf) | fail
            have e := Option.some.inj b11
            refine LoopW.norm [(8, (LV.ptr 1 0 0)), (9, (LV.sl 2 0 (s11.map iC).length)), (31, (LV.ro 5 (a1.map CopyT.cells))), (32, (I (((a1.map CopyT.cells).length : Nat) : Int))), (33, (I ((k11 + 1 : Nat) : Int)))] 3 [(1, (.row 103 2 [[(I v3.Mac), (I v3.Seg)]])), (2, (.row 3 1 (s11.map iC)))] ⟨rfl, rfl, rfl, rfl, (congrArg (LV.int .i64) (w64_nat _ (by omega))), trivial⟩ ⟨⟨rfl, rfl, blT⟩, ⟨⟨rfl, rfl, NLss_bel (NLss_map' _)⟩, trivial⟩⟩ blT rfl (K11 _ e.symm)
        · exact (Bool.false_ne_true (hc.symm.trans hd)).elim

end Go.RX
