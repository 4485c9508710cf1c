/- Plain functions, and what says that the program's functions compute them. -/
import Derived.Test.YtoahcombdhgmhaaUb
set_option linter.unusedVariables false
set_option linter.unusedSimpArgs false
open Go Go.RX Go.Proofs
namespace Go.RX
set_option maxRecDepth 10000
set_option maxHeartbeats 4000000
attribute [local irreducible] CallW CallP LoopW W IntKind.wrap bitI
def ref07_Number (a0 : Int) : Option Bool :=
  some (bif (bif (bif (bif (decide (a0 = 1)) then true else (decide (a0 = 2))) then true else (decide (a0 = 4))) then true else (decide (a0 = 8))) then true else (decide (a0 = 16)))

theorem c_ref07_Number (a0 : Int) (r : Bool) (h : ref07_Number a0 = some r) : CallP Try.prog 144 [(I a0)] (LV.bool r) := by
  unfold ref07_Number at h
  refine .intro nlA (.intro TT_ok Try.func144 rfl rfl [0, 2] rfl ?_)
  conv => whnf
  have e := Option.some.inj h
  subst e
  repeat' first | with_reducible rfl | with_reducible exact True.intro | with_reducible assumption | exact clA _ | (refine And.intro ?_ ?_ <;> conv => whnf) | exact clG _ | (refine gand ?_ h; assumption) | exact clN _ | fail

def ref08_Sizes (a0 : Int) (a1 : Int) (a2 : Int) : Option Bool :=
  (ref07_Number a0).bind fun y1 =>
  some (bif (bif (bif (bif y1 then (decide (1 ≤ a1)) else false) then (decide (a1 ≤ 4)) else false) then (decide (1 ≤ a2)) else false) then (decide (a2 ≤ 1048576)) else false)

theorem c_ref08_Sizes (a0 : Int) (a1 : Int) (a2 : Int) (r : Bool) (h : ref08_Sizes a0 a1 a2 = some r) : CallP Try.prog 32 [(I a0), (I a1), (I a2)] (LV.bool r) := by
  unfold ref08_Sizes at h
  refine .intro nlA (.intro TT_ok Try.func32 rfl rfl [0, 1, 2, 6] rfl ?_)
  conv => whnf
  replace h := bindS h
  obtain ⟨y1, hy1, h⟩ := h
  have c2 := c_ref07_Number a0 _ hy1
  have e := Option.some.inj h
  subst e
  repeat' first | with_reducible rfl | with_reducible exact True.intro | with_reducible assumption | (refine CallP.use c2 ?_; conv => whnf) | exact clA _ | (refine And.intro ?_ ?_ <;> conv => whnf) | exact clG _ | (refine gand ?_ h; assumption) | exact clN _ | fail

def ref01_Right (a0 : Int) : Option Bool :=
  some (bif (decide (0 ≤ a0)) then (decide (a0 < 281474976710656)) else false)

theorem c_ref01_Right (a0 : Int) (r : Bool) (h : ref01_Right a0 = some r) : CallP Try.prog 146 [(I a0)] (LV.bool r) := by
  unfold ref01_Right at h
  refine .intro nlA (.intro TT_ok Try.func146 rfl rfl [0, 2] rfl ?_)
  conv => whnf
  have e := Option.some.inj h
  subst e
  repeat' first | with_reducible rfl | with_reducible exact True.intro | with_reducible assumption | exact clA _ | (refine And.intro ?_ ?_ <;> conv => whnf) | exact clG _ | (refine gand ?_ h; assumption) | exact clN _ | fail

def ref01_Class (a0 : Int) : Option Int :=
  (bif (decide ((IntKind.i64.wrap ((a0).tdiv 16)) = 103282638848)) then
    some 2
  else
    (bif (decide ((((IntKind.i64.wrap ((a0).tdiv 1099511627776))).tmod 2) = 1)) then
      some 1
    else
      some 0))

theorem c_ref01_Class (a0 : Int) (r : Int) (h : ref01_Class a0 = some r) : CallP Try.prog 147 [(I a0)] (I r) := by
  unfold ref01_Class at h
  refine .intro nlA (.intro TT_ok Try.func147 rfl rfl [0, 2, 5, 9] rfl ?_)
  conv => whnf
  repeat' first | with_reducible rfl | with_reducible exact True.intro | with_reducible assumption | refine parkI ?_ | exact (by decide : ((16 : Int) ≠ 0)) | (refine And.intro ?_ ?_ <;> conv => whnf) | fail
  refine parkE (fun hc => ?_) (fun hc => ?_)
  · replace h := condT hc h
    conv => whnf
    have e := Option.some.inj h
    subst e
    repeat' first | with_reducible rfl | with_reducible exact True.intro | with_reducible assumption | exact clA _ | (refine And.intro ?_ ?_ <;> conv => whnf) | exact clG _ | (refine gand ?_ h; assumption) | exact clN _ | fail
  · replace h := condF hc h
    conv => whnf
    repeat' first | with_reducible rfl | with_reducible exact True.intro | with_reducible assumption | refine parkI ?_ | exact (by decide : ((1099511627776 : Int) ≠ 0)) | exact (by decide : ((2 : Int) ≠ 0)) | (refine And.intro ?_ ?_ <;> conv => whnf) | fail
    refine parkE (fun hc => ?_) (fun hc => ?_)
    · replace h := condT hc h
      conv => whnf
      have e := Option.some.inj h
      subst e
      repeat' first | with_reducible rfl | with_reducible exact True.intro | with_reducible assumption | exact clA _ | (refine And.intro ?_ ?_ <;> conv => whnf) | exact clG _ | (refine gand ?_ h; assumption) | exact clN _ | fail
    · replace h := condF hc h
      conv => whnf
      have e := Option.some.inj h
      subst e
      repeat' first | with_reducible rfl | with_reducible exact True.intro | with_reducible assumption | exact clA _ | (refine And.intro ?_ ?_ <;> conv => whnf) | exact clG _ | (refine gand ?_ h; assumption) | exact clN _ | fail

def ref08_Mac (a0 : Int) : Option Bool :=
  (ref01_Right a0).bind fun y5 =>
  (gd y5 (ref01_Class a0)).bind fun y7 =>
  some (bif y5 then (decide (y7 = 0)) else false)

theorem c_ref08_Mac (a0 : Int) (r : Bool) (h : ref08_Mac a0 = some r) : CallP Try.prog 35 [(I a0)] (LV.bool r) := by
  unfold ref08_Mac at h
  refine .intro nlA (.intro TT_ok Try.func35 rfl rfl [0, 2] rfl ?_)
  conv => whnf
  replace h := bindS h
  obtain ⟨y5, hy5, h⟩ := h
  have c6 := c_ref01_Right a0 _ hy5
  replace h := bindS h
  obtain ⟨y7, hy7, h⟩ := h
  have c8 := fun (hg : y5 = true) => c_ref01_Class a0 _ (gdS hg hy7)
  have e := Option.some.inj h
  subst e
  repeat' first | with_reducible rfl | with_reducible exact True.intro | with_reducible assumption | (refine ⟨_, c8, ?_⟩; conv => whnf) | (refine CallP.use c6 ?_; conv => whnf) | exact clA _ | (refine And.intro ?_ ?_ <;> conv => whnf) | exact clG _ | (refine gand ?_ h; assumption) | exact clN _ | fail

def ref08_Port (a0 : Int) : Option Bool :=
  some (bif (decide (0 ≤ a0)) then (decide (a0 ≤ 7)) else false)

theorem c_ref08_Port (a0 : Int) (r : Bool) (h : ref08_Port a0 = some r) : CallP Try.prog 38 [(I a0)] (LV.bool r) := by
  unfold ref08_Port at h
  refine .intro nlA (.intro TT_ok Try.func38 rfl rfl [0, 2] rfl ?_)
  conv => whnf
  have e := Option.some.inj h
  subst e
  repeat' first | with_reducible rfl | with_reducible exact True.intro | with_reducible assumption | exact clA _ | (refine And.intro ?_ ?_ <;> conv => whnf) | exact clG _ | (refine gand ?_ h; assumption) | exact clN _ | fail

def ref08_Time (a0 : Int) : Option Bool :=
  some (bif (decide (0 ≤ a0)) then (decide (a0 ≤ 1099511627776)) else false)

theorem c_ref08_Time (a0 : Int) (r : Bool) (h : ref08_Time a0 = some r) : CallP Try.prog 36 [(I a0)] (LV.bool r) := by
  unfold ref08_Time at h
  refine .intro nlA (.intro TT_ok Try.func36 rfl rfl [0, 2] rfl ?_)
  conv => whnf
  have e := Option.some.inj h
  subst e
  repeat' first | with_reducible rfl | with_reducible exact True.intro | with_reducible assumption | exact clA _ | (refine And.intro ?_ ?_ <;> conv => whnf) | exact clG _ | (refine gand ?_ h; assumption) | exact clN _ | fail

def ref01_Bytes_b18  (s18 : (Int × ByteArray × Int)) : Option (Step ByteArray (Int × ByteArray × Int)) :=
  (bif (decide (s18.2.2 < 6)) then
    (strP ([(IntKind.u8.wrap ((s18.1).tmod 256))] : (List Int))).bind fun z15 =>
    grd (z15.size + s18.2.1.size ≤ 9223372036854775807) <|
    some (.nxt ((IntKind.i64.wrap ((s18.1).tdiv 256)), (z15 ++ s18.2.1), (IntKind.i64.wrap (s18.2.2 + 1))))
  else
    some (.brk (s18.1, s18.2.1, s18.2.2)))

def ref01_Bytes (a0 : Int) : Option ByteArray :=
  aft (loopF 1000000 (ref01_Bytes_b18 ) (a0, (⟨#[]⟩ : ByteArray), 0)) fun s18 =>
  some s18.2.1

theorem c_ref01_Bytes (a0 : Int) (r : ByteArray) (h : ref01_Bytes a0 = some r) : CallP Try.prog 316 [(I a0)] (LV.str r) := by
  unfold ref01_Bytes at h
  refine .intro nlA (.intro TT_ok Try.func316 rfl rfl [0, 2, 3, 4, 6] rfl ?_)
  conv => whnf
  repeat' first | with_reducible rfl | with_reducible exact True.intro | with_reducible assumption | refine parkI ?_ | (refine And.intro ?_ ?_ <;> conv => whnf) | fail
  replace h := aftS h
  obtain ⟨O18, hO18, r18⟩ := h
  refine LoopW.norm [(0, (I (a0, (⟨#[]⟩ : ByteArray), 0).1)), (3, (LV.str (a0, (⟨#[]⟩ : ByteArray), 0).2.1)), (4, (I (a0, (⟨#[]⟩ : ByteArray), 0).2.2))] 0 [] ⟨(smT : ((I a0) : LV) = (I (a0, (⟨#[]⟩ : ByteArray), 0).1)), (smT : ((LV.str (⟨#[]⟩ : ByteArray)) : LV) = (LV.str (a0, (⟨#[]⟩ : ByteArray), 0).2.1)), (smT : ((I 0) : LV) = (I (a0, (⟨#[]⟩ : ByteArray), 0).2.2)), trivial⟩ trivial blT rfl ?_
  refine LoopW.forF (fun s18 => [(0, (I s18.1)), (3, (LV.str s18.2.1)), (4, (I s18.2.2))]) (fun s18 => ⟨0, []⟩) hO18 (fun s18 o18 b18 K18 hret18 hbrk18 => ?_)
  unfold ref01_Bytes_b18 at b18
  refine LoopW.round TT_ok [0, 2, 3, 4, 6] ?_
  conv => whnf
  repeat' first | with_reducible rfl | with_reducible exact True.intro | with_reducible assumption | refine parkI ?_ | (refine And.intro ?_ ?_ <;> conv => whnf) | fail
  refine parkE (fun hc => ?_) (fun hc => ?_)
  · replace b18 := condT hc b18
    conv => whnf
    replace b18 := bindS b18
    obtain ⟨z15, hz15, b18⟩ := b18
    have i16 : [[(LV.int .u8 (IntKind.u8.wrap ((s18.1).tmod 256)))]] = byL z15 := by simpa only [se_map, se_byL] using strPF hz15
    replace b18 := grdS b18
    obtain ⟨g17, b18⟩ := b18
    repeat' first | with_reducible rfl | with_reducible exact True.intro | with_reducible assumption | refine parkI ?_ | exact g17 | exact (by decide : ((256 : Int) ≠ 0)) | (refine ⟨rfl, _, i16, ?_⟩; conv => whnf) | exact (by decide : ((256 : Int) ≠ 0)) | exact clA _ | (refine And.intro ?_ ?_ <;> conv => whnf) | exact clN _ | fail
    have e := Option.some.inj b18
    refine LoopW.norm [(0, (I ((IntKind.i64.wrap ((s18.1).tdiv 256)), (z15 ++ s18.2.1), (IntKind.i64.wrap (s18.2.2 + 1))).1)), (3, (LV.str ((IntKind.i64.wrap ((s18.1).tdiv 256)), (z15 ++ s18.2.1), (IntKind.i64.wrap (s18.2.2 + 1))).2.1)), (4, (I ((IntKind.i64.wrap ((s18.1).tdiv 256)), (z15 ++ s18.2.1), (IntKind.i64.wrap (s18.2.2 + 1))).2.2))] 0 [] ⟨(smT : ((I (IntKind.i64.wrap ((s18.1).tdiv 256))) : LV) = (I ((IntKind.i64.wrap ((s18.1).tdiv 256)), (z15 ++ s18.2.1), (IntKind.i64.wrap (s18.2.2 + 1))).1)), (smT : ((LV.str (z15 ++ s18.2.1)) : LV) = (LV.str ((IntKind.i64.wrap ((s18.1).tdiv 256)), (z15 ++ s18.2.1), (IntKind.i64.wrap (s18.2.2 + 1))).2.1)), (smT : ((I (IntKind.i64.wrap (s18.2.2 + 1))) : LV) = (I ((IntKind.i64.wrap ((s18.1).tdiv 256)), (z15 ++ s18.2.1), (IntKind.i64.wrap (s18.2.2 + 1))).2.2)), trivial⟩ trivial blT rfl (K18 _ e.symm)
  · replace b18 := condF hc b18
    conv => whnf
    have e := Option.some.inj b18
    replace e := hbrk18 _ e.symm
    rw [e] at r18
    dsimp only [aftM] at r18
    have e := Option.some.inj r18
    subst e
    repeat' first | with_reducible rfl | with_reducible exact True.intro | with_reducible assumption | exact clA _ | (refine And.intro ?_ ?_ <;> conv => whnf) | exact clG _ | (refine gand ?_ h; assumption) | exact clN _ | fail

def ref07_turned_b20  (s20 : (Int × Int × Int × Int × Int)) : Option (Step Int (Int × Int × Int × Int × Int)) :=
  (bif (decide (s20.2.2.2.2 < 32)) then
    (bif (!decide (((s20.1).tmod 2) = ((s20.2.1).tmod 2))) then
      some (.nxt ((IntKind.i64.wrap ((s20.1).tdiv 2)), (IntKind.i64.wrap ((s20.2.1).tdiv 2)), (IntKind.i64.wrap (s20.2.2.1 + s20.2.2.2.1)), (IntKind.i64.wrap (2 * s20.2.2.2.1)), (IntKind.i64.wrap (s20.2.2.2.2 + 1))))
    else
      some (.nxt ((IntKind.i64.wrap ((s20.1).tdiv 2)), (IntKind.i64.wrap ((s20.2.1).tdiv 2)), s20.2.2.1, (IntKind.i64.wrap (2 * s20.2.2.2.1)), (IntKind.i64.wrap (s20.2.2.2.2 + 1)))))
  else
    some (.brk (s20.1, s20.2.1, s20.2.2.1, s20.2.2.2.1, s20.2.2.2.2)))

def ref07_turned (a0 : Int) (a1 : Int) : Option Int :=
  aft (loopF 1000000 (ref07_turned_b20 ) (a0, a1, 0, 1, 0)) fun s20 =>
  some s20.2.2.1

theorem c_ref07_turned (a0 : Int) (a1 : Int) (r : Int) (h : ref07_turned a0 a1 = some r) : CallP Try.prog 317 [(I a0), (I a1)] (I r) := by
  unfold ref07_turned at h
  refine .intro nlA (.intro TT_ok Try.func317 rfl rfl [0, 1, 4, 5, 6, 7, 9, 16] rfl ?_)
  conv => whnf
  repeat' first | with_reducible rfl | with_reducible exact True.intro | with_reducible assumption | refine parkI ?_ | (refine And.intro ?_ ?_ <;> conv => whnf) | fail
  replace h := aftS h
  obtain ⟨O20, hO20, r20⟩ := h
  refine LoopW.norm [(0, (I (a0, a1, 0, 1, 0).1)), (1, (I (a0, a1, 0, 1, 0).2.1)), (5, (I (a0, a1, 0, 1, 0).2.2.1)), (6, (I (a0, a1, 0, 1, 0).2.2.2.1)), (7, (I (a0, a1, 0, 1, 0).2.2.2.2))] 0 [] ⟨(smT : ((I a0) : LV) = (I (a0, a1, 0, 1, 0).1)), (smT : ((I a1) : LV) = (I (a0, a1, 0, 1, 0).2.1)), (smT : ((I 0) : LV) = (I (a0, a1, 0, 1, 0).2.2.1)), (smT : ((I 1) : LV) = (I (a0, a1, 0, 1, 0).2.2.2.1)), (smT : ((I 0) : LV) = (I (a0, a1, 0, 1, 0).2.2.2.2)), trivial⟩ trivial blT rfl ?_
  refine LoopW.forF (fun s20 => [(0, (I s20.1)), (1, (I s20.2.1)), (5, (I s20.2.2.1)), (6, (I s20.2.2.2.1)), (7, (I s20.2.2.2.2))]) (fun s20 => ⟨0, []⟩) hO20 (fun s20 o20 b20 K20 hret20 hbrk20 => ?_)
  unfold ref07_turned_b20 at b20
  refine LoopW.round TT_ok [0, 1, 4, 5, 6, 7, 9, 16] ?_
  conv => whnf
  repeat' first | with_reducible rfl | with_reducible exact True.intro | with_reducible assumption | refine parkI ?_ | (refine And.intro ?_ ?_ <;> conv => whnf) | fail
  refine parkE (fun hc => ?_) (fun hc => ?_)
  · replace b20 := condT hc b20
    conv => whnf
    repeat' first | with_reducible rfl | with_reducible exact True.intro | with_reducible assumption | refine parkI ?_ | exact (by decide : ((2 : Int) ≠ 0)) | exact (by decide : ((2 : Int) ≠ 0)) | (refine And.intro ?_ ?_ <;> conv => whnf) | fail
    refine parkE (fun hc => ?_) (fun hc => ?_)
    · replace b20 := condT hc b20
      conv => whnf
      repeat' first | with_reducible rfl | with_reducible exact True.intro | with_reducible assumption | refine parkI ?_ | exact (by decide : ((2 : Int) ≠ 0)) | exact (by decide : ((2 : Int) ≠ 0)) | (refine And.intro ?_ ?_ <;> conv => whnf) | fail
      have e := Option.some.inj b20
      refine LoopW.norm [(0, (I ((IntKind.i64.wrap ((s20.1).tdiv 2)), (IntKind.i64.wrap ((s20.2.1).tdiv 2)), (IntKind.i64.wrap (s20.2.2.1 + s20.2.2.2.1)), (IntKind.i64.wrap (2 * s20.2.2.2.1)), (IntKind.i64.wrap (s20.2.2.2.2 + 1))).1)), (1, (I ((IntKind.i64.wrap ((s20.1).tdiv 2)), (IntKind.i64.wrap ((s20.2.1).tdiv 2)), (IntKind.i64.wrap (s20.2.2.1 + s20.2.2.2.1)), (IntKind.i64.wrap (2 * s20.2.2.2.1)), (IntKind.i64.wrap (s20.2.2.2.2 + 1))).2.1)), (5, (I ((IntKind.i64.wrap ((s20.1).tdiv 2)), (IntKind.i64.wrap ((s20.2.1).tdiv 2)), (IntKind.i64.wrap (s20.2.2.1 + s20.2.2.2.1)), (IntKind.i64.wrap (2 * s20.2.2.2.1)), (IntKind.i64.wrap (s20.2.2.2.2 + 1))).2.2.1)), (6, (I ((IntKind.i64.wrap ((s20.1).tdiv 2)), (IntKind.i64.wrap ((s20.2.1).tdiv 2)), (IntKind.i64.wrap (s20.2.2.1 + s20.2.2.2.1)), (IntKind.i64.wrap (2 * s20.2.2.2.1)), (IntKind.i64.wrap (s20.2.2.2.2 + 1))).2.2.2.1)), (7, (I ((IntKind.i64.wrap ((s20.1).tdiv 2)), (IntKind.i64.wrap ((s20.2.1).tdiv 2)), (IntKind.i64.wrap (s20.2.2.1 + s20.2.2.2.1)), (IntKind.i64.wrap (2 * s20.2.2.2.1)), (IntKind.i64.wrap (s20.2.2.2.2 + 1))).2.2.2.2))] 0 [] ⟨(smT : ((I (IntKind.i64.wrap ((s20.1).tdiv 2))) : LV) = (I ((IntKind.i64.wrap ((s20.1).tdiv 2)), (IntKind.i64.wrap ((s20.2.1).tdiv 2)), (IntKind.i64.wrap (s20.2.2.1 + s20.2.2.2.1)), (IntKind.i64.wrap (2 * s20.2.2.2.1)), (IntKind.i64.wrap (s20.2.2.2.2 + 1))).1)), (smT : ((I (IntKind.i64.wrap ((s20.2.1).tdiv 2))) : LV) = (I ((IntKind.i64.wrap ((s20.1).tdiv 2)), (IntKind.i64.wrap ((s20.2.1).tdiv 2)), (IntKind.i64.wrap (s20.2.2.1 + s20.2.2.2.1)), (IntKind.i64.wrap (2 * s20.2.2.2.1)), (IntKind.i64.wrap (s20.2.2.2.2 + 1))).2.1)), (smT : ((I (IntKind.i64.wrap (s20.2.2.1 + s20.2.2.2.1))) : LV) = (I ((IntKind.i64.wrap ((s20.1).tdiv 2)), (IntKind.i64.wrap ((s20.2.1).tdiv 2)), (IntKind.i64.wrap (s20.2.2.1 + s20.2.2.2.1)), (IntKind.i64.wrap (2 * s20.2.2.2.1)), (IntKind.i64.wrap (s20.2.2.2.2 + 1))).2.2.1)), (smT : ((I (IntKind.i64.wrap (2 * s20.2.2.2.1))) : LV) = (I ((IntKind.i64.wrap ((s20.1).tdiv 2)), (IntKind.i64.wrap ((s20.2.1).tdiv 2)), (IntKind.i64.wrap (s20.2.2.1 + s20.2.2.2.1)), (IntKind.i64.wrap (2 * s20.2.2.2.1)), (IntKind.i64.wrap (s20.2.2.2.2 + 1))).2.2.2.1)), (smT : ((I (IntKind.i64.wrap (s20.2.2.2.2 + 1))) : LV) = (I ((IntKind.i64.wrap ((s20.1).tdiv 2)), (IntKind.i64.wrap ((s20.2.1).tdiv 2)), (IntKind.i64.wrap (s20.2.2.1 + s20.2.2.2.1)), (IntKind.i64.wrap (2 * s20.2.2.2.1)), (IntKind.i64.wrap (s20.2.2.2.2 + 1))).2.2.2.2)), trivial⟩ trivial blT rfl (K20 _ e.symm)
    · replace b20 := condF hc b20
      conv => whnf
      repeat' first | with_reducible rfl | with_reducible exact True.intro | with_reducible assumption | refine parkI ?_ | exact (by decide : ((2 : Int) ≠ 0)) | exact (by decide : ((2 : Int) ≠ 0)) | (refine And.intro ?_ ?_ <;> conv => whnf) | fail
      have e := Option.some.inj b20
      refine LoopW.norm [(0, (I ((IntKind.i64.wrap ((s20.1).tdiv 2)), (IntKind.i64.wrap ((s20.2.1).tdiv 2)), s20.2.2.1, (IntKind.i64.wrap (2 * s20.2.2.2.1)), (IntKind.i64.wrap (s20.2.2.2.2 + 1))).1)), (1, (I ((IntKind.i64.wrap ((s20.1).tdiv 2)), (IntKind.i64.wrap ((s20.2.1).tdiv 2)), s20.2.2.1, (IntKind.i64.wrap (2 * s20.2.2.2.1)), (IntKind.i64.wrap (s20.2.2.2.2 + 1))).2.1)), (5, (I ((IntKind.i64.wrap ((s20.1).tdiv 2)), (IntKind.i64.wrap ((s20.2.1).tdiv 2)), s20.2.2.1, (IntKind.i64.wrap (2 * s20.2.2.2.1)), (IntKind.i64.wrap (s20.2.2.2.2 + 1))).2.2.1)), (6, (I ((IntKind.i64.wrap ((s20.1).tdiv 2)), (IntKind.i64.wrap ((s20.2.1).tdiv 2)), s20.2.2.1, (IntKind.i64.wrap (2 * s20.2.2.2.1)), (IntKind.i64.wrap (s20.2.2.2.2 + 1))).2.2.2.1)), (7, (I ((IntKind.i64.wrap ((s20.1).tdiv 2)), (IntKind.i64.wrap ((s20.2.1).tdiv 2)), s20.2.2.1, (IntKind.i64.wrap (2 * s20.2.2.2.1)), (IntKind.i64.wrap (s20.2.2.2.2 + 1))).2.2.2.2))] 0 [] ⟨(smT : ((I (IntKind.i64.wrap ((s20.1).tdiv 2))) : LV) = (I ((IntKind.i64.wrap ((s20.1).tdiv 2)), (IntKind.i64.wrap ((s20.2.1).tdiv 2)), s20.2.2.1, (IntKind.i64.wrap (2 * s20.2.2.2.1)), (IntKind.i64.wrap (s20.2.2.2.2 + 1))).1)), (smT : ((I (IntKind.i64.wrap ((s20.2.1).tdiv 2))) : LV) = (I ((IntKind.i64.wrap ((s20.1).tdiv 2)), (IntKind.i64.wrap ((s20.2.1).tdiv 2)), s20.2.2.1, (IntKind.i64.wrap (2 * s20.2.2.2.1)), (IntKind.i64.wrap (s20.2.2.2.2 + 1))).2.1)), (smT : ((I s20.2.2.1) : LV) = (I ((IntKind.i64.wrap ((s20.1).tdiv 2)), (IntKind.i64.wrap ((s20.2.1).tdiv 2)), s20.2.2.1, (IntKind.i64.wrap (2 * s20.2.2.2.1)), (IntKind.i64.wrap (s20.2.2.2.2 + 1))).2.2.1)), (smT : ((I (IntKind.i64.wrap (2 * s20.2.2.2.1))) : LV) = (I ((IntKind.i64.wrap ((s20.1).tdiv 2)), (IntKind.i64.wrap ((s20.2.1).tdiv 2)), s20.2.2.1, (IntKind.i64.wrap (2 * s20.2.2.2.1)), (IntKind.i64.wrap (s20.2.2.2.2 + 1))).2.2.2.1)), (smT : ((I (IntKind.i64.wrap (s20.2.2.2.2 + 1))) : LV) = (I ((IntKind.i64.wrap ((s20.1).tdiv 2)), (IntKind.i64.wrap ((s20.2.1).tdiv 2)), s20.2.2.1, (IntKind.i64.wrap (2 * s20.2.2.2.1)), (IntKind.i64.wrap (s20.2.2.2.2 + 1))).2.2.2.2)), trivial⟩ trivial blT rfl (K20 _ e.symm)
  · replace b20 := condF hc b20
    conv => whnf
    have e := Option.some.inj b20
    replace e := hbrk20 _ e.symm
    rw [e] at r20
    dsimp only [aftM] at r20
    have e := Option.some.inj r20
    subst e
    repeat' first | with_reducible rfl | with_reducible exact True.intro | with_reducible assumption | exact clA _ | (refine And.intro ?_ ?_ <;> conv => whnf) | exact clG _ | (refine gand ?_ h; assumption) | exact clN _ | fail

def ref07_Sum_b19 (y18 : ByteArray) (s19 : (Int × Int)) : Option (Step Int (Int × Int)) :=
  (bif (decide (s19.2 < 6)) then
    (gixS y18 s19.2).bind fun v20 =>
    (ref07_turned s19.1 (IntKind.i64.wrap ((v20.toNat : Nat) : Int))).bind fun y22 =>
    some (.nxt ((((IntKind.i64.wrap (y22 * 16777619))).tmod 4294967296), (IntKind.i64.wrap (s19.2 + 1))))
  else
    some (.brk (s19.1, s19.2)))

def ref07_Sum (a0 : Int) : Option Int :=
  (ref01_Bytes a0).bind fun y18 =>
  aft (loopF 1000000 (ref07_Sum_b19 y18) (2166136261, 0)) fun s19 =>
  some s19.1

theorem c_ref07_Sum (a0 : Int) (r : Int) (h : ref07_Sum a0 = some r) : CallP Try.prog 295 [(I a0)] (I r) := by
  unfold ref07_Sum at h
  refine .intro nlA (.intro TT_ok Try.func295 rfl rfl [0, 2, 3, 4, 5, 9] rfl ?_)
  conv => whnf
  replace h := bindS h
  obtain ⟨y18, hy18, h⟩ := h
  have c19 := c_ref01_Bytes a0 _ hy18
  repeat' first | with_reducible rfl | with_reducible exact True.intro | with_reducible assumption | refine parkI ?_ | (refine CallP.use c19 ?_; conv => whnf) | (refine And.intro ?_ ?_ <;> conv => whnf) | fail
  replace h := aftS h
  obtain ⟨O19, hO19, r19⟩ := h
  refine LoopW.norm [(3, (I (2166136261, 0).1)), (4, (LV.str y18)), (5, (I (2166136261, 0).2))] 0 [] ⟨(smT : ((I 2166136261) : LV) = (I (2166136261, 0).1)), rfl, (smT : ((I 0) : LV) = (I (2166136261, 0).2)), trivial⟩ trivial blT rfl ?_
  refine LoopW.forF (fun s19 => [(3, (I s19.1)), (4, (LV.str y18)), (5, (I s19.2))]) (fun s19 => ⟨0, []⟩) hO19 (fun s19 o19 b19 K19 hret19 hbrk19 => ?_)
  unfold ref07_Sum_b19 at b19
  refine LoopW.round TT_ok [0, 2, 3, 4, 5, 9] ?_
  conv => whnf
  repeat' first | with_reducible rfl | with_reducible exact True.intro | with_reducible assumption | refine parkI ?_ | (refine And.intro ?_ ?_ <;> conv => whnf) | fail
  refine parkE (fun hc => ?_) (fun hc => ?_)
  · replace b19 := condT hc b19
    conv => whnf
    replace b19 := bindS b19
    obtain ⟨v20, hv20, b19⟩ := b19
    have i21 := gixSF hv20
    replace b19 := bindS b19
    obtain ⟨y22, hy22, b19⟩ := b19
    have c23 := c_ref07_turned s19.1 (IntKind.i64.wrap ((v20.toNat : Nat) : Int)) _ hy22
    repeat' first | with_reducible rfl | with_reducible exact True.intro | with_reducible assumption | refine parkI ?_ | (refine ⟨_, i21, ?_⟩; conv => whnf) | (refine CallP.use c23 ?_; conv => whnf) | exact (by decide : ((4294967296 : Int) ≠ 0)) | (refine And.intro ?_ ?_ <;> conv => whnf) | fail
    have e := Option.some.inj b19
    refine LoopW.norm [(3, (I ((((IntKind.i64.wrap (y22 * 16777619))).tmod 4294967296), (IntKind.i64.wrap (s19.2 + 1))).1)), (4, (LV.str y18)), (5, (I ((((IntKind.i64.wrap (y22 * 16777619))).tmod 4294967296), (IntKind.i64.wrap (s19.2 + 1))).2))] 0 [] ⟨(smT : ((I (((IntKind.i64.wrap (y22 * 16777619))).tmod 4294967296)) : LV) = (I ((((IntKind.i64.wrap (y22 * 16777619))).tmod 4294967296), (IntKind.i64.wrap (s19.2 + 1))).1)), rfl, (smT : ((I (IntKind.i64.wrap (s19.2 + 1))) : LV) = (I ((((IntKind.i64.wrap (y22 * 16777619))).tmod 4294967296), (IntKind.i64.wrap (s19.2 + 1))).2)), trivial⟩ trivial blT rfl (K19 _ e.symm)
  · replace b19 := condF hc b19
    conv => whnf
    have e := Option.some.inj b19
    replace e := hbrk19 _ e.symm
    rw [e] at r19
    dsimp only [aftM] at r19
    have e := Option.some.inj r19
    subst e
    repeat' first | with_reducible rfl | with_reducible exact True.intro | with_reducible assumption | exact clA _ | (refine And.intro ?_ ?_ <;> conv => whnf) | exact clG _ | (refine gand ?_ h; assumption) | exact clN _ | fail

def ref07_Bucket (a0 : Int) (a1 : Int) : Option Int :=
  (ref07_Sum a0).bind fun y24 =>
  grd ((a1 : Int) ≠ 0) <|
  some ((y24).tmod a1)

theorem c_ref07_Bucket (a0 : Int) (a1 : Int) (r : Int) (h : ref07_Bucket a0 a1 = some r) : CallP Try.prog 238 [(I a0), (I a1)] (I r) := by
  unfold ref07_Bucket at h
  refine .intro nlA (.intro TT_ok Try.func238 rfl rfl [0, 1, 4] rfl ?_)
  conv => whnf
  replace h := bindS h
  obtain ⟨y24, hy24, h⟩ := h
  have c25 := c_ref07_Sum a0 _ hy24
  replace h := grdS h
  obtain ⟨g26, h⟩ := h
  have e := Option.some.inj h
  subst e
  repeat' first | with_reducible rfl | with_reducible exact True.intro | with_reducible assumption | exact g26 | (refine CallP.use c25 ?_; conv => whnf) | exact clA _ | (refine And.intro ?_ ?_ <;> conv => whnf) | exact clG _ | (refine gand ?_ h; assumption) | exact clN _ | fail

def ref08_entry (a0 : EntryT) (a1 : Int) (a2 : Int) : Option Bool :=
  (ref08_Mac a0.Mac).bind fun y9 =>
  (gd y9 (ref08_Port a0.Port)).bind fun y11 =>
  (gd (bif y9 then y11 else false) (ref08_Time a0.Seen)).bind fun y13 =>
  (gd (bif (bif (bif y9 then y11 else false) then y13 else false) then (bif (!a0.Static) then true else (decide (a0.Seen = 0))) else false) (ref07_Bucket a0.Mac a2)).bind fun y27 =>
  some (bif (bif (bif (bif y9 then y11 else false) then y13 else false) then (bif (!a0.Static) then true else (decide (a0.Seen = 0))) else false) then (decide (y27 = a1)) else false)

theorem c_ref08_entry (a0 : EntryT) (a1 : Int) (a2 : Int) (r : Bool) (h : ref08_entry a0 a1 a2 = some r) : CallP Try.prog 142 [(LV.agg [(I a0.Mac), (I a0.Port), (I a0.Seen), (LV.bool a0.Static)]), (I a1), (I a2)] (LV.bool r) := by
  unfold ref08_entry at h
  refine .intro nlA (.intro TT_ok Try.func142 rfl rfl [0, 1, 2, 3, 6] rfl ?_)
  conv => whnf
  replace h := bindS h
  obtain ⟨y9, hy9, h⟩ := h
  have c10 := c_ref08_Mac a0.Mac _ hy9
  replace h := bindS h
  obtain ⟨y11, hy11, h⟩ := h
  have c12 := fun (hg : y9 = true) => c_ref08_Port a0.Port _ (gdS hg hy11)
  replace h := bindS h
  obtain ⟨y13, hy13, h⟩ := h
  have c14 := fun (hg : (bif y9 then y11 else false) = true) => c_ref08_Time a0.Seen _ (gdS hg hy13)
  replace h := bindS h
  obtain ⟨y27, hy27, h⟩ := h
  have c28 := fun (hg : (bif (bif (bif y9 then y11 else false) then y13 else false) then (bif (!a0.Static) then true else (decide (a0.Seen = 0))) else false) = true) => c_ref07_Bucket a0.Mac a2 _ (gdS hg hy27)
  have e := Option.some.inj h
  subst e
  repeat' first | with_reducible rfl | with_reducible exact True.intro | with_reducible assumption | (refine ⟨_, c12, ?_⟩; conv => whnf) | (refine ⟨_, c14, ?_⟩; conv => whnf) | (refine ⟨_, c28, ?_⟩; conv => whnf) | (refine CallP.use c10 ?_; conv => whnf) | exact clA _ | (refine And.intro ?_ ?_ <;> conv => whnf) | exact clG _ | (refine gand ?_ h; assumption) | exact clN _ | fail

def ref08_Place_b21 (a1 : Int) (k21 : Nat) (x21 : EntryT) (s21 : Unit) : Option (Step Int Unit) :=
  (bif (decide (x21.Mac = a1)) then
    some (.ret ((k21 : Nat) : Int))
  else
    some (.nxt ()))

def ref08_Place (a0 : (List EntryT)) (a1 : Int) : Option Int :=
  aft (rangeL (ref08_Place_b21 a1) a0 ()) fun s21 =>
  some (-1)

theorem c_ref08_Place (a0 : (List EntryT)) (a1 : Int) (r : Int) (h : ref08_Place a0 a1 = some r) : CallP Try.prog 143 [(LV.ro 4 (a0.map EntryT.cells)), (I a1)] (I r) := by
  unfold ref08_Place at h
  refine .intro nlA (.intro TT_ok Try.func143 rfl rfl [0, 1, 4, 5, 6, 7, 8, 9, 10, 17] rfl ?_)
  conv => whnf
  repeat' first | with_reducible rfl | with_reducible exact True.intro | with_reducible assumption | refine parkI ?_ | (refine And.intro ?_ ?_ <;> conv => whnf) | fail
  replace h := aftS h
  obtain ⟨O21, hO21, r21⟩ := h
  refine LoopW.norm [(1, (I a1)), (7, (LV.ro 4 (a0.map EntryT.cells))), (8, (I (((a0.map EntryT.cells).length : Nat) : Int))), (9, (I ((0 : Nat) : Int)))] 0 [] ⟨rfl, rfl, rfl, rfl, trivial⟩ trivial blT rfl ?_
  refine LoopW.forR (fun k21 s21 => [(1, (I a1)), (7, (LV.ro 4 (a0.map EntryT.cells))), (8, (I (((a0.map EntryT.cells).length : Nat) : Int))), (9, (I ((k21 : Nat) : Int)))]) (fun s21 => ⟨0, []⟩) hO21 (fun hl21 s21 hs21 => ?_) (fun hl21 k21 x21 s21 o21 hk21 hx21 b21 K21 hret21 hbrk21 => ?_)
  · rw [hs21] at r21
    dsimp only [aftM] at r21
    have hd : decide (((a0.length : Nat) : Int) < (((a0.map EntryT.cells).length : Nat) : Int)) = false := by rw [decide_eq_false_iff_not]; (try simp only [se_len, se_ch, List.length_map]); omega
    refine LoopW.round TT_ok [0, 1, 4, 5, 6, 7, 8, 9, 10, 17] ?_
    conv => whnf
    repeat' first | with_reducible rfl | with_reducible exact True.intro | with_reducible assumption | refine parkI ?_ | (refine And.intro ?_ ?_ <;> conv => whnf) | fail
    refine parkE (fun hc => ?_) (fun hc => ?_)
    · exact (Bool.false_ne_true (hd.symm.trans hc)).elim
    · clear hd
      conv => whnf
      have e := Option.some.inj r21
      subst e
      repeat' first | with_reducible rfl | with_reducible exact True.intro | with_reducible assumption | exact clA _ | (refine And.intro ?_ ?_ <;> conv => whnf) | exact clG _ | (refine gand ?_ h; assumption) | exact clN _ | fail
  · unfold ref08_Place_b21 at b21
    have hd : decide (((k21 : Nat) : Int) < (((a0.map EntryT.cells).length : Nat) : Int)) = true := by rw [decide_eq_true_eq]; (try simp only [se_len, se_ch, List.length_map] at hk21); (try simp only [se_len, se_ch, List.length_map]); omega
    refine LoopW.round TT_ok [0, 1, 4, 5, 6, 7, 8, 9, 10, 17] ?_
    conv => whnf
    repeat' first | with_reducible rfl | with_reducible exact True.intro | with_reducible assumption | refine parkI ?_ | (refine And.intro ?_ ?_ <;> conv => whnf) | fail
    refine parkE (fun hc => ?_) (fun hc => ?_)
    · clear hd
      conv => whnf
      repeat' first | with_reducible rfl | with_reducible exact True.intro | with_reducible assumption | refine parkI ?_ | (refine ⟨_, (kixF (f := EntryT.cells) hx21), ?_⟩; conv => whnf) | (refine And.intro ?_ ?_ <;> conv => whnf) | fail
      refine parkE (fun hc => ?_) (fun hc => ?_)
      · replace b21 := condT hc b21
        conv => whnf
        have e := Option.some.inj b21
        replace e := hret21 _ e.symm
        rw [e] at r21
        replace e := Option.some.inj r21
        subst e
        repeat' first | with_reducible rfl | with_reducible exact True.intro | with_reducible assumption | exact clA _ | (refine And.intro ?_ ?_ <;> conv => whnf) | exact clG _ | (refine gand ?_ h; assumption) | exact clN _ | fail
      · replace b21 := condF hc b21
        conv => whnf
        repeat' first | with_reducible rfl | with_reducible exact True.intro | with_reducible assumption | refine parkI ?_ | (refine And.intro ?_ ?_ <;> conv => whnf) | fail
        have e := Option.some.inj b21
        refine LoopW.norm [(1, (I a1)), (7, (LV.ro 4 (a0.map EntryT.cells))), (8, (I (((a0.map EntryT.cells).length : Nat) : Int))), (9, (I ((k21 + 1 : Nat) : Int)))] 0 [] ⟨rfl, rfl, rfl, (congrArg (LV.int .i64) (w64_nat _ (by omega))), trivial⟩ trivial blT rfl (K21 _ e.symm)
    · exact (Bool.false_ne_true (hc.symm.trans hd)).elim

def ref08_Right_b17 (a0 : TableT) (k16 : Nat) (x16 : (List EntryT)) (k17 : Nat) (x17 : EntryT) (s17 : Unit) : Option (Step (Step Bool Unit) Unit) :=
  (ref08_entry x17 ((k16 : Nat) : Int) ((a0.Buckets.length : Nat) : Int)).bind fun y29 =>
  grd (((!(!y29)) = true → (0 : Int) ≤ ((k17 : Nat) : Int) ∧ ((k17 : Nat) : Int) ≤ ((x16.length : Nat) : Int))) <|
  (gd (!(!y29)) (ref08_Place (x16.take (((k17 : Nat) : Int) : Int).toNat) x17.Mac)).bind fun y32 =>
  (bif (bif (!y29) then true else (decide (0 ≤ y32))) then
    some (.ret (.ret false))
  else
    some (.nxt ()))

def ref08_Right_b16 (a0 : TableT) (k16 : Nat) (x16 : (List EntryT)) (s16 : Unit) : Option (Step Bool Unit) :=
  (bif (decide (a0.Slots < ((x16.length : Nat) : Int))) then
    some (.ret false)
  else
    aft (rangeL (ref08_Right_b17 a0 k16 x16) x16 ()) fun s17 =>
    some (.nxt ()))

def ref08_Right (a0 : TableT) : Option Bool :=
  (ref08_Sizes ((a0.Buckets.length : Nat) : Int) a0.Slots a0.Age).bind fun y3 =>
  (bif (!y3) then
    some false
  else
    aft (rangeL (ref08_Right_b16 a0) a0.Buckets ()) fun s16 =>
    some true)

theorem c_ref08_Right (a0 : TableT) (r : Bool) (h : ref08_Right a0 = some r) : CallP Try.prog 30 [(LV.agg [(LV.ro 1 (a0.Buckets.map (roC 4 EntryT.cells))), (I a0.Slots), (I a0.Age)])] (LV.bool r) := by
  unfold ref08_Right at h
  refine .intro nlA (.intro TT_ok Try.func30 rfl rfl [0, 1, 2, 3, 4, 5, 6, 15, 17, 18, 19, 20, 28, 29, 30, 31, 32, 51] rfl ?_)
  conv => whnf
  replace h := bindS h
  obtain ⟨y3, hy3, h⟩ := h
  have c4 : CallP Try.prog 32 [(I (((a0.Buckets.map (roC 4 EntryT.cells)).length : Nat) : Int)), (I a0.Slots), (I a0.Age)] (LV.bool y3) := by first | exact c_ref08_Sizes ((a0.Buckets.length : Nat) : Int) a0.Slots a0.Age _ hy3 | (simpa only [se_map, se_byL, se_len, se_ch, List.length_map] using c_ref08_Sizes ((a0.Buckets.length : Nat) : Int) a0.Slots a0.Age _ hy3)
  repeat' first | with_reducible rfl | with_reducible exact True.intro | with_reducible assumption | refine parkI ?_ | (refine CallP.use c4 ?_; conv => whnf) | (refine ⟨_, _, CallP.at c4, ?_⟩; conv => whnf) | (refine ⟨_, fun _ => c4, ?_⟩; conv => whnf) | (refine W.drawn TT_ok hmix1 rfl ?_; conv => whnf) | exact clA _ | (refine And.intro ?_ ?_ <;> conv => whnf) | exact clG _ | (refine gand ?_ h; assumption) | exact clN _ | fail
  refine parkE (fun hc => ?_) (fun hc => ?_)
  · replace h := condT hc h
    conv => whnf
    have e := Option.some.inj h
    subst e
    repeat' first | with_reducible rfl | with_reducible exact True.intro | with_reducible assumption | (refine W.drawn TT_ok hmix1 rfl ?_; conv => whnf) | exact clA _ | (refine And.intro ?_ ?_ <;> conv => whnf) | exact clG _ | (refine gand ?_ h; assumption) | exact clN _ | fail
  · replace h := condF hc h
    conv => whnf
    repeat' first | with_reducible rfl | with_reducible exact True.intro | with_reducible assumption | refine parkI ?_ | (refine W.drawn TT_ok hmix1 rfl ?_; conv => whnf) | exact clA _ | (refine And.intro ?_ ?_ <;> conv => whnf) | exact clG _ | (refine gand ?_ h; assumption) | exact clN _ | fail
    replace h := aftS h
    obtain ⟨O16, hO16, r16⟩ := h
    refine LoopW.norm [(1, (LV.ptr 0 0 0)), (17, (LV.ro 1 (a0.Buckets.map (roC 4 EntryT.cells)))), (18, (I (((a0.Buckets.map (roC 4 EntryT.cells)).length : Nat) : Int))), (19, (I ((0 : Nat) : Int)))] 1 [(0, (.row 24 3 [[(LV.ro 1 (a0.Buckets.map (roC 4 EntryT.cells))), (I a0.Slots), (I a0.Age)]]))] ⟨rfl, rfl, rfl, rfl, trivial⟩ ⟨⟨rfl, rfl, blT⟩, trivial⟩ blT rfl ?_
    refine LoopW.forR (fun k16 s16 => [(1, (LV.ptr 0 0 0)), (17, (LV.ro 1 (a0.Buckets.map (roC 4 EntryT.cells)))), (18, (I (((a0.Buckets.map (roC 4 EntryT.cells)).length : Nat) : Int))), (19, (I ((k16 : Nat) : Int)))]) (fun s16 => ⟨1, [(0, (.row 24 3 [[(LV.ro 1 (a0.Buckets.map (roC 4 EntryT.cells))), (I a0.Slots), (I a0.Age)]]))]⟩) hO16 (fun hl16 s16 hs16 => ?_) (fun hl16 k16 x16 s16 o16 hk16 hx16 b16 K16 hret16 hbrk16 => ?_)
    · rw [hs16] at r16
      dsimp only [aftM] at r16
      have hd : decide (((a0.Buckets.length : Nat) : Int) < (((a0.Buckets.map (roC 4 EntryT.cells)).length : Nat) : Int)) = false := by rw [decide_eq_false_iff_not]; (try simp only [se_len, se_ch, List.length_map]); omega
      refine LoopW.round TT_ok [0, 1, 2, 3, 4, 5, 6, 15, 17, 18, 19, 20, 28, 29, 30, 31, 32, 51] ?_
      conv => whnf
      repeat' first | with_reducible rfl | with_reducible exact True.intro | with_reducible assumption | refine parkI ?_ | (refine W.drawn TT_ok hmix1 rfl ?_; conv => whnf) | exact clA _ | (refine And.intro ?_ ?_ <;> conv => whnf) | exact clG _ | (refine gand ?_ h; assumption) | exact clN _ | fail
      refine parkE (fun hc => ?_) (fun hc => ?_)
      · exact (Bool.false_ne_true (hd.symm.trans hc)).elim
      · clear hd
        conv => whnf
        have e := Option.some.inj r16
        subst e
        repeat' first | with_reducible rfl | with_reducible exact True.intro | with_reducible assumption | (refine W.drawn TT_ok hmix1 rfl ?_; conv => whnf) | exact clA _ | (refine And.intro ?_ ?_ <;> conv => whnf) | exact clG _ | (refine gand ?_ h; assumption) | exact clN _ | fail
    · unfold ref08_Right_b16 at b16
      have hd : decide (((k16 : Nat) : Int) < (((a0.Buckets.map (roC 4 EntryT.cells)).length : Nat) : Int)) = true := by rw [decide_eq_true_eq]; (try simp only [se_len, se_ch, List.length_map] at hk16); (try simp only [se_len, se_ch, List.length_map]); omega
      refine LoopW.round TT_ok [0, 1, 2, 3, 4, 5, 6, 15, 17, 18, 19, 20, 28, 29, 30, 31, 32, 51] ?_
      conv => whnf
      repeat' first | with_reducible rfl | with_reducible exact True.intro | with_reducible assumption | refine parkI ?_ | (refine W.drawn TT_ok hmix1 rfl ?_; conv => whnf) | exact clA _ | (refine And.intro ?_ ?_ <;> conv => whnf) | exact clG _ | (refine gand ?_ h; assumption) | exact clN _ | fail
      refine parkE (fun hc => ?_) (fun hc => ?_)
      · clear hd
        conv => whnf
        repeat' first | with_reducible rfl | with_reducible exact True.intro | with_reducible assumption | refine parkI ?_ | (refine ⟨_, (kixF (f := (roC 4 EntryT.cells)) hx16), ?_⟩; conv => whnf) | (refine W.drawn TT_ok hmix1 rfl ?_; conv => whnf) | exact clA _ | (refine And.intro ?_ ?_ <;> conv => whnf) | exact clG _ | (refine gand ?_ h; assumption) | exact clN _ | fail
        refine parkE (fun hc => ?_) (fun hc => ?_)
        · replace b16 := condT (by first | exact hc | simpa only [se_len, se_ch, List.length_map] using hc) b16
          conv => whnf
          have e := Option.some.inj b16
          replace e := hret16 _ e.symm
          rw [e] at r16
          replace e := Option.some.inj r16
          subst e
          repeat' first | with_reducible rfl | with_reducible exact True.intro | with_reducible assumption | (refine W.drawn TT_ok hmix1 rfl ?_; conv => whnf) | exact clA _ | (refine And.intro ?_ ?_ <;> conv => whnf) | exact clG _ | (refine gand ?_ h; assumption) | exact clN _ | fail
        · replace b16 := condF (by first | exact hc | simpa only [se_len, se_ch, List.length_map] using hc) b16
          conv => whnf
          repeat' first | with_reducible rfl | with_reducible exact True.intro | with_reducible assumption | refine parkI ?_ | (refine W.drawn TT_ok hmix1 rfl ?_; conv => whnf) | exact clA _ | (refine And.intro ?_ ?_ <;> conv => whnf) | exact clG _ | (refine gand ?_ h; assumption) | exact clN _ | fail
          replace b16 := aftS b16
          obtain ⟨O17, hO17, r17⟩ := b16
          refine LoopW.norm [(1, (LV.ptr 0 0 0)), (3, (I ((k16 : Nat) : Int))), (4, (LV.ro 4 (x16.map EntryT.cells))), (17, (LV.ro 1 (a0.Buckets.map (roC 4 EntryT.cells)))), (18, (I (((a0.Buckets.map (roC 4 EntryT.cells)).length : Nat) : Int))), (19, (I ((k16 : Nat) : Int))), (29, (LV.ro 4 (x16.map EntryT.cells))), (30, (I (((x16.map EntryT.cells).length : Nat) : Int))), (31, (I ((0 : Nat) : Int)))] 1 [(0, (.row 24 3 [[(LV.ro 1 (a0.Buckets.map (roC 4 EntryT.cells))), (I a0.Slots), (I a0.Age)]]))] ⟨rfl, rfl, rfl, rfl, rfl, rfl, rfl, rfl, rfl, trivial⟩ ⟨⟨rfl, rfl, blT⟩, trivial⟩ blT rfl ?_
          refine LoopW.forR (fun k17 s17 => [(1, (LV.ptr 0 0 0)), (3, (I ((k16 : Nat) : Int))), (4, (LV.ro 4 (x16.map EntryT.cells))), (17, (LV.ro 1 (a0.Buckets.map (roC 4 EntryT.cells)))), (18, (I (((a0.Buckets.map (roC 4 EntryT.cells)).length : Nat) : Int))), (19, (I ((k16 : Nat) : Int))), (29, (LV.ro 4 (x16.map EntryT.cells))), (30, (I (((x16.map EntryT.cells).length : Nat) : Int))), (31, (I ((k17 : Nat) : Int)))]) (fun s17 => ⟨1, [(0, (.row 24 3 [[(LV.ro 1 (a0.Buckets.map (roC 4 EntryT.cells))), (I a0.Slots), (I a0.Age)]]))]⟩) hO17 (fun hl17 s17 hs17 => ?_) (fun hl17 k17 x17 s17 o17 hk17 hx17 b17 K17 hret17 hbrk17 => ?_)
          · rw [hs17] at r17
            dsimp only [aftM] at r17
            have hd : decide (((x16.length : Nat) : Int) < (((x16.map EntryT.cells).length : Nat) : Int)) = false := by rw [decide_eq_false_iff_not]; (try simp only [se_len, se_ch, List.length_map]); omega
            refine LoopW.round TT_ok [0, 1, 2, 3, 4, 5, 6, 15, 17, 18, 19, 20, 28, 29, 30, 31, 32, 51] ?_
            conv => whnf
            repeat' first | with_reducible rfl | with_reducible exact True.intro | with_reducible assumption | refine parkI ?_ | (refine W.drawn TT_ok hmix1 rfl ?_; conv => whnf) | exact clA _ | (refine And.intro ?_ ?_ <;> conv => whnf) | exact clG _ | (refine gand ?_ h; assumption) | exact clN _ | fail
            refine parkE (fun hc => ?_) (fun hc => ?_)
            · exact (Bool.false_ne_true (hd.symm.trans hc)).elim
            · clear hd
              conv => whnf
              repeat' first | with_reducible rfl | with_reducible exact True.intro | with_reducible assumption | refine parkI ?_ | (refine W.drawn TT_ok hmix1 rfl ?_; conv => whnf) | exact clA _ | (refine And.intro ?_ ?_ <;> conv => whnf) | exact clG _ | (refine gand ?_ h; assumption) | exact clN _ | fail
              have e := Option.some.inj r17
              refine LoopW.norm [(1, (LV.ptr 0 0 0)), (17, (LV.ro 1 (a0.Buckets.map (roC 4 EntryT.cells)))), (18, (I (((a0.Buckets.map (roC 4 EntryT.cells)).length : Nat) : Int))), (19, (I ((k16 + 1 : Nat) : Int)))] 1 [(0, (.row 24 3 [[(LV.ro 1 (a0.Buckets.map (roC 4 EntryT.cells))), (I a0.Slots), (I a0.Age)]]))] ⟨rfl, rfl, rfl, (congrArg (LV.int .i64) (w64_nat _ (by omega))), trivial⟩ ⟨⟨rfl, rfl, blT⟩, trivial⟩ blT rfl (K16 _ e.symm)
          · unfold ref08_Right_b17 at b17
            have hd : decide (((k17 : Nat) : Int) < (((x16.map EntryT.cells).length : Nat) : Int)) = true := by rw [decide_eq_true_eq]; (try simp only [se_len, se_ch, List.length_map] at hk17); (try simp only [se_len, se_ch, List.length_map]); omega
            refine LoopW.round TT_ok [0, 1, 2, 3, 4, 5, 6, 15, 17, 18, 19, 20, 28, 29, 30, 31, 32, 51] ?_
            conv => whnf
            repeat' first | with_reducible rfl | with_reducible exact True.intro | with_reducible assumption | refine parkI ?_ | (refine W.drawn TT_ok hmix1 rfl ?_; conv => whnf) | exact clA _ | (refine And.intro ?_ ?_ <;> conv => whnf) | exact clG _ | (refine gand ?_ h; assumption) | exact clN _ | fail
            refine parkE (fun hc => ?_) (fun hc => ?_)
            · clear hd
              conv => whnf
              replace b17 := bindS b17
              obtain ⟨y29, hy29, b17⟩ := b17
              have c30 : CallP Try.prog 142 [(LV.agg [(I x17.Mac), (I x17.Port), (I x17.Seen), (LV.bool x17.Static)]), (I ((k16 : Nat) : Int)), (I (((a0.Buckets.map (roC 4 EntryT.cells)).length : Nat) : Int))] (LV.bool y29) := by first | exact c_ref08_entry x17 ((k16 : Nat) : Int) ((a0.Buckets.length : Nat) : Int) _ hy29 | (simpa only [se_map, se_byL, se_len, se_ch, List.length_map] using c_ref08_entry x17 ((k16 : Nat) : Int) ((a0.Buckets.length : Nat) : Int) _ hy29)
              replace b17 := grdS b17
              obtain ⟨g31, b17⟩ := b17
              replace g31 : ((!(!y29)) = true → (0 : Int) ≤ ((k17 : Nat) : Int) ∧ ((k17 : Nat) : Int) ≤ (((x16.map EntryT.cells).length : Nat) : Int)) := by simpa only [se_len, se_ch, List.length_map] using g31
              replace b17 := bindS b17
              obtain ⟨y32, hy32, b17⟩ := b17
              have c33 : (!(!y29)) = true → CallP Try.prog 143 [(LV.ro 4 ((x16.map EntryT.cells).take (((k17 : Nat) : Int) : Int).toNat)), (I x17.Mac)] (I y32) := by first | exact fun (hg : (!(!y29)) = true) => c_ref08_Place (x16.take (((k17 : Nat) : Int) : Int).toNat) x17.Mac _ (gdS hg hy32) | (simpa only [se_map, se_byL, se_len, se_ch, List.length_map] using fun (hg : (!(!y29)) = true) => c_ref08_Place (x16.take (((k17 : Nat) : Int) : Int).toNat) x17.Mac _ (gdS hg hy32))
              repeat' first | with_reducible rfl | with_reducible exact True.intro | with_reducible assumption | refine parkI ?_ | (refine ⟨_, (kixF (f := EntryT.cells) hx17), ?_⟩; conv => whnf) | (refine ⟨_, c33, ?_⟩; conv => whnf) | exact g31 | (refine CallP.use c30 ?_; conv => whnf) | (refine ⟨_, _, CallP.at c30, ?_⟩; conv => whnf) | (refine ⟨_, fun _ => c30, ?_⟩; conv => whnf) | (refine W.drawn TT_ok hmix1 rfl ?_; conv => whnf) | exact clA _ | (refine And.intro ?_ ?_ <;> conv => whnf) | exact clG _ | (refine gand ?_ h; assumption) | exact clN _ | fail
              refine parkE (fun hc => ?_) (fun hc => ?_)
              · replace b17 := condT hc b17
                conv => whnf
                have e := Option.some.inj b17
                replace e := hret17 _ e.symm
                rw [e] at r17
                replace e := Option.some.inj r17
                replace e := hret16 _ e.symm
                rw [e] at r16
                replace e := Option.some.inj r16
                subst e
                repeat' first | with_reducible rfl | with_reducible exact True.intro | with_reducible assumption | (refine W.drawn TT_ok hmix1 rfl ?_; conv => whnf) | exact clA _ | (refine And.intro ?_ ?_ <;> conv => whnf) | exact clG _ | (refine gand ?_ h; assumption) | exact clN _ | fail
              · replace b17 := condF hc b17
                conv => whnf
                repeat' first | with_reducible rfl | with_reducible exact True.intro | with_reducible assumption | refine parkI ?_ | (refine W.drawn TT_ok hmix1 rfl ?_; conv => whnf) | exact clA _ | (refine And.intro ?_ ?_ <;> conv => whnf) | exact clG _ | (refine gand ?_ h; assumption) | exact clN _ | fail
                have e := Option.some.inj b17
                refine LoopW.norm [(1, (LV.ptr 0 0 0)), (3, (I ((k16 : Nat) : Int))), (4, (LV.ro 4 (x16.map EntryT.cells))), (17, (LV.ro 1 (a0.Buckets.map (roC 4 EntryT.cells)))), (18, (I (((a0.Buckets.map (roC 4 EntryT.cells)).length : Nat) : Int))), (19, (I ((k16 : Nat) : Int))), (29, (LV.ro 4 (x16.map EntryT.cells))), (30, (I (((x16.map EntryT.cells).length : Nat) : Int))), (31, (I ((k17 + 1 : Nat) : Int)))] 1 [(0, (.row 24 3 [[(LV.ro 1 (a0.Buckets.map (roC 4 EntryT.cells))), (I a0.Slots), (I a0.Age)]]))] ⟨rfl, rfl, rfl, rfl, rfl, rfl, rfl, rfl, (congrArg (LV.int .i64) (w64_nat _ (by omega))), trivial⟩ ⟨⟨rfl, rfl, blT⟩, trivial⟩ blT rfl (K17 _ e.symm)
            · exact (Bool.false_ne_true (hc.symm.trans hd)).elim
      · exact (Bool.false_ne_true (hc.symm.trans hd)).elim

def ref08_rows_b23 (a1 : (List EntryT)) (k23 : Nat) (x23 : EntryT) (s23 : Unit) : Option (Step Bool Unit) :=
  (gix a1 ((k23 : Nat) : Int)).bind fun v36 =>
  (bif (!((decide (x23.Mac = v36.Mac)) && ((decide (x23.Port = v36.Port)) && ((decide (x23.Seen = v36.Seen)) && ((x23.Static == v36.Static) && true))))) then
    some (.ret false)
  else
    some (.nxt ()))

def ref08_rows (a0 : (List EntryT)) (a1 : (List EntryT)) : Option Bool :=
  (bif (!decide (((a0.length : Nat) : Int) = ((a1.length : Nat) : Int))) then
    some false
  else
    aft (rangeL (ref08_rows_b23 a1) a0 ()) fun s23 =>
    some true)

theorem c_ref08_rows (a0 : (List EntryT)) (a1 : (List EntryT)) (r : Bool) (h : ref08_rows a0 a1 = some r) : CallP Try.prog 145 [(LV.ro 4 (a0.map EntryT.cells)), (LV.ro 4 (a1.map EntryT.cells))] (LV.bool r) := by
  unfold ref08_rows at h
  refine .intro nlA (.intro TT_ok Try.func145 rfl rfl [0, 1, 4, 5, 10, 12, 13, 14, 24] rfl ?_)
  conv => whnf
  repeat' first | with_reducible rfl | with_reducible exact True.intro | with_reducible assumption | refine parkI ?_ | (refine W.drawn TT_ok hmix1 rfl ?_; conv => whnf) | exact clA _ | (refine And.intro ?_ ?_ <;> conv => whnf) | exact clG _ | (refine gand ?_ h; assumption) | exact clN _ | fail
  refine parkE (fun hc => ?_) (fun hc => ?_)
  · replace h := condT (by first | exact hc | simpa only [se_len, se_ch, List.length_map] using hc) h
    conv => whnf
    have e := Option.some.inj h
    subst e
    repeat' first | with_reducible rfl | with_reducible exact True.intro | with_reducible assumption | (refine W.drawn TT_ok hmix1 rfl ?_; conv => whnf) | exact clA _ | (refine And.intro ?_ ?_ <;> conv => whnf) | exact clG _ | (refine gand ?_ h; assumption) | exact clN _ | fail
  · replace h := condF (by first | exact hc | simpa only [se_len, se_ch, List.length_map] using hc) h
    conv => whnf
    repeat' first | with_reducible rfl | with_reducible exact True.intro | with_reducible assumption | refine parkI ?_ | (refine W.drawn TT_ok hmix1 rfl ?_; conv => whnf) | exact clA _ | (refine And.intro ?_ ?_ <;> conv => whnf) | exact clG _ | (refine gand ?_ h; assumption) | exact clN _ | fail
    replace h := aftS h
    obtain ⟨O23, hO23, r23⟩ := h
    refine LoopW.norm [(0, (LV.ro 4 (a0.map EntryT.cells))), (1, (LV.ro 4 (a1.map EntryT.cells))), (12, (I (((a0.map EntryT.cells).length : Nat) : Int))), (13, (I ((0 : Nat) : Int)))] 0 [] ⟨rfl, rfl, rfl, rfl, trivial⟩ trivial blT rfl ?_
    refine LoopW.forR (fun k23 s23 => [(0, (LV.ro 4 (a0.map EntryT.cells))), (1, (LV.ro 4 (a1.map EntryT.cells))), (12, (I (((a0.map EntryT.cells).length : Nat) : Int))), (13, (I ((k23 : Nat) : Int)))]) (fun s23 => ⟨0, []⟩) hO23 (fun hl23 s23 hs23 => ?_) (fun hl23 k23 x23 s23 o23 hk23 hx23 b23 K23 hret23 hbrk23 => ?_)
    · rw [hs23] at r23
      dsimp only [aftM] at r23
      have hd : decide (((a0.length : Nat) : Int) < (((a0.map EntryT.cells).length : Nat) : Int)) = false := by rw [decide_eq_false_iff_not]; (try simp only [se_len, se_ch, List.length_map]); omega
      refine LoopW.round TT_ok [0, 1, 4, 5, 10, 12, 13, 14, 24] ?_
      conv => whnf
      repeat' first | with_reducible rfl | with_reducible exact True.intro | with_reducible assumption | refine parkI ?_ | (refine W.drawn TT_ok hmix1 rfl ?_; conv => whnf) | exact clA _ | (refine And.intro ?_ ?_ <;> conv => whnf) | exact clG _ | (refine gand ?_ h; assumption) | exact clN _ | fail
      refine parkE (fun hc => ?_) (fun hc => ?_)
      · exact (Bool.false_ne_true (hd.symm.trans hc)).elim
      · clear hd
        conv => whnf
        have e := Option.some.inj r23
        subst e
        repeat' first | with_reducible rfl | with_reducible exact True.intro | with_reducible assumption | (refine W.drawn TT_ok hmix1 rfl ?_; conv => whnf) | exact clA _ | (refine And.intro ?_ ?_ <;> conv => whnf) | exact clG _ | (refine gand ?_ h; assumption) | exact clN _ | fail
    · unfold ref08_rows_b23 at b23
      have hd : decide (((k23 : Nat) : Int) < (((a0.map EntryT.cells).length : Nat) : Int)) = true := by rw [decide_eq_true_eq]; (try simp only [se_len, se_ch, List.length_map] at hk23); (try simp only [se_len, se_ch, List.length_map]); omega
      refine LoopW.round TT_ok [0, 1, 4, 5, 10, 12, 13, 14, 24] ?_
      conv => whnf
      repeat' first | with_reducible rfl | with_reducible exact True.intro | with_reducible assumption | refine parkI ?_ | (refine W.drawn TT_ok hmix1 rfl ?_; conv => whnf) | exact clA _ | (refine And.intro ?_ ?_ <;> conv => whnf) | exact clG _ | (refine gand ?_ h; assumption) | exact clN _ | fail
      refine parkE (fun hc => ?_) (fun hc => ?_)
      · clear hd
        conv => whnf
        replace b23 := bindS b23
        obtain ⟨v36, hv36, b23⟩ := b23
        have i37 := gixF (f := EntryT.cells) hv36
        repeat' first | with_reducible rfl | with_reducible exact True.intro | with_reducible assumption | refine parkI ?_ | (refine ⟨_, (kixF (f := EntryT.cells) hx23), ?_⟩; conv => whnf) | (refine ⟨_, i37, ?_⟩; conv => whnf) | (refine W.drawn TT_ok hmix1 rfl ?_; conv => whnf) | exact clA _ | (refine And.intro ?_ ?_ <;> conv => whnf) | exact clG _ | (refine gand ?_ h; assumption) | exact clN _ | fail
        refine parkE (fun hc => ?_) (fun hc => ?_)
        · replace b23 := condT hc b23
          conv => whnf
          have e := Option.some.inj b23
          replace e := hret23 _ e.symm
          rw [e] at r23
          replace e := Option.some.inj r23
          subst e
          repeat' first | with_reducible rfl | with_reducible exact True.intro | with_reducible assumption | (refine W.drawn TT_ok hmix1 rfl ?_; conv => whnf) | exact clA _ | (refine And.intro ?_ ?_ <;> conv => whnf) | exact clG _ | (refine gand ?_ h; assumption) | exact clN _ | fail
        · replace b23 := condF hc b23
          conv => whnf
          repeat' first | with_reducible rfl | with_reducible exact True.intro | with_reducible assumption | refine parkI ?_ | (refine W.drawn TT_ok hmix1 rfl ?_; conv => whnf) | exact clA _ | (refine And.intro ?_ ?_ <;> conv => whnf) | exact clG _ | (refine gand ?_ h; assumption) | exact clN _ | fail
          have e := Option.some.inj b23
          refine LoopW.norm [(0, (LV.ro 4 (a0.map EntryT.cells))), (1, (LV.ro 4 (a1.map EntryT.cells))), (12, (I (((a0.map EntryT.cells).length : Nat) : Int))), (13, (I ((k23 + 1 : Nat) : Int)))] 0 [] ⟨rfl, rfl, rfl, (congrArg (LV.int .i64) (w64_nat _ (by omega))), trivial⟩ trivial blT rfl (K23 _ e.symm)
      · exact (Bool.false_ne_true (hc.symm.trans hd)).elim

def ref08_Same_b22 (a1 : TableT) (k22 : Nat) (x22 : (List EntryT)) (s22 : Unit) : Option (Step Bool Unit) :=
  (gix a1.Buckets ((k22 : Nat) : Int)).bind fun v34 =>
  (ref08_rows x22 v34).bind fun y38 =>
  (bif (!y38) then
    some (.ret false)
  else
    some (.nxt ()))

def ref08_Same (a0 : TableT) (a1 : TableT) : Option Bool :=
  (bif (bif (bif (!decide (a0.Slots = a1.Slots)) then true else (!decide (a0.Age = a1.Age))) then true else (!decide (((a0.Buckets.length : Nat) : Int) = ((a1.Buckets.length : Nat) : Int)))) then
    some false
  else
    aft (rangeL (ref08_Same_b22 a1) a0.Buckets ()) fun s22 =>
    some true)

theorem c_ref08_Same (a0 : TableT) (a1 : TableT) (r : Bool) (h : ref08_Same a0 a1 = some r) : CallP Try.prog 33 [(LV.agg [(LV.ro 1 (a0.Buckets.map (roC 4 EntryT.cells))), (I a0.Slots), (I a0.Age)]), (LV.agg [(LV.ro 1 (a1.Buckets.map (roC 4 EntryT.cells))), (I a1.Slots), (I a1.Age)])] (LV.bool r) := by
  unfold ref08_Same at h
  refine .intro nlA (.intro TT_ok Try.func33 rfl rfl [0, 1, 2, 3, 4, 5, 26, 29, 30, 31, 44] rfl ?_)
  conv => whnf
  repeat' first | with_reducible rfl | with_reducible exact True.intro | with_reducible assumption | refine parkI ?_ | (refine W.drawn TT_ok hmix1 rfl ?_; conv => whnf) | exact clA _ | (refine And.intro ?_ ?_ <;> conv => whnf) | exact clG _ | (refine gand ?_ h; assumption) | exact clN _ | fail
  refine parkE (fun hc => ?_) (fun hc => ?_)
  · replace h := condT (by first | exact hc | simpa only [se_len, se_ch, List.length_map] using hc) h
    conv => whnf
    have e := Option.some.inj h
    subst e
    repeat' first | with_reducible rfl | with_reducible exact True.intro | with_reducible assumption | (refine W.drawn TT_ok hmix1 rfl ?_; conv => whnf) | exact clA _ | (refine And.intro ?_ ?_ <;> conv => whnf) | exact clG _ | (refine gand ?_ h; assumption) | exact clN _ | fail
  · replace h := condF (by first | exact hc | simpa only [se_len, se_ch, List.length_map] using hc) h
    conv => whnf
    repeat' first | with_reducible rfl | with_reducible exact True.intro | with_reducible assumption | refine parkI ?_ | (refine W.drawn TT_ok hmix1 rfl ?_; conv => whnf) | exact clA _ | (refine And.intro ?_ ?_ <;> conv => whnf) | exact clG _ | (refine gand ?_ h; assumption) | exact clN _ | fail
    replace h := aftS h
    obtain ⟨O22, hO22, r22⟩ := h
    refine LoopW.norm [(2, (LV.ptr 0 0 0)), (3, (LV.ptr 1 0 0)), (29, (I (((a0.Buckets.map (roC 4 EntryT.cells)).length : Nat) : Int))), (30, (I ((0 : Nat) : Int)))] 2 [(0, (.row 24 3 [[(LV.ro 1 (a0.Buckets.map (roC 4 EntryT.cells))), (I a0.Slots), (I a0.Age)]])), (1, (.row 24 3 [[(LV.ro 1 (a1.Buckets.map (roC 4 EntryT.cells))), (I a1.Slots), (I a1.Age)]]))] ⟨rfl, rfl, rfl, rfl, trivial⟩ ⟨⟨rfl, rfl, blT⟩, ⟨⟨rfl, rfl, blT⟩, trivial⟩⟩ blT rfl ?_
    refine LoopW.forR (fun k22 s22 => [(2, (LV.ptr 0 0 0)), (3, (LV.ptr 1 0 0)), (29, (I (((a0.Buckets.map (roC 4 EntryT.cells)).length : Nat) : Int))), (30, (I ((k22 : Nat) : Int)))]) (fun s22 => ⟨2, [(0, (.row 24 3 [[(LV.ro 1 (a0.Buckets.map (roC 4 EntryT.cells))), (I a0.Slots), (I a0.Age)]])), (1, (.row 24 3 [[(LV.ro 1 (a1.Buckets.map (roC 4 EntryT.cells))), (I a1.Slots), (I a1.Age)]]))]⟩) hO22 (fun hl22 s22 hs22 => ?_) (fun hl22 k22 x22 s22 o22 hk22 hx22 b22 K22 hret22 hbrk22 => ?_)
    · rw [hs22] at r22
      dsimp only [aftM] at r22
      have hd : decide (((a0.Buckets.length : Nat) : Int) < (((a0.Buckets.map (roC 4 EntryT.cells)).length : Nat) : Int)) = false := by rw [decide_eq_false_iff_not]; (try simp only [se_len, se_ch, List.length_map]); omega
      refine LoopW.round TT_ok [0, 1, 2, 3, 4, 5, 26, 29, 30, 31, 44] ?_
      conv => whnf
      repeat' first | with_reducible rfl | with_reducible exact True.intro | with_reducible assumption | refine parkI ?_ | (refine W.drawn TT_ok hmix1 rfl ?_; conv => whnf) | exact clA _ | (refine And.intro ?_ ?_ <;> conv => whnf) | exact clG _ | (refine gand ?_ h; assumption) | exact clN _ | fail
      refine parkE (fun hc => ?_) (fun hc => ?_)
      · exact (Bool.false_ne_true (hd.symm.trans hc)).elim
      · clear hd
        conv => whnf
        have e := Option.some.inj r22
        subst e
        repeat' first | with_reducible rfl | with_reducible exact True.intro | with_reducible assumption | (refine W.drawn TT_ok hmix1 rfl ?_; conv => whnf) | exact clA _ | (refine And.intro ?_ ?_ <;> conv => whnf) | exact clG _ | (refine gand ?_ h; assumption) | exact clN _ | fail
    · unfold ref08_Same_b22 at b22
      have hd : decide (((k22 : Nat) : Int) < (((a0.Buckets.map (roC 4 EntryT.cells)).length : Nat) : Int)) = true := by rw [decide_eq_true_eq]; (try simp only [se_len, se_ch, List.length_map] at hk22); (try simp only [se_len, se_ch, List.length_map]); omega
      refine LoopW.round TT_ok [0, 1, 2, 3, 4, 5, 26, 29, 30, 31, 44] ?_
      conv => whnf
      repeat' first | with_reducible rfl | with_reducible exact True.intro | with_reducible assumption | refine parkI ?_ | (refine W.drawn TT_ok hmix1 rfl ?_; conv => whnf) | exact clA _ | (refine And.intro ?_ ?_ <;> conv => whnf) | exact clG _ | (refine gand ?_ h; assumption) | exact clN _ | fail
      refine parkE (fun hc => ?_) (fun hc => ?_)
      · clear hd
        conv => whnf
        replace b22 := bindS b22
        obtain ⟨v34, hv34, b22⟩ := b22
        have i35 := gixF (f := (roC 4 EntryT.cells)) hv34
        replace b22 := bindS b22
        obtain ⟨y38, hy38, b22⟩ := b22
        have c39 := c_ref08_rows x22 v34 _ hy38
        repeat' first | with_reducible rfl | with_reducible exact True.intro | with_reducible assumption | refine parkI ?_ | (refine ⟨_, (kixF (f := (roC 4 EntryT.cells)) hx22), ?_⟩; conv => whnf) | (refine ⟨_, i35, ?_⟩; conv => whnf) | (refine CallP.use c39 ?_; conv => whnf) | (refine ⟨_, _, CallP.at c39, ?_⟩; conv => whnf) | (refine ⟨_, fun _ => c39, ?_⟩; conv => whnf) | (refine W.drawn TT_ok hmix1 rfl ?_; conv => whnf) | exact clA _ | (refine And.intro ?_ ?_ <;> conv => whnf) | exact clG _ | (refine gand ?_ h; assumption) | exact clN _ | fail
        refine parkE (fun hc => ?_) (fun hc => ?_)
        · replace b22 := condT hc b22
          conv => whnf
          have e := Option.some.inj b22
          replace e := hret22 _ e.symm
          rw [e] at r22
          replace e := Option.some.inj r22
          subst e
          repeat' first | with_reducible rfl | with_reducible exact True.intro | with_reducible assumption | (refine W.drawn TT_ok hmix1 rfl ?_; conv => whnf) | exact clA _ | (refine And.intro ?_ ?_ <;> conv => whnf) | exact clG _ | (refine gand ?_ h; assumption) | exact clN _ | fail
        · replace b22 := condF hc b22
          conv => whnf
          repeat' first | with_reducible rfl | with_reducible exact True.intro | with_reducible assumption | refine parkI ?_ | (refine W.drawn TT_ok hmix1 rfl ?_; conv => whnf) | exact clA _ | (refine And.intro ?_ ?_ <;> conv => whnf) | exact clG _ | (refine gand ?_ h; assumption) | exact clN _ | fail
          have e := Option.some.inj b22
          refine LoopW.norm [(2, (LV.ptr 0 0 0)), (3, (LV.ptr 1 0 0)), (29, (I (((a0.Buckets.map (roC 4 EntryT.cells)).length : Nat) : Int))), (30, (I ((k22 + 1 : Nat) : Int)))] 2 [(0, (.row 24 3 [[(LV.ro 1 (a0.Buckets.map (roC 4 EntryT.cells))), (I a0.Slots), (I a0.Age)]])), (1, (.row 24 3 [[(LV.ro 1 (a1.Buckets.map (roC 4 EntryT.cells))), (I a1.Slots), (I a1.Age)]]))] ⟨rfl, rfl, rfl, (congrArg (LV.int .i64) (w64_nat _ (by omega))), trivial⟩ ⟨⟨rfl, rfl, blT⟩, ⟨⟨rfl, rfl, blT⟩, trivial⟩⟩ blT rfl (K22 _ e.symm)
      · exact (Bool.false_ne_true (hc.symm.trans hd)).elim

def ref08_New_b24 (a0 : Int) (s24 : (Int × TableT)) : Option (Step TableT (Int × TableT)) :=
  (bif (decide (s24.1 < a0)) then
    grd (fits ((s24.2.Buckets ++ ([([] : (List EntryT))] : (List (List EntryT)))) : List (List EntryT)).length 24) <|
    some (.nxt ((IntKind.i64.wrap (s24.1 + 1)), (⟨(s24.2.Buckets ++ ([([] : (List EntryT))] : (List (List EntryT)))), s24.2.Slots, s24.2.Age⟩ : TableT)))
  else
    some (.brk (s24.1, s24.2)))

def ref08_New (a0 : Int) (a1 : Int) (a2 : Int) : Option TableT :=
  aft (loopF 1000000 (ref08_New_b24 a0) (0, (⟨([] : List (List EntryT)), a1, a2⟩ : TableT))) fun s24 =>
  some s24.2

theorem c_ref08_New (a0 : Int) (a1 : Int) (a2 : Int) (r : TableT) (h : ref08_New a0 a1 a2 = some r) : CallP Try.prog 34 [(I a0), (I a1), (I a2)] (LV.agg [(LV.ro 1 (r.Buckets.map (roC 4 EntryT.cells))), (I r.Slots), (I r.Age)]) := by
  unfold ref08_New at h
  refine .intro nlA (.intro TT_ok Try.func34 rfl rfl [0, 1, 2, 6, 7, 8, 14, 5000019] rfl ?_)
  conv => whnf
  repeat' first | with_reducible rfl | with_reducible exact True.intro | with_reducible assumption | refine parkI ?_ | (refine And.intro ?_ ?_ <;> conv => whnf) | fail
  replace h := aftS h
  obtain ⟨O24, hO24, r24⟩ := h
  refine LoopW.virtC 1 0 0 186 1 rfl rfl rfl rfl ?_
  refine LoopW.norm [(0, (I a0)), (6, (LV.ptr 0 0 0)), (7, (LV.ptr 1 0 0)), (8, (I (0, (⟨([] : List (List EntryT)), a1, a2⟩ : TableT)).1))] 3 [(0, (.row 24 3 [[LV.nils, (I 0), (I 0)]])), (1, (.row 24 3 [[(LV.sl 2 0 ((0, (⟨([] : List (List EntryT)), a1, a2⟩ : TableT)).2.Buckets.map (roC 4 EntryT.cells)).length), (I (0, (⟨([] : List (List EntryT)), a1, a2⟩ : TableT)).2.Slots), (I (0, (⟨([] : List (List EntryT)), a1, a2⟩ : TableT)).2.Age)]])), (2, (.row 186 1 ((0, (⟨([] : List (List EntryT)), a1, a2⟩ : TableT)).2.Buckets.map (roC 4 EntryT.cells))))] ⟨rfl, rfl, rfl, (by first | (simp only [se_map, se_byL, se_len, se_ch, List.length_map]; done) | (simp only [se_map, se_byL, se_len, se_ch, List.length_map, TableT.cells]; done) : ((I 0) : LV) = (I (0, (⟨([] : List (List EntryT)), a1, a2⟩ : TableT)).1)), trivial⟩ ⟨⟨rfl, rfl, blT⟩, ⟨⟨(congrArg (fun q => some (Blk.row 24 3 q)) (by first | (simp only [se_map, se_byL, se_len, se_ch, List.length_map]; done) | (simp only [se_map, se_byL, se_len, se_ch, List.length_map, TableT.cells]; done) | (simp only [se_map, se_byL, se_len, se_ch, List.length_map, roC]; done) : ([[(LV.sl 2 0 0), (I a1), (I a2)]] : List (List LV)) = [[(LV.sl 2 0 ((0, (⟨([] : List (List EntryT)), a1, a2⟩ : TableT)).2.Buckets.map (roC 4 EntryT.cells)).length), (I (0, (⟨([] : List (List EntryT)), a1, a2⟩ : TableT)).2.Slots), (I (0, (⟨([] : List (List EntryT)), a1, a2⟩ : TableT)).2.Age)]])), rfl, blT⟩, ⟨⟨(congrArg (fun q => some (Blk.row 186 1 q)) (by first | (simp only [se_map, se_byL, se_len, se_ch, List.length_map]; done) | (simp only [se_map, se_byL, se_len, se_ch, List.length_map, TableT.cells]; done) | (simp only [se_map, se_byL, se_len, se_ch, List.length_map, roC]; done) : ([] : List (List LV)) = ((0, (⟨([] : List (List EntryT)), a1, a2⟩ : TableT)).2.Buckets.map (roC 4 EntryT.cells)))), rfl, NLss_bel (NLss_map' _)⟩, trivial⟩⟩⟩ blT rfl ?_
  refine LoopW.forF (fun s24 => [(0, (I a0)), (6, (LV.ptr 0 0 0)), (7, (LV.ptr 1 0 0)), (8, (I s24.1))]) (fun s24 => ⟨3, [(0, (.row 24 3 [[LV.nils, (I 0), (I 0)]])), (1, (.row 24 3 [[(LV.sl 2 0 (s24.2.Buckets.map (roC 4 EntryT.cells)).length), (I s24.2.Slots), (I s24.2.Age)]])), (2, (.row 186 1 (s24.2.Buckets.map (roC 4 EntryT.cells))))]⟩) hO24 (fun s24 o24 b24 K24 hret24 hbrk24 => ?_)
  unfold ref08_New_b24 at b24
  refine LoopW.round TT_ok [0, 1, 2, 6, 7, 8, 14, 5000019] ?_
  conv => whnf
  repeat' first | with_reducible rfl | with_reducible exact True.intro | with_reducible assumption | refine parkI ?_ | (refine And.intro ?_ ?_ <;> conv => whnf) | fail
  refine parkE (fun hc => ?_) (fun hc => ?_)
  · replace b24 := condT hc b24
    conv => whnf
    replace b24 := grdS b24
    obtain ⟨g40, b24⟩ := b24
    replace g40 : fits (((s24.2.Buckets.map (roC 4 EntryT.cells)) ++ [[(LV.ro 4 [])]])).length 24 := by simpa only [se_len, se_ch, List.length_map] using g40
    repeat' first | with_reducible rfl | with_reducible exact True.intro | with_reducible assumption | refine parkI ?_ | exact g40 | exact clA _ | (refine And.intro ?_ ?_ <;> conv => whnf) | exact clN _ | fail
    have e := Option.some.inj b24
    refine LoopW.ren [(0, 0), (1, 1), (4, 2)] [(0, (I a0)), (6, (LV.ptr 0 0 0)), (7, (LV.ptr 1 0 0)), (8, (I ((IntKind.i64.wrap (s24.1 + 1)), (⟨(s24.2.Buckets ++ ([([] : (List EntryT))] : (List (List EntryT)))), s24.2.Slots, s24.2.Age⟩ : TableT)).1))] 3 [(0, (.row 24 3 [[LV.nils, (I 0), (I 0)]])), (1, (.row 24 3 [[(LV.sl 2 0 (((IntKind.i64.wrap (s24.1 + 1)), (⟨(s24.2.Buckets ++ ([([] : (List EntryT))] : (List (List EntryT)))), s24.2.Slots, s24.2.Age⟩ : TableT)).2.Buckets.map (roC 4 EntryT.cells)).length), (I ((IntKind.i64.wrap (s24.1 + 1)), (⟨(s24.2.Buckets ++ ([([] : (List EntryT))] : (List (List EntryT)))), s24.2.Slots, s24.2.Age⟩ : TableT)).2.Slots), (I ((IntKind.i64.wrap (s24.1 + 1)), (⟨(s24.2.Buckets ++ ([([] : (List EntryT))] : (List (List EntryT)))), s24.2.Slots, s24.2.Age⟩ : TableT)).2.Age)]])), (2, (.row 186 1 (((IntKind.i64.wrap (s24.1 + 1)), (⟨(s24.2.Buckets ++ ([([] : (List EntryT))] : (List (List EntryT)))), s24.2.Slots, s24.2.Age⟩ : TableT)).2.Buckets.map (roC 4 EntryT.cells))))] rfl ⟨rfl, rfl, rfl, (by first | (simp only [se_map, se_byL, se_len, se_ch, List.length_map]; done) | (simp only [se_map, se_byL, se_len, se_ch, List.length_map, TableT.cells]; done) : ((I (IntKind.i64.wrap (s24.1 + 1))) : LV) = (I ((IntKind.i64.wrap (s24.1 + 1)), (⟨(s24.2.Buckets ++ ([([] : (List EntryT))] : (List (List EntryT)))), s24.2.Slots, s24.2.Age⟩ : TableT)).1)), trivial⟩ ⟨⟨rfl, rfl, .inl ⟨rfl, nlT⟩⟩, rfl, rfl, ⟨⟨rfl, rfl, .inr (by first | exact rfl | (show ([[(LV.sl 2 0 (((s24.2.Buckets.map (roC 4 EntryT.cells)) ++ [[(LV.ro 4 [])]])).length), (I s24.2.Slots), (I s24.2.Age)]] : List (List LV)) = [[(LV.sl 2 0 (((IntKind.i64.wrap (s24.1 + 1)), (⟨(s24.2.Buckets ++ ([([] : (List EntryT))] : (List (List EntryT)))), s24.2.Slots, s24.2.Age⟩ : TableT)).2.Buckets.map (roC 4 EntryT.cells)).length), (I ((IntKind.i64.wrap (s24.1 + 1)), (⟨(s24.2.Buckets ++ ([([] : (List EntryT))] : (List (List EntryT)))), s24.2.Slots, s24.2.Age⟩ : TableT)).2.Slots), (I ((IntKind.i64.wrap (s24.1 + 1)), (⟨(s24.2.Buckets ++ ([([] : (List EntryT))] : (List (List EntryT)))), s24.2.Slots, s24.2.Age⟩ : TableT)).2.Age)]]; simp only [se_map, se_byL, se_len, se_ch, List.length_map]))⟩, rfl, rfl, ⟨⟨rfl, rfl, .inl ⟨(by first | (simp only [se_map, se_byL, se_len, se_ch, List.length_map]; done) | (simp only [se_map, se_byL, se_len, se_ch, List.length_map, TableT.cells]; done) | (simp only [se_map, se_byL, se_len, se_ch, List.length_map, roC]; done) : (((s24.2.Buckets.map (roC 4 EntryT.cells)) ++ [[(LV.ro 4 [])]]) : List (List LV)) = (((IntKind.i64.wrap (s24.1 + 1)), (⟨(s24.2.Buckets ++ ([([] : (List EntryT))] : (List (List EntryT)))), s24.2.Slots, s24.2.Age⟩ : TableT)).2.Buckets.map (roC 4 EntryT.cells))), nlT⟩⟩, rfl, rfl, trivial⟩⟩⟩ rfl (K24 _ e.symm)
  · replace b24 := condF hc b24
    conv => whnf
    have e := Option.some.inj b24
    replace e := hbrk24 _ e.symm
    rw [e] at r24
    dsimp only [aftM] at r24
    have e := Option.some.inj r24
    subst e
    repeat' first | with_reducible rfl | with_reducible exact True.intro | with_reducible assumption | exact clA _ | (refine And.intro ?_ ?_ <;> conv => whnf) | exact clG _ | (refine gand ?_ h; assumption) | exact clN _ | fail

def ref08_bucket (a0 : TableT) (a1 : Int) : Option (List EntryT) :=
  (ref07_Bucket a1 ((a0.Buckets.length : Nat) : Int)).bind fun y41 =>
  (gix a0.Buckets y41).bind fun v43 =>
  some v43

theorem c_ref08_bucket (a0 : TableT) (a1 : Int) (r : (List EntryT)) (h : ref08_bucket a0 a1 = some r) : CallP Try.prog 148 [(LV.agg [(LV.ro 1 (a0.Buckets.map (roC 4 EntryT.cells))), (I a0.Slots), (I a0.Age)]), (I a1)] (LV.ro 4 (r.map EntryT.cells)) := by
  unfold ref08_bucket at h
  refine .intro nlA (.intro TT_ok Try.func148 rfl rfl [0, 1, 2, 4] rfl ?_)
  conv => whnf
  replace h := bindS h
  obtain ⟨y41, hy41, h⟩ := h
  have c42 : CallP Try.prog 238 [(I a1), (I (((a0.Buckets.map (roC 4 EntryT.cells)).length : Nat) : Int))] (I y41) := by first | exact c_ref07_Bucket a1 ((a0.Buckets.length : Nat) : Int) _ hy41 | (simpa only [se_map, se_byL, se_len, se_ch, List.length_map] using c_ref07_Bucket a1 ((a0.Buckets.length : Nat) : Int) _ hy41)
  replace h := bindS h
  obtain ⟨v43, hv43, h⟩ := h
  have i44 := gixF (f := (roC 4 EntryT.cells)) hv43
  have e := Option.some.inj h
  subst e
  repeat' first | with_reducible rfl | with_reducible exact True.intro | with_reducible assumption | (refine ⟨_, i44, ?_⟩; conv => whnf) | (refine CallP.use c42 ?_; conv => whnf) | (refine ⟨_, _, CallP.at c42, ?_⟩; conv => whnf) | (refine ⟨_, fun _ => c42, ?_⟩; conv => whnf) | (refine W.drawn TT_ok hmix1 rfl ?_; conv => whnf) | exact clA _ | (refine And.intro ?_ ?_ <;> conv => whnf) | exact clG _ | (refine gand ?_ h; assumption) | exact clN _ | fail

def ref08_Old (a0 : TableT) (a1 : EntryT) (a2 : Int) : Option Bool :=
  some (bif (!a1.Static) then (decide (a0.Age < (IntKind.i64.wrap (a2 - a1.Seen)))) else false)

theorem c_ref08_Old (a0 : TableT) (a1 : EntryT) (a2 : Int) (r : Bool) (h : ref08_Old a0 a1 a2 = some r) : CallP Try.prog 149 [(LV.agg [(LV.ro 1 (a0.Buckets.map (roC 4 EntryT.cells))), (I a0.Slots), (I a0.Age)]), (LV.agg [(I a1.Mac), (I a1.Port), (I a1.Seen), (LV.bool a1.Static)]), (I a2)] (LV.bool r) := by
  unfold ref08_Old at h
  refine .intro nlA (.intro TT_ok Try.func149 rfl rfl [0, 1, 2, 3, 4, 6] rfl ?_)
  conv => whnf
  have e := Option.some.inj h
  subst e
  repeat' first | with_reducible rfl | with_reducible exact True.intro | with_reducible assumption | exact clA _ | (refine And.intro ?_ ?_ <;> conv => whnf) | exact clG _ | (refine gand ?_ h; assumption) | exact clN _ | fail

def ref08_Find (a0 : TableT) (a1 : Int) (a2 : Int) : Option Int :=
  (ref08_bucket a0 a1).bind fun y45 =>
  (ref08_Place y45 a1).bind fun y47 =>
  (gd (!(decide (y47 < 0))) (gix y45 y47)).bind fun v49 =>
  (gd (!(decide (y47 < 0))) (ref08_Old a0 v49 a2)).bind fun y51 =>
  (bif (bif (decide (y47 < 0)) then true else y51) then
    some (-1)
  else
    (gix y45 y47).bind fun v53 =>
    some v53.Port)

theorem c_ref08_Find (a0 : TableT) (a1 : Int) (a2 : Int) (r : Int) (h : ref08_Find a0 a1 a2 = some r) : CallP Try.prog 37 [(LV.agg [(LV.ro 1 (a0.Buckets.map (roC 4 EntryT.cells))), (I a0.Slots), (I a0.Age)]), (I a1), (I a2)] (I r) := by
  unfold ref08_Find at h
  refine .intro nlA (.intro TT_ok Try.func37 rfl rfl [0, 1, 2, 3, 6, 7, 8, 25] rfl ?_)
  conv => whnf
  replace h := bindS h
  obtain ⟨y45, hy45, h⟩ := h
  have c46 := c_ref08_bucket a0 a1 _ hy45
  replace h := bindS h
  obtain ⟨y47, hy47, h⟩ := h
  have c48 := c_ref08_Place y45 a1 _ hy47
  replace h := bindS h
  obtain ⟨v49, hv49, h⟩ := h
  have i50 := fun hg => gixF (f := EntryT.cells) (gdS hg hv49)
  replace h := bindS h
  obtain ⟨y51, hy51, h⟩ := h
  have c52 := fun (hg : (!(decide (y47 < 0))) = true) => c_ref08_Old a0 v49 a2 _ (gdS hg hy51)
  repeat' first | with_reducible rfl | with_reducible exact True.intro | with_reducible assumption | refine parkI ?_ | (refine ⟨_, i50, ?_⟩; conv => whnf) | (refine ⟨_, c52, ?_⟩; conv => whnf) | (refine CallP.use c46 ?_; conv => whnf) | (refine ⟨_, _, CallP.at c46, ?_⟩; conv => whnf) | (refine ⟨_, fun _ => c46, ?_⟩; conv => whnf) | (refine CallP.use c48 ?_; conv => whnf) | (refine ⟨_, _, CallP.at c48, ?_⟩; conv => whnf) | (refine ⟨_, fun _ => c48, ?_⟩; conv => whnf) | (refine W.drawn TT_ok hmix1 rfl ?_; conv => whnf) | exact clA _ | (refine And.intro ?_ ?_ <;> conv => whnf) | exact clG _ | (refine gand ?_ h; assumption) | exact clN _ | fail
  refine parkE (fun hc => ?_) (fun hc => ?_)
  · replace h := condT hc h
    conv => whnf
    have e := Option.some.inj h
    subst e
    repeat' first | with_reducible rfl | with_reducible exact True.intro | with_reducible assumption | (refine W.drawn TT_ok hmix1 rfl ?_; conv => whnf) | exact clA _ | (refine And.intro ?_ ?_ <;> conv => whnf) | exact clG _ | (refine gand ?_ h; assumption) | exact clN _ | fail
  · replace h := condF hc h
    conv => whnf
    replace h := bindS h
    obtain ⟨v53, hv53, h⟩ := h
    have i54 := gixF (f := EntryT.cells) hv53
    have e := Option.some.inj h
    subst e
    repeat' first | with_reducible rfl | with_reducible exact True.intro | with_reducible assumption | (refine ⟨_, i54, ?_⟩; conv => whnf) | (refine W.drawn TT_ok hmix1 rfl ?_; conv => whnf) | exact clA _ | (refine And.intro ?_ ?_ <;> conv => whnf) | exact clG _ | (refine gand ?_ h; assumption) | exact clN _ | fail

def ref08_without_b25 (a1 : Int) (k25 : Nat) (x25 : EntryT) (s25 : (List EntryT)) : Option (Step (List EntryT) (List EntryT)) :=
  (bif (!decide (x25.Mac = a1)) then
    grd (fits ((s25 ++ ([x25] : (List EntryT))) : List EntryT).length 32) <|
    some (.nxt (s25 ++ ([x25] : (List EntryT))))
  else
    some (.nxt s25))

def ref08_without (a0 : (List EntryT)) (a1 : Int) : Option (List EntryT) :=
  aft (rangeL (ref08_without_b25 a1) a0 ([] : (List EntryT))) fun s25 =>
  some s25

theorem cf_ref08_without (a0 : (List EntryT)) (a1 : Int) (r : (List EntryT)) (h : ref08_without a0 a1 = some r) : CallF Try.prog 239 [(LV.ro 4 (a0.map EntryT.cells)), (I a1)] 191 4 (r.map EntryT.cells) := by
  unfold ref08_without at h
  refine CallF.of (NLss_map' _) (CallW.intro TT_ok Try.func239 rfl rfl [0, 1, 4, 5, 7, 9, 10, 11, 12, 18] rfl ?_)
  conv => whnf
  repeat' first | with_reducible rfl | with_reducible exact True.intro | with_reducible assumption | refine parkI ?_ | (refine And.intro ?_ ?_ <;> conv => whnf) | fail
  replace h := aftS h
  obtain ⟨O25, hO25, r25⟩ := h
  refine LoopW.norm [(1, (I a1)), (5, (LV.sl 0 0 (([] : (List EntryT)).map EntryT.cells).length)), (9, (LV.ro 4 (a0.map EntryT.cells))), (10, (I (((a0.map EntryT.cells).length : Nat) : Int))), (11, (I ((0 : Nat) : Int)))] 1 [(0, (.row 191 4 (([] : (List EntryT)).map EntryT.cells)))] ⟨rfl, (by exact congrArg (LV.sl 0 0) (clL _ : 0 = (([] : (List EntryT)).map EntryT.cells).length)), rfl, rfl, rfl, trivial⟩ ⟨⟨(congrArg (fun q => some (Blk.row 191 4 q)) (smT : (([] : List (List LV)) : List (List LV)) = (([] : (List EntryT)).map EntryT.cells))), rfl, NLss_bel (NLss_map' _)⟩, trivial⟩ blT rfl ?_
  refine LoopW.forR (fun k25 s25 => [(1, (I a1)), (5, (LV.sl 0 0 (s25.map EntryT.cells).length)), (9, (LV.ro 4 (a0.map EntryT.cells))), (10, (I (((a0.map EntryT.cells).length : Nat) : Int))), (11, (I ((k25 : Nat) : Int)))]) (fun s25 => ⟨1, [(0, (.row 191 4 (s25.map EntryT.cells)))]⟩) hO25 (fun hl25 s25 hs25 => ?_) (fun hl25 k25 x25 s25 o25 hk25 hx25 b25 K25 hret25 hbrk25 => ?_)
  · rw [hs25] at r25
    dsimp only [aftM] at r25
    have hd : decide (((a0.length : Nat) : Int) < (((a0.map EntryT.cells).length : Nat) : Int)) = false := by rw [decide_eq_false_iff_not]; (try simp only [se_len, se_ch, List.length_map]); omega
    refine LoopW.round TT_ok [0, 1, 4, 5, 7, 9, 10, 11, 12, 18] ?_
    conv => whnf
    repeat' first | with_reducible rfl | with_reducible exact True.intro | with_reducible assumption | refine parkI ?_ | (refine And.intro ?_ ?_ <;> conv => whnf) | fail
    refine parkE (fun hc => ?_) (fun hc => ?_)
    · exact (Bool.false_ne_true (hd.symm.trans hc)).elim
    · clear hd
      conv => whnf
      have e := Option.some.inj r25
      subst e
      repeat' first | with_reducible rfl | with_reducible exact True.intro | with_reducible assumption | exact Or.inr ⟨_, rfl, congrArg (fun q => some (Blk.row 191 4 q)) rfl⟩ | exact clA _ | (refine And.intro ?_ ?_ <;> conv => whnf) | exact clG _ | (refine gand ?_ h; assumption) | exact clN _ | fail
  · unfold ref08_without_b25 at b25
    have hd : decide (((k25 : Nat) : Int) < (((a0.map EntryT.cells).length : Nat) : Int)) = true := by rw [decide_eq_true_eq]; (try simp only [se_len, se_ch, List.length_map] at hk25); (try simp only [se_len, se_ch, List.length_map]); omega
    refine LoopW.round TT_ok [0, 1, 4, 5, 7, 9, 10, 11, 12, 18] ?_
    conv => whnf
    repeat' first | with_reducible rfl | with_reducible exact True.intro | with_reducible assumption | refine parkI ?_ | (refine And.intro ?_ ?_ <;> conv => whnf) | fail
    refine parkE (fun hc => ?_) (fun hc => ?_)
    · clear hd
      conv => whnf
      repeat' first | with_reducible rfl | with_reducible exact True.intro | with_reducible assumption | refine parkI ?_ | (refine ⟨_, (kixF (f := EntryT.cells) hx25), ?_⟩; conv => whnf) | (refine And.intro ?_ ?_ <;> conv => whnf) | fail
      refine parkE (fun hc => ?_) (fun hc => ?_)
      · replace b25 := condT hc b25
        conv => whnf
        replace b25 := grdS b25
        obtain ⟨g63, b25⟩ := b25
        replace g63 : fits (((s25.map EntryT.cells) ++ [[(I x25.Mac), (I x25.Port), (I x25.Seen), (LV.bool x25.Static)]])).length 32 := by simpa only [se_len, se_ch, List.length_map] using g63
        repeat' first | with_reducible rfl | with_reducible exact True.intro | with_reducible assumption | refine parkI ?_ | exact g63 | exact clA _ | (refine And.intro ?_ ?_ <;> conv => whnf) | exact clN _ | fail
        have e := Option.some.inj b25
        refine LoopW.ren [(3, 0)] [(1, (I a1)), (5, (LV.sl 0 0 ((s25 ++ ([x25] : (List EntryT))).map EntryT.cells).length)), (9, (LV.ro 4 (a0.map EntryT.cells))), (10, (I (((a0.map EntryT.cells).length : Nat) : Int))), (11, (I ((k25 + 1 : Nat) : Int)))] 1 [(0, (.row 191 4 ((s25 ++ ([x25] : (List EntryT))).map EntryT.cells)))] rfl ⟨rfl, (by exact congrArg (LV.sl 0 0) (clL _ : (((s25.map EntryT.cells) ++ [[(I x25.Mac), (I x25.Port), (I x25.Seen), (LV.bool x25.Static)]])).length = ((s25 ++ ([x25] : (List EntryT))).map EntryT.cells).length)), rfl, rfl, (congrArg (LV.int .i64) (w64_nat _ (by omega))), trivial⟩ ⟨⟨rfl, rfl, .inl ⟨(smT : (((s25.map EntryT.cells) ++ [[(I x25.Mac), (I x25.Port), (I x25.Seen), (LV.bool x25.Static)]]) : List (List LV)) = ((s25 ++ ([x25] : (List EntryT))).map EntryT.cells)), nlT⟩⟩, rfl, rfl, trivial⟩ rfl (K25 _ e.symm)
      · replace b25 := condF hc b25
        conv => whnf
        repeat' first | with_reducible rfl | with_reducible exact True.intro | with_reducible assumption | refine parkI ?_ | (refine And.intro ?_ ?_ <;> conv => whnf) | fail
        have e := Option.some.inj b25
        refine LoopW.norm [(1, (I a1)), (5, (LV.sl 0 0 (s25.map EntryT.cells).length)), (9, (LV.ro 4 (a0.map EntryT.cells))), (10, (I (((a0.map EntryT.cells).length : Nat) : Int))), (11, (I ((k25 + 1 : Nat) : Int)))] 1 [(0, (.row 191 4 (s25.map EntryT.cells)))] ⟨rfl, rfl, rfl, rfl, (congrArg (LV.int .i64) (w64_nat _ (by omega))), trivial⟩ ⟨⟨rfl, rfl, NLss_bel (NLss_map' _)⟩, trivial⟩ blT rfl (K25 _ e.symm)
    · exact (Bool.false_ne_true (hc.symm.trans hd)).elim

theorem c_ref08_without (a0 : (List EntryT)) (a1 : Int) (r : (List EntryT)) (h : ref08_without a0 a1 = some r) : CallP Try.prog 239 [(LV.ro 4 (a0.map EntryT.cells)), (I a1)] (LV.ro 4 (r.map EntryT.cells)) := by
  exact CallF.toP (cf_ref08_without a0 a1 r h) nlA (NLss_map' _)

def ref08_last_b26  (k26 : Nat) (x26 : EntryT) (s26 : Int) : Option (Step Int Int) :=
  (bif (!x26.Static) then
    some (.nxt ((k26 : Nat) : Int))
  else
    some (.nxt s26))

def ref08_last (a0 : (List EntryT)) : Option Int :=
  aft (rangeL (ref08_last_b26 ) a0 (-1)) fun s26 =>
  some s26

theorem c_ref08_last (a0 : (List EntryT)) (r : Int) (h : ref08_last a0 = some r) : CallP Try.prog 240 [(LV.ro 4 (a0.map EntryT.cells))] (I r) := by
  unfold ref08_last at h
  refine .intro nlA (.intro TT_ok Try.func240 rfl rfl [0, 2, 3, 4, 5, 6, 7, 8, 9, 15] rfl ?_)
  conv => whnf
  repeat' first | with_reducible rfl | with_reducible exact True.intro | with_reducible assumption | refine parkI ?_ | (refine And.intro ?_ ?_ <;> conv => whnf) | fail
  replace h := aftS h
  obtain ⟨O26, hO26, r26⟩ := h
  refine LoopW.norm [(3, (I (-1))), (6, (LV.ro 4 (a0.map EntryT.cells))), (7, (I (((a0.map EntryT.cells).length : Nat) : Int))), (8, (I ((0 : Nat) : Int)))] 0 [] ⟨rfl, rfl, rfl, rfl, trivial⟩ trivial blT rfl ?_
  refine LoopW.forR (fun k26 s26 => [(3, (I s26)), (6, (LV.ro 4 (a0.map EntryT.cells))), (7, (I (((a0.map EntryT.cells).length : Nat) : Int))), (8, (I ((k26 : Nat) : Int)))]) (fun s26 => ⟨0, []⟩) hO26 (fun hl26 s26 hs26 => ?_) (fun hl26 k26 x26 s26 o26 hk26 hx26 b26 K26 hret26 hbrk26 => ?_)
  · rw [hs26] at r26
    dsimp only [aftM] at r26
    have hd : decide (((a0.length : Nat) : Int) < (((a0.map EntryT.cells).length : Nat) : Int)) = false := by rw [decide_eq_false_iff_not]; (try simp only [se_len, se_ch, List.length_map]); omega
    refine LoopW.round TT_ok [0, 2, 3, 4, 5, 6, 7, 8, 9, 15] ?_
    conv => whnf
    repeat' first | with_reducible rfl | with_reducible exact True.intro | with_reducible assumption | refine parkI ?_ | (refine And.intro ?_ ?_ <;> conv => whnf) | fail
    refine parkE (fun hc => ?_) (fun hc => ?_)
    · exact (Bool.false_ne_true (hd.symm.trans hc)).elim
    · clear hd
      conv => whnf
      have e := Option.some.inj r26
      subst e
      repeat' first | with_reducible rfl | with_reducible exact True.intro | with_reducible assumption | exact clA _ | (refine And.intro ?_ ?_ <;> conv => whnf) | exact clG _ | (refine gand ?_ h; assumption) | exact clN _ | fail
  · unfold ref08_last_b26 at b26
    have hd : decide (((k26 : Nat) : Int) < (((a0.map EntryT.cells).length : Nat) : Int)) = true := by rw [decide_eq_true_eq]; (try simp only [se_len, se_ch, List.length_map] at hk26); (try simp only [se_len, se_ch, List.length_map]); omega
    refine LoopW.round TT_ok [0, 2, 3, 4, 5, 6, 7, 8, 9, 15] ?_
    conv => whnf
    repeat' first | with_reducible rfl | with_reducible exact True.intro | with_reducible assumption | refine parkI ?_ | (refine And.intro ?_ ?_ <;> conv => whnf) | fail
    refine parkE (fun hc => ?_) (fun hc => ?_)
    · clear hd
      conv => whnf
      repeat' first | with_reducible rfl | with_reducible exact True.intro | with_reducible assumption | refine parkI ?_ | (refine ⟨_, (kixF (f := EntryT.cells) hx26), ?_⟩; conv => whnf) | (refine And.intro ?_ ?_ <;> conv => whnf) | fail
      refine parkE (fun hc => ?_) (fun hc => ?_)
      · replace b26 := condT hc b26
        conv => whnf
        repeat' first | with_reducible rfl | with_reducible exact True.intro | with_reducible assumption | refine parkI ?_ | (refine And.intro ?_ ?_ <;> conv => whnf) | fail
        have e := Option.some.inj b26
        refine LoopW.norm [(3, (I ((k26 : Nat) : Int))), (6, (LV.ro 4 (a0.map EntryT.cells))), (7, (I (((a0.map EntryT.cells).length : Nat) : Int))), (8, (I ((k26 + 1 : Nat) : Int)))] 0 [] ⟨rfl, rfl, rfl, (congrArg (LV.int .i64) (w64_nat _ (by omega))), trivial⟩ trivial blT rfl (K26 _ e.symm)
      · replace b26 := condF hc b26
        conv => whnf
        repeat' first | with_reducible rfl | with_reducible exact True.intro | with_reducible assumption | refine parkI ?_ | (refine And.intro ?_ ?_ <;> conv => whnf) | fail
        have e := Option.some.inj b26
        refine LoopW.norm [(3, (I s26)), (6, (LV.ro 4 (a0.map EntryT.cells))), (7, (I (((a0.map EntryT.cells).length : Nat) : Int))), (8, (I ((k26 + 1 : Nat) : Int)))] 0 [] ⟨rfl, rfl, rfl, (congrArg (LV.int .i64) (w64_nat _ (by omega))), trivial⟩ trivial blT rfl (K26 _ e.symm)
    · exact (Bool.false_ne_true (hc.symm.trans hd)).elim

def ref08_with_b27 (a0 : TableT) (a1 : Int) (a2 : (List EntryT)) (k27 : Nat) (x27 : (List EntryT)) (s27 : (List (List EntryT))) : Option (Step TableT (List (List EntryT))) :=
  (ref07_Bucket a1 ((a0.Buckets.length : Nat) : Int)).bind fun y73 =>
  (bif (decide (((k27 : Nat) : Int) = y73)) then
    grd (fits ((s27 ++ ([a2] : (List (List EntryT)))) : List (List EntryT)).length 24) <|
    some (.nxt (s27 ++ ([a2] : (List (List EntryT)))))
  else
    grd (fits ((s27 ++ ([x27] : (List (List EntryT)))) : List (List EntryT)).length 24) <|
    some (.nxt (s27 ++ ([x27] : (List (List EntryT))))))

def ref08_with (a0 : TableT) (a1 : Int) (a2 : (List EntryT)) : Option TableT :=
  aft (rangeL (ref08_with_b27 a0 a1 a2) a0.Buckets ([] : (List (List EntryT)))) fun s27 =>
  some (⟨s27, a0.Slots, a0.Age⟩ : TableT)

theorem c_ref08_with (a0 : TableT) (a1 : Int) (a2 : (List EntryT)) (r : TableT) (h : ref08_with a0 a1 a2 = some r) : CallP Try.prog 241 [(LV.agg [(LV.ro 1 (a0.Buckets.map (roC 4 EntryT.cells))), (I a0.Slots), (I a0.Age)]), (I a1), (LV.ro 4 (a2.map EntryT.cells))] (LV.agg [(LV.ro 1 (r.Buckets.map (roC 4 EntryT.cells))), (I r.Slots), (I r.Age)]) := by
  unfold ref08_with at h
  refine .intro nlA (.intro TT_ok Try.func241 rfl rfl [0, 1, 2, 3, 6, 7, 8, 9, 12, 13, 14, 15, 25] rfl ?_)
  conv => whnf
  repeat' first | with_reducible rfl | with_reducible exact True.intro | with_reducible assumption | refine parkI ?_ | (refine And.intro ?_ ?_ <;> conv => whnf) | fail
  replace h := aftS h
  obtain ⟨O27, hO27, r27⟩ := h
  refine LoopW.norm [(1, (I a1)), (2, (LV.ro 4 (a2.map EntryT.cells))), (3, (LV.ptr 0 0 0)), (6, (LV.ptr 1 0 0)), (7, (LV.sl 2 0 (([] : (List (List EntryT))).map (roC 4 EntryT.cells)).length)), (12, (LV.ro 1 (a0.Buckets.map (roC 4 EntryT.cells)))), (13, (I (((a0.Buckets.map (roC 4 EntryT.cells)).length : Nat) : Int))), (14, (I ((0 : Nat) : Int)))] 3 [(0, (.row 24 3 [[(LV.ro 1 (a0.Buckets.map (roC 4 EntryT.cells))), (I a0.Slots), (I a0.Age)]])), (1, (.row 24 3 [[LV.nils, (I 0), (I 0)]])), (2, (.row 186 1 (([] : (List (List EntryT))).map (roC 4 EntryT.cells))))] ⟨rfl, rfl, rfl, rfl, (by exact congrArg (LV.sl 2 0) (clL _ : 0 = (([] : (List (List EntryT))).map (roC 4 EntryT.cells)).length)), rfl, rfl, rfl, trivial⟩ ⟨⟨rfl, rfl, blT⟩, ⟨⟨rfl, rfl, blT⟩, ⟨⟨(congrArg (fun q => some (Blk.row 186 1 q)) (by first | (simp only [se_map, se_byL, se_len, se_ch, List.length_map]; done) | (simp only [se_map, se_byL, se_len, se_ch, List.length_map, roC]; done) : (([] : List (List LV)) : List (List LV)) = (([] : (List (List EntryT))).map (roC 4 EntryT.cells)))), rfl, NLss_bel (NLss_map' _)⟩, trivial⟩⟩⟩ blT rfl ?_
  refine LoopW.forR (fun k27 s27 => [(1, (I a1)), (2, (LV.ro 4 (a2.map EntryT.cells))), (3, (LV.ptr 0 0 0)), (6, (LV.ptr 1 0 0)), (7, (LV.sl 2 0 (s27.map (roC 4 EntryT.cells)).length)), (12, (LV.ro 1 (a0.Buckets.map (roC 4 EntryT.cells)))), (13, (I (((a0.Buckets.map (roC 4 EntryT.cells)).length : Nat) : Int))), (14, (I ((k27 : Nat) : Int)))]) (fun s27 => ⟨3, [(0, (.row 24 3 [[(LV.ro 1 (a0.Buckets.map (roC 4 EntryT.cells))), (I a0.Slots), (I a0.Age)]])), (1, (.row 24 3 [[LV.nils, (I 0), (I 0)]])), (2, (.row 186 1 (s27.map (roC 4 EntryT.cells))))]⟩) hO27 (fun hl27 s27 hs27 => ?_) (fun hl27 k27 x27 s27 o27 hk27 hx27 b27 K27 hret27 hbrk27 => ?_)
  · rw [hs27] at r27
    dsimp only [aftM] at r27
    have hd : decide (((a0.Buckets.length : Nat) : Int) < (((a0.Buckets.map (roC 4 EntryT.cells)).length : Nat) : Int)) = false := by rw [decide_eq_false_iff_not]; (try simp only [se_len, se_ch, List.length_map]); omega
    refine LoopW.round TT_ok [0, 1, 2, 3, 6, 7, 8, 9, 12, 13, 14, 15, 25] ?_
    conv => whnf
    repeat' first | with_reducible rfl | with_reducible exact True.intro | with_reducible assumption | refine parkI ?_ | (refine And.intro ?_ ?_ <;> conv => whnf) | fail
    refine parkE (fun hc => ?_) (fun hc => ?_)
    · exact (Bool.false_ne_true (hd.symm.trans hc)).elim
    · clear hd
      conv => whnf
      have e := Option.some.inj r27
      subst e
      repeat' first | with_reducible rfl | with_reducible exact True.intro | with_reducible assumption | exact clA _ | (refine And.intro ?_ ?_ <;> conv => whnf) | exact clG _ | (refine gand ?_ h; assumption) | exact clN _ | fail
  · unfold ref08_with_b27 at b27
    have hd : decide (((k27 : Nat) : Int) < (((a0.Buckets.map (roC 4 EntryT.cells)).length : Nat) : Int)) = true := by rw [decide_eq_true_eq]; (try simp only [se_len, se_ch, List.length_map] at hk27); (try simp only [se_len, se_ch, List.length_map]); omega
    refine LoopW.round TT_ok [0, 1, 2, 3, 6, 7, 8, 9, 12, 13, 14, 15, 25] ?_
    conv => whnf
    repeat' first | with_reducible rfl | with_reducible exact True.intro | with_reducible assumption | refine parkI ?_ | (refine And.intro ?_ ?_ <;> conv => whnf) | fail
    refine parkE (fun hc => ?_) (fun hc => ?_)
    · clear hd
      conv => whnf
      replace b27 := bindS b27
      obtain ⟨y73, hy73, b27⟩ := b27
      have c74 : CallP Try.prog 238 [(I a1), (I (((a0.Buckets.map (roC 4 EntryT.cells)).length : Nat) : Int))] (I y73) := by first | exact c_ref07_Bucket a1 ((a0.Buckets.length : Nat) : Int) _ hy73 | (simpa only [se_map, se_byL, se_len, se_ch, List.length_map] using c_ref07_Bucket a1 ((a0.Buckets.length : Nat) : Int) _ hy73)
      repeat' first | with_reducible rfl | with_reducible exact True.intro | with_reducible assumption | refine parkI ?_ | (refine ⟨_, (kixF (f := (roC 4 EntryT.cells)) hx27), ?_⟩; conv => whnf) | (refine CallP.use c74 ?_; conv => whnf) | (refine And.intro ?_ ?_ <;> conv => whnf) | fail
      refine parkE (fun hc => ?_) (fun hc => ?_)
      · replace b27 := condT hc b27
        conv => whnf
        replace b27 := grdS b27
        obtain ⟨g75, b27⟩ := b27
        replace g75 : fits (((s27.map (roC 4 EntryT.cells)) ++ [[(LV.ro 4 (a2.map EntryT.cells))]])).length 24 := by simpa only [se_len, se_ch, List.length_map] using g75
        repeat' first | with_reducible rfl | with_reducible exact True.intro | with_reducible assumption | refine parkI ?_ | exact g75 | exact clA _ | (refine And.intro ?_ ?_ <;> conv => whnf) | exact clN _ | fail
        have e := Option.some.inj b27
        refine LoopW.ren [(0, 0), (1, 1), (4, 2)] [(1, (I a1)), (2, (LV.ro 4 (a2.map EntryT.cells))), (3, (LV.ptr 0 0 0)), (6, (LV.ptr 1 0 0)), (7, (LV.sl 2 0 ((s27 ++ ([a2] : (List (List EntryT)))).map (roC 4 EntryT.cells)).length)), (12, (LV.ro 1 (a0.Buckets.map (roC 4 EntryT.cells)))), (13, (I (((a0.Buckets.map (roC 4 EntryT.cells)).length : Nat) : Int))), (14, (I ((k27 + 1 : Nat) : Int)))] 3 [(0, (.row 24 3 [[(LV.ro 1 (a0.Buckets.map (roC 4 EntryT.cells))), (I a0.Slots), (I a0.Age)]])), (1, (.row 24 3 [[LV.nils, (I 0), (I 0)]])), (2, (.row 186 1 ((s27 ++ ([a2] : (List (List EntryT)))).map (roC 4 EntryT.cells))))] rfl ⟨rfl, rfl, rfl, rfl, (by exact congrArg (LV.sl 2 0) (clL _ : (((s27.map (roC 4 EntryT.cells)) ++ [[(LV.ro 4 (a2.map EntryT.cells))]])).length = ((s27 ++ ([a2] : (List (List EntryT)))).map (roC 4 EntryT.cells)).length)), rfl, rfl, (congrArg (LV.int .i64) (w64_nat _ (by omega))), trivial⟩ ⟨⟨rfl, rfl, .inl ⟨rfl, nlT⟩⟩, rfl, rfl, ⟨⟨rfl, rfl, .inl ⟨rfl, nlT⟩⟩, rfl, rfl, ⟨⟨rfl, rfl, .inl ⟨(by first | (simp only [se_map, se_byL, se_len, se_ch, List.length_map]; done) | (simp only [se_map, se_byL, se_len, se_ch, List.length_map, roC]; done) : (((s27.map (roC 4 EntryT.cells)) ++ [[(LV.ro 4 (a2.map EntryT.cells))]]) : List (List LV)) = ((s27 ++ ([a2] : (List (List EntryT)))).map (roC 4 EntryT.cells))), nlT⟩⟩, rfl, rfl, trivial⟩⟩⟩ rfl (K27 _ e.symm)
      · replace b27 := condF hc b27
        conv => whnf
        replace b27 := grdS b27
        obtain ⟨g76, b27⟩ := b27
        replace g76 : fits (((s27.map (roC 4 EntryT.cells)) ++ [[(LV.ro 4 (x27.map EntryT.cells))]])).length 24 := by simpa only [se_len, se_ch, List.length_map] using g76
        repeat' first | with_reducible rfl | with_reducible exact True.intro | with_reducible assumption | refine parkI ?_ | exact g76 | exact clA _ | (refine And.intro ?_ ?_ <;> conv => whnf) | exact clN _ | fail
        have e := Option.some.inj b27
        refine LoopW.ren [(0, 0), (1, 1), (4, 2)] [(1, (I a1)), (2, (LV.ro 4 (a2.map EntryT.cells))), (3, (LV.ptr 0 0 0)), (6, (LV.ptr 1 0 0)), (7, (LV.sl 2 0 ((s27 ++ ([x27] : (List (List EntryT)))).map (roC 4 EntryT.cells)).length)), (12, (LV.ro 1 (a0.Buckets.map (roC 4 EntryT.cells)))), (13, (I (((a0.Buckets.map (roC 4 EntryT.cells)).length : Nat) : Int))), (14, (I ((k27 + 1 : Nat) : Int)))] 3 [(0, (.row 24 3 [[(LV.ro 1 (a0.Buckets.map (roC 4 EntryT.cells))), (I a0.Slots), (I a0.Age)]])), (1, (.row 24 3 [[LV.nils, (I 0), (I 0)]])), (2, (.row 186 1 ((s27 ++ ([x27] : (List (List EntryT)))).map (roC 4 EntryT.cells))))] rfl ⟨rfl, rfl, rfl, rfl, (by exact congrArg (LV.sl 2 0) (clL _ : (((s27.map (roC 4 EntryT.cells)) ++ [[(LV.ro 4 (x27.map EntryT.cells))]])).length = ((s27 ++ ([x27] : (List (List EntryT)))).map (roC 4 EntryT.cells)).length)), rfl, rfl, (congrArg (LV.int .i64) (w64_nat _ (by omega))), trivial⟩ ⟨⟨rfl, rfl, .inl ⟨rfl, nlT⟩⟩, rfl, rfl, ⟨⟨rfl, rfl, .inl ⟨rfl, nlT⟩⟩, rfl, rfl, ⟨⟨rfl, rfl, .inl ⟨(by first | (simp only [se_map, se_byL, se_len, se_ch, List.length_map]; done) | (simp only [se_map, se_byL, se_len, se_ch, List.length_map, roC]; done) : (((s27.map (roC 4 EntryT.cells)) ++ [[(LV.ro 4 (x27.map EntryT.cells))]]) : List (List LV)) = ((s27 ++ ([x27] : (List (List EntryT)))).map (roC 4 EntryT.cells))), nlT⟩⟩, rfl, rfl, trivial⟩⟩⟩ rfl (K27 _ e.symm)
    · exact (Bool.false_ne_true (hc.symm.trans hd)).elim

def ref08_put (a0 : TableT) (a1 : EntryT) : Option (TableT × Bool) :=
  (ref08_bucket a0 a1.Mac).bind fun y61 =>
  (ref08_without y61 a1.Mac).bind fun y64 =>
  (bif (decide (((y64.length : Nat) : Int) = a0.Slots)) then
    (ref08_last y64).bind fun y66 =>
    (bif (decide (y66 < 0)) then
      some (a0, false)
    else
      (gix y64 y66).bind fun v68 =>
      (ref08_without y64 v68.Mac).bind fun y70 =>
      grd (fits ((([a1] : (List EntryT)) ++ y70) : List EntryT).length 32) <|
      (ref08_with a0 a1.Mac (([a1] : (List EntryT)) ++ y70)).bind fun y77 =>
      some (y77, true))
  else
    grd (fits ((([a1] : (List EntryT)) ++ y64) : List EntryT).length 32) <|
    (ref08_with a0 a1.Mac (([a1] : (List EntryT)) ++ y64)).bind fun y80 =>
    some (y80, true))

theorem c_ref08_put (a0 : TableT) (a1 : EntryT) (r : (TableT × Bool)) (h : ref08_put a0 a1 = some r) : CallP Try.prog 150 [(LV.agg [(LV.ro 1 (a0.Buckets.map (roC 4 EntryT.cells))), (I a0.Slots), (I a0.Age)]), (LV.agg [(I a1.Mac), (I a1.Port), (I a1.Seen), (LV.bool a1.Static)])] (LV.tup [(LV.agg [(LV.ro 1 (r.1.Buckets.map (roC 4 EntryT.cells))), (I r.1.Slots), (I r.1.Age)]), (LV.bool r.2)]) := by
  unfold ref08_put at h
  refine .intro nlA (.intro TT_ok Try.func150 rfl rfl [0, 1, 2, 3, 4, 5, 6, 7, 8, 20, 24] rfl ?_)
  conv => whnf
  replace h := bindS h
  obtain ⟨y61, hy61, h⟩ := h
  have c62 := c_ref08_bucket a0 a1.Mac _ hy61
  replace h := bindS h
  obtain ⟨y64, hy64, h⟩ := h
  have c65 := c_ref08_without y61 a1.Mac _ hy64
  repeat' first | with_reducible rfl | with_reducible exact True.intro | with_reducible assumption | refine parkI ?_ | (refine CallP.use c62 ?_; conv => whnf) | (refine ⟨_, _, CallP.at c62, ?_⟩; conv => whnf) | (refine ⟨_, fun _ => c62, ?_⟩; conv => whnf) | (refine CallP.use c65 ?_; conv => whnf) | (refine ⟨_, _, CallP.at c65, ?_⟩; conv => whnf) | (refine ⟨_, fun _ => c65, ?_⟩; conv => whnf) | (refine W.drawn TT_ok hmix1 rfl ?_; conv => whnf) | (refine W.drawnM (id := 8) 1 TT_ok hmix1 [0, 0, 0, 0, 0, 0, 1, 2, 3] [1, 1, 1, 0, 0, 1, 2, 3, 3] rfl ?_; conv => whnf) | exact clA _ | (refine And.intro ?_ ?_ <;> conv => whnf) | exact clG _ | (refine gand ?_ h; assumption) | exact clN _ | fail
  refine parkE (fun hc => ?_) (fun hc => ?_)
  · replace h := condT (by first | exact hc | simpa only [se_len, se_ch, List.length_map] using hc) h
    conv => whnf
    replace h := bindS h
    obtain ⟨y66, hy66, h⟩ := h
    have c67 := c_ref08_last y64 _ hy66
    repeat' first | with_reducible rfl | with_reducible exact True.intro | with_reducible assumption | refine parkI ?_ | (refine CallP.use c67 ?_; conv => whnf) | (refine ⟨_, _, CallP.at c67, ?_⟩; conv => whnf) | (refine ⟨_, fun _ => c67, ?_⟩; conv => whnf) | (refine W.drawn TT_ok hmix1 rfl ?_; conv => whnf) | (refine W.drawnM (id := 8) 1 TT_ok hmix1 [0, 0, 0, 0, 0, 0, 1, 2, 3] [1, 1, 1, 0, 0, 1, 2, 3, 3] rfl ?_; conv => whnf) | exact clA _ | (refine And.intro ?_ ?_ <;> conv => whnf) | exact clG _ | (refine gand ?_ h; assumption) | exact clN _ | fail
    refine parkE (fun hc => ?_) (fun hc => ?_)
    · replace h := condT hc h
      conv => whnf
      have e := Option.some.inj h
      subst e
      repeat' first | with_reducible rfl | with_reducible exact True.intro | with_reducible assumption | (refine W.drawn TT_ok hmix1 rfl ?_; conv => whnf) | (refine W.drawnM (id := 8) 1 TT_ok hmix1 [0, 0, 0, 0, 0, 0, 1, 2, 3] [1, 1, 1, 0, 0, 1, 2, 3, 3] rfl ?_; conv => whnf) | exact clA _ | (refine And.intro ?_ ?_ <;> conv => whnf) | exact clG _ | (refine gand ?_ h; assumption) | exact clN _ | fail
    · replace h := condF hc h
      conv => whnf
      replace h := bindS h
      obtain ⟨v68, hv68, h⟩ := h
      have i69 := gixF (f := EntryT.cells) hv68
      replace h := bindS h
      obtain ⟨y70, hy70, h⟩ := h
      have c71 := cf_ref08_without y64 v68.Mac _ hy70
      replace h := grdS h
      obtain ⟨g72, h⟩ := h
      replace g72 : fits (([[(I a1.Mac), (I a1.Port), (I a1.Seen), (LV.bool a1.Static)]] ++ (y70.map EntryT.cells))).length 32 := by simpa only [se_len, se_ch, List.length_map] using g72
      replace h := bindS h
      obtain ⟨y77, hy77, h⟩ := h
      have c78 : CallP Try.prog 241 [(LV.agg [(LV.ro 1 (a0.Buckets.map (roC 4 EntryT.cells))), (I a0.Slots), (I a0.Age)]), (I a1.Mac), (LV.ro 4 ([[(I a1.Mac), (I a1.Port), (I a1.Seen), (LV.bool a1.Static)]] ++ (y70.map EntryT.cells)))] (LV.agg [(LV.ro 1 (y77.Buckets.map (roC 4 EntryT.cells))), (I y77.Slots), (I y77.Age)]) := by first | exact c_ref08_with a0 a1.Mac (([a1] : (List EntryT)) ++ y70) _ hy77 | (simpa only [se_map, se_byL, se_len, se_ch, List.length_map] using c_ref08_with a0 a1.Mac (([a1] : (List EntryT)) ++ y70) _ hy77)
      have e := Option.some.inj h
      subst e
      repeat' first | with_reducible rfl | with_reducible exact True.intro | with_reducible assumption | (refine ⟨_, i69, ?_⟩; conv => whnf) | exact g72 | (refine CallP.use c78 ?_; conv => whnf) | (refine ⟨_, _, CallP.at c78, ?_⟩; conv => whnf) | (refine ⟨_, fun _ => c78, ?_⟩; conv => whnf) | (refine CallW.done (CallF.at c71 nlA (NLss_map' _)) ?_; conv => whnf) | (refine ⟨_, _, CallF.at c71 nlA (NLss_map' _), ?_⟩; conv => whnf) | (refine W.frzAt (id := 8) 5 rfl ?_; conv => whnf) | (refine W.drawn TT_ok hmix1 rfl ?_; conv => whnf) | (refine W.drawnM (id := 8) 1 TT_ok hmix1 [0, 0, 0, 0, 0, 0, 1, 2, 3] [1, 1, 1, 0, 0, 1, 2, 3, 3] rfl ?_; conv => whnf) | exact clA _ | (refine And.intro ?_ ?_ <;> conv => whnf) | exact clG _ | (refine gand ?_ h; assumption) | exact clN _ | fail
  · replace h := condF (by first | exact hc | simpa only [se_len, se_ch, List.length_map] using hc) h
    conv => whnf
    replace h := grdS h
    obtain ⟨g79, h⟩ := h
    replace g79 : fits (([[(I a1.Mac), (I a1.Port), (I a1.Seen), (LV.bool a1.Static)]] ++ (y64.map EntryT.cells))).length 32 := by simpa only [se_len, se_ch, List.length_map] using g79
    replace h := bindS h
    obtain ⟨y80, hy80, h⟩ := h
    have c81 : CallP Try.prog 241 [(LV.agg [(LV.ro 1 (a0.Buckets.map (roC 4 EntryT.cells))), (I a0.Slots), (I a0.Age)]), (I a1.Mac), (LV.ro 4 ([[(I a1.Mac), (I a1.Port), (I a1.Seen), (LV.bool a1.Static)]] ++ (y64.map EntryT.cells)))] (LV.agg [(LV.ro 1 (y80.Buckets.map (roC 4 EntryT.cells))), (I y80.Slots), (I y80.Age)]) := by first | exact c_ref08_with a0 a1.Mac (([a1] : (List EntryT)) ++ y64) _ hy80 | (simpa only [se_map, se_byL, se_len, se_ch, List.length_map] using c_ref08_with a0 a1.Mac (([a1] : (List EntryT)) ++ y64) _ hy80)
    have e := Option.some.inj h
    subst e
    repeat' first | with_reducible rfl | with_reducible exact True.intro | with_reducible assumption | exact g79 | (refine CallP.use c81 ?_; conv => whnf) | (refine ⟨_, _, CallP.at c81, ?_⟩; conv => whnf) | (refine ⟨_, fun _ => c81, ?_⟩; conv => whnf) | (refine W.frzAt (id := 8) 4 rfl ?_; conv => whnf) | (refine W.drawn TT_ok hmix1 rfl ?_; conv => whnf) | (refine W.drawnM (id := 8) 1 TT_ok hmix1 [0, 0, 0, 0, 0, 0, 1, 2, 3] [1, 1, 1, 0, 0, 1, 2, 3, 3] rfl ?_; conv => whnf) | exact clA _ | (refine And.intro ?_ ?_ <;> conv => whnf) | exact clG _ | (refine gand ?_ h; assumption) | exact clN _ | fail

def ref08_Learn (a0 : TableT) (a1 : Int) (a2 : Int) (a3 : Int) : Option TableT :=
  (ref08_bucket a0 a1).bind fun y55 =>
  (ref08_Place y55 a1).bind fun y57 =>
  (gd (decide (0 ≤ y57)) (gix y55 y57)).bind fun v59 =>
  (bif (bif (decide (0 ≤ y57)) then v59.Static else false) then
    some a0
  else
    (ref08_put a0 (⟨a1, a2, a3, false⟩ : EntryT)).bind fun y82 =>
    some y82.1)

theorem c_ref08_Learn (a0 : TableT) (a1 : Int) (a2 : Int) (a3 : Int) (r : TableT) (h : ref08_Learn a0 a1 a2 a3 = some r) : CallP Try.prog 39 [(LV.agg [(LV.ro 1 (a0.Buckets.map (roC 4 EntryT.cells))), (I a0.Slots), (I a0.Age)]), (I a1), (I a2), (I a3)] (LV.agg [(LV.ro 1 (r.Buckets.map (roC 4 EntryT.cells))), (I r.Slots), (I r.Age)]) := by
  unfold ref08_Learn at h
  refine .intro nlA (.intro TT_ok Try.func39 rfl rfl [0, 1, 2, 3, 4, 8, 9, 10, 11, 27] rfl ?_)
  conv => whnf
  replace h := bindS h
  obtain ⟨y55, hy55, h⟩ := h
  have c56 := c_ref08_bucket a0 a1 _ hy55
  replace h := bindS h
  obtain ⟨y57, hy57, h⟩ := h
  have c58 := c_ref08_Place y55 a1 _ hy57
  replace h := bindS h
  obtain ⟨v59, hv59, h⟩ := h
  have i60 := fun hg => gixF (f := EntryT.cells) (gdS hg hv59)
  repeat' first | with_reducible rfl | with_reducible exact True.intro | with_reducible assumption | refine parkI ?_ | (refine ⟨_, i60, ?_⟩; conv => whnf) | (refine CallP.use c56 ?_; conv => whnf) | (refine CallP.use c58 ?_; conv => whnf) | exact clA _ | (refine And.intro ?_ ?_ <;> conv => whnf) | exact clG _ | (refine gand ?_ h; assumption) | fail
  refine parkE (fun hc => ?_) (fun hc => ?_)
  · replace h := condT hc h
    conv => whnf
    have e := Option.some.inj h
    subst e
    repeat' first | with_reducible rfl | with_reducible exact True.intro | with_reducible assumption | exact clA _ | (refine And.intro ?_ ?_ <;> conv => whnf) | exact clG _ | (refine gand ?_ h; assumption) | exact clN _ | fail
  · replace h := condF hc h
    conv => whnf
    replace h := bindS h
    obtain ⟨y82, hy82, h⟩ := h
    have c83 : CallP Try.prog 150 [(LV.agg [(LV.ro 1 (a0.Buckets.map (roC 4 EntryT.cells))), (I a0.Slots), (I a0.Age)]), (LV.agg [(I a1), (I a2), (I a3), (LV.bool false)])] (LV.tup [(LV.agg [(LV.ro 1 (y82.1.Buckets.map (roC 4 EntryT.cells))), (I y82.1.Slots), (I y82.1.Age)]), (LV.bool y82.2)]) := by first | exact c_ref08_put a0 (⟨a1, a2, a3, false⟩ : EntryT) _ hy82 | (simpa only [se_map, se_byL, se_len, se_ch, List.length_map] using c_ref08_put a0 (⟨a1, a2, a3, false⟩ : EntryT) _ hy82) | (simpa only [se_map, se_byL, se_len, se_ch, List.length_map, EntryT.cells] using c_ref08_put a0 (⟨a1, a2, a3, false⟩ : EntryT) _ hy82)
    have e := Option.some.inj h
    subst e
    repeat' first | with_reducible rfl | with_reducible exact True.intro | with_reducible assumption | (refine CallP.use c83 ?_; conv => whnf) | exact clA _ | (refine And.intro ?_ ?_ <;> conv => whnf) | exact clG _ | (refine gand ?_ h; assumption) | exact clN _ | fail

def law08_alive_b28  (k28 : Nat) (s28 : TableT) : Option (Step Bool TableT) :=
  grd ((0 : Int) ≤ ((k28 : Nat) : Int) ∧ ((k28 : Nat) : Int) < ((([2, 4, 2, 6] : (List Int)).length : Nat) : Int)) <|
  (gixN ([2, 4, 2, 6] : (List Int)) (((k28 : Nat) : Int) : Int).toNat).bind fun v87 =>
  (fdb_Learn s28 v87 1 0).bind fun y89 =>
  (bif (!decide (y89.2 = 0)) then
    some (.ret false)
  else
    some (.nxt y89.1))

def law08_alive  : Option Bool :=
  (fdb_New 1 2 9).bind fun y84 =>
  aft (rangeN (law08_alive_b28 ) ((([2, 4, 2, 6] : (List Int)).length : Nat) : Int) y84.1) fun s28 =>
  (fdb_Find s28 2 5).bind fun y91 =>
  (fdb_Find s28 4 5).bind fun y93 =>
  some (bif (bif (bif (bif (decide (y84.2 = 0)) then (decide (y91.2 = 0)) else false) then (decide (y93.2 = 0)) else false) then (decide (y91.1 = 1)) else false) then (decide (y93.1 = (-1))) else false)

theorem c_law08_alive  (r : Bool) (h : law08_alive  = some r) : CallP Try.prog 31 [] (LV.bool r) := by
  unfold law08_alive at h
  refine .intro nlA (.intro TT_ok Try.func31 rfl rfl [0, 1, 2, 4, 5, 6, 7, 8, 9, 10, 15, 16, 17, 18, 28] rfl ?_)
  conv => whnf
  replace h := bindS h
  obtain ⟨y84, hy84, h⟩ := h
  have c85 := c_fdb_New 1 2 9 _ hy84
  repeat' first | with_reducible rfl | with_reducible exact True.intro | with_reducible assumption | refine parkI ?_ | (refine CallP.use c85 ?_; conv => whnf) | (refine And.intro ?_ ?_ <;> conv => whnf) | fail
  replace h := aftS h
  obtain ⟨O28, hO28, r28⟩ := h
  refine LoopW.norm [(1, (LV.ptr 0 0 0)), (2, (I y84.2)), (15, (LV.sl 1 0 4)), (16, (I ((4 : Nat) : Int))), (17, (I ((0 : Nat) : Int)))] 2 [(0, (.row 24 3 [[(LV.ro 1 (y84.1.Buckets.map (roC 4 EntryT.cells))), (I y84.1.Slots), (I y84.1.Age)]])), (1, (.row 3 1 [[(I 2)], [(I 4)], [(I 2)], [(I 6)]]))] ⟨rfl, rfl, rfl, rfl, rfl, trivial⟩ ⟨⟨rfl, rfl, blT⟩, ⟨⟨rfl, rfl, blT⟩, trivial⟩⟩ blT rfl ?_
  refine LoopW.forN (fun k28 s28 => [(1, (LV.ptr 0 0 0)), (2, (I y84.2)), (15, (LV.sl 1 0 4)), (16, (I ((4 : Nat) : Int))), (17, (I ((k28 : Nat) : Int)))]) (fun s28 => ⟨2, [(0, (.row 24 3 [[(LV.ro 1 (s28.Buckets.map (roC 4 EntryT.cells))), (I s28.Slots), (I s28.Age)]])), (1, (.row 3 1 [[(I 2)], [(I 4)], [(I 2)], [(I 6)]]))]⟩) hO28 (fun hl28 s28 hs28 => ?_) (fun hl28 k28 s28 o28 hk28 b28 K28 hret28 hbrk28 => ?_)
  · rw [hs28] at r28
    dsimp only [aftM] at r28
    have hd : decide ((((((([2, 4, 2, 6] : (List Int)).length : Nat) : Int) : Int).toNat : Nat) : Int) < ((4 : Nat) : Int)) = false := by rw [decide_eq_false_iff_not]; (try simp only [se_len, se_ch, List.length_map]); omega
    refine LoopW.round TT_ok [0, 1, 2, 4, 5, 6, 7, 8, 9, 10, 15, 16, 17, 18, 28] ?_
    conv => whnf
    repeat' first | with_reducible rfl | with_reducible exact True.intro | with_reducible assumption | refine parkI ?_ | (refine And.intro ?_ ?_ <;> conv => whnf) | fail
    refine parkE (fun hc => ?_) (fun hc => ?_)
    · exact (Bool.false_ne_true (hd.symm.trans hc)).elim
    · clear hd
      conv => whnf
      replace r28 := bindS r28
      obtain ⟨y91, hy91, r28⟩ := r28
      have c92 := c_fdb_Find s28 2 5 _ hy91
      replace r28 := bindS r28
      obtain ⟨y93, hy93, r28⟩ := r28
      have c94 := c_fdb_Find s28 4 5 _ hy93
      have e := Option.some.inj r28
      subst e
      repeat' first | with_reducible rfl | with_reducible exact True.intro | with_reducible assumption | (refine CallP.use c92 ?_; conv => whnf) | (refine CallP.use c94 ?_; conv => whnf) | exact clA _ | (refine And.intro ?_ ?_ <;> conv => whnf) | exact clG _ | (refine gand ?_ h; assumption) | exact clN _ | fail
  · unfold law08_alive_b28 at b28
    have hd : decide (((k28 : Nat) : Int) < ((4 : Nat) : Int)) = true := by rw [decide_eq_true_eq]; (try simp only [se_len, se_ch, List.length_map] at hk28); (try simp only [se_len, se_ch, List.length_map]); omega
    refine LoopW.round TT_ok [0, 1, 2, 4, 5, 6, 7, 8, 9, 10, 15, 16, 17, 18, 28] ?_
    conv => whnf
    repeat' first | with_reducible rfl | with_reducible exact True.intro | with_reducible assumption | refine parkI ?_ | (refine And.intro ?_ ?_ <;> conv => whnf) | fail
    refine parkE (fun hc => ?_) (fun hc => ?_)
    · clear hd
      conv => whnf
      replace b28 := grdS b28
      obtain ⟨g86, b28⟩ := b28
      replace g86 : (0 : Int) ≤ ((k28 : Nat) : Int) ∧ ((k28 : Nat) : Int) < ((4 : Nat) : Int) := by simpa only [se_len, se_ch, List.length_map] using g86
      replace b28 := bindS b28
      obtain ⟨v87, hv87, b28⟩ := b28
      have i88 : nth [[(I 2)], [(I 4)], [(I 2)], [(I 6)]] (0 + ((((k28 : Nat) : Int) : Int).toNat)) = some [(I v87)] := by simpa only [se_map, se_len, se_ch, List.length_map, nth_eq, Nat.zero_add, List.getElem?_map] using gixNF (f := iC) hv87
      replace b28 := bindS b28
      obtain ⟨y89, hy89, b28⟩ := b28
      have c90 := c_fdb_Learn s28 v87 1 0 _ hy89
      repeat' first | with_reducible rfl | with_reducible exact True.intro | with_reducible assumption | refine parkI ?_ | exact g86 | (refine CallP.use c90 ?_; conv => whnf) | (rw [i88]; conv => whnf) | (refine And.intro ?_ ?_ <;> conv => whnf) | fail
      refine parkE (fun hc => ?_) (fun hc => ?_)
      · replace b28 := condT hc b28
        conv => whnf
        have e := Option.some.inj b28
        replace e := hret28 _ e.symm
        rw [e] at r28
        replace e := Option.some.inj r28
        subst e
        repeat' first | with_reducible rfl | with_reducible exact True.intro | with_reducible assumption | exact clA _ | (refine And.intro ?_ ?_ <;> conv => whnf) | exact clG _ | (refine gand ?_ h; assumption) | exact clN _ | fail
      · replace b28 := condF hc b28
        conv => whnf
        repeat' first | with_reducible rfl | with_reducible exact True.intro | with_reducible assumption | refine parkI ?_ | (refine And.intro ?_ ?_ <;> conv => whnf) | fail
        have e := Option.some.inj b28
        refine LoopW.norm [(1, (LV.ptr 0 0 0)), (2, (I y84.2)), (15, (LV.sl 1 0 4)), (16, (I ((4 : Nat) : Int))), (17, (I ((k28 + 1 : Nat) : Int)))] 2 [(0, (.row 24 3 [[(LV.ro 1 (y89.1.Buckets.map (roC 4 EntryT.cells))), (I y89.1.Slots), (I y89.1.Age)]])), (1, (.row 3 1 [[(I 2)], [(I 4)], [(I 2)], [(I 6)]]))] ⟨rfl, rfl, rfl, rfl, (congrArg (LV.int .i64) (w64_nat _ (by omega))), trivial⟩ ⟨⟨rfl, rfl, blT⟩, ⟨⟨rfl, rfl, blT⟩, trivial⟩⟩ blT rfl (K28 _ e.symm)
    · exact (Bool.false_ne_true (hc.symm.trans hd)).elim

def law08_few_b29  (k29 : Nat) (x29 : (List EntryT)) (s29 : (List (List EntryT))) : Option (Step TableT (List (List EntryT))) :=
  grd ((0 : Int) ≤ (mn ((x29.length : Nat) : Int) 8) ∧ (mn ((x29.length : Nat) : Int) 8) ≤ ((x29.length : Nat) : Int)) <|
  grd (fits ((s29 ++ ([(x29.take ((mn ((x29.length : Nat) : Int) 8) : Int).toNat)] : (List (List EntryT)))) : List (List EntryT)).length 24) <|
  some (.nxt (s29 ++ ([(x29.take ((mn ((x29.length : Nat) : Int) 8) : Int).toNat)] : (List (List EntryT)))))

def law08_few (a0 : TableT) : Option TableT :=
  grd ((0 : Int) ≤ (mn ((a0.Buckets.length : Nat) : Int) 20) ∧ (mn ((a0.Buckets.length : Nat) : Int) 20) ≤ ((a0.Buckets.length : Nat) : Int)) <|
  aft (rangeL (law08_few_b29 ) (a0.Buckets.take ((mn ((a0.Buckets.length : Nat) : Int) 20) : Int).toNat) ([] : (List (List EntryT)))) fun s29 =>
  some (⟨s29, a0.Slots, a0.Age⟩ : TableT)

theorem c_law08_few (a0 : TableT) (r : TableT) (h : law08_few a0 = some r) : CallP Try.prog 25 [(LV.agg [(LV.ro 1 (a0.Buckets.map (roC 4 EntryT.cells))), (I a0.Slots), (I a0.Age)])] (LV.agg [(LV.ro 1 (r.Buckets.map (roC 4 EntryT.cells))), (I r.Slots), (I r.Age)]) := by
  unfold law08_few at h
  refine .intro nlA (.intro TT_ok Try.func25 rfl rfl [0, 1, 2, 3, 5, 12, 13, 14, 15] rfl ?_)
  conv => whnf
  replace h := grdS h
  obtain ⟨g95, h⟩ := h
  replace g95 : (0 : Int) ≤ (mn (((a0.Buckets.map (roC 4 EntryT.cells)).length : Nat) : Int) 20) ∧ (mn (((a0.Buckets.map (roC 4 EntryT.cells)).length : Nat) : Int) 20) ≤ (((a0.Buckets.map (roC 4 EntryT.cells)).length : Nat) : Int) := by simpa only [se_len, se_ch, List.length_map] using g95
  repeat' first | with_reducible rfl | with_reducible exact True.intro | with_reducible assumption | refine parkI ?_ | exact g95 | (refine And.intro ?_ ?_ <;> conv => whnf) | fail
  replace h := aftS h
  obtain ⟨O29, hO29, r29⟩ := h
  refine LoopW.virt 3 186 1 rfl ?_
  refine LoopW.norm [(1, (LV.ptr 0 0 0)), (2, (LV.ptr 1 0 0)), (3, (LV.sl 2 0 (([] : (List (List EntryT))).map (roC 4 EntryT.cells)).length)), (12, (LV.ro 1 ((a0.Buckets.map (roC 4 EntryT.cells)).take ((mn (((a0.Buckets.map (roC 4 EntryT.cells)).length : Nat) : Int) 20) : Int).toNat))), (13, (I ((((a0.Buckets.map (roC 4 EntryT.cells)).take ((mn (((a0.Buckets.map (roC 4 EntryT.cells)).length : Nat) : Int) 20) : Int).toNat).length : Nat) : Int))), (14, (I ((0 : Nat) : Int)))] 3 [(0, (.row 24 3 [[(LV.ro 1 (a0.Buckets.map (roC 4 EntryT.cells))), (I a0.Slots), (I a0.Age)]])), (1, (.row 24 3 [[LV.nils, (I 0), (I 0)]])), (2, (.row 186 1 (([] : (List (List EntryT))).map (roC 4 EntryT.cells))))] ⟨rfl, rfl, (by exact congrArg (LV.sl 2 0) (clL _ : 0 = (([] : (List (List EntryT))).map (roC 4 EntryT.cells)).length)), rfl, rfl, rfl, trivial⟩ ⟨⟨rfl, rfl, blT⟩, ⟨⟨rfl, rfl, blT⟩, ⟨⟨(congrArg (fun q => some (Blk.row 186 1 q)) (by first | (simp only [se_map, se_byL, se_len, se_ch, List.length_map]; done) | (simp only [se_map, se_byL, se_len, se_ch, List.length_map, roC]; done) : ([] : List (List LV)) = (([] : (List (List EntryT))).map (roC 4 EntryT.cells)))), rfl, NLss_bel (NLss_map' _)⟩, trivial⟩⟩⟩ blT rfl ?_
  refine LoopW.forR (fun k29 s29 => [(1, (LV.ptr 0 0 0)), (2, (LV.ptr 1 0 0)), (3, (LV.sl 2 0 (s29.map (roC 4 EntryT.cells)).length)), (12, (LV.ro 1 ((a0.Buckets.map (roC 4 EntryT.cells)).take ((mn (((a0.Buckets.map (roC 4 EntryT.cells)).length : Nat) : Int) 20) : Int).toNat))), (13, (I ((((a0.Buckets.map (roC 4 EntryT.cells)).take ((mn (((a0.Buckets.map (roC 4 EntryT.cells)).length : Nat) : Int) 20) : Int).toNat).length : Nat) : Int))), (14, (I ((k29 : Nat) : Int)))]) (fun s29 => ⟨3, [(0, (.row 24 3 [[(LV.ro 1 (a0.Buckets.map (roC 4 EntryT.cells))), (I a0.Slots), (I a0.Age)]])), (1, (.row 24 3 [[LV.nils, (I 0), (I 0)]])), (2, (.row 186 1 (s29.map (roC 4 EntryT.cells))))]⟩) hO29 (fun hl29 s29 hs29 => ?_) (fun hl29 k29 x29 s29 o29 hk29 hx29 b29 K29 hret29 hbrk29 => ?_)
  · rw [hs29] at r29
    dsimp only [aftM] at r29
    have hd : decide ((((a0.Buckets.take ((mn ((a0.Buckets.length : Nat) : Int) 20) : Int).toNat).length : Nat) : Int) < ((((a0.Buckets.map (roC 4 EntryT.cells)).take ((mn (((a0.Buckets.map (roC 4 EntryT.cells)).length : Nat) : Int) 20) : Int).toNat).length : Nat) : Int)) = false := by rw [decide_eq_false_iff_not]; (try simp only [se_len, se_ch, List.length_map]); omega
    refine LoopW.round TT_ok [0, 1, 2, 3, 5, 12, 13, 14, 15] ?_
    conv => whnf
    repeat' first | with_reducible rfl | with_reducible exact True.intro | with_reducible assumption | refine parkI ?_ | (refine And.intro ?_ ?_ <;> conv => whnf) | fail
    refine parkE (fun hc => ?_) (fun hc => ?_)
    · exact (Bool.false_ne_true (hd.symm.trans hc)).elim
    · clear hd
      conv => whnf
      have e := Option.some.inj r29
      subst e
      repeat' first | with_reducible rfl | with_reducible exact True.intro | with_reducible assumption | exact clA _ | (refine And.intro ?_ ?_ <;> conv => whnf) | exact clG _ | (refine gand ?_ h; assumption) | exact clN _ | fail
  · unfold law08_few_b29 at b29
    have fx29 : (0 : Int) ≤ ((k29 : Nat) : Int) ∧ (((a0.Buckets.map (roC 4 EntryT.cells)).take ((mn (((a0.Buckets.map (roC 4 EntryT.cells)).length : Nat) : Int) 20) : Int).toNat))[((k29 : Nat) : Int).toNat]? = some ((roC 4 EntryT.cells) x29) := by (have h0 := kixF (f := (roC 4 EntryT.cells)) hx29); simpa only [se_map, se_len, se_byL, List.length_map] using h0
    have hd : decide (((k29 : Nat) : Int) < ((((a0.Buckets.map (roC 4 EntryT.cells)).take ((mn (((a0.Buckets.map (roC 4 EntryT.cells)).length : Nat) : Int) 20) : Int).toNat).length : Nat) : Int)) = true := by rw [decide_eq_true_eq]; (try simp only [se_len, se_ch, List.length_map] at hk29); (try simp only [se_len, se_ch, List.length_map]); omega
    refine LoopW.round TT_ok [0, 1, 2, 3, 5, 12, 13, 14, 15] ?_
    conv => whnf
    repeat' first | with_reducible rfl | with_reducible exact True.intro | with_reducible assumption | refine parkI ?_ | (refine And.intro ?_ ?_ <;> conv => whnf) | fail
    refine parkE (fun hc => ?_) (fun hc => ?_)
    · clear hd
      conv => whnf
      replace b29 := grdS b29
      obtain ⟨g96, b29⟩ := b29
      replace g96 : (0 : Int) ≤ (mn (((x29.map EntryT.cells).length : Nat) : Int) 8) ∧ (mn (((x29.map EntryT.cells).length : Nat) : Int) 8) ≤ (((x29.map EntryT.cells).length : Nat) : Int) := by simpa only [se_len, se_ch, List.length_map] using g96
      replace b29 := grdS b29
      obtain ⟨g97, b29⟩ := b29
      replace g97 : fits (((s29.map (roC 4 EntryT.cells)) ++ [[(LV.ro 4 ((x29.map EntryT.cells).take ((mn (((x29.map EntryT.cells).length : Nat) : Int) 8) : Int).toNat))]])).length 24 := by simpa only [se_len, se_ch, List.length_map] using g97
      repeat' first | with_reducible rfl | with_reducible exact True.intro | with_reducible assumption | refine parkI ?_ | (refine ⟨_, fx29, ?_⟩; conv => whnf) | exact g96 | exact g97 | exact clA _ | (refine And.intro ?_ ?_ <;> conv => whnf) | exact clN _ | fail
      have e := Option.some.inj b29
      refine LoopW.ren [(0, 0), (1, 1), (4, 2)] [(1, (LV.ptr 0 0 0)), (2, (LV.ptr 1 0 0)), (3, (LV.sl 2 0 ((s29 ++ ([(x29.take ((mn ((x29.length : Nat) : Int) 8) : Int).toNat)] : (List (List EntryT)))).map (roC 4 EntryT.cells)).length)), (12, (LV.ro 1 ((a0.Buckets.map (roC 4 EntryT.cells)).take ((mn (((a0.Buckets.map (roC 4 EntryT.cells)).length : Nat) : Int) 20) : Int).toNat))), (13, (I ((((a0.Buckets.map (roC 4 EntryT.cells)).take ((mn (((a0.Buckets.map (roC 4 EntryT.cells)).length : Nat) : Int) 20) : Int).toNat).length : Nat) : Int))), (14, (I ((k29 + 1 : Nat) : Int)))] 3 [(0, (.row 24 3 [[(LV.ro 1 (a0.Buckets.map (roC 4 EntryT.cells))), (I a0.Slots), (I a0.Age)]])), (1, (.row 24 3 [[LV.nils, (I 0), (I 0)]])), (2, (.row 186 1 ((s29 ++ ([(x29.take ((mn ((x29.length : Nat) : Int) 8) : Int).toNat)] : (List (List EntryT)))).map (roC 4 EntryT.cells))))] rfl ⟨rfl, rfl, (by exact congrArg (LV.sl 2 0) (clL _ : (((s29.map (roC 4 EntryT.cells)) ++ [[(LV.ro 4 ((x29.map EntryT.cells).take ((mn (((x29.map EntryT.cells).length : Nat) : Int) 8) : Int).toNat))]])).length = ((s29 ++ ([(x29.take ((mn ((x29.length : Nat) : Int) 8) : Int).toNat)] : (List (List EntryT)))).map (roC 4 EntryT.cells)).length)), rfl, rfl, (congrArg (LV.int .i64) (w64_nat _ (by omega))), trivial⟩ ⟨⟨rfl, rfl, .inl ⟨rfl, nlT⟩⟩, rfl, rfl, ⟨⟨rfl, rfl, .inl ⟨rfl, nlT⟩⟩, rfl, rfl, ⟨⟨rfl, rfl, .inl ⟨(by first | (simp only [se_map, se_byL, se_len, se_ch, List.length_map]; done) | (simp only [se_map, se_byL, se_len, se_ch, List.length_map, roC]; done) : (((s29.map (roC 4 EntryT.cells)) ++ [[(LV.ro 4 ((x29.map EntryT.cells).take ((mn (((x29.map EntryT.cells).length : Nat) : Int) 8) : Int).toNat))]]) : List (List LV)) = ((s29 ++ ([(x29.take ((mn ((x29.length : Nat) : Int) 8) : Int).toNat)] : (List (List EntryT)))).map (roC 4 EntryT.cells))), nlT⟩⟩, rfl, rfl, trivial⟩⟩⟩ rfl (K29 _ e.symm)
    · exact (Bool.false_ne_true (hc.symm.trans hd)).elim

def law08_FdbLearns (a0 : Int) (a1 : Int) (a2 : Int) (a3 : TableT) (a4 : Int) (a5 : Int) (a6 : Int) : Option Bool :=
  (law08_few a3).bind fun y98 =>
  (fdb_New a0 a1 a2).bind fun y100 =>
  (fdb_Learn y98 a4 a5 a6).bind fun y102 =>
  (fdb_Find y98 a4 a6).bind fun y104 =>
  (fdb_Right y98).bind fun y106 =>
  (ref08_Right y98).bind fun y108 =>
  (gd (!(!(y106 == y108))) (law08_alive )).bind fun y110 =>
  (bif (bif (!(y106 == y108)) then true else (!y110)) then
    some false
  else
    (ref08_Sizes a0 a1 a2).bind fun y112 =>
    (bif (!y112) then
      (gd (!(!decide (y100.2 = 2))) (ref08_Same y100.1 (⟨[], 0, 0⟩ : TableT))).bind fun y114 =>
      (bif (bif (!decide (y100.2 = 2)) then true else (!y114)) then
        some false
      else
        (gd (!(!y108)) (ref08_Mac a4)).bind fun y116 =>
        (gd (!(bif (!y108) then true else (!y116))) (ref08_Time a6)).bind fun y118 =>
        (bif (bif (bif (!y108) then true else (!y116)) then true else (!y118)) then
          (gd (bif (decide (y102.2 = 1)) then (decide (y104.2 = 1)) else false) (ref08_Same y102.1 (⟨[], 0, 0⟩ : TableT))).bind fun y120 =>
          some (bif (bif (bif (decide (y102.2 = 1)) then (decide (y104.2 = 1)) else false) then y120 else false) then (decide (y104.1 = 0)) else false)
        else
          (gd (!(!decide (y104.2 = 0))) (ref08_Find y98 a4 a6)).bind fun y122 =>
          (bif (bif (!decide (y104.2 = 0)) then true else (!decide (y104.1 = y122))) then
            some false
          else
            (ref08_Port a5).bind fun y124 =>
            (bif (!y124) then
              (gd (decide (y102.2 = 1)) (ref08_Same y102.1 (⟨[], 0, 0⟩ : TableT))).bind fun y126 =>
              some (bif (decide (y102.2 = 1)) then y126 else false)
            else
              (gd (decide (y102.2 = 0)) (ref08_Learn y98 a4 a5 a6)).bind fun y128 =>
              (gd (decide (y102.2 = 0)) (ref08_Same y102.1 y128)).bind fun y130 =>
              some (bif (decide (y102.2 = 0)) then y130 else false)))))
    else
      (gd (!(!decide (y100.2 = 0))) (ref08_New a0 a1 a2)).bind fun y132 =>
      (gd (!(!decide (y100.2 = 0))) (ref08_Same y100.1 y132)).bind fun y134 =>
      (bif (bif (!decide (y100.2 = 0)) then true else (!y134)) then
        some false
      else
        (gd (!(!y108)) (ref08_Mac a4)).bind fun y136 =>
        (gd (!(bif (!y108) then true else (!y136))) (ref08_Time a6)).bind fun y138 =>
        (bif (bif (bif (!y108) then true else (!y136)) then true else (!y138)) then
          (gd (bif (decide (y102.2 = 1)) then (decide (y104.2 = 1)) else false) (ref08_Same y102.1 (⟨[], 0, 0⟩ : TableT))).bind fun y140 =>
          some (bif (bif (bif (decide (y102.2 = 1)) then (decide (y104.2 = 1)) else false) then y140 else false) then (decide (y104.1 = 0)) else false)
        else
          (gd (!(!decide (y104.2 = 0))) (ref08_Find y98 a4 a6)).bind fun y142 =>
          (bif (bif (!decide (y104.2 = 0)) then true else (!decide (y104.1 = y142))) then
            some false
          else
            (ref08_Port a5).bind fun y144 =>
            (bif (!y144) then
              (gd (decide (y102.2 = 1)) (ref08_Same y102.1 (⟨[], 0, 0⟩ : TableT))).bind fun y146 =>
              some (bif (decide (y102.2 = 1)) then y146 else false)
            else
              (gd (decide (y102.2 = 0)) (ref08_Learn y98 a4 a5 a6)).bind fun y148 =>
              (gd (decide (y102.2 = 0)) (ref08_Same y102.1 y148)).bind fun y150 =>
              some (bif (decide (y102.2 = 0)) then y150 else false)))))))

theorem c_law08_FdbLearns (a0 : Int) (a1 : Int) (a2 : Int) (a3 : TableT) (a4 : Int) (a5 : Int) (a6 : Int) (r : Bool) (h : law08_FdbLearns a0 a1 a2 a3 a4 a5 a6 = some r) : CallP Try.prog 3 [(I a0), (I a1), (I a2), (LV.agg [(LV.ro 1 (a3.Buckets.map (roC 4 EntryT.cells))), (I a3.Slots), (I a3.Age)]), (I a4), (I a5), (I a6)] (LV.bool r) := by
  unfold law08_FdbLearns at h
  refine .intro nlA (.intro TT_ok Try.func3 rfl rfl [0, 1, 2, 3, 4, 5, 6, 10, 14, 15, 16, 17, 18, 19, 20, 21, 55, 60, 68, 79, 92, 117, 120] rfl ?_)
  conv => whnf
  replace h := bindS h
  obtain ⟨y98, hy98, h⟩ := h
  have c99 := c_law08_few a3 _ hy98
  replace h := bindS h
  obtain ⟨y100, hy100, h⟩ := h
  have c101 := c_fdb_New a0 a1 a2 _ hy100
  replace h := bindS h
  obtain ⟨y102, hy102, h⟩ := h
  have c103 := c_fdb_Learn y98 a4 a5 a6 _ hy102
  replace h := bindS h
  obtain ⟨y104, hy104, h⟩ := h
  have c105 := c_fdb_Find y98 a4 a6 _ hy104
  replace h := bindS h
  obtain ⟨y106, hy106, h⟩ := h
  have c107 := c_fdb_Right y98 _ hy106
  replace h := bindS h
  obtain ⟨y108, hy108, h⟩ := h
  have c109 := c_ref08_Right y98 _ hy108
  replace h := bindS h
  obtain ⟨y110, hy110, h⟩ := h
  have c111 := fun (hg : (!(!(y106 == y108))) = true) => c_law08_alive  _ (gdS hg hy110)
  repeat' first | with_reducible rfl | with_reducible exact True.intro | with_reducible assumption | refine parkI ?_ | (refine ⟨_, c111, ?_⟩; conv => whnf) | (refine CallP.use c99 ?_; conv => whnf) | (refine ⟨_, _, CallP.at c99, ?_⟩; conv => whnf) | (refine ⟨_, fun _ => c99, ?_⟩; conv => whnf) | (refine CallP.use c101 ?_; conv => whnf) | (refine ⟨_, _, CallP.at c101, ?_⟩; conv => whnf) | (refine ⟨_, fun _ => c101, ?_⟩; conv => whnf) | (refine CallP.use c103 ?_; conv => whnf) | (refine ⟨_, _, CallP.at c103, ?_⟩; conv => whnf) | (refine ⟨_, fun _ => c103, ?_⟩; conv => whnf) | (refine CallP.use c105 ?_; conv => whnf) | (refine ⟨_, _, CallP.at c105, ?_⟩; conv => whnf) | (refine ⟨_, fun _ => c105, ?_⟩; conv => whnf) | (refine CallP.use c107 ?_; conv => whnf) | (refine ⟨_, _, CallP.at c107, ?_⟩; conv => whnf) | (refine ⟨_, fun _ => c107, ?_⟩; conv => whnf) | (refine CallP.use c109 ?_; conv => whnf) | (refine ⟨_, _, CallP.at c109, ?_⟩; conv => whnf) | (refine ⟨_, fun _ => c109, ?_⟩; conv => whnf) | (refine W.drawn TT_ok hmix1 rfl ?_; conv => whnf) | exact clA _ | (refine And.intro ?_ ?_ <;> conv => whnf) | exact clG _ | (refine gand ?_ h; assumption) | exact clN _ | fail
  refine parkE (fun hc => ?_) (fun hc => ?_)
  · replace h := condT hc h
    conv => whnf
    have e := Option.some.inj h
    subst e
    repeat' first | with_reducible rfl | with_reducible exact True.intro | with_reducible assumption | (refine W.drawn TT_ok hmix1 rfl ?_; conv => whnf) | exact clA _ | (refine And.intro ?_ ?_ <;> conv => whnf) | exact clG _ | (refine gand ?_ h; assumption) | exact clN _ | fail
  · replace h := condF hc h
    conv => whnf
    replace h := bindS h
    obtain ⟨y112, hy112, h⟩ := h
    have c113 := c_ref08_Sizes a0 a1 a2 _ hy112
    repeat' first | with_reducible rfl | with_reducible exact True.intro | with_reducible assumption | refine parkI ?_ | (refine CallP.use c113 ?_; conv => whnf) | (refine ⟨_, _, CallP.at c113, ?_⟩; conv => whnf) | (refine ⟨_, fun _ => c113, ?_⟩; conv => whnf) | (refine W.drawn TT_ok hmix1 rfl ?_; conv => whnf) | exact clA _ | (refine And.intro ?_ ?_ <;> conv => whnf) | exact clG _ | (refine gand ?_ h; assumption) | exact clN _ | fail
    refine parkE (fun hc => ?_) (fun hc => ?_)
    · replace h := condT hc h
      conv => whnf
      replace h := bindS h
      obtain ⟨y114, hy114, h⟩ := h
      have c115 : (!(!decide (y100.2 = 2))) = true → CallP Try.prog 33 [(LV.agg [(LV.ro 1 (y100.1.Buckets.map (roC 4 EntryT.cells))), (I y100.1.Slots), (I y100.1.Age)]), (LV.agg [LV.nils, (I 0), (I 0)])] (LV.bool y114) := by first | exact fun (hg : (!(!decide (y100.2 = 2))) = true) => c_ref08_Same y100.1 (⟨[], 0, 0⟩ : TableT) _ (gdS hg hy114) | (simpa only [se_map, se_byL, se_len, se_ch, List.length_map] using fun (hg : (!(!decide (y100.2 = 2))) = true) => c_ref08_Same y100.1 (⟨[], 0, 0⟩ : TableT) _ (gdS hg hy114)) | exact fun (hg : (!(!decide (y100.2 = 2))) = true) => CallP.up (c_ref08_Same y100.1 (⟨[], 0, 0⟩ : TableT) _ (gdS hg hy114)) upT
      repeat' first | with_reducible rfl | with_reducible exact True.intro | with_reducible assumption | refine parkI ?_ | (refine ⟨_, c115, ?_⟩; conv => whnf) | (refine W.drawn TT_ok hmix1 rfl ?_; conv => whnf) | exact clA _ | (refine And.intro ?_ ?_ <;> conv => whnf) | exact clG _ | (refine gand ?_ h; assumption) | exact clN _ | fail
      refine parkE (fun hc => ?_) (fun hc => ?_)
      · replace h := condT hc h
        conv => whnf
        have e := Option.some.inj h
        subst e
        repeat' first | with_reducible rfl | with_reducible exact True.intro | with_reducible assumption | (refine W.drawn TT_ok hmix1 rfl ?_; conv => whnf) | exact clA _ | (refine And.intro ?_ ?_ <;> conv => whnf) | exact clG _ | (refine gand ?_ h; assumption) | exact clN _ | fail
      · replace h := condF hc h
        conv => whnf
        replace h := bindS h
        obtain ⟨y116, hy116, h⟩ := h
        have c117 := fun (hg : (!(!y108)) = true) => c_ref08_Mac a4 _ (gdS hg hy116)
        replace h := bindS h
        obtain ⟨y118, hy118, h⟩ := h
        have c119 := fun (hg : (!(bif (!y108) then true else (!y116))) = true) => c_ref08_Time a6 _ (gdS hg hy118)
        repeat' first | with_reducible rfl | with_reducible exact True.intro | with_reducible assumption | refine parkI ?_ | (refine ⟨_, c117, ?_⟩; conv => whnf) | (refine ⟨_, c119, ?_⟩; conv => whnf) | (refine CallP.use c109 ?_; conv => whnf) | (refine ⟨_, _, CallP.at c109, ?_⟩; conv => whnf) | (refine ⟨_, fun _ => c109, ?_⟩; conv => whnf) | (refine W.drawn TT_ok hmix1 rfl ?_; conv => whnf) | exact clA _ | (refine And.intro ?_ ?_ <;> conv => whnf) | exact clG _ | (refine gand ?_ h; assumption) | exact clN _ | fail
        refine parkE (fun hc => ?_) (fun hc => ?_)
        · replace h := condT hc h
          conv => whnf
          replace h := bindS h
          obtain ⟨y120, hy120, h⟩ := h
          have c121 : (bif (decide (y102.2 = 1)) then (decide (y104.2 = 1)) else false) = true → CallP Try.prog 33 [(LV.agg [(LV.ro 1 (y102.1.Buckets.map (roC 4 EntryT.cells))), (I y102.1.Slots), (I y102.1.Age)]), (LV.agg [LV.nils, (I 0), (I 0)])] (LV.bool y120) := by first | exact fun (hg : (bif (decide (y102.2 = 1)) then (decide (y104.2 = 1)) else false) = true) => c_ref08_Same y102.1 (⟨[], 0, 0⟩ : TableT) _ (gdS hg hy120) | (simpa only [se_map, se_byL, se_len, se_ch, List.length_map] using fun (hg : (bif (decide (y102.2 = 1)) then (decide (y104.2 = 1)) else false) = true) => c_ref08_Same y102.1 (⟨[], 0, 0⟩ : TableT) _ (gdS hg hy120)) | exact fun (hg : (bif (decide (y102.2 = 1)) then (decide (y104.2 = 1)) else false) = true) => CallP.up (c_ref08_Same y102.1 (⟨[], 0, 0⟩ : TableT) _ (gdS hg hy120)) upT
          have e := Option.some.inj h
          subst e
          repeat' first | with_reducible rfl | with_reducible exact True.intro | with_reducible assumption | (refine ⟨_, c121, ?_⟩; conv => whnf) | (refine W.drawn TT_ok hmix1 rfl ?_; conv => whnf) | exact clA _ | (refine And.intro ?_ ?_ <;> conv => whnf) | exact clG _ | (refine gand ?_ h; assumption) | exact clN _ | fail
        · replace h := condF hc h
          conv => whnf
          replace h := bindS h
          obtain ⟨y122, hy122, h⟩ := h
          have c123 := fun (hg : (!(!decide (y104.2 = 0))) = true) => c_ref08_Find y98 a4 a6 _ (gdS hg hy122)
          repeat' first | with_reducible rfl | with_reducible exact True.intro | with_reducible assumption | refine parkI ?_ | (refine ⟨_, c123, ?_⟩; conv => whnf) | (refine W.drawn TT_ok hmix1 rfl ?_; conv => whnf) | exact clA _ | (refine And.intro ?_ ?_ <;> conv => whnf) | exact clG _ | (refine gand ?_ h; assumption) | exact clN _ | fail
          refine parkE (fun hc => ?_) (fun hc => ?_)
          · replace h := condT hc h
            conv => whnf
            have e := Option.some.inj h
            subst e
            repeat' first | with_reducible rfl | with_reducible exact True.intro | with_reducible assumption | (refine W.drawn TT_ok hmix1 rfl ?_; conv => whnf) | exact clA _ | (refine And.intro ?_ ?_ <;> conv => whnf) | exact clG _ | (refine gand ?_ h; assumption) | exact clN _ | fail
          · replace h := condF hc h
            conv => whnf
            replace h := bindS h
            obtain ⟨y124, hy124, h⟩ := h
            have c125 := c_ref08_Port a5 _ hy124
            repeat' first | with_reducible rfl | with_reducible exact True.intro | with_reducible assumption | refine parkI ?_ | (refine CallP.use c125 ?_; conv => whnf) | (refine ⟨_, _, CallP.at c125, ?_⟩; conv => whnf) | (refine ⟨_, fun _ => c125, ?_⟩; conv => whnf) | (refine W.drawn TT_ok hmix1 rfl ?_; conv => whnf) | exact clA _ | (refine And.intro ?_ ?_ <;> conv => whnf) | exact clG _ | (refine gand ?_ h; assumption) | exact clN _ | fail
            refine parkE (fun hc => ?_) (fun hc => ?_)
            · replace h := condT hc h
              conv => whnf
              replace h := bindS h
              obtain ⟨y126, hy126, h⟩ := h
              have c127 : (decide (y102.2 = 1)) = true → CallP Try.prog 33 [(LV.agg [(LV.ro 1 (y102.1.Buckets.map (roC 4 EntryT.cells))), (I y102.1.Slots), (I y102.1.Age)]), (LV.agg [LV.nils, (I 0), (I 0)])] (LV.bool y126) := by first | exact fun (hg : (decide (y102.2 = 1)) = true) => c_ref08_Same y102.1 (⟨[], 0, 0⟩ : TableT) _ (gdS hg hy126) | (simpa only [se_map, se_byL, se_len, se_ch, List.length_map] using fun (hg : (decide (y102.2 = 1)) = true) => c_ref08_Same y102.1 (⟨[], 0, 0⟩ : TableT) _ (gdS hg hy126)) | exact fun (hg : (decide (y102.2 = 1)) = true) => CallP.up (c_ref08_Same y102.1 (⟨[], 0, 0⟩ : TableT) _ (gdS hg hy126)) upT
              have e := Option.some.inj h
              subst e
              repeat' first | with_reducible rfl | with_reducible exact True.intro | with_reducible assumption | (refine ⟨_, c127, ?_⟩; conv => whnf) | (refine W.drawn TT_ok hmix1 rfl ?_; conv => whnf) | exact clA _ | (refine And.intro ?_ ?_ <;> conv => whnf) | exact clG _ | (refine gand ?_ h; assumption) | exact clN _ | fail
            · replace h := condF hc h
              conv => whnf
              replace h := bindS h
              obtain ⟨y128, hy128, h⟩ := h
              have c129 := fun (hg : (decide (y102.2 = 0)) = true) => c_ref08_Learn y98 a4 a5 a6 _ (gdS hg hy128)
              replace h := bindS h
              obtain ⟨y130, hy130, h⟩ := h
              have c131 := fun (hg : (decide (y102.2 = 0)) = true) => c_ref08_Same y102.1 y128 _ (gdS hg hy130)
              have e := Option.some.inj h
              subst e
              repeat' first | with_reducible rfl | with_reducible exact True.intro | with_reducible assumption | (refine ⟨_, c129, ?_⟩; conv => whnf) | (refine ⟨_, c131, ?_⟩; conv => whnf) | (refine W.drawn TT_ok hmix1 rfl ?_; conv => whnf) | exact clA _ | (refine And.intro ?_ ?_ <;> conv => whnf) | exact clG _ | (refine gand ?_ h; assumption) | exact clN _ | fail
    · replace h := condF hc h
      conv => whnf
      replace h := bindS h
      obtain ⟨y132, hy132, h⟩ := h
      have c133 := fun (hg : (!(!decide (y100.2 = 0))) = true) => c_ref08_New a0 a1 a2 _ (gdS hg hy132)
      replace h := bindS h
      obtain ⟨y134, hy134, h⟩ := h
      have c135 := fun (hg : (!(!decide (y100.2 = 0))) = true) => c_ref08_Same y100.1 y132 _ (gdS hg hy134)
      repeat' first | with_reducible rfl | with_reducible exact True.intro | with_reducible assumption | refine parkI ?_ | (refine ⟨_, c133, ?_⟩; conv => whnf) | (refine ⟨_, c135, ?_⟩; conv => whnf) | (refine W.drawn TT_ok hmix1 rfl ?_; conv => whnf) | exact clA _ | (refine And.intro ?_ ?_ <;> conv => whnf) | exact clG _ | (refine gand ?_ h; assumption) | exact clN _ | fail
      refine parkE (fun hc => ?_) (fun hc => ?_)
      · replace h := condT hc h
        conv => whnf
        have e := Option.some.inj h
        subst e
        repeat' first | with_reducible rfl | with_reducible exact True.intro | with_reducible assumption | (refine W.drawn TT_ok hmix1 rfl ?_; conv => whnf) | exact clA _ | (refine And.intro ?_ ?_ <;> conv => whnf) | exact clG _ | (refine gand ?_ h; assumption) | exact clN _ | fail
      · replace h := condF hc h
        conv => whnf
        replace h := bindS h
        obtain ⟨y136, hy136, h⟩ := h
        have c137 := fun (hg : (!(!y108)) = true) => c_ref08_Mac a4 _ (gdS hg hy136)
        replace h := bindS h
        obtain ⟨y138, hy138, h⟩ := h
        have c139 := fun (hg : (!(bif (!y108) then true else (!y136))) = true) => c_ref08_Time a6 _ (gdS hg hy138)
        repeat' first | with_reducible rfl | with_reducible exact True.intro | with_reducible assumption | refine parkI ?_ | (refine ⟨_, c137, ?_⟩; conv => whnf) | (refine ⟨_, c139, ?_⟩; conv => whnf) | (refine CallP.use c109 ?_; conv => whnf) | (refine ⟨_, _, CallP.at c109, ?_⟩; conv => whnf) | (refine ⟨_, fun _ => c109, ?_⟩; conv => whnf) | (refine W.drawn TT_ok hmix1 rfl ?_; conv => whnf) | exact clA _ | (refine And.intro ?_ ?_ <;> conv => whnf) | exact clG _ | (refine gand ?_ h; assumption) | exact clN _ | fail
        refine parkE (fun hc => ?_) (fun hc => ?_)
        · replace h := condT hc h
          conv => whnf
          replace h := bindS h
          obtain ⟨y140, hy140, h⟩ := h
          have c141 : (bif (decide (y102.2 = 1)) then (decide (y104.2 = 1)) else false) = true → CallP Try.prog 33 [(LV.agg [(LV.ro 1 (y102.1.Buckets.map (roC 4 EntryT.cells))), (I y102.1.Slots), (I y102.1.Age)]), (LV.agg [LV.nils, (I 0), (I 0)])] (LV.bool y140) := by first | exact fun (hg : (bif (decide (y102.2 = 1)) then (decide (y104.2 = 1)) else false) = true) => c_ref08_Same y102.1 (⟨[], 0, 0⟩ : TableT) _ (gdS hg hy140) | (simpa only [se_map, se_byL, se_len, se_ch, List.length_map] using fun (hg : (bif (decide (y102.2 = 1)) then (decide (y104.2 = 1)) else false) = true) => c_ref08_Same y102.1 (⟨[], 0, 0⟩ : TableT) _ (gdS hg hy140)) | exact fun (hg : (bif (decide (y102.2 = 1)) then (decide (y104.2 = 1)) else false) = true) => CallP.up (c_ref08_Same y102.1 (⟨[], 0, 0⟩ : TableT) _ (gdS hg hy140)) upT
          have e := Option.some.inj h
          subst e
          repeat' first | with_reducible rfl | with_reducible exact True.intro | with_reducible assumption | (refine ⟨_, c141, ?_⟩; conv => whnf) | (refine W.drawn TT_ok hmix1 rfl ?_; conv => whnf) | exact clA _ | (refine And.intro ?_ ?_ <;> conv => whnf) | exact clG _ | (refine gand ?_ h; assumption) | exact clN _ | fail
        · replace h := condF hc h
          conv => whnf
          replace h := bindS h
          obtain ⟨y142, hy142, h⟩ := h
          have c143 := fun (hg : (!(!decide (y104.2 = 0))) = true) => c_ref08_Find y98 a4 a6 _ (gdS hg hy142)
          repeat' first | with_reducible rfl | with_reducible exact True.intro | with_reducible assumption | refine parkI ?_ | (refine ⟨_, c143, ?_⟩; conv => whnf) | (refine W.drawn TT_ok hmix1 rfl ?_; conv => whnf) | exact clA _ | (refine And.intro ?_ ?_ <;> conv => whnf) | exact clG _ | (refine gand ?_ h; assumption) | exact clN _ | fail
          refine parkE (fun hc => ?_) (fun hc => ?_)
          · replace h := condT hc h
            conv => whnf
            have e := Option.some.inj h
            subst e
            repeat' first | with_reducible rfl | with_reducible exact True.intro | with_reducible assumption | (refine W.drawn TT_ok hmix1 rfl ?_; conv => whnf) | exact clA _ | (refine And.intro ?_ ?_ <;> conv => whnf) | exact clG _ | (refine gand ?_ h; assumption) | exact clN _ | fail
          · replace h := condF hc h
            conv => whnf
            replace h := bindS h
            obtain ⟨y144, hy144, h⟩ := h
            have c145 := c_ref08_Port a5 _ hy144
            repeat' first | with_reducible rfl | with_reducible exact True.intro | with_reducible assumption | refine parkI ?_ | (refine CallP.use c145 ?_; conv => whnf) | (refine ⟨_, _, CallP.at c145, ?_⟩; conv => whnf) | (refine ⟨_, fun _ => c145, ?_⟩; conv => whnf) | (refine W.drawn TT_ok hmix1 rfl ?_; conv => whnf) | exact clA _ | (refine And.intro ?_ ?_ <;> conv => whnf) | exact clG _ | (refine gand ?_ h; assumption) | exact clN _ | fail
            refine parkE (fun hc => ?_) (fun hc => ?_)
            · replace h := condT hc h
              conv => whnf
              replace h := bindS h
              obtain ⟨y146, hy146, h⟩ := h
              have c147 : (decide (y102.2 = 1)) = true → CallP Try.prog 33 [(LV.agg [(LV.ro 1 (y102.1.Buckets.map (roC 4 EntryT.cells))), (I y102.1.Slots), (I y102.1.Age)]), (LV.agg [LV.nils, (I 0), (I 0)])] (LV.bool y146) := by first | exact fun (hg : (decide (y102.2 = 1)) = true) => c_ref08_Same y102.1 (⟨[], 0, 0⟩ : TableT) _ (gdS hg hy146) | (simpa only [se_map, se_byL, se_len, se_ch, List.length_map] using fun (hg : (decide (y102.2 = 1)) = true) => c_ref08_Same y102.1 (⟨[], 0, 0⟩ : TableT) _ (gdS hg hy146)) | exact fun (hg : (decide (y102.2 = 1)) = true) => CallP.up (c_ref08_Same y102.1 (⟨[], 0, 0⟩ : TableT) _ (gdS hg hy146)) upT
              have e := Option.some.inj h
              subst e
              repeat' first | with_reducible rfl | with_reducible exact True.intro | with_reducible assumption | (refine ⟨_, c147, ?_⟩; conv => whnf) | (refine W.drawn TT_ok hmix1 rfl ?_; conv => whnf) | exact clA _ | (refine And.intro ?_ ?_ <;> conv => whnf) | exact clG _ | (refine gand ?_ h; assumption) | exact clN _ | fail
            · replace h := condF hc h
              conv => whnf
              replace h := bindS h
              obtain ⟨y148, hy148, h⟩ := h
              have c149 := fun (hg : (decide (y102.2 = 0)) = true) => c_ref08_Learn y98 a4 a5 a6 _ (gdS hg hy148)
              replace h := bindS h
              obtain ⟨y150, hy150, h⟩ := h
              have c151 := fun (hg : (decide (y102.2 = 0)) = true) => c_ref08_Same y102.1 y148 _ (gdS hg hy150)
              have e := Option.some.inj h
              subst e
              repeat' first | with_reducible rfl | with_reducible exact True.intro | with_reducible assumption | (refine ⟨_, c149, ?_⟩; conv => whnf) | (refine ⟨_, c151, ?_⟩; conv => whnf) | (refine W.drawn TT_ok hmix1 rfl ?_; conv => whnf) | exact clA _ | (refine And.intro ?_ ?_ <;> conv => whnf) | exact clG _ | (refine gand ?_ h; assumption) | exact clN _ | fail

end Go.RX
