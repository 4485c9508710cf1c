/- Plain functions, and what says that the program's functions compute them. -/
import Derived.Test.YtknjenjjhdhemaaGreatUe
set_option linter.unusedVariables false
set_option linter.unusedSimpArgs false
open Go Go.RX Go.Proofs
namespace Go.RX
set_option maxRecDepth 10000
set_option maxHeartbeats 4000000
attribute [local irreducible] CallW CallP LoopW W IntKind.wrap bitI
def ref07_Number (a0 : Int) : Option Bool :=
 some (bif (bif (bif (bif (decide (a0 = 1)) then true else (decide (a0 = 2))) then true else (decide (a0 = 4))) then true else (decide (a0 = 8))) then true else (decide (a0 = 16)))

theorem c_ref07_Number (a0 : Int) (r : Bool) (h : ref07_Number a0 = some r) : CallP Tryz.prog 64 [(I a0)] (LV.bool r) := by
 unfold ref07_Number at h
 refine .intro nlA (.intro TT_ok Tryz.func64 rfl rfl [0, 2] rfl ?_)
 conv => whnf
 have e := Option.some.inj h
 subst e
 repeat' first | exact rA _ | exact clA _ | (refine And.intro ?_ ?_ <;> conv => whnf) | exact clG _ | (refine gand ?_ h; assumption) | exact clN _ | fail

def ref08_Sizes (a0 : Int) (a1 : Int) (a2 : Int) : Option Bool :=
 (ref07_Number a0).bind fun y1 =>
 some (bif (bif (bif (bif y1 then (decide (1 ≤ a1)) else false) then (decide (a1 ≤ 4)) else false) then (decide (1 ≤ a2)) else false) then (decide (a2 ≤ 1048576)) else false)

theorem c_ref08_Sizes (a0 : Int) (a1 : Int) (a2 : Int) (r : Bool) (h : ref08_Sizes a0 a1 a2 = some r) : CallP Tryz.prog 32 [(I a0), (I a1), (I a2)] (LV.bool r) := by
 unfold ref08_Sizes at h
 refine .intro nlA (.intro TT_ok Tryz.func32 rfl rfl [0, 1, 2, 6] rfl ?_)
 conv => whnf
 replace h := bindS h
 obtain ⟨y1, hy1, h⟩ := h
 have c2 := c_ref07_Number a0 _ hy1
 have e := Option.some.inj h
 subst e
 repeat' first | exact rA _ | (refine CallP.use c2 ?_; conv => whnf) | exact clA _ | (refine And.intro ?_ ?_ <;> conv => whnf) | exact clG _ | (refine gand ?_ h; assumption) | exact clN _ | fail

def ref01_Right (a0 : Int) : Option Bool :=
 some (bif (decide (0 ≤ a0)) then (decide (a0 < 281474976710656)) else false)

theorem c_ref01_Right (a0 : Int) (r : Bool) (h : ref01_Right a0 = some r) : CallP Tryz.prog 40 [(I a0)] (LV.bool r) := by
 unfold ref01_Right at h
 refine .intro nlA (.intro TT_ok Tryz.func40 rfl rfl [0, 2] rfl ?_)
 conv => whnf
 have e := Option.some.inj h
 subst e
 repeat' first | exact rA _ | exact clA _ | (refine And.intro ?_ ?_ <;> conv => whnf) | exact clG _ | (refine gand ?_ h; assumption) | exact clN _ | fail

def ref01_Class (a0 : Int) : Option Int :=
 (bif (decide ((IntKind.i64.wrap ((a0).tdiv 16)) = 103282638848)) then
  some 2
 else
  (bif (decide ((((IntKind.i64.wrap ((a0).tdiv 1099511627776))).tmod 2) = 1)) then
   some 1
  else
   some 0))

theorem c_ref01_Class (a0 : Int) (r : Int) (h : ref01_Class a0 = some r) : CallP Tryz.prog 41 [(I a0)] (I r) := by
 unfold ref01_Class at h
 refine .intro nlA (.intro TT_ok Tryz.func41 rfl rfl [0, 2, 5, 9] rfl ?_)
 conv => whnf
 repeat' first | exact rA _ | refine parkI ?_ | exact (by decide : ((16 : Int) ≠ 0)) | (refine And.intro ?_ ?_ <;> conv => whnf) | fail
 refine parkE (fun hc => ?_) (fun hc => ?_)
 ·replace h := condT hc h
  conv => whnf
  have e := Option.some.inj h
  subst e
  repeat' first | exact rA _ | exact clA _ | (refine And.intro ?_ ?_ <;> conv => whnf) | exact clG _ | (refine gand ?_ h; assumption) | exact clN _ | fail
 ·replace h := condF hc h
  conv => whnf
  repeat' first | exact rA _ | refine parkI ?_ | exact (by decide : ((1099511627776 : Int) ≠ 0)) | exact (by decide : ((2 : Int) ≠ 0)) | (refine And.intro ?_ ?_ <;> conv => whnf) | fail
  refine parkE (fun hc => ?_) (fun hc => ?_)
  ·replace h := condT hc h
   conv => whnf
   have e := Option.some.inj h
   subst e
   repeat' first | exact rA _ | exact clA _ | (refine And.intro ?_ ?_ <;> conv => whnf) | exact clG _ | (refine gand ?_ h; assumption) | exact clN _ | fail
  ·replace h := condF hc h
   conv => whnf
   have e := Option.some.inj h
   subst e
   repeat' first | exact rA _ | exact clA _ | (refine And.intro ?_ ?_ <;> conv => whnf) | exact clG _ | (refine gand ?_ h; assumption) | exact clN _ | fail

def ref08_Mac (a0 : Int) : Option Bool :=
 (ref01_Right a0).bind fun y3 =>
 (gd y3 (ref01_Class a0)).bind fun y5 =>
 some (bif y3 then (decide (y5 = 0)) else false)

theorem c_ref08_Mac (a0 : Int) (r : Bool) (h : ref08_Mac a0 = some r) : CallP Tryz.prog 16 [(I a0)] (LV.bool r) := by
 unfold ref08_Mac at h
 refine .intro nlA (.intro TT_ok Tryz.func16 rfl rfl [0, 2] rfl ?_)
 conv => whnf
 replace h := bindS h
 obtain ⟨y3, hy3, h⟩ := h
 have c4 := c_ref01_Right a0 _ hy3
 replace h := bindS h
 obtain ⟨y5, hy5, h⟩ := h
 have c6 := fun (hg : y3 = true) => c_ref01_Class a0 _ (gdS hg hy5)
 have e := Option.some.inj h
 subst e
 repeat' first | exact rA _ | (refine ⟨_, c6, ?_⟩; conv => whnf) | (refine CallP.use c4 ?_; conv => whnf) | exact clA _ | (refine And.intro ?_ ?_ <;> conv => whnf) | exact clG _ | (refine gand ?_ h; assumption) | exact clN _ | fail

def ref08_Port (a0 : Int) : Option Bool :=
 some (bif (decide (0 ≤ a0)) then (decide (a0 ≤ 7)) else false)

theorem c_ref08_Port (a0 : Int) (r : Bool) (h : ref08_Port a0 = some r) : CallP Tryz.prog 14 [(I a0)] (LV.bool r) := by
 unfold ref08_Port at h
 refine .intro nlA (.intro TT_ok Tryz.func14 rfl rfl [0, 2] rfl ?_)
 conv => whnf
 have e := Option.some.inj h
 subst e
 repeat' first | exact rA _ | exact clA _ | (refine And.intro ?_ ?_ <;> conv => whnf) | exact clG _ | (refine gand ?_ h; assumption) | exact clN _ | fail

def ref08_Time (a0 : Int) : Option Bool :=
 some (bif (decide (0 ≤ a0)) then (decide (a0 ≤ 1099511627776)) else false)

theorem c_ref08_Time (a0 : Int) (r : Bool) (h : ref08_Time a0 = some r) : CallP Tryz.prog 12 [(I a0)] (LV.bool r) := by
 unfold ref08_Time at h
 refine .intro nlA (.intro TT_ok Tryz.func12 rfl rfl [0, 2] rfl ?_)
 conv => whnf
 have e := Option.some.inj h
 subst e
 repeat' first | exact rA _ | exact clA _ | (refine And.intro ?_ ?_ <;> conv => whnf) | exact clG _ | (refine gand ?_ h; assumption) | exact clN _ | fail

def ref01_Bytes_c0  (s18 : (Int × ByteArray × Int)) : Option (Step ByteArray (Int × ByteArray × Int)) :=
 (bif (decide (s18.2.2 < 6)) then
  (strP ([(IntKind.u8.wrap ((s18.1).tmod 256))] : (List Int))).bind fun z9 =>
  grd (z9.size + s18.2.1.size ≤ 9223372036854775807) <|
  some (.nxt ((IntKind.i64.wrap ((s18.1).tdiv 256)), (z9 ++ s18.2.1), (IntKind.i64.wrap (s18.2.2 + 1))))
 else
  some (.brk (s18.1, s18.2.1, s18.2.2)))

def ref01_Bytes (a0 : Int) : Option ByteArray :=
 aft (loopF 1000000 (ref01_Bytes_c0 ) (a0, (⟨#[]⟩ : ByteArray), 0)) fun s18 =>
 some s18.2.1

theorem c_ref01_Bytes (a0 : Int) (r : ByteArray) (h : ref01_Bytes a0 = some r) : CallP Tryz.prog 93 [(I a0)] (LV.str r) := by
 unfold ref01_Bytes at h
 refine .intro nlA (.intro TT_ok Tryz.func93 rfl rfl [0, 2, 3, 4, 6] rfl ?_)
 conv => whnf
 repeat' first | exact rA _ | refine parkI ?_ | (refine And.intro ?_ ?_ <;> conv => whnf) | fail
 replace h := aftS h
 obtain ⟨O18, hO18, r18⟩ := h
 refine LoopW.norm [(0, (I a0)), (3, (LV.str (⟨#[]⟩ : ByteArray))), (4, (I 0))] 0 [] ⟨(smT : ((I a0) : LV) = (I a0)), (smT : ((LV.str (⟨#[]⟩ : ByteArray)) : LV) = (LV.str (⟨#[]⟩ : ByteArray))), (smT : ((I 0) : LV) = (I 0)), trivial⟩ trivial blT rfl ?_
 refine LoopW.forF (fun s18 => [(0, (I s18.1)), (3, (LV.str s18.2.1)), (4, (I s18.2.2))]) (fun s18 => ⟨0, []⟩) hO18 (fun s18 o18 b18 K18 hret18 hbrk18 => ?_)
 unfold ref01_Bytes_c0 at b18
 refine LoopW.round TT_ok [0, 2, 3, 4, 6] ?_
 conv => whnf
 repeat' first | exact rA _ | refine parkI ?_ | (refine And.intro ?_ ?_ <;> conv => whnf) | fail
 refine parkE (fun hc => ?_) (fun hc => ?_)
 ·replace b18 := condT hc b18
  conv => whnf
  replace b18 := bindS b18
  obtain ⟨z9, hz9, b18⟩ := b18
  have i10 : [[(LV.int .u8 (IntKind.u8.wrap ((s18.1).tmod 256)))]] = byL z9 := by simpa only [se_map, se_byL] using strPF hz9
  replace b18 := grdS b18
  obtain ⟨g11, b18⟩ := b18
  repeat' first | exact rA _ | refine parkI ?_ | exact g11 | exact (by decide : ((256 : Int) ≠ 0)) | (refine ⟨rfl, _, i10, ?_⟩; conv => whnf) | exact (by decide : ((256 : Int) ≠ 0)) | exact clA _ | (refine And.intro ?_ ?_ <;> conv => whnf) | exact clN _ | fail
  have e := Option.some.inj b18
  refine LoopW.norm [(0, (I (IntKind.i64.wrap ((s18.1).tdiv 256)))), (3, (LV.str (z9 ++ s18.2.1))), (4, (I (IntKind.i64.wrap (s18.2.2 + 1))))] 0 [] ⟨(smT : ((I (IntKind.i64.wrap ((s18.1).tdiv 256))) : LV) = (I (IntKind.i64.wrap ((s18.1).tdiv 256)))), (smT : ((LV.str (z9 ++ s18.2.1)) : LV) = (LV.str (z9 ++ s18.2.1))), (smT : ((I (IntKind.i64.wrap (s18.2.2 + 1))) : LV) = (I (IntKind.i64.wrap (s18.2.2 + 1)))), trivial⟩ trivial blT rfl (K18 _ e.symm)
 ·replace b18 := condF hc b18
  conv => whnf
  have e := Option.some.inj b18
  replace e := hbrk18 _ e.symm
  rw [e] at r18
  dsimp only [aftM] at r18
  have e := Option.some.inj r18
  subst e
  repeat' first | exact rA _ | exact clA _ | (refine And.intro ?_ ?_ <;> conv => whnf) | exact clG _ | (refine gand ?_ h; assumption) | exact clN _ | fail

def ref07_turned_c0  (s20 : (Int × Int × Int × Int × Int)) : Option (Step Int (Int × Int × Int × Int × Int)) :=
 (bif (decide (s20.2.2.2.2 < 32)) then
  (bif (!decide (((s20.1).tmod 2) = ((s20.2.1).tmod 2))) then
   some (.nxt ((IntKind.i64.wrap ((s20.1).tdiv 2)), (IntKind.i64.wrap ((s20.2.1).tdiv 2)), (IntKind.i64.wrap (s20.2.2.1 + s20.2.2.2.1)), (IntKind.i64.wrap (2 * s20.2.2.2.1)), (IntKind.i64.wrap (s20.2.2.2.2 + 1))))
  else
   some (.nxt ((IntKind.i64.wrap ((s20.1).tdiv 2)), (IntKind.i64.wrap ((s20.2.1).tdiv 2)), s20.2.2.1, (IntKind.i64.wrap (2 * s20.2.2.2.1)), (IntKind.i64.wrap (s20.2.2.2.2 + 1)))))
 else
  some (.brk (s20.1, s20.2.1, s20.2.2.1, s20.2.2.2.1, s20.2.2.2.2)))

def ref07_turned (a0 : Int) (a1 : Int) : Option Int :=
 aft (loopF 1000000 (ref07_turned_c0 ) (a0, a1, 0, 1, 0)) fun s20 =>
 some s20.2.2.1

theorem c_ref07_turned (a0 : Int) (a1 : Int) (r : Int) (h : ref07_turned a0 a1 = some r) : CallP Tryz.prog 94 [(I a0), (I a1)] (I r) := by
 unfold ref07_turned at h
 refine .intro nlA (.intro TT_ok Tryz.func94 rfl rfl [0, 1, 4, 5, 6, 7, 9, 16] rfl ?_)
 conv => whnf
 repeat' first | exact rA _ | refine parkI ?_ | (refine And.intro ?_ ?_ <;> conv => whnf) | fail
 replace h := aftS h
 obtain ⟨O20, hO20, r20⟩ := h
 refine LoopW.norm [(0, (I a0)), (1, (I a1)), (5, (I 0)), (6, (I 1)), (7, (I 0))] 0 [] ⟨(smT : ((I a0) : LV) = (I a0)), (smT : ((I a1) : LV) = (I a1)), (smT : ((I 0) : LV) = (I 0)), (smT : ((I 1) : LV) = (I 1)), (smT : ((I 0) : LV) = (I 0)), trivial⟩ trivial blT rfl ?_
 refine LoopW.forF (fun s20 => [(0, (I s20.1)), (1, (I s20.2.1)), (5, (I s20.2.2.1)), (6, (I s20.2.2.2.1)), (7, (I s20.2.2.2.2))]) (fun s20 => ⟨0, []⟩) hO20 (fun s20 o20 b20 K20 hret20 hbrk20 => ?_)
 unfold ref07_turned_c0 at b20
 refine LoopW.round TT_ok [0, 1, 4, 5, 6, 7, 9, 16] ?_
 conv => whnf
 repeat' first | exact rA _ | refine parkI ?_ | (refine And.intro ?_ ?_ <;> conv => whnf) | fail
 refine parkE (fun hc => ?_) (fun hc => ?_)
 ·replace b20 := condT hc b20
  conv => whnf
  repeat' first | exact rA _ | refine parkI ?_ | exact (by decide : ((2 : Int) ≠ 0)) | exact (by decide : ((2 : Int) ≠ 0)) | (refine And.intro ?_ ?_ <;> conv => whnf) | fail
  refine parkE (fun hc => ?_) (fun hc => ?_)
  ·replace b20 := condT hc b20
   conv => whnf
   repeat' first | exact rA _ | refine parkI ?_ | exact (by decide : ((2 : Int) ≠ 0)) | exact (by decide : ((2 : Int) ≠ 0)) | (refine And.intro ?_ ?_ <;> conv => whnf) | fail
   have e := Option.some.inj b20
   refine LoopW.norm [(0, (I (IntKind.i64.wrap ((s20.1).tdiv 2)))), (1, (I (IntKind.i64.wrap ((s20.2.1).tdiv 2)))), (5, (I (IntKind.i64.wrap (s20.2.2.1 + s20.2.2.2.1)))), (6, (I (IntKind.i64.wrap (2 * s20.2.2.2.1)))), (7, (I (IntKind.i64.wrap (s20.2.2.2.2 + 1))))] 0 [] ⟨(smT : ((I (IntKind.i64.wrap ((s20.1).tdiv 2))) : LV) = (I (IntKind.i64.wrap ((s20.1).tdiv 2)))), (smT : ((I (IntKind.i64.wrap ((s20.2.1).tdiv 2))) : LV) = (I (IntKind.i64.wrap ((s20.2.1).tdiv 2)))), (smT : ((I (IntKind.i64.wrap (s20.2.2.1 + s20.2.2.2.1))) : LV) = (I (IntKind.i64.wrap (s20.2.2.1 + s20.2.2.2.1)))), (smT : ((I (IntKind.i64.wrap (2 * s20.2.2.2.1))) : LV) = (I (IntKind.i64.wrap (2 * s20.2.2.2.1)))), (smT : ((I (IntKind.i64.wrap (s20.2.2.2.2 + 1))) : LV) = (I (IntKind.i64.wrap (s20.2.2.2.2 + 1)))), trivial⟩ trivial blT rfl (K20 _ e.symm)
  ·replace b20 := condF hc b20
   conv => whnf
   repeat' first | exact rA _ | refine parkI ?_ | exact (by decide : ((2 : Int) ≠ 0)) | exact (by decide : ((2 : Int) ≠ 0)) | (refine And.intro ?_ ?_ <;> conv => whnf) | fail
   have e := Option.some.inj b20
   refine LoopW.norm [(0, (I (IntKind.i64.wrap ((s20.1).tdiv 2)))), (1, (I (IntKind.i64.wrap ((s20.2.1).tdiv 2)))), (5, (I s20.2.2.1)), (6, (I (IntKind.i64.wrap (2 * s20.2.2.2.1)))), (7, (I (IntKind.i64.wrap (s20.2.2.2.2 + 1))))] 0 [] ⟨(smT : ((I (IntKind.i64.wrap ((s20.1).tdiv 2))) : LV) = (I (IntKind.i64.wrap ((s20.1).tdiv 2)))), (smT : ((I (IntKind.i64.wrap ((s20.2.1).tdiv 2))) : LV) = (I (IntKind.i64.wrap ((s20.2.1).tdiv 2)))), (smT : ((I s20.2.2.1) : LV) = (I s20.2.2.1)), (smT : ((I (IntKind.i64.wrap (2 * s20.2.2.2.1))) : LV) = (I (IntKind.i64.wrap (2 * s20.2.2.2.1)))), (smT : ((I (IntKind.i64.wrap (s20.2.2.2.2 + 1))) : LV) = (I (IntKind.i64.wrap (s20.2.2.2.2 + 1)))), trivial⟩ trivial blT rfl (K20 _ e.symm)
 ·replace b20 := condF hc b20
  conv => whnf
  have e := Option.some.inj b20
  replace e := hbrk20 _ e.symm
  rw [e] at r20
  dsimp only [aftM] at r20
  have e := Option.some.inj r20
  subst e
  repeat' first | exact rA _ | exact clA _ | (refine And.intro ?_ ?_ <;> conv => whnf) | exact clG _ | (refine gand ?_ h; assumption) | exact clN _ | fail

def ref07_Sum_c0 (y9 : ByteArray) (s19 : (Int × Int)) : Option (Step Int (Int × Int)) :=
 (bif (decide (s19.2 < 6)) then
  (gixS y9 s19.2).bind fun v11 =>
  (ref07_turned s19.1 (IntKind.i64.wrap ((v11.toNat : Nat) : Int))).bind fun y13 =>
  some (.nxt ((((IntKind.i64.wrap (y13 * 16777619))).tmod 4294967296), (IntKind.i64.wrap (s19.2 + 1))))
 else
  some (.brk (s19.1, s19.2)))

def ref07_Sum (a0 : Int) : Option Int :=
 (ref01_Bytes a0).bind fun y9 =>
 aft (loopF 1000000 (ref07_Sum_c0 y9) (2166136261, 0)) fun s19 =>
 some s19.1

theorem c_ref07_Sum (a0 : Int) (r : Int) (h : ref07_Sum a0 = some r) : CallP Tryz.prog 83 [(I a0)] (I r) := by
 unfold ref07_Sum at h
 refine .intro nlA (.intro TT_ok Tryz.func83 rfl rfl [0, 2, 3, 4, 5, 9] rfl ?_)
 conv => whnf
 replace h := bindS h
 obtain ⟨y9, hy9, h⟩ := h
 have c10 := c_ref01_Bytes a0 _ hy9
 repeat' first | exact rA _ | refine parkI ?_ | (refine CallP.use c10 ?_; conv => whnf) | (refine And.intro ?_ ?_ <;> conv => whnf) | fail
 replace h := aftS h
 obtain ⟨O19, hO19, r19⟩ := h
 refine LoopW.norm [(3, (I 2166136261)), (4, (LV.str y9)), (5, (I 0))] 0 [] ⟨(smT : ((I 2166136261) : LV) = (I 2166136261)), rfl, (smT : ((I 0) : LV) = (I 0)), trivial⟩ trivial blT rfl ?_
 refine LoopW.forF (fun s19 => [(3, (I s19.1)), (4, (LV.str y9)), (5, (I s19.2))]) (fun s19 => ⟨0, []⟩) hO19 (fun s19 o19 b19 K19 hret19 hbrk19 => ?_)
 unfold ref07_Sum_c0 at b19
 refine LoopW.round TT_ok [0, 2, 3, 4, 5, 9] ?_
 conv => whnf
 repeat' first | exact rA _ | refine parkI ?_ | (refine And.intro ?_ ?_ <;> conv => whnf) | fail
 refine parkE (fun hc => ?_) (fun hc => ?_)
 ·replace b19 := condT hc b19
  conv => whnf
  replace b19 := bindS b19
  obtain ⟨v11, hv11, b19⟩ := b19
  have i12 := gixSF hv11
  replace b19 := bindS b19
  obtain ⟨y13, hy13, b19⟩ := b19
  have c14 := c_ref07_turned s19.1 (IntKind.i64.wrap ((v11.toNat : Nat) : Int)) _ hy13
  repeat' first | exact rA _ | refine parkI ?_ | (refine ⟨_, i12, ?_⟩; conv => whnf) | (refine CallP.use c14 ?_; conv => whnf) | exact (by decide : ((4294967296 : Int) ≠ 0)) | (refine And.intro ?_ ?_ <;> conv => whnf) | fail
  have e := Option.some.inj b19
  refine LoopW.norm [(3, (I (((IntKind.i64.wrap (y13 * 16777619))).tmod 4294967296))), (4, (LV.str y9)), (5, (I (IntKind.i64.wrap (s19.2 + 1))))] 0 [] ⟨(smT : ((I (((IntKind.i64.wrap (y13 * 16777619))).tmod 4294967296)) : LV) = (I (((IntKind.i64.wrap (y13 * 16777619))).tmod 4294967296))), rfl, (smT : ((I (IntKind.i64.wrap (s19.2 + 1))) : LV) = (I (IntKind.i64.wrap (s19.2 + 1)))), trivial⟩ trivial blT rfl (K19 _ e.symm)
 ·replace b19 := condF hc b19
  conv => whnf
  have e := Option.some.inj b19
  replace e := hbrk19 _ e.symm
  rw [e] at r19
  dsimp only [aftM] at r19
  have e := Option.some.inj r19
  subst e
  repeat' first | exact rA _ | exact clA _ | (refine And.intro ?_ ?_ <;> conv => whnf) | exact clG _ | (refine gand ?_ h; assumption) | exact clN _ | fail

def ref07_Bucket (a0 : Int) (a1 : Int) : Option Int :=
 (ref07_Sum a0).bind fun y9 =>
 grd ((a1 : Int) ≠ 0) <|
 some ((y9).tmod a1)

theorem c_ref07_Bucket (a0 : Int) (a1 : Int) (r : Int) (h : ref07_Bucket a0 a1 = some r) : CallP Tryz.prog 65 [(I a0), (I a1)] (I r) := by
 unfold ref07_Bucket at h
 refine .intro nlA (.intro TT_ok Tryz.func65 rfl rfl [0, 1, 4] rfl ?_)
 conv => whnf
 replace h := bindS h
 obtain ⟨y9, hy9, h⟩ := h
 have c10 := c_ref07_Sum a0 _ hy9
 replace h := grdS h
 obtain ⟨g11, h⟩ := h
 have e := Option.some.inj h
 subst e
 repeat' first | exact rA _ | exact g11 | (refine CallP.use c10 ?_; conv => whnf) | exact clA _ | (refine And.intro ?_ ?_ <;> conv => whnf) | exact clG _ | (refine gand ?_ h; assumption) | exact clN _ | fail

def ref08_entry (a0 : En) (a1 : Int) (a2 : Int) : Option Bool :=
 (ref08_Mac a0.Mac).bind fun y3 =>
 (gd y3 (ref08_Port a0.Port)).bind fun y5 =>
 (gd (bif y3 then y5 else false) (ref08_Time a0.Seen)).bind fun y7 =>
 (gd (bif (bif (bif y3 then y5 else false) then y7 else false) then (bif (!a0.Static) then true else (decide (a0.Seen = 0))) else false) (ref07_Bucket a0.Mac a2)).bind fun y9 =>
 some (bif (bif (bif (bif y3 then y5 else false) then y7 else false) then (bif (!a0.Static) then true else (decide (a0.Seen = 0))) else false) then (decide (y9 = a1)) else false)

theorem c_ref08_entry (a0 : En) (a1 : Int) (a2 : Int) (r : Bool) (h : ref08_entry a0 a1 a2 = some r) : CallP Tryz.prog 33 [(LV.agg [(I a0.Mac), (I a0.Port), (I a0.Seen), (LV.bool a0.Static)]), (I a1), (I a2)] (LV.bool r) := by
 unfold ref08_entry at h
 refine .intro nlA (.intro TT_ok Tryz.func33 rfl rfl [0, 1, 2, 3, 6] rfl ?_)
 conv => whnf
 replace h := bindS h
 obtain ⟨y3, hy3, h⟩ := h
 have c4 := c_ref08_Mac a0.Mac _ hy3
 replace h := bindS h
 obtain ⟨y5, hy5, h⟩ := h
 have c6 := fun (hg : y3 = true) => c_ref08_Port a0.Port _ (gdS hg hy5)
 replace h := bindS h
 obtain ⟨y7, hy7, h⟩ := h
 have c8 := fun (hg : (bif y3 then y5 else false) = true) => c_ref08_Time a0.Seen _ (gdS hg hy7)
 replace h := bindS h
 obtain ⟨y9, hy9, h⟩ := h
 have c10 := fun (hg : (bif (bif (bif y3 then y5 else false) then y7 else false) then (bif (!a0.Static) then true else (decide (a0.Seen = 0))) else false) = true) => c_ref07_Bucket a0.Mac a2 _ (gdS hg hy9)
 have e := Option.some.inj h
 subst e
 repeat' first | exact rA _ | (refine ⟨_, c6, ?_⟩; conv => whnf) | (refine ⟨_, c8, ?_⟩; conv => whnf) | (refine ⟨_, c10, ?_⟩; conv => whnf) | (refine CallP.use c4 ?_; conv => whnf) | exact clA _ | (refine And.intro ?_ ?_ <;> conv => whnf) | exact clG _ | (refine gand ?_ h; assumption) | exact clN _ | fail

def ref08_Place_c0 (a1 : Int) (k21 : Nat) (x21 : En) (s21 : Unit) : Option (Step Int Unit) :=
 (bif (decide (x21.Mac = a1)) then
  some (.ret ((k21 : Nat) : Int))
 else
  some (.nxt ()))

def ref08_Place (a0 : (List En)) (a1 : Int) : Option Int :=
 aft (rangeL (ref08_Place_c0 a1) a0 ()) fun s21 =>
 some (-1)

theorem c_ref08_Place (a0 : (List En)) (a1 : Int) (r : Int) (h : ref08_Place a0 a1 = some r) : CallP Tryz.prog 34 [(LV.ro 4 (a0.map EnC)), (I a1)] (I r) := by
 unfold ref08_Place at h
 refine .intro nlA (.intro TT_ok Tryz.func34 rfl rfl [0, 1, 4, 5, 6, 7, 8, 9, 10, 17] rfl ?_)
 conv => whnf
 repeat' first | exact rA _ | refine parkI ?_ | (refine And.intro ?_ ?_ <;> conv => whnf) | fail
 replace h := aftS h
 obtain ⟨O21, hO21, r21⟩ := h
 refine LoopW.norm [(1, (I a1)), (7, (LV.ro 4 (a0.map EnC))), (8, (I (((a0.map EnC).length : Nat) : Int))), (9, (I ((0 : Nat) : Int)))] 0 [] ⟨rfl, rfl, rfl, rfl, trivial⟩ trivial blT rfl ?_
 refine LoopW.forR (fun k21 s21 => [(1, (I a1)), (7, (LV.ro 4 (a0.map EnC))), (8, (I (((a0.map EnC).length : Nat) : Int))), (9, (I ((k21 : Nat) : Int)))]) (fun s21 => ⟨0, []⟩) hO21 (fun hl21 s21 hs21 => ?_) (fun hl21 k21 x21 s21 o21 hk21 hx21 b21 K21 hret21 hbrk21 => ?_)
 ·rw [hs21] at r21
  dsimp only [aftM] at r21
  have hd : decide (((a0.length : Nat) : Int) < (((a0.map EnC).length : Nat) : Int)) = false := by rw [decide_eq_false_iff_not]; (try simp only [se_len, se_ch, List.length_map]); omega
  refine LoopW.round TT_ok [0, 1, 4, 5, 6, 7, 8, 9, 10, 17] ?_
  conv => whnf
  repeat' first | exact rA _ | refine parkI ?_ | (refine And.intro ?_ ?_ <;> conv => whnf) | fail
  refine parkE (fun hc => ?_) (fun hc => ?_)
  ·exact (Bool.false_ne_true (hd.symm.trans hc)).elim
  ·clear hd
   conv => whnf
   have e := Option.some.inj r21
   subst e
   repeat' first | exact rA _ | exact clA _ | (refine And.intro ?_ ?_ <;> conv => whnf) | exact clG _ | (refine gand ?_ h; assumption) | exact clN _ | fail
 ·unfold ref08_Place_c0 at b21
  have hd : decide (((k21 : Nat) : Int) < (((a0.map EnC).length : Nat) : Int)) = true := by rw [decide_eq_true_eq]; (try simp only [se_len, se_ch, List.length_map] at hk21); (try simp only [se_len, se_ch, List.length_map]); omega
  refine LoopW.round TT_ok [0, 1, 4, 5, 6, 7, 8, 9, 10, 17] ?_
  conv => whnf
  repeat' first | exact rA _ | refine parkI ?_ | (refine And.intro ?_ ?_ <;> conv => whnf) | fail
  refine parkE (fun hc => ?_) (fun hc => ?_)
  ·clear hd
   conv => whnf
   repeat' first | exact rA _ | refine parkI ?_ | (refine ⟨_, (kixF (f := EnC) hx21), ?_⟩; conv => whnf) | (refine And.intro ?_ ?_ <;> conv => whnf) | fail
   refine parkE (fun hc => ?_) (fun hc => ?_)
   ·replace b21 := condT hc b21
    conv => whnf
    have e := Option.some.inj b21
    replace e := hret21 _ e.symm
    rw [e] at r21
    replace e := Option.some.inj r21
    subst e
    repeat' first | exact rA _ | exact clA _ | (refine And.intro ?_ ?_ <;> conv => whnf) | exact clG _ | (refine gand ?_ h; assumption) | exact clN _ | fail
   ·replace b21 := condF hc b21
    conv => whnf
    repeat' first | exact rA _ | refine parkI ?_ | (refine And.intro ?_ ?_ <;> conv => whnf) | fail
    have e := Option.some.inj b21
    refine LoopW.norm [(1, (I a1)), (7, (LV.ro 4 (a0.map EnC))), (8, (I (((a0.map EnC).length : Nat) : Int))), (9, (I ((k21 + 1 : Nat) : Int)))] 0 [] ⟨rfl, rfl, rfl, (congrArg (LV.int .i64) (w64_nat _ (by omega))), trivial⟩ trivial blT rfl (K21 _ e.symm)
  ·exact (Bool.false_ne_true (hc.symm.trans hd)).elim

def ref08_Right_c1 (a0 : Tb) (k16 : Nat) (x16 : (List En)) (k17 : Nat) (x17 : En) (s17 : Unit) : Option (Step (Step Bool Unit) Unit) :=
 (ref08_entry x17 ((k16 : Nat) : Int) ((a0.Buckets.length : Nat) : Int)).bind fun y3 =>
 grd (((!(!y3)) = true → (0 : Int) ≤ ((k17 : Nat) : Int) ∧ ((k17 : Nat) : Int) ≤ ((x16.length : Nat) : Int))) <|
 (gd (!(!y3)) (ref08_Place (x16.take (((k17 : Nat) : Int) : Int).toNat) x17.Mac)).bind fun y6 =>
 (bif (bif (!y3) then true else (decide (0 ≤ y6))) then
  some (.ret (.ret false))
 else
  some (.nxt ()))

def ref08_Right_c0 (a0 : Tb) (k16 : Nat) (x16 : (List En)) (s16 : Unit) : Option (Step Bool Unit) :=
 (bif (decide (a0.Slots < ((x16.length : Nat) : Int))) then
  some (.ret false)
 else
  aft (rangeL (ref08_Right_c1 a0 k16 x16) x16 ()) fun s17 =>
  some (.nxt ()))

def ref08_Right (a0 : Tb) : Option Bool :=
 (ref08_Sizes ((a0.Buckets.length : Nat) : Int) a0.Slots a0.Age).bind fun y1 =>
 (bif (!y1) then
  some false
 else
  aft (rangeL (ref08_Right_c0 a0) a0.Buckets ()) fun s16 =>
  some true)

theorem c_ref08_Right (a0 : Tb) (r : Bool) (h : ref08_Right a0 = some r) : CallP Tryz.prog 9 [(LV.agg [(LV.ro 1 (a0.Buckets.map (roC 4 EnC))), (I a0.Slots), (I a0.Age)])] (LV.bool r) := by
 unfold ref08_Right at h
 refine .intro nlA (.intro TT_ok Tryz.func9 rfl rfl [0, 1, 2, 3, 4, 5, 6, 15, 17, 18, 19, 20, 28, 29, 30, 31, 32, 51] rfl ?_)
 conv => whnf
 replace h := bindS h
 obtain ⟨y1, hy1, h⟩ := h
 have c2 : CallP Tryz.prog 32 [(I (((a0.Buckets.map (roC 4 EnC)).length : Nat) : Int)), (I a0.Slots), (I a0.Age)] (LV.bool y1) := by first | exact c_ref08_Sizes ((a0.Buckets.length : Nat) : Int) a0.Slots a0.Age _ hy1 | (simpa only [se_map, se_byL, se_len, se_ch, List.length_map] using c_ref08_Sizes ((a0.Buckets.length : Nat) : Int) a0.Slots a0.Age _ hy1)
 repeat' first | exact rA _ | refine parkI ?_ | (refine CallP.use c2 ?_; conv => whnf) | (refine ⟨_, _, CallP.at c2, ?_⟩; conv => whnf) | (refine ⟨_, fun _ => c2, ?_⟩; conv => whnf) | (refine W.drawn TT_ok hmix1 rfl ?_; conv => whnf) | exact clA _ | (refine And.intro ?_ ?_ <;> conv => whnf) | exact clG _ | (refine gand ?_ h; assumption) | exact clN _ | fail
 refine parkE (fun hc => ?_) (fun hc => ?_)
 ·replace h := condT hc h
  conv => whnf
  have e := Option.some.inj h
  subst e
  repeat' first | exact rA _ | (refine W.drawn TT_ok hmix1 rfl ?_; conv => whnf) | exact clA _ | (refine And.intro ?_ ?_ <;> conv => whnf) | exact clG _ | (refine gand ?_ h; assumption) | exact clN _ | fail
 ·replace h := condF hc h
  conv => whnf
  repeat' first | exact rA _ | refine parkI ?_ | (refine W.drawn TT_ok hmix1 rfl ?_; conv => whnf) | exact clA _ | (refine And.intro ?_ ?_ <;> conv => whnf) | exact clG _ | (refine gand ?_ h; assumption) | exact clN _ | fail
  replace h := aftS h
  obtain ⟨O16, hO16, r16⟩ := h
  refine LoopW.norm [(1, (LV.ptr 0 0 0)), (17, (LV.ro 1 (a0.Buckets.map (roC 4 EnC)))), (18, (I (((a0.Buckets.map (roC 4 EnC)).length : Nat) : Int))), (19, (I ((0 : Nat) : Int)))] 1 [(0, (.row 24 3 [[(LV.ro 1 (a0.Buckets.map (roC 4 EnC))), (I a0.Slots), (I a0.Age)]]))] ⟨rfl, rfl, rfl, rfl, trivial⟩ ⟨⟨rfl, rfl, blT⟩, trivial⟩ blT rfl ?_
  refine LoopW.forR (fun k16 s16 => [(1, (LV.ptr 0 0 0)), (17, (LV.ro 1 (a0.Buckets.map (roC 4 EnC)))), (18, (I (((a0.Buckets.map (roC 4 EnC)).length : Nat) : Int))), (19, (I ((k16 : Nat) : Int)))]) (fun s16 => ⟨1, [(0, (.row 24 3 [[(LV.ro 1 (a0.Buckets.map (roC 4 EnC))), (I a0.Slots), (I a0.Age)]]))]⟩) hO16 (fun hl16 s16 hs16 => ?_) (fun hl16 k16 x16 s16 o16 hk16 hx16 b16 K16 hret16 hbrk16 => ?_)
  ·rw [hs16] at r16
   dsimp only [aftM] at r16
   have hd : decide (((a0.Buckets.length : Nat) : Int) < (((a0.Buckets.map (roC 4 EnC)).length : Nat) : Int)) = false := by rw [decide_eq_false_iff_not]; (try simp only [se_len, se_ch, List.length_map]); omega
   refine LoopW.round TT_ok [0, 1, 2, 3, 4, 5, 6, 15, 17, 18, 19, 20, 28, 29, 30, 31, 32, 51] ?_
   conv => whnf
   repeat' first | exact rA _ | refine parkI ?_ | (refine W.drawn TT_ok hmix1 rfl ?_; conv => whnf) | exact clA _ | (refine And.intro ?_ ?_ <;> conv => whnf) | exact clG _ | (refine gand ?_ h; assumption) | exact clN _ | fail
   refine parkE (fun hc => ?_) (fun hc => ?_)
   ·exact (Bool.false_ne_true (hd.symm.trans hc)).elim
   ·clear hd
    conv => whnf
    have e := Option.some.inj r16
    subst e
    repeat' first | exact rA _ | (refine W.drawn TT_ok hmix1 rfl ?_; conv => whnf) | exact clA _ | (refine And.intro ?_ ?_ <;> conv => whnf) | exact clG _ | (refine gand ?_ h; assumption) | exact clN _ | fail
  ·unfold ref08_Right_c0 at b16
   have hd : decide (((k16 : Nat) : Int) < (((a0.Buckets.map (roC 4 EnC)).length : Nat) : Int)) = true := by rw [decide_eq_true_eq]; (try simp only [se_len, se_ch, List.length_map] at hk16); (try simp only [se_len, se_ch, List.length_map]); omega
   refine LoopW.round TT_ok [0, 1, 2, 3, 4, 5, 6, 15, 17, 18, 19, 20, 28, 29, 30, 31, 32, 51] ?_
   conv => whnf
   repeat' first | exact rA _ | refine parkI ?_ | (refine W.drawn TT_ok hmix1 rfl ?_; conv => whnf) | exact clA _ | (refine And.intro ?_ ?_ <;> conv => whnf) | exact clG _ | (refine gand ?_ h; assumption) | exact clN _ | fail
   refine parkE (fun hc => ?_) (fun hc => ?_)
   ·clear hd
    conv => whnf
    repeat' first | exact rA _ | refine parkI ?_ | (refine ⟨_, (kixF (f := (roC 4 EnC)) hx16), ?_⟩; conv => whnf) | (refine W.drawn TT_ok hmix1 rfl ?_; conv => whnf) | exact clA _ | (refine And.intro ?_ ?_ <;> conv => whnf) | exact clG _ | (refine gand ?_ h; assumption) | exact clN _ | fail
    refine parkE (fun hc => ?_) (fun hc => ?_)
    ·replace b16 := condT (by first | exact hc | (simpa only [se_len, se_ch, List.length_map] using hc; done) | (have h0 : (decide (a0.Slots < (((x16.map EnC).length : Nat) : Int))) = true := hc; simpa only [se_len, se_ch, List.length_map] using h0)) b16
     conv => whnf
     have e := Option.some.inj b16
     replace e := hret16 _ e.symm
     rw [e] at r16
     replace e := Option.some.inj r16
     subst e
     repeat' first | exact rA _ | (refine W.drawn TT_ok hmix1 rfl ?_; conv => whnf) | exact clA _ | (refine And.intro ?_ ?_ <;> conv => whnf) | exact clG _ | (refine gand ?_ h; assumption) | exact clN _ | fail
    ·replace b16 := condF (by first | exact hc | (simpa only [se_len, se_ch, List.length_map] using hc; done) | (have h0 : (decide (a0.Slots < (((x16.map EnC).length : Nat) : Int))) = false := hc; simpa only [se_len, se_ch, List.length_map] using h0)) b16
     conv => whnf
     repeat' first | exact rA _ | refine parkI ?_ | (refine W.drawn TT_ok hmix1 rfl ?_; conv => whnf) | exact clA _ | (refine And.intro ?_ ?_ <;> conv => whnf) | exact clG _ | (refine gand ?_ h; assumption) | exact clN _ | fail
     replace b16 := aftS b16
     obtain ⟨O17, hO17, r17⟩ := b16
     refine LoopW.norm [(1, (LV.ptr 0 0 0)), (3, (I ((k16 : Nat) : Int))), (4, (LV.ro 4 (x16.map EnC))), (17, (LV.ro 1 (a0.Buckets.map (roC 4 EnC)))), (18, (I (((a0.Buckets.map (roC 4 EnC)).length : Nat) : Int))), (19, (I ((k16 : Nat) : Int))), (29, (LV.ro 4 (x16.map EnC))), (30, (I (((x16.map EnC).length : Nat) : Int))), (31, (I ((0 : Nat) : Int)))] 1 [(0, (.row 24 3 [[(LV.ro 1 (a0.Buckets.map (roC 4 EnC))), (I a0.Slots), (I a0.Age)]]))] ⟨rfl, rfl, rfl, rfl, rfl, rfl, rfl, rfl, rfl, trivial⟩ ⟨⟨rfl, rfl, blT⟩, trivial⟩ blT rfl ?_
     refine LoopW.forR (fun k17 s17 => [(1, (LV.ptr 0 0 0)), (3, (I ((k16 : Nat) : Int))), (4, (LV.ro 4 (x16.map EnC))), (17, (LV.ro 1 (a0.Buckets.map (roC 4 EnC)))), (18, (I (((a0.Buckets.map (roC 4 EnC)).length : Nat) : Int))), (19, (I ((k16 : Nat) : Int))), (29, (LV.ro 4 (x16.map EnC))), (30, (I (((x16.map EnC).length : Nat) : Int))), (31, (I ((k17 : Nat) : Int)))]) (fun s17 => ⟨1, [(0, (.row 24 3 [[(LV.ro 1 (a0.Buckets.map (roC 4 EnC))), (I a0.Slots), (I a0.Age)]]))]⟩) hO17 (fun hl17 s17 hs17 => ?_) (fun hl17 k17 x17 s17 o17 hk17 hx17 b17 K17 hret17 hbrk17 => ?_)
     ·rw [hs17] at r17
      dsimp only [aftM] at r17
      have hd : decide (((x16.length : Nat) : Int) < (((x16.map EnC).length : Nat) : Int)) = false := by rw [decide_eq_false_iff_not]; (try simp only [se_len, se_ch, List.length_map]); omega
      refine LoopW.round TT_ok [0, 1, 2, 3, 4, 5, 6, 15, 17, 18, 19, 20, 28, 29, 30, 31, 32, 51] ?_
      conv => whnf
      repeat' first | exact rA _ | refine parkI ?_ | (refine W.drawn TT_ok hmix1 rfl ?_; conv => whnf) | exact clA _ | (refine And.intro ?_ ?_ <;> conv => whnf) | exact clG _ | (refine gand ?_ h; assumption) | exact clN _ | fail
      refine parkE (fun hc => ?_) (fun hc => ?_)
      ·exact (Bool.false_ne_true (hd.symm.trans hc)).elim
      ·clear hd
       conv => whnf
       repeat' first | exact rA _ | refine parkI ?_ | (refine W.drawn TT_ok hmix1 rfl ?_; conv => whnf) | exact clA _ | (refine And.intro ?_ ?_ <;> conv => whnf) | exact clG _ | (refine gand ?_ h; assumption) | exact clN _ | fail
       have e := Option.some.inj r17
       refine LoopW.norm [(1, (LV.ptr 0 0 0)), (17, (LV.ro 1 (a0.Buckets.map (roC 4 EnC)))), (18, (I (((a0.Buckets.map (roC 4 EnC)).length : Nat) : Int))), (19, (I ((k16 + 1 : Nat) : Int)))] 1 [(0, (.row 24 3 [[(LV.ro 1 (a0.Buckets.map (roC 4 EnC))), (I a0.Slots), (I a0.Age)]]))] ⟨rfl, rfl, rfl, (congrArg (LV.int .i64) (w64_nat _ (by omega))), trivial⟩ ⟨⟨rfl, rfl, blT⟩, trivial⟩ blT rfl (K16 _ e.symm)
     ·unfold ref08_Right_c1 at b17
      have hd : decide (((k17 : Nat) : Int) < (((x16.map EnC).length : Nat) : Int)) = true := by rw [decide_eq_true_eq]; (try simp only [se_len, se_ch, List.length_map] at hk17); (try simp only [se_len, se_ch, List.length_map]); omega
      refine LoopW.round TT_ok [0, 1, 2, 3, 4, 5, 6, 15, 17, 18, 19, 20, 28, 29, 30, 31, 32, 51] ?_
      conv => whnf
      repeat' first | exact rA _ | refine parkI ?_ | (refine W.drawn TT_ok hmix1 rfl ?_; conv => whnf) | exact clA _ | (refine And.intro ?_ ?_ <;> conv => whnf) | exact clG _ | (refine gand ?_ h; assumption) | exact clN _ | fail
      refine parkE (fun hc => ?_) (fun hc => ?_)
      ·clear hd
       conv => whnf
       replace b17 := bindS b17
       obtain ⟨y3, hy3, b17⟩ := b17
       have c4 : CallP Tryz.prog 33 [(LV.agg [(I x17.Mac), (I x17.Port), (I x17.Seen), (LV.bool x17.Static)]), (I ((k16 : Nat) : Int)), (I (((a0.Buckets.map (roC 4 EnC)).length : Nat) : Int))] (LV.bool y3) := by first | exact c_ref08_entry x17 ((k16 : Nat) : Int) ((a0.Buckets.length : Nat) : Int) _ hy3 | (simpa only [se_map, se_byL, se_len, se_ch, List.length_map] using c_ref08_entry x17 ((k16 : Nat) : Int) ((a0.Buckets.length : Nat) : Int) _ hy3)
       replace b17 := grdS b17
       obtain ⟨g5, b17⟩ := b17
       replace g5 : ((!(!y3)) = true → (0 : Int) ≤ ((k17 : Nat) : Int) ∧ ((k17 : Nat) : Int) ≤ (((x16.map EnC).length : Nat) : Int)) := by simpa only [se_len, se_ch, List.length_map] using g5
       replace b17 := bindS b17
       obtain ⟨y6, hy6, b17⟩ := b17
       have c7 : (!(!y3)) = true → CallP Tryz.prog 34 [(LV.ro 4 ((x16.map EnC).take (((k17 : Nat) : Int) : Int).toNat)), (I x17.Mac)] (I y6) := by first | exact fun (hg : (!(!y3)) = true) => c_ref08_Place (x16.take (((k17 : Nat) : Int) : Int).toNat) x17.Mac _ (gdS hg hy6) | (simpa only [se_map, se_byL, se_len, se_ch, List.length_map] using fun (hg : (!(!y3)) = true) => c_ref08_Place (x16.take (((k17 : Nat) : Int) : Int).toNat) x17.Mac _ (gdS hg hy6))
       repeat' first | exact rA _ | refine parkI ?_ | (refine ⟨_, (kixF (f := EnC) hx17), ?_⟩; conv => whnf) | (refine ⟨_, c7, ?_⟩; conv => whnf) | exact g5 | (refine CallP.use c4 ?_; conv => whnf) | (refine ⟨_, _, CallP.at c4, ?_⟩; conv => whnf) | (refine ⟨_, fun _ => c4, ?_⟩; conv => whnf) | (refine W.drawn TT_ok hmix1 rfl ?_; conv => whnf) | exact clA _ | (refine And.intro ?_ ?_ <;> conv => whnf) | exact clG _ | (refine gand ?_ h; assumption) | exact clN _ | fail
       refine parkE (fun hc => ?_) (fun hc => ?_)
       ·replace b17 := condT hc b17
        conv => whnf
        have e := Option.some.inj b17
        replace e := hret17 _ e.symm
        rw [e] at r17
        replace e := Option.some.inj r17
        replace e := hret16 _ e.symm
        rw [e] at r16
        replace e := Option.some.inj r16
        subst e
        repeat' first | exact rA _ | (refine W.drawn TT_ok hmix1 rfl ?_; conv => whnf) | exact clA _ | (refine And.intro ?_ ?_ <;> conv => whnf) | exact clG _ | (refine gand ?_ h; assumption) | exact clN _ | fail
       ·replace b17 := condF hc b17
        conv => whnf
        repeat' first | exact rA _ | refine parkI ?_ | (refine W.drawn TT_ok hmix1 rfl ?_; conv => whnf) | exact clA _ | (refine And.intro ?_ ?_ <;> conv => whnf) | exact clG _ | (refine gand ?_ h; assumption) | exact clN _ | fail
        have e := Option.some.inj b17
        refine LoopW.norm [(1, (LV.ptr 0 0 0)), (3, (I ((k16 : Nat) : Int))), (4, (LV.ro 4 (x16.map EnC))), (17, (LV.ro 1 (a0.Buckets.map (roC 4 EnC)))), (18, (I (((a0.Buckets.map (roC 4 EnC)).length : Nat) : Int))), (19, (I ((k16 : Nat) : Int))), (29, (LV.ro 4 (x16.map EnC))), (30, (I (((x16.map EnC).length : Nat) : Int))), (31, (I ((k17 + 1 : Nat) : Int)))] 1 [(0, (.row 24 3 [[(LV.ro 1 (a0.Buckets.map (roC 4 EnC))), (I a0.Slots), (I a0.Age)]]))] ⟨rfl, rfl, rfl, rfl, rfl, rfl, rfl, rfl, (congrArg (LV.int .i64) (w64_nat _ (by omega))), trivial⟩ ⟨⟨rfl, rfl, blT⟩, trivial⟩ blT rfl (K17 _ e.symm)
      ·exact (Bool.false_ne_true (hc.symm.trans hd)).elim
   ·exact (Bool.false_ne_true (hc.symm.trans hd)).elim

def ref08_rows_c0 (a1 : (List En)) (k23 : Nat) (x23 : En) (s23 : Unit) : Option (Step Bool Unit) :=
 (gix a1 ((k23 : Nat) : Int)).bind fun v3 =>
 (bif (!((decide (x23.Mac = v3.Mac)) && ((decide (x23.Port = v3.Port)) && ((decide (x23.Seen = v3.Seen)) && ((x23.Static == v3.Static) && true))))) then
  some (.ret false)
 else
  some (.nxt ()))

def ref08_rows (a0 : (List En)) (a1 : (List En)) : Option Bool :=
 (bif (!decide (((a0.length : Nat) : Int) = ((a1.length : Nat) : Int))) then
  some false
 else
  aft (rangeL (ref08_rows_c0 a1) a0 ()) fun s23 =>
  some true)

theorem c_ref08_rows (a0 : (List En)) (a1 : (List En)) (r : Bool) (h : ref08_rows a0 a1 = some r) : CallP Tryz.prog 38 [(LV.ro 4 (a0.map EnC)), (LV.ro 4 (a1.map EnC))] (LV.bool r) := by
 unfold ref08_rows at h
 refine .intro nlA (.intro TT_ok Tryz.func38 rfl rfl [0, 1, 4, 5, 10, 12, 13, 14, 24] rfl ?_)
 conv => whnf
 repeat' first | exact rA _ | refine parkI ?_ | (refine W.drawn TT_ok hmix1 rfl ?_; conv => whnf) | exact clA _ | (refine And.intro ?_ ?_ <;> conv => whnf) | exact clG _ | (refine gand ?_ h; assumption) | exact clN _ | fail
 refine parkE (fun hc => ?_) (fun hc => ?_)
 ·replace h := condT (by first | exact hc | (simpa only [se_len, se_ch, List.length_map] using hc; done) | (have h0 : (!decide ((((a0.map EnC).length : Nat) : Int) = (((a1.map EnC).length : Nat) : Int))) = true := hc; simpa only [se_len, se_ch, List.length_map] using h0)) h
  conv => whnf
  have e := Option.some.inj h
  subst e
  repeat' first | exact rA _ | (refine W.drawn TT_ok hmix1 rfl ?_; conv => whnf) | exact clA _ | (refine And.intro ?_ ?_ <;> conv => whnf) | exact clG _ | (refine gand ?_ h; assumption) | exact clN _ | fail
 ·replace h := condF (by first | exact hc | (simpa only [se_len, se_ch, List.length_map] using hc; done) | (have h0 : (!decide ((((a0.map EnC).length : Nat) : Int) = (((a1.map EnC).length : Nat) : Int))) = false := hc; simpa only [se_len, se_ch, List.length_map] using h0)) h
  conv => whnf
  repeat' first | exact rA _ | refine parkI ?_ | (refine W.drawn TT_ok hmix1 rfl ?_; conv => whnf) | exact clA _ | (refine And.intro ?_ ?_ <;> conv => whnf) | exact clG _ | (refine gand ?_ h; assumption) | exact clN _ | fail
  replace h := aftS h
  obtain ⟨O23, hO23, r23⟩ := h
  refine LoopW.norm [(0, (LV.ro 4 (a0.map EnC))), (1, (LV.ro 4 (a1.map EnC))), (12, (I (((a0.map EnC).length : Nat) : Int))), (13, (I ((0 : Nat) : Int)))] 0 [] ⟨rfl, rfl, rfl, rfl, trivial⟩ trivial blT rfl ?_
  refine LoopW.forR (fun k23 s23 => [(0, (LV.ro 4 (a0.map EnC))), (1, (LV.ro 4 (a1.map EnC))), (12, (I (((a0.map EnC).length : Nat) : Int))), (13, (I ((k23 : Nat) : Int)))]) (fun s23 => ⟨0, []⟩) hO23 (fun hl23 s23 hs23 => ?_) (fun hl23 k23 x23 s23 o23 hk23 hx23 b23 K23 hret23 hbrk23 => ?_)
  ·rw [hs23] at r23
   dsimp only [aftM] at r23
   have hd : decide (((a0.length : Nat) : Int) < (((a0.map EnC).length : Nat) : Int)) = false := by rw [decide_eq_false_iff_not]; (try simp only [se_len, se_ch, List.length_map]); omega
   refine LoopW.round TT_ok [0, 1, 4, 5, 10, 12, 13, 14, 24] ?_
   conv => whnf
   repeat' first | exact rA _ | refine parkI ?_ | (refine W.drawn TT_ok hmix1 rfl ?_; conv => whnf) | exact clA _ | (refine And.intro ?_ ?_ <;> conv => whnf) | exact clG _ | (refine gand ?_ h; assumption) | exact clN _ | fail
   refine parkE (fun hc => ?_) (fun hc => ?_)
   ·exact (Bool.false_ne_true (hd.symm.trans hc)).elim
   ·clear hd
    conv => whnf
    have e := Option.some.inj r23
    subst e
    repeat' first | exact rA _ | (refine W.drawn TT_ok hmix1 rfl ?_; conv => whnf) | exact clA _ | (refine And.intro ?_ ?_ <;> conv => whnf) | exact clG _ | (refine gand ?_ h; assumption) | exact clN _ | fail
  ·unfold ref08_rows_c0 at b23
   have hd : decide (((k23 : Nat) : Int) < (((a0.map EnC).length : Nat) : Int)) = true := by rw [decide_eq_true_eq]; (try simp only [se_len, se_ch, List.length_map] at hk23); (try simp only [se_len, se_ch, List.length_map]); omega
   refine LoopW.round TT_ok [0, 1, 4, 5, 10, 12, 13, 14, 24] ?_
   conv => whnf
   repeat' first | exact rA _ | refine parkI ?_ | (refine W.drawn TT_ok hmix1 rfl ?_; conv => whnf) | exact clA _ | (refine And.intro ?_ ?_ <;> conv => whnf) | exact clG _ | (refine gand ?_ h; assumption) | exact clN _ | fail
   refine parkE (fun hc => ?_) (fun hc => ?_)
   ·clear hd
    conv => whnf
    replace b23 := bindS b23
    obtain ⟨v3, hv3, b23⟩ := b23
    have i4 := gixF (f := EnC) hv3
    repeat' first | exact rA _ | refine parkI ?_ | (refine ⟨_, (kixF (f := EnC) hx23), ?_⟩; conv => whnf) | (refine ⟨_, i4, ?_⟩; conv => whnf) | (refine W.drawn TT_ok hmix1 rfl ?_; conv => whnf) | exact clA _ | (refine And.intro ?_ ?_ <;> conv => whnf) | exact clG _ | (refine gand ?_ h; assumption) | exact clN _ | fail
    refine parkE (fun hc => ?_) (fun hc => ?_)
    ·replace b23 := condT hc b23
     conv => whnf
     have e := Option.some.inj b23
     replace e := hret23 _ e.symm
     rw [e] at r23
     replace e := Option.some.inj r23
     subst e
     repeat' first | exact rA _ | (refine W.drawn TT_ok hmix1 rfl ?_; conv => whnf) | exact clA _ | (refine And.intro ?_ ?_ <;> conv => whnf) | exact clG _ | (refine gand ?_ h; assumption) | exact clN _ | fail
    ·replace b23 := condF hc b23
     conv => whnf
     repeat' first | exact rA _ | refine parkI ?_ | (refine W.drawn TT_ok hmix1 rfl ?_; conv => whnf) | exact clA _ | (refine And.intro ?_ ?_ <;> conv => whnf) | exact clG _ | (refine gand ?_ h; assumption) | exact clN _ | fail
     have e := Option.some.inj b23
     refine LoopW.norm [(0, (LV.ro 4 (a0.map EnC))), (1, (LV.ro 4 (a1.map EnC))), (12, (I (((a0.map EnC).length : Nat) : Int))), (13, (I ((k23 + 1 : Nat) : Int)))] 0 [] ⟨rfl, rfl, rfl, (congrArg (LV.int .i64) (w64_nat _ (by omega))), trivial⟩ trivial blT rfl (K23 _ e.symm)
   ·exact (Bool.false_ne_true (hc.symm.trans hd)).elim

def ref08_Same_c0 (a1 : Tb) (k22 : Nat) (x22 : (List En)) (s22 : Unit) : Option (Step Bool Unit) :=
 (gix a1.Buckets ((k22 : Nat) : Int)).bind fun v1 =>
 (ref08_rows x22 v1).bind fun y3 =>
 (bif (!y3) then
  some (.ret false)
 else
  some (.nxt ()))

def ref08_Same (a0 : Tb) (a1 : Tb) : Option Bool :=
 (bif (bif (bif (!decide (a0.Slots = a1.Slots)) then true else (!decide (a0.Age = a1.Age))) then true else (!decide (((a0.Buckets.length : Nat) : Int) = ((a1.Buckets.length : Nat) : Int)))) then
  some false
 else
  aft (rangeL (ref08_Same_c0 a1) a0.Buckets ()) fun s22 =>
  some true)

theorem c_ref08_Same (a0 : Tb) (a1 : Tb) (r : Bool) (h : ref08_Same a0 a1 = some r) : CallP Tryz.prog 11 [(LV.agg [(LV.ro 1 (a0.Buckets.map (roC 4 EnC))), (I a0.Slots), (I a0.Age)]), (LV.agg [(LV.ro 1 (a1.Buckets.map (roC 4 EnC))), (I a1.Slots), (I a1.Age)])] (LV.bool r) := by
 unfold ref08_Same at h
 refine .intro nlA (.intro TT_ok Tryz.func11 rfl rfl [0, 1, 2, 3, 4, 5, 26, 29, 30, 31, 44] rfl ?_)
 conv => whnf
 repeat' first | exact rA _ | refine parkI ?_ | (refine W.drawn TT_ok hmix1 rfl ?_; conv => whnf) | exact clA _ | (refine And.intro ?_ ?_ <;> conv => whnf) | exact clG _ | (refine gand ?_ h; assumption) | exact clN _ | fail
 refine parkE (fun hc => ?_) (fun hc => ?_)
 ·replace h := condT (by first | exact hc | (simpa only [se_len, se_ch, List.length_map] using hc; done) | (have h0 : (bif (bif (!decide (a0.Slots = a1.Slots)) then true else (!decide (a0.Age = a1.Age))) then true else (!decide ((((a0.Buckets.map (roC 4 EnC)).length : Nat) : Int) = (((a1.Buckets.map (roC 4 EnC)).length : Nat) : Int)))) = true := hc; simpa only [se_len, se_ch, List.length_map] using h0)) h
  conv => whnf
  have e := Option.some.inj h
  subst e
  repeat' first | exact rA _ | (refine W.drawn TT_ok hmix1 rfl ?_; conv => whnf) | exact clA _ | (refine And.intro ?_ ?_ <;> conv => whnf) | exact clG _ | (refine gand ?_ h; assumption) | exact clN _ | fail
 ·replace h := condF (by first | exact hc | (simpa only [se_len, se_ch, List.length_map] using hc; done) | (have h0 : (bif (bif (!decide (a0.Slots = a1.Slots)) then true else (!decide (a0.Age = a1.Age))) then true else (!decide ((((a0.Buckets.map (roC 4 EnC)).length : Nat) : Int) = (((a1.Buckets.map (roC 4 EnC)).length : Nat) : Int)))) = false := hc; simpa only [se_len, se_ch, List.length_map] using h0)) h
  conv => whnf
  repeat' first | exact rA _ | refine parkI ?_ | (refine W.drawn TT_ok hmix1 rfl ?_; conv => whnf) | exact clA _ | (refine And.intro ?_ ?_ <;> conv => whnf) | exact clG _ | (refine gand ?_ h; assumption) | exact clN _ | fail
  replace h := aftS h
  obtain ⟨O22, hO22, r22⟩ := h
  refine LoopW.norm [(2, (LV.ptr 0 0 0)), (3, (LV.ptr 1 0 0)), (29, (I (((a0.Buckets.map (roC 4 EnC)).length : Nat) : Int))), (30, (I ((0 : Nat) : Int)))] 2 [(0, (.row 24 3 [[(LV.ro 1 (a0.Buckets.map (roC 4 EnC))), (I a0.Slots), (I a0.Age)]])), (1, (.row 24 3 [[(LV.ro 1 (a1.Buckets.map (roC 4 EnC))), (I a1.Slots), (I a1.Age)]]))] ⟨rfl, rfl, rfl, rfl, trivial⟩ ⟨⟨rfl, rfl, blT⟩, ⟨⟨rfl, rfl, blT⟩, trivial⟩⟩ blT rfl ?_
  refine LoopW.forR (fun k22 s22 => [(2, (LV.ptr 0 0 0)), (3, (LV.ptr 1 0 0)), (29, (I (((a0.Buckets.map (roC 4 EnC)).length : Nat) : Int))), (30, (I ((k22 : Nat) : Int)))]) (fun s22 => ⟨2, [(0, (.row 24 3 [[(LV.ro 1 (a0.Buckets.map (roC 4 EnC))), (I a0.Slots), (I a0.Age)]])), (1, (.row 24 3 [[(LV.ro 1 (a1.Buckets.map (roC 4 EnC))), (I a1.Slots), (I a1.Age)]]))]⟩) hO22 (fun hl22 s22 hs22 => ?_) (fun hl22 k22 x22 s22 o22 hk22 hx22 b22 K22 hret22 hbrk22 => ?_)
  ·rw [hs22] at r22
   dsimp only [aftM] at r22
   have hd : decide (((a0.Buckets.length : Nat) : Int) < (((a0.Buckets.map (roC 4 EnC)).length : Nat) : Int)) = false := by rw [decide_eq_false_iff_not]; (try simp only [se_len, se_ch, List.length_map]); omega
   refine LoopW.round TT_ok [0, 1, 2, 3, 4, 5, 26, 29, 30, 31, 44] ?_
   conv => whnf
   repeat' first | exact rA _ | refine parkI ?_ | (refine W.drawn TT_ok hmix1 rfl ?_; conv => whnf) | exact clA _ | (refine And.intro ?_ ?_ <;> conv => whnf) | exact clG _ | (refine gand ?_ h; assumption) | exact clN _ | fail
   refine parkE (fun hc => ?_) (fun hc => ?_)
   ·exact (Bool.false_ne_true (hd.symm.trans hc)).elim
   ·clear hd
    conv => whnf
    have e := Option.some.inj r22
    subst e
    repeat' first | exact rA _ | (refine W.drawn TT_ok hmix1 rfl ?_; conv => whnf) | exact clA _ | (refine And.intro ?_ ?_ <;> conv => whnf) | exact clG _ | (refine gand ?_ h; assumption) | exact clN _ | fail
  ·unfold ref08_Same_c0 at b22
   have hd : decide (((k22 : Nat) : Int) < (((a0.Buckets.map (roC 4 EnC)).length : Nat) : Int)) = true := by rw [decide_eq_true_eq]; (try simp only [se_len, se_ch, List.length_map] at hk22); (try simp only [se_len, se_ch, List.length_map]); omega
   refine LoopW.round TT_ok [0, 1, 2, 3, 4, 5, 26, 29, 30, 31, 44] ?_
   conv => whnf
   repeat' first | exact rA _ | refine parkI ?_ | (refine W.drawn TT_ok hmix1 rfl ?_; conv => whnf) | exact clA _ | (refine And.intro ?_ ?_ <;> conv => whnf) | exact clG _ | (refine gand ?_ h; assumption) | exact clN _ | fail
   refine parkE (fun hc => ?_) (fun hc => ?_)
   ·clear hd
    conv => whnf
    replace b22 := bindS b22
    obtain ⟨v1, hv1, b22⟩ := b22
    have i2 := gixF (f := (roC 4 EnC)) hv1
    replace b22 := bindS b22
    obtain ⟨y3, hy3, b22⟩ := b22
    have c4 := c_ref08_rows x22 v1 _ hy3
    repeat' first | exact rA _ | refine parkI ?_ | (refine ⟨_, (kixF (f := (roC 4 EnC)) hx22), ?_⟩; conv => whnf) | (refine ⟨_, i2, ?_⟩; conv => whnf) | (refine CallP.use c4 ?_; conv => whnf) | (refine ⟨_, _, CallP.at c4, ?_⟩; conv => whnf) | (refine ⟨_, fun _ => c4, ?_⟩; conv => whnf) | (refine W.drawn TT_ok hmix1 rfl ?_; conv => whnf) | exact clA _ | (refine And.intro ?_ ?_ <;> conv => whnf) | exact clG _ | (refine gand ?_ h; assumption) | exact clN _ | fail
    refine parkE (fun hc => ?_) (fun hc => ?_)
    ·replace b22 := condT hc b22
     conv => whnf
     have e := Option.some.inj b22
     replace e := hret22 _ e.symm
     rw [e] at r22
     replace e := Option.some.inj r22
     subst e
     repeat' first | exact rA _ | (refine W.drawn TT_ok hmix1 rfl ?_; conv => whnf) | exact clA _ | (refine And.intro ?_ ?_ <;> conv => whnf) | exact clG _ | (refine gand ?_ h; assumption) | exact clN _ | fail
    ·replace b22 := condF hc b22
     conv => whnf
     repeat' first | exact rA _ | refine parkI ?_ | (refine W.drawn TT_ok hmix1 rfl ?_; conv => whnf) | exact clA _ | (refine And.intro ?_ ?_ <;> conv => whnf) | exact clG _ | (refine gand ?_ h; assumption) | exact clN _ | fail
     have e := Option.some.inj b22
     refine LoopW.norm [(2, (LV.ptr 0 0 0)), (3, (LV.ptr 1 0 0)), (29, (I (((a0.Buckets.map (roC 4 EnC)).length : Nat) : Int))), (30, (I ((k22 + 1 : Nat) : Int)))] 2 [(0, (.row 24 3 [[(LV.ro 1 (a0.Buckets.map (roC 4 EnC))), (I a0.Slots), (I a0.Age)]])), (1, (.row 24 3 [[(LV.ro 1 (a1.Buckets.map (roC 4 EnC))), (I a1.Slots), (I a1.Age)]]))] ⟨rfl, rfl, rfl, (congrArg (LV.int .i64) (w64_nat _ (by omega))), trivial⟩ ⟨⟨rfl, rfl, blT⟩, ⟨⟨rfl, rfl, blT⟩, trivial⟩⟩ blT rfl (K22 _ e.symm)
   ·exact (Bool.false_ne_true (hc.symm.trans hd)).elim

def ref08_Old (a0 : Tb) (a1 : En) (a2 : Int) : Option Bool :=
 some (bif (!a1.Static) then (decide (a0.Age < (IntKind.i64.wrap (a2 - a1.Seen)))) else false)

theorem c_ref08_Old (a0 : Tb) (a1 : En) (a2 : Int) (r : Bool) (h : ref08_Old a0 a1 a2 = some r) : CallP Tryz.prog 39 [(LV.agg [(LV.ro 1 (a0.Buckets.map (roC 4 EnC))), (I a0.Slots), (I a0.Age)]), (LV.agg [(I a1.Mac), (I a1.Port), (I a1.Seen), (LV.bool a1.Static)]), (I a2)] (LV.bool r) := by
 unfold ref08_Old at h
 refine .intro nlA (.intro TT_ok Tryz.func39 rfl rfl [0, 1, 2, 3, 4, 6] rfl ?_)
 conv => whnf
 have e := Option.some.inj h
 subst e
 repeat' first | exact rA _ | exact clA _ | (refine And.intro ?_ ?_ <;> conv => whnf) | exact clG _ | (refine gand ?_ h; assumption) | exact clN _ | fail

def ref08_Sweep_c1 (a0 : Tb) (a1 : Int) (k25 : Nat) (x25 : En) (s25 : (List En)) : Option (Step (Step Tb (List (List En))) (List En)) :=
 (ref08_Old a0 x25 a1).bind fun y1 =>
 (bif (!y1) then
  grd (fits ((s25 ++ ([x25] : (List En))) : List En).length 32) <|
  some (.nxt (s25 ++ ([x25] : (List En))))
 else
  some (.nxt s25))

def ref08_Sweep_c0 (a0 : Tb) (a1 : Int) (k24 : Nat) (x24 : (List En)) (s24 : (List (List En))) : Option (Step Tb (List (List En))) :=
 aft (rangeL (ref08_Sweep_c1 a0 a1) x24 ([] : (List En))) fun s25 =>
 grd (fits ((s24 ++ ([s25] : (List (List En)))) : List (List En)).length 24) <|
 some (.nxt (s24 ++ ([s25] : (List (List En)))))

def ref08_Sweep (a0 : Tb) (a1 : Int) : Option Tb :=
 aft (rangeL (ref08_Sweep_c0 a0 a1) a0.Buckets ([] : (List (List En)))) fun s24 =>
 some (⟨s24, a0.Slots, a0.Age⟩ : Tb)

theorem c_ref08_Sweep (a0 : Tb) (a1 : Int) (r : Tb) (h : ref08_Sweep a0 a1 = some r) : CallP Tryz.prog 13 [(LV.agg [(LV.ro 1 (a0.Buckets.map (roC 4 EnC))), (I a0.Slots), (I a0.Age)]), (I a1)] (LV.agg [(LV.ro 1 (r.Buckets.map (roC 4 EnC))), (I r.Slots), (I r.Age)]) := by
 unfold ref08_Sweep at h
 refine .intro nlA (.intro TT_ok Tryz.func13 rfl rfl [0, 1, 2, 4, 5, 7, 8, 10, 13, 14, 15, 16, 20, 21, 22, 23, 30] rfl ?_)
 conv => whnf
 repeat' first | exact rA _ | refine parkI ?_ | (refine And.intro ?_ ?_ <;> conv => whnf) | fail
 replace h := aftS h
 obtain ⟨O24, hO24, r24⟩ := h
 refine LoopW.norm [(1, (I a1)), (2, (LV.ptr 0 0 0)), (4, (LV.ptr 1 0 0)), (5, (LV.sl 2 0 (([] : (List (List En))).map (roC 4 EnC)).length)), (13, (LV.ro 1 (a0.Buckets.map (roC 4 EnC)))), (14, (I (((a0.Buckets.map (roC 4 EnC)).length : Nat) : Int))), (15, (I ((0 : Nat) : Int)))] 3 [(0, (.row 24 3 [[(LV.ro 1 (a0.Buckets.map (roC 4 EnC))), (I a0.Slots), (I a0.Age)]])), (1, (.row 24 3 [[LV.nils, (I 0), (I 0)]])), (2, (.row 39 1 (([] : (List (List En))).map (roC 4 EnC))))] ⟨rfl, rfl, rfl, (by exact congrArg (LV.sl 2 0) (clL _ : 0 = (([] : (List (List En))).map (roC 4 EnC)).length)), rfl, rfl, rfl, trivial⟩ ⟨⟨rfl, rfl, blT⟩, ⟨⟨rfl, rfl, blT⟩, ⟨⟨(congrArg (fun q => some (Blk.row 39 1 q)) (by first | (simp only [se_map, se_byL, se_len, se_ch, List.length_map]; done) | (simp only [se_map, se_byL, se_len, se_ch, List.length_map, roC]; done) : (([] : List (List LV)) : List (List LV)) = (([] : (List (List En))).map (roC 4 EnC)))), rfl, NLss_bel (NLss_map' _)⟩, trivial⟩⟩⟩ blT rfl ?_
 refine LoopW.forR (fun k24 s24 => [(1, (I a1)), (2, (LV.ptr 0 0 0)), (4, (LV.ptr 1 0 0)), (5, (LV.sl 2 0 (s24.map (roC 4 EnC)).length)), (13, (LV.ro 1 (a0.Buckets.map (roC 4 EnC)))), (14, (I (((a0.Buckets.map (roC 4 EnC)).length : Nat) : Int))), (15, (I ((k24 : Nat) : Int)))]) (fun s24 => ⟨3, [(0, (.row 24 3 [[(LV.ro 1 (a0.Buckets.map (roC 4 EnC))), (I a0.Slots), (I a0.Age)]])), (1, (.row 24 3 [[LV.nils, (I 0), (I 0)]])), (2, (.row 39 1 (s24.map (roC 4 EnC))))]⟩) hO24 (fun hl24 s24 hs24 => ?_) (fun hl24 k24 x24 s24 o24 hk24 hx24 b24 K24 hret24 hbrk24 => ?_)
 ·rw [hs24] at r24
  dsimp only [aftM] at r24
  have hd : decide (((a0.Buckets.length : Nat) : Int) < (((a0.Buckets.map (roC 4 EnC)).length : Nat) : Int)) = false := by rw [decide_eq_false_iff_not]; (try simp only [se_len, se_ch, List.length_map]); omega
  refine LoopW.round TT_ok [0, 1, 2, 4, 5, 7, 8, 10, 13, 14, 15, 16, 20, 21, 22, 23, 30] ?_
  conv => whnf
  repeat' first | exact rA _ | refine parkI ?_ | (refine And.intro ?_ ?_ <;> conv => whnf) | fail
  refine parkE (fun hc => ?_) (fun hc => ?_)
  ·exact (Bool.false_ne_true (hd.symm.trans hc)).elim
  ·clear hd
   conv => whnf
   have e := Option.some.inj r24
   subst e
   repeat' first | exact rA _ | exact clA _ | (refine And.intro ?_ ?_ <;> conv => whnf) | exact clG _ | (refine gand ?_ h; assumption) | exact clN _ | fail
 ·unfold ref08_Sweep_c0 at b24
  have hd : decide (((k24 : Nat) : Int) < (((a0.Buckets.map (roC 4 EnC)).length : Nat) : Int)) = true := by rw [decide_eq_true_eq]; (try simp only [se_len, se_ch, List.length_map] at hk24); (try simp only [se_len, se_ch, List.length_map]); omega
  refine LoopW.round TT_ok [0, 1, 2, 4, 5, 7, 8, 10, 13, 14, 15, 16, 20, 21, 22, 23, 30] ?_
  conv => whnf
  repeat' first | exact rA _ | refine parkI ?_ | (refine And.intro ?_ ?_ <;> conv => whnf) | fail
  refine parkE (fun hc => ?_) (fun hc => ?_)
  ·clear hd
   conv => whnf
   repeat' first | exact rA _ | refine parkI ?_ | (refine ⟨_, (kixF (f := (roC 4 EnC)) hx24), ?_⟩; conv => whnf) | (refine And.intro ?_ ?_ <;> conv => whnf) | fail
   replace b24 := aftS b24
   obtain ⟨O25, hO25, r25⟩ := b24
   refine LoopW.norm [(1, (I a1)), (2, (LV.ptr 0 0 0)), (4, (LV.ptr 1 0 0)), (5, (LV.sl 2 0 (s24.map (roC 4 EnC)).length)), (8, (LV.sl 3 0 (([] : (List En)).map EnC).length)), (13, (LV.ro 1 (a0.Buckets.map (roC 4 EnC)))), (14, (I (((a0.Buckets.map (roC 4 EnC)).length : Nat) : Int))), (15, (I ((k24 : Nat) : Int))), (20, (LV.ro 4 (x24.map EnC))), (21, (I (((x24.map EnC).length : Nat) : Int))), (22, (I ((0 : Nat) : Int)))] 4 [(0, (.row 24 3 [[(LV.ro 1 (a0.Buckets.map (roC 4 EnC))), (I a0.Slots), (I a0.Age)]])), (1, (.row 24 3 [[LV.nils, (I 0), (I 0)]])), (2, (.row 39 1 (s24.map (roC 4 EnC)))), (3, (.row 42 4 (([] : (List En)).map EnC)))] ⟨rfl, rfl, rfl, rfl, (by exact congrArg (LV.sl 3 0) (clL _ : 0 = (([] : (List En)).map EnC).length)), rfl, rfl, rfl, rfl, rfl, rfl, trivial⟩ ⟨⟨rfl, rfl, blT⟩, ⟨⟨rfl, rfl, blT⟩, ⟨⟨rfl, rfl, NLss_bel (NLss_map' _)⟩, ⟨⟨(congrArg (fun q => some (Blk.row 42 4 q)) (smT : (([] : List (List LV)) : List (List LV)) = (([] : (List En)).map EnC))), rfl, NLss_bel (NLss_map' _)⟩, trivial⟩⟩⟩⟩ blT rfl ?_
   refine LoopW.forR (fun k25 s25 => [(1, (I a1)), (2, (LV.ptr 0 0 0)), (4, (LV.ptr 1 0 0)), (5, (LV.sl 2 0 (s24.map (roC 4 EnC)).length)), (8, (LV.sl 3 0 (s25.map EnC).length)), (13, (LV.ro 1 (a0.Buckets.map (roC 4 EnC)))), (14, (I (((a0.Buckets.map (roC 4 EnC)).length : Nat) : Int))), (15, (I ((k24 : Nat) : Int))), (20, (LV.ro 4 (x24.map EnC))), (21, (I (((x24.map EnC).length : Nat) : Int))), (22, (I ((k25 : Nat) : Int)))]) (fun s25 => ⟨4, [(0, (.row 24 3 [[(LV.ro 1 (a0.Buckets.map (roC 4 EnC))), (I a0.Slots), (I a0.Age)]])), (1, (.row 24 3 [[LV.nils, (I 0), (I 0)]])), (2, (.row 39 1 (s24.map (roC 4 EnC)))), (3, (.row 42 4 (s25.map EnC)))]⟩) hO25 (fun hl25 s25 hs25 => ?_) (fun hl25 k25 x25 s25 o25 hk25 hx25 b25 K25 hret25 hbrk25 => ?_)
   ·rw [hs25] at r25
    dsimp only [aftM] at r25
    have hd : decide (((x24.length : Nat) : Int) < (((x24.map EnC).length : Nat) : Int)) = false := by rw [decide_eq_false_iff_not]; (try simp only [se_len, se_ch, List.length_map]); omega
    refine LoopW.round TT_ok [0, 1, 2, 4, 5, 7, 8, 10, 13, 14, 15, 16, 20, 21, 22, 23, 30] ?_
    conv => whnf
    repeat' first | exact rA _ | refine parkI ?_ | (refine And.intro ?_ ?_ <;> conv => whnf) | fail
    refine parkE (fun hc => ?_) (fun hc => ?_)
    ·exact (Bool.false_ne_true (hd.symm.trans hc)).elim
    ·clear hd
     conv => whnf
     replace r25 := grdS r25
     obtain ⟨g4, r25⟩ := r25
     replace g4 : fits (((s24.map (roC 4 EnC)) ++ [[(LV.ro 4 (s25.map EnC))]])).length 24 := by simpa only [se_len, se_ch, List.length_map] using g4
     repeat' first | exact rA _ | refine parkI ?_ | exact g4 | exact clA _ | (refine And.intro ?_ ?_ <;> conv => whnf) | exact clN _ | fail
     have e := Option.some.inj r25
     refine LoopW.ren [(0, 0), (1, 1), (5, 2)] [(1, (I a1)), (2, (LV.ptr 0 0 0)), (4, (LV.ptr 1 0 0)), (5, (LV.sl 2 0 ((s24 ++ ([s25] : (List (List En)))).map (roC 4 EnC)).length)), (13, (LV.ro 1 (a0.Buckets.map (roC 4 EnC)))), (14, (I (((a0.Buckets.map (roC 4 EnC)).length : Nat) : Int))), (15, (I ((k24 + 1 : Nat) : Int)))] 3 [(0, (.row 24 3 [[(LV.ro 1 (a0.Buckets.map (roC 4 EnC))), (I a0.Slots), (I a0.Age)]])), (1, (.row 24 3 [[LV.nils, (I 0), (I 0)]])), (2, (.row 39 1 ((s24 ++ ([s25] : (List (List En)))).map (roC 4 EnC))))] rfl ⟨rfl, rfl, rfl, (by exact congrArg (LV.sl 2 0) (clL _ : (((s24.map (roC 4 EnC)) ++ [[(LV.ro 4 (s25.map EnC))]])).length = ((s24 ++ ([s25] : (List (List En)))).map (roC 4 EnC)).length)), rfl, rfl, (congrArg (LV.int .i64) (w64_nat _ (by omega))), trivial⟩ ⟨⟨rfl, rfl, .inl ⟨rfl, nlT⟩⟩, rfl, rfl, ⟨⟨rfl, rfl, .inl ⟨rfl, nlT⟩⟩, rfl, rfl, ⟨⟨rfl, rfl, .inl ⟨(by first | (simp only [se_map, se_byL, se_len, se_ch, List.length_map]; done) | (simp only [se_map, se_byL, se_len, se_ch, List.length_map, roC]; done) : (((s24.map (roC 4 EnC)) ++ [[(LV.ro 4 (s25.map EnC))]]) : List (List LV)) = ((s24 ++ ([s25] : (List (List En)))).map (roC 4 EnC))), nlT⟩⟩, rfl, rfl, trivial⟩⟩⟩ rfl (K24 _ e.symm)
   ·unfold ref08_Sweep_c1 at b25
    have hd : decide (((k25 : Nat) : Int) < (((x24.map EnC).length : Nat) : Int)) = true := by rw [decide_eq_true_eq]; (try simp only [se_len, se_ch, List.length_map] at hk25); (try simp only [se_len, se_ch, List.length_map]); omega
    refine LoopW.round TT_ok [0, 1, 2, 4, 5, 7, 8, 10, 13, 14, 15, 16, 20, 21, 22, 23, 30] ?_
    conv => whnf
    repeat' first | exact rA _ | refine parkI ?_ | (refine And.intro ?_ ?_ <;> conv => whnf) | fail
    refine parkE (fun hc => ?_) (fun hc => ?_)
    ·clear hd
     conv => whnf
     replace b25 := bindS b25
     obtain ⟨y1, hy1, b25⟩ := b25
     have c2 := c_ref08_Old a0 x25 a1 _ hy1
     repeat' first | exact rA _ | refine parkI ?_ | (refine ⟨_, (kixF (f := EnC) hx25), ?_⟩; conv => whnf) | (refine CallP.use c2 ?_; conv => whnf) | (refine And.intro ?_ ?_ <;> conv => whnf) | fail
     refine parkE (fun hc => ?_) (fun hc => ?_)
     ·replace b25 := condT hc b25
      conv => whnf
      replace b25 := grdS b25
      obtain ⟨g3, b25⟩ := b25
      replace g3 : fits (((s25.map EnC) ++ [[(I x25.Mac), (I x25.Port), (I x25.Seen), (LV.bool x25.Static)]])).length 32 := by simpa only [se_len, se_ch, List.length_map] using g3
      repeat' first | exact rA _ | refine parkI ?_ | exact g3 | exact clA _ | (refine And.intro ?_ ?_ <;> conv => whnf) | exact clN _ | fail
      have e := Option.some.inj b25
      refine LoopW.ren [(0, 0), (1, 1), (2, 2), (6, 3)] [(1, (I a1)), (2, (LV.ptr 0 0 0)), (4, (LV.ptr 1 0 0)), (5, (LV.sl 2 0 (s24.map (roC 4 EnC)).length)), (8, (LV.sl 3 0 ((s25 ++ ([x25] : (List En))).map EnC).length)), (13, (LV.ro 1 (a0.Buckets.map (roC 4 EnC)))), (14, (I (((a0.Buckets.map (roC 4 EnC)).length : Nat) : Int))), (15, (I ((k24 : Nat) : Int))), (20, (LV.ro 4 (x24.map EnC))), (21, (I (((x24.map EnC).length : Nat) : Int))), (22, (I ((k25 + 1 : Nat) : Int)))] 4 [(0, (.row 24 3 [[(LV.ro 1 (a0.Buckets.map (roC 4 EnC))), (I a0.Slots), (I a0.Age)]])), (1, (.row 24 3 [[LV.nils, (I 0), (I 0)]])), (2, (.row 39 1 (s24.map (roC 4 EnC)))), (3, (.row 42 4 ((s25 ++ ([x25] : (List En))).map EnC)))] rfl ⟨rfl, rfl, rfl, rfl, (by exact congrArg (LV.sl 3 0) (clL _ : (((s25.map EnC) ++ [[(I x25.Mac), (I x25.Port), (I x25.Seen), (LV.bool x25.Static)]])).length = ((s25 ++ ([x25] : (List En))).map EnC).length)), rfl, rfl, rfl, rfl, rfl, (congrArg (LV.int .i64) (w64_nat _ (by omega))), trivial⟩ ⟨⟨rfl, rfl, .inl ⟨rfl, nlT⟩⟩, rfl, rfl, ⟨⟨rfl, rfl, .inl ⟨rfl, nlT⟩⟩, rfl, rfl, ⟨⟨rfl, rfl, .inl ⟨rfl, nlT⟩⟩, rfl, rfl, ⟨⟨rfl, rfl, .inl ⟨(smT : (((s25.map EnC) ++ [[(I x25.Mac), (I x25.Port), (I x25.Seen), (LV.bool x25.Static)]]) : List (List LV)) = ((s25 ++ ([x25] : (List En))).map EnC)), nlT⟩⟩, rfl, rfl, trivial⟩⟩⟩⟩ rfl (K25 _ e.symm)
     ·replace b25 := condF hc b25
      conv => whnf
      repeat' first | exact rA _ | refine parkI ?_ | (refine And.intro ?_ ?_ <;> conv => whnf) | fail
      have e := Option.some.inj b25
      refine LoopW.norm [(1, (I a1)), (2, (LV.ptr 0 0 0)), (4, (LV.ptr 1 0 0)), (5, (LV.sl 2 0 (s24.map (roC 4 EnC)).length)), (8, (LV.sl 3 0 (s25.map EnC).length)), (13, (LV.ro 1 (a0.Buckets.map (roC 4 EnC)))), (14, (I (((a0.Buckets.map (roC 4 EnC)).length : Nat) : Int))), (15, (I ((k24 : Nat) : Int))), (20, (LV.ro 4 (x24.map EnC))), (21, (I (((x24.map EnC).length : Nat) : Int))), (22, (I ((k25 + 1 : Nat) : Int)))] 4 [(0, (.row 24 3 [[(LV.ro 1 (a0.Buckets.map (roC 4 EnC))), (I a0.Slots), (I a0.Age)]])), (1, (.row 24 3 [[LV.nils, (I 0), (I 0)]])), (2, (.row 39 1 (s24.map (roC 4 EnC)))), (3, (.row 42 4 (s25.map EnC)))] ⟨rfl, rfl, rfl, rfl, rfl, rfl, rfl, rfl, rfl, rfl, (congrArg (LV.int .i64) (w64_nat _ (by omega))), trivial⟩ ⟨⟨rfl, rfl, blT⟩, ⟨⟨rfl, rfl, blT⟩, ⟨⟨rfl, rfl, NLss_bel (NLss_map' _)⟩, ⟨⟨rfl, rfl, NLss_bel (NLss_map' _)⟩, trivial⟩⟩⟩⟩ blT rfl (K25 _ e.symm)
    ·exact (Bool.false_ne_true (hc.symm.trans hd)).elim
  ·exact (Bool.false_ne_true (hc.symm.trans hd)).elim

def ref08_Flush_c1 (a1 : Int) (k27 : Nat) (x27 : En) (s27 : (List En)) : Option (Step (Step Tb (List (List En))) (List En)) :=
 (bif (bif x27.Static then true else (bif (decide (0 ≤ a1)) then (!decide (x27.Port = a1)) else false)) then
  grd (fits ((s27 ++ ([x27] : (List En))) : List En).length 32) <|
  some (.nxt (s27 ++ ([x27] : (List En))))
 else
  some (.nxt s27))

def ref08_Flush_c0 (a1 : Int) (k26 : Nat) (x26 : (List En)) (s26 : (List (List En))) : Option (Step Tb (List (List En))) :=
 aft (rangeL (ref08_Flush_c1 a1) x26 ([] : (List En))) fun s27 =>
 grd (fits ((s26 ++ ([s27] : (List (List En)))) : List (List En)).length 24) <|
 some (.nxt (s26 ++ ([s27] : (List (List En)))))

def ref08_Flush (a0 : Tb) (a1 : Int) : Option Tb :=
 aft (rangeL (ref08_Flush_c0 a1) a0.Buckets ([] : (List (List En)))) fun s26 =>
 some (⟨s26, a0.Slots, a0.Age⟩ : Tb)

theorem c_ref08_Flush (a0 : Tb) (a1 : Int) (r : Tb) (h : ref08_Flush a0 a1 = some r) : CallP Tryz.prog 15 [(LV.agg [(LV.ro 1 (a0.Buckets.map (roC 4 EnC))), (I a0.Slots), (I a0.Age)]), (I a1)] (LV.agg [(LV.ro 1 (r.Buckets.map (roC 4 EnC))), (I r.Slots), (I r.Age)]) := by
 unfold ref08_Flush at h
 refine .intro nlA (.intro TT_ok Tryz.func15 rfl rfl [0, 1, 2, 4, 5, 7, 8, 10, 13, 14, 15, 16, 20, 21, 22, 23, 37] rfl ?_)
 conv => whnf
 repeat' first | exact rA _ | refine parkI ?_ | (refine And.intro ?_ ?_ <;> conv => whnf) | fail
 replace h := aftS h
 obtain ⟨O26, hO26, r26⟩ := h
 refine LoopW.norm [(1, (I a1)), (2, (LV.ptr 0 0 0)), (4, (LV.ptr 1 0 0)), (5, (LV.sl 2 0 (([] : (List (List En))).map (roC 4 EnC)).length)), (13, (LV.ro 1 (a0.Buckets.map (roC 4 EnC)))), (14, (I (((a0.Buckets.map (roC 4 EnC)).length : Nat) : Int))), (15, (I ((0 : Nat) : Int)))] 3 [(0, (.row 24 3 [[(LV.ro 1 (a0.Buckets.map (roC 4 EnC))), (I a0.Slots), (I a0.Age)]])), (1, (.row 24 3 [[LV.nils, (I 0), (I 0)]])), (2, (.row 39 1 (([] : (List (List En))).map (roC 4 EnC))))] ⟨rfl, rfl, rfl, (by exact congrArg (LV.sl 2 0) (clL _ : 0 = (([] : (List (List En))).map (roC 4 EnC)).length)), rfl, rfl, rfl, trivial⟩ ⟨⟨rfl, rfl, blT⟩, ⟨⟨rfl, rfl, blT⟩, ⟨⟨(congrArg (fun q => some (Blk.row 39 1 q)) (by first | (simp only [se_map, se_byL, se_len, se_ch, List.length_map]; done) | (simp only [se_map, se_byL, se_len, se_ch, List.length_map, roC]; done) : (([] : List (List LV)) : List (List LV)) = (([] : (List (List En))).map (roC 4 EnC)))), rfl, NLss_bel (NLss_map' _)⟩, trivial⟩⟩⟩ blT rfl ?_
 refine LoopW.forR (fun k26 s26 => [(1, (I a1)), (2, (LV.ptr 0 0 0)), (4, (LV.ptr 1 0 0)), (5, (LV.sl 2 0 (s26.map (roC 4 EnC)).length)), (13, (LV.ro 1 (a0.Buckets.map (roC 4 EnC)))), (14, (I (((a0.Buckets.map (roC 4 EnC)).length : Nat) : Int))), (15, (I ((k26 : Nat) : Int)))]) (fun s26 => ⟨3, [(0, (.row 24 3 [[(LV.ro 1 (a0.Buckets.map (roC 4 EnC))), (I a0.Slots), (I a0.Age)]])), (1, (.row 24 3 [[LV.nils, (I 0), (I 0)]])), (2, (.row 39 1 (s26.map (roC 4 EnC))))]⟩) hO26 (fun hl26 s26 hs26 => ?_) (fun hl26 k26 x26 s26 o26 hk26 hx26 b26 K26 hret26 hbrk26 => ?_)
 ·rw [hs26] at r26
  dsimp only [aftM] at r26
  have hd : decide (((a0.Buckets.length : Nat) : Int) < (((a0.Buckets.map (roC 4 EnC)).length : Nat) : Int)) = false := by rw [decide_eq_false_iff_not]; (try simp only [se_len, se_ch, List.length_map]); omega
  refine LoopW.round TT_ok [0, 1, 2, 4, 5, 7, 8, 10, 13, 14, 15, 16, 20, 21, 22, 23, 37] ?_
  conv => whnf
  repeat' first | exact rA _ | refine parkI ?_ | (refine And.intro ?_ ?_ <;> conv => whnf) | fail
  refine parkE (fun hc => ?_) (fun hc => ?_)
  ·exact (Bool.false_ne_true (hd.symm.trans hc)).elim
  ·clear hd
   conv => whnf
   have e := Option.some.inj r26
   subst e
   repeat' first | exact rA _ | exact clA _ | (refine And.intro ?_ ?_ <;> conv => whnf) | exact clG _ | (refine gand ?_ h; assumption) | exact clN _ | fail
 ·unfold ref08_Flush_c0 at b26
  have hd : decide (((k26 : Nat) : Int) < (((a0.Buckets.map (roC 4 EnC)).length : Nat) : Int)) = true := by rw [decide_eq_true_eq]; (try simp only [se_len, se_ch, List.length_map] at hk26); (try simp only [se_len, se_ch, List.length_map]); omega
  refine LoopW.round TT_ok [0, 1, 2, 4, 5, 7, 8, 10, 13, 14, 15, 16, 20, 21, 22, 23, 37] ?_
  conv => whnf
  repeat' first | exact rA _ | refine parkI ?_ | (refine And.intro ?_ ?_ <;> conv => whnf) | fail
  refine parkE (fun hc => ?_) (fun hc => ?_)
  ·clear hd
   conv => whnf
   repeat' first | exact rA _ | refine parkI ?_ | (refine ⟨_, (kixF (f := (roC 4 EnC)) hx26), ?_⟩; conv => whnf) | (refine And.intro ?_ ?_ <;> conv => whnf) | fail
   replace b26 := aftS b26
   obtain ⟨O27, hO27, r27⟩ := b26
   refine LoopW.norm [(1, (I a1)), (2, (LV.ptr 0 0 0)), (4, (LV.ptr 1 0 0)), (5, (LV.sl 2 0 (s26.map (roC 4 EnC)).length)), (8, (LV.sl 3 0 (([] : (List En)).map EnC).length)), (13, (LV.ro 1 (a0.Buckets.map (roC 4 EnC)))), (14, (I (((a0.Buckets.map (roC 4 EnC)).length : Nat) : Int))), (15, (I ((k26 : Nat) : Int))), (20, (LV.ro 4 (x26.map EnC))), (21, (I (((x26.map EnC).length : Nat) : Int))), (22, (I ((0 : Nat) : Int)))] 4 [(0, (.row 24 3 [[(LV.ro 1 (a0.Buckets.map (roC 4 EnC))), (I a0.Slots), (I a0.Age)]])), (1, (.row 24 3 [[LV.nils, (I 0), (I 0)]])), (2, (.row 39 1 (s26.map (roC 4 EnC)))), (3, (.row 42 4 (([] : (List En)).map EnC)))] ⟨rfl, rfl, rfl, rfl, (by exact congrArg (LV.sl 3 0) (clL _ : 0 = (([] : (List En)).map EnC).length)), rfl, rfl, rfl, rfl, rfl, rfl, trivial⟩ ⟨⟨rfl, rfl, blT⟩, ⟨⟨rfl, rfl, blT⟩, ⟨⟨rfl, rfl, NLss_bel (NLss_map' _)⟩, ⟨⟨(congrArg (fun q => some (Blk.row 42 4 q)) (smT : (([] : List (List LV)) : List (List LV)) = (([] : (List En)).map EnC))), rfl, NLss_bel (NLss_map' _)⟩, trivial⟩⟩⟩⟩ blT rfl ?_
   refine LoopW.forR (fun k27 s27 => [(1, (I a1)), (2, (LV.ptr 0 0 0)), (4, (LV.ptr 1 0 0)), (5, (LV.sl 2 0 (s26.map (roC 4 EnC)).length)), (8, (LV.sl 3 0 (s27.map EnC).length)), (13, (LV.ro 1 (a0.Buckets.map (roC 4 EnC)))), (14, (I (((a0.Buckets.map (roC 4 EnC)).length : Nat) : Int))), (15, (I ((k26 : Nat) : Int))), (20, (LV.ro 4 (x26.map EnC))), (21, (I (((x26.map EnC).length : Nat) : Int))), (22, (I ((k27 : Nat) : Int)))]) (fun s27 => ⟨4, [(0, (.row 24 3 [[(LV.ro 1 (a0.Buckets.map (roC 4 EnC))), (I a0.Slots), (I a0.Age)]])), (1, (.row 24 3 [[LV.nils, (I 0), (I 0)]])), (2, (.row 39 1 (s26.map (roC 4 EnC)))), (3, (.row 42 4 (s27.map EnC)))]⟩) hO27 (fun hl27 s27 hs27 => ?_) (fun hl27 k27 x27 s27 o27 hk27 hx27 b27 K27 hret27 hbrk27 => ?_)
   ·rw [hs27] at r27
    dsimp only [aftM] at r27
    have hd : decide (((x26.length : Nat) : Int) < (((x26.map EnC).length : Nat) : Int)) = false := by rw [decide_eq_false_iff_not]; (try simp only [se_len, se_ch, List.length_map]); omega
    refine LoopW.round TT_ok [0, 1, 2, 4, 5, 7, 8, 10, 13, 14, 15, 16, 20, 21, 22, 23, 37] ?_
    conv => whnf
    repeat' first | exact rA _ | refine parkI ?_ | (refine And.intro ?_ ?_ <;> conv => whnf) | fail
    refine parkE (fun hc => ?_) (fun hc => ?_)
    ·exact (Bool.false_ne_true (hd.symm.trans hc)).elim
    ·clear hd
     conv => whnf
     replace r27 := grdS r27
     obtain ⟨g2, r27⟩ := r27
     replace g2 : fits (((s26.map (roC 4 EnC)) ++ [[(LV.ro 4 (s27.map EnC))]])).length 24 := by simpa only [se_len, se_ch, List.length_map] using g2
     repeat' first | exact rA _ | refine parkI ?_ | exact g2 | exact clA _ | (refine And.intro ?_ ?_ <;> conv => whnf) | exact clN _ | fail
     have e := Option.some.inj r27
     refine LoopW.ren [(0, 0), (1, 1), (5, 2)] [(1, (I a1)), (2, (LV.ptr 0 0 0)), (4, (LV.ptr 1 0 0)), (5, (LV.sl 2 0 ((s26 ++ ([s27] : (List (List En)))).map (roC 4 EnC)).length)), (13, (LV.ro 1 (a0.Buckets.map (roC 4 EnC)))), (14, (I (((a0.Buckets.map (roC 4 EnC)).length : Nat) : Int))), (15, (I ((k26 + 1 : Nat) : Int)))] 3 [(0, (.row 24 3 [[(LV.ro 1 (a0.Buckets.map (roC 4 EnC))), (I a0.Slots), (I a0.Age)]])), (1, (.row 24 3 [[LV.nils, (I 0), (I 0)]])), (2, (.row 39 1 ((s26 ++ ([s27] : (List (List En)))).map (roC 4 EnC))))] rfl ⟨rfl, rfl, rfl, (by exact congrArg (LV.sl 2 0) (clL _ : (((s26.map (roC 4 EnC)) ++ [[(LV.ro 4 (s27.map EnC))]])).length = ((s26 ++ ([s27] : (List (List En)))).map (roC 4 EnC)).length)), rfl, rfl, (congrArg (LV.int .i64) (w64_nat _ (by omega))), trivial⟩ ⟨⟨rfl, rfl, .inl ⟨rfl, nlT⟩⟩, rfl, rfl, ⟨⟨rfl, rfl, .inl ⟨rfl, nlT⟩⟩, rfl, rfl, ⟨⟨rfl, rfl, .inl ⟨(by first | (simp only [se_map, se_byL, se_len, se_ch, List.length_map]; done) | (simp only [se_map, se_byL, se_len, se_ch, List.length_map, roC]; done) : (((s26.map (roC 4 EnC)) ++ [[(LV.ro 4 (s27.map EnC))]]) : List (List LV)) = ((s26 ++ ([s27] : (List (List En)))).map (roC 4 EnC))), nlT⟩⟩, rfl, rfl, trivial⟩⟩⟩ rfl (K26 _ e.symm)
   ·unfold ref08_Flush_c1 at b27
    have hd : decide (((k27 : Nat) : Int) < (((x26.map EnC).length : Nat) : Int)) = true := by rw [decide_eq_true_eq]; (try simp only [se_len, se_ch, List.length_map] at hk27); (try simp only [se_len, se_ch, List.length_map]); omega
    refine LoopW.round TT_ok [0, 1, 2, 4, 5, 7, 8, 10, 13, 14, 15, 16, 20, 21, 22, 23, 37] ?_
    conv => whnf
    repeat' first | exact rA _ | refine parkI ?_ | (refine And.intro ?_ ?_ <;> conv => whnf) | fail
    refine parkE (fun hc => ?_) (fun hc => ?_)
    ·clear hd
     conv => whnf
     repeat' first | exact rA _ | refine parkI ?_ | (refine ⟨_, (kixF (f := EnC) hx27), ?_⟩; conv => whnf) | exact clA _ | (refine And.intro ?_ ?_ <;> conv => whnf) | exact clG _ | (refine gand ?_ h; assumption) | fail
     refine parkE (fun hc => ?_) (fun hc => ?_)
     ·replace b27 := condT hc b27
      conv => whnf
      replace b27 := grdS b27
      obtain ⟨g1, b27⟩ := b27
      replace g1 : fits (((s27.map EnC) ++ [[(I x27.Mac), (I x27.Port), (I x27.Seen), (LV.bool x27.Static)]])).length 32 := by simpa only [se_len, se_ch, List.length_map] using g1
      repeat' first | exact rA _ | refine parkI ?_ | exact g1 | exact clA _ | (refine And.intro ?_ ?_ <;> conv => whnf) | exact clN _ | fail
      have e := Option.some.inj b27
      refine LoopW.ren [(0, 0), (1, 1), (2, 2), (6, 3)] [(1, (I a1)), (2, (LV.ptr 0 0 0)), (4, (LV.ptr 1 0 0)), (5, (LV.sl 2 0 (s26.map (roC 4 EnC)).length)), (8, (LV.sl 3 0 ((s27 ++ ([x27] : (List En))).map EnC).length)), (13, (LV.ro 1 (a0.Buckets.map (roC 4 EnC)))), (14, (I (((a0.Buckets.map (roC 4 EnC)).length : Nat) : Int))), (15, (I ((k26 : Nat) : Int))), (20, (LV.ro 4 (x26.map EnC))), (21, (I (((x26.map EnC).length : Nat) : Int))), (22, (I ((k27 + 1 : Nat) : Int)))] 4 [(0, (.row 24 3 [[(LV.ro 1 (a0.Buckets.map (roC 4 EnC))), (I a0.Slots), (I a0.Age)]])), (1, (.row 24 3 [[LV.nils, (I 0), (I 0)]])), (2, (.row 39 1 (s26.map (roC 4 EnC)))), (3, (.row 42 4 ((s27 ++ ([x27] : (List En))).map EnC)))] rfl ⟨rfl, rfl, rfl, rfl, (by exact congrArg (LV.sl 3 0) (clL _ : (((s27.map EnC) ++ [[(I x27.Mac), (I x27.Port), (I x27.Seen), (LV.bool x27.Static)]])).length = ((s27 ++ ([x27] : (List En))).map EnC).length)), rfl, rfl, rfl, rfl, rfl, (congrArg (LV.int .i64) (w64_nat _ (by omega))), trivial⟩ ⟨⟨rfl, rfl, .inl ⟨rfl, nlT⟩⟩, rfl, rfl, ⟨⟨rfl, rfl, .inl ⟨rfl, nlT⟩⟩, rfl, rfl, ⟨⟨rfl, rfl, .inl ⟨rfl, nlT⟩⟩, rfl, rfl, ⟨⟨rfl, rfl, .inl ⟨(smT : (((s27.map EnC) ++ [[(I x27.Mac), (I x27.Port), (I x27.Seen), (LV.bool x27.Static)]]) : List (List LV)) = ((s27 ++ ([x27] : (List En))).map EnC)), nlT⟩⟩, rfl, rfl, trivial⟩⟩⟩⟩ rfl (K27 _ e.symm)
     ·replace b27 := condF hc b27
      conv => whnf
      repeat' first | exact rA _ | refine parkI ?_ | (refine And.intro ?_ ?_ <;> conv => whnf) | fail
      have e := Option.some.inj b27
      refine LoopW.norm [(1, (I a1)), (2, (LV.ptr 0 0 0)), (4, (LV.ptr 1 0 0)), (5, (LV.sl 2 0 (s26.map (roC 4 EnC)).length)), (8, (LV.sl 3 0 (s27.map EnC).length)), (13, (LV.ro 1 (a0.Buckets.map (roC 4 EnC)))), (14, (I (((a0.Buckets.map (roC 4 EnC)).length : Nat) : Int))), (15, (I ((k26 : Nat) : Int))), (20, (LV.ro 4 (x26.map EnC))), (21, (I (((x26.map EnC).length : Nat) : Int))), (22, (I ((k27 + 1 : Nat) : Int)))] 4 [(0, (.row 24 3 [[(LV.ro 1 (a0.Buckets.map (roC 4 EnC))), (I a0.Slots), (I a0.Age)]])), (1, (.row 24 3 [[LV.nils, (I 0), (I 0)]])), (2, (.row 39 1 (s26.map (roC 4 EnC)))), (3, (.row 42 4 (s27.map EnC)))] ⟨rfl, rfl, rfl, rfl, rfl, rfl, rfl, rfl, rfl, rfl, (congrArg (LV.int .i64) (w64_nat _ (by omega))), trivial⟩ ⟨⟨rfl, rfl, blT⟩, ⟨⟨rfl, rfl, blT⟩, ⟨⟨rfl, rfl, NLss_bel (NLss_map' _)⟩, ⟨⟨rfl, rfl, NLss_bel (NLss_map' _)⟩, trivial⟩⟩⟩⟩ blT rfl (K27 _ e.symm)
    ·exact (Bool.false_ne_true (hc.symm.trans hd)).elim
  ·exact (Bool.false_ne_true (hc.symm.trans hd)).elim

def ref08_bucket (a0 : Tb) (a1 : Int) : Option (List En) :=
 (ref07_Bucket a1 ((a0.Buckets.length : Nat) : Int)).bind fun y1 =>
 (gix a0.Buckets y1).bind fun v3 =>
 some v3

theorem c_ref08_bucket (a0 : Tb) (a1 : Int) (r : (List En)) (h : ref08_bucket a0 a1 = some r) : CallP Tryz.prog 42 [(LV.agg [(LV.ro 1 (a0.Buckets.map (roC 4 EnC))), (I a0.Slots), (I a0.Age)]), (I a1)] (LV.ro 4 (r.map EnC)) := by
 unfold ref08_bucket at h
 refine .intro nlA (.intro TT_ok Tryz.func42 rfl rfl [0, 1, 2, 4] rfl ?_)
 conv => whnf
 replace h := bindS h
 obtain ⟨y1, hy1, h⟩ := h
 have c2 : CallP Tryz.prog 65 [(I a1), (I (((a0.Buckets.map (roC 4 EnC)).length : Nat) : Int))] (I y1) := by first | exact c_ref07_Bucket a1 ((a0.Buckets.length : Nat) : Int) _ hy1 | (simpa only [se_map, se_byL, se_len, se_ch, List.length_map] using c_ref07_Bucket a1 ((a0.Buckets.length : Nat) : Int) _ hy1)
 replace h := bindS h
 obtain ⟨v3, hv3, h⟩ := h
 have i4 := gixF (f := (roC 4 EnC)) hv3
 have e := Option.some.inj h
 subst e
 repeat' first | exact rA _ | (refine ⟨_, i4, ?_⟩; conv => whnf) | (refine CallP.use c2 ?_; conv => whnf) | (refine ⟨_, _, CallP.at c2, ?_⟩; conv => whnf) | (refine ⟨_, fun _ => c2, ?_⟩; conv => whnf) | (refine W.drawn TT_ok hmix1 rfl ?_; conv => whnf) | exact clA _ | (refine And.intro ?_ ?_ <;> conv => whnf) | exact clG _ | (refine gand ?_ h; assumption) | exact clN _ | fail

def ref08_Pinned (a0 : Tb) (a1 : Int) : Option Bool :=
 (ref08_bucket a0 a1).bind fun y1 =>
 (ref08_Place y1 a1).bind fun y3 =>
 (gd (decide (0 ≤ y3)) (gix y1 y3)).bind fun v5 =>
 some (bif (decide (0 ≤ y3)) then v5.Static else false)

theorem c_ref08_Pinned (a0 : Tb) (a1 : Int) (r : Bool) (h : ref08_Pinned a0 a1 = some r) : CallP Tryz.prog 17 [(LV.agg [(LV.ro 1 (a0.Buckets.map (roC 4 EnC))), (I a0.Slots), (I a0.Age)]), (I a1)] (LV.bool r) := by
 unfold ref08_Pinned at h
 refine .intro nlA (.intro TT_ok Tryz.func17 rfl rfl [0, 1, 2, 4, 5, 6] rfl ?_)
 conv => whnf
 replace h := bindS h
 obtain ⟨y1, hy1, h⟩ := h
 have c2 := c_ref08_bucket a0 a1 _ hy1
 replace h := bindS h
 obtain ⟨y3, hy3, h⟩ := h
 have c4 := c_ref08_Place y1 a1 _ hy3
 replace h := bindS h
 obtain ⟨v5, hv5, h⟩ := h
 have i6 := fun hg => gixF (f := EnC) (gdS hg hv5)
 have e := Option.some.inj h
 subst e
 repeat' first | exact rA _ | (refine ⟨_, i6, ?_⟩; conv => whnf) | (refine CallP.use c2 ?_; conv => whnf) | (refine CallP.use c4 ?_; conv => whnf) | exact clA _ | (refine And.intro ?_ ?_ <;> conv => whnf) | exact clG _ | (refine gand ?_ h; assumption) | exact clN _ | fail

def ref08_without_c0 (a1 : Int) (k28 : Nat) (x28 : En) (s28 : (List En)) : Option (Step (List En) (List En)) :=
 (bif (!decide (x28.Mac = a1)) then
  grd (fits ((s28 ++ ([x28] : (List En))) : List En).length 32) <|
  some (.nxt (s28 ++ ([x28] : (List En))))
 else
  some (.nxt s28))

def ref08_without (a0 : (List En)) (a1 : Int) : Option (List En) :=
 aft (rangeL (ref08_without_c0 a1) a0 ([] : (List En))) fun s28 =>
 some s28

theorem cf_ref08_without (a0 : (List En)) (a1 : Int) (r : (List En)) (h : ref08_without a0 a1 = some r) : CallF Tryz.prog 44 [(LV.ro 4 (a0.map EnC)), (I a1)] 42 4 (r.map EnC) := by
 unfold ref08_without at h
 refine CallF.of (NLss_map' _) (CallW.intro TT_ok Tryz.func44 rfl rfl [0, 1, 4, 5, 7, 9, 10, 11, 12, 18] rfl ?_)
 conv => whnf
 repeat' first | exact rA _ | refine parkI ?_ | (refine And.intro ?_ ?_ <;> conv => whnf) | fail
 replace h := aftS h
 obtain ⟨O28, hO28, r28⟩ := h
 refine LoopW.norm [(1, (I a1)), (5, (LV.sl 0 0 (([] : (List En)).map EnC).length)), (9, (LV.ro 4 (a0.map EnC))), (10, (I (((a0.map EnC).length : Nat) : Int))), (11, (I ((0 : Nat) : Int)))] 1 [(0, (.row 42 4 (([] : (List En)).map EnC)))] ⟨rfl, (by exact congrArg (LV.sl 0 0) (clL _ : 0 = (([] : (List En)).map EnC).length)), rfl, rfl, rfl, trivial⟩ ⟨⟨(congrArg (fun q => some (Blk.row 42 4 q)) (smT : (([] : List (List LV)) : List (List LV)) = (([] : (List En)).map EnC))), rfl, NLss_bel (NLss_map' _)⟩, trivial⟩ blT rfl ?_
 refine LoopW.forR (fun k28 s28 => [(1, (I a1)), (5, (LV.sl 0 0 (s28.map EnC).length)), (9, (LV.ro 4 (a0.map EnC))), (10, (I (((a0.map EnC).length : Nat) : Int))), (11, (I ((k28 : Nat) : Int)))]) (fun s28 => ⟨1, [(0, (.row 42 4 (s28.map EnC)))]⟩) hO28 (fun hl28 s28 hs28 => ?_) (fun hl28 k28 x28 s28 o28 hk28 hx28 b28 K28 hret28 hbrk28 => ?_)
 ·rw [hs28] at r28
  dsimp only [aftM] at r28
  have hd : decide (((a0.length : Nat) : Int) < (((a0.map EnC).length : Nat) : Int)) = false := by rw [decide_eq_false_iff_not]; (try simp only [se_len, se_ch, List.length_map]); omega
  refine LoopW.round TT_ok [0, 1, 4, 5, 7, 9, 10, 11, 12, 18] ?_
  conv => whnf
  repeat' first | exact rA _ | refine parkI ?_ | (refine And.intro ?_ ?_ <;> conv => whnf) | fail
  refine parkE (fun hc => ?_) (fun hc => ?_)
  ·exact (Bool.false_ne_true (hd.symm.trans hc)).elim
  ·clear hd
   conv => whnf
   have e := Option.some.inj r28
   subst e
   repeat' first | exact rA _ | exact Or.inr ⟨_, rfl, congrArg (fun q => some (Blk.row 42 4 q)) rfl⟩ | exact clA _ | (refine And.intro ?_ ?_ <;> conv => whnf) | exact clG _ | (refine gand ?_ h; assumption) | exact clN _ | fail
 ·unfold ref08_without_c0 at b28
  have hd : decide (((k28 : Nat) : Int) < (((a0.map EnC).length : Nat) : Int)) = true := by rw [decide_eq_true_eq]; (try simp only [se_len, se_ch, List.length_map] at hk28); (try simp only [se_len, se_ch, List.length_map]); omega
  refine LoopW.round TT_ok [0, 1, 4, 5, 7, 9, 10, 11, 12, 18] ?_
  conv => whnf
  repeat' first | exact rA _ | refine parkI ?_ | (refine And.intro ?_ ?_ <;> conv => whnf) | fail
  refine parkE (fun hc => ?_) (fun hc => ?_)
  ·clear hd
   conv => whnf
   repeat' first | exact rA _ | refine parkI ?_ | (refine ⟨_, (kixF (f := EnC) hx28), ?_⟩; conv => whnf) | (refine And.intro ?_ ?_ <;> conv => whnf) | fail
   refine parkE (fun hc => ?_) (fun hc => ?_)
   ·replace b28 := condT hc b28
    conv => whnf
    replace b28 := grdS b28
    obtain ⟨g3, b28⟩ := b28
    replace g3 : fits (((s28.map EnC) ++ [[(I x28.Mac), (I x28.Port), (I x28.Seen), (LV.bool x28.Static)]])).length 32 := by simpa only [se_len, se_ch, List.length_map] using g3
    repeat' first | exact rA _ | refine parkI ?_ | exact g3 | exact clA _ | (refine And.intro ?_ ?_ <;> conv => whnf) | exact clN _ | fail
    have e := Option.some.inj b28
    refine LoopW.ren [(3, 0)] [(1, (I a1)), (5, (LV.sl 0 0 ((s28 ++ ([x28] : (List En))).map EnC).length)), (9, (LV.ro 4 (a0.map EnC))), (10, (I (((a0.map EnC).length : Nat) : Int))), (11, (I ((k28 + 1 : Nat) : Int)))] 1 [(0, (.row 42 4 ((s28 ++ ([x28] : (List En))).map EnC)))] rfl ⟨rfl, (by exact congrArg (LV.sl 0 0) (clL _ : (((s28.map EnC) ++ [[(I x28.Mac), (I x28.Port), (I x28.Seen), (LV.bool x28.Static)]])).length = ((s28 ++ ([x28] : (List En))).map EnC).length)), rfl, rfl, (congrArg (LV.int .i64) (w64_nat _ (by omega))), trivial⟩ ⟨⟨rfl, rfl, .inl ⟨(smT : (((s28.map EnC) ++ [[(I x28.Mac), (I x28.Port), (I x28.Seen), (LV.bool x28.Static)]]) : List (List LV)) = ((s28 ++ ([x28] : (List En))).map EnC)), nlT⟩⟩, rfl, rfl, trivial⟩ rfl (K28 _ e.symm)
   ·replace b28 := condF hc b28
    conv => whnf
    repeat' first | exact rA _ | refine parkI ?_ | (refine And.intro ?_ ?_ <;> conv => whnf) | fail
    have e := Option.some.inj b28
    refine LoopW.norm [(1, (I a1)), (5, (LV.sl 0 0 (s28.map EnC).length)), (9, (LV.ro 4 (a0.map EnC))), (10, (I (((a0.map EnC).length : Nat) : Int))), (11, (I ((k28 + 1 : Nat) : Int)))] 1 [(0, (.row 42 4 (s28.map EnC)))] ⟨rfl, rfl, rfl, rfl, (congrArg (LV.int .i64) (w64_nat _ (by omega))), trivial⟩ ⟨⟨rfl, rfl, NLss_bel (NLss_map' _)⟩, trivial⟩ blT rfl (K28 _ e.symm)
  ·exact (Bool.false_ne_true (hc.symm.trans hd)).elim

theorem c_ref08_without (a0 : (List En)) (a1 : Int) (r : (List En)) (h : ref08_without a0 a1 = some r) : CallP Tryz.prog 44 [(LV.ro 4 (a0.map EnC)), (I a1)] (LV.ro 4 (r.map EnC)) := by
 exact CallF.toP (cf_ref08_without a0 a1 r h) nlA (NLss_map' _)

def ref08_with_c0 (a0 : Tb) (a1 : Int) (a2 : (List En)) (k29 : Nat) (x29 : (List En)) (s29 : (List (List En))) : Option (Step Tb (List (List En))) :=
 (ref07_Bucket a1 ((a0.Buckets.length : Nat) : Int)).bind fun y5 =>
 (bif (decide (((k29 : Nat) : Int) = y5)) then
  grd (fits ((s29 ++ ([a2] : (List (List En)))) : List (List En)).length 24) <|
  some (.nxt (s29 ++ ([a2] : (List (List En)))))
 else
  grd (fits ((s29 ++ ([x29] : (List (List En)))) : List (List En)).length 24) <|
  some (.nxt (s29 ++ ([x29] : (List (List En))))))

def ref08_with (a0 : Tb) (a1 : Int) (a2 : (List En)) : Option Tb :=
 aft (rangeL (ref08_with_c0 a0 a1 a2) a0.Buckets ([] : (List (List En)))) fun s29 =>
 some (⟨s29, a0.Slots, a0.Age⟩ : Tb)

theorem c_ref08_with (a0 : Tb) (a1 : Int) (a2 : (List En)) (r : Tb) (h : ref08_with a0 a1 a2 = some r) : CallP Tryz.prog 43 [(LV.agg [(LV.ro 1 (a0.Buckets.map (roC 4 EnC))), (I a0.Slots), (I a0.Age)]), (I a1), (LV.ro 4 (a2.map EnC))] (LV.agg [(LV.ro 1 (r.Buckets.map (roC 4 EnC))), (I r.Slots), (I r.Age)]) := by
 unfold ref08_with at h
 refine .intro nlA (.intro TT_ok Tryz.func43 rfl rfl [0, 1, 2, 3, 6, 7, 8, 9, 12, 13, 14, 15, 25] rfl ?_)
 conv => whnf
 repeat' first | exact rA _ | refine parkI ?_ | (refine And.intro ?_ ?_ <;> conv => whnf) | fail
 replace h := aftS h
 obtain ⟨O29, hO29, r29⟩ := h
 refine LoopW.norm [(1, (I a1)), (2, (LV.ro 4 (a2.map EnC))), (3, (LV.ptr 0 0 0)), (6, (LV.ptr 1 0 0)), (7, (LV.sl 2 0 (([] : (List (List En))).map (roC 4 EnC)).length)), (12, (LV.ro 1 (a0.Buckets.map (roC 4 EnC)))), (13, (I (((a0.Buckets.map (roC 4 EnC)).length : Nat) : Int))), (14, (I ((0 : Nat) : Int)))] 3 [(0, (.row 24 3 [[(LV.ro 1 (a0.Buckets.map (roC 4 EnC))), (I a0.Slots), (I a0.Age)]])), (1, (.row 24 3 [[LV.nils, (I 0), (I 0)]])), (2, (.row 39 1 (([] : (List (List En))).map (roC 4 EnC))))] ⟨rfl, rfl, rfl, rfl, (by exact congrArg (LV.sl 2 0) (clL _ : 0 = (([] : (List (List En))).map (roC 4 EnC)).length)), rfl, rfl, rfl, trivial⟩ ⟨⟨rfl, rfl, blT⟩, ⟨⟨rfl, rfl, blT⟩, ⟨⟨(congrArg (fun q => some (Blk.row 39 1 q)) (by first | (simp only [se_map, se_byL, se_len, se_ch, List.length_map]; done) | (simp only [se_map, se_byL, se_len, se_ch, List.length_map, roC]; done) : (([] : List (List LV)) : List (List LV)) = (([] : (List (List En))).map (roC 4 EnC)))), rfl, NLss_bel (NLss_map' _)⟩, trivial⟩⟩⟩ blT rfl ?_
 refine LoopW.forR (fun k29 s29 => [(1, (I a1)), (2, (LV.ro 4 (a2.map EnC))), (3, (LV.ptr 0 0 0)), (6, (LV.ptr 1 0 0)), (7, (LV.sl 2 0 (s29.map (roC 4 EnC)).length)), (12, (LV.ro 1 (a0.Buckets.map (roC 4 EnC)))), (13, (I (((a0.Buckets.map (roC 4 EnC)).length : Nat) : Int))), (14, (I ((k29 : Nat) : Int)))]) (fun s29 => ⟨3, [(0, (.row 24 3 [[(LV.ro 1 (a0.Buckets.map (roC 4 EnC))), (I a0.Slots), (I a0.Age)]])), (1, (.row 24 3 [[LV.nils, (I 0), (I 0)]])), (2, (.row 39 1 (s29.map (roC 4 EnC))))]⟩) hO29 (fun hl29 s29 hs29 => ?_) (fun hl29 k29 x29 s29 o29 hk29 hx29 b29 K29 hret29 hbrk29 => ?_)
 ·rw [hs29] at r29
  dsimp only [aftM] at r29
  have hd : decide (((a0.Buckets.length : Nat) : Int) < (((a0.Buckets.map (roC 4 EnC)).length : Nat) : Int)) = false := by rw [decide_eq_false_iff_not]; (try simp only [se_len, se_ch, List.length_map]); omega
  refine LoopW.round TT_ok [0, 1, 2, 3, 6, 7, 8, 9, 12, 13, 14, 15, 25] ?_
  conv => whnf
  repeat' first | exact rA _ | refine parkI ?_ | (refine And.intro ?_ ?_ <;> conv => whnf) | fail
  refine parkE (fun hc => ?_) (fun hc => ?_)
  ·exact (Bool.false_ne_true (hd.symm.trans hc)).elim
  ·clear hd
   conv => whnf
   have e := Option.some.inj r29
   subst e
   repeat' first | exact rA _ | exact clA _ | (refine And.intro ?_ ?_ <;> conv => whnf) | exact clG _ | (refine gand ?_ h; assumption) | exact clN _ | fail
 ·unfold ref08_with_c0 at b29
  have hd : decide (((k29 : Nat) : Int) < (((a0.Buckets.map (roC 4 EnC)).length : Nat) : Int)) = true := by rw [decide_eq_true_eq]; (try simp only [se_len, se_ch, List.length_map] at hk29); (try simp only [se_len, se_ch, List.length_map]); omega
  refine LoopW.round TT_ok [0, 1, 2, 3, 6, 7, 8, 9, 12, 13, 14, 15, 25] ?_
  conv => whnf
  repeat' first | exact rA _ | refine parkI ?_ | (refine And.intro ?_ ?_ <;> conv => whnf) | fail
  refine parkE (fun hc => ?_) (fun hc => ?_)
  ·clear hd
   conv => whnf
   replace b29 := bindS b29
   obtain ⟨y5, hy5, b29⟩ := b29
   have c6 : CallP Tryz.prog 65 [(I a1), (I (((a0.Buckets.map (roC 4 EnC)).length : Nat) : Int))] (I y5) := by first | exact c_ref07_Bucket a1 ((a0.Buckets.length : Nat) : Int) _ hy5 | (simpa only [se_map, se_byL, se_len, se_ch, List.length_map] using c_ref07_Bucket a1 ((a0.Buckets.length : Nat) : Int) _ hy5)
   repeat' first | exact rA _ | refine parkI ?_ | (refine ⟨_, (kixF (f := (roC 4 EnC)) hx29), ?_⟩; conv => whnf) | (refine CallP.use c6 ?_; conv => whnf) | (refine And.intro ?_ ?_ <;> conv => whnf) | fail
   refine parkE (fun hc => ?_) (fun hc => ?_)
   ·replace b29 := condT hc b29
    conv => whnf
    replace b29 := grdS b29
    obtain ⟨g7, b29⟩ := b29
    replace g7 : fits (((s29.map (roC 4 EnC)) ++ [[(LV.ro 4 (a2.map EnC))]])).length 24 := by simpa only [se_len, se_ch, List.length_map] using g7
    repeat' first | exact rA _ | refine parkI ?_ | exact g7 | exact clA _ | (refine And.intro ?_ ?_ <;> conv => whnf) | exact clN _ | fail
    have e := Option.some.inj b29
    refine LoopW.ren [(0, 0), (1, 1), (4, 2)] [(1, (I a1)), (2, (LV.ro 4 (a2.map EnC))), (3, (LV.ptr 0 0 0)), (6, (LV.ptr 1 0 0)), (7, (LV.sl 2 0 ((s29 ++ ([a2] : (List (List En)))).map (roC 4 EnC)).length)), (12, (LV.ro 1 (a0.Buckets.map (roC 4 EnC)))), (13, (I (((a0.Buckets.map (roC 4 EnC)).length : Nat) : Int))), (14, (I ((k29 + 1 : Nat) : Int)))] 3 [(0, (.row 24 3 [[(LV.ro 1 (a0.Buckets.map (roC 4 EnC))), (I a0.Slots), (I a0.Age)]])), (1, (.row 24 3 [[LV.nils, (I 0), (I 0)]])), (2, (.row 39 1 ((s29 ++ ([a2] : (List (List En)))).map (roC 4 EnC))))] rfl ⟨rfl, rfl, rfl, rfl, (by exact congrArg (LV.sl 2 0) (clL _ : (((s29.map (roC 4 EnC)) ++ [[(LV.ro 4 (a2.map EnC))]])).length = ((s29 ++ ([a2] : (List (List En)))).map (roC 4 EnC)).length)), rfl, rfl, (congrArg (LV.int .i64) (w64_nat _ (by omega))), trivial⟩ ⟨⟨rfl, rfl, .inl ⟨rfl, nlT⟩⟩, rfl, rfl, ⟨⟨rfl, rfl, .inl ⟨rfl, nlT⟩⟩, rfl, rfl, ⟨⟨rfl, rfl, .inl ⟨(by first | (simp only [se_map, se_byL, se_len, se_ch, List.length_map]; done) | (simp only [se_map, se_byL, se_len, se_ch, List.length_map, roC]; done) : (((s29.map (roC 4 EnC)) ++ [[(LV.ro 4 (a2.map EnC))]]) : List (List LV)) = ((s29 ++ ([a2] : (List (List En)))).map (roC 4 EnC))), nlT⟩⟩, rfl, rfl, trivial⟩⟩⟩ rfl (K29 _ e.symm)
   ·replace b29 := condF hc b29
    conv => whnf
    replace b29 := grdS b29
    obtain ⟨g8, b29⟩ := b29
    replace g8 : fits (((s29.map (roC 4 EnC)) ++ [[(LV.ro 4 (x29.map EnC))]])).length 24 := by simpa only [se_len, se_ch, List.length_map] using g8
    repeat' first | exact rA _ | refine parkI ?_ | exact g8 | exact clA _ | (refine And.intro ?_ ?_ <;> conv => whnf) | exact clN _ | fail
    have e := Option.some.inj b29
    refine LoopW.ren [(0, 0), (1, 1), (4, 2)] [(1, (I a1)), (2, (LV.ro 4 (a2.map EnC))), (3, (LV.ptr 0 0 0)), (6, (LV.ptr 1 0 0)), (7, (LV.sl 2 0 ((s29 ++ ([x29] : (List (List En)))).map (roC 4 EnC)).length)), (12, (LV.ro 1 (a0.Buckets.map (roC 4 EnC)))), (13, (I (((a0.Buckets.map (roC 4 EnC)).length : Nat) : Int))), (14, (I ((k29 + 1 : Nat) : Int)))] 3 [(0, (.row 24 3 [[(LV.ro 1 (a0.Buckets.map (roC 4 EnC))), (I a0.Slots), (I a0.Age)]])), (1, (.row 24 3 [[LV.nils, (I 0), (I 0)]])), (2, (.row 39 1 ((s29 ++ ([x29] : (List (List En)))).map (roC 4 EnC))))] rfl ⟨rfl, rfl, rfl, rfl, (by exact congrArg (LV.sl 2 0) (clL _ : (((s29.map (roC 4 EnC)) ++ [[(LV.ro 4 (x29.map EnC))]])).length = ((s29 ++ ([x29] : (List (List En)))).map (roC 4 EnC)).length)), rfl, rfl, (congrArg (LV.int .i64) (w64_nat _ (by omega))), trivial⟩ ⟨⟨rfl, rfl, .inl ⟨rfl, nlT⟩⟩, rfl, rfl, ⟨⟨rfl, rfl, .inl ⟨rfl, nlT⟩⟩, rfl, rfl, ⟨⟨rfl, rfl, .inl ⟨(by first | (simp only [se_map, se_byL, se_len, se_ch, List.length_map]; done) | (simp only [se_map, se_byL, se_len, se_ch, List.length_map, roC]; done) : (((s29.map (roC 4 EnC)) ++ [[(LV.ro 4 (x29.map EnC))]]) : List (List LV)) = ((s29 ++ ([x29] : (List (List En)))).map (roC 4 EnC))), nlT⟩⟩, rfl, rfl, trivial⟩⟩⟩ rfl (K29 _ e.symm)
  ·exact (Bool.false_ne_true (hc.symm.trans hd)).elim

def ref08_Unpin (a0 : Tb) (a1 : Int) : Option Tb :=
 (ref08_bucket a0 a1).bind fun y1 =>
 (ref08_without y1 a1).bind fun y3 =>
 (ref08_with a0 a1 y3).bind fun y5 =>
 some y5

theorem c_ref08_Unpin (a0 : Tb) (a1 : Int) (r : Tb) (h : ref08_Unpin a0 a1 = some r) : CallP Tryz.prog 18 [(LV.agg [(LV.ro 1 (a0.Buckets.map (roC 4 EnC))), (I a0.Slots), (I a0.Age)]), (I a1)] (LV.agg [(LV.ro 1 (r.Buckets.map (roC 4 EnC))), (I r.Slots), (I r.Age)]) := by
 unfold ref08_Unpin at h
 refine .intro nlA (.intro TT_ok Tryz.func18 rfl rfl [0, 1, 2, 4] rfl ?_)
 conv => whnf
 replace h := bindS h
 obtain ⟨y1, hy1, h⟩ := h
 have c2 := c_ref08_bucket a0 a1 _ hy1
 replace h := bindS h
 obtain ⟨y3, hy3, h⟩ := h
 have c4 := c_ref08_without y1 a1 _ hy3
 replace h := bindS h
 obtain ⟨y5, hy5, h⟩ := h
 have c6 := c_ref08_with a0 a1 y3 _ hy5
 have e := Option.some.inj h
 subst e
 repeat' first | exact rA _ | (refine CallP.use c2 ?_; conv => whnf) | (refine ⟨_, _, CallP.at c2, ?_⟩; conv => whnf) | (refine ⟨_, fun _ => c2, ?_⟩; conv => whnf) | (refine CallP.use c4 ?_; conv => whnf) | (refine ⟨_, _, CallP.at c4, ?_⟩; conv => whnf) | (refine ⟨_, fun _ => c4, ?_⟩; conv => whnf) | (refine CallP.use c6 ?_; conv => whnf) | (refine ⟨_, _, CallP.at c6, ?_⟩; conv => whnf) | (refine ⟨_, fun _ => c6, ?_⟩; conv => whnf) | (refine W.drawnM (id := 1) 0 TT_ok hmix1 [0, 0, 0, 0, 0, 0, 0, 0, 0] [0, 0, 0, 0, 0, 0, 0, 0, 1] rfl ?_; conv => whnf) | exact clA _ | (refine And.intro ?_ ?_ <;> conv => whnf) | exact clG _ | (refine gand ?_ h; assumption) | exact clN _ | fail

def ref08_last_c0  (k30 : Nat) (x30 : En) (s30 : Int) : Option (Step Int Int) :=
 (bif (!x30.Static) then
  some (.nxt ((k30 : Nat) : Int))
 else
  some (.nxt s30))

def ref08_last (a0 : (List En)) : Option Int :=
 aft (rangeL (ref08_last_c0 ) a0 (-1)) fun s30 =>
 some s30

theorem c_ref08_last (a0 : (List En)) (r : Int) (h : ref08_last a0 = some r) : CallP Tryz.prog 66 [(LV.ro 4 (a0.map EnC))] (I r) := by
 unfold ref08_last at h
 refine .intro nlA (.intro TT_ok Tryz.func66 rfl rfl [0, 2, 3, 4, 5, 6, 7, 8, 9, 15] rfl ?_)
 conv => whnf
 repeat' first | exact rA _ | refine parkI ?_ | (refine And.intro ?_ ?_ <;> conv => whnf) | fail
 replace h := aftS h
 obtain ⟨O30, hO30, r30⟩ := h
 refine LoopW.norm [(3, (I (-1))), (6, (LV.ro 4 (a0.map EnC))), (7, (I (((a0.map EnC).length : Nat) : Int))), (8, (I ((0 : Nat) : Int)))] 0 [] ⟨rfl, rfl, rfl, rfl, trivial⟩ trivial blT rfl ?_
 refine LoopW.forR (fun k30 s30 => [(3, (I s30)), (6, (LV.ro 4 (a0.map EnC))), (7, (I (((a0.map EnC).length : Nat) : Int))), (8, (I ((k30 : Nat) : Int)))]) (fun s30 => ⟨0, []⟩) hO30 (fun hl30 s30 hs30 => ?_) (fun hl30 k30 x30 s30 o30 hk30 hx30 b30 K30 hret30 hbrk30 => ?_)
 ·rw [hs30] at r30
  dsimp only [aftM] at r30
  have hd : decide (((a0.length : Nat) : Int) < (((a0.map EnC).length : Nat) : Int)) = false := by rw [decide_eq_false_iff_not]; (try simp only [se_len, se_ch, List.length_map]); omega
  refine LoopW.round TT_ok [0, 2, 3, 4, 5, 6, 7, 8, 9, 15] ?_
  conv => whnf
  repeat' first | exact rA _ | refine parkI ?_ | (refine And.intro ?_ ?_ <;> conv => whnf) | fail
  refine parkE (fun hc => ?_) (fun hc => ?_)
  ·exact (Bool.false_ne_true (hd.symm.trans hc)).elim
  ·clear hd
   conv => whnf
   have e := Option.some.inj r30
   subst e
   repeat' first | exact rA _ | exact clA _ | (refine And.intro ?_ ?_ <;> conv => whnf) | exact clG _ | (refine gand ?_ h; assumption) | exact clN _ | fail
 ·unfold ref08_last_c0 at b30
  have hd : decide (((k30 : Nat) : Int) < (((a0.map EnC).length : Nat) : Int)) = true := by rw [decide_eq_true_eq]; (try simp only [se_len, se_ch, List.length_map] at hk30); (try simp only [se_len, se_ch, List.length_map]); omega
  refine LoopW.round TT_ok [0, 2, 3, 4, 5, 6, 7, 8, 9, 15] ?_
  conv => whnf
  repeat' first | exact rA _ | refine parkI ?_ | (refine And.intro ?_ ?_ <;> conv => whnf) | fail
  refine parkE (fun hc => ?_) (fun hc => ?_)
  ·clear hd
   conv => whnf
   repeat' first | exact rA _ | refine parkI ?_ | (refine ⟨_, (kixF (f := EnC) hx30), ?_⟩; conv => whnf) | (refine And.intro ?_ ?_ <;> conv => whnf) | fail
   refine parkE (fun hc => ?_) (fun hc => ?_)
   ·replace b30 := condT hc b30
    conv => whnf
    repeat' first | exact rA _ | refine parkI ?_ | (refine And.intro ?_ ?_ <;> conv => whnf) | fail
    have e := Option.some.inj b30
    refine LoopW.norm [(3, (I ((k30 : Nat) : Int))), (6, (LV.ro 4 (a0.map EnC))), (7, (I (((a0.map EnC).length : Nat) : Int))), (8, (I ((k30 + 1 : Nat) : Int)))] 0 [] ⟨rfl, rfl, rfl, (congrArg (LV.int .i64) (w64_nat _ (by omega))), trivial⟩ trivial blT rfl (K30 _ e.symm)
   ·replace b30 := condF hc b30
    conv => whnf
    repeat' first | exact rA _ | refine parkI ?_ | (refine And.intro ?_ ?_ <;> conv => whnf) | fail
    have e := Option.some.inj b30
    refine LoopW.norm [(3, (I s30)), (6, (LV.ro 4 (a0.map EnC))), (7, (I (((a0.map EnC).length : Nat) : Int))), (8, (I ((k30 + 1 : Nat) : Int)))] 0 [] ⟨rfl, rfl, rfl, (congrArg (LV.int .i64) (w64_nat _ (by omega))), trivial⟩ trivial blT rfl (K30 _ e.symm)
  ·exact (Bool.false_ne_true (hc.symm.trans hd)).elim

def ref08_put (a0 : Tb) (a1 : En) : Option (Tb × Bool) :=
 (ref08_bucket a0 a1.Mac).bind fun y1 =>
 (ref08_without y1 a1.Mac).bind fun y3 =>
 (bif (decide (((y3.length : Nat) : Int) = a0.Slots)) then
  (ref08_last y3).bind fun y5 =>
  (bif (decide (y5 < 0)) then
   some (a0, false)
  else
   (gix y3 y5).bind fun v7 =>
   (ref08_without y3 v7.Mac).bind fun y9 =>
   grd (fits ((([a1] : (List En)) ++ y9) : List En).length 32) <|
   (ref08_with a0 a1.Mac (([a1] : (List En)) ++ y9)).bind fun y12 =>
   some (y12, true))
 else
  grd (fits ((([a1] : (List En)) ++ y3) : List En).length 32) <|
  (ref08_with a0 a1.Mac (([a1] : (List En)) ++ y3)).bind fun y15 =>
  some (y15, true))

theorem c_ref08_put (a0 : Tb) (a1 : En) (r : (Tb × Bool)) (h : ref08_put a0 a1 = some r) : CallP Tryz.prog 45 [(LV.agg [(LV.ro 1 (a0.Buckets.map (roC 4 EnC))), (I a0.Slots), (I a0.Age)]), (LV.agg [(I a1.Mac), (I a1.Port), (I a1.Seen), (LV.bool a1.Static)])] (LV.tup [(LV.agg [(LV.ro 1 (r.1.Buckets.map (roC 4 EnC))), (I r.1.Slots), (I r.1.Age)]), (LV.bool r.2)]) := by
 unfold ref08_put at h
 refine .intro nlA (.intro TT_ok Tryz.func45 rfl rfl [0, 1, 2, 3, 4, 5, 6, 7, 8, 20, 24] rfl ?_)
 conv => whnf
 replace h := bindS h
 obtain ⟨y1, hy1, h⟩ := h
 have c2 := c_ref08_bucket a0 a1.Mac _ hy1
 replace h := bindS h
 obtain ⟨y3, hy3, h⟩ := h
 have c4 := c_ref08_without y1 a1.Mac _ hy3
 repeat' first | exact rA _ | refine parkI ?_ | (refine CallP.use c2 ?_; conv => whnf) | (refine ⟨_, _, CallP.at c2, ?_⟩; conv => whnf) | (refine ⟨_, fun _ => c2, ?_⟩; conv => whnf) | (refine CallP.use c4 ?_; conv => whnf) | (refine ⟨_, _, CallP.at c4, ?_⟩; conv => whnf) | (refine ⟨_, fun _ => c4, ?_⟩; conv => whnf) | (refine W.drawn TT_ok hmix1 rfl ?_; conv => whnf) | (refine W.drawnM (id := 8) 1 TT_ok hmix1 [0, 0, 0, 0, 0, 0, 1, 2, 3] [1, 1, 1, 0, 0, 1, 2, 3, 3] rfl ?_; conv => whnf) | exact clA _ | (refine And.intro ?_ ?_ <;> conv => whnf) | exact clG _ | (refine gand ?_ h; assumption) | exact clN _ | fail
 refine parkE (fun hc => ?_) (fun hc => ?_)
 ·replace h := condT (by first | exact hc | (simpa only [se_len, se_ch, List.length_map] using hc; done) | (have h0 : (decide ((((y3.map EnC).length : Nat) : Int) = a0.Slots)) = true := hc; simpa only [se_len, se_ch, List.length_map] using h0)) h
  conv => whnf
  replace h := bindS h
  obtain ⟨y5, hy5, h⟩ := h
  have c6 := c_ref08_last y3 _ hy5
  repeat' first | exact rA _ | refine parkI ?_ | (refine CallP.use c6 ?_; conv => whnf) | (refine ⟨_, _, CallP.at c6, ?_⟩; conv => whnf) | (refine ⟨_, fun _ => c6, ?_⟩; conv => whnf) | (refine W.drawn TT_ok hmix1 rfl ?_; conv => whnf) | (refine W.drawnM (id := 8) 1 TT_ok hmix1 [0, 0, 0, 0, 0, 0, 1, 2, 3] [1, 1, 1, 0, 0, 1, 2, 3, 3] rfl ?_; conv => whnf) | exact clA _ | (refine And.intro ?_ ?_ <;> conv => whnf) | exact clG _ | (refine gand ?_ h; assumption) | exact clN _ | fail
  refine parkE (fun hc => ?_) (fun hc => ?_)
  ·replace h := condT hc h
   conv => whnf
   have e := Option.some.inj h
   subst e
   repeat' first | exact rA _ | (refine W.drawn TT_ok hmix1 rfl ?_; conv => whnf) | (refine W.drawnM (id := 8) 1 TT_ok hmix1 [0, 0, 0, 0, 0, 0, 1, 2, 3] [1, 1, 1, 0, 0, 1, 2, 3, 3] rfl ?_; conv => whnf) | exact clA _ | (refine And.intro ?_ ?_ <;> conv => whnf) | exact clG _ | (refine gand ?_ h; assumption) | exact clN _ | fail
  ·replace h := condF hc h
   conv => whnf
   replace h := bindS h
   obtain ⟨v7, hv7, h⟩ := h
   have i8 := gixF (f := EnC) hv7
   replace h := bindS h
   obtain ⟨y9, hy9, h⟩ := h
   have c10 := cf_ref08_without y3 v7.Mac _ hy9
   replace h := grdS h
   obtain ⟨g11, h⟩ := h
   replace g11 : fits (([[(I a1.Mac), (I a1.Port), (I a1.Seen), (LV.bool a1.Static)]] ++ (y9.map EnC))).length 32 := by simpa only [se_len, se_ch, List.length_map] using g11
   replace h := bindS h
   obtain ⟨y12, hy12, h⟩ := h
   have c13 : CallP Tryz.prog 43 [(LV.agg [(LV.ro 1 (a0.Buckets.map (roC 4 EnC))), (I a0.Slots), (I a0.Age)]), (I a1.Mac), (LV.ro 4 ([[(I a1.Mac), (I a1.Port), (I a1.Seen), (LV.bool a1.Static)]] ++ (y9.map EnC)))] (LV.agg [(LV.ro 1 (y12.Buckets.map (roC 4 EnC))), (I y12.Slots), (I y12.Age)]) := by first | exact c_ref08_with a0 a1.Mac (([a1] : (List En)) ++ y9) _ hy12 | (simpa only [se_map, se_byL, se_len, se_ch, List.length_map] using c_ref08_with a0 a1.Mac (([a1] : (List En)) ++ y9) _ hy12)
   have e := Option.some.inj h
   subst e
   repeat' first | exact rA _ | (refine ⟨_, i8, ?_⟩; conv => whnf) | exact g11 | (refine CallP.use c13 ?_; conv => whnf) | (refine ⟨_, _, CallP.at c13, ?_⟩; conv => whnf) | (refine ⟨_, fun _ => c13, ?_⟩; conv => whnf) | (refine CallW.done (CallF.at c10 nlA (NLss_map' _)) ?_; conv => whnf) | (refine ⟨_, _, CallF.at c10 nlA (NLss_map' _), ?_⟩; conv => whnf) | (refine W.frzAt (id := 8) 5 rfl ?_; conv => whnf) | (refine W.drawn TT_ok hmix1 rfl ?_; conv => whnf) | (refine W.drawnM (id := 8) 1 TT_ok hmix1 [0, 0, 0, 0, 0, 0, 1, 2, 3] [1, 1, 1, 0, 0, 1, 2, 3, 3] rfl ?_; conv => whnf) | exact clA _ | (refine And.intro ?_ ?_ <;> conv => whnf) | exact clG _ | (refine gand ?_ h; assumption) | exact clN _ | fail
 ·replace h := condF (by first | exact hc | (simpa only [se_len, se_ch, List.length_map] using hc; done) | (have h0 : (decide ((((y3.map EnC).length : Nat) : Int) = a0.Slots)) = false := hc; simpa only [se_len, se_ch, List.length_map] using h0)) h
  conv => whnf
  replace h := grdS h
  obtain ⟨g14, h⟩ := h
  replace g14 : fits (([[(I a1.Mac), (I a1.Port), (I a1.Seen), (LV.bool a1.Static)]] ++ (y3.map EnC))).length 32 := by simpa only [se_len, se_ch, List.length_map] using g14
  replace h := bindS h
  obtain ⟨y15, hy15, h⟩ := h
  have c16 : CallP Tryz.prog 43 [(LV.agg [(LV.ro 1 (a0.Buckets.map (roC 4 EnC))), (I a0.Slots), (I a0.Age)]), (I a1.Mac), (LV.ro 4 ([[(I a1.Mac), (I a1.Port), (I a1.Seen), (LV.bool a1.Static)]] ++ (y3.map EnC)))] (LV.agg [(LV.ro 1 (y15.Buckets.map (roC 4 EnC))), (I y15.Slots), (I y15.Age)]) := by first | exact c_ref08_with a0 a1.Mac (([a1] : (List En)) ++ y3) _ hy15 | (simpa only [se_map, se_byL, se_len, se_ch, List.length_map] using c_ref08_with a0 a1.Mac (([a1] : (List En)) ++ y3) _ hy15)
  have e := Option.some.inj h
  subst e
  repeat' first | exact rA _ | exact g14 | (refine CallP.use c16 ?_; conv => whnf) | (refine ⟨_, _, CallP.at c16, ?_⟩; conv => whnf) | (refine ⟨_, fun _ => c16, ?_⟩; conv => whnf) | (refine W.frzAt (id := 8) 4 rfl ?_; conv => whnf) | (refine W.drawn TT_ok hmix1 rfl ?_; conv => whnf) | (refine W.drawnM (id := 8) 1 TT_ok hmix1 [0, 0, 0, 0, 0, 0, 1, 2, 3] [1, 1, 1, 0, 0, 1, 2, 3, 3] rfl ?_; conv => whnf) | exact clA _ | (refine And.intro ?_ ?_ <;> conv => whnf) | exact clG _ | (refine gand ?_ h; assumption) | exact clN _ | fail

def ref08_Pin (a0 : Tb) (a1 : Int) (a2 : Int) : Option (Tb × Bool) :=
 (ref08_put a0 (⟨a1, a2, 0, true⟩ : En)).bind fun y1 =>
 some (y1.1, y1.2)

theorem c_ref08_Pin (a0 : Tb) (a1 : Int) (a2 : Int) (r : (Tb × Bool)) (h : ref08_Pin a0 a1 a2 = some r) : CallP Tryz.prog 19 [(LV.agg [(LV.ro 1 (a0.Buckets.map (roC 4 EnC))), (I a0.Slots), (I a0.Age)]), (I a1), (I a2)] (LV.tup [(LV.agg [(LV.ro 1 (r.1.Buckets.map (roC 4 EnC))), (I r.1.Slots), (I r.1.Age)]), (LV.bool r.2)]) := by
 unfold ref08_Pin at h
 refine .intro nlA (.intro TT_ok Tryz.func19 rfl rfl [0, 1, 2, 3, 6, 7] rfl ?_)
 conv => whnf
 replace h := bindS h
 obtain ⟨y1, hy1, h⟩ := h
 have c2 : CallP Tryz.prog 45 [(LV.agg [(LV.ro 1 (a0.Buckets.map (roC 4 EnC))), (I a0.Slots), (I a0.Age)]), (LV.agg [(I a1), (I a2), (I 0), (LV.bool true)])] (LV.tup [(LV.agg [(LV.ro 1 (y1.1.Buckets.map (roC 4 EnC))), (I y1.1.Slots), (I y1.1.Age)]), (LV.bool y1.2)]) := by first | exact c_ref08_put a0 (⟨a1, a2, 0, true⟩ : En) _ hy1 | (simpa only [se_map, se_byL, se_len, se_ch, List.length_map] using c_ref08_put a0 (⟨a1, a2, 0, true⟩ : En) _ hy1) | (simpa only [se_map, se_byL, se_len, se_ch, List.length_map, EnC] using c_ref08_put a0 (⟨a1, a2, 0, true⟩ : En) _ hy1)
 have e := Option.some.inj h
 subst e
 repeat' first | exact rA _ | (refine CallP.use c2 ?_; conv => whnf) | exact clA _ | (refine And.intro ?_ ?_ <;> conv => whnf) | exact clG _ | (refine gand ?_ h; assumption) | exact clN _ | fail

end Go.RX
