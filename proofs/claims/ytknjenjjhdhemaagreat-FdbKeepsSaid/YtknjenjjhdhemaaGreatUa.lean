/- Plain functions, and what says that the program's functions compute them. -/
import Derived.Test.YtknjenjjhdhemaaGreatSeb
set_option linter.unusedVariables false
set_option linter.unusedSimpArgs false
open Go Go.RX Go.Proofs
namespace Go.RX
set_option maxRecDepth 10000
set_option maxHeartbeats 4000000
attribute [local irreducible] CallW CallP LoopW W IntKind.wrap bitI
def hash_isNumber (a0 : Int) : Option Bool :=
 some (bif (bif (decide (1 ≤ a0)) then (decide (a0 ≤ 16)) else false) then (decide ((bitI .and IntKind.i64 a0 (IntKind.i64.wrap (a0 - 1))) = 0)) else false)

theorem c_hash_isNumber (a0 : Int) (r : Bool) (h : hash_isNumber a0 = some r) : CallP Tryz.prog 67 [(I a0)] (LV.bool r) := by
 unfold hash_isNumber at h
 refine .intro nlA (.intro TT_ok Tryz.func67 rfl rfl [0, 2] rfl ?_)
 conv => whnf
 have e := Option.some.inj h
 subst e
 repeat' first | exact rA _ | exact clA _ | (refine And.intro ?_ ?_ <;> conv => whnf) | exact clG _ | (refine gand ?_ h; assumption) | exact clN _ | fail

def mac_Right (a0 : Int) : Option Bool :=
 some (bif (decide (0 ≤ a0)) then (decide (a0 ≤ 281474976710655)) else false)

theorem c_mac_Right (a0 : Int) (r : Bool) (h : mac_Right a0 = some r) : CallP Tryz.prog 69 [(I a0)] (LV.bool r) := by
 unfold mac_Right at h
 refine .intro nlA (.intro TT_ok Tryz.func69 rfl rfl [0, 2] rfl ?_)
 conv => whnf
 have e := Option.some.inj h
 subst e
 repeat' first | exact rA _ | exact clA _ | (refine And.intro ?_ ?_ <;> conv => whnf) | exact clG _ | (refine gand ?_ h; assumption) | exact clN _ | fail

def mac_Bytes_c0 (a0 : Int) (k1 : Nat) (s1 : (List Int)) : Option (Step (ByteArray × Int) (List Int)) :=
 grd ((0 : Int) ≤ (IntKind.i64.wrap (8 * (IntKind.i64.wrap (5 - ((k1 : Nat) : Int)))))) <|
 grd ((0 : Int) ≤ ((k1 : Nat) : Int) ∧ ((k1 : Nat) : Int) < ((6 : Nat) : Int)) <|
 (gixN s1 (((k1 : Nat) : Int) : Int).toNat).bind fun v7 =>
 some (.nxt (s1.set (((k1 : Nat) : Int) : Int).toNat (IntKind.u8.wrap ((a0).fdiv (2 ^ (min ((IntKind.i64.wrap (8 * (IntKind.i64.wrap (5 - ((k1 : Nat) : Int))))) : Int).toNat 64))))))

def mac_Bytes (a0 : Int) : Option (ByteArray × Int) :=
 (mac_Right a0).bind fun y3 =>
 (bif (!y3) then
  some ((⟨#[]⟩ : ByteArray), 1)
 else
  aft (rangeN (mac_Bytes_c0 a0) 6 ([0, 0, 0, 0, 0, 0] : (List Int))) fun s1 =>
  grd (6 = (s1).length) <|
  (strP s1).bind fun z10 =>
  some (z10, 0))

theorem c_mac_Bytes (a0 : Int) (r : (ByteArray × Int)) (h : mac_Bytes a0 = some r) : CallP Tryz.prog 84 [(I a0)] (LV.tup [(LV.str r.1), (I r.2)]) := by
 unfold mac_Bytes at h
 refine .intro nlA (.intro TT_ok Tryz.func84 rfl rfl [0, 2, 3, 4, 5, 8, 9, 10, 5000004, 6000021] rfl ?_)
 conv => whnf
 replace h := bindS h
 obtain ⟨y3, hy3, h⟩ := h
 have c4 := c_mac_Right a0 _ hy3
 repeat' first | exact rA _ | refine parkI ?_ | (refine CallP.use c4 ?_; conv => whnf) | (refine And.intro ?_ ?_ <;> conv => whnf) | fail
 refine parkE (fun hc => ?_) (fun hc => ?_)
 ·replace h := condT hc h
  conv => whnf
  have e := Option.some.inj h
  subst e
  repeat' first | exact rA _ | exact clA _ | (refine And.intro ?_ ?_ <;> conv => whnf) | exact clG _ | (refine gand ?_ h; assumption) | exact clN _ | fail
 ·replace h := condF hc h
  conv => whnf
  repeat' first | exact rA _ | refine parkI ?_ | (refine And.intro ?_ ?_ <;> conv => whnf) | fail
  replace h := aftS h
  obtain ⟨O1, hO1, r1⟩ := h
  refine LoopW.norm [(0, (I a0)), (4, (LV.ptr 0 0 0)), (9, (I ((0 : Nat) : Int)))] 1 [(0, (.row 104 1 (([0, 0, 0, 0, 0, 0] : (List Int)).map (ikC .u8))))] ⟨rfl, rfl, rfl, trivial⟩ ⟨⟨(congrArg (fun q => some (Blk.row 104 1 q)) (smT : ([[(LV.int .u8 0)], [(LV.int .u8 0)], [(LV.int .u8 0)], [(LV.int .u8 0)], [(LV.int .u8 0)], [(LV.int .u8 0)]] : List (List LV)) = (([0, 0, 0, 0, 0, 0] : (List Int)).map (ikC .u8)))), rfl, NLss_bel (NLss_map' _)⟩, trivial⟩ blT rfl ?_
  refine LoopW.forN (fun k1 s1 => [(0, (I a0)), (4, (LV.ptr 0 0 0)), (9, (I ((k1 : Nat) : Int)))]) (fun s1 => ⟨1, [(0, (.row 104 1 (s1.map (ikC .u8))))]⟩) hO1 (fun hl1 s1 hs1 => ?_) (fun hl1 k1 s1 o1 hk1 b1 K1 hret1 hbrk1 => ?_)
  ·rw [hs1] at r1
   dsimp only [aftM] at r1
   have hd : decide ((((6 : Int).toNat : Nat) : Int) < 6) = false := by rw [decide_eq_false_iff_not]; (try simp only [se_len, se_ch, List.length_map]); omega
   refine LoopW.round TT_ok [0, 2, 3, 4, 5, 8, 9, 10, 5000004, 6000021] ?_
   conv => whnf
   repeat' first | exact rA _ | refine parkI ?_ | (refine And.intro ?_ ?_ <;> conv => whnf) | fail
   refine parkE (fun hc => ?_) (fun hc => ?_)
   ·exact (Bool.false_ne_true (hd.symm.trans hc)).elim
   ·clear hd
    conv => whnf
    replace r1 := grdS r1
    obtain ⟨g9, r1⟩ := r1
    replace g9 : 6 = ((s1.map (ikC .u8))).length := by simpa only [se_len, se_ch, List.length_map] using g9
    replace r1 := bindS r1
    obtain ⟨z10, hz10, r1⟩ := r1
    have i11 : (s1.map (ikC .u8)) = byL z10 := by simpa only [se_map, se_byL] using strPF hz10
    have e := Option.some.inj r1
    subst e
    repeat' first | exact rA _ | exact g9 | (refine ⟨rfl, _, i11, ?_⟩; conv => whnf) | exact clA _ | (refine And.intro ?_ ?_ <;> conv => whnf) | exact clG _ | (refine gand ?_ h; assumption) | exact clN _ | fail
  ·unfold mac_Bytes_c0 at b1
   have hd : decide (((k1 : Nat) : Int) < 6) = true := by rw [decide_eq_true_eq]; (try simp only [se_len, se_ch, List.length_map] at hk1); (try simp only [se_len, se_ch, List.length_map]); omega
   refine LoopW.round TT_ok [0, 2, 3, 4, 5, 8, 9, 10, 5000004, 6000021] ?_
   conv => whnf
   repeat' first | exact rA _ | refine parkI ?_ | (refine And.intro ?_ ?_ <;> conv => whnf) | fail
   refine parkE (fun hc => ?_) (fun hc => ?_)
   ·clear hd
    conv => whnf
    replace b1 := grdS b1
    obtain ⟨g5, b1⟩ := b1
    replace b1 := grdS b1
    obtain ⟨g6, b1⟩ := b1
    replace b1 := bindS b1
    obtain ⟨v7, hv7, b1⟩ := b1
    have i8 : nth (s1.map (ikC .u8)) (0 + ((((k1 : Nat) : Int) : Int).toNat)) = some [(LV.int .u8 v7)] := by simpa only [se_map, se_len, se_ch, List.length_map, nth_eq, Nat.zero_add, List.getElem?_map] using gixNF (f := (ikC .u8)) hv7
    repeat' first | exact rA _ | refine parkI ?_ | exact g5 | exact g6 | (rw [i8]; conv => whnf) | (refine And.intro ?_ ?_ <;> conv => whnf) | fail
    have e := Option.some.inj b1
    refine LoopW.norm [(0, (I a0)), (4, (LV.ptr 0 0 0)), (9, (I ((k1 + 1 : Nat) : Int)))] 1 [(0, (.row 104 1 ((s1.set (((k1 : Nat) : Int) : Int).toNat (IntKind.u8.wrap ((a0).fdiv (2 ^ (min ((IntKind.i64.wrap (8 * (IntKind.i64.wrap (5 - ((k1 : Nat) : Int))))) : Int).toNat 64))))).map (ikC .u8))))] ⟨rfl, rfl, (congrArg (LV.int .i64) (w64_nat _ (by omega))), trivial⟩ ⟨⟨(congrArg (fun q => some (Blk.row 104 1 q)) (smT : ((setN (s1.map (ikC .u8)) (0 + ((((k1 : Nat) : Int) : Int).toNat)) [(LV.int .u8 (IntKind.u8.wrap ((a0).fdiv (2 ^ (min ((IntKind.i64.wrap (8 * (IntKind.i64.wrap (5 - ((k1 : Nat) : Int))))) : Int).toNat 64)))))]) : List (List LV)) = ((s1.set (((k1 : Nat) : Int) : Int).toNat (IntKind.u8.wrap ((a0).fdiv (2 ^ (min ((IntKind.i64.wrap (8 * (IntKind.i64.wrap (5 - ((k1 : Nat) : Int))))) : Int).toNat 64))))).map (ikC .u8)))), rfl, NLss_bel (NLss_map' _)⟩, trivial⟩ blT rfl (K1 _ e.symm)
   ·exact (Bool.false_ne_true (hc.symm.trans hd)).elim

def hash_Sum_c0 (y3 : (ByteArray × Int)) (k2 : Nat) (s2 : Int) : Option (Step (Int × Int) Int) :=
 (gixS y3.1 ((k2 : Nat) : Int)).bind fun v5 =>
 some (.nxt (IntKind.u32.wrap ((bitI .xor IntKind.u32 s2 (IntKind.u32.wrap ((v5.toNat : Nat) : Int))) * 16777619)))

def hash_Sum (a0 : Int) : Option (Int × Int) :=
 (mac_Bytes a0).bind fun y3 =>
 (bif (!decide (y3.2 = 0)) then
  some (0, y3.2)
 else
  aft (rangeN (hash_Sum_c0 y3) ((y3.1.size : Nat) : Int) 2166136261) fun s2 =>
  some ((IntKind.i64.wrap s2), 0))

theorem c_hash_Sum (a0 : Int) (r : (Int × Int)) (h : hash_Sum a0 = some r) : CallP Tryz.prog 68 [(I a0)] (LV.tup [(I r.1), (I r.2)]) := by
 unfold hash_Sum at h
 refine .intro nlA (.intro TT_ok Tryz.func68 rfl rfl [0, 2, 3, 4, 5, 6, 7, 14, 17, 18, 19] rfl ?_)
 conv => whnf
 replace h := bindS h
 obtain ⟨y3, hy3, h⟩ := h
 have c4 := c_mac_Bytes a0 _ hy3
 repeat' first | exact rA _ | refine parkI ?_ | (refine CallP.use c4 ?_; conv => whnf) | (refine And.intro ?_ ?_ <;> conv => whnf) | fail
 refine parkE (fun hc => ?_) (fun hc => ?_)
 ·replace h := condT hc h
  conv => whnf
  have e := Option.some.inj h
  subst e
  repeat' first | exact rA _ | exact clA _ | (refine And.intro ?_ ?_ <;> conv => whnf) | exact clG _ | (refine gand ?_ h; assumption) | exact clN _ | fail
 ·replace h := condF hc h
  conv => whnf
  repeat' first | exact rA _ | refine parkI ?_ | (refine And.intro ?_ ?_ <;> conv => whnf) | fail
  replace h := aftS h
  obtain ⟨O2, hO2, r2⟩ := h
  refine LoopW.norm [(4, (LV.str y3.1)), (6, (LV.int .u32 2166136261)), (17, (I ((y3.1.size : Nat) : Int))), (18, (I ((0 : Nat) : Int)))] 0 [] ⟨rfl, rfl, rfl, rfl, trivial⟩ trivial blT rfl ?_
  refine LoopW.forN (fun k2 s2 => [(4, (LV.str y3.1)), (6, (LV.int .u32 s2)), (17, (I ((y3.1.size : Nat) : Int))), (18, (I ((k2 : Nat) : Int)))]) (fun s2 => ⟨0, []⟩) hO2 (fun hl2 s2 hs2 => ?_) (fun hl2 k2 s2 o2 hk2 b2 K2 hret2 hbrk2 => ?_)
  ·rw [hs2] at r2
   dsimp only [aftM] at r2
   have hd : decide ((((((y3.1.size : Nat) : Int) : Int).toNat : Nat) : Int) < ((y3.1.size : Nat) : Int)) = false := by rw [decide_eq_false_iff_not]; (try simp only [se_len, se_ch, List.length_map]); omega
   refine LoopW.round TT_ok [0, 2, 3, 4, 5, 6, 7, 14, 17, 18, 19] ?_
   conv => whnf
   repeat' first | exact rA _ | refine parkI ?_ | (refine And.intro ?_ ?_ <;> conv => whnf) | fail
   refine parkE (fun hc => ?_) (fun hc => ?_)
   ·exact (Bool.false_ne_true (hd.symm.trans hc)).elim
   ·clear hd
    conv => whnf
    have e := Option.some.inj r2
    subst e
    repeat' first | exact rA _ | exact clA _ | (refine And.intro ?_ ?_ <;> conv => whnf) | exact clG _ | (refine gand ?_ h; assumption) | exact clN _ | fail
  ·unfold hash_Sum_c0 at b2
   have hd : decide (((k2 : Nat) : Int) < ((y3.1.size : Nat) : Int)) = true := by rw [decide_eq_true_eq]; (try simp only [se_len, se_ch, List.length_map] at hk2); (try simp only [se_len, se_ch, List.length_map]); omega
   refine LoopW.round TT_ok [0, 2, 3, 4, 5, 6, 7, 14, 17, 18, 19] ?_
   conv => whnf
   repeat' first | exact rA _ | refine parkI ?_ | (refine And.intro ?_ ?_ <;> conv => whnf) | fail
   refine parkE (fun hc => ?_) (fun hc => ?_)
   ·clear hd
    conv => whnf
    replace b2 := bindS b2
    obtain ⟨v5, hv5, b2⟩ := b2
    have i6 := gixSF hv5
    repeat' first | exact rA _ | refine parkI ?_ | (refine ⟨_, i6, ?_⟩; conv => whnf) | (refine And.intro ?_ ?_ <;> conv => whnf) | fail
    have e := Option.some.inj b2
    refine LoopW.norm [(4, (LV.str y3.1)), (6, (LV.int .u32 (IntKind.u32.wrap ((bitI .xor IntKind.u32 s2 (IntKind.u32.wrap ((v5.toNat : Nat) : Int))) * 16777619)))), (17, (I ((y3.1.size : Nat) : Int))), (18, (I ((k2 + 1 : Nat) : Int)))] 0 [] ⟨rfl, rfl, rfl, (congrArg (LV.int .i64) (w64_nat _ (by omega))), trivial⟩ trivial blT rfl (K2 _ e.symm)
   ·exact (Bool.false_ne_true (hc.symm.trans hd)).elim

def hash_Bucket (a0 : Int) (a1 : Int) : Option (Int × Int) :=
 (hash_isNumber a1).bind fun y1 =>
 (bif (!y1) then
  some (0, 2)
 else
  (hash_Sum a0).bind fun y3 =>
  some ((bitI .and IntKind.i64 y3.1 (IntKind.i64.wrap (a1 - 1))), y3.2))

theorem c_hash_Bucket (a0 : Int) (a1 : Int) (r : (Int × Int)) (h : hash_Bucket a0 a1 = some r) : CallP Tryz.prog 47 [(I a0), (I a1)] (LV.tup [(I r.1), (I r.2)]) := by
 unfold hash_Bucket at h
 refine .intro nlA (.intro TT_ok Tryz.func47 rfl rfl [0, 1, 4, 5, 6, 7, 10] rfl ?_)
 conv => whnf
 replace h := bindS h
 obtain ⟨y1, hy1, h⟩ := h
 have c2 := c_hash_isNumber a1 _ hy1
 repeat' first | exact rA _ | refine parkI ?_ | (refine CallP.use c2 ?_; conv => whnf) | (refine And.intro ?_ ?_ <;> conv => whnf) | fail
 refine parkE (fun hc => ?_) (fun hc => ?_)
 ·replace h := condT hc h
  conv => whnf
  have e := Option.some.inj h
  subst e
  repeat' first | exact rA _ | exact clA _ | (refine And.intro ?_ ?_ <;> conv => whnf) | exact clG _ | (refine gand ?_ h; assumption) | exact clN _ | fail
 ·replace h := condF hc h
  conv => whnf
  replace h := bindS h
  obtain ⟨y3, hy3, h⟩ := h
  have c4 := c_hash_Sum a0 _ hy3
  have e := Option.some.inj h
  subst e
  repeat' first | exact rA _ | (refine CallP.use c4 ?_; conv => whnf) | exact clA _ | (refine And.intro ?_ ?_ <;> conv => whnf) | exact clG _ | (refine gand ?_ h; assumption) | exact clN _ | fail

def fdb_in (a0 : Int) (a1 : Int) (a2 : Int) : Option Bool :=
 some (bif (decide (a1 ≤ a0)) then (decide (a0 ≤ a2)) else false)

theorem c_fdb_in (a0 : Int) (a1 : Int) (a2 : Int) (r : Bool) (h : fdb_in a0 a1 a2 = some r) : CallP Tryz.prog 49 [(I a0), (I a1), (I a2)] (LV.bool r) := by
 unfold fdb_in at h
 refine .intro nlA (.intro TT_ok Tryz.func49 rfl rfl [0, 1, 2, 6] rfl ?_)
 conv => whnf
 have e := Option.some.inj h
 subst e
 repeat' first | exact rA _ | exact clA _ | (refine And.intro ?_ ?_ <;> conv => whnf) | exact clG _ | (refine gand ?_ h; assumption) | exact clN _ | fail

def fdb_sizes (a0 : Int) (a1 : Int) (a2 : Int) : Option Bool :=
 (hash_Bucket 0 a0).bind fun y1 =>
 (gd (decide (y1.2 = 0)) (fdb_in a1 1 4)).bind fun y3 =>
 (gd (bif (decide (y1.2 = 0)) then y3 else false) (fdb_in a2 1 1048576)).bind fun y5 =>
 some (bif (bif (decide (y1.2 = 0)) then y3 else false) then y5 else false)

theorem c_fdb_sizes (a0 : Int) (a1 : Int) (a2 : Int) (r : Bool) (h : fdb_sizes a0 a1 a2 = some r) : CallP Tryz.prog 46 [(I a0), (I a1), (I a2)] (LV.bool r) := by
 unfold fdb_sizes at h
 refine .intro nlA (.intro TT_ok Tryz.func46 rfl rfl [0, 1, 2, 6, 8] rfl ?_)
 conv => whnf
 replace h := bindS h
 obtain ⟨y1, hy1, h⟩ := h
 have c2 := c_hash_Bucket 0 a0 _ hy1
 replace h := bindS h
 obtain ⟨y3, hy3, h⟩ := h
 have c4 := fun (hg : (decide (y1.2 = 0)) = true) => c_fdb_in a1 1 4 _ (gdS hg hy3)
 replace h := bindS h
 obtain ⟨y5, hy5, h⟩ := h
 have c6 := fun (hg : (bif (decide (y1.2 = 0)) then y3 else false) = true) => c_fdb_in a2 1 1048576 _ (gdS hg hy5)
 have e := Option.some.inj h
 subst e
 repeat' first | exact rA _ | (refine ⟨_, c4, ?_⟩; conv => whnf) | (refine ⟨_, c6, ?_⟩; conv => whnf) | (refine CallP.use c2 ?_; conv => whnf) | exact clA _ | (refine And.intro ?_ ?_ <;> conv => whnf) | exact clG _ | (refine gand ?_ h; assumption) | exact clN _ | fail

def fdb_New (a0 : Int) (a1 : Int) (a2 : Int) : Option (Tb × Int) :=
 (fdb_sizes a0 a1 a2).bind fun y1 =>
 (bif (!y1) then
  some ((⟨[], 0, 0⟩ : Tb), 2)
 else
  grd ((0 : Int) ≤ a0 ∧ a0 ≤ a0 ∧ fits (a0).toNat 24) <|
  some ((⟨(List.replicate (a0).toNat ([] : (List En))), a1, a2⟩ : Tb), 0))

theorem c_fdb_New (a0 : Int) (a1 : Int) (a2 : Int) (r : (Tb × Int)) (h : fdb_New a0 a1 a2 = some r) : CallP Tryz.prog 35 [(I a0), (I a1), (I a2)] (LV.tup [(LV.agg [(LV.ro 1 (r.1.Buckets.map (roC 4 EnC))), (I r.1.Slots), (I r.1.Age)]), (I r.2)]) := by
 unfold fdb_New at h
 refine .intro nlA (.intro TT_ok Tryz.func35 rfl rfl [0, 1, 2, 6, 7, 12, 5000015] rfl ?_)
 conv => whnf
 replace h := bindS h
 obtain ⟨y1, hy1, h⟩ := h
 have c2 := c_fdb_sizes a0 a1 a2 _ hy1
 repeat' first | exact rA _ | refine parkI ?_ | (refine CallP.use c2 ?_; conv => whnf) | (refine And.intro ?_ ?_ <;> conv => whnf) | fail
 refine parkE (fun hc => ?_) (fun hc => ?_)
 ·replace h := condT hc h
  conv => whnf
  have e := Option.some.inj h
  subst e
  repeat' first | exact rA _ | exact clA _ | (refine And.intro ?_ ?_ <;> conv => whnf) | exact clG _ | (refine gand ?_ h; assumption) | exact clN _ | fail
 ·replace h := condF hc h
  conv => whnf
  replace h := grdS h
  obtain ⟨g3, h⟩ := h
  have e := Option.some.inj h
  subst e
  repeat' first | exact rA _ | exact g3 | exact clA _ | (refine And.intro ?_ ?_ <;> conv => whnf) | exact clG _ | (refine gand ?_ h; assumption) | exact clN _ | fail

def mac_Class (a0 : Int) : Option (Int × Int) :=
 (mac_Right a0).bind fun y3 =>
 (bif (!y3) then
  some (0, 1)
 else
  (bif (decide ((bitI .andNot IntKind.i64 a0 15) = 1652522221568)) then
   some (2, 0)
  else
   some ((bitI .and IntKind.i64 ((a0).fdiv (2 ^ (min (40 : Int).toNat 64))) 1), 0)))

theorem c_mac_Class (a0 : Int) (r : (Int × Int)) (h : mac_Class a0 = some r) : CallP Tryz.prog 48 [(I a0)] (LV.tup [(I r.1), (I r.2)]) := by
 unfold mac_Class at h
 refine .intro nlA (.intro TT_ok Tryz.func48 rfl rfl [0, 2, 3, 4, 8] rfl ?_)
 conv => whnf
 replace h := bindS h
 obtain ⟨y3, hy3, h⟩ := h
 have c4 := c_mac_Right a0 _ hy3
 repeat' first | exact rA _ | refine parkI ?_ | (refine CallP.use c4 ?_; conv => whnf) | (refine And.intro ?_ ?_ <;> conv => whnf) | fail
 refine parkE (fun hc => ?_) (fun hc => ?_)
 ·replace h := condT hc h
  conv => whnf
  have e := Option.some.inj h
  subst e
  repeat' first | exact rA _ | exact clA _ | (refine And.intro ?_ ?_ <;> conv => whnf) | exact clG _ | (refine gand ?_ h; assumption) | exact clN _ | fail
 ·replace h := condF hc h
  conv => whnf
  repeat' first | exact rA _ | refine parkI ?_ | (refine And.intro ?_ ?_ <;> conv => whnf) | fail
  refine parkE (fun hc => ?_) (fun hc => ?_)
  ·replace h := condT hc h
   conv => whnf
   have e := Option.some.inj h
   subst e
   repeat' first | exact rA _ | exact clA _ | (refine And.intro ?_ ?_ <;> conv => whnf) | exact clG _ | (refine gand ?_ h; assumption) | exact clN _ | fail
  ·replace h := condF hc h
   conv => whnf
   have e := Option.some.inj h
   subst e
   repeat' first | exact rA _ | exact (by decide : (0 : Int) ≤ 40) | exact clA _ | (refine And.intro ?_ ?_ <;> conv => whnf) | exact clG _ | (refine gand ?_ h; assumption) | exact clN _ | fail

def fdb_isMac (a0 : Int) : Option Bool :=
 (mac_Class a0).bind fun y3 =>
 some (bif (decide (y3.2 = 0)) then (decide (y3.1 = 0)) else false)

theorem c_fdb_isMac (a0 : Int) (r : Bool) (h : fdb_isMac a0 = some r) : CallP Tryz.prog 21 [(I a0)] (LV.bool r) := by
 unfold fdb_isMac at h
 refine .intro nlA (.intro TT_ok Tryz.func21 rfl rfl [0, 2, 3, 4] rfl ?_)
 conv => whnf
 replace h := bindS h
 obtain ⟨y3, hy3, h⟩ := h
 have c4 := c_mac_Class a0 _ hy3
 have e := Option.some.inj h
 subst e
 repeat' first | exact rA _ | (refine CallP.use c4 ?_; conv => whnf) | exact clA _ | (refine And.intro ?_ ?_ <;> conv => whnf) | exact clG _ | (refine gand ?_ h; assumption) | exact clN _ | fail

def fdb_isPort (a0 : Int) : Option Bool :=
 (fdb_in a0 0 7).bind fun y5 =>
 some y5

theorem c_fdb_isPort (a0 : Int) (r : Bool) (h : fdb_isPort a0 = some r) : CallP Tryz.prog 22 [(I a0)] (LV.bool r) := by
 unfold fdb_isPort at h
 refine .intro nlA (.intro TT_ok Tryz.func22 rfl rfl [0, 2] rfl ?_)
 conv => whnf
 replace h := bindS h
 obtain ⟨y5, hy5, h⟩ := h
 have c6 := c_fdb_in a0 0 7 _ hy5
 have e := Option.some.inj h
 subst e
 repeat' first | exact rA _ | (refine CallP.use c6 ?_; conv => whnf) | exact clA _ | (refine And.intro ?_ ?_ <;> conv => whnf) | exact clG _ | (refine gand ?_ h; assumption) | exact clN _ | fail

def fdb_isTime (a0 : Int) : Option Bool :=
 (fdb_in a0 0 1099511627776).bind fun y7 =>
 some y7

theorem c_fdb_isTime (a0 : Int) (r : Bool) (h : fdb_isTime a0 = some r) : CallP Tryz.prog 27 [(I a0)] (LV.bool r) := by
 unfold fdb_isTime at h
 refine .intro nlA (.intro TT_ok Tryz.func27 rfl rfl [0, 2] rfl ?_)
 conv => whnf
 replace h := bindS h
 obtain ⟨y7, hy7, h⟩ := h
 have c8 := c_fdb_in a0 0 1099511627776 _ hy7
 have e := Option.some.inj h
 subst e
 repeat' first | exact rA _ | (refine CallP.use c8 ?_; conv => whnf) | exact clA _ | (refine And.intro ?_ ?_ <;> conv => whnf) | exact clG _ | (refine gand ?_ h; assumption) | exact clN _ | fail

theorem ke_3 (a b : Int) : eqL TT 8 3 (I a) (I b) = some (decide (a = b)) := rfl

def fdb_Right_c1 (a0 : Tb) (k3 : Nat) (k4 : Nat) (x4 : En) (s4 : (List (Int × Int))) : Option (Step (Step Bool Unit) (List (Int × Int))) :=
 (fdb_isMac x4.Mac).bind fun y3 =>
 (gd (!(!y3)) (fdb_isPort x4.Port)).bind fun y5 =>
 (gd (!(bif (!y3) then true else (!y5))) (fdb_isTime x4.Seen)).bind fun y7 =>
 (bif (bif (bif (bif (!y3) then true else (!y5)) then true else (!y7)) then true else (bif x4.Static then (!((decide (x4.Mac = x4.Mac)) && ((decide (x4.Port = x4.Port)) && ((decide (x4.Seen = 0)) && ((x4.Static == true) && true))))) else false)) then
  some (.ret (.ret false))
 else
  (hash_Bucket x4.Mac ((a0.Buckets.length : Nat) : Int)).bind fun y9 =>
  (bif (bif (!decide (y9.1 = ((k3 : Nat) : Int))) then true else (decide (1 < (IntKind.i64.wrap ((mget s4 x4.Mac 0) + 1))))) then
   some (.ret (.ret false))
  else
   some (.nxt (mput s4 x4.Mac (IntKind.i64.wrap ((mget s4 x4.Mac 0) + 1))))))

def fdb_Right_c0 (a0 : Tb) (k3 : Nat) (x3 : (List En)) (s3 : Unit) : Option (Step Bool Unit) :=
 aft (rangeL (fdb_Right_c1 a0 k3) x3 ([] : List (Int × Int))) fun s4 =>
 (bif (decide (a0.Slots < ((x3.length : Nat) : Int))) then
  some (.ret false)
 else
  some (.nxt ()))

def fdb_Right (a0 : Tb) : Option Bool :=
 (fdb_sizes ((a0.Buckets.length : Nat) : Int) a0.Slots a0.Age).bind fun y1 =>
 (bif (!y1) then
  some false
 else
  aft (rangeL (fdb_Right_c0 a0) a0.Buckets ()) fun s3 =>
  some true)

theorem c_fdb_Right (a0 : Tb) (r : Bool) (h : fdb_Right a0 = some r) : CallP Tryz.prog 20 [(LV.agg [(LV.ro 1 (a0.Buckets.map (roC 4 EnC))), (I a0.Slots), (I a0.Age)])] (LV.bool r) := by
 unfold fdb_Right at h
 refine .intro nlA (.intro TT_ok Tryz.func20 rfl rfl [0, 1, 2, 3, 4, 5, 7, 8, 18, 20, 21, 22, 23, 28, 29, 30, 31, 62, 86, 92] rfl ?_)
 conv => whnf
 replace h := bindS h
 obtain ⟨y1, hy1, h⟩ := h
 have c2 : CallP Tryz.prog 46 [(I (((a0.Buckets.map (roC 4 EnC)).length : Nat) : Int)), (I a0.Slots), (I a0.Age)] (LV.bool y1) := by first | exact c_fdb_sizes ((a0.Buckets.length : Nat) : Int) a0.Slots a0.Age _ hy1 | (simpa only [se_map, se_byL, se_len, se_ch, List.length_map] using c_fdb_sizes ((a0.Buckets.length : Nat) : Int) a0.Slots a0.Age _ hy1)
 repeat' first | exact rA _ | refine parkI ?_ | (refine CallP.use c2 ?_; conv => whnf) | (refine And.intro ?_ ?_ <;> conv => whnf) | fail
 refine parkE (fun hc => ?_) (fun hc => ?_)
 ·replace h := condT hc h
  conv => whnf
  have e := Option.some.inj h
  subst e
  repeat' first | exact rA _ | exact clA _ | (refine And.intro ?_ ?_ <;> conv => whnf) | exact clG _ | (refine gand ?_ h; assumption) | exact clN _ | fail
 ·replace h := condF hc h
  conv => whnf
  repeat' first | exact rA _ | refine parkI ?_ | (refine And.intro ?_ ?_ <;> conv => whnf) | fail
  replace h := aftS h
  obtain ⟨O3, hO3, r3⟩ := h
  refine LoopW.norm [(1, (LV.ptr 0 0 0)), (20, (LV.ro 1 (a0.Buckets.map (roC 4 EnC)))), (21, (I (((a0.Buckets.map (roC 4 EnC)).length : Nat) : Int))), (22, (I ((0 : Nat) : Int)))] 1 [(0, (.row 24 3 [[(LV.ro 1 (a0.Buckets.map (roC 4 EnC))), (I a0.Slots), (I a0.Age)]]))] ⟨rfl, rfl, rfl, rfl, trivial⟩ ⟨⟨rfl, rfl, blT⟩, trivial⟩ blT rfl ?_
  refine LoopW.forR (fun k3 s3 => [(1, (LV.ptr 0 0 0)), (20, (LV.ro 1 (a0.Buckets.map (roC 4 EnC)))), (21, (I (((a0.Buckets.map (roC 4 EnC)).length : Nat) : Int))), (22, (I ((k3 : Nat) : Int)))]) (fun s3 => ⟨1, [(0, (.row 24 3 [[(LV.ro 1 (a0.Buckets.map (roC 4 EnC))), (I a0.Slots), (I a0.Age)]]))]⟩) hO3 (fun hl3 s3 hs3 => ?_) (fun hl3 k3 x3 s3 o3 hk3 hx3 b3 K3 hret3 hbrk3 => ?_)
  ·rw [hs3] at r3
   dsimp only [aftM] at r3
   have hd : decide (((a0.Buckets.length : Nat) : Int) < (((a0.Buckets.map (roC 4 EnC)).length : Nat) : Int)) = false := by rw [decide_eq_false_iff_not]; (try simp only [se_len, se_ch, List.length_map]); omega
   refine LoopW.round TT_ok [0, 1, 2, 3, 4, 5, 7, 8, 18, 20, 21, 22, 23, 28, 29, 30, 31, 62, 86, 92] ?_
   conv => whnf
   repeat' first | exact rA _ | refine parkI ?_ | (refine And.intro ?_ ?_ <;> conv => whnf) | fail
   refine parkE (fun hc => ?_) (fun hc => ?_)
   ·exact (Bool.false_ne_true (hd.symm.trans hc)).elim
   ·clear hd
    conv => whnf
    have e := Option.some.inj r3
    subst e
    repeat' first | exact rA _ | exact clA _ | (refine And.intro ?_ ?_ <;> conv => whnf) | exact clG _ | (refine gand ?_ h; assumption) | exact clN _ | fail
  ·unfold fdb_Right_c0 at b3
   have hd : decide (((k3 : Nat) : Int) < (((a0.Buckets.map (roC 4 EnC)).length : Nat) : Int)) = true := by rw [decide_eq_true_eq]; (try simp only [se_len, se_ch, List.length_map] at hk3); (try simp only [se_len, se_ch, List.length_map]); omega
   refine LoopW.round TT_ok [0, 1, 2, 3, 4, 5, 7, 8, 18, 20, 21, 22, 23, 28, 29, 30, 31, 62, 86, 92] ?_
   conv => whnf
   repeat' first | exact rA _ | refine parkI ?_ | (refine And.intro ?_ ?_ <;> conv => whnf) | fail
   refine parkE (fun hc => ?_) (fun hc => ?_)
   ·clear hd
    conv => whnf
    repeat' first | exact rA _ | refine parkI ?_ | (refine ⟨_, (kixF (f := (roC 4 EnC)) hx3), ?_⟩; conv => whnf) | (refine And.intro ?_ ?_ <;> conv => whnf) | fail
    replace b3 := aftS b3
    obtain ⟨O4, hO4, r4⟩ := b3
    refine LoopW.norm [(1, (LV.ptr 0 0 0)), (3, (I ((k3 : Nat) : Int))), (4, (LV.ro 4 (x3.map EnC))), (5, (LV.map 1)), (20, (LV.ro 1 (a0.Buckets.map (roC 4 EnC)))), (21, (I (((a0.Buckets.map (roC 4 EnC)).length : Nat) : Int))), (22, (I ((k3 : Nat) : Int))), (28, (LV.ro 4 (x3.map EnC))), (29, (I (((x3.map EnC).length : Nat) : Int))), (30, (I ((0 : Nat) : Int)))] 2 [(0, (.row 24 3 [[(LV.ro 1 (a0.Buckets.map (roC 4 EnC))), (I a0.Slots), (I a0.Age)]])), (1, (.mp (([] : List (Int × Int)).map (mpC I I))))] ⟨rfl, rfl, rfl, rfl, rfl, rfl, rfl, rfl, rfl, rfl, trivial⟩ ⟨⟨rfl, rfl, blT⟩, ⟨⟨(congrArg (fun q => some (Blk.mp q)) (by simp only [se_mp] : (([] : List (LV × LV)) : List (LV × LV)) = (([] : List (Int × Int)).map (mpC I I)))), rfl, bel_mp (f := I) (g := I) (fun _ => by repeat' first | exact True.intro | refine ⟨?_, ?_⟩) (fun _ => by repeat' first | exact True.intro | refine ⟨?_, ?_⟩) _ _⟩, trivial⟩⟩ blT rfl ?_
    refine LoopW.forR (fun k4 s4 => [(1, (LV.ptr 0 0 0)), (3, (I ((k3 : Nat) : Int))), (4, (LV.ro 4 (x3.map EnC))), (5, (LV.map 1)), (20, (LV.ro 1 (a0.Buckets.map (roC 4 EnC)))), (21, (I (((a0.Buckets.map (roC 4 EnC)).length : Nat) : Int))), (22, (I ((k3 : Nat) : Int))), (28, (LV.ro 4 (x3.map EnC))), (29, (I (((x3.map EnC).length : Nat) : Int))), (30, (I ((k4 : Nat) : Int)))]) (fun s4 => ⟨2, [(0, (.row 24 3 [[(LV.ro 1 (a0.Buckets.map (roC 4 EnC))), (I a0.Slots), (I a0.Age)]])), (1, (.mp (s4.map (mpC I I))))]⟩) hO4 (fun hl4 s4 hs4 => ?_) (fun hl4 k4 x4 s4 o4 hk4 hx4 b4 K4 hret4 hbrk4 => ?_)
    ·rw [hs4] at r4
     dsimp only [aftM] at r4
     have hd : decide (((x3.length : Nat) : Int) < (((x3.map EnC).length : Nat) : Int)) = false := by rw [decide_eq_false_iff_not]; (try simp only [se_len, se_ch, List.length_map]); omega
     refine LoopW.round TT_ok [0, 1, 2, 3, 4, 5, 7, 8, 18, 20, 21, 22, 23, 28, 29, 30, 31, 62, 86, 92] ?_
     conv => whnf
     repeat' first | exact rA _ | refine parkI ?_ | (refine And.intro ?_ ?_ <;> conv => whnf) | fail
     refine parkE (fun hc => ?_) (fun hc => ?_)
     ·exact (Bool.false_ne_true (hd.symm.trans hc)).elim
     ·clear hd
      conv => whnf
      repeat' first | exact rA _ | refine parkI ?_ | (refine And.intro ?_ ?_ <;> conv => whnf) | fail
      refine parkE (fun hc => ?_) (fun hc => ?_)
      ·replace r4 := condT (by first | exact hc | (simpa only [se_len, se_ch, List.length_map] using hc; done) | (have h0 : (decide (a0.Slots < (((x3.map EnC).length : Nat) : Int))) = true := hc; simpa only [se_len, se_ch, List.length_map] using h0)) r4
       conv => whnf
       have e := Option.some.inj r4
       replace e := hret3 _ e.symm
       rw [e] at r3
       replace e := Option.some.inj r3
       subst e
       repeat' first | exact rA _ | exact clA _ | (refine And.intro ?_ ?_ <;> conv => whnf) | exact clG _ | (refine gand ?_ h; assumption) | exact clN _ | fail
      ·replace r4 := condF (by first | exact hc | (simpa only [se_len, se_ch, List.length_map] using hc; done) | (have h0 : (decide (a0.Slots < (((x3.map EnC).length : Nat) : Int))) = false := hc; simpa only [se_len, se_ch, List.length_map] using h0)) r4
       conv => whnf
       repeat' first | exact rA _ | refine parkI ?_ | (refine And.intro ?_ ?_ <;> conv => whnf) | fail
       have e := Option.some.inj r4
       refine LoopW.norm [(1, (LV.ptr 0 0 0)), (20, (LV.ro 1 (a0.Buckets.map (roC 4 EnC)))), (21, (I (((a0.Buckets.map (roC 4 EnC)).length : Nat) : Int))), (22, (I ((k3 + 1 : Nat) : Int)))] 1 [(0, (.row 24 3 [[(LV.ro 1 (a0.Buckets.map (roC 4 EnC))), (I a0.Slots), (I a0.Age)]]))] ⟨rfl, rfl, rfl, (congrArg (LV.int .i64) (w64_nat _ (by omega))), trivial⟩ ⟨⟨rfl, rfl, blT⟩, trivial⟩ blT rfl (K3 _ e.symm)
    ·unfold fdb_Right_c1 at b4
     have hd : decide (((k4 : Nat) : Int) < (((x3.map EnC).length : Nat) : Int)) = true := by rw [decide_eq_true_eq]; (try simp only [se_len, se_ch, List.length_map] at hk4); (try simp only [se_len, se_ch, List.length_map]); omega
     refine LoopW.round TT_ok [0, 1, 2, 3, 4, 5, 7, 8, 18, 20, 21, 22, 23, 28, 29, 30, 31, 62, 86, 92] ?_
     conv => whnf
     repeat' first | exact rA _ | refine parkI ?_ | (refine And.intro ?_ ?_ <;> conv => whnf) | fail
     refine parkE (fun hc => ?_) (fun hc => ?_)
     ·clear hd
      conv => whnf
      replace b4 := bindS b4
      obtain ⟨y3, hy3, b4⟩ := b4
      have c4 := c_fdb_isMac x4.Mac _ hy3
      replace b4 := bindS b4
      obtain ⟨y5, hy5, b4⟩ := b4
      have c6 := fun (hg : (!(!y3)) = true) => c_fdb_isPort x4.Port _ (gdS hg hy5)
      replace b4 := bindS b4
      obtain ⟨y7, hy7, b4⟩ := b4
      have c8 := fun (hg : (!(bif (!y3) then true else (!y5))) = true) => c_fdb_isTime x4.Seen _ (gdS hg hy7)
      repeat' first | exact rA _ | refine parkI ?_ | (refine ⟨_, (kixF (f := EnC) hx4), ?_⟩; conv => whnf) | (refine ⟨_, c6, ?_⟩; conv => whnf) | (refine ⟨_, c8, ?_⟩; conv => whnf) | (refine CallP.use c4 ?_; conv => whnf) | exact clA _ | (refine And.intro ?_ ?_ <;> conv => whnf) | exact clG _ | (refine gand ?_ h; assumption) | fail
      refine parkE (fun hc => ?_) (fun hc => ?_)
      ·replace b4 := condT hc b4
       conv => whnf
       have e := Option.some.inj b4
       replace e := hret4 _ e.symm
       rw [e] at r4
       replace e := Option.some.inj r4
       replace e := hret3 _ e.symm
       rw [e] at r3
       replace e := Option.some.inj r3
       subst e
       repeat' first | exact rA _ | exact clA _ | (refine And.intro ?_ ?_ <;> conv => whnf) | exact clG _ | (refine gand ?_ h; assumption) | exact clN _ | fail
      ·replace b4 := condF hc b4
       conv => whnf
       replace b4 := bindS b4
       obtain ⟨y9, hy9, b4⟩ := b4
       have c10 : CallP Tryz.prog 47 [(I x4.Mac), (I (((a0.Buckets.map (roC 4 EnC)).length : Nat) : Int))] (LV.tup [(I y9.1), (I y9.2)]) := by first | exact c_hash_Bucket x4.Mac ((a0.Buckets.length : Nat) : Int) _ hy9 | (simpa only [se_map, se_byL, se_len, se_ch, List.length_map] using c_hash_Bucket x4.Mac ((a0.Buckets.length : Nat) : Int) _ hy9)
       rcases m1_ : mfind s4 x4.Mac with _ | ⟨w1_, u1_⟩
       ·try simp only [mget_none m1_, mput_none m1_, mhas_none m1_, mget_mput] at b4
        have f11 : Finds TT 3 ((s4.map (mpC I I)) ++ [((I x4.Mac), (I (IntKind.i64.wrap (0 + 1))))]) (I x4.Mac) (some (s4.length, (I (IntKind.i64.wrap (0 + 1))))) := by simpa only [se_mp] using finds_some (f := I) (g := I) ke_3 (mfind_app m1_ (IntKind.i64.wrap (0 + 1)))
        repeat' first | exact rA _ | refine parkI ?_ | (refine ⟨_, (finds_none (g := I) ke_3 m1_), ?_⟩; conv => whnf) | (refine ⟨_, (fun _ => f11), ?_⟩; conv => whnf) | (refine CallP.use c10 ?_; conv => whnf) | exact clA _ | (refine And.intro ?_ ?_ <;> conv => whnf) | exact clG _ | (refine gand ?_ h; assumption) | fail
        refine parkE (fun hc => ?_) (fun hc => ?_)
        ·replace b4 := condT hc b4
         conv => whnf
         have e := Option.some.inj b4
         replace e := hret4 _ e.symm
         rw [e] at r4
         replace e := Option.some.inj r4
         replace e := hret3 _ e.symm
         rw [e] at r3
         replace e := Option.some.inj r3
         subst e
         repeat' first | exact rA _ | exact clA _ | (refine And.intro ?_ ?_ <;> conv => whnf) | exact clG _ | (refine gand ?_ h; assumption) | exact clN _ | fail
        ·replace b4 := condF hc b4
         conv => whnf
         repeat' first | exact rA _ | refine parkI ?_ | (refine And.intro ?_ ?_ <;> conv => whnf) | fail
         have e := Option.some.inj b4
         refine LoopW.norm [(1, (LV.ptr 0 0 0)), (3, (I ((k3 : Nat) : Int))), (4, (LV.ro 4 (x3.map EnC))), (5, (LV.map 1)), (20, (LV.ro 1 (a0.Buckets.map (roC 4 EnC)))), (21, (I (((a0.Buckets.map (roC 4 EnC)).length : Nat) : Int))), (22, (I ((k3 : Nat) : Int))), (28, (LV.ro 4 (x3.map EnC))), (29, (I (((x3.map EnC).length : Nat) : Int))), (30, (I ((k4 + 1 : Nat) : Int)))] 2 [(0, (.row 24 3 [[(LV.ro 1 (a0.Buckets.map (roC 4 EnC))), (I a0.Slots), (I a0.Age)]])), (1, (.mp ((s4 ++ [(x4.Mac, (IntKind.i64.wrap (0 + 1)))]).map (mpC I I))))] ⟨rfl, rfl, rfl, rfl, rfl, rfl, rfl, rfl, rfl, (congrArg (LV.int .i64) (w64_nat _ (by omega))), trivial⟩ ⟨⟨rfl, rfl, blT⟩, ⟨⟨(congrArg (fun q => some (Blk.mp q)) (by simp only [se_mp] : (((s4.map (mpC I I)) ++ [((I x4.Mac), (I (IntKind.i64.wrap (0 + 1))))]) : List (LV × LV)) = ((s4 ++ [(x4.Mac, (IntKind.i64.wrap (0 + 1)))]).map (mpC I I)))), rfl, bel_mp (f := I) (g := I) (fun _ => by repeat' first | exact True.intro | refine ⟨?_, ?_⟩) (fun _ => by repeat' first | exact True.intro | refine ⟨?_, ?_⟩) _ _⟩, trivial⟩⟩ blT rfl (K4 _ e.symm)
       ·try simp only [mget_some m1_, mput_some m1_, mhas_some m1_, mget_mput] at b4
        have f11 : Finds TT 3 (setN (s4.map (mpC I I)) w1_ ((I x4.Mac), (I (IntKind.i64.wrap (u1_ + 1))))) (I x4.Mac) (some (w1_, (I (IntKind.i64.wrap (u1_ + 1))))) := by simpa only [se_mp] using finds_some (f := I) (g := I) ke_3 (mfind_set m1_ (IntKind.i64.wrap (u1_ + 1)))
        repeat' first | exact rA _ | refine parkI ?_ | (refine ⟨_, (finds_some (g := I) ke_3 m1_), ?_⟩; conv => whnf) | (refine ⟨_, (fun _ => f11), ?_⟩; conv => whnf) | (refine CallP.use c10 ?_; conv => whnf) | exact clA _ | (refine And.intro ?_ ?_ <;> conv => whnf) | exact clG _ | (refine gand ?_ h; assumption) | fail
        refine parkE (fun hc => ?_) (fun hc => ?_)
        ·replace b4 := condT hc b4
         conv => whnf
         have e := Option.some.inj b4
         replace e := hret4 _ e.symm
         rw [e] at r4
         replace e := Option.some.inj r4
         replace e := hret3 _ e.symm
         rw [e] at r3
         replace e := Option.some.inj r3
         subst e
         repeat' first | exact rA _ | exact clA _ | (refine And.intro ?_ ?_ <;> conv => whnf) | exact clG _ | (refine gand ?_ h; assumption) | exact clN _ | fail
        ·replace b4 := condF hc b4
         conv => whnf
         repeat' first | exact rA _ | refine parkI ?_ | (refine And.intro ?_ ?_ <;> conv => whnf) | fail
         have e := Option.some.inj b4
         refine LoopW.norm [(1, (LV.ptr 0 0 0)), (3, (I ((k3 : Nat) : Int))), (4, (LV.ro 4 (x3.map EnC))), (5, (LV.map 1)), (20, (LV.ro 1 (a0.Buckets.map (roC 4 EnC)))), (21, (I (((a0.Buckets.map (roC 4 EnC)).length : Nat) : Int))), (22, (I ((k3 : Nat) : Int))), (28, (LV.ro 4 (x3.map EnC))), (29, (I (((x3.map EnC).length : Nat) : Int))), (30, (I ((k4 + 1 : Nat) : Int)))] 2 [(0, (.row 24 3 [[(LV.ro 1 (a0.Buckets.map (roC 4 EnC))), (I a0.Slots), (I a0.Age)]])), (1, (.mp ((s4.set w1_ (x4.Mac, (IntKind.i64.wrap (u1_ + 1)))).map (mpC I I))))] ⟨rfl, rfl, rfl, rfl, rfl, rfl, rfl, rfl, rfl, (congrArg (LV.int .i64) (w64_nat _ (by omega))), trivial⟩ ⟨⟨rfl, rfl, blT⟩, ⟨⟨(congrArg (fun q => some (Blk.mp q)) (by simp only [se_mp] : ((setN (s4.map (mpC I I)) w1_ ((I x4.Mac), (I (IntKind.i64.wrap (u1_ + 1))))) : List (LV × LV)) = ((s4.set w1_ (x4.Mac, (IntKind.i64.wrap (u1_ + 1)))).map (mpC I I)))), rfl, bel_mp (f := I) (g := I) (fun _ => by repeat' first | exact True.intro | refine ⟨?_, ?_⟩) (fun _ => by repeat' first | exact True.intro | refine ⟨?_, ?_⟩) _ _⟩, trivial⟩⟩ blT rfl (K4 _ e.symm)
     ·exact (Bool.false_ne_true (hc.symm.trans hd)).elim
   ·exact (Bool.false_ne_true (hc.symm.trans hd)).elim

end Go.RX
