/- Plain functions, and what says that the program's functions compute them. -/
import Derived.Test.YtknjenjjhdhemaaGreatUa
set_option linter.unusedVariables false
set_option linter.unusedSimpArgs false
open Go Go.RX Go.Proofs
namespace Go.RX
set_option maxRecDepth 10000
set_option maxHeartbeats 4000000
attribute [local irreducible] CallW CallP LoopW W IntKind.wrap bitI
def slices_IndexFunc_Entry_c0 (q1 : (En → Option Bool)) (k5 : Nat) (x5 : En) (s5 : Unit) : Option (Step Int Unit) :=
 (q1 x5).bind fun y11 =>
 (bif y11 then
  some (.ret ((k5 : Nat) : Int))
 else
  some (.nxt ()))

def slices_IndexFunc_Entry (a0 : (List En)) (q1 : (En → Option Bool)) : Option Int :=
 aft (rangeL (slices_IndexFunc_Entry_c0 q1) a0 ()) fun s5 =>
 some (-1)

theorem c_slices_IndexFunc_Entry (a0 : (List En)) (fn1 : Nat) (ff1 fc1 : List LV) (q1 : (En → Option Bool)) (hq1 : ∀ (x0 : En) (r : Bool), q1 x0 = some r → CallP Tryz.prog fn1 (ff1 ++ [(LV.agg [(I x0.Mac), (I x0.Port), (I x0.Seen), (LV.bool x0.Static)])] ++ fc1) (LV.bool r)) (hn1 : NLs ff1 ∧ NLs fc1) (r : Int) (h : slices_IndexFunc_Entry a0 q1 = some r) : CallP Tryz.prog 70 [(LV.ro 4 (a0.map EnC)), (LV.func (.func fn1) ff1 fc1)] (I r) := by
 have hnA1 := hn1.1
 have hnB1 := hn1.2
 unfold slices_IndexFunc_Entry at h
 refine .intro nlA (.intro TT_ok Tryz.func70 rfl rfl [0, 1, 4, 5, 7, 8, 9, 16] rfl ?_)
 conv => whnf
 repeat' first | exact rA _ | refine parkI ?_ | (refine And.intro ?_ ?_ <;> conv => whnf) | fail
 replace h := aftS h
 obtain ⟨O5, hO5, r5⟩ := h
 refine LoopW.norm [(0, (LV.ro 4 (a0.map EnC))), (1, (LV.func (.func fn1) ff1 fc1)), (7, (I (((a0.map EnC).length : Nat) : Int))), (8, (I ((0 : Nat) : Int)))] 0 [] ⟨rfl, rfl, rfl, rfl, trivial⟩ trivial blT rfl ?_
 refine LoopW.forR (fun k5 s5 => [(0, (LV.ro 4 (a0.map EnC))), (1, (LV.func (.func fn1) ff1 fc1)), (7, (I (((a0.map EnC).length : Nat) : Int))), (8, (I ((k5 : Nat) : Int)))]) (fun s5 => ⟨0, []⟩) hO5 (fun hl5 s5 hs5 => ?_) (fun hl5 k5 x5 s5 o5 hk5 hx5 b5 K5 hret5 hbrk5 => ?_)
 ·rw [hs5] at r5
  dsimp only [aftM] at r5
  have hd : decide (((a0.length : Nat) : Int) < (((a0.map EnC).length : Nat) : Int)) = false := by rw [decide_eq_false_iff_not]; (try simp only [se_len, se_ch, List.length_map]); omega
  refine LoopW.round TT_ok [0, 1, 4, 5, 7, 8, 9, 16] ?_
  conv => whnf
  repeat' first | exact rA _ | refine parkI ?_ | (refine And.intro ?_ ?_ <;> conv => whnf) | fail
  refine parkE (fun hc => ?_) (fun hc => ?_)
  ·exact (Bool.false_ne_true (hd.symm.trans hc)).elim
  ·clear hd
   conv => whnf
   have e := Option.some.inj r5
   subst e
   repeat' first | exact rA _ | exact clA _ | (refine And.intro ?_ ?_ <;> conv => whnf) | exact clG _ | (refine gand ?_ h; assumption) | exact clN _ | fail
 ·unfold slices_IndexFunc_Entry_c0 at b5
  have hd : decide (((k5 : Nat) : Int) < (((a0.map EnC).length : Nat) : Int)) = true := by rw [decide_eq_true_eq]; (try simp only [se_len, se_ch, List.length_map] at hk5); (try simp only [se_len, se_ch, List.length_map]); omega
  refine LoopW.round TT_ok [0, 1, 4, 5, 7, 8, 9, 16] ?_
  conv => whnf
  repeat' first | exact rA _ | refine parkI ?_ | (refine And.intro ?_ ?_ <;> conv => whnf) | fail
  refine parkE (fun hc => ?_) (fun hc => ?_)
  ·clear hd
   conv => whnf
   replace b5 := bindS b5
   obtain ⟨y11, hy11, b5⟩ := b5
   have c12 := hq1 x5 _ hy11
   repeat' first | exact rA _ | refine parkI ?_ | (refine ⟨_, (kixF (f := EnC) hx5), ?_⟩; conv => whnf) | (refine CallP.use c12 ?_; conv => whnf) | (refine frzB_call rfl (slN_nil hn1) ?_; conv => whnf) | (refine And.intro ?_ ?_ <;> conv => whnf) | fail
   refine parkE (fun hc => ?_) (fun hc => ?_)
   ·replace b5 := condT hc b5
    conv => whnf
    have e := Option.some.inj b5
    replace e := hret5 _ e.symm
    rw [e] at r5
    replace e := Option.some.inj r5
    subst e
    repeat' first | exact rA _ | exact clA _ | (refine And.intro ?_ ?_ <;> conv => whnf) | exact clG _ | (refine gand ?_ h; assumption) | exact clN _ | fail
   ·replace b5 := condF hc b5
    conv => whnf
    repeat' first | exact rA _ | refine parkI ?_ | (refine And.intro ?_ ?_ <;> conv => whnf) | fail
    have e := Option.some.inj b5
    refine LoopW.norm [(0, (LV.ro 4 (a0.map EnC))), (1, (LV.func (.func fn1) ff1 fc1)), (7, (I (((a0.map EnC).length : Nat) : Int))), (8, (I ((k5 + 1 : Nat) : Int)))] 0 [] ⟨rfl, rfl, rfl, (congrArg (LV.int .i64) (w64_nat _ (by omega))), trivial⟩ trivial blT rfl (K5 _ e.symm)
  ·exact (Bool.false_ne_true (hc.symm.trans hd)).elim

def fdb_place_1 (a0 : En) (q1 : Int) : Option Bool :=
 some (decide (a0.Mac = q1))

theorem c_fdb_place_1 (a0 : En) (q1 : Int) (r : Bool) (h : fdb_place_1 a0 q1 = some r) : CallP Tryz.prog 71 [(LV.agg [(I a0.Mac), (I a0.Port), (I a0.Seen), (LV.bool a0.Static)]), (LV.rptr [(I q1)])] (LV.bool r) := by
 unfold fdb_place_1 at h
 refine .intro nlA (.intro TT_ok Tryz.func71 rfl rfl [0, 1, 2, 3] rfl ?_)
 conv => whnf
 have e := Option.some.inj h
 subst e
 repeat' first | exact rA _ | exact clA _ | (refine And.intro ?_ ?_ <;> conv => whnf) | exact clG _ | (refine gand ?_ h; assumption) | exact clN _ | fail

def fdb_place (a0 : Tb) (a1 : Int) : Option (Int × Int) :=
 (hash_Bucket a1 ((a0.Buckets.length : Nat) : Int)).bind fun y7 =>
 (gix a0.Buckets y7.1).bind fun v9 =>
 (slices_IndexFunc_Entry v9 (fun x0_ => fdb_place_1 x0_ a1)).bind fun y11 =>
 some (y7.1, y11)

theorem c_fdb_place (a0 : Tb) (a1 : Int) (r : (Int × Int)) (h : fdb_place a0 a1 = some r) : CallP Tryz.prog 50 [(LV.agg [(LV.ro 1 (a0.Buckets.map (roC 4 EnC))), (I a0.Slots), (I a0.Age)]), (I a1)] (LV.tup [(I r.1), (I r.2)]) := by
 unfold fdb_place at h
 refine .intro nlA (.intro TT_ok Tryz.func50 rfl rfl [0, 1, 2, 3, 4, 5, 6] rfl ?_)
 conv => whnf
 replace h := bindS h
 obtain ⟨y7, hy7, h⟩ := h
 have c8 : CallP Tryz.prog 47 [(I a1), (I (((a0.Buckets.map (roC 4 EnC)).length : Nat) : Int))] (LV.tup [(I y7.1), (I y7.2)]) := by first | exact c_hash_Bucket a1 ((a0.Buckets.length : Nat) : Int) _ hy7 | (simpa only [se_map, se_byL, se_len, se_ch, List.length_map] using c_hash_Bucket a1 ((a0.Buckets.length : Nat) : Int) _ hy7)
 replace h := bindS h
 obtain ⟨v9, hv9, h⟩ := h
 have i10 := gixF (f := (roC 4 EnC)) hv9
 replace h := bindS h
 obtain ⟨y11, hy11, h⟩ := h
 have c12 := c_slices_IndexFunc_Entry v9 71 [] [(LV.rptr [(I a1)])] (fun x0_ => fdb_place_1 x0_ a1) (fun x0_ r h => c_fdb_place_1 x0_ a1 r h) nlB _ hy11
 have e := Option.some.inj h
 subst e
 repeat' first | exact rA _ | (refine ⟨_, i10, ?_⟩; conv => whnf) | (refine CallP.use c8 ?_; conv => whnf) | (refine CallP.use c12 ?_; conv => whnf) | exact clA _ | (refine And.intro ?_ ?_ <;> conv => whnf) | exact clG _ | (refine gand ?_ h; assumption) | exact clN _ | fail

def fdb_Find (a0 : Tb) (a1 : Int) (a2 : Int) : Option (Int × Int) :=
 (fdb_Right a0).bind fun y1 =>
 (gd (!(!y1)) (fdb_isMac a1)).bind fun y3 =>
 (gd (!(bif (!y1) then true else (!y3))) (fdb_isTime a2)).bind fun y5 =>
 (bif (bif (bif (!y1) then true else (!y3)) then true else (!y5)) then
  some (0, 1)
 else
  (fdb_place a0 a1).bind fun y7 =>
  (bif (decide (y7.2 < 0)) then
   some ((-1), 0)
  else
   (gix a0.Buckets y7.1).bind fun v9 =>
   (gix v9 y7.2).bind fun v11 =>
   (bif (bif v11.Static then true else (decide ((IntKind.i64.wrap (a2 - v11.Seen)) ≤ a0.Age))) then
    some (v11.Port, 0)
   else
    some ((-1), 0))))

theorem c_fdb_Find (a0 : Tb) (a1 : Int) (a2 : Int) (r : (Int × Int)) (h : fdb_Find a0 a1 a2 = some r) : CallP Tryz.prog 37 [(LV.agg [(LV.ro 1 (a0.Buckets.map (roC 4 EnC))), (I a0.Slots), (I a0.Age)]), (I a1), (I a2)] (LV.tup [(I r.1), (I r.2)]) := by
 unfold fdb_Find at h
 refine .intro nlA (.intro TT_ok Tryz.func37 rfl rfl [0, 1, 2, 3, 6, 7, 8, 9, 10, 23, 31, 50] rfl ?_)
 conv => whnf
 replace h := bindS h
 obtain ⟨y1, hy1, h⟩ := h
 have c2 := c_fdb_Right a0 _ hy1
 replace h := bindS h
 obtain ⟨y3, hy3, h⟩ := h
 have c4 := fun (hg : (!(!y1)) = true) => c_fdb_isMac a1 _ (gdS hg hy3)
 replace h := bindS h
 obtain ⟨y5, hy5, h⟩ := h
 have c6 := fun (hg : (!(bif (!y1) then true else (!y3))) = true) => c_fdb_isTime a2 _ (gdS hg hy5)
 repeat' first | exact rA _ | refine parkI ?_ | (refine ⟨_, c4, ?_⟩; conv => whnf) | (refine ⟨_, c6, ?_⟩; conv => whnf) | (refine CallP.use c2 ?_; conv => whnf) | exact clA _ | (refine And.intro ?_ ?_ <;> conv => whnf) | exact clG _ | (refine gand ?_ h; assumption) | fail
 refine parkE (fun hc => ?_) (fun hc => ?_)
 ·replace h := condT hc h
  conv => whnf
  have e := Option.some.inj h
  subst e
  repeat' first | exact rA _ | exact clA _ | (refine And.intro ?_ ?_ <;> conv => whnf) | exact clG _ | (refine gand ?_ h; assumption) | exact clN _ | fail
 ·replace h := condF hc h
  conv => whnf
  replace h := bindS h
  obtain ⟨y7, hy7, h⟩ := h
  have c8 := c_fdb_place a0 a1 _ hy7
  repeat' first | exact rA _ | refine parkI ?_ | (refine CallP.use c8 ?_; conv => whnf) | (refine And.intro ?_ ?_ <;> conv => whnf) | fail
  refine parkE (fun hc => ?_) (fun hc => ?_)
  ·replace h := condT hc h
   conv => whnf
   have e := Option.some.inj h
   subst e
   repeat' first | exact rA _ | exact clA _ | (refine And.intro ?_ ?_ <;> conv => whnf) | exact clG _ | (refine gand ?_ h; assumption) | exact clN _ | fail
  ·replace h := condF hc h
   conv => whnf
   replace h := bindS h
   obtain ⟨v9, hv9, h⟩ := h
   have i10 := gixF (f := (roC 4 EnC)) hv9
   replace h := bindS h
   obtain ⟨v11, hv11, h⟩ := h
   have i12 := gixF (f := EnC) hv11
   repeat' first | exact rA _ | refine parkI ?_ | (refine ⟨_, i10, ?_⟩; conv => whnf) | (refine ⟨_, i12, ?_⟩; conv => whnf) | exact clA _ | (refine And.intro ?_ ?_ <;> conv => whnf) | exact clG _ | (refine gand ?_ h; assumption) | fail
   refine parkE (fun hc => ?_) (fun hc => ?_)
   ·replace h := condT hc h
    conv => whnf
    have e := Option.some.inj h
    subst e
    repeat' first | exact rA _ | exact clA _ | (refine And.intro ?_ ?_ <;> conv => whnf) | exact clG _ | (refine gand ?_ h; assumption) | exact clN _ | fail
   ·replace h := condF hc h
    conv => whnf
    have e := Option.some.inj h
    subst e
    repeat' first | exact rA _ | exact clA _ | (refine And.intro ?_ ?_ <;> conv => whnf) | exact clG _ | (refine gand ?_ h; assumption) | exact clN _ | fail

def fdb_pinned (a0 : Tb) (a1 : Int) : Option Bool :=
 (fdb_place a0 a1).bind fun y9 =>
 (gd (decide (0 ≤ y9.2)) (gix a0.Buckets y9.1)).bind fun v11 =>
 (gd (decide (0 ≤ y9.2)) (gix v11 y9.2)).bind fun v13 =>
 some (bif (decide (0 ≤ y9.2)) then v13.Static else false)

theorem c_fdb_pinned (a0 : Tb) (a1 : Int) (r : Bool) (h : fdb_pinned a0 a1 = some r) : CallP Tryz.prog 24 [(LV.agg [(LV.ro 1 (a0.Buckets.map (roC 4 EnC))), (I a0.Slots), (I a0.Age)]), (I a1)] (LV.bool r) := by
 unfold fdb_pinned at h
 refine .intro nlA (.intro TT_ok Tryz.func24 rfl rfl [0, 1, 2, 4, 5, 6] rfl ?_)
 conv => whnf
 replace h := bindS h
 obtain ⟨y9, hy9, h⟩ := h
 have c10 := c_fdb_place a0 a1 _ hy9
 replace h := bindS h
 obtain ⟨v11, hv11, h⟩ := h
 have i12 := fun hg => gixF (f := (roC 4 EnC)) (gdS hg hv11)
 replace h := bindS h
 obtain ⟨v13, hv13, h⟩ := h
 have i14 := fun hg => gixF (f := EnC) (gdS hg hv13)
 have e := Option.some.inj h
 subst e
 repeat' first | exact rA _ | (refine ⟨_, i12, ?_⟩; conv => whnf) | (refine ⟨_, i14, ?_⟩; conv => whnf) | (refine CallP.use c10 ?_; conv => whnf) | exact clA _ | (refine And.intro ?_ ?_ <;> conv => whnf) | exact clG _ | (refine gand ?_ h; assumption) | exact clN _ | fail

def slices_Clone_Entry (a0 : (List En)) : Option (List En) :=
 grd (fits a0.length 32) <|
 some a0

theorem cf_slices_Clone_Entry (a0 : (List En)) (r : (List En)) (h : slices_Clone_Entry a0 = some r) : CallF Tryz.prog 51 [(LV.ro 4 (a0.map EnC))] 42 4 (r.map EnC) := by
 unfold slices_Clone_Entry at h
 replace h := grdS h
 obtain ⟨g, h⟩ := h
 obtain rfl := Option.some.inj h
 have f1 : fits (([] : List (List LV)) ++ a0.map EnC).length 32 := by rw [List.nil_append, List.length_map]; exact g
 refine CallF.of (NLss_map' _) (CallW.intro TT_ok Tryz.func51 rfl rfl [0, 2, 4] rfl ?_)
 conv => whnf
 repeat' first | with_reducible rfl | with_reducible exact True.intro | refine parkI ?_ | exact f1 | exact Or.inl ⟨rfl, by assumption⟩ | exact Or.inr ⟨_, rfl, rfl⟩ | exact (rfl : (_ : Nat) = _) | (refine And.intro ?_ ?_ <;> conv => whnf) | (intro h; conv => whnf) | (refine parkE (fun hc => ?_) (fun hc => ?_) <;> first | exact (Bool.false_ne_true hc).elim | exact (Bool.false_ne_true hc.symm).elim | conv => whnf) | fail

theorem c_slices_Clone_Entry (a0 : (List En)) (r : (List En)) (h : slices_Clone_Entry a0 = some r) : CallP Tryz.prog 51 [(LV.ro 4 (a0.map EnC))] (LV.ro 4 (r.map EnC)) :=
 CallF.toP (cf_slices_Clone_Entry a0 r h) ⟨trivial, trivial⟩ (NLss_map' _)

def lru_Right_c0  (k7 : Nat) (x7 : Int) (s7 : (List (Int × Int))) : Option (Step Bool (List (Int × Int))) :=
 (bif (bif (decide (x7 < 0)) then true else (decide (1 < (IntKind.i64.wrap ((mget s7 x7 0) + 1))))) then
  some (.ret false)
 else
  some (.nxt (mput s7 x7 (IntKind.i64.wrap ((mget s7 x7 0) + 1)))))

def lru_Right (a0 : (List Int)) : Option Bool :=
 aft (rangeL (lru_Right_c0 ) a0 ([] : List (Int × Int))) fun s7 =>
 some (decide (((a0.length : Nat) : Int) ≤ 64))

theorem c_lru_Right (a0 : (List Int)) (r : Bool) (h : lru_Right a0 = some r) : CallP Tryz.prog 72 [(LV.ro 1 (a0.map iC))] (LV.bool r) := by
 unfold lru_Right at h
 refine .intro nlA (.intro TT_ok Tryz.func72 rfl rfl [0, 2, 3, 5, 7, 8, 9, 10, 24] rfl ?_)
 conv => whnf
 repeat' first | exact rA _ | refine parkI ?_ | (refine And.intro ?_ ?_ <;> conv => whnf) | fail
 replace h := aftS h
 obtain ⟨O7, hO7, r7⟩ := h
 refine LoopW.norm [(0, (LV.ro 1 (a0.map iC))), (3, (LV.map 0)), (7, (LV.ro 1 (a0.map iC))), (8, (I (((a0.map iC).length : Nat) : Int))), (9, (I ((0 : Nat) : Int)))] 1 [(0, (.mp (([] : List (Int × Int)).map (mpC I I))))] ⟨rfl, rfl, rfl, rfl, rfl, trivial⟩ ⟨⟨(congrArg (fun q => some (Blk.mp q)) (by simp only [se_mp] : (([] : List (LV × LV)) : List (LV × LV)) = (([] : List (Int × Int)).map (mpC I I)))), rfl, bel_mp (f := I) (g := I) (fun _ => by repeat' first | exact True.intro | refine ⟨?_, ?_⟩) (fun _ => by repeat' first | exact True.intro | refine ⟨?_, ?_⟩) _ _⟩, trivial⟩ blT rfl ?_
 refine LoopW.forR (fun k7 s7 => [(0, (LV.ro 1 (a0.map iC))), (3, (LV.map 0)), (7, (LV.ro 1 (a0.map iC))), (8, (I (((a0.map iC).length : Nat) : Int))), (9, (I ((k7 : Nat) : Int)))]) (fun s7 => ⟨1, [(0, (.mp (s7.map (mpC I I))))]⟩) hO7 (fun hl7 s7 hs7 => ?_) (fun hl7 k7 x7 s7 o7 hk7 hx7 b7 K7 hret7 hbrk7 => ?_)
 ·rw [hs7] at r7
  dsimp only [aftM] at r7
  have hd : decide (((a0.length : Nat) : Int) < (((a0.map iC).length : Nat) : Int)) = false := by rw [decide_eq_false_iff_not]; (try simp only [se_len, se_ch, List.length_map]); omega
  refine LoopW.round TT_ok [0, 2, 3, 5, 7, 8, 9, 10, 24] ?_
  conv => whnf
  repeat' first | exact rA _ | refine parkI ?_ | (refine And.intro ?_ ?_ <;> conv => whnf) | fail
  refine parkE (fun hc => ?_) (fun hc => ?_)
  ·exact (Bool.false_ne_true (hd.symm.trans hc)).elim
  ·clear hd
   conv => whnf
   have e := Option.some.inj r7
   subst e
   repeat' first | exact rA _ | exact clA _ | (refine And.intro ?_ ?_ <;> conv => whnf) | exact clG _ | (refine gand ?_ h; assumption) | exact clN _ | fail
 ·unfold lru_Right_c0 at b7
  have hd : decide (((k7 : Nat) : Int) < (((a0.map iC).length : Nat) : Int)) = true := by rw [decide_eq_true_eq]; (try simp only [se_len, se_ch, List.length_map] at hk7); (try simp only [se_len, se_ch, List.length_map]); omega
  refine LoopW.round TT_ok [0, 2, 3, 5, 7, 8, 9, 10, 24] ?_
  conv => whnf
  repeat' first | exact rA _ | refine parkI ?_ | (refine And.intro ?_ ?_ <;> conv => whnf) | fail
  refine parkE (fun hc => ?_) (fun hc => ?_)
  ·clear hd
   conv => whnf
   rcases m1_ : mfind s7 x7 with _ | ⟨w1_, u1_⟩
   ·try simp only [mget_none m1_, mput_none m1_, mhas_none m1_, mget_mput] at b7
    have f22 : Finds TT 3 ((s7.map (mpC I I)) ++ [((I x7), (I (IntKind.i64.wrap (0 + 1))))]) (I x7) (some (s7.length, (I (IntKind.i64.wrap (0 + 1))))) := by simpa only [se_mp] using finds_some (f := I) (g := I) ke_3 (mfind_app m1_ (IntKind.i64.wrap (0 + 1)))
    repeat' first | exact rA _ | refine parkI ?_ | (refine ⟨_, (kixF (f := iC) hx7), ?_⟩; conv => whnf) | (refine ⟨_, (finds_none (g := I) ke_3 m1_), ?_⟩; conv => whnf) | (refine ⟨_, (fun _ => f22), ?_⟩; conv => whnf) | exact clA _ | (refine And.intro ?_ ?_ <;> conv => whnf) | exact clG _ | (refine gand ?_ h; assumption) | fail
    refine parkE (fun hc => ?_) (fun hc => ?_)
    ·replace b7 := condT hc b7
     conv => whnf
     have e := Option.some.inj b7
     replace e := hret7 _ e.symm
     rw [e] at r7
     replace e := Option.some.inj r7
     subst e
     repeat' first | exact rA _ | exact clA _ | (refine And.intro ?_ ?_ <;> conv => whnf) | exact clG _ | (refine gand ?_ h; assumption) | exact clN _ | fail
    ·replace b7 := condF hc b7
     conv => whnf
     repeat' first | exact rA _ | refine parkI ?_ | (refine And.intro ?_ ?_ <;> conv => whnf) | fail
     have e := Option.some.inj b7
     refine LoopW.norm [(0, (LV.ro 1 (a0.map iC))), (3, (LV.map 0)), (7, (LV.ro 1 (a0.map iC))), (8, (I (((a0.map iC).length : Nat) : Int))), (9, (I ((k7 + 1 : Nat) : Int)))] 1 [(0, (.mp ((s7 ++ [(x7, (IntKind.i64.wrap (0 + 1)))]).map (mpC I I))))] ⟨rfl, rfl, rfl, rfl, (congrArg (LV.int .i64) (w64_nat _ (by omega))), trivial⟩ ⟨⟨(congrArg (fun q => some (Blk.mp q)) (by simp only [se_mp] : (((s7.map (mpC I I)) ++ [((I x7), (I (IntKind.i64.wrap (0 + 1))))]) : List (LV × LV)) = ((s7 ++ [(x7, (IntKind.i64.wrap (0 + 1)))]).map (mpC I I)))), rfl, bel_mp (f := I) (g := I) (fun _ => by repeat' first | exact True.intro | refine ⟨?_, ?_⟩) (fun _ => by repeat' first | exact True.intro | refine ⟨?_, ?_⟩) _ _⟩, trivial⟩ blT rfl (K7 _ e.symm)
   ·try simp only [mget_some m1_, mput_some m1_, mhas_some m1_, mget_mput] at b7
    have f22 : Finds TT 3 (setN (s7.map (mpC I I)) w1_ ((I x7), (I (IntKind.i64.wrap (u1_ + 1))))) (I x7) (some (w1_, (I (IntKind.i64.wrap (u1_ + 1))))) := by simpa only [se_mp] using finds_some (f := I) (g := I) ke_3 (mfind_set m1_ (IntKind.i64.wrap (u1_ + 1)))
    repeat' first | exact rA _ | refine parkI ?_ | (refine ⟨_, (kixF (f := iC) hx7), ?_⟩; conv => whnf) | (refine ⟨_, (finds_some (g := I) ke_3 m1_), ?_⟩; conv => whnf) | (refine ⟨_, (fun _ => f22), ?_⟩; conv => whnf) | exact clA _ | (refine And.intro ?_ ?_ <;> conv => whnf) | exact clG _ | (refine gand ?_ h; assumption) | fail
    refine parkE (fun hc => ?_) (fun hc => ?_)
    ·replace b7 := condT hc b7
     conv => whnf
     have e := Option.some.inj b7
     replace e := hret7 _ e.symm
     rw [e] at r7
     replace e := Option.some.inj r7
     subst e
     repeat' first | exact rA _ | exact clA _ | (refine And.intro ?_ ?_ <;> conv => whnf) | exact clG _ | (refine gand ?_ h; assumption) | exact clN _ | fail
    ·replace b7 := condF hc b7
     conv => whnf
     repeat' first | exact rA _ | refine parkI ?_ | (refine And.intro ?_ ?_ <;> conv => whnf) | fail
     have e := Option.some.inj b7
     refine LoopW.norm [(0, (LV.ro 1 (a0.map iC))), (3, (LV.map 0)), (7, (LV.ro 1 (a0.map iC))), (8, (I (((a0.map iC).length : Nat) : Int))), (9, (I ((k7 + 1 : Nat) : Int)))] 1 [(0, (.mp ((s7.set w1_ (x7, (IntKind.i64.wrap (u1_ + 1)))).map (mpC I I))))] ⟨rfl, rfl, rfl, rfl, (congrArg (LV.int .i64) (w64_nat _ (by omega))), trivial⟩ ⟨⟨(congrArg (fun q => some (Blk.mp q)) (by simp only [se_mp] : ((setN (s7.map (mpC I I)) w1_ ((I x7), (I (IntKind.i64.wrap (u1_ + 1))))) : List (LV × LV)) = ((s7.set w1_ (x7, (IntKind.i64.wrap (u1_ + 1)))).map (mpC I I)))), rfl, bel_mp (f := I) (g := I) (fun _ => by repeat' first | exact True.intro | refine ⟨?_, ?_⟩) (fun _ => by repeat' first | exact True.intro | refine ⟨?_, ?_⟩) _ _⟩, trivial⟩ blT rfl (K7 _ e.symm)
  ·exact (Bool.false_ne_true (hc.symm.trans hd)).elim

def slices_Clone_order (a0 : (List Int)) : Option (List Int) :=
 grd (fits a0.length 8) <|
 some a0

theorem cf_slices_Clone_order (a0 : (List Int)) (r : (List Int)) (h : slices_Clone_order a0 = some r) : CallF Tryz.prog 86 [(LV.ro 1 (a0.map iC))] 3 1 (r.map iC) := by
 unfold slices_Clone_order at h
 replace h := grdS h
 obtain ⟨g, h⟩ := h
 obtain rfl := Option.some.inj h
 have f1 : fits (([] : List (List LV)) ++ a0.map iC).length 8 := by rw [List.nil_append, List.length_map]; exact g
 refine CallF.of (NLss_map' _) (CallW.intro TT_ok Tryz.func86 rfl rfl [0, 2, 4] rfl ?_)
 conv => whnf
 repeat' first | with_reducible rfl | with_reducible exact True.intro | refine parkI ?_ | exact f1 | exact Or.inl ⟨rfl, by assumption⟩ | exact Or.inr ⟨_, rfl, rfl⟩ | exact (rfl : (_ : Nat) = _) | (refine And.intro ?_ ?_ <;> conv => whnf) | (intro h; conv => whnf) | (refine parkE (fun hc => ?_) (fun hc => ?_) <;> first | exact (Bool.false_ne_true hc).elim | exact (Bool.false_ne_true hc.symm).elim | conv => whnf) | fail

theorem c_slices_Clone_order (a0 : (List Int)) (r : (List Int)) (h : slices_Clone_order a0 = some r) : CallP Tryz.prog 86 [(LV.ro 1 (a0.map iC))] (LV.ro 1 (r.map iC)) :=
 CallF.toP (cf_slices_Clone_order a0 r h) ⟨trivial, trivial⟩ (NLss_map' _)

def slices_IndexFunc_order_c0 (q1 : (Int → Option Bool)) (k8 : Nat) (x8 : Int) (s8 : Unit) : Option (Step Int Unit) :=
 (q1 x8).bind fun y26 =>
 (bif y26 then
  some (.ret ((k8 : Nat) : Int))
 else
  some (.nxt ()))

def slices_IndexFunc_order (a0 : (List Int)) (q1 : (Int → Option Bool)) : Option Int :=
 aft (rangeL (slices_IndexFunc_order_c0 q1) a0 ()) fun s8 =>
 some (-1)

theorem c_slices_IndexFunc_order (a0 : (List Int)) (fn1 : Nat) (ff1 fc1 : List LV) (q1 : (Int → Option Bool)) (hq1 : ∀ (x0 : Int) (r : Bool), q1 x0 = some r → CallP Tryz.prog fn1 (ff1 ++ [(I x0)] ++ fc1) (LV.bool r)) (hn1 : NLs ff1 ∧ NLs fc1) (r : Int) (h : slices_IndexFunc_order a0 q1 = some r) : CallP Tryz.prog 95 [(LV.ro 1 (a0.map iC)), (LV.func (.func fn1) ff1 fc1)] (I r) := by
 have hnA1 := hn1.1
 have hnB1 := hn1.2
 unfold slices_IndexFunc_order at h
 refine .intro nlA (.intro TT_ok Tryz.func95 rfl rfl [0, 1, 4, 5, 7, 8, 9, 16] rfl ?_)
 conv => whnf
 repeat' first | exact rA _ | refine parkI ?_ | (refine And.intro ?_ ?_ <;> conv => whnf) | fail
 replace h := aftS h
 obtain ⟨O8, hO8, r8⟩ := h
 refine LoopW.norm [(0, (LV.ro 1 (a0.map iC))), (1, (LV.func (.func fn1) ff1 fc1)), (7, (I (((a0.map iC).length : Nat) : Int))), (8, (I ((0 : Nat) : Int)))] 0 [] ⟨rfl, rfl, rfl, rfl, trivial⟩ trivial blT rfl ?_
 refine LoopW.forR (fun k8 s8 => [(0, (LV.ro 1 (a0.map iC))), (1, (LV.func (.func fn1) ff1 fc1)), (7, (I (((a0.map iC).length : Nat) : Int))), (8, (I ((k8 : Nat) : Int)))]) (fun s8 => ⟨0, []⟩) hO8 (fun hl8 s8 hs8 => ?_) (fun hl8 k8 x8 s8 o8 hk8 hx8 b8 K8 hret8 hbrk8 => ?_)
 ·rw [hs8] at r8
  dsimp only [aftM] at r8
  have hd : decide (((a0.length : Nat) : Int) < (((a0.map iC).length : Nat) : Int)) = false := by rw [decide_eq_false_iff_not]; (try simp only [se_len, se_ch, List.length_map]); omega
  refine LoopW.round TT_ok [0, 1, 4, 5, 7, 8, 9, 16] ?_
  conv => whnf
  repeat' first | exact rA _ | refine parkI ?_ | (refine And.intro ?_ ?_ <;> conv => whnf) | fail
  refine parkE (fun hc => ?_) (fun hc => ?_)
  ·exact (Bool.false_ne_true (hd.symm.trans hc)).elim
  ·clear hd
   conv => whnf
   have e := Option.some.inj r8
   subst e
   repeat' first | exact rA _ | exact clA _ | (refine And.intro ?_ ?_ <;> conv => whnf) | exact clG _ | (refine gand ?_ h; assumption) | exact clN _ | fail
 ·unfold slices_IndexFunc_order_c0 at b8
  have hd : decide (((k8 : Nat) : Int) < (((a0.map iC).length : Nat) : Int)) = true := by rw [decide_eq_true_eq]; (try simp only [se_len, se_ch, List.length_map] at hk8); (try simp only [se_len, se_ch, List.length_map]); omega
  refine LoopW.round TT_ok [0, 1, 4, 5, 7, 8, 9, 16] ?_
  conv => whnf
  repeat' first | exact rA _ | refine parkI ?_ | (refine And.intro ?_ ?_ <;> conv => whnf) | fail
  refine parkE (fun hc => ?_) (fun hc => ?_)
  ·clear hd
   conv => whnf
   replace b8 := bindS b8
   obtain ⟨y26, hy26, b8⟩ := b8
   have c27 := hq1 x8 _ hy26
   repeat' first | exact rA _ | refine parkI ?_ | (refine ⟨_, (kixF (f := iC) hx8), ?_⟩; conv => whnf) | (refine CallP.use c27 ?_; conv => whnf) | (refine frzB_call rfl (slN_nil hn1) ?_; conv => whnf) | (refine And.intro ?_ ?_ <;> conv => whnf) | fail
   refine parkE (fun hc => ?_) (fun hc => ?_)
   ·replace b8 := condT hc b8
    conv => whnf
    have e := Option.some.inj b8
    replace e := hret8 _ e.symm
    rw [e] at r8
    replace e := Option.some.inj r8
    subst e
    repeat' first | exact rA _ | exact clA _ | (refine And.intro ?_ ?_ <;> conv => whnf) | exact clG _ | (refine gand ?_ h; assumption) | exact clN _ | fail
   ·replace b8 := condF hc b8
    conv => whnf
    repeat' first | exact rA _ | refine parkI ?_ | (refine And.intro ?_ ?_ <;> conv => whnf) | fail
    have e := Option.some.inj b8
    refine LoopW.norm [(0, (LV.ro 1 (a0.map iC))), (1, (LV.func (.func fn1) ff1 fc1)), (7, (I (((a0.map iC).length : Nat) : Int))), (8, (I ((k8 + 1 : Nat) : Int)))] 0 [] ⟨rfl, rfl, rfl, (congrArg (LV.int .i64) (w64_nat _ (by omega))), trivial⟩ trivial blT rfl (K8 _ e.symm)
  ·exact (Bool.false_ne_true (hc.symm.trans hd)).elim

def slices_DeleteFunc_order_c0 (q1 : (Int → Option Bool)) (s9 : (Int × Int × (List Int))) : Option (Step (List Int) (Int × Int × (List Int))) :=
 (bif (decide (s9.2.1 < ((s9.2.2.length : Nat) : Int))) then
  grd ((0 : Int) ≤ s9.2.1 ∧ s9.2.1 < ((s9.2.2.length : Nat) : Int)) <|
  (gixN s9.2.2 (s9.2.1 : Int).toNat).bind fun v30 =>
  (q1 v30).bind fun y32 =>
  (bif (!y32) then
   grd ((0 : Int) ≤ s9.1 ∧ s9.1 < ((s9.2.2.length : Nat) : Int)) <|
   (gixN s9.2.2 (s9.1 : Int).toNat).bind fun v35 =>
   some (.nxt ((IntKind.i64.wrap (s9.1 + 1)), (IntKind.i64.wrap (s9.2.1 + 1)), (s9.2.2.set (s9.1 : Int).toNat v30)))
  else
   some (.nxt (s9.1, (IntKind.i64.wrap (s9.2.1 + 1)), s9.2.2)))
 else
  some (.brk (s9.1, s9.2.1, s9.2.2)))

def slices_DeleteFunc_order (a0 : (List Int)) (q1 : (Int → Option Bool)) : Option (List Int) :=
 (slices_IndexFunc_order a0 q1).bind fun y27 =>
 (bif (decide (y27 = (-1))) then
  some a0
 else
  aft (loopF 1000000 (slices_DeleteFunc_order_c0 q1) (y27, (IntKind.i64.wrap (y27 + 1)), a0)) fun s9 =>
  grd ((0 : Int) ≤ s9.1 ∧ s9.1 < ((s9.2.2.length : Nat) : Int)) <|
  grd ((0 : Int) ≤ s9.1 ∧ s9.1 ≤ ((s9.2.2.length : Nat) : Int)) <|
  some (s9.2.2.take (s9.1 : Int).toNat))

theorem w_slices_DeleteFunc_order (a0 : (List Int)) (fn1 : Nat) (ff1 fc1 : List LV) (q1 : (Int → Option Bool)) (hq1 : ∀ (x0 : Int) (r : Bool), q1 x0 = some r → CallP Tryz.prog fn1 (ff1 ++ [(I x0)] ++ fc1) (LV.bool r)) (hn1 : NLs ff1 ∧ NLs fc1) (r : (List Int)) (h : slices_DeleteFunc_order a0 q1 = some r) : CallW Tryz.prog 85 [(LV.sl 0 0 (a0.map iC).length), (LV.func (.func fn1) ff1 fc1)] ⟨1, [(0, (.row 3 1 (a0.map iC)))]⟩ (fun lv H' => lv = (LV.sl 0 0 (r.map iC).length) ∧ H' = ⟨1, [(0, (.row 3 1 (r.map iC)))]⟩) := by
 have hnA1 := hn1.1
 have hnB1 := hn1.2
 unfold slices_DeleteFunc_order at h
 refine CallW.shrink (CallW.intro TT_ok Tryz.func85 rfl rfl [0, 1, 4, 5, 6, 7, 12, 19, 29, 1000095] rfl ?_)
 conv => whnf
 have n26 : slNs [(LV.ro 1 (a0.map iC)), (LV.func (.func fn1) ff1 fc1)] = [] := slNs_nil nlA
 replace h := bindS h
 obtain ⟨y27, hy27, h⟩ := h
 have c28 := c_slices_IndexFunc_order a0 fn1 ff1 fc1 q1 hq1 hn1 _ hy27
 repeat' first | exact rA _ | refine parkI ?_ | (refine frzB_call n26 rfl ?_; conv => whnf) | (refine frz_nil n26 ?_; conv => whnf) | (refine CallW.done (CallP.lendG c28 nlB (show Lents _ [(LV.sl 0 0 (a0.map iC).length), (LV.func (.func fn1) ff1 fc1)] [(LV.ro 1 (a0.map iC)), (LV.func (.func fn1) ff1 fc1)] from ⟨Lent.sl rfl lnT, .of nlA, True.intro⟩)) ?_; conv => whnf) | (refine And.intro ?_ ?_ <;> conv => whnf) | fail
 refine parkE (fun hc => ?_) (fun hc => ?_)
 ·replace h := condT hc h
  conv => whnf
  have e := Option.some.inj h
  subst e
  repeat' first | exact rA _ | exact ⟨[(0, (.row 3 1 (a0.map iC)))], ⟨⟨rfl, rfl, NLss_bel (NLss_map' _)⟩, trivial⟩, blT, rfl, rfl⟩ | exact clA _ | (refine And.intro ?_ ?_ <;> conv => whnf) | exact clG _ | (refine gand ?_ h; assumption) | exact clN _ | fail
 ·replace h := condF hc h
  conv => whnf
  repeat' first | exact rA _ | refine parkI ?_ | (refine And.intro ?_ ?_ <;> conv => whnf) | fail
  replace h := aftS h
  obtain ⟨O9, hO9, r9⟩ := h
  refine LoopW.norm [(0, (LV.sl 0 0 (a0.map iC).length)), (1, (LV.func (.func fn1) ff1 fc1)), (5, (I y27)), (6, (I (IntKind.i64.wrap (y27 + 1))))] 1 [(0, (.row 3 1 (a0.map iC)))] ⟨(by exact congrArg (LV.sl 0 0) (clL _ : (a0.map iC).length = (a0.map iC).length)), rfl, (smT : ((I y27) : LV) = (I y27)), (smT : ((I (IntKind.i64.wrap (y27 + 1))) : LV) = (I (IntKind.i64.wrap (y27 + 1)))), trivial⟩ ⟨⟨(congrArg (fun q => some (Blk.row 3 1 q)) (smT : ((a0.map iC) : List (List LV)) = (a0.map iC))), rfl, NLss_bel (NLss_map' _)⟩, trivial⟩ blT rfl ?_
  refine LoopW.forF (fun s9 => [(0, (LV.sl 0 0 (s9.2.2.map iC).length)), (1, (LV.func (.func fn1) ff1 fc1)), (5, (I s9.1)), (6, (I s9.2.1))]) (fun s9 => ⟨1, [(0, (.row 3 1 (s9.2.2.map iC)))]⟩) hO9 (fun s9 o9 b9 K9 hret9 hbrk9 => ?_)
  unfold slices_DeleteFunc_order_c0 at b9
  refine LoopW.round TT_ok [0, 1, 4, 5, 6, 7, 12, 19, 29, 1000095] ?_
  conv => whnf
  repeat' first | exact rA _ | refine parkI ?_ | (refine And.intro ?_ ?_ <;> conv => whnf) | fail
  refine parkE (fun hc => ?_) (fun hc => ?_)
  ·replace b9 := condT (by first | exact hc | (simpa only [se_len, se_ch, List.length_map] using hc; done) | (have h0 : (decide (s9.2.1 < (((s9.2.2.map iC).length : Nat) : Int))) = true := hc; simpa only [se_len, se_ch, List.length_map] using h0)) b9
   conv => whnf
   replace b9 := grdS b9
   obtain ⟨g29, b9⟩ := b9
   replace g29 : (0 : Int) ≤ s9.2.1 ∧ s9.2.1 < (((s9.2.2.map iC).length : Nat) : Int) := by simpa only [se_len, se_ch, List.length_map] using g29
   replace b9 := bindS b9
   obtain ⟨v30, hv30, b9⟩ := b9
   have i31 : nth (s9.2.2.map iC) (0 + ((s9.2.1 : Int).toNat)) = some [(I v30)] := by simpa only [se_map, se_len, se_ch, List.length_map, nth_eq, Nat.zero_add, List.getElem?_map] using gixNF (f := iC) hv30
   replace b9 := bindS b9
   obtain ⟨y32, hy32, b9⟩ := b9
   have c33 := hq1 v30 _ hy32
   repeat' first | exact rA _ | refine parkI ?_ | exact g29 | (refine CallP.use c33 ?_; conv => whnf) | (rw [i31]; conv => whnf) | (refine frzB_call rfl (slN_nil hn1) ?_; conv => whnf) | (refine And.intro ?_ ?_ <;> conv => whnf) | fail
   refine parkE (fun hc => ?_) (fun hc => ?_)
   ·replace b9 := condT hc b9
    conv => whnf
    replace b9 := grdS b9
    obtain ⟨g34, b9⟩ := b9
    replace g34 : (0 : Int) ≤ s9.1 ∧ s9.1 < (((s9.2.2.map iC).length : Nat) : Int) := by simpa only [se_len, se_ch, List.length_map] using g34
    replace b9 := bindS b9
    obtain ⟨v35, hv35, b9⟩ := b9
    have i36 : nth (s9.2.2.map iC) (0 + ((s9.1 : Int).toNat)) = some [(I v35)] := by simpa only [se_map, se_len, se_ch, List.length_map, nth_eq, Nat.zero_add, List.getElem?_map] using gixNF (f := iC) hv35
    repeat' first | exact rA _ | refine parkI ?_ | exact g34 | (rw [i36]; conv => whnf) | (refine And.intro ?_ ?_ <;> conv => whnf) | fail
    have e := Option.some.inj b9
    refine LoopW.norm [(0, (LV.sl 0 0 ((s9.2.2.set (s9.1 : Int).toNat v30).map iC).length)), (1, (LV.func (.func fn1) ff1 fc1)), (5, (I (IntKind.i64.wrap (s9.1 + 1)))), (6, (I (IntKind.i64.wrap (s9.2.1 + 1))))] 1 [(0, (.row 3 1 ((s9.2.2.set (s9.1 : Int).toNat v30).map iC)))] ⟨(by exact congrArg (LV.sl 0 0) (clL _ : (s9.2.2.map iC).length = ((s9.2.2.set (s9.1 : Int).toNat v30).map iC).length)), rfl, (smT : ((I (IntKind.i64.wrap (s9.1 + 1))) : LV) = (I (IntKind.i64.wrap (s9.1 + 1)))), (smT : ((I (IntKind.i64.wrap (s9.2.1 + 1))) : LV) = (I (IntKind.i64.wrap (s9.2.1 + 1)))), trivial⟩ ⟨⟨(congrArg (fun q => some (Blk.row 3 1 q)) (smT : ((setN (s9.2.2.map iC) (0 + ((s9.1 : Int).toNat)) [(I v30)]) : List (List LV)) = ((s9.2.2.set (s9.1 : Int).toNat v30).map iC))), rfl, NLss_bel (NLss_map' _)⟩, trivial⟩ blT rfl (K9 _ e.symm)
   ·replace b9 := condF hc b9
    conv => whnf
    repeat' first | exact rA _ | refine parkI ?_ | (refine And.intro ?_ ?_ <;> conv => whnf) | fail
    have e := Option.some.inj b9
    refine LoopW.norm [(0, (LV.sl 0 0 (s9.2.2.map iC).length)), (1, (LV.func (.func fn1) ff1 fc1)), (5, (I s9.1)), (6, (I (IntKind.i64.wrap (s9.2.1 + 1))))] 1 [(0, (.row 3 1 (s9.2.2.map iC)))] ⟨(by exact congrArg (LV.sl 0 0) (clL _ : (s9.2.2.map iC).length = (s9.2.2.map iC).length)), rfl, (smT : ((I s9.1) : LV) = (I s9.1)), (smT : ((I (IntKind.i64.wrap (s9.2.1 + 1))) : LV) = (I (IntKind.i64.wrap (s9.2.1 + 1)))), trivial⟩ ⟨⟨(congrArg (fun q => some (Blk.row 3 1 q)) (smT : ((s9.2.2.map iC) : List (List LV)) = (s9.2.2.map iC))), rfl, NLss_bel (NLss_map' _)⟩, trivial⟩ blT rfl (K9 _ e.symm)
  ·replace b9 := condF (by first | exact hc | (simpa only [se_len, se_ch, List.length_map] using hc; done) | (have h0 : (decide (s9.2.1 < (((s9.2.2.map iC).length : Nat) : Int))) = false := hc; simpa only [se_len, se_ch, List.length_map] using h0)) b9
   conv => whnf
   have e := Option.some.inj b9
   replace e := hbrk9 _ e.symm
   rw [e] at r9
   dsimp only [aftM] at r9
   replace r9 := grdS r9
   obtain ⟨g37, r9⟩ := r9
   replace g37 : (0 : Int) ≤ s9.1 ∧ s9.1 < (((s9.2.2.map iC).length : Nat) : Int) := by simpa only [se_len, se_ch, List.length_map] using g37
   have l38 : (0 + (s9.1 : Int).toNat) + ((s9.2.2.map iC).length - (s9.1 : Int).toNat) = (s9.2.2.map iC).length := by (try simp only [se_len, se_ch, List.length_map]); (try simp only [se_len, se_ch, List.length_map] at *); omega
   replace r9 := grdS r9
   obtain ⟨g39, r9⟩ := r9
   replace g39 : (0 : Int) ≤ s9.1 ∧ s9.1 ≤ (((s9.2.2.map iC).length : Nat) : Int) := by simpa only [se_len, se_ch, List.length_map] using g39
   have e := Option.some.inj r9
   subst e
   repeat' first | exact rA _ | exact ⟨[(0, (.row 3 1 ((s9.2.2.take (s9.1 : Int).toNat).map iC)))], ⟨⟨(congrArg (fun q => some (Blk.row 3 1 q)) (by first | (simp only [se_map, se_byL, se_len, se_ch, List.length_map]; done) | (simp only [se_map, se_byL, se_len, se_ch, List.length_map, Nat.zero_add]; done) : (((s9.2.2.map iC).take (0 + (s9.1 : Int).toNat)) : List (List LV)) = ((s9.2.2.take (s9.1 : Int).toNat).map iC))), rfl, NLss_bel (NLss_map' _)⟩, trivial⟩, blT, (congrArg (LV.sl 0 0) (by (try simp only [se_map, se_byL, se_len, se_ch, List.length_map]); first | done | rfl | omega | (simp only [se_len, se_ch, List.length_map] at *; omega) : (s9.1 : Int).toNat = ((s9.2.2.take (s9.1 : Int).toNat).map iC).length)), rfl⟩ | exact g37 | exact g39 | exact l38 | exact clA _ | (refine And.intro ?_ ?_ <;> conv => whnf) | exact clG _ | (refine gand ?_ h; assumption) | exact clN _ | fail

def _lru_order_without_1 (a0 : Int) (q1 : Int) : Option Bool :=
 some (decide (a0 = q1))

theorem c__lru_order_without_1 (a0 : Int) (q1 : Int) (r : Bool) (h : _lru_order_without_1 a0 q1 = some r) : CallP Tryz.prog 87 [(I a0), (LV.rptr [(I q1)])] (LV.bool r) := by
 unfold _lru_order_without_1 at h
 refine .intro nlA (.intro TT_ok Tryz.func87 rfl rfl [0, 1, 3] rfl ?_)
 conv => whnf
 have e := Option.some.inj h
 subst e
 repeat' first | exact rA _ | exact clA _ | (refine And.intro ?_ ?_ <;> conv => whnf) | exact clG _ | (refine gand ?_ h; assumption) | exact clN _ | fail

def _lru_order_without (a0 : (List Int)) (a1 : Int) : Option (List Int) :=
 (slices_Clone_order a0).bind fun y24 =>
 (slices_DeleteFunc_order y24 (fun x0_ => _lru_order_without_1 x0_ a1)).bind fun y26 =>
 some y26

theorem cf__lru_order_without (a0 : (List Int)) (a1 : Int) (r : (List Int)) (h : _lru_order_without a0 a1 = some r) : CallF Tryz.prog 74 [(LV.ro 1 (a0.map iC)), (I a1)] 3 1 (r.map iC) := by
 unfold _lru_order_without at h
 refine CallF.of (NLss_map' _) (CallW.intro TT_ok Tryz.func74 rfl rfl [0, 1, 3, 4, 1000085, 2000085] rfl ?_)
 conv => whnf
 replace h := bindS h
 obtain ⟨y24, hy24, h⟩ := h
 have c25 := cf_slices_Clone_order a0 _ hy24
 replace h := bindS h
 obtain ⟨y26, hy26, h⟩ := h
 have c27 := w_slices_DeleteFunc_order y24 87 [] [(LV.rptr [(I a1)])] (fun x0_ => _lru_order_without_1 x0_ a1) (fun x0_ r h => c__lru_order_without_1 x0_ a1 r h) nlB _ hy26
 have e := Option.some.inj h
 subst e
 repeat' first | exact rA _ | (refine CallW.done (CallF.at c25 nlA (NLss_map' _)) ?_; conv => whnf) | (refine ⟨_, _, CallF.at c25 nlA (NLss_map' _), ?_⟩; conv => whnf) | (refine CallW.frame (nx2 := 2) (l2 := [(1, (.row 3 1 (y26.map iC)))]) [(1, 0)] [(0, 1)] c27 rfl rfl ⟨⟨rfl, rfl, .inl ⟨rfl, nlT⟩⟩, rfl, rfl, trivial⟩ rfl rfl ⟨⟨rfl, rfl, .inl ⟨rfl, nlT⟩⟩, rfl, rfl, trivial⟩ ?_; conv => whnf) | exact Or.inr ⟨_, rfl, congrArg (fun q => some (Blk.row 3 1 q)) rfl⟩ | exact clA _ | (refine And.intro ?_ ?_ <;> conv => whnf) | exact clG _ | (refine gand ?_ h; assumption) | exact clN _ | fail

theorem c__lru_order_without (a0 : (List Int)) (a1 : Int) (r : (List Int)) (h : _lru_order_without a0 a1 = some r) : CallP Tryz.prog 74 [(LV.ro 1 (a0.map iC)), (I a1)] (LV.ro 1 (r.map iC)) := by
 exact CallF.toP (cf__lru_order_without a0 a1 r h) nlA (NLss_map' _)

def _lru_order_use (a0 : (List Int)) (a1 : Int) : Option (List Int) :=
 (_lru_order_without a0 a1).bind fun y24 =>
 grd (fits ((([a1] : (List Int)) ++ y24) : List Int).length 8) <|
 some (([a1] : (List Int)) ++ y24)

theorem cf__lru_order_use (a0 : (List Int)) (a1 : Int) (r : (List Int)) (h : _lru_order_use a0 a1 = some r) : CallF Tryz.prog 73 [(LV.ro 1 (a0.map iC)), (I a1)] 3 1 (r.map iC) := by
 unfold _lru_order_use at h
 refine CallF.of (NLss_map' _) (CallW.intro TT_ok Tryz.func73 rfl rfl [0, 1, 4] rfl ?_)
 conv => whnf
 replace h := bindS h
 obtain ⟨y24, hy24, h⟩ := h
 have c25 := cf__lru_order_without a0 a1 _ hy24
 replace h := grdS h
 obtain ⟨g26, h⟩ := h
 replace g26 : fits (([[(I a1)]] ++ (y24.map iC))).length 8 := by simpa only [se_len, se_ch, List.length_map] using g26
 have e := Option.some.inj h
 subst e
 repeat' first | exact rA _ | exact g26 | (refine CallW.done (CallF.at c25 nlA (NLss_map' _)) ?_; conv => whnf) | (refine ⟨_, _, CallF.at c25 nlA (NLss_map' _), ?_⟩; conv => whnf) | exact Or.inr ⟨_, (congrArg (LV.sl _ 0) (by (try simp only [se_map, se_byL, se_len, se_ch, List.length_map]); first | done | rfl | omega | (simp only [se_len, se_ch, List.length_map] at *; omega) : (([[(I a1)]] ++ (y24.map iC))).length = ((([a1] : (List Int)) ++ y24).map iC).length)), congrArg (fun q => some (Blk.row 3 1 q)) (smT : (([[(I a1)]] ++ (y24.map iC)) : List (List LV)) = ((([a1] : (List Int)) ++ y24).map iC))⟩ | exact clA _ | (refine And.intro ?_ ?_ <;> conv => whnf) | exact clG _ | (refine gand ?_ h; assumption) | exact clN _ | fail

theorem c__lru_order_use (a0 : (List Int)) (a1 : Int) (r : (List Int)) (h : _lru_order_use a0 a1 = some r) : CallP Tryz.prog 73 [(LV.ro 1 (a0.map iC)), (I a1)] (LV.ro 1 (r.map iC)) := by
 exact CallF.toP (cf__lru_order_use a0 a1 r h) nlA (NLss_map' _)

def lru_Use (a0 : (List Int)) (a1 : Int) : Option ((List Int) × Int) :=
 (lru_Right a0).bind fun y22 =>
 (bif (bif (!y22) then true else (decide (a1 < 0))) then
  some ([], 1)
 else
  (_lru_order_use a0 a1).bind fun y24 =>
  (bif (decide (64 < ((y24.length : Nat) : Int))) then
   some ([], 5)
  else
   some (y24, 0)))

theorem c_lru_Use (a0 : (List Int)) (a1 : Int) (r : ((List Int) × Int)) (h : lru_Use a0 a1 = some r) : CallP Tryz.prog 52 [(LV.ro 1 (a0.map iC)), (I a1)] (LV.tup [(LV.ro 1 (r.1.map iC)), (I r.2)]) := by
 unfold lru_Use at h
 refine .intro nlA (.intro TT_ok Tryz.func52 rfl rfl [0, 1, 4, 5, 6, 13, 19] rfl ?_)
 conv => whnf
 replace h := bindS h
 obtain ⟨y22, hy22, h⟩ := h
 have c23 := c_lru_Right a0 _ hy22
 repeat' first | exact rA _ | refine parkI ?_ | (refine CallP.use c23 ?_; conv => whnf) | exact clA _ | (refine And.intro ?_ ?_ <;> conv => whnf) | exact clG _ | (refine gand ?_ h; assumption) | fail
 refine parkE (fun hc => ?_) (fun hc => ?_)
 ·replace h := condT hc h
  conv => whnf
  have e := Option.some.inj h
  subst e
  repeat' first | exact rA _ | exact clA _ | (refine And.intro ?_ ?_ <;> conv => whnf) | exact clG _ | (refine gand ?_ h; assumption) | exact clN _ | fail
 ·replace h := condF hc h
  conv => whnf
  replace h := bindS h
  obtain ⟨y24, hy24, h⟩ := h
  have c25 := cf__lru_order_use a0 a1 _ hy24
  repeat' first | exact rA _ | refine parkI ?_ | (refine CallW.done (CallF.at c25 nlA (NLss_map' _)) ?_; conv => whnf) | (refine ⟨_, _, CallF.at c25 nlA (NLss_map' _), ?_⟩; conv => whnf) | (refine And.intro ?_ ?_ <;> conv => whnf) | fail
  refine parkE (fun hc => ?_) (fun hc => ?_)
  ·replace h := condT (by first | exact hc | (simpa only [se_len, se_ch, List.length_map] using hc; done) | (have h0 : (decide (64 < (((y24.map iC).length : Nat) : Int))) = true := hc; simpa only [se_len, se_ch, List.length_map] using h0)) h
   conv => whnf
   have e := Option.some.inj h
   subst e
   repeat' first | exact rA _ | exact clA _ | (refine And.intro ?_ ?_ <;> conv => whnf) | exact clG _ | (refine gand ?_ h; assumption) | exact clN _ | fail
  ·replace h := condF (by first | exact hc | (simpa only [se_len, se_ch, List.length_map] using hc; done) | (have h0 : (decide (64 < (((y24.map iC).length : Nat) : Int))) = false := hc; simpa only [se_len, se_ch, List.length_map] using h0)) h
   conv => whnf
   have e := Option.some.inj h
   subst e
   repeat' first | exact rA _ | exact clA _ | (refine And.intro ?_ ?_ <;> conv => whnf) | exact clG _ | (refine gand ?_ h; assumption) | exact clN _ | fail

def slices_Clone_int (a0 : (List Int)) : Option (List Int) :=
 grd (fits a0.length 8) <|
 some a0

theorem cf_slices_Clone_int (a0 : (List Int)) (r : (List Int)) (h : slices_Clone_int a0 = some r) : CallF Tryz.prog 53 [(LV.ro 1 (a0.map iC))] 3 1 (r.map iC) := by
 unfold slices_Clone_int at h
 replace h := grdS h
 obtain ⟨g, h⟩ := h
 obtain rfl := Option.some.inj h
 have f1 : fits (([] : List (List LV)) ++ a0.map iC).length 8 := by rw [List.nil_append, List.length_map]; exact g
 refine CallF.of (NLss_map' _) (CallW.intro TT_ok Tryz.func53 rfl rfl [0, 2, 4] rfl ?_)
 conv => whnf
 repeat' first | with_reducible rfl | with_reducible exact True.intro | refine parkI ?_ | exact f1 | exact Or.inl ⟨rfl, by assumption⟩ | exact Or.inr ⟨_, rfl, rfl⟩ | exact (rfl : (_ : Nat) = _) | (refine And.intro ?_ ?_ <;> conv => whnf) | (intro h; conv => whnf) | (refine parkE (fun hc => ?_) (fun hc => ?_) <;> first | exact (Bool.false_ne_true hc).elim | exact (Bool.false_ne_true hc.symm).elim | conv => whnf) | fail

theorem c_slices_Clone_int (a0 : (List Int)) (r : (List Int)) (h : slices_Clone_int a0 = some r) : CallP Tryz.prog 53 [(LV.ro 1 (a0.map iC))] (LV.ro 1 (r.map iC)) :=
 CallF.toP (cf_slices_Clone_int a0 r h) ⟨trivial, trivial⟩ (NLss_map' _)

def lru_Drop (a0 : (List Int)) (a1 : Int) : Option ((List Int) × Int) :=
 (lru_Right a0).bind fun y37 =>
 (bif (bif (!y37) then true else (decide (a1 < 0))) then
  some ([], 1)
 else
  (_lru_order_without a0 a1).bind fun y39 =>
  (bif (decide (((y39.length : Nat) : Int) = ((a0.length : Nat) : Int))) then
   some ([], 4)
  else
   some (y39, 0)))

theorem c_lru_Drop (a0 : (List Int)) (a1 : Int) (r : ((List Int) × Int)) (h : lru_Drop a0 a1 = some r) : CallP Tryz.prog 54 [(LV.ro 1 (a0.map iC)), (I a1)] (LV.tup [(LV.ro 1 (r.1.map iC)), (I r.2)]) := by
 unfold lru_Drop at h
 refine .intro nlA (.intro TT_ok Tryz.func54 rfl rfl [0, 1, 4, 5, 6, 13, 21] rfl ?_)
 conv => whnf
 replace h := bindS h
 obtain ⟨y37, hy37, h⟩ := h
 have c38 := c_lru_Right a0 _ hy37
 repeat' first | exact rA _ | refine parkI ?_ | (refine CallP.use c38 ?_; conv => whnf) | exact clA _ | (refine And.intro ?_ ?_ <;> conv => whnf) | exact clG _ | (refine gand ?_ h; assumption) | fail
 refine parkE (fun hc => ?_) (fun hc => ?_)
 ·replace h := condT hc h
  conv => whnf
  have e := Option.some.inj h
  subst e
  repeat' first | exact rA _ | exact clA _ | (refine And.intro ?_ ?_ <;> conv => whnf) | exact clG _ | (refine gand ?_ h; assumption) | exact clN _ | fail
 ·replace h := condF hc h
  conv => whnf
  replace h := bindS h
  obtain ⟨y39, hy39, h⟩ := h
  have c40 := cf__lru_order_without a0 a1 _ hy39
  repeat' first | exact rA _ | refine parkI ?_ | (refine CallW.done (CallF.at c40 nlA (NLss_map' _)) ?_; conv => whnf) | (refine ⟨_, _, CallF.at c40 nlA (NLss_map' _), ?_⟩; conv => whnf) | (refine And.intro ?_ ?_ <;> conv => whnf) | fail
  refine parkE (fun hc => ?_) (fun hc => ?_)
  ·replace h := condT (by first | exact hc | (simpa only [se_len, se_ch, List.length_map] using hc; done) | (have h0 : (decide ((((y39.map iC).length : Nat) : Int) = (((a0.map iC).length : Nat) : Int))) = true := hc; simpa only [se_len, se_ch, List.length_map] using h0)) h
   conv => whnf
   have e := Option.some.inj h
   subst e
   repeat' first | exact rA _ | exact clA _ | (refine And.intro ?_ ?_ <;> conv => whnf) | exact clG _ | (refine gand ?_ h; assumption) | exact clN _ | fail
  ·replace h := condF (by first | exact hc | (simpa only [se_len, se_ch, List.length_map] using hc; done) | (have h0 : (decide ((((y39.map iC).length : Nat) : Int) = (((a0.map iC).length : Nat) : Int))) = false := hc; simpa only [se_len, se_ch, List.length_map] using h0)) h
   conv => whnf
   have e := Option.some.inj h
   subst e
   repeat' first | exact rA _ | exact clA _ | (refine And.intro ?_ ?_ <;> conv => whnf) | exact clG _ | (refine gand ?_ h; assumption) | exact clN _ | fail

def fdb_own_x (a0 : Tb) : Option Tb :=
 grd ((0 : Int) ≤ ((a0.Buckets.length : Nat) : Int) ∧ ((a0.Buckets.length : Nat) : Int) ≤ ((a0.Buckets.length : Nat) : Int) ∧ fits (((a0.Buckets.length : Nat) : Int)).toNat 24) <|
 some (⟨(a0.Buckets.take (List.replicate (((a0.Buckets.length : Nat) : Int)).toNat ([] : (List En))).length ++ (List.replicate (((a0.Buckets.length : Nat) : Int)).toNat ([] : (List En))).drop a0.Buckets.length), a0.Slots, a0.Age⟩ : Tb)

theorem w_fdb_own_x (a0 : Tb) (r : Tb) (h : fdb_own_x a0 = some r) : CallW Tryz.prog 55 [(LV.agg [(LV.ro 1 (a0.Buckets.map (roC 4 EnC))), (I a0.Slots), (I a0.Age)])] ⟨0, []⟩ (fun lv H' => lv = (LV.agg [(LV.sl 0 0 (r.Buckets.map (roC 4 EnC)).length), (I r.Slots), (I r.Age)]) ∧ H' = ⟨1, [(0, (.row 39 1 (r.Buckets.map (roC 4 EnC))))]⟩) := by
 unfold fdb_own_x at h
 refine CallW.shrinkR (CallW.intro TT_ok Tryz.func55 rfl rfl [0, 1, 2, 3, 5000007] rfl ?_)
 conv => whnf
 replace h := grdS h
 obtain ⟨g43, h⟩ := h
 replace g43 : (0 : Int) ≤ (((a0.Buckets.map (roC 4 EnC)).length : Nat) : Int) ∧ (((a0.Buckets.map (roC 4 EnC)).length : Nat) : Int) ≤ (((a0.Buckets.map (roC 4 EnC)).length : Nat) : Int) ∧ fits ((((a0.Buckets.map (roC 4 EnC)).length : Nat) : Int)).toNat 24 := by simpa only [se_len, se_ch, List.length_map] using g43
 have e := Option.some.inj h
 subst e
 repeat' first | exact rA _ | exact ⟨[(2, 0)], 1, [(0, (.row 39 1 ((⟨(a0.Buckets.take (List.replicate (((a0.Buckets.length : Nat) : Int)).toNat ([] : (List En))).length ++ (List.replicate (((a0.Buckets.length : Nat) : Int)).toNat ([] : (List En))).drop a0.Buckets.length), a0.Slots, a0.Age⟩ : Tb).Buckets.map (roC 4 EnC))))], rfl, ⟨⟨rfl, rfl, .inl ⟨(by first | (simp only [se_map, se_byL, se_len, se_ch, List.length_map]; done) | (simp only [se_map, se_byL, se_len, se_ch, List.length_map, TbC]; done) | (simp only [se_map, se_byL, se_len, se_ch, List.length_map, roC]; done) : (((a0.Buckets.map (roC 4 EnC)).take (List.replicate ((((a0.Buckets.map (roC 4 EnC)).length : Nat) : Int)).toNat [(LV.ro 4 [])]).length ++ (List.replicate ((((a0.Buckets.map (roC 4 EnC)).length : Nat) : Int)).toNat [(LV.ro 4 [])]).drop (a0.Buckets.map (roC 4 EnC)).length) : List (List LV)) = ((⟨(a0.Buckets.take (List.replicate (((a0.Buckets.length : Nat) : Int)).toNat ([] : (List En))).length ++ (List.replicate (((a0.Buckets.length : Nat) : Int)).toNat ([] : (List En))).drop a0.Buckets.length), a0.Slots, a0.Age⟩ : Tb).Buckets.map (roC 4 EnC))), nlT⟩⟩, rfl, rfl, trivial⟩, rfl, rfl, (by first | exact rfl | (show ((LV.agg [(LV.sl 0 0 ((((a0.Buckets.map (roC 4 EnC)).length : Nat) : Int)).toNat), (I a0.Slots), (I a0.Age)]) : LV) = (LV.agg [(LV.sl 0 0 ((⟨(a0.Buckets.take (List.replicate (((a0.Buckets.length : Nat) : Int)).toNat ([] : (List En))).length ++ (List.replicate (((a0.Buckets.length : Nat) : Int)).toNat ([] : (List En))).drop a0.Buckets.length), a0.Slots, a0.Age⟩ : Tb).Buckets.map (roC 4 EnC)).length), (I (⟨(a0.Buckets.take (List.replicate (((a0.Buckets.length : Nat) : Int)).toNat ([] : (List En))).length ++ (List.replicate (((a0.Buckets.length : Nat) : Int)).toNat ([] : (List En))).drop a0.Buckets.length), a0.Slots, a0.Age⟩ : Tb).Slots), (I (⟨(a0.Buckets.take (List.replicate (((a0.Buckets.length : Nat) : Int)).toNat ([] : (List En))).length ++ (List.replicate (((a0.Buckets.length : Nat) : Int)).toNat ([] : (List En))).drop a0.Buckets.length), a0.Slots, a0.Age⟩ : Tb).Age)]); simp only [se_map, se_byL, se_len, se_ch, List.length_map]; done) | (show ((LV.agg [(LV.sl 0 0 ((((a0.Buckets.map (roC 4 EnC)).length : Nat) : Int)).toNat), (I a0.Slots), (I a0.Age)]) : LV) = (LV.agg [(LV.sl 0 0 ((⟨(a0.Buckets.take (List.replicate (((a0.Buckets.length : Nat) : Int)).toNat ([] : (List En))).length ++ (List.replicate (((a0.Buckets.length : Nat) : Int)).toNat ([] : (List En))).drop a0.Buckets.length), a0.Slots, a0.Age⟩ : Tb).Buckets.map (roC 4 EnC)).length), (I (⟨(a0.Buckets.take (List.replicate (((a0.Buckets.length : Nat) : Int)).toNat ([] : (List En))).length ++ (List.replicate (((a0.Buckets.length : Nat) : Int)).toNat ([] : (List En))).drop a0.Buckets.length), a0.Slots, a0.Age⟩ : Tb).Slots), (I (⟨(a0.Buckets.take (List.replicate (((a0.Buckets.length : Nat) : Int)).toNat ([] : (List En))).length ++ (List.replicate (((a0.Buckets.length : Nat) : Int)).toNat ([] : (List En))).drop a0.Buckets.length), a0.Slots, a0.Age⟩ : Tb).Age)]); (try simp only [se_map, se_byL, se_len, se_ch, List.length_map]); first | (congr 1; (try simp only [se_len, se_ch, List.length_map] at *); omega) | (simp only [LV.agg.injEq, LV.tup.injEq, List.cons.injEq, LV.sl.injEq, true_and, and_true]; omega))), rfl⟩ | exact g43 | exact clA _ | (refine And.intro ?_ ?_ <;> conv => whnf) | exact clH _ | (refine gand ?_ h; assumption) | exact clN _ | exact clL _ | fail

def fdb_put_c0  (k6 : Nat) (s6 : (List Int)) : Option (Step (Tb × Bool) (List Int)) :=
 grd (fits ((s6 ++ ([((k6 : Nat) : Int)] : (List Int))) : List Int).length 8) <|
 some (.nxt (s6 ++ ([((k6 : Nat) : Int)] : (List Int))))

def fdb_put_c1 (a1 : En) (y15 : (List En)) (s8 : (List Int)) : Option (Step (Tb × Bool) (List Int)) :=
 grd (((decide (0 < ((s8.length : Nat) : Int))) = true → (0 : Int) ≤ (IntKind.i64.wrap (((s8.length : Nat) : Int) - 1)) ∧ (IntKind.i64.wrap (((s8.length : Nat) : Int) - 1)) < ((s8.length : Nat) : Int))) <|
 (bif (decide (0 < ((s8.length : Nat) : Int))) then
  (gixN s8 ((IntKind.i64.wrap (((s8.length : Nat) : Int) - 1)) : Int).toNat).bind fun v28 =>
  grd (((decide (0 < ((s8.length : Nat) : Int))) = true → (0 : Int) ≤ v28 ∧ v28 < ((((y15 ++ ([a1] : (List En))).set (((y15.length : Nat) : Int) : Int).toNat a1).length : Nat) : Int))) <|
  (gixN ((y15 ++ ([a1] : (List En))).set (((y15.length : Nat) : Int) : Int).toNat a1) (v28 : Int).toNat).bind fun v31 =>
  (bif (bif (decide (0 < ((s8.length : Nat) : Int))) then v31.Static else false) then
   grd ((0 : Int) ≤ (IntKind.i64.wrap (((s8.length : Nat) : Int) - 1)) ∧ (IntKind.i64.wrap (((s8.length : Nat) : Int) - 1)) ≤ ((s8.length : Nat) : Int)) <|
   some (.nxt (s8.take ((IntKind.i64.wrap (((s8.length : Nat) : Int) - 1)) : Int).toNat))
  else
   some (.brk s8))
 else
  some (.brk s8))

def fdb_put_c2 (a1 : En) (y15 : (List En)) (k9 : Nat) (x9 : Int) (s9 : (List En)) : Option (Step (Tb × Bool) (List En)) :=
 grd ((0 : Int) ≤ x9 ∧ x9 < ((((y15 ++ ([a1] : (List En))).set (((y15.length : Nat) : Int) : Int).toNat a1).length : Nat) : Int)) <|
 (gixN ((y15 ++ ([a1] : (List En))).set (((y15.length : Nat) : Int) : Int).toNat a1) (x9 : Int).toNat).bind fun v48 =>
 grd (fits ((s9 ++ ([v48] : (List En))) : List En).length 32) <|
 some (.nxt (s9 ++ ([v48] : (List En))))

def fdb_put_c3 (a1 : En) (y15 : (List En)) (k10 : Nat) (x10 : Int) (s10 : (List En)) : Option (Step (Tb × Bool) (List En)) :=
 grd ((0 : Int) ≤ x10 ∧ x10 < ((((y15 ++ ([a1] : (List En))).set (((y15.length : Nat) : Int) : Int).toNat a1).length : Nat) : Int)) <|
 (gixN ((y15 ++ ([a1] : (List En))).set (((y15.length : Nat) : Int) : Int).toNat a1) (x10 : Int).toNat).bind fun v57 =>
 grd (fits ((s10 ++ ([v57] : (List En))) : List En).length 32) <|
 some (.nxt (s10 ++ ([v57] : (List En))))

def fdb_put_c4 (a1 : En) (y11 : (Int × Int)) (y15 : (List En)) (s13 : (List Int)) : Option (Step (Tb × Bool) (List Int)) :=
 grd (((decide (0 < ((s13.length : Nat) : Int))) = true → (0 : Int) ≤ (IntKind.i64.wrap (((s13.length : Nat) : Int) - 1)) ∧ (IntKind.i64.wrap (((s13.length : Nat) : Int) - 1)) < ((s13.length : Nat) : Int))) <|
 (bif (decide (0 < ((s13.length : Nat) : Int))) then
  (gixN s13 ((IntKind.i64.wrap (((s13.length : Nat) : Int) - 1)) : Int).toNat).bind fun v74 =>
  grd (((decide (0 < ((s13.length : Nat) : Int))) = true → (0 : Int) ≤ v74 ∧ v74 < (((y15.set (y11.2 : Int).toNat a1).length : Nat) : Int))) <|
  (gixN (y15.set (y11.2 : Int).toNat a1) (v74 : Int).toNat).bind fun v77 =>
  (bif (bif (decide (0 < ((s13.length : Nat) : Int))) then v77.Static else false) then
   grd ((0 : Int) ≤ (IntKind.i64.wrap (((s13.length : Nat) : Int) - 1)) ∧ (IntKind.i64.wrap (((s13.length : Nat) : Int) - 1)) ≤ ((s13.length : Nat) : Int)) <|
   some (.nxt (s13.take ((IntKind.i64.wrap (((s13.length : Nat) : Int) - 1)) : Int).toNat))
  else
   some (.brk s13))
 else
  some (.brk s13))

def fdb_put_c5 (a1 : En) (y11 : (Int × Int)) (y15 : (List En)) (k14 : Nat) (x14 : Int) (s14 : (List En)) : Option (Step (Tb × Bool) (List En)) :=
 grd ((0 : Int) ≤ x14 ∧ x14 < (((y15.set (y11.2 : Int).toNat a1).length : Nat) : Int)) <|
 (gixN (y15.set (y11.2 : Int).toNat a1) (x14 : Int).toNat).bind fun v94 =>
 grd (fits ((s14 ++ ([v94] : (List En))) : List En).length 32) <|
 some (.nxt (s14 ++ ([v94] : (List En))))

def fdb_put_c6 (a1 : En) (y11 : (Int × Int)) (y15 : (List En)) (k15 : Nat) (x15 : Int) (s15 : (List En)) : Option (Step (Tb × Bool) (List En)) :=
 grd ((0 : Int) ≤ x15 ∧ x15 < (((y15.set (y11.2 : Int).toNat a1).length : Nat) : Int)) <|
 (gixN (y15.set (y11.2 : Int).toNat a1) (x15 : Int).toNat).bind fun v103 =>
 grd (fits ((s15 ++ ([v103] : (List En))) : List En).length 32) <|
 some (.nxt (s15 ++ ([v103] : (List En))))

def fdb_put (a0 : Tb) (a1 : En) : Option (Tb × Bool) :=
 (fdb_place a0 a1.Mac).bind fun y11 =>
 (gix a0.Buckets y11.1).bind fun v13 =>
 (slices_Clone_Entry v13).bind fun y15 =>
 aft (rangeN (fdb_put_c0 ) ((y15.length : Nat) : Int) ([] : (List Int))) fun s6 =>
 (bif (decide (y11.2 < 0)) then
  grd (fits ((y15 ++ ([a1] : (List En))) : List En).length 32) <|
  grd ((0 : Int) ≤ ((y15.length : Nat) : Int) ∧ ((y15.length : Nat) : Int) < (((y15 ++ ([a1] : (List En))).length : Nat) : Int)) <|
  (gixN (y15 ++ ([a1] : (List En))) (((y15.length : Nat) : Int) : Int).toNat).bind fun v20 =>
  (lru_Use s6 ((y15.length : Nat) : Int)).bind fun y22 =>
  (bif (decide (a0.Slots < ((y22.1.length : Nat) : Int))) then
   grd ((0 : Int) ≤ 1 ∧ 1 ≤ ((y22.1.length : Nat) : Int)) <|
   (slices_Clone_int (y22.1.drop (1 : Int).toNat)).bind fun y25 =>
   aft (loopF 1000000 (fdb_put_c1 a1 y15) y25) fun s8 =>
   (bif (decide (((s8.length : Nat) : Int) = 0)) then
    some (a0, false)
   else
    grd ((0 : Int) ≤ (IntKind.i64.wrap (((s8.length : Nat) : Int) - 1)) ∧ (IntKind.i64.wrap (((s8.length : Nat) : Int) - 1)) < ((s8.length : Nat) : Int)) <|
    (gixN s8 ((IntKind.i64.wrap (((s8.length : Nat) : Int) - 1)) : Int).toNat).bind fun v43 =>
    (lru_Drop y22.1 v43).bind fun y45 =>
    aft (rangeL (fdb_put_c2 a1 y15) y45.1 ([] : (List En))) fun s9 =>
    (fdb_own_x a0).bind fun y51 =>
    grd ((0 : Int) ≤ y11.1 ∧ y11.1 < ((y51.Buckets.length : Nat) : Int)) <|
    (gixN y51.Buckets (y11.1 : Int).toNat).bind fun v54 =>
    some ((⟨(y51.Buckets.set (y11.1 : Int).toNat s9), y51.Slots, y51.Age⟩ : Tb), true))
  else
   aft (rangeL (fdb_put_c3 a1 y15) y22.1 ([] : (List En))) fun s10 =>
   (fdb_own_x a0).bind fun y60 =>
   grd ((0 : Int) ≤ y11.1 ∧ y11.1 < ((y60.Buckets.length : Nat) : Int)) <|
   (gixN y60.Buckets (y11.1 : Int).toNat).bind fun v63 =>
   some ((⟨(y60.Buckets.set (y11.1 : Int).toNat s10), y60.Slots, y60.Age⟩ : Tb), true))
 else
  grd ((0 : Int) ≤ y11.2 ∧ y11.2 < ((y15.length : Nat) : Int)) <|
  (gixN y15 (y11.2 : Int).toNat).bind fun v66 =>
  (lru_Use s6 y11.2).bind fun y68 =>
  (bif (decide (a0.Slots < ((y68.1.length : Nat) : Int))) then
   grd ((0 : Int) ≤ 1 ∧ 1 ≤ ((y68.1.length : Nat) : Int)) <|
   (slices_Clone_int (y68.1.drop (1 : Int).toNat)).bind fun y71 =>
   aft (loopF 1000000 (fdb_put_c4 a1 y11 y15) y71) fun s13 =>
   (bif (decide (((s13.length : Nat) : Int) = 0)) then
    some (a0, false)
   else
    grd ((0 : Int) ≤ (IntKind.i64.wrap (((s13.length : Nat) : Int) - 1)) ∧ (IntKind.i64.wrap (((s13.length : Nat) : Int) - 1)) < ((s13.length : Nat) : Int)) <|
    (gixN s13 ((IntKind.i64.wrap (((s13.length : Nat) : Int) - 1)) : Int).toNat).bind fun v89 =>
    (lru_Drop y68.1 v89).bind fun y91 =>
    aft (rangeL (fdb_put_c5 a1 y11 y15) y91.1 ([] : (List En))) fun s14 =>
    (fdb_own_x a0).bind fun y97 =>
    grd ((0 : Int) ≤ y11.1 ∧ y11.1 < ((y97.Buckets.length : Nat) : Int)) <|
    (gixN y97.Buckets (y11.1 : Int).toNat).bind fun v100 =>
    some ((⟨(y97.Buckets.set (y11.1 : Int).toNat s14), y97.Slots, y97.Age⟩ : Tb), true))
  else
   aft (rangeL (fdb_put_c6 a1 y11 y15) y68.1 ([] : (List En))) fun s15 =>
   (fdb_own_x a0).bind fun y106 =>
   grd ((0 : Int) ≤ y11.1 ∧ y11.1 < ((y106.Buckets.length : Nat) : Int)) <|
   (gixN y106.Buckets (y11.1 : Int).toNat).bind fun v109 =>
   some ((⟨(y106.Buckets.set (y11.1 : Int).toNat s15), y106.Slots, y106.Age⟩ : Tb), true)))

theorem c_fdb_put (a0 : Tb) (a1 : En) (r : (Tb × Bool)) (h : fdb_put a0 a1 = some r) : CallP Tryz.prog 23 [(LV.agg [(LV.ro 1 (a0.Buckets.map (roC 4 EnC))), (I a0.Slots), (I a0.Age)]), (LV.agg [(I a1.Mac), (I a1.Port), (I a1.Seen), (LV.bool a1.Static)])] (LV.tup [(LV.agg [(LV.ro 1 (r.1.Buckets.map (roC 4 EnC))), (I r.1.Slots), (I r.1.Age)]), (LV.bool r.2)]) := by
 unfold fdb_put at h
 refine .intro nlA (.intro TT_ok Tryz.func23 rfl rfl [0, 1, 2, 3, 4, 5, 6, 7, 8, 9, 10, 11, 12, 14, 29, 30, 31, 39, 60, 78, 86, 99, 100, 101, 102, 1000055, 4000118, 5000083, 8000074, 8000077] rfl ?_)
 conv => whnf
 replace h := bindS h
 obtain ⟨y11, hy11, h⟩ := h
 have c12 := c_fdb_place a0 a1.Mac _ hy11
 replace h := bindS h
 obtain ⟨v13, hv13, h⟩ := h
 have i14 := gixF (f := (roC 4 EnC)) hv13
 replace h := bindS h
 obtain ⟨y15, hy15, h⟩ := h
 have c16 := cf_slices_Clone_Entry v13 _ hy15
 repeat' first | exact rA _ | refine parkI ?_ | (refine ⟨_, i14, ?_⟩; conv => whnf) | (refine CallP.use c12 ?_; conv => whnf) | (refine CallW.done (CallF.at c16 nlA (NLss_map' _)) ?_; conv => whnf) | (refine ⟨_, _, CallF.at c16 nlA (NLss_map' _), ?_⟩; conv => whnf) | (refine And.intro ?_ ?_ <;> conv => whnf) | fail
 replace h := aftS h
 obtain ⟨O6, hO6, r6⟩ := h
 refine LoopW.virt 9 3 1 rfl ?_
 refine LoopW.norm [(2, (LV.ptr 0 0 0)), (3, (LV.ptr 1 0 0)), (4, (LV.ptr 2 0 0)), (6, (I y11.1)), (7, (I y11.2)), (8, (LV.sl 3 0 (y15.map EnC).length)), (9, (LV.sl 4 0 (([] : (List Int)).map iC).length)), (29, (I (((y15.map EnC).length : Nat) : Int))), (30, (I ((0 : Nat) : Int)))] 5 [(0, (.row 24 3 [[(LV.ro 1 (a0.Buckets.map (roC 4 EnC))), (I a0.Slots), (I a0.Age)]])), (1, (.row 42 4 [[(I a1.Mac), (I a1.Port), (I a1.Seen), (LV.bool a1.Static)]])), (2, (.row 24 3 [[LV.nils, (I 0), (I 0)]])), (3, (.row 42 4 (y15.map EnC))), (4, (.row 3 1 (([] : (List Int)).map iC)))] ⟨rfl, rfl, rfl, rfl, rfl, rfl, (by exact congrArg (LV.sl 4 0) (clL _ : 0 = (([] : (List Int)).map iC).length)), rfl, rfl, trivial⟩ ⟨⟨rfl, rfl, blT⟩, ⟨⟨rfl, rfl, blT⟩, ⟨⟨rfl, rfl, blT⟩, ⟨⟨rfl, rfl, NLss_bel (NLss_map' _)⟩, ⟨⟨(congrArg (fun q => some (Blk.row 3 1 q)) (smT : ([] : List (List LV)) = (([] : (List Int)).map iC))), rfl, NLss_bel (NLss_map' _)⟩, trivial⟩⟩⟩⟩⟩ blT rfl ?_
 refine LoopW.forN (fun k6 s6 => [(2, (LV.ptr 0 0 0)), (3, (LV.ptr 1 0 0)), (4, (LV.ptr 2 0 0)), (6, (I y11.1)), (7, (I y11.2)), (8, (LV.sl 3 0 (y15.map EnC).length)), (9, (LV.sl 4 0 (s6.map iC).length)), (29, (I (((y15.map EnC).length : Nat) : Int))), (30, (I ((k6 : Nat) : Int)))]) (fun s6 => ⟨5, [(0, (.row 24 3 [[(LV.ro 1 (a0.Buckets.map (roC 4 EnC))), (I a0.Slots), (I a0.Age)]])), (1, (.row 42 4 [[(I a1.Mac), (I a1.Port), (I a1.Seen), (LV.bool a1.Static)]])), (2, (.row 24 3 [[LV.nils, (I 0), (I 0)]])), (3, (.row 42 4 (y15.map EnC))), (4, (.row 3 1 (s6.map iC)))]⟩) hO6 (fun hl6 s6 hs6 => ?_) (fun hl6 k6 s6 o6 hk6 b6 K6 hret6 hbrk6 => ?_)
 ·rw [hs6] at r6
  dsimp only [aftM] at r6
  have hd : decide ((((((y15.length : Nat) : Int) : Int).toNat : Nat) : Int) < (((y15.map EnC).length : Nat) : Int)) = false := by rw [decide_eq_false_iff_not]; (try simp only [se_len, se_ch, List.length_map]); omega
  refine LoopW.round TT_ok [0, 1, 2, 3, 4, 5, 6, 7, 8, 9, 10, 11, 12, 14, 29, 30, 31, 39, 60, 78, 86, 99, 100, 101, 102, 1000055, 4000118, 5000083, 8000074, 8000077] ?_
  conv => whnf
  repeat' first | exact rA _ | refine parkI ?_ | (refine And.intro ?_ ?_ <;> conv => whnf) | fail
  refine parkE (fun hc => ?_) (fun hc => ?_)
  ·exact (Bool.false_ne_true (hd.symm.trans hc)).elim
  ·clear hd
   conv => whnf
   repeat' first | exact rA _ | refine parkI ?_ | (refine And.intro ?_ ?_ <;> conv => whnf) | fail
   refine parkE (fun hc => ?_) (fun hc => ?_)
   ·replace r6 := condT hc r6
    conv => whnf
    replace r6 := grdS r6
    obtain ⟨g18, r6⟩ := r6
    replace g18 : fits (((y15.map EnC) ++ [[(I a1.Mac), (I a1.Port), (I a1.Seen), (LV.bool a1.Static)]])).length 32 := by simpa only [se_len, se_ch, List.length_map] using g18
    replace r6 := grdS r6
    obtain ⟨g19, r6⟩ := r6
    replace g19 : (0 : Int) ≤ (((y15.map EnC).length : Nat) : Int) ∧ (((y15.map EnC).length : Nat) : Int) < (((((y15.map EnC) ++ [[(I a1.Mac), (I a1.Port), (I a1.Seen), (LV.bool a1.Static)]])).length : Nat) : Int) := by simpa only [se_len, se_ch, List.length_map] using g19
    replace r6 := bindS r6
    obtain ⟨v20, hv20, r6⟩ := r6
    have i21 : nth ((y15.map EnC) ++ [[(I a1.Mac), (I a1.Port), (I a1.Seen), (LV.bool a1.Static)]]) (0 + (((((y15.map EnC).length : Nat) : Int) : Int).toNat)) = some [(I v20.Mac), (I v20.Port), (I v20.Seen), (LV.bool v20.Static)] := by simpa only [se_map, se_len, se_ch, List.length_map, nth_eq, Nat.zero_add, List.getElem?_map] using gixNF (f := EnC) hv20
    replace r6 := bindS r6
    obtain ⟨y22, hy22, r6⟩ := r6
    have c23 : CallP Tryz.prog 52 [(LV.ro 1 (s6.map iC)), (I (((y15.map EnC).length : Nat) : Int))] (LV.tup [(LV.ro 1 (y22.1.map iC)), (I y22.2)]) := by first | exact c_lru_Use s6 ((y15.length : Nat) : Int) _ hy22 | (simpa only [se_map, se_byL, se_len, se_ch, List.length_map] using c_lru_Use s6 ((y15.length : Nat) : Int) _ hy22)
    repeat' first | exact rA _ | refine parkI ?_ | exact g18 | exact g19 | (refine CallP.use c23 ?_; conv => whnf) | (first | (rw [i21]; conv => whnf) | (erw [i21]; conv => whnf)) | exact clA _ | (refine And.intro ?_ ?_ <;> conv => whnf) | exact clN _ | fail
    refine parkE (fun hc => ?_) (fun hc => ?_)
    ·replace r6 := condT (by first | exact hc | (simpa only [se_len, se_ch, List.length_map] using hc; done) | (have h0 : (decide (a0.Slots < (((y22.1.map iC).length : Nat) : Int))) = true := hc; simpa only [se_len, se_ch, List.length_map] using h0)) r6
     conv => whnf
     replace r6 := grdS r6
     obtain ⟨g24, r6⟩ := r6
     replace g24 : (0 : Int) ≤ 1 ∧ 1 ≤ (((y22.1.map iC).length : Nat) : Int) := by simpa only [se_len, se_ch, List.length_map] using g24
     replace r6 := bindS r6
     obtain ⟨y25, hy25, r6⟩ := r6
     have c26 : CallF Tryz.prog 53 [(LV.ro 1 ((y22.1.map iC).drop (1 : Int).toNat))] 3 1 (y25.map iC) := by first | exact cf_slices_Clone_int (y22.1.drop (1 : Int).toNat) _ hy25 | (simpa only [se_map, se_byL, se_len, se_ch, List.length_map] using cf_slices_Clone_int (y22.1.drop (1 : Int).toNat) _ hy25)
     repeat' first | exact rA _ | refine parkI ?_ | exact g24 | (refine CallW.done (CallF.at c26 nlA (NLss_map' _)) ?_; conv => whnf) | (refine ⟨_, _, CallF.at c26 nlA (NLss_map' _), ?_⟩; conv => whnf) | (refine And.intro ?_ ?_ <;> conv => whnf) | fail
     replace r6 := aftS r6
     obtain ⟨O8, hO8, r8⟩ := r6
     refine LoopW.norm [(2, (LV.ptr 0 0 0)), (4, (LV.ptr 2 0 0)), (6, (I y11.1)), (8, (LV.sl 6 0 (((y15.map EnC) ++ [[(I a1.Mac), (I a1.Port), (I a1.Seen), (LV.bool a1.Static)]])).length)), (9, (LV.ro 1 (y22.1.map iC))), (11, (LV.sl 7 0 (y25.map iC).length))] 8 [(0, (.row 24 3 [[(LV.ro 1 (a0.Buckets.map (roC 4 EnC))), (I a0.Slots), (I a0.Age)]])), (2, (.row 24 3 [[LV.nils, (I 0), (I 0)]])), (6, (.row 42 4 (setN ((y15.map EnC) ++ [[(I a1.Mac), (I a1.Port), (I a1.Seen), (LV.bool a1.Static)]]) (0 + (((((y15.map EnC).length : Nat) : Int) : Int).toNat)) [(I a1.Mac), (I a1.Port), (I a1.Seen), (LV.bool a1.Static)]))), (7, (.row 3 1 (y25.map iC)))] ⟨rfl, rfl, rfl, rfl, rfl, rfl, trivial⟩ ⟨⟨rfl, rfl, blT⟩, ⟨⟨rfl, rfl, blT⟩, ⟨⟨rfl, rfl, NLss_bel nlT⟩, ⟨⟨rfl, rfl, NLss_bel (NLss_map' _)⟩, trivial⟩⟩⟩⟩ blT rfl ?_
     refine LoopW.forF (fun s8 => [(2, (LV.ptr 0 0 0)), (4, (LV.ptr 2 0 0)), (6, (I y11.1)), (8, (LV.sl 6 0 (((y15.map EnC) ++ [[(I a1.Mac), (I a1.Port), (I a1.Seen), (LV.bool a1.Static)]])).length)), (9, (LV.ro 1 (y22.1.map iC))), (11, (LV.sl 7 0 (s8.map iC).length))]) (fun s8 => ⟨8, [(0, (.row 24 3 [[(LV.ro 1 (a0.Buckets.map (roC 4 EnC))), (I a0.Slots), (I a0.Age)]])), (2, (.row 24 3 [[LV.nils, (I 0), (I 0)]])), (6, (.row 42 4 (setN ((y15.map EnC) ++ [[(I a1.Mac), (I a1.Port), (I a1.Seen), (LV.bool a1.Static)]]) (0 + (((((y15.map EnC).length : Nat) : Int) : Int).toNat)) [(I a1.Mac), (I a1.Port), (I a1.Seen), (LV.bool a1.Static)]))), (7, (.row 3 1 (s8.map iC)))]⟩) hO8 (fun s8 o8 b8 K8 hret8 hbrk8 => ?_)
     unfold fdb_put_c1 at b8
     refine LoopW.round TT_ok [0, 1, 2, 3, 4, 5, 6, 7, 8, 9, 10, 11, 12, 14, 29, 30, 31, 39, 60, 78, 86, 99, 100, 101, 102, 1000055, 4000118, 5000083, 8000074, 8000077] ?_
     conv => whnf
     replace b8 := grdS b8
     obtain ⟨g27, b8⟩ := b8
     replace g27 : (decide (0 < (((s8.map iC).length : Nat) : Int))) = true → (0 : Int) ≤ (IntKind.i64.wrap ((((s8.map iC).length : Nat) : Int) - 1)) ∧ (IntKind.i64.wrap ((((s8.map iC).length : Nat) : Int) - 1)) < (((s8.map iC).length : Nat) : Int) := by simpa only [se_len, se_ch, List.length_map] using g27
     repeat' first | exact rA _ | refine parkI ?_ | exact g27 | exact clA _ | (refine And.intro ?_ ?_ <;> conv => whnf) | exact clG _ | (refine gand ?_ h; assumption) | fail
     refine parkE (fun hg2_ => ?_) (fun hg2_ => ?_)
     ·replace b8 := condT (by first | exact hg2_ | simpa only [se_len, se_ch, List.length_map] using hg2_) b8
      conv => whnf
      replace b8 := bindS b8
      obtain ⟨v28, hv28, b8⟩ := b8
      have i29 : nth (s8.map iC) (0 + (((IntKind.i64.wrap ((((s8.map iC).length : Nat) : Int) - 1)) : Int).toNat)) = some [(I v28)] := by simpa only [se_map, se_len, se_ch, List.length_map, nth_eq, Nat.zero_add, List.getElem?_map] using gixNF (f := iC) hv28
      replace b8 := grdS b8
      obtain ⟨g30, b8⟩ := b8
      replace g30 : (decide (0 < (((s8.map iC).length : Nat) : Int))) = true → (0 : Int) ≤ v28 ∧ v28 < (((((y15.map EnC) ++ [[(I a1.Mac), (I a1.Port), (I a1.Seen), (LV.bool a1.Static)]])).length : Nat) : Int) := by simpa only [se_len, se_ch, List.length_map] using g30
      replace b8 := bindS b8
      obtain ⟨v31, hv31, b8⟩ := b8
      have i32 : nth (setN ((y15.map EnC) ++ [[(I a1.Mac), (I a1.Port), (I a1.Seen), (LV.bool a1.Static)]]) (0 + (((((y15.map EnC).length : Nat) : Int) : Int).toNat)) [(I a1.Mac), (I a1.Port), (I a1.Seen), (LV.bool a1.Static)]) (0 + ((v28 : Int).toNat)) = some [(I v31.Mac), (I v31.Port), (I v31.Seen), (LV.bool v31.Static)] := by simpa only [se_map, se_len, se_ch, List.length_map, nth_eq, Nat.zero_add, List.getElem?_map] using gixNF (f := EnC) hv31
      repeat' first | exact rA _ | ((with_reducible refine parkX hg2_ ?_); conv => whnf) | refine parkI ?_ | exact g30 | (rw [i29]; conv => whnf) | (first | (rw [i32]; conv => whnf) | (erw [i32]; conv => whnf)) | exact clA _ | (refine And.intro ?_ ?_ <;> conv => whnf) | exact clG _ | (refine gand ?_ h; assumption) | (intro hq_; conv => whnf) | fail
      refine parkE (fun hc => ?_) (fun hc => ?_)
      ·replace b8 := condT (by first | exact hc | (simpa only [se_len, se_ch, List.length_map] using hc; done) | (have h0 : (bif (decide (0 < (((s8.map iC).length : Nat) : Int))) then v31.Static else false) = true := hc; simpa only [se_len, se_ch, List.length_map] using h0)) b8
       conv => whnf
       replace b8 := grdS b8
       obtain ⟨g33, b8⟩ := b8
       replace g33 : (0 : Int) ≤ (IntKind.i64.wrap ((((s8.map iC).length : Nat) : Int) - 1)) ∧ (IntKind.i64.wrap ((((s8.map iC).length : Nat) : Int) - 1)) ≤ (((s8.map iC).length : Nat) : Int) := by simpa only [se_len, se_ch, List.length_map] using g33
       repeat' first | exact rA _ | ((with_reducible refine parkX hg2_ ?_); conv => whnf) | refine parkI ?_ | exact g33 | exact clA _ | (refine And.intro ?_ ?_ <;> conv => whnf) | exact clN _ | (intro hq_; conv => whnf) | fail
       have e := Option.some.inj b8
       refine LoopW.norm [(2, (LV.ptr 0 0 0)), (4, (LV.ptr 2 0 0)), (6, (I y11.1)), (8, (LV.sl 6 0 (((y15.map EnC) ++ [[(I a1.Mac), (I a1.Port), (I a1.Seen), (LV.bool a1.Static)]])).length)), (9, (LV.ro 1 (y22.1.map iC))), (11, (LV.sl 7 0 ((s8.take ((IntKind.i64.wrap (((s8.length : Nat) : Int) - 1)) : Int).toNat).map iC).length))] 8 [(0, (.row 24 3 [[(LV.ro 1 (a0.Buckets.map (roC 4 EnC))), (I a0.Slots), (I a0.Age)]])), (2, (.row 24 3 [[LV.nils, (I 0), (I 0)]])), (6, (.row 42 4 (setN ((y15.map EnC) ++ [[(I a1.Mac), (I a1.Port), (I a1.Seen), (LV.bool a1.Static)]]) (0 + (((((y15.map EnC).length : Nat) : Int) : Int).toNat)) [(I a1.Mac), (I a1.Port), (I a1.Seen), (LV.bool a1.Static)]))), (7, (.row 3 1 ((s8.take ((IntKind.i64.wrap (((s8.length : Nat) : Int) - 1)) : Int).toNat).map iC)))] ⟨rfl, rfl, rfl, rfl, rfl, (by exact congrArg (LV.sl 7 0) (clL _ : ((IntKind.i64.wrap ((((s8.map iC).length : Nat) : Int) - 1)) : Int).toNat = ((s8.take ((IntKind.i64.wrap (((s8.length : Nat) : Int) - 1)) : Int).toNat).map iC).length)), trivial⟩ ⟨⟨rfl, rfl, blT⟩, ⟨⟨rfl, rfl, blT⟩, ⟨⟨rfl, rfl, NLss_bel nlT⟩, ⟨⟨(by first | exact (congrArg (fun q => some (Blk.row 3 1 q)) (smT : (((s8.map iC).take ((IntKind.i64.wrap ((((s8.map iC).length : Nat) : Int) - 1)) : Int).toNat) : List (List LV)) = ((s8.take ((IntKind.i64.wrap (((s8.length : Nat) : Int) - 1)) : Int).toNat).map iC))) | exact Eq.trans (b := some (Blk.row 3 1 ((s8.map iC).take ((IntKind.i64.wrap ((((s8.map iC).length : Nat) : Int) - 1)) : Int).toNat))) rfl (congrArg (fun q => some (Blk.row 3 1 q)) (smT : (((s8.map iC).take ((IntKind.i64.wrap ((((s8.map iC).length : Nat) : Int) - 1)) : Int).toNat) : List (List LV)) = ((s8.take ((IntKind.i64.wrap (((s8.length : Nat) : Int) - 1)) : Int).toNat).map iC)))), rfl, NLss_bel (NLss_map' _)⟩, trivial⟩⟩⟩⟩ blT rfl (K8 _ e.symm)
      ·replace b8 := condF (by first | exact hc | (simpa only [se_len, se_ch, List.length_map] using hc; done) | (have h0 : (bif (decide (0 < (((s8.map iC).length : Nat) : Int))) then v31.Static else false) = false := hc; simpa only [se_len, se_ch, List.length_map] using h0)) b8
       conv => whnf
       have e := Option.some.inj b8
       replace e := hbrk8 _ e.symm
       rw [e] at r8
       dsimp only [aftM] at r8
       repeat' first | exact rA _ | ((with_reducible refine parkX hg2_ ?_); conv => whnf) | refine parkI ?_ | (refine And.intro ?_ ?_ <;> conv => whnf) | fail
       refine parkE (fun hc => ?_) (fun hc => ?_)
       ·replace r8 := condT (by first | exact hc | (simpa only [se_len, se_ch, List.length_map] using hc; done) | (have h0 : (decide ((((s8.map iC).length : Nat) : Int) = 0)) = true := hc; simpa only [se_len, se_ch, List.length_map] using h0)) r8
        conv => whnf
        have e := Option.some.inj r8
        subst e
        repeat' first | exact rA _ | ((with_reducible refine parkX hg2_ ?_); conv => whnf) | exact clA _ | (refine And.intro ?_ ?_ <;> conv => whnf) | exact clG _ | (refine gand ?_ h; assumption) | exact clN _ | fail
       ·replace r8 := condF (by first | exact hc | (simpa only [se_len, se_ch, List.length_map] using hc; done) | (have h0 : (decide ((((s8.map iC).length : Nat) : Int) = 0)) = false := hc; simpa only [se_len, se_ch, List.length_map] using h0)) r8
        conv => whnf
        replace r8 := grdS r8
        obtain ⟨g34, r8⟩ := r8
        replace g34 : (0 : Int) ≤ (IntKind.i64.wrap ((((s8.map iC).length : Nat) : Int) - 1)) ∧ (IntKind.i64.wrap ((((s8.map iC).length : Nat) : Int) - 1)) < (((s8.map iC).length : Nat) : Int) := by simpa only [se_len, se_ch, List.length_map] using g34
        replace r8 := bindS r8
        obtain ⟨v35, hv35, r8⟩ := r8
        have i36 : nth (s8.map iC) (0 + (((IntKind.i64.wrap ((((s8.map iC).length : Nat) : Int) - 1)) : Int).toNat)) = some [(I v35)] := by simpa only [se_map, se_len, se_ch, List.length_map, nth_eq, Nat.zero_add, List.getElem?_map] using gixNF (f := iC) hv35
        replace r8 := bindS r8
        obtain ⟨y37, hy37, r8⟩ := r8
        have c38 := c_lru_Drop y22.1 v35 _ hy37
        repeat' first | exact rA _ | ((with_reducible refine parkX hg2_ ?_); conv => whnf) | refine parkI ?_ | exact g34 | (refine CallP.use c38 ?_; conv => whnf) | (rw [i36]; conv => whnf) | (refine And.intro ?_ ?_ <;> conv => whnf) | fail
        replace r8 := aftS r8
        obtain ⟨O9, hO9, r9⟩ := r8
        refine LoopW.virt 12 42 4 rfl ?_
        refine LoopW.norm [(2, (LV.ptr 0 0 0)), (4, (LV.ptr 2 0 0)), (6, (I y11.1)), (8, (LV.sl 6 0 (((y15.map EnC) ++ [[(I a1.Mac), (I a1.Port), (I a1.Seen), (LV.bool a1.Static)]])).length)), (12, (LV.sl 8 0 (([] : (List En)).map EnC).length)), (99, (LV.ro 1 (y37.1.map iC))), (100, (I (((y37.1.map iC).length : Nat) : Int))), (101, (I ((0 : Nat) : Int)))] 9 [(0, (.row 24 3 [[(LV.ro 1 (a0.Buckets.map (roC 4 EnC))), (I a0.Slots), (I a0.Age)]])), (2, (.row 24 3 [[LV.nils, (I 0), (I 0)]])), (6, (.row 42 4 (setN ((y15.map EnC) ++ [[(I a1.Mac), (I a1.Port), (I a1.Seen), (LV.bool a1.Static)]]) (0 + (((((y15.map EnC).length : Nat) : Int) : Int).toNat)) [(I a1.Mac), (I a1.Port), (I a1.Seen), (LV.bool a1.Static)]))), (8, (.row 42 4 (([] : (List En)).map EnC)))] ⟨rfl, rfl, rfl, rfl, (by exact congrArg (LV.sl 8 0) (clL _ : 0 = (([] : (List En)).map EnC).length)), rfl, rfl, rfl, trivial⟩ ⟨⟨rfl, rfl, blT⟩, ⟨⟨rfl, rfl, blT⟩, ⟨⟨rfl, rfl, NLss_bel nlT⟩, ⟨⟨(congrArg (fun q => some (Blk.row 42 4 q)) (smT : ([] : List (List LV)) = (([] : (List En)).map EnC))), rfl, NLss_bel (NLss_map' _)⟩, trivial⟩⟩⟩⟩ blT rfl ?_
        refine LoopW.forR (fun k9 s9 => [(2, (LV.ptr 0 0 0)), (4, (LV.ptr 2 0 0)), (6, (I y11.1)), (8, (LV.sl 6 0 (((y15.map EnC) ++ [[(I a1.Mac), (I a1.Port), (I a1.Seen), (LV.bool a1.Static)]])).length)), (12, (LV.sl 8 0 (s9.map EnC).length)), (99, (LV.ro 1 (y37.1.map iC))), (100, (I (((y37.1.map iC).length : Nat) : Int))), (101, (I ((k9 : Nat) : Int)))]) (fun s9 => ⟨9, [(0, (.row 24 3 [[(LV.ro 1 (a0.Buckets.map (roC 4 EnC))), (I a0.Slots), (I a0.Age)]])), (2, (.row 24 3 [[LV.nils, (I 0), (I 0)]])), (6, (.row 42 4 (setN ((y15.map EnC) ++ [[(I a1.Mac), (I a1.Port), (I a1.Seen), (LV.bool a1.Static)]]) (0 + (((((y15.map EnC).length : Nat) : Int) : Int).toNat)) [(I a1.Mac), (I a1.Port), (I a1.Seen), (LV.bool a1.Static)]))), (8, (.row 42 4 (s9.map EnC)))]⟩) hO9 (fun hl9 s9 hs9 => ?_) (fun hl9 k9 x9 s9 o9 hk9 hx9 b9 K9 hret9 hbrk9 => ?_)
        ·rw [hs9] at r9
         dsimp only [aftM] at r9
         have hd : decide (((y37.1.length : Nat) : Int) < (((y37.1.map iC).length : Nat) : Int)) = false := by rw [decide_eq_false_iff_not]; (try simp only [se_len, se_ch, List.length_map]); omega
         refine LoopW.round TT_ok [0, 1, 2, 3, 4, 5, 6, 7, 8, 9, 10, 11, 12, 14, 29, 30, 31, 39, 60, 78, 86, 99, 100, 101, 102, 1000055, 4000118, 5000083, 8000074, 8000077] ?_
         conv => whnf
         repeat' first | exact rA _ | refine parkI ?_ | (refine And.intro ?_ ?_ <;> conv => whnf) | fail
         refine parkE (fun hc => ?_) (fun hc => ?_)
         ·exact (Bool.false_ne_true (hd.symm.trans hc)).elim
         ·clear hd
          conv => whnf
          replace r9 := bindS r9
          obtain ⟨y43, hy43, r9⟩ := r9
          have c44 : CallW Tryz.prog 55 [(LV.agg [(LV.ro 1 (a0.Buckets.map (roC 4 EnC))), (I a0.Slots), (I a0.Age)])] ⟨0, []⟩ (fun lv H' => lv = (LV.agg [(LV.sl 0 0 (y43.Buckets.map (roC 4 EnC)).length), (I y43.Slots), (I y43.Age)]) ∧ H' = ⟨1, [(0, (.row 39 1 (y43.Buckets.map (roC 4 EnC))))]⟩) := w_fdb_own_x a0 _ hy43
          replace r9 := grdS r9
          obtain ⟨g45, r9⟩ := r9
          replace g45 : (0 : Int) ≤ y11.1 ∧ y11.1 < (((y43.Buckets.map (roC 4 EnC)).length : Nat) : Int) := by simpa only [se_len, se_ch, List.length_map] using g45
          replace r9 := bindS r9
          obtain ⟨v46, hv46, r9⟩ := r9
          have i47 : nth (y43.Buckets.map (roC 4 EnC)) (0 + ((y11.1 : Int).toNat)) = some [(LV.ro 4 (v46.map EnC))] := by simpa only [se_map, se_len, se_ch, List.length_map, nth_eq, Nat.zero_add, List.getElem?_map] using gixNF (f := (roC 4 EnC)) hv46
          have e := Option.some.inj r9
          subst e
          repeat' first | exact rA _ | exact g45 | (refine CallW.frame (nx2 := 10) (l2 := [(9, (.row 39 1 (y43.Buckets.map (roC 4 EnC))))]) [] [(0, 9)] c44 rfl rfl trivial rfl rfl ⟨⟨rfl, rfl, .inl ⟨rfl, nlT⟩⟩, rfl, rfl, trivial⟩ ?_; conv => whnf) | (rw [i47]; conv => whnf) | exact clA _ | (refine And.intro ?_ ?_ <;> conv => whnf) | exact clG _ | (refine gand ?_ h; assumption) | exact clN _ | fail
        ·unfold fdb_put_c2 at b9
         have hd : decide (((k9 : Nat) : Int) < (((y37.1.map iC).length : Nat) : Int)) = true := by rw [decide_eq_true_eq]; (try simp only [se_len, se_ch, List.length_map] at hk9); (try simp only [se_len, se_ch, List.length_map]); omega
         refine LoopW.round TT_ok [0, 1, 2, 3, 4, 5, 6, 7, 8, 9, 10, 11, 12, 14, 29, 30, 31, 39, 60, 78, 86, 99, 100, 101, 102, 1000055, 4000118, 5000083, 8000074, 8000077] ?_
         conv => whnf
         repeat' first | exact rA _ | refine parkI ?_ | (refine And.intro ?_ ?_ <;> conv => whnf) | fail
         refine parkE (fun hc => ?_) (fun hc => ?_)
         ·clear hd
          conv => whnf
          replace b9 := grdS b9
          obtain ⟨g39, b9⟩ := b9
          replace g39 : (0 : Int) ≤ x9 ∧ x9 < (((((y15.map EnC) ++ [[(I a1.Mac), (I a1.Port), (I a1.Seen), (LV.bool a1.Static)]])).length : Nat) : Int) := by simpa only [se_len, se_ch, List.length_map] using g39
          replace b9 := bindS b9
          obtain ⟨v40, hv40, b9⟩ := b9
          have i41 : nth (setN ((y15.map EnC) ++ [[(I a1.Mac), (I a1.Port), (I a1.Seen), (LV.bool a1.Static)]]) (0 + (((((y15.map EnC).length : Nat) : Int) : Int).toNat)) [(I a1.Mac), (I a1.Port), (I a1.Seen), (LV.bool a1.Static)]) (0 + ((x9 : Int).toNat)) = some [(I v40.Mac), (I v40.Port), (I v40.Seen), (LV.bool v40.Static)] := by simpa only [se_map, se_len, se_ch, List.length_map, nth_eq, Nat.zero_add, List.getElem?_map] using gixNF (f := EnC) hv40
          replace b9 := grdS b9
          obtain ⟨g42, b9⟩ := b9
          replace g42 : fits (((s9.map EnC) ++ [[(I v40.Mac), (I v40.Port), (I v40.Seen), (LV.bool v40.Static)]])).length 32 := by simpa only [se_len, se_ch, List.length_map] using g42
          repeat' first | exact rA _ | refine parkI ?_ | (refine ⟨_, (kixF (f := iC) hx9), ?_⟩; conv => whnf) | exact g39 | exact g42 | (first | (rw [i41]; conv => whnf) | (erw [i41]; conv => whnf)) | exact clA _ | (refine And.intro ?_ ?_ <;> conv => whnf) | exact clN _ | fail
          have e := Option.some.inj b9
          refine LoopW.ren [(0, 0), (2, 2), (6, 6), (10, 8)] [(2, (LV.ptr 0 0 0)), (4, (LV.ptr 2 0 0)), (6, (I y11.1)), (8, (LV.sl 6 0 (((y15.map EnC) ++ [[(I a1.Mac), (I a1.Port), (I a1.Seen), (LV.bool a1.Static)]])).length)), (12, (LV.sl 8 0 ((s9 ++ ([v40] : (List En))).map EnC).length)), (99, (LV.ro 1 (y37.1.map iC))), (100, (I (((y37.1.map iC).length : Nat) : Int))), (101, (I ((k9 + 1 : Nat) : Int)))] 9 [(0, (.row 24 3 [[(LV.ro 1 (a0.Buckets.map (roC 4 EnC))), (I a0.Slots), (I a0.Age)]])), (2, (.row 24 3 [[LV.nils, (I 0), (I 0)]])), (6, (.row 42 4 (setN ((y15.map EnC) ++ [[(I a1.Mac), (I a1.Port), (I a1.Seen), (LV.bool a1.Static)]]) (0 + (((((y15.map EnC).length : Nat) : Int) : Int).toNat)) [(I a1.Mac), (I a1.Port), (I a1.Seen), (LV.bool a1.Static)]))), (8, (.row 42 4 ((s9 ++ ([v40] : (List En))).map EnC)))] rfl ⟨rfl, rfl, rfl, rfl, (by exact congrArg (LV.sl 8 0) (clL _ : (((s9.map EnC) ++ [[(I v40.Mac), (I v40.Port), (I v40.Seen), (LV.bool v40.Static)]])).length = ((s9 ++ ([v40] : (List En))).map EnC).length)), rfl, rfl, (congrArg (LV.int .i64) (w64_nat _ (by omega))), trivial⟩ ⟨⟨rfl, rfl, .inl ⟨rfl, nlT⟩⟩, rfl, rfl, ⟨⟨rfl, rfl, .inl ⟨rfl, nlT⟩⟩, rfl, rfl, ⟨⟨rfl, rfl, .inl ⟨rfl, nlT⟩⟩, rfl, rfl, ⟨⟨rfl, rfl, .inl ⟨(smT : (((s9.map EnC) ++ [[(I v40.Mac), (I v40.Port), (I v40.Seen), (LV.bool v40.Static)]]) : List (List LV)) = ((s9 ++ ([v40] : (List En))).map EnC)), nlT⟩⟩, rfl, rfl, trivial⟩⟩⟩⟩ rfl (K9 _ e.symm)
         ·exact (Bool.false_ne_true (hc.symm.trans hd)).elim
     ·replace b8 := condF (by first | exact hg2_ | simpa only [se_len, se_ch, List.length_map] using hg2_) b8
      conv => whnf
      repeat' first | exact rA _ | refine parkI ?_ | exact (by first | exact hg2_ | simpa using hg2_ : _ = false) | (refine ⟨?_, True.intro⟩; first | exact hg2_ | (simpa using hg2_; done)) | exact clA _ | (refine And.intro ?_ ?_ <;> conv => whnf) | exact clG _ | (refine gand ?_ h; assumption) | (intro hq_; conv => whnf) | fail
      refine parkE (fun hc => ?_) (fun hc => ?_)
      ·exact (Bool.false_ne_true (((rfl : false = false)).symm.trans hc)).elim
      ·conv => whnf
       have e := Option.some.inj b8
       replace e := hbrk8 _ e.symm
       rw [e] at r8
       dsimp only [aftM] at r8
       repeat' first | exact rA _ | refine parkI ?_ | (refine And.intro ?_ ?_ <;> conv => whnf) | fail
       refine parkE (fun hc => ?_) (fun hc => ?_)
       ·replace r8 := condT (by first | exact hc | (simpa only [se_len, se_ch, List.length_map] using hc; done) | (have h0 : (decide ((((s8.map iC).length : Nat) : Int) = 0)) = true := hc; simpa only [se_len, se_ch, List.length_map] using h0)) r8
        conv => whnf
        have e := Option.some.inj r8
        subst e
        repeat' first | exact rA _ | exact clA _ | (refine And.intro ?_ ?_ <;> conv => whnf) | exact clG _ | (refine gand ?_ h; assumption) | exact clN _ | fail
       ·replace r8 := condF (by first | exact hc | (simpa only [se_len, se_ch, List.length_map] using hc; done) | (have h0 : (decide ((((s8.map iC).length : Nat) : Int) = 0)) = false := hc; simpa only [se_len, se_ch, List.length_map] using h0)) r8
        conv => whnf
        replace r8 := grdS r8
        obtain ⟨g28, r8⟩ := r8
        replace g28 : (0 : Int) ≤ (IntKind.i64.wrap ((((s8.map iC).length : Nat) : Int) - 1)) ∧ (IntKind.i64.wrap ((((s8.map iC).length : Nat) : Int) - 1)) < (((s8.map iC).length : Nat) : Int) := by simpa only [se_len, se_ch, List.length_map] using g28
        replace r8 := bindS r8
        obtain ⟨v29, hv29, r8⟩ := r8
        have i30 : nth (s8.map iC) (0 + (((IntKind.i64.wrap ((((s8.map iC).length : Nat) : Int) - 1)) : Int).toNat)) = some [(I v29)] := by simpa only [se_map, se_len, se_ch, List.length_map, nth_eq, Nat.zero_add, List.getElem?_map] using gixNF (f := iC) hv29
        replace r8 := bindS r8
        obtain ⟨y31, hy31, r8⟩ := r8
        have c32 := c_lru_Drop y22.1 v29 _ hy31
        repeat' first | exact rA _ | refine parkI ?_ | exact g28 | (refine CallP.use c32 ?_; conv => whnf) | (rw [i30]; conv => whnf) | (refine And.intro ?_ ?_ <;> conv => whnf) | fail
        replace r8 := aftS r8
        obtain ⟨O9, hO9, r9⟩ := r8
        refine LoopW.virt 12 42 4 rfl ?_
        refine LoopW.norm [(2, (LV.ptr 0 0 0)), (4, (LV.ptr 2 0 0)), (6, (I y11.1)), (8, (LV.sl 6 0 (((y15.map EnC) ++ [[(I a1.Mac), (I a1.Port), (I a1.Seen), (LV.bool a1.Static)]])).length)), (12, (LV.sl 8 0 (([] : (List En)).map EnC).length)), (99, (LV.ro 1 (y31.1.map iC))), (100, (I (((y31.1.map iC).length : Nat) : Int))), (101, (I ((0 : Nat) : Int)))] 9 [(0, (.row 24 3 [[(LV.ro 1 (a0.Buckets.map (roC 4 EnC))), (I a0.Slots), (I a0.Age)]])), (2, (.row 24 3 [[LV.nils, (I 0), (I 0)]])), (6, (.row 42 4 (setN ((y15.map EnC) ++ [[(I a1.Mac), (I a1.Port), (I a1.Seen), (LV.bool a1.Static)]]) (0 + (((((y15.map EnC).length : Nat) : Int) : Int).toNat)) [(I a1.Mac), (I a1.Port), (I a1.Seen), (LV.bool a1.Static)]))), (8, (.row 42 4 (([] : (List En)).map EnC)))] ⟨rfl, rfl, rfl, rfl, (by exact congrArg (LV.sl 8 0) (clL _ : 0 = (([] : (List En)).map EnC).length)), rfl, rfl, rfl, trivial⟩ ⟨⟨rfl, rfl, blT⟩, ⟨⟨rfl, rfl, blT⟩, ⟨⟨rfl, rfl, NLss_bel nlT⟩, ⟨⟨(congrArg (fun q => some (Blk.row 42 4 q)) (smT : ([] : List (List LV)) = (([] : (List En)).map EnC))), rfl, NLss_bel (NLss_map' _)⟩, trivial⟩⟩⟩⟩ blT rfl ?_
        refine LoopW.forR (fun k9 s9 => [(2, (LV.ptr 0 0 0)), (4, (LV.ptr 2 0 0)), (6, (I y11.1)), (8, (LV.sl 6 0 (((y15.map EnC) ++ [[(I a1.Mac), (I a1.Port), (I a1.Seen), (LV.bool a1.Static)]])).length)), (12, (LV.sl 8 0 (s9.map EnC).length)), (99, (LV.ro 1 (y31.1.map iC))), (100, (I (((y31.1.map iC).length : Nat) : Int))), (101, (I ((k9 : Nat) : Int)))]) (fun s9 => ⟨9, [(0, (.row 24 3 [[(LV.ro 1 (a0.Buckets.map (roC 4 EnC))), (I a0.Slots), (I a0.Age)]])), (2, (.row 24 3 [[LV.nils, (I 0), (I 0)]])), (6, (.row 42 4 (setN ((y15.map EnC) ++ [[(I a1.Mac), (I a1.Port), (I a1.Seen), (LV.bool a1.Static)]]) (0 + (((((y15.map EnC).length : Nat) : Int) : Int).toNat)) [(I a1.Mac), (I a1.Port), (I a1.Seen), (LV.bool a1.Static)]))), (8, (.row 42 4 (s9.map EnC)))]⟩) hO9 (fun hl9 s9 hs9 => ?_) (fun hl9 k9 x9 s9 o9 hk9 hx9 b9 K9 hret9 hbrk9 => ?_)
        ·rw [hs9] at r9
         dsimp only [aftM] at r9
         have hd : decide (((y31.1.length : Nat) : Int) < (((y31.1.map iC).length : Nat) : Int)) = false := by rw [decide_eq_false_iff_not]; (try simp only [se_len, se_ch, List.length_map]); omega
         refine LoopW.round TT_ok [0, 1, 2, 3, 4, 5, 6, 7, 8, 9, 10, 11, 12, 14, 29, 30, 31, 39, 60, 78, 86, 99, 100, 101, 102, 1000055, 4000118, 5000083, 8000074, 8000077] ?_
         conv => whnf
         repeat' first | exact rA _ | refine parkI ?_ | (refine And.intro ?_ ?_ <;> conv => whnf) | fail
         refine parkE (fun hc => ?_) (fun hc => ?_)
         ·exact (Bool.false_ne_true (hd.symm.trans hc)).elim
         ·clear hd
          conv => whnf
          replace r9 := bindS r9
          obtain ⟨y37, hy37, r9⟩ := r9
          have c38 : CallW Tryz.prog 55 [(LV.agg [(LV.ro 1 (a0.Buckets.map (roC 4 EnC))), (I a0.Slots), (I a0.Age)])] ⟨0, []⟩ (fun lv H' => lv = (LV.agg [(LV.sl 0 0 (y37.Buckets.map (roC 4 EnC)).length), (I y37.Slots), (I y37.Age)]) ∧ H' = ⟨1, [(0, (.row 39 1 (y37.Buckets.map (roC 4 EnC))))]⟩) := w_fdb_own_x a0 _ hy37
          replace r9 := grdS r9
          obtain ⟨g39, r9⟩ := r9
          replace g39 : (0 : Int) ≤ y11.1 ∧ y11.1 < (((y37.Buckets.map (roC 4 EnC)).length : Nat) : Int) := by simpa only [se_len, se_ch, List.length_map] using g39
          replace r9 := bindS r9
          obtain ⟨v40, hv40, r9⟩ := r9
          have i41 : nth (y37.Buckets.map (roC 4 EnC)) (0 + ((y11.1 : Int).toNat)) = some [(LV.ro 4 (v40.map EnC))] := by simpa only [se_map, se_len, se_ch, List.length_map, nth_eq, Nat.zero_add, List.getElem?_map] using gixNF (f := (roC 4 EnC)) hv40
          have e := Option.some.inj r9
          subst e
          repeat' first | exact rA _ | exact g39 | (refine CallW.frame (nx2 := 10) (l2 := [(9, (.row 39 1 (y37.Buckets.map (roC 4 EnC))))]) [] [(0, 9)] c38 rfl rfl trivial rfl rfl ⟨⟨rfl, rfl, .inl ⟨rfl, nlT⟩⟩, rfl, rfl, trivial⟩ ?_; conv => whnf) | (rw [i41]; conv => whnf) | exact clA _ | (refine And.intro ?_ ?_ <;> conv => whnf) | exact clG _ | (refine gand ?_ h; assumption) | exact clN _ | fail
        ·unfold fdb_put_c2 at b9
         have hd : decide (((k9 : Nat) : Int) < (((y31.1.map iC).length : Nat) : Int)) = true := by rw [decide_eq_true_eq]; (try simp only [se_len, se_ch, List.length_map] at hk9); (try simp only [se_len, se_ch, List.length_map]); omega
         refine LoopW.round TT_ok [0, 1, 2, 3, 4, 5, 6, 7, 8, 9, 10, 11, 12, 14, 29, 30, 31, 39, 60, 78, 86, 99, 100, 101, 102, 1000055, 4000118, 5000083, 8000074, 8000077] ?_
         conv => whnf
         repeat' first | exact rA _ | refine parkI ?_ | (refine And.intro ?_ ?_ <;> conv => whnf) | fail
         refine parkE (fun hc => ?_) (fun hc => ?_)
         ·clear hd
          conv => whnf
          replace b9 := grdS b9
          obtain ⟨g33, b9⟩ := b9
          replace g33 : (0 : Int) ≤ x9 ∧ x9 < (((((y15.map EnC) ++ [[(I a1.Mac), (I a1.Port), (I a1.Seen), (LV.bool a1.Static)]])).length : Nat) : Int) := by simpa only [se_len, se_ch, List.length_map] using g33
          replace b9 := bindS b9
          obtain ⟨v34, hv34, b9⟩ := b9
          have i35 : nth (setN ((y15.map EnC) ++ [[(I a1.Mac), (I a1.Port), (I a1.Seen), (LV.bool a1.Static)]]) (0 + (((((y15.map EnC).length : Nat) : Int) : Int).toNat)) [(I a1.Mac), (I a1.Port), (I a1.Seen), (LV.bool a1.Static)]) (0 + ((x9 : Int).toNat)) = some [(I v34.Mac), (I v34.Port), (I v34.Seen), (LV.bool v34.Static)] := by simpa only [se_map, se_len, se_ch, List.length_map, nth_eq, Nat.zero_add, List.getElem?_map] using gixNF (f := EnC) hv34
          replace b9 := grdS b9
          obtain ⟨g36, b9⟩ := b9
          replace g36 : fits (((s9.map EnC) ++ [[(I v34.Mac), (I v34.Port), (I v34.Seen), (LV.bool v34.Static)]])).length 32 := by simpa only [se_len, se_ch, List.length_map] using g36
          repeat' first | exact rA _ | refine parkI ?_ | (refine ⟨_, (kixF (f := iC) hx9), ?_⟩; conv => whnf) | exact g33 | exact g36 | (first | (rw [i35]; conv => whnf) | (erw [i35]; conv => whnf)) | exact clA _ | (refine And.intro ?_ ?_ <;> conv => whnf) | exact clN _ | fail
          have e := Option.some.inj b9
          refine LoopW.ren [(0, 0), (2, 2), (6, 6), (10, 8)] [(2, (LV.ptr 0 0 0)), (4, (LV.ptr 2 0 0)), (6, (I y11.1)), (8, (LV.sl 6 0 (((y15.map EnC) ++ [[(I a1.Mac), (I a1.Port), (I a1.Seen), (LV.bool a1.Static)]])).length)), (12, (LV.sl 8 0 ((s9 ++ ([v34] : (List En))).map EnC).length)), (99, (LV.ro 1 (y31.1.map iC))), (100, (I (((y31.1.map iC).length : Nat) : Int))), (101, (I ((k9 + 1 : Nat) : Int)))] 9 [(0, (.row 24 3 [[(LV.ro 1 (a0.Buckets.map (roC 4 EnC))), (I a0.Slots), (I a0.Age)]])), (2, (.row 24 3 [[LV.nils, (I 0), (I 0)]])), (6, (.row 42 4 (setN ((y15.map EnC) ++ [[(I a1.Mac), (I a1.Port), (I a1.Seen), (LV.bool a1.Static)]]) (0 + (((((y15.map EnC).length : Nat) : Int) : Int).toNat)) [(I a1.Mac), (I a1.Port), (I a1.Seen), (LV.bool a1.Static)]))), (8, (.row 42 4 ((s9 ++ ([v34] : (List En))).map EnC)))] rfl ⟨rfl, rfl, rfl, rfl, (by exact congrArg (LV.sl 8 0) (clL _ : (((s9.map EnC) ++ [[(I v34.Mac), (I v34.Port), (I v34.Seen), (LV.bool v34.Static)]])).length = ((s9 ++ ([v34] : (List En))).map EnC).length)), rfl, rfl, (congrArg (LV.int .i64) (w64_nat _ (by omega))), trivial⟩ ⟨⟨rfl, rfl, .inl ⟨rfl, nlT⟩⟩, rfl, rfl, ⟨⟨rfl, rfl, .inl ⟨rfl, nlT⟩⟩, rfl, rfl, ⟨⟨rfl, rfl, .inl ⟨rfl, nlT⟩⟩, rfl, rfl, ⟨⟨rfl, rfl, .inl ⟨(smT : (((s9.map EnC) ++ [[(I v34.Mac), (I v34.Port), (I v34.Seen), (LV.bool v34.Static)]]) : List (List LV)) = ((s9 ++ ([v34] : (List En))).map EnC)), nlT⟩⟩, rfl, rfl, trivial⟩⟩⟩⟩ rfl (K9 _ e.symm)
         ·exact (Bool.false_ne_true (hc.symm.trans hd)).elim
    ·replace r6 := condF (by first | exact hc | (simpa only [se_len, se_ch, List.length_map] using hc; done) | (have h0 : (decide (a0.Slots < (((y22.1.map iC).length : Nat) : Int))) = false := hc; simpa only [se_len, se_ch, List.length_map] using h0)) r6
     conv => whnf
     repeat' first | exact rA _ | refine parkI ?_ | (refine And.intro ?_ ?_ <;> conv => whnf) | fail
     replace r6 := aftS r6
     obtain ⟨O10, hO10, r10⟩ := r6
     refine LoopW.virt 12 42 4 rfl ?_
     refine LoopW.norm [(2, (LV.ptr 0 0 0)), (4, (LV.ptr 2 0 0)), (6, (I y11.1)), (8, (LV.sl 6 0 (((y15.map EnC) ++ [[(I a1.Mac), (I a1.Port), (I a1.Seen), (LV.bool a1.Static)]])).length)), (12, (LV.sl 7 0 (([] : (List En)).map EnC).length)), (99, (LV.ro 1 (y22.1.map iC))), (100, (I (((y22.1.map iC).length : Nat) : Int))), (101, (I ((0 : Nat) : Int)))] 8 [(0, (.row 24 3 [[(LV.ro 1 (a0.Buckets.map (roC 4 EnC))), (I a0.Slots), (I a0.Age)]])), (2, (.row 24 3 [[LV.nils, (I 0), (I 0)]])), (6, (.row 42 4 (setN ((y15.map EnC) ++ [[(I a1.Mac), (I a1.Port), (I a1.Seen), (LV.bool a1.Static)]]) (0 + (((((y15.map EnC).length : Nat) : Int) : Int).toNat)) [(I a1.Mac), (I a1.Port), (I a1.Seen), (LV.bool a1.Static)]))), (7, (.row 42 4 (([] : (List En)).map EnC)))] ⟨rfl, rfl, rfl, rfl, (by exact congrArg (LV.sl 7 0) (clL _ : 0 = (([] : (List En)).map EnC).length)), rfl, rfl, rfl, trivial⟩ ⟨⟨rfl, rfl, blT⟩, ⟨⟨rfl, rfl, blT⟩, ⟨⟨rfl, rfl, NLss_bel nlT⟩, ⟨⟨(congrArg (fun q => some (Blk.row 42 4 q)) (smT : ([] : List (List LV)) = (([] : (List En)).map EnC))), rfl, NLss_bel (NLss_map' _)⟩, trivial⟩⟩⟩⟩ blT rfl ?_
     refine LoopW.forR (fun k10 s10 => [(2, (LV.ptr 0 0 0)), (4, (LV.ptr 2 0 0)), (6, (I y11.1)), (8, (LV.sl 6 0 (((y15.map EnC) ++ [[(I a1.Mac), (I a1.Port), (I a1.Seen), (LV.bool a1.Static)]])).length)), (12, (LV.sl 7 0 (s10.map EnC).length)), (99, (LV.ro 1 (y22.1.map iC))), (100, (I (((y22.1.map iC).length : Nat) : Int))), (101, (I ((k10 : Nat) : Int)))]) (fun s10 => ⟨8, [(0, (.row 24 3 [[(LV.ro 1 (a0.Buckets.map (roC 4 EnC))), (I a0.Slots), (I a0.Age)]])), (2, (.row 24 3 [[LV.nils, (I 0), (I 0)]])), (6, (.row 42 4 (setN ((y15.map EnC) ++ [[(I a1.Mac), (I a1.Port), (I a1.Seen), (LV.bool a1.Static)]]) (0 + (((((y15.map EnC).length : Nat) : Int) : Int).toNat)) [(I a1.Mac), (I a1.Port), (I a1.Seen), (LV.bool a1.Static)]))), (7, (.row 42 4 (s10.map EnC)))]⟩) hO10 (fun hl10 s10 hs10 => ?_) (fun hl10 k10 x10 s10 o10 hk10 hx10 b10 K10 hret10 hbrk10 => ?_)
     ·rw [hs10] at r10
      dsimp only [aftM] at r10
      have hd : decide (((y22.1.length : Nat) : Int) < (((y22.1.map iC).length : Nat) : Int)) = false := by rw [decide_eq_false_iff_not]; (try simp only [se_len, se_ch, List.length_map]); omega
      refine LoopW.round TT_ok [0, 1, 2, 3, 4, 5, 6, 7, 8, 9, 10, 11, 12, 14, 29, 30, 31, 39, 60, 78, 86, 99, 100, 101, 102, 1000055, 4000118, 5000083, 8000074, 8000077] ?_
      conv => whnf
      repeat' first | exact rA _ | refine parkI ?_ | (refine And.intro ?_ ?_ <;> conv => whnf) | fail
      refine parkE (fun hc => ?_) (fun hc => ?_)
      ·exact (Bool.false_ne_true (hd.symm.trans hc)).elim
      ·clear hd
       conv => whnf
       replace r10 := bindS r10
       obtain ⟨y60, hy60, r10⟩ := r10
       have c61 : CallW Tryz.prog 55 [(LV.agg [(LV.ro 1 (a0.Buckets.map (roC 4 EnC))), (I a0.Slots), (I a0.Age)])] ⟨0, []⟩ (fun lv H' => lv = (LV.agg [(LV.sl 0 0 (y60.Buckets.map (roC 4 EnC)).length), (I y60.Slots), (I y60.Age)]) ∧ H' = ⟨1, [(0, (.row 39 1 (y60.Buckets.map (roC 4 EnC))))]⟩) := w_fdb_own_x a0 _ hy60
       replace r10 := grdS r10
       obtain ⟨g62, r10⟩ := r10
       replace g62 : (0 : Int) ≤ y11.1 ∧ y11.1 < (((y60.Buckets.map (roC 4 EnC)).length : Nat) : Int) := by simpa only [se_len, se_ch, List.length_map] using g62
       replace r10 := bindS r10
       obtain ⟨v63, hv63, r10⟩ := r10
       have i64 : nth (y60.Buckets.map (roC 4 EnC)) (0 + ((y11.1 : Int).toNat)) = some [(LV.ro 4 (v63.map EnC))] := by simpa only [se_map, se_len, se_ch, List.length_map, nth_eq, Nat.zero_add, List.getElem?_map] using gixNF (f := (roC 4 EnC)) hv63
       have e := Option.some.inj r10
       subst e
       repeat' first | exact rA _ | exact g62 | (refine CallW.frame (nx2 := 9) (l2 := [(8, (.row 39 1 (y60.Buckets.map (roC 4 EnC))))]) [] [(0, 8)] c61 rfl rfl trivial rfl rfl ⟨⟨rfl, rfl, .inl ⟨rfl, nlT⟩⟩, rfl, rfl, trivial⟩ ?_; conv => whnf) | (rw [i64]; conv => whnf) | exact clA _ | (refine And.intro ?_ ?_ <;> conv => whnf) | exact clG _ | (refine gand ?_ h; assumption) | exact clN _ | fail
     ·unfold fdb_put_c3 at b10
      have hd : decide (((k10 : Nat) : Int) < (((y22.1.map iC).length : Nat) : Int)) = true := by rw [decide_eq_true_eq]; (try simp only [se_len, se_ch, List.length_map] at hk10); (try simp only [se_len, se_ch, List.length_map]); omega
      refine LoopW.round TT_ok [0, 1, 2, 3, 4, 5, 6, 7, 8, 9, 10, 11, 12, 14, 29, 30, 31, 39, 60, 78, 86, 99, 100, 101, 102, 1000055, 4000118, 5000083, 8000074, 8000077] ?_
      conv => whnf
      repeat' first | exact rA _ | refine parkI ?_ | (refine And.intro ?_ ?_ <;> conv => whnf) | fail
      refine parkE (fun hc => ?_) (fun hc => ?_)
      ·clear hd
       conv => whnf
       replace b10 := grdS b10
       obtain ⟨g56, b10⟩ := b10
       replace g56 : (0 : Int) ≤ x10 ∧ x10 < (((((y15.map EnC) ++ [[(I a1.Mac), (I a1.Port), (I a1.Seen), (LV.bool a1.Static)]])).length : Nat) : Int) := by simpa only [se_len, se_ch, List.length_map] using g56
       replace b10 := bindS b10
       obtain ⟨v57, hv57, b10⟩ := b10
       have i58 : nth (setN ((y15.map EnC) ++ [[(I a1.Mac), (I a1.Port), (I a1.Seen), (LV.bool a1.Static)]]) (0 + (((((y15.map EnC).length : Nat) : Int) : Int).toNat)) [(I a1.Mac), (I a1.Port), (I a1.Seen), (LV.bool a1.Static)]) (0 + ((x10 : Int).toNat)) = some [(I v57.Mac), (I v57.Port), (I v57.Seen), (LV.bool v57.Static)] := by simpa only [se_map, se_len, se_ch, List.length_map, nth_eq, Nat.zero_add, List.getElem?_map] using gixNF (f := EnC) hv57
       replace b10 := grdS b10
       obtain ⟨g59, b10⟩ := b10
       replace g59 : fits (((s10.map EnC) ++ [[(I v57.Mac), (I v57.Port), (I v57.Seen), (LV.bool v57.Static)]])).length 32 := by simpa only [se_len, se_ch, List.length_map] using g59
       repeat' first | exact rA _ | refine parkI ?_ | (refine ⟨_, (kixF (f := iC) hx10), ?_⟩; conv => whnf) | exact g56 | exact g59 | (first | (rw [i58]; conv => whnf) | (erw [i58]; conv => whnf)) | exact clA _ | (refine And.intro ?_ ?_ <;> conv => whnf) | exact clN _ | fail
       have e := Option.some.inj b10
       refine LoopW.ren [(0, 0), (2, 2), (6, 6), (9, 7)] [(2, (LV.ptr 0 0 0)), (4, (LV.ptr 2 0 0)), (6, (I y11.1)), (8, (LV.sl 6 0 (((y15.map EnC) ++ [[(I a1.Mac), (I a1.Port), (I a1.Seen), (LV.bool a1.Static)]])).length)), (12, (LV.sl 7 0 ((s10 ++ ([v57] : (List En))).map EnC).length)), (99, (LV.ro 1 (y22.1.map iC))), (100, (I (((y22.1.map iC).length : Nat) : Int))), (101, (I ((k10 + 1 : Nat) : Int)))] 8 [(0, (.row 24 3 [[(LV.ro 1 (a0.Buckets.map (roC 4 EnC))), (I a0.Slots), (I a0.Age)]])), (2, (.row 24 3 [[LV.nils, (I 0), (I 0)]])), (6, (.row 42 4 (setN ((y15.map EnC) ++ [[(I a1.Mac), (I a1.Port), (I a1.Seen), (LV.bool a1.Static)]]) (0 + (((((y15.map EnC).length : Nat) : Int) : Int).toNat)) [(I a1.Mac), (I a1.Port), (I a1.Seen), (LV.bool a1.Static)]))), (7, (.row 42 4 ((s10 ++ ([v57] : (List En))).map EnC)))] rfl ⟨rfl, rfl, rfl, rfl, (by exact congrArg (LV.sl 7 0) (clL _ : (((s10.map EnC) ++ [[(I v57.Mac), (I v57.Port), (I v57.Seen), (LV.bool v57.Static)]])).length = ((s10 ++ ([v57] : (List En))).map EnC).length)), rfl, rfl, (congrArg (LV.int .i64) (w64_nat _ (by omega))), trivial⟩ ⟨⟨rfl, rfl, .inl ⟨rfl, nlT⟩⟩, rfl, rfl, ⟨⟨rfl, rfl, .inl ⟨rfl, nlT⟩⟩, rfl, rfl, ⟨⟨rfl, rfl, .inl ⟨rfl, nlT⟩⟩, rfl, rfl, ⟨⟨rfl, rfl, .inl ⟨(smT : (((s10.map EnC) ++ [[(I v57.Mac), (I v57.Port), (I v57.Seen), (LV.bool v57.Static)]]) : List (List LV)) = ((s10 ++ ([v57] : (List En))).map EnC)), nlT⟩⟩, rfl, rfl, trivial⟩⟩⟩⟩ rfl (K10 _ e.symm)
      ·exact (Bool.false_ne_true (hc.symm.trans hd)).elim
   ·replace r6 := condF hc r6
    conv => whnf
    replace r6 := grdS r6
    obtain ⟨g65, r6⟩ := r6
    replace g65 : (0 : Int) ≤ y11.2 ∧ y11.2 < (((y15.map EnC).length : Nat) : Int) := by simpa only [se_len, se_ch, List.length_map] using g65
    replace r6 := bindS r6
    obtain ⟨v66, hv66, r6⟩ := r6
    have i67 : nth (y15.map EnC) (0 + ((y11.2 : Int).toNat)) = some [(I v66.Mac), (I v66.Port), (I v66.Seen), (LV.bool v66.Static)] := by simpa only [se_map, se_len, se_ch, List.length_map, nth_eq, Nat.zero_add, List.getElem?_map] using gixNF (f := EnC) hv66
    replace r6 := bindS r6
    obtain ⟨y68, hy68, r6⟩ := r6
    have c69 := c_lru_Use s6 y11.2 _ hy68
    repeat' first | exact rA _ | refine parkI ?_ | exact g65 | (refine CallP.use c69 ?_; conv => whnf) | (rw [i67]; conv => whnf) | exact clA _ | (refine And.intro ?_ ?_ <;> conv => whnf) | exact clN _ | fail
    refine parkE (fun hc => ?_) (fun hc => ?_)
    ·replace r6 := condT (by first | exact hc | (simpa only [se_len, se_ch, List.length_map] using hc; done) | (have h0 : (decide (a0.Slots < (((y68.1.map iC).length : Nat) : Int))) = true := hc; simpa only [se_len, se_ch, List.length_map] using h0)) r6
     conv => whnf
     replace r6 := grdS r6
     obtain ⟨g70, r6⟩ := r6
     replace g70 : (0 : Int) ≤ 1 ∧ 1 ≤ (((y68.1.map iC).length : Nat) : Int) := by simpa only [se_len, se_ch, List.length_map] using g70
     replace r6 := bindS r6
     obtain ⟨y71, hy71, r6⟩ := r6
     have c72 : CallF Tryz.prog 53 [(LV.ro 1 ((y68.1.map iC).drop (1 : Int).toNat))] 3 1 (y71.map iC) := by first | exact cf_slices_Clone_int (y68.1.drop (1 : Int).toNat) _ hy71 | (simpa only [se_map, se_byL, se_len, se_ch, List.length_map] using cf_slices_Clone_int (y68.1.drop (1 : Int).toNat) _ hy71)
     repeat' first | exact rA _ | refine parkI ?_ | exact g70 | (refine CallW.done (CallF.at c72 nlA (NLss_map' _)) ?_; conv => whnf) | (refine ⟨_, _, CallF.at c72 nlA (NLss_map' _), ?_⟩; conv => whnf) | (refine And.intro ?_ ?_ <;> conv => whnf) | fail
     replace r6 := aftS r6
     obtain ⟨O13, hO13, r13⟩ := r6
     refine LoopW.norm [(2, (LV.ptr 0 0 0)), (4, (LV.ptr 2 0 0)), (6, (I y11.1)), (8, (LV.sl 3 0 (y15.map EnC).length)), (9, (LV.ro 1 (y68.1.map iC))), (11, (LV.sl 5 0 (y71.map iC).length))] 6 [(0, (.row 24 3 [[(LV.ro 1 (a0.Buckets.map (roC 4 EnC))), (I a0.Slots), (I a0.Age)]])), (2, (.row 24 3 [[LV.nils, (I 0), (I 0)]])), (3, (.row 42 4 (setN (y15.map EnC) (0 + ((y11.2 : Int).toNat)) [(I a1.Mac), (I a1.Port), (I a1.Seen), (LV.bool a1.Static)]))), (5, (.row 3 1 (y71.map iC)))] ⟨rfl, rfl, rfl, rfl, rfl, rfl, trivial⟩ ⟨⟨rfl, rfl, blT⟩, ⟨⟨rfl, rfl, blT⟩, ⟨⟨rfl, rfl, NLss_bel nlT⟩, ⟨⟨rfl, rfl, NLss_bel (NLss_map' _)⟩, trivial⟩⟩⟩⟩ blT rfl ?_
     refine LoopW.forF (fun s13 => [(2, (LV.ptr 0 0 0)), (4, (LV.ptr 2 0 0)), (6, (I y11.1)), (8, (LV.sl 3 0 (y15.map EnC).length)), (9, (LV.ro 1 (y68.1.map iC))), (11, (LV.sl 5 0 (s13.map iC).length))]) (fun s13 => ⟨6, [(0, (.row 24 3 [[(LV.ro 1 (a0.Buckets.map (roC 4 EnC))), (I a0.Slots), (I a0.Age)]])), (2, (.row 24 3 [[LV.nils, (I 0), (I 0)]])), (3, (.row 42 4 (setN (y15.map EnC) (0 + ((y11.2 : Int).toNat)) [(I a1.Mac), (I a1.Port), (I a1.Seen), (LV.bool a1.Static)]))), (5, (.row 3 1 (s13.map iC)))]⟩) hO13 (fun s13 o13 b13 K13 hret13 hbrk13 => ?_)
     unfold fdb_put_c4 at b13
     refine LoopW.round TT_ok [0, 1, 2, 3, 4, 5, 6, 7, 8, 9, 10, 11, 12, 14, 29, 30, 31, 39, 60, 78, 86, 99, 100, 101, 102, 1000055, 4000118, 5000083, 8000074, 8000077] ?_
     conv => whnf
     replace b13 := grdS b13
     obtain ⟨g73, b13⟩ := b13
     replace g73 : (decide (0 < (((s13.map iC).length : Nat) : Int))) = true → (0 : Int) ≤ (IntKind.i64.wrap ((((s13.map iC).length : Nat) : Int) - 1)) ∧ (IntKind.i64.wrap ((((s13.map iC).length : Nat) : Int) - 1)) < (((s13.map iC).length : Nat) : Int) := by simpa only [se_len, se_ch, List.length_map] using g73
     repeat' first | exact rA _ | refine parkI ?_ | exact g73 | exact clA _ | (refine And.intro ?_ ?_ <;> conv => whnf) | exact clG _ | (refine gand ?_ h; assumption) | fail
     refine parkE (fun hg4_ => ?_) (fun hg4_ => ?_)
     ·replace b13 := condT (by first | exact hg4_ | simpa only [se_len, se_ch, List.length_map] using hg4_) b13
      conv => whnf
      replace b13 := bindS b13
      obtain ⟨v74, hv74, b13⟩ := b13
      have i75 : nth (s13.map iC) (0 + (((IntKind.i64.wrap ((((s13.map iC).length : Nat) : Int) - 1)) : Int).toNat)) = some [(I v74)] := by simpa only [se_map, se_len, se_ch, List.length_map, nth_eq, Nat.zero_add, List.getElem?_map] using gixNF (f := iC) hv74
      replace b13 := grdS b13
      obtain ⟨g76, b13⟩ := b13
      replace g76 : (decide (0 < (((s13.map iC).length : Nat) : Int))) = true → (0 : Int) ≤ v74 ∧ v74 < (((y15.map EnC).length : Nat) : Int) := by simpa only [se_len, se_ch, List.length_map] using g76
      replace b13 := bindS b13
      obtain ⟨v77, hv77, b13⟩ := b13
      have i78 : nth (setN (y15.map EnC) (0 + ((y11.2 : Int).toNat)) [(I a1.Mac), (I a1.Port), (I a1.Seen), (LV.bool a1.Static)]) (0 + ((v74 : Int).toNat)) = some [(I v77.Mac), (I v77.Port), (I v77.Seen), (LV.bool v77.Static)] := by simpa only [se_map, se_len, se_ch, List.length_map, nth_eq, Nat.zero_add, List.getElem?_map] using gixNF (f := EnC) hv77
      repeat' first | exact rA _ | ((with_reducible refine parkX hg4_ ?_); conv => whnf) | refine parkI ?_ | exact g76 | (rw [i75]; conv => whnf) | (first | (rw [i78]; conv => whnf) | (erw [i78]; conv => whnf)) | exact clA _ | (refine And.intro ?_ ?_ <;> conv => whnf) | exact clG _ | (refine gand ?_ h; assumption) | (intro hq_; conv => whnf) | fail
      refine parkE (fun hc => ?_) (fun hc => ?_)
      ·replace b13 := condT (by first | exact hc | (simpa only [se_len, se_ch, List.length_map] using hc; done) | (have h0 : (bif (decide (0 < (((s13.map iC).length : Nat) : Int))) then v77.Static else false) = true := hc; simpa only [se_len, se_ch, List.length_map] using h0)) b13
       conv => whnf
       replace b13 := grdS b13
       obtain ⟨g79, b13⟩ := b13
       replace g79 : (0 : Int) ≤ (IntKind.i64.wrap ((((s13.map iC).length : Nat) : Int) - 1)) ∧ (IntKind.i64.wrap ((((s13.map iC).length : Nat) : Int) - 1)) ≤ (((s13.map iC).length : Nat) : Int) := by simpa only [se_len, se_ch, List.length_map] using g79
       repeat' first | exact rA _ | ((with_reducible refine parkX hg4_ ?_); conv => whnf) | refine parkI ?_ | exact g79 | exact clA _ | (refine And.intro ?_ ?_ <;> conv => whnf) | exact clN _ | (intro hq_; conv => whnf) | fail
       have e := Option.some.inj b13
       refine LoopW.norm [(2, (LV.ptr 0 0 0)), (4, (LV.ptr 2 0 0)), (6, (I y11.1)), (8, (LV.sl 3 0 (y15.map EnC).length)), (9, (LV.ro 1 (y68.1.map iC))), (11, (LV.sl 5 0 ((s13.take ((IntKind.i64.wrap (((s13.length : Nat) : Int) - 1)) : Int).toNat).map iC).length))] 6 [(0, (.row 24 3 [[(LV.ro 1 (a0.Buckets.map (roC 4 EnC))), (I a0.Slots), (I a0.Age)]])), (2, (.row 24 3 [[LV.nils, (I 0), (I 0)]])), (3, (.row 42 4 (setN (y15.map EnC) (0 + ((y11.2 : Int).toNat)) [(I a1.Mac), (I a1.Port), (I a1.Seen), (LV.bool a1.Static)]))), (5, (.row 3 1 ((s13.take ((IntKind.i64.wrap (((s13.length : Nat) : Int) - 1)) : Int).toNat).map iC)))] ⟨rfl, rfl, rfl, rfl, rfl, (by exact congrArg (LV.sl 5 0) (clL _ : ((IntKind.i64.wrap ((((s13.map iC).length : Nat) : Int) - 1)) : Int).toNat = ((s13.take ((IntKind.i64.wrap (((s13.length : Nat) : Int) - 1)) : Int).toNat).map iC).length)), trivial⟩ ⟨⟨rfl, rfl, blT⟩, ⟨⟨rfl, rfl, blT⟩, ⟨⟨rfl, rfl, NLss_bel nlT⟩, ⟨⟨(by first | exact (congrArg (fun q => some (Blk.row 3 1 q)) (smT : (((s13.map iC).take ((IntKind.i64.wrap ((((s13.map iC).length : Nat) : Int) - 1)) : Int).toNat) : List (List LV)) = ((s13.take ((IntKind.i64.wrap (((s13.length : Nat) : Int) - 1)) : Int).toNat).map iC))) | exact Eq.trans (b := some (Blk.row 3 1 ((s13.map iC).take ((IntKind.i64.wrap ((((s13.map iC).length : Nat) : Int) - 1)) : Int).toNat))) rfl (congrArg (fun q => some (Blk.row 3 1 q)) (smT : (((s13.map iC).take ((IntKind.i64.wrap ((((s13.map iC).length : Nat) : Int) - 1)) : Int).toNat) : List (List LV)) = ((s13.take ((IntKind.i64.wrap (((s13.length : Nat) : Int) - 1)) : Int).toNat).map iC)))), rfl, NLss_bel (NLss_map' _)⟩, trivial⟩⟩⟩⟩ blT rfl (K13 _ e.symm)
      ·replace b13 := condF (by first | exact hc | (simpa only [se_len, se_ch, List.length_map] using hc; done) | (have h0 : (bif (decide (0 < (((s13.map iC).length : Nat) : Int))) then v77.Static else false) = false := hc; simpa only [se_len, se_ch, List.length_map] using h0)) b13
       conv => whnf
       have e := Option.some.inj b13
       replace e := hbrk13 _ e.symm
       rw [e] at r13
       dsimp only [aftM] at r13
       repeat' first | exact rA _ | ((with_reducible refine parkX hg4_ ?_); conv => whnf) | refine parkI ?_ | (refine And.intro ?_ ?_ <;> conv => whnf) | fail
       refine parkE (fun hc => ?_) (fun hc => ?_)
       ·replace r13 := condT (by first | exact hc | (simpa only [se_len, se_ch, List.length_map] using hc; done) | (have h0 : (decide ((((s13.map iC).length : Nat) : Int) = 0)) = true := hc; simpa only [se_len, se_ch, List.length_map] using h0)) r13
        conv => whnf
        have e := Option.some.inj r13
        subst e
        repeat' first | exact rA _ | ((with_reducible refine parkX hg4_ ?_); conv => whnf) | exact clA _ | (refine And.intro ?_ ?_ <;> conv => whnf) | exact clG _ | (refine gand ?_ h; assumption) | exact clN _ | fail
       ·replace r13 := condF (by first | exact hc | (simpa only [se_len, se_ch, List.length_map] using hc; done) | (have h0 : (decide ((((s13.map iC).length : Nat) : Int) = 0)) = false := hc; simpa only [se_len, se_ch, List.length_map] using h0)) r13
        conv => whnf
        replace r13 := grdS r13
        obtain ⟨g80, r13⟩ := r13
        replace g80 : (0 : Int) ≤ (IntKind.i64.wrap ((((s13.map iC).length : Nat) : Int) - 1)) ∧ (IntKind.i64.wrap ((((s13.map iC).length : Nat) : Int) - 1)) < (((s13.map iC).length : Nat) : Int) := by simpa only [se_len, se_ch, List.length_map] using g80
        replace r13 := bindS r13
        obtain ⟨v81, hv81, r13⟩ := r13
        have i82 : nth (s13.map iC) (0 + (((IntKind.i64.wrap ((((s13.map iC).length : Nat) : Int) - 1)) : Int).toNat)) = some [(I v81)] := by simpa only [se_map, se_len, se_ch, List.length_map, nth_eq, Nat.zero_add, List.getElem?_map] using gixNF (f := iC) hv81
        replace r13 := bindS r13
        obtain ⟨y83, hy83, r13⟩ := r13
        have c84 := c_lru_Drop y68.1 v81 _ hy83
        repeat' first | exact rA _ | ((with_reducible refine parkX hg4_ ?_); conv => whnf) | refine parkI ?_ | exact g80 | (refine CallP.use c84 ?_; conv => whnf) | (rw [i82]; conv => whnf) | (refine And.intro ?_ ?_ <;> conv => whnf) | fail
        replace r13 := aftS r13
        obtain ⟨O10, hO10, r10⟩ := r13
        refine LoopW.virt 12 42 4 rfl ?_
        refine LoopW.norm [(2, (LV.ptr 0 0 0)), (4, (LV.ptr 2 0 0)), (6, (I y11.1)), (8, (LV.sl 3 0 (y15.map EnC).length)), (12, (LV.sl 6 0 (([] : (List En)).map EnC).length)), (99, (LV.ro 1 (y83.1.map iC))), (100, (I (((y83.1.map iC).length : Nat) : Int))), (101, (I ((0 : Nat) : Int)))] 7 [(0, (.row 24 3 [[(LV.ro 1 (a0.Buckets.map (roC 4 EnC))), (I a0.Slots), (I a0.Age)]])), (2, (.row 24 3 [[LV.nils, (I 0), (I 0)]])), (3, (.row 42 4 (setN (y15.map EnC) (0 + ((y11.2 : Int).toNat)) [(I a1.Mac), (I a1.Port), (I a1.Seen), (LV.bool a1.Static)]))), (6, (.row 42 4 (([] : (List En)).map EnC)))] ⟨rfl, rfl, rfl, rfl, (by exact congrArg (LV.sl 6 0) (clL _ : 0 = (([] : (List En)).map EnC).length)), rfl, rfl, rfl, trivial⟩ ⟨⟨rfl, rfl, blT⟩, ⟨⟨rfl, rfl, blT⟩, ⟨⟨rfl, rfl, NLss_bel nlT⟩, ⟨⟨(congrArg (fun q => some (Blk.row 42 4 q)) (smT : ([] : List (List LV)) = (([] : (List En)).map EnC))), rfl, NLss_bel (NLss_map' _)⟩, trivial⟩⟩⟩⟩ blT rfl ?_
        refine LoopW.forR (fun k10 s10 => [(2, (LV.ptr 0 0 0)), (4, (LV.ptr 2 0 0)), (6, (I y11.1)), (8, (LV.sl 3 0 (y15.map EnC).length)), (12, (LV.sl 6 0 (s10.map EnC).length)), (99, (LV.ro 1 (y83.1.map iC))), (100, (I (((y83.1.map iC).length : Nat) : Int))), (101, (I ((k10 : Nat) : Int)))]) (fun s10 => ⟨7, [(0, (.row 24 3 [[(LV.ro 1 (a0.Buckets.map (roC 4 EnC))), (I a0.Slots), (I a0.Age)]])), (2, (.row 24 3 [[LV.nils, (I 0), (I 0)]])), (3, (.row 42 4 (setN (y15.map EnC) (0 + ((y11.2 : Int).toNat)) [(I a1.Mac), (I a1.Port), (I a1.Seen), (LV.bool a1.Static)]))), (6, (.row 42 4 (s10.map EnC)))]⟩) hO10 (fun hl10 s10 hs10 => ?_) (fun hl10 k10 x10 s10 o10 hk10 hx10 b10 K10 hret10 hbrk10 => ?_)
        ·rw [hs10] at r10
         dsimp only [aftM] at r10
         have hd : decide (((y83.1.length : Nat) : Int) < (((y83.1.map iC).length : Nat) : Int)) = false := by rw [decide_eq_false_iff_not]; (try simp only [se_len, se_ch, List.length_map]); omega
         refine LoopW.round TT_ok [0, 1, 2, 3, 4, 5, 6, 7, 8, 9, 10, 11, 12, 14, 29, 30, 31, 39, 60, 78, 86, 99, 100, 101, 102, 1000055, 4000118, 5000083, 8000074, 8000077] ?_
         conv => whnf
         repeat' first | exact rA _ | refine parkI ?_ | (refine And.intro ?_ ?_ <;> conv => whnf) | fail
         refine parkE (fun hc => ?_) (fun hc => ?_)
         ·exact (Bool.false_ne_true (hd.symm.trans hc)).elim
         ·clear hd
          conv => whnf
          replace r10 := bindS r10
          obtain ⟨y89, hy89, r10⟩ := r10
          have c90 : CallW Tryz.prog 55 [(LV.agg [(LV.ro 1 (a0.Buckets.map (roC 4 EnC))), (I a0.Slots), (I a0.Age)])] ⟨0, []⟩ (fun lv H' => lv = (LV.agg [(LV.sl 0 0 (y89.Buckets.map (roC 4 EnC)).length), (I y89.Slots), (I y89.Age)]) ∧ H' = ⟨1, [(0, (.row 39 1 (y89.Buckets.map (roC 4 EnC))))]⟩) := w_fdb_own_x a0 _ hy89
          replace r10 := grdS r10
          obtain ⟨g91, r10⟩ := r10
          replace g91 : (0 : Int) ≤ y11.1 ∧ y11.1 < (((y89.Buckets.map (roC 4 EnC)).length : Nat) : Int) := by simpa only [se_len, se_ch, List.length_map] using g91
          replace r10 := bindS r10
          obtain ⟨v92, hv92, r10⟩ := r10
          have i93 : nth (y89.Buckets.map (roC 4 EnC)) (0 + ((y11.1 : Int).toNat)) = some [(LV.ro 4 (v92.map EnC))] := by simpa only [se_map, se_len, se_ch, List.length_map, nth_eq, Nat.zero_add, List.getElem?_map] using gixNF (f := (roC 4 EnC)) hv92
          have e := Option.some.inj r10
          subst e
          repeat' first | exact rA _ | exact g91 | (refine CallW.frame (nx2 := 8) (l2 := [(7, (.row 39 1 (y89.Buckets.map (roC 4 EnC))))]) [] [(0, 7)] c90 rfl rfl trivial rfl rfl ⟨⟨rfl, rfl, .inl ⟨rfl, nlT⟩⟩, rfl, rfl, trivial⟩ ?_; conv => whnf) | (rw [i93]; conv => whnf) | exact clA _ | (refine And.intro ?_ ?_ <;> conv => whnf) | exact clG _ | (refine gand ?_ h; assumption) | exact clN _ | fail
        ·unfold fdb_put_c3 at b10
         have hd : decide (((k10 : Nat) : Int) < (((y83.1.map iC).length : Nat) : Int)) = true := by rw [decide_eq_true_eq]; (try simp only [se_len, se_ch, List.length_map] at hk10); (try simp only [se_len, se_ch, List.length_map]); omega
         refine LoopW.round TT_ok [0, 1, 2, 3, 4, 5, 6, 7, 8, 9, 10, 11, 12, 14, 29, 30, 31, 39, 60, 78, 86, 99, 100, 101, 102, 1000055, 4000118, 5000083, 8000074, 8000077] ?_
         conv => whnf
         repeat' first | exact rA _ | refine parkI ?_ | (refine And.intro ?_ ?_ <;> conv => whnf) | fail
         refine parkE (fun hc => ?_) (fun hc => ?_)
         ·clear hd
          conv => whnf
          replace b10 := grdS b10
          obtain ⟨g85, b10⟩ := b10
          replace g85 : (0 : Int) ≤ x10 ∧ x10 < (((y15.map EnC).length : Nat) : Int) := by simpa only [se_len, se_ch, List.length_map] using g85
          replace b10 := bindS b10
          obtain ⟨v86, hv86, b10⟩ := b10
          have i87 : nth (setN (y15.map EnC) (0 + ((y11.2 : Int).toNat)) [(I a1.Mac), (I a1.Port), (I a1.Seen), (LV.bool a1.Static)]) (0 + ((x10 : Int).toNat)) = some [(I v86.Mac), (I v86.Port), (I v86.Seen), (LV.bool v86.Static)] := by simpa only [se_map, se_len, se_ch, List.length_map, nth_eq, Nat.zero_add, List.getElem?_map] using gixNF (f := EnC) hv86
          replace b10 := grdS b10
          obtain ⟨g88, b10⟩ := b10
          replace g88 : fits (((s10.map EnC) ++ [[(I v86.Mac), (I v86.Port), (I v86.Seen), (LV.bool v86.Static)]])).length 32 := by simpa only [se_len, se_ch, List.length_map] using g88
          repeat' first | exact rA _ | refine parkI ?_ | (refine ⟨_, (kixF (f := iC) hx10), ?_⟩; conv => whnf) | exact g85 | exact g88 | (first | (rw [i87]; conv => whnf) | (erw [i87]; conv => whnf)) | exact clA _ | (refine And.intro ?_ ?_ <;> conv => whnf) | exact clN _ | fail
          have e := Option.some.inj b10
          refine LoopW.ren [(0, 0), (2, 2), (3, 3), (8, 6)] [(2, (LV.ptr 0 0 0)), (4, (LV.ptr 2 0 0)), (6, (I y11.1)), (8, (LV.sl 3 0 (y15.map EnC).length)), (12, (LV.sl 6 0 ((s10 ++ ([v86] : (List En))).map EnC).length)), (99, (LV.ro 1 (y83.1.map iC))), (100, (I (((y83.1.map iC).length : Nat) : Int))), (101, (I ((k10 + 1 : Nat) : Int)))] 7 [(0, (.row 24 3 [[(LV.ro 1 (a0.Buckets.map (roC 4 EnC))), (I a0.Slots), (I a0.Age)]])), (2, (.row 24 3 [[LV.nils, (I 0), (I 0)]])), (3, (.row 42 4 (setN (y15.map EnC) (0 + ((y11.2 : Int).toNat)) [(I a1.Mac), (I a1.Port), (I a1.Seen), (LV.bool a1.Static)]))), (6, (.row 42 4 ((s10 ++ ([v86] : (List En))).map EnC)))] rfl ⟨rfl, rfl, rfl, rfl, (by exact congrArg (LV.sl 6 0) (clL _ : (((s10.map EnC) ++ [[(I v86.Mac), (I v86.Port), (I v86.Seen), (LV.bool v86.Static)]])).length = ((s10 ++ ([v86] : (List En))).map EnC).length)), rfl, rfl, (congrArg (LV.int .i64) (w64_nat _ (by omega))), trivial⟩ ⟨⟨rfl, rfl, .inl ⟨rfl, nlT⟩⟩, rfl, rfl, ⟨⟨rfl, rfl, .inl ⟨rfl, nlT⟩⟩, rfl, rfl, ⟨⟨rfl, rfl, .inl ⟨rfl, nlT⟩⟩, rfl, rfl, ⟨⟨rfl, rfl, .inl ⟨(smT : (((s10.map EnC) ++ [[(I v86.Mac), (I v86.Port), (I v86.Seen), (LV.bool v86.Static)]]) : List (List LV)) = ((s10 ++ ([v86] : (List En))).map EnC)), nlT⟩⟩, rfl, rfl, trivial⟩⟩⟩⟩ rfl (K10 _ e.symm)
         ·exact (Bool.false_ne_true (hc.symm.trans hd)).elim
     ·replace b13 := condF (by first | exact hg4_ | simpa only [se_len, se_ch, List.length_map] using hg4_) b13
      conv => whnf
      repeat' first | exact rA _ | refine parkI ?_ | exact (by first | exact hg4_ | simpa using hg4_ : _ = false) | (refine ⟨?_, True.intro⟩; first | exact hg4_ | (simpa using hg4_; done)) | exact clA _ | (refine And.intro ?_ ?_ <;> conv => whnf) | exact clG _ | (refine gand ?_ h; assumption) | (intro hq_; conv => whnf) | fail
      refine parkE (fun hc => ?_) (fun hc => ?_)
      ·exact (Bool.false_ne_true (((rfl : false = false)).symm.trans hc)).elim
      ·conv => whnf
       have e := Option.some.inj b13
       replace e := hbrk13 _ e.symm
       rw [e] at r13
       dsimp only [aftM] at r13
       repeat' first | exact rA _ | refine parkI ?_ | (refine And.intro ?_ ?_ <;> conv => whnf) | fail
       refine parkE (fun hc => ?_) (fun hc => ?_)
       ·replace r13 := condT (by first | exact hc | (simpa only [se_len, se_ch, List.length_map] using hc; done) | (have h0 : (decide ((((s13.map iC).length : Nat) : Int) = 0)) = true := hc; simpa only [se_len, se_ch, List.length_map] using h0)) r13
        conv => whnf
        have e := Option.some.inj r13
        subst e
        repeat' first | exact rA _ | exact clA _ | (refine And.intro ?_ ?_ <;> conv => whnf) | exact clG _ | (refine gand ?_ h; assumption) | exact clN _ | fail
       ·replace r13 := condF (by first | exact hc | (simpa only [se_len, se_ch, List.length_map] using hc; done) | (have h0 : (decide ((((s13.map iC).length : Nat) : Int) = 0)) = false := hc; simpa only [se_len, se_ch, List.length_map] using h0)) r13
        conv => whnf
        replace r13 := grdS r13
        obtain ⟨g74, r13⟩ := r13
        replace g74 : (0 : Int) ≤ (IntKind.i64.wrap ((((s13.map iC).length : Nat) : Int) - 1)) ∧ (IntKind.i64.wrap ((((s13.map iC).length : Nat) : Int) - 1)) < (((s13.map iC).length : Nat) : Int) := by simpa only [se_len, se_ch, List.length_map] using g74
        replace r13 := bindS r13
        obtain ⟨v75, hv75, r13⟩ := r13
        have i76 : nth (s13.map iC) (0 + (((IntKind.i64.wrap ((((s13.map iC).length : Nat) : Int) - 1)) : Int).toNat)) = some [(I v75)] := by simpa only [se_map, se_len, se_ch, List.length_map, nth_eq, Nat.zero_add, List.getElem?_map] using gixNF (f := iC) hv75
        replace r13 := bindS r13
        obtain ⟨y77, hy77, r13⟩ := r13
        have c78 := c_lru_Drop y68.1 v75 _ hy77
        repeat' first | exact rA _ | refine parkI ?_ | exact g74 | (refine CallP.use c78 ?_; conv => whnf) | (rw [i76]; conv => whnf) | (refine And.intro ?_ ?_ <;> conv => whnf) | fail
        replace r13 := aftS r13
        obtain ⟨O10, hO10, r10⟩ := r13
        refine LoopW.virt 12 42 4 rfl ?_
        refine LoopW.norm [(2, (LV.ptr 0 0 0)), (4, (LV.ptr 2 0 0)), (6, (I y11.1)), (8, (LV.sl 3 0 (y15.map EnC).length)), (12, (LV.sl 6 0 (([] : (List En)).map EnC).length)), (99, (LV.ro 1 (y77.1.map iC))), (100, (I (((y77.1.map iC).length : Nat) : Int))), (101, (I ((0 : Nat) : Int)))] 7 [(0, (.row 24 3 [[(LV.ro 1 (a0.Buckets.map (roC 4 EnC))), (I a0.Slots), (I a0.Age)]])), (2, (.row 24 3 [[LV.nils, (I 0), (I 0)]])), (3, (.row 42 4 (setN (y15.map EnC) (0 + ((y11.2 : Int).toNat)) [(I a1.Mac), (I a1.Port), (I a1.Seen), (LV.bool a1.Static)]))), (6, (.row 42 4 (([] : (List En)).map EnC)))] ⟨rfl, rfl, rfl, rfl, (by exact congrArg (LV.sl 6 0) (clL _ : 0 = (([] : (List En)).map EnC).length)), rfl, rfl, rfl, trivial⟩ ⟨⟨rfl, rfl, blT⟩, ⟨⟨rfl, rfl, blT⟩, ⟨⟨rfl, rfl, NLss_bel nlT⟩, ⟨⟨(congrArg (fun q => some (Blk.row 42 4 q)) (smT : ([] : List (List LV)) = (([] : (List En)).map EnC))), rfl, NLss_bel (NLss_map' _)⟩, trivial⟩⟩⟩⟩ blT rfl ?_
        refine LoopW.forR (fun k10 s10 => [(2, (LV.ptr 0 0 0)), (4, (LV.ptr 2 0 0)), (6, (I y11.1)), (8, (LV.sl 3 0 (y15.map EnC).length)), (12, (LV.sl 6 0 (s10.map EnC).length)), (99, (LV.ro 1 (y77.1.map iC))), (100, (I (((y77.1.map iC).length : Nat) : Int))), (101, (I ((k10 : Nat) : Int)))]) (fun s10 => ⟨7, [(0, (.row 24 3 [[(LV.ro 1 (a0.Buckets.map (roC 4 EnC))), (I a0.Slots), (I a0.Age)]])), (2, (.row 24 3 [[LV.nils, (I 0), (I 0)]])), (3, (.row 42 4 (setN (y15.map EnC) (0 + ((y11.2 : Int).toNat)) [(I a1.Mac), (I a1.Port), (I a1.Seen), (LV.bool a1.Static)]))), (6, (.row 42 4 (s10.map EnC)))]⟩) hO10 (fun hl10 s10 hs10 => ?_) (fun hl10 k10 x10 s10 o10 hk10 hx10 b10 K10 hret10 hbrk10 => ?_)
        ·rw [hs10] at r10
         dsimp only [aftM] at r10
         have hd : decide (((y77.1.length : Nat) : Int) < (((y77.1.map iC).length : Nat) : Int)) = false := by rw [decide_eq_false_iff_not]; (try simp only [se_len, se_ch, List.length_map]); omega
         refine LoopW.round TT_ok [0, 1, 2, 3, 4, 5, 6, 7, 8, 9, 10, 11, 12, 14, 29, 30, 31, 39, 60, 78, 86, 99, 100, 101, 102, 1000055, 4000118, 5000083, 8000074, 8000077] ?_
         conv => whnf
         repeat' first | exact rA _ | refine parkI ?_ | (refine And.intro ?_ ?_ <;> conv => whnf) | fail
         refine parkE (fun hc => ?_) (fun hc => ?_)
         ·exact (Bool.false_ne_true (hd.symm.trans hc)).elim
         ·clear hd
          conv => whnf
          replace r10 := bindS r10
          obtain ⟨y83, hy83, r10⟩ := r10
          have c84 : CallW Tryz.prog 55 [(LV.agg [(LV.ro 1 (a0.Buckets.map (roC 4 EnC))), (I a0.Slots), (I a0.Age)])] ⟨0, []⟩ (fun lv H' => lv = (LV.agg [(LV.sl 0 0 (y83.Buckets.map (roC 4 EnC)).length), (I y83.Slots), (I y83.Age)]) ∧ H' = ⟨1, [(0, (.row 39 1 (y83.Buckets.map (roC 4 EnC))))]⟩) := w_fdb_own_x a0 _ hy83
          replace r10 := grdS r10
          obtain ⟨g85, r10⟩ := r10
          replace g85 : (0 : Int) ≤ y11.1 ∧ y11.1 < (((y83.Buckets.map (roC 4 EnC)).length : Nat) : Int) := by simpa only [se_len, se_ch, List.length_map] using g85
          replace r10 := bindS r10
          obtain ⟨v86, hv86, r10⟩ := r10
          have i87 : nth (y83.Buckets.map (roC 4 EnC)) (0 + ((y11.1 : Int).toNat)) = some [(LV.ro 4 (v86.map EnC))] := by simpa only [se_map, se_len, se_ch, List.length_map, nth_eq, Nat.zero_add, List.getElem?_map] using gixNF (f := (roC 4 EnC)) hv86
          have e := Option.some.inj r10
          subst e
          repeat' first | exact rA _ | exact g85 | (refine CallW.frame (nx2 := 8) (l2 := [(7, (.row 39 1 (y83.Buckets.map (roC 4 EnC))))]) [] [(0, 7)] c84 rfl rfl trivial rfl rfl ⟨⟨rfl, rfl, .inl ⟨rfl, nlT⟩⟩, rfl, rfl, trivial⟩ ?_; conv => whnf) | (rw [i87]; conv => whnf) | exact clA _ | (refine And.intro ?_ ?_ <;> conv => whnf) | exact clG _ | (refine gand ?_ h; assumption) | exact clN _ | fail
        ·unfold fdb_put_c3 at b10
         have hd : decide (((k10 : Nat) : Int) < (((y77.1.map iC).length : Nat) : Int)) = true := by rw [decide_eq_true_eq]; (try simp only [se_len, se_ch, List.length_map] at hk10); (try simp only [se_len, se_ch, List.length_map]); omega
         refine LoopW.round TT_ok [0, 1, 2, 3, 4, 5, 6, 7, 8, 9, 10, 11, 12, 14, 29, 30, 31, 39, 60, 78, 86, 99, 100, 101, 102, 1000055, 4000118, 5000083, 8000074, 8000077] ?_
         conv => whnf
         repeat' first | exact rA _ | refine parkI ?_ | (refine And.intro ?_ ?_ <;> conv => whnf) | fail
         refine parkE (fun hc => ?_) (fun hc => ?_)
         ·clear hd
          conv => whnf
          replace b10 := grdS b10
          obtain ⟨g79, b10⟩ := b10
          replace g79 : (0 : Int) ≤ x10 ∧ x10 < (((y15.map EnC).length : Nat) : Int) := by simpa only [se_len, se_ch, List.length_map] using g79
          replace b10 := bindS b10
          obtain ⟨v80, hv80, b10⟩ := b10
          have i81 : nth (setN (y15.map EnC) (0 + ((y11.2 : Int).toNat)) [(I a1.Mac), (I a1.Port), (I a1.Seen), (LV.bool a1.Static)]) (0 + ((x10 : Int).toNat)) = some [(I v80.Mac), (I v80.Port), (I v80.Seen), (LV.bool v80.Static)] := by simpa only [se_map, se_len, se_ch, List.length_map, nth_eq, Nat.zero_add, List.getElem?_map] using gixNF (f := EnC) hv80
          replace b10 := grdS b10
          obtain ⟨g82, b10⟩ := b10
          replace g82 : fits (((s10.map EnC) ++ [[(I v80.Mac), (I v80.Port), (I v80.Seen), (LV.bool v80.Static)]])).length 32 := by simpa only [se_len, se_ch, List.length_map] using g82
          repeat' first | exact rA _ | refine parkI ?_ | (refine ⟨_, (kixF (f := iC) hx10), ?_⟩; conv => whnf) | exact g79 | exact g82 | (first | (rw [i81]; conv => whnf) | (erw [i81]; conv => whnf)) | exact clA _ | (refine And.intro ?_ ?_ <;> conv => whnf) | exact clN _ | fail
          have e := Option.some.inj b10
          refine LoopW.ren [(0, 0), (2, 2), (3, 3), (8, 6)] [(2, (LV.ptr 0 0 0)), (4, (LV.ptr 2 0 0)), (6, (I y11.1)), (8, (LV.sl 3 0 (y15.map EnC).length)), (12, (LV.sl 6 0 ((s10 ++ ([v80] : (List En))).map EnC).length)), (99, (LV.ro 1 (y77.1.map iC))), (100, (I (((y77.1.map iC).length : Nat) : Int))), (101, (I ((k10 + 1 : Nat) : Int)))] 7 [(0, (.row 24 3 [[(LV.ro 1 (a0.Buckets.map (roC 4 EnC))), (I a0.Slots), (I a0.Age)]])), (2, (.row 24 3 [[LV.nils, (I 0), (I 0)]])), (3, (.row 42 4 (setN (y15.map EnC) (0 + ((y11.2 : Int).toNat)) [(I a1.Mac), (I a1.Port), (I a1.Seen), (LV.bool a1.Static)]))), (6, (.row 42 4 ((s10 ++ ([v80] : (List En))).map EnC)))] rfl ⟨rfl, rfl, rfl, rfl, (by exact congrArg (LV.sl 6 0) (clL _ : (((s10.map EnC) ++ [[(I v80.Mac), (I v80.Port), (I v80.Seen), (LV.bool v80.Static)]])).length = ((s10 ++ ([v80] : (List En))).map EnC).length)), rfl, rfl, (congrArg (LV.int .i64) (w64_nat _ (by omega))), trivial⟩ ⟨⟨rfl, rfl, .inl ⟨rfl, nlT⟩⟩, rfl, rfl, ⟨⟨rfl, rfl, .inl ⟨rfl, nlT⟩⟩, rfl, rfl, ⟨⟨rfl, rfl, .inl ⟨rfl, nlT⟩⟩, rfl, rfl, ⟨⟨rfl, rfl, .inl ⟨(smT : (((s10.map EnC) ++ [[(I v80.Mac), (I v80.Port), (I v80.Seen), (LV.bool v80.Static)]]) : List (List LV)) = ((s10 ++ ([v80] : (List En))).map EnC)), nlT⟩⟩, rfl, rfl, trivial⟩⟩⟩⟩ rfl (K10 _ e.symm)
         ·exact (Bool.false_ne_true (hc.symm.trans hd)).elim
    ·replace r6 := condF (by first | exact hc | (simpa only [se_len, se_ch, List.length_map] using hc; done) | (have h0 : (decide (a0.Slots < (((y68.1.map iC).length : Nat) : Int))) = false := hc; simpa only [se_len, se_ch, List.length_map] using h0)) r6
     conv => whnf
     repeat' first | exact rA _ | refine parkI ?_ | (refine And.intro ?_ ?_ <;> conv => whnf) | fail
     replace r6 := aftS r6
     obtain ⟨O15, hO15, r15⟩ := r6
     refine LoopW.virt 12 42 4 rfl ?_
     refine LoopW.norm [(2, (LV.ptr 0 0 0)), (4, (LV.ptr 2 0 0)), (6, (I y11.1)), (8, (LV.sl 3 0 (y15.map EnC).length)), (12, (LV.sl 5 0 (([] : (List En)).map EnC).length)), (99, (LV.ro 1 (y68.1.map iC))), (100, (I (((y68.1.map iC).length : Nat) : Int))), (101, (I ((0 : Nat) : Int)))] 6 [(0, (.row 24 3 [[(LV.ro 1 (a0.Buckets.map (roC 4 EnC))), (I a0.Slots), (I a0.Age)]])), (2, (.row 24 3 [[LV.nils, (I 0), (I 0)]])), (3, (.row 42 4 (setN (y15.map EnC) (0 + ((y11.2 : Int).toNat)) [(I a1.Mac), (I a1.Port), (I a1.Seen), (LV.bool a1.Static)]))), (5, (.row 42 4 (([] : (List En)).map EnC)))] ⟨rfl, rfl, rfl, rfl, (by exact congrArg (LV.sl 5 0) (clL _ : 0 = (([] : (List En)).map EnC).length)), rfl, rfl, rfl, trivial⟩ ⟨⟨rfl, rfl, blT⟩, ⟨⟨rfl, rfl, blT⟩, ⟨⟨rfl, rfl, NLss_bel nlT⟩, ⟨⟨(congrArg (fun q => some (Blk.row 42 4 q)) (smT : ([] : List (List LV)) = (([] : (List En)).map EnC))), rfl, NLss_bel (NLss_map' _)⟩, trivial⟩⟩⟩⟩ blT rfl ?_
     refine LoopW.forR (fun k15 s15 => [(2, (LV.ptr 0 0 0)), (4, (LV.ptr 2 0 0)), (6, (I y11.1)), (8, (LV.sl 3 0 (y15.map EnC).length)), (12, (LV.sl 5 0 (s15.map EnC).length)), (99, (LV.ro 1 (y68.1.map iC))), (100, (I (((y68.1.map iC).length : Nat) : Int))), (101, (I ((k15 : Nat) : Int)))]) (fun s15 => ⟨6, [(0, (.row 24 3 [[(LV.ro 1 (a0.Buckets.map (roC 4 EnC))), (I a0.Slots), (I a0.Age)]])), (2, (.row 24 3 [[LV.nils, (I 0), (I 0)]])), (3, (.row 42 4 (setN (y15.map EnC) (0 + ((y11.2 : Int).toNat)) [(I a1.Mac), (I a1.Port), (I a1.Seen), (LV.bool a1.Static)]))), (5, (.row 42 4 (s15.map EnC)))]⟩) hO15 (fun hl15 s15 hs15 => ?_) (fun hl15 k15 x15 s15 o15 hk15 hx15 b15 K15 hret15 hbrk15 => ?_)
     ·rw [hs15] at r15
      dsimp only [aftM] at r15
      have hd : decide (((y68.1.length : Nat) : Int) < (((y68.1.map iC).length : Nat) : Int)) = false := by rw [decide_eq_false_iff_not]; (try simp only [se_len, se_ch, List.length_map]); omega
      refine LoopW.round TT_ok [0, 1, 2, 3, 4, 5, 6, 7, 8, 9, 10, 11, 12, 14, 29, 30, 31, 39, 60, 78, 86, 99, 100, 101, 102, 1000055, 4000118, 5000083, 8000074, 8000077] ?_
      conv => whnf
      repeat' first | exact rA _ | refine parkI ?_ | (refine And.intro ?_ ?_ <;> conv => whnf) | fail
      refine parkE (fun hc => ?_) (fun hc => ?_)
      ·exact (Bool.false_ne_true (hd.symm.trans hc)).elim
      ·clear hd
       conv => whnf
       replace r15 := bindS r15
       obtain ⟨y106, hy106, r15⟩ := r15
       have c107 : CallW Tryz.prog 55 [(LV.agg [(LV.ro 1 (a0.Buckets.map (roC 4 EnC))), (I a0.Slots), (I a0.Age)])] ⟨0, []⟩ (fun lv H' => lv = (LV.agg [(LV.sl 0 0 (y106.Buckets.map (roC 4 EnC)).length), (I y106.Slots), (I y106.Age)]) ∧ H' = ⟨1, [(0, (.row 39 1 (y106.Buckets.map (roC 4 EnC))))]⟩) := w_fdb_own_x a0 _ hy106
       replace r15 := grdS r15
       obtain ⟨g108, r15⟩ := r15
       replace g108 : (0 : Int) ≤ y11.1 ∧ y11.1 < (((y106.Buckets.map (roC 4 EnC)).length : Nat) : Int) := by simpa only [se_len, se_ch, List.length_map] using g108
       replace r15 := bindS r15
       obtain ⟨v109, hv109, r15⟩ := r15
       have i110 : nth (y106.Buckets.map (roC 4 EnC)) (0 + ((y11.1 : Int).toNat)) = some [(LV.ro 4 (v109.map EnC))] := by simpa only [se_map, se_len, se_ch, List.length_map, nth_eq, Nat.zero_add, List.getElem?_map] using gixNF (f := (roC 4 EnC)) hv109
       have e := Option.some.inj r15
       subst e
       repeat' first | exact rA _ | exact g108 | (refine CallW.frame (nx2 := 7) (l2 := [(6, (.row 39 1 (y106.Buckets.map (roC 4 EnC))))]) [] [(0, 6)] c107 rfl rfl trivial rfl rfl ⟨⟨rfl, rfl, .inl ⟨rfl, nlT⟩⟩, rfl, rfl, trivial⟩ ?_; conv => whnf) | (rw [i110]; conv => whnf) | exact clA _ | (refine And.intro ?_ ?_ <;> conv => whnf) | exact clG _ | (refine gand ?_ h; assumption) | exact clN _ | fail
     ·unfold fdb_put_c6 at b15
      have hd : decide (((k15 : Nat) : Int) < (((y68.1.map iC).length : Nat) : Int)) = true := by rw [decide_eq_true_eq]; (try simp only [se_len, se_ch, List.length_map] at hk15); (try simp only [se_len, se_ch, List.length_map]); omega
      refine LoopW.round TT_ok [0, 1, 2, 3, 4, 5, 6, 7, 8, 9, 10, 11, 12, 14, 29, 30, 31, 39, 60, 78, 86, 99, 100, 101, 102, 1000055, 4000118, 5000083, 8000074, 8000077] ?_
      conv => whnf
      repeat' first | exact rA _ | refine parkI ?_ | (refine And.intro ?_ ?_ <;> conv => whnf) | fail
      refine parkE (fun hc => ?_) (fun hc => ?_)
      ·clear hd
       conv => whnf
       replace b15 := grdS b15
       obtain ⟨g102, b15⟩ := b15
       replace g102 : (0 : Int) ≤ x15 ∧ x15 < (((y15.map EnC).length : Nat) : Int) := by simpa only [se_len, se_ch, List.length_map] using g102
       replace b15 := bindS b15
       obtain ⟨v103, hv103, b15⟩ := b15
       have i104 : nth (setN (y15.map EnC) (0 + ((y11.2 : Int).toNat)) [(I a1.Mac), (I a1.Port), (I a1.Seen), (LV.bool a1.Static)]) (0 + ((x15 : Int).toNat)) = some [(I v103.Mac), (I v103.Port), (I v103.Seen), (LV.bool v103.Static)] := by simpa only [se_map, se_len, se_ch, List.length_map, nth_eq, Nat.zero_add, List.getElem?_map] using gixNF (f := EnC) hv103
       replace b15 := grdS b15
       obtain ⟨g105, b15⟩ := b15
       replace g105 : fits (((s15.map EnC) ++ [[(I v103.Mac), (I v103.Port), (I v103.Seen), (LV.bool v103.Static)]])).length 32 := by simpa only [se_len, se_ch, List.length_map] using g105
       repeat' first | exact rA _ | refine parkI ?_ | (refine ⟨_, (kixF (f := iC) hx15), ?_⟩; conv => whnf) | exact g102 | exact g105 | (first | (rw [i104]; conv => whnf) | (erw [i104]; conv => whnf)) | exact clA _ | (refine And.intro ?_ ?_ <;> conv => whnf) | exact clN _ | fail
       have e := Option.some.inj b15
       refine LoopW.ren [(0, 0), (2, 2), (3, 3), (7, 5)] [(2, (LV.ptr 0 0 0)), (4, (LV.ptr 2 0 0)), (6, (I y11.1)), (8, (LV.sl 3 0 (y15.map EnC).length)), (12, (LV.sl 5 0 ((s15 ++ ([v103] : (List En))).map EnC).length)), (99, (LV.ro 1 (y68.1.map iC))), (100, (I (((y68.1.map iC).length : Nat) : Int))), (101, (I ((k15 + 1 : Nat) : Int)))] 6 [(0, (.row 24 3 [[(LV.ro 1 (a0.Buckets.map (roC 4 EnC))), (I a0.Slots), (I a0.Age)]])), (2, (.row 24 3 [[LV.nils, (I 0), (I 0)]])), (3, (.row 42 4 (setN (y15.map EnC) (0 + ((y11.2 : Int).toNat)) [(I a1.Mac), (I a1.Port), (I a1.Seen), (LV.bool a1.Static)]))), (5, (.row 42 4 ((s15 ++ ([v103] : (List En))).map EnC)))] rfl ⟨rfl, rfl, rfl, rfl, (by exact congrArg (LV.sl 5 0) (clL _ : (((s15.map EnC) ++ [[(I v103.Mac), (I v103.Port), (I v103.Seen), (LV.bool v103.Static)]])).length = ((s15 ++ ([v103] : (List En))).map EnC).length)), rfl, rfl, (congrArg (LV.int .i64) (w64_nat _ (by omega))), trivial⟩ ⟨⟨rfl, rfl, .inl ⟨rfl, nlT⟩⟩, rfl, rfl, ⟨⟨rfl, rfl, .inl ⟨rfl, nlT⟩⟩, rfl, rfl, ⟨⟨rfl, rfl, .inl ⟨rfl, nlT⟩⟩, rfl, rfl, ⟨⟨rfl, rfl, .inl ⟨(smT : (((s15.map EnC) ++ [[(I v103.Mac), (I v103.Port), (I v103.Seen), (LV.bool v103.Static)]]) : List (List LV)) = ((s15 ++ ([v103] : (List En))).map EnC)), nlT⟩⟩, rfl, rfl, trivial⟩⟩⟩⟩ rfl (K15 _ e.symm)
      ·exact (Bool.false_ne_true (hc.symm.trans hd)).elim
 ·unfold fdb_put_c0 at b6
  have hd : decide (((k6 : Nat) : Int) < (((y15.map EnC).length : Nat) : Int)) = true := by rw [decide_eq_true_eq]; (try simp only [se_len, se_ch, List.length_map] at hk6); (try simp only [se_len, se_ch, List.length_map]); omega
  refine LoopW.round TT_ok [0, 1, 2, 3, 4, 5, 6, 7, 8, 9, 10, 11, 12, 14, 29, 30, 31, 39, 60, 78, 86, 99, 100, 101, 102, 1000055, 4000118, 5000083, 8000074, 8000077] ?_
  conv => whnf
  repeat' first | exact rA _ | refine parkI ?_ | (refine And.intro ?_ ?_ <;> conv => whnf) | fail
  refine parkE (fun hc => ?_) (fun hc => ?_)
  ·clear hd
   conv => whnf
   replace b6 := grdS b6
   obtain ⟨g17, b6⟩ := b6
   replace g17 : fits (((s6.map iC) ++ [[(I ((k6 : Nat) : Int))]])).length 8 := by simpa only [se_len, se_ch, List.length_map] using g17
   repeat' first | exact rA _ | refine parkI ?_ | exact g17 | exact clA _ | (refine And.intro ?_ ?_ <;> conv => whnf) | exact clN _ | fail
   have e := Option.some.inj b6
   refine LoopW.ren [(0, 0), (1, 1), (2, 2), (3, 3), (6, 4)] [(2, (LV.ptr 0 0 0)), (3, (LV.ptr 1 0 0)), (4, (LV.ptr 2 0 0)), (6, (I y11.1)), (7, (I y11.2)), (8, (LV.sl 3 0 (y15.map EnC).length)), (9, (LV.sl 4 0 ((s6 ++ ([((k6 : Nat) : Int)] : (List Int))).map iC).length)), (29, (I (((y15.map EnC).length : Nat) : Int))), (30, (I ((k6 + 1 : Nat) : Int)))] 5 [(0, (.row 24 3 [[(LV.ro 1 (a0.Buckets.map (roC 4 EnC))), (I a0.Slots), (I a0.Age)]])), (1, (.row 42 4 [[(I a1.Mac), (I a1.Port), (I a1.Seen), (LV.bool a1.Static)]])), (2, (.row 24 3 [[LV.nils, (I 0), (I 0)]])), (3, (.row 42 4 (y15.map EnC))), (4, (.row 3 1 ((s6 ++ ([((k6 : Nat) : Int)] : (List Int))).map iC)))] rfl ⟨rfl, rfl, rfl, rfl, rfl, rfl, (by exact congrArg (LV.sl 4 0) (clL _ : (((s6.map iC) ++ [[(I ((k6 : Nat) : Int))]])).length = ((s6 ++ ([((k6 : Nat) : Int)] : (List Int))).map iC).length)), rfl, (congrArg (LV.int .i64) (w64_nat _ (by omega))), trivial⟩ ⟨⟨rfl, rfl, .inl ⟨rfl, nlT⟩⟩, rfl, rfl, ⟨⟨rfl, rfl, .inl ⟨rfl, nlT⟩⟩, rfl, rfl, ⟨⟨rfl, rfl, .inl ⟨rfl, nlT⟩⟩, rfl, rfl, ⟨⟨rfl, rfl, .inl ⟨rfl, nlT⟩⟩, rfl, rfl, ⟨⟨rfl, rfl, .inl ⟨(smT : (((s6.map iC) ++ [[(I ((k6 : Nat) : Int))]]) : List (List LV)) = ((s6 ++ ([((k6 : Nat) : Int)] : (List Int))).map iC)), nlT⟩⟩, rfl, rfl, trivial⟩⟩⟩⟩⟩ rfl (K6 _ e.symm)
  ·exact (Bool.false_ne_true (hc.symm.trans hd)).elim

def fdb_Learn (a0 : Tb) (a1 : Int) (a2 : Int) (a3 : Int) : Option (Tb × Int) :=
 (fdb_Right a0).bind fun y1 =>
 (gd (!(!y1)) (fdb_isMac a1)).bind fun y3 =>
 (gd (!(bif (!y1) then true else (!y3))) (fdb_isPort a2)).bind fun y5 =>
 (gd (!(bif (bif (!y1) then true else (!y3)) then true else (!y5))) (fdb_isTime a3)).bind fun y7 =>
 (bif (bif (bif (bif (!y1) then true else (!y3)) then true else (!y5)) then true else (!y7)) then
  some ((⟨[], 0, 0⟩ : Tb), 1)
 else
  (fdb_pinned a0 a1).bind fun y9 =>
  (bif (!y9) then
   (fdb_put a0 (⟨a1, a2, a3, false⟩ : En)).bind fun y11 =>
   some (y11.1, 0)
  else
   some (a0, 0)))

theorem c_fdb_Learn (a0 : Tb) (a1 : Int) (a2 : Int) (a3 : Int) (r : (Tb × Int)) (h : fdb_Learn a0 a1 a2 a3 = some r) : CallP Tryz.prog 36 [(LV.agg [(LV.ro 1 (a0.Buckets.map (roC 4 EnC))), (I a0.Slots), (I a0.Age)]), (I a1), (I a2), (I a3)] (LV.tup [(LV.agg [(LV.ro 1 (r.1.Buckets.map (roC 4 EnC))), (I r.1.Slots), (I r.1.Age)]), (I r.2)]) := by
 unfold fdb_Learn at h
 refine .intro nlA (.intro TT_ok Tryz.func36 rfl rfl [0, 1, 2, 3, 4, 8, 9, 27, 32] rfl ?_)
 conv => whnf
 replace h := bindS h
 obtain ⟨y1, hy1, h⟩ := h
 have c2 := c_fdb_Right a0 _ hy1
 replace h := bindS h
 obtain ⟨y3, hy3, h⟩ := h
 have c4 := fun (hg : (!(!y1)) = true) => c_fdb_isMac a1 _ (gdS hg hy3)
 replace h := bindS h
 obtain ⟨y5, hy5, h⟩ := h
 have c6 := fun (hg : (!(bif (!y1) then true else (!y3))) = true) => c_fdb_isPort a2 _ (gdS hg hy5)
 replace h := bindS h
 obtain ⟨y7, hy7, h⟩ := h
 have c8 := fun (hg : (!(bif (bif (!y1) then true else (!y3)) then true else (!y5))) = true) => c_fdb_isTime a3 _ (gdS hg hy7)
 repeat' first | exact rA _ | refine parkI ?_ | (refine ⟨_, c4, ?_⟩; conv => whnf) | (refine ⟨_, c6, ?_⟩; conv => whnf) | (refine ⟨_, c8, ?_⟩; conv => whnf) | (refine CallP.use c2 ?_; conv => whnf) | exact clA _ | (refine And.intro ?_ ?_ <;> conv => whnf) | exact clG _ | (refine gand ?_ h; assumption) | fail
 refine parkE (fun hc => ?_) (fun hc => ?_)
 ·replace h := condT hc h
  conv => whnf
  have e := Option.some.inj h
  subst e
  repeat' first | exact rA _ | exact clA _ | (refine And.intro ?_ ?_ <;> conv => whnf) | exact clG _ | (refine gand ?_ h; assumption) | exact clN _ | fail
 ·replace h := condF hc h
  conv => whnf
  replace h := bindS h
  obtain ⟨y9, hy9, h⟩ := h
  have c10 := c_fdb_pinned a0 a1 _ hy9
  repeat' first | exact rA _ | refine parkI ?_ | (refine CallP.use c10 ?_; conv => whnf) | (refine And.intro ?_ ?_ <;> conv => whnf) | fail
  refine parkE (fun hc => ?_) (fun hc => ?_)
  ·replace h := condT hc h
   conv => whnf
   replace h := bindS h
   obtain ⟨y11, hy11, h⟩ := h
   have c12 : CallP Tryz.prog 23 [(LV.agg [(LV.ro 1 (a0.Buckets.map (roC 4 EnC))), (I a0.Slots), (I a0.Age)]), (LV.agg [(I a1), (I a2), (I a3), (LV.bool false)])] (LV.tup [(LV.agg [(LV.ro 1 (y11.1.Buckets.map (roC 4 EnC))), (I y11.1.Slots), (I y11.1.Age)]), (LV.bool y11.2)]) := by first | exact c_fdb_put a0 (⟨a1, a2, a3, false⟩ : En) _ hy11 | (simpa only [se_map, se_byL, se_len, se_ch, List.length_map] using c_fdb_put a0 (⟨a1, a2, a3, false⟩ : En) _ hy11) | (simpa only [se_map, se_byL, se_len, se_ch, List.length_map, EnC] using c_fdb_put a0 (⟨a1, a2, a3, false⟩ : En) _ hy11)
   have e := Option.some.inj h
   subst e
   repeat' first | exact rA _ | (refine CallP.use c12 ?_; conv => whnf) | exact clA _ | (refine And.intro ?_ ?_ <;> conv => whnf) | exact clG _ | (refine gand ?_ h; assumption) | exact clN _ | fail
  ·replace h := condF hc h
   conv => whnf
   have e := Option.some.inj h
   subst e
   repeat' first | exact rA _ | exact clA _ | (refine And.intro ?_ ?_ <;> conv => whnf) | exact clG _ | (refine gand ?_ h; assumption) | exact clN _ | fail

end Go.RX
