/- Plain functions, and what says that the program's functions compute them. -/
import Derived.Test.YtknjenjjhdhemaaGreatSeb
import Derived.Test.YtknjenjjhdhemaaGreatRXE
set_option linter.unusedVariables false
set_option linter.unusedSimpArgs false
open Go Go.RX Go.Proofs
namespace Go.RX
set_option maxRecDepth 10000
set_option maxHeartbeats 4000000
attribute [local irreducible] CallW CallP LoopW W IntKind.wrap bitI
theorem ke_3 (a b : Int) : eqL TT 8 3 (I a) (I b) = some (decide (a = b)) := rfl

def wheel_isTimer (a0 : Tm) : Option Bool :=
 some (bif (bif (decide (0 ≤ a0.ID)) then (decide (0 ≤ a0.At)) else false) then (decide (a0.At ≤ 1099511627776)) else false)

theorem c_wheel_isTimer (a0 : Tm) (r : Bool) (h : wheel_isTimer a0 = some r) : CallP Tryz.prog 59 [(LV.agg [(I a0.ID), (I a0.At)])] (LV.bool r) := by
 unfold wheel_isTimer at h
 refine .intro nlA (.intro TT_ok Tryz.func59 rfl rfl [0, 1, 2] rfl ?_)
 conv => whnf
 have e := Option.some.inj h
 subst e
 repeat' first | exact rA _ | exact clA _ | (refine And.intro ?_ ?_ <;> conv => whnf) | exact clG _ | (refine gand ?_ h; assumption) | exact clN _ | fail

def cmp_isNaN_int (a0 : Int) : Option Bool :=
 some (!decide (a0 = a0))

theorem c_cmp_isNaN_int (a0 : Int) (r : Bool) (h : cmp_isNaN_int a0 = some r) : CallP Tryz.prog 91 [(I a0)] (LV.bool r) := by
 unfold cmp_isNaN_int at h
 refine .intro nlA (.intro TT_ok Tryz.func91 rfl rfl [0, 2] rfl ?_)
 conv => whnf
 have e := Option.some.inj h
 subst e
 repeat' first | exact rA _ | exact clA _ | (refine And.intro ?_ ?_ <;> conv => whnf) | exact clG _ | (refine gand ?_ h; assumption) | exact clN _ | fail

def cmp_Compare_int (a0 : Int) (a1 : Int) : Option Int :=
 (cmp_isNaN_int a0).bind fun y5 =>
 (cmp_isNaN_int a1).bind fun y7 =>
 (bif y5 then
  (bif y7 then
   some 0
  else
   some (-1))
 else
  (bif y7 then
   some 1
  else
   (bif (decide (a0 < a1)) then
    some (-1)
   else
    (bif (decide (a1 < a0)) then
     some 1
    else
     some 0))))

theorem c_cmp_Compare_int (a0 : Int) (a1 : Int) (r : Int) (h : cmp_Compare_int a0 a1 = some r) : CallP Tryz.prog 81 [(I a0), (I a1)] (I r) := by
 unfold cmp_Compare_int at h
 refine .intro nlA (.intro TT_ok Tryz.func81 rfl rfl [0, 1, 4, 5, 6, 11, 12, 13, 16, 19] rfl ?_)
 conv => whnf
 replace h := bindS h
 obtain ⟨y5, hy5, h⟩ := h
 have c6 := c_cmp_isNaN_int a0 _ hy5
 replace h := bindS h
 obtain ⟨y7, hy7, h⟩ := h
 have c8 := c_cmp_isNaN_int a1 _ hy7
 repeat' first | exact rA _ | refine parkI ?_ | (refine CallP.use c6 ?_; conv => whnf) | (refine CallP.use c8 ?_; conv => whnf) | (refine And.intro ?_ ?_ <;> conv => whnf) | fail
 refine parkE (fun hc => ?_) (fun hc => ?_)
 ·replace h := condT hc h
  conv => whnf
  repeat' first | exact rA _ | refine parkI ?_ | (refine And.intro ?_ ?_ <;> conv => whnf) | fail
  refine parkE (fun hc => ?_) (fun hc => ?_)
  ·replace h := condT hc h
   conv => whnf
   have e := Option.some.inj h
   subst e
   repeat' first | exact rA _ | exact clA _ | (refine And.intro ?_ ?_ <;> conv => whnf) | exact clG _ | (refine gand ?_ h; assumption) | exact clN _ | fail
  ·replace h := condF hc h
   conv => whnf
   have e := Option.some.inj h
   subst e
   repeat' first | exact rA _ | exact clA _ | (refine And.intro ?_ ?_ <;> conv => whnf) | exact clG _ | (refine gand ?_ h; assumption) | exact clN _ | fail
 ·replace h := condF hc h
  conv => whnf
  repeat' first | exact rA _ | refine parkI ?_ | (refine And.intro ?_ ?_ <;> conv => whnf) | fail
  refine parkE (fun hc => ?_) (fun hc => ?_)
  ·replace h := condT hc h
   conv => whnf
   have e := Option.some.inj h
   subst e
   repeat' first | exact rA _ | exact clA _ | (refine And.intro ?_ ?_ <;> conv => whnf) | exact clG _ | (refine gand ?_ h; assumption) | exact clN _ | fail
  ·replace h := condF hc h
   conv => whnf
   repeat' first | exact rA _ | refine parkI ?_ | (refine And.intro ?_ ?_ <;> conv => whnf) | fail
   refine parkE (fun hc => ?_) (fun hc => ?_)
   ·replace h := condT hc h
    conv => whnf
    have e := Option.some.inj h
    subst e
    repeat' first | exact rA _ | exact clA _ | (refine And.intro ?_ ?_ <;> conv => whnf) | exact clG _ | (refine gand ?_ h; assumption) | exact clN _ | fail
   ·replace h := condF hc h
    conv => whnf
    repeat' first | exact rA _ | refine parkI ?_ | (refine And.intro ?_ ?_ <;> conv => whnf) | fail
    refine parkE (fun hc => ?_) (fun hc => ?_)
    ·replace h := condT hc h
     conv => whnf
     have e := Option.some.inj h
     subst e
     repeat' first | exact rA _ | exact clA _ | (refine And.intro ?_ ?_ <;> conv => whnf) | exact clG _ | (refine gand ?_ h; assumption) | exact clN _ | fail
    ·replace h := condF hc h
     conv => whnf
     have e := Option.some.inj h
     subst e
     repeat' first | exact rA _ | exact clA _ | (refine And.intro ?_ ?_ <;> conv => whnf) | exact clG _ | (refine gand ?_ h; assumption) | exact clN _ | fail

def cmp_Or_int_c0  (k2 : Nat) (x2 : Int) (s2 : Unit) : Option (Step Int Unit) :=
 (bif (!decide (x2 = 0)) then
  some (.ret x2)
 else
  some (.nxt ()))

def cmp_Or_int (a0 : (List Int)) : Option Int :=
 aft (rangeL (cmp_Or_int_c0 ) a0 ()) fun s2 =>
 some 0

theorem c_cmp_Or_int (a0 : (List Int)) (r : Int) (h : cmp_Or_int a0 = some r) : CallP Tryz.prog 88 [(LV.ro 1 (a0.map iC))] (I r) := by
 unfold cmp_Or_int at h
 refine .intro nlA (.intro TT_ok Tryz.func88 rfl rfl [0, 2, 3, 5, 6, 7, 8, 9, 14] rfl ?_)
 conv => whnf
 repeat' first | exact rA _ | refine parkI ?_ | (refine And.intro ?_ ?_ <;> conv => whnf) | fail
 replace h := aftS h
 obtain ⟨O2, hO2, r2⟩ := h
 refine LoopW.norm [(3, (I 0)), (6, (LV.ro 1 (a0.map iC))), (7, (I (((a0.map iC).length : Nat) : Int))), (8, (I ((0 : Nat) : Int)))] 0 [] ⟨rfl, rfl, rfl, rfl, trivial⟩ trivial blT rfl ?_
 refine LoopW.forR (fun k2 s2 => [(3, (I 0)), (6, (LV.ro 1 (a0.map iC))), (7, (I (((a0.map iC).length : Nat) : Int))), (8, (I ((k2 : Nat) : Int)))]) (fun s2 => ⟨0, []⟩) hO2 (fun hl2 s2 hs2 => ?_) (fun hl2 k2 x2 s2 o2 hk2 hx2 b2 K2 hret2 hbrk2 => ?_)
 ·rw [hs2] at r2
  dsimp only [aftM] at r2
  have hd : decide (((a0.length : Nat) : Int) < (((a0.map iC).length : Nat) : Int)) = false := by rw [decide_eq_false_iff_not]; (try simp only [se_len, se_ch, List.length_map]); omega
  refine LoopW.round TT_ok [0, 2, 3, 5, 6, 7, 8, 9, 14] ?_
  conv => whnf
  repeat' first | exact rA _ | refine parkI ?_ | (refine And.intro ?_ ?_ <;> conv => whnf) | fail
  refine parkE (fun hc => ?_) (fun hc => ?_)
  ·exact (Bool.false_ne_true (hd.symm.trans hc)).elim
  ·clear hd
   conv => whnf
   have e := Option.some.inj r2
   subst e
   repeat' first | exact rA _ | exact clA _ | (refine And.intro ?_ ?_ <;> conv => whnf) | exact clG _ | (refine gand ?_ h; assumption) | exact clN _ | fail
 ·unfold cmp_Or_int_c0 at b2
  have hd : decide (((k2 : Nat) : Int) < (((a0.map iC).length : Nat) : Int)) = true := by rw [decide_eq_true_eq]; (try simp only [se_len, se_ch, List.length_map] at hk2); (try simp only [se_len, se_ch, List.length_map]); omega
  refine LoopW.round TT_ok [0, 2, 3, 5, 6, 7, 8, 9, 14] ?_
  conv => whnf
  repeat' first | exact rA _ | refine parkI ?_ | (refine And.intro ?_ ?_ <;> conv => whnf) | fail
  refine parkE (fun hc => ?_) (fun hc => ?_)
  ·clear hd
   conv => whnf
   repeat' first | exact rA _ | refine parkI ?_ | (refine ⟨_, (kixF (f := iC) hx2), ?_⟩; conv => whnf) | (refine And.intro ?_ ?_ <;> conv => whnf) | fail
   refine parkE (fun hc => ?_) (fun hc => ?_)
   ·replace b2 := condT hc b2
    conv => whnf
    have e := Option.some.inj b2
    replace e := hret2 _ e.symm
    rw [e] at r2
    replace e := Option.some.inj r2
    subst e
    repeat' first | exact rA _ | exact clA _ | (refine And.intro ?_ ?_ <;> conv => whnf) | exact clG _ | (refine gand ?_ h; assumption) | exact clN _ | fail
   ·replace b2 := condF hc b2
    conv => whnf
    repeat' first | exact rA _ | refine parkI ?_ | (refine And.intro ?_ ?_ <;> conv => whnf) | fail
    have e := Option.some.inj b2
    refine LoopW.norm [(3, (I 0)), (6, (LV.ro 1 (a0.map iC))), (7, (I (((a0.map iC).length : Nat) : Int))), (8, (I ((k2 + 1 : Nat) : Int)))] 0 [] ⟨rfl, rfl, rfl, (congrArg (LV.int .i64) (w64_nat _ (by omega))), trivial⟩ trivial blT rfl (K2 _ e.symm)
  ·exact (Bool.false_ne_true (hc.symm.trans hd)).elim

def wheel_order (a0 : Tm) (a1 : Tm) : Option Int :=
 (cmp_Compare_int a0.At a1.At).bind fun y5 =>
 (cmp_Compare_int a0.ID a1.ID).bind fun y7 =>
 (cmp_Or_int ([y5, y7] : (List Int))).bind fun y9 =>
 some y9

theorem c_wheel_order (a0 : Tm) (a1 : Tm) (r : Int) (h : wheel_order a0 a1 = some r) : CallP Tryz.prog 75 [(LV.agg [(I a0.ID), (I a0.At)]), (LV.agg [(I a1.ID), (I a1.At)])] (I r) := by
 unfold wheel_order at h
 refine .intro nlA (.intro TT_ok Tryz.func75 rfl rfl [0, 1, 2, 3, 4] rfl ?_)
 conv => whnf
 replace h := bindS h
 obtain ⟨y5, hy5, h⟩ := h
 have c6 := c_cmp_Compare_int a0.At a1.At _ hy5
 replace h := bindS h
 obtain ⟨y7, hy7, h⟩ := h
 have c8 := c_cmp_Compare_int a0.ID a1.ID _ hy7
 replace h := bindS h
 obtain ⟨y9, hy9, h⟩ := h
 have c10 : CallP Tryz.prog 88 [(LV.ro 1 [[(I y5)], [(I y7)]])] (I y9) := by first | exact c_cmp_Or_int ([y5, y7] : (List Int)) _ hy9 | (simpa only [se_map, se_byL, se_len, se_ch, List.length_map] using c_cmp_Or_int ([y5, y7] : (List Int)) _ hy9)
 have e := Option.some.inj h
 subst e
 repeat' first | exact rA _ | (refine CallP.use c6 ?_; conv => whnf) | (refine ⟨_, _, CallP.at c6, ?_⟩; conv => whnf) | (refine ⟨_, fun _ => c6, ?_⟩; conv => whnf) | (refine CallP.use c8 ?_; conv => whnf) | (refine ⟨_, _, CallP.at c8, ?_⟩; conv => whnf) | (refine ⟨_, fun _ => c8, ?_⟩; conv => whnf) | (refine CallP.use c10 ?_; conv => whnf) | (refine ⟨_, _, CallP.at c10, ?_⟩; conv => whnf) | (refine ⟨_, fun _ => c10, ?_⟩; conv => whnf) | (refine W.frzAt (id := 1) 2 rfl ?_; conv => whnf) | (refine W.drawnM (id := 1) 1 TT_ok hmix1 [0, 0, 0, 0, 0, 0, 0, 0, 0, 1, 2, 3, 4] [0, 0, 0, 0, 1, 1, 1, 1, 1, 2, 3, 4, 4] rfl ?_; conv => whnf) | exact clA _ | (refine And.intro ?_ ?_ <;> conv => whnf) | exact clG _ | (refine gand ?_ h; assumption) | exact clN _ | fail

def wheel_Right_c0 (a0 : (List Tm)) (k1 : Nat) (x1 : Tm) (s1 : (List (Int × Int))) : Option (Step Bool (List (Int × Int))) :=
 (wheel_isTimer x1).bind fun y1 =>
 (gd (bif (!(bif (!y1) then true else (decide (1 < (IntKind.i64.wrap ((mget s1 x1.ID 0) + 1)))))) then (decide (0 < ((k1 : Nat) : Int))) else false) (gix a0 (IntKind.i64.wrap (((k1 : Nat) : Int) - 1)))).bind fun v3 =>
 (gd (bif (!(bif (!y1) then true else (decide (1 < (IntKind.i64.wrap ((mget s1 x1.ID 0) + 1)))))) then (decide (0 < ((k1 : Nat) : Int))) else false) (wheel_order v3 x1)).bind fun y5 =>
 (bif (bif (bif (!y1) then true else (decide (1 < (IntKind.i64.wrap ((mget s1 x1.ID 0) + 1))))) then true else (bif (decide (0 < ((k1 : Nat) : Int))) then (decide (0 ≤ y5)) else false)) then
  some (.ret false)
 else
  some (.nxt (mput s1 x1.ID (IntKind.i64.wrap ((mget s1 x1.ID 0) + 1)))))

def wheel_Right (a0 : (List Tm)) : Option Bool :=
 aft (rangeL (wheel_Right_c0 a0) a0 ([] : List (Int × Int))) fun s1 =>
 some (decide (((a0.length : Nat) : Int) ≤ 64))

theorem c_wheel_Right (a0 : (List Tm)) (r : Bool) (h : wheel_Right a0 = some r) : CallP Tryz.prog 58 [(LV.ro 2 (a0.map TmC))] (LV.bool r) := by
 unfold wheel_Right at h
 refine .intro nlA (.intro TT_ok Tryz.func58 rfl rfl [0, 2, 3, 4, 5, 7, 8, 9, 10, 42] rfl ?_)
 conv => whnf
 repeat' first | exact rA _ | refine parkI ?_ | (refine W.drawn TT_ok hmix1 rfl ?_; conv => whnf) | exact clA _ | (refine And.intro ?_ ?_ <;> conv => whnf) | exact clG _ | (refine gand ?_ h; assumption) | exact clN _ | fail
 replace h := aftS h
 obtain ⟨O1, hO1, r1⟩ := h
 refine LoopW.norm [(0, (LV.ro 2 (a0.map TmC))), (3, (LV.map 0)), (7, (LV.ro 2 (a0.map TmC))), (8, (I (((a0.map TmC).length : Nat) : Int))), (9, (I ((0 : Nat) : Int)))] 1 [(0, (.mp (([] : List (Int × Int)).map (mpC I I))))] ⟨rfl, rfl, rfl, rfl, rfl, trivial⟩ ⟨⟨(congrArg (fun q => some (Blk.mp q)) (by simp only [se_mp] : (([] : List (LV × LV)) : List (LV × LV)) = (([] : List (Int × Int)).map (mpC I I)))), rfl, bel_mp (f := I) (g := I) (fun _ => by repeat' first | exact True.intro | refine ⟨?_, ?_⟩) (fun _ => by repeat' first | exact True.intro | refine ⟨?_, ?_⟩) _ _⟩, trivial⟩ blT rfl ?_
 refine LoopW.forR (fun k1 s1 => [(0, (LV.ro 2 (a0.map TmC))), (3, (LV.map 0)), (7, (LV.ro 2 (a0.map TmC))), (8, (I (((a0.map TmC).length : Nat) : Int))), (9, (I ((k1 : Nat) : Int)))]) (fun s1 => ⟨1, [(0, (.mp (s1.map (mpC I I))))]⟩) hO1 (fun hl1 s1 hs1 => ?_) (fun hl1 k1 x1 s1 o1 hk1 hx1 b1 K1 hret1 hbrk1 => ?_)
 ·rw [hs1] at r1
  dsimp only [aftM] at r1
  have hd : decide (((a0.length : Nat) : Int) < (((a0.map TmC).length : Nat) : Int)) = false := by rw [decide_eq_false_iff_not]; (try simp only [se_len, se_ch, List.length_map]); omega
  refine LoopW.round TT_ok [0, 2, 3, 4, 5, 7, 8, 9, 10, 42] ?_
  conv => whnf
  repeat' first | exact rA _ | refine parkI ?_ | (refine W.drawn TT_ok hmix1 rfl ?_; conv => whnf) | exact clA _ | (refine And.intro ?_ ?_ <;> conv => whnf) | exact clG _ | (refine gand ?_ h; assumption) | exact clN _ | fail
  refine parkE (fun hc => ?_) (fun hc => ?_)
  ·exact (Bool.false_ne_true (hd.symm.trans hc)).elim
  ·clear hd
   conv => whnf
   have e := Option.some.inj r1
   subst e
   repeat' first | exact rA _ | (refine W.drawn TT_ok hmix1 rfl ?_; conv => whnf) | exact clA _ | (refine And.intro ?_ ?_ <;> conv => whnf) | exact clG _ | (refine gand ?_ h; assumption) | exact clN _ | fail
 ·unfold wheel_Right_c0 at b1
  have hd : decide (((k1 : Nat) : Int) < (((a0.map TmC).length : Nat) : Int)) = true := by rw [decide_eq_true_eq]; (try simp only [se_len, se_ch, List.length_map] at hk1); (try simp only [se_len, se_ch, List.length_map]); omega
  refine LoopW.round TT_ok [0, 2, 3, 4, 5, 7, 8, 9, 10, 42] ?_
  conv => whnf
  repeat' first | exact rA _ | refine parkI ?_ | (refine W.drawn TT_ok hmix1 rfl ?_; conv => whnf) | exact clA _ | (refine And.intro ?_ ?_ <;> conv => whnf) | exact clG _ | (refine gand ?_ h; assumption) | exact clN _ | fail
  refine parkE (fun hc => ?_) (fun hc => ?_)
  ·clear hd
   conv => whnf
   rcases m1_ : mfind s1 x1.ID with _ | ⟨w1_, u1_⟩
   ·try simp only [mget_none m1_, mput_none m1_, mhas_none m1_, mget_mput] at b1
    have f1 : Finds TT 3 ((s1.map (mpC I I)) ++ [((I x1.ID), (I (IntKind.i64.wrap (0 + 1))))]) (I x1.ID) (some (s1.length, (I (IntKind.i64.wrap (0 + 1))))) := by simpa only [se_mp] using finds_some (f := I) (g := I) ke_3 (mfind_app m1_ (IntKind.i64.wrap (0 + 1)))
    replace b1 := bindS b1
    obtain ⟨y2, hy2, b1⟩ := b1
    have c3 := c_wheel_isTimer x1 _ hy2
    replace b1 := bindS b1
    obtain ⟨v4, hv4, b1⟩ := b1
    have i5 := fun hg => gixF (f := TmC) (gdS hg hv4)
    replace b1 := bindS b1
    obtain ⟨y6, hy6, b1⟩ := b1
    have c7 := fun (hg : (bif (!(bif (!y2) then true else (decide (1 < (IntKind.i64.wrap (0 + 1)))))) then (decide (0 < ((k1 : Nat) : Int))) else false) = true) => c_wheel_order v4 x1 _ (gdS hg hy6)
    repeat' first | exact rA _ | refine parkI ?_ | (refine ⟨_, (kixF (f := TmC) hx1), ?_⟩; conv => whnf) | (refine ⟨_, (finds_none (g := I) ke_3 m1_), ?_⟩; conv => whnf) | (refine ⟨_, (fun _ => f1), ?_⟩; conv => whnf) | (refine ⟨_, i5, ?_⟩; conv => whnf) | (refine ⟨_, c7, ?_⟩; conv => whnf) | (refine CallP.use c3 ?_; conv => whnf) | (refine ⟨_, _, CallP.at c3, ?_⟩; conv => whnf) | (refine ⟨_, fun _ => c3, ?_⟩; conv => whnf) | (refine W.drawn TT_ok hmix1 rfl ?_; conv => whnf) | exact clA _ | (refine And.intro ?_ ?_ <;> conv => whnf) | exact clG _ | (refine gand ?_ h; assumption) | exact clN _ | fail
    refine parkE (fun hc => ?_) (fun hc => ?_)
    ·replace b1 := condT hc b1
     conv => whnf
     have e := Option.some.inj b1
     replace e := hret1 _ e.symm
     rw [e] at r1
     replace e := Option.some.inj r1
     subst e
     repeat' first | exact rA _ | (refine W.drawn TT_ok hmix1 rfl ?_; conv => whnf) | exact clA _ | (refine And.intro ?_ ?_ <;> conv => whnf) | exact clG _ | (refine gand ?_ h; assumption) | exact clN _ | fail
    ·replace b1 := condF hc b1
     conv => whnf
     repeat' first | exact rA _ | refine parkI ?_ | (refine W.drawn TT_ok hmix1 rfl ?_; conv => whnf) | exact clA _ | (refine And.intro ?_ ?_ <;> conv => whnf) | exact clG _ | (refine gand ?_ h; assumption) | exact clN _ | fail
     have e := Option.some.inj b1
     refine LoopW.norm [(0, (LV.ro 2 (a0.map TmC))), (3, (LV.map 0)), (7, (LV.ro 2 (a0.map TmC))), (8, (I (((a0.map TmC).length : Nat) : Int))), (9, (I ((k1 + 1 : Nat) : Int)))] 1 [(0, (.mp ((s1 ++ [(x1.ID, (IntKind.i64.wrap (0 + 1)))]).map (mpC I I))))] ⟨rfl, rfl, rfl, rfl, (congrArg (LV.int .i64) (w64_nat _ (by omega))), trivial⟩ ⟨⟨(congrArg (fun q => some (Blk.mp q)) (by simp only [se_mp] : (((s1.map (mpC I I)) ++ [((I x1.ID), (I (IntKind.i64.wrap (0 + 1))))]) : List (LV × LV)) = ((s1 ++ [(x1.ID, (IntKind.i64.wrap (0 + 1)))]).map (mpC I I)))), rfl, bel_mp (f := I) (g := I) (fun _ => by repeat' first | exact True.intro | refine ⟨?_, ?_⟩) (fun _ => by repeat' first | exact True.intro | refine ⟨?_, ?_⟩) _ _⟩, trivial⟩ blT rfl (K1 _ e.symm)
   ·try simp only [mget_some m1_, mput_some m1_, mhas_some m1_, mget_mput] at b1
    have f1 : Finds TT 3 (setN (s1.map (mpC I I)) w1_ ((I x1.ID), (I (IntKind.i64.wrap (u1_ + 1))))) (I x1.ID) (some (w1_, (I (IntKind.i64.wrap (u1_ + 1))))) := by simpa only [se_mp] using finds_some (f := I) (g := I) ke_3 (mfind_set m1_ (IntKind.i64.wrap (u1_ + 1)))
    replace b1 := bindS b1
    obtain ⟨y2, hy2, b1⟩ := b1
    have c3 := c_wheel_isTimer x1 _ hy2
    replace b1 := bindS b1
    obtain ⟨v4, hv4, b1⟩ := b1
    have i5 := fun hg => gixF (f := TmC) (gdS hg hv4)
    replace b1 := bindS b1
    obtain ⟨y6, hy6, b1⟩ := b1
    have c7 := fun (hg : (bif (!(bif (!y2) then true else (decide (1 < (IntKind.i64.wrap (u1_ + 1)))))) then (decide (0 < ((k1 : Nat) : Int))) else false) = true) => c_wheel_order v4 x1 _ (gdS hg hy6)
    repeat' first | exact rA _ | refine parkI ?_ | (refine ⟨_, (kixF (f := TmC) hx1), ?_⟩; conv => whnf) | (refine ⟨_, (finds_some (g := I) ke_3 m1_), ?_⟩; conv => whnf) | (refine ⟨_, (fun _ => f1), ?_⟩; conv => whnf) | (refine ⟨_, i5, ?_⟩; conv => whnf) | (refine ⟨_, c7, ?_⟩; conv => whnf) | (refine CallP.use c3 ?_; conv => whnf) | (refine ⟨_, _, CallP.at c3, ?_⟩; conv => whnf) | (refine ⟨_, fun _ => c3, ?_⟩; conv => whnf) | (refine W.drawn TT_ok hmix1 rfl ?_; conv => whnf) | exact clA _ | (refine And.intro ?_ ?_ <;> conv => whnf) | exact clG _ | (refine gand ?_ h; assumption) | exact clN _ | fail
    refine parkE (fun hc => ?_) (fun hc => ?_)
    ·replace b1 := condT hc b1
     conv => whnf
     have e := Option.some.inj b1
     replace e := hret1 _ e.symm
     rw [e] at r1
     replace e := Option.some.inj r1
     subst e
     repeat' first | exact rA _ | (refine W.drawn TT_ok hmix1 rfl ?_; conv => whnf) | exact clA _ | (refine And.intro ?_ ?_ <;> conv => whnf) | exact clG _ | (refine gand ?_ h; assumption) | exact clN _ | fail
    ·replace b1 := condF hc b1
     conv => whnf
     repeat' first | exact rA _ | refine parkI ?_ | (refine W.drawn TT_ok hmix1 rfl ?_; conv => whnf) | exact clA _ | (refine And.intro ?_ ?_ <;> conv => whnf) | exact clG _ | (refine gand ?_ h; assumption) | exact clN _ | fail
     have e := Option.some.inj b1
     refine LoopW.norm [(0, (LV.ro 2 (a0.map TmC))), (3, (LV.map 0)), (7, (LV.ro 2 (a0.map TmC))), (8, (I (((a0.map TmC).length : Nat) : Int))), (9, (I ((k1 + 1 : Nat) : Int)))] 1 [(0, (.mp ((s1.set w1_ (x1.ID, (IntKind.i64.wrap (u1_ + 1)))).map (mpC I I))))] ⟨rfl, rfl, rfl, rfl, (congrArg (LV.int .i64) (w64_nat _ (by omega))), trivial⟩ ⟨⟨(congrArg (fun q => some (Blk.mp q)) (by simp only [se_mp] : ((setN (s1.map (mpC I I)) w1_ ((I x1.ID), (I (IntKind.i64.wrap (u1_ + 1))))) : List (LV × LV)) = ((s1.set w1_ (x1.ID, (IntKind.i64.wrap (u1_ + 1)))).map (mpC I I)))), rfl, bel_mp (f := I) (g := I) (fun _ => by repeat' first | exact True.intro | refine ⟨?_, ?_⟩) (fun _ => by repeat' first | exact True.intro | refine ⟨?_, ?_⟩) _ _⟩, trivial⟩ blT rfl (K1 _ e.symm)
  ·exact (Bool.false_ne_true (hc.symm.trans hd)).elim

def slices_IndexFunc_Timer_c0 (q1 : (Tm → Option Bool)) (k3 : Nat) (x3 : Tm) (s3 : Unit) : Option (Step Int Unit) :=
 (q1 x3).bind fun y3 =>
 (bif y3 then
  some (.ret ((k3 : Nat) : Int))
 else
  some (.nxt ()))

def slices_IndexFunc_Timer (a0 : (List Tm)) (q1 : (Tm → Option Bool)) : Option Int :=
 aft (rangeL (slices_IndexFunc_Timer_c0 q1) a0 ()) fun s3 =>
 some (-1)

theorem c_slices_IndexFunc_Timer (a0 : (List Tm)) (fn1 : Nat) (ff1 fc1 : List LV) (q1 : (Tm → Option Bool)) (hq1 : ∀ (x0 : Tm) (r : Bool), q1 x0 = some r → CallP Tryz.prog fn1 (ff1 ++ [(LV.agg [(I x0.ID), (I x0.At)])] ++ fc1) (LV.bool r)) (hn1 : NLs ff1 ∧ NLs fc1) (r : Int) (h : slices_IndexFunc_Timer a0 q1 = some r) : CallP Tryz.prog 62 [(LV.ro 2 (a0.map TmC)), (LV.func (.func fn1) ff1 fc1)] (I r) := by
 have hnA1 := hn1.1
 have hnB1 := hn1.2
 unfold slices_IndexFunc_Timer at h
 refine .intro nlA (.intro TT_ok Tryz.func62 rfl rfl [0, 1, 4, 5, 7, 8, 9, 16] rfl ?_)
 conv => whnf
 repeat' first | exact rA _ | refine parkI ?_ | (refine And.intro ?_ ?_ <;> conv => whnf) | fail
 replace h := aftS h
 obtain ⟨O3, hO3, r3⟩ := h
 refine LoopW.norm [(0, (LV.ro 2 (a0.map TmC))), (1, (LV.func (.func fn1) ff1 fc1)), (7, (I (((a0.map TmC).length : Nat) : Int))), (8, (I ((0 : Nat) : Int)))] 0 [] ⟨rfl, rfl, rfl, rfl, trivial⟩ trivial blT rfl ?_
 refine LoopW.forR (fun k3 s3 => [(0, (LV.ro 2 (a0.map TmC))), (1, (LV.func (.func fn1) ff1 fc1)), (7, (I (((a0.map TmC).length : Nat) : Int))), (8, (I ((k3 : Nat) : Int)))]) (fun s3 => ⟨0, []⟩) hO3 (fun hl3 s3 hs3 => ?_) (fun hl3 k3 x3 s3 o3 hk3 hx3 b3 K3 hret3 hbrk3 => ?_)
 ·rw [hs3] at r3
  dsimp only [aftM] at r3
  have hd : decide (((a0.length : Nat) : Int) < (((a0.map TmC).length : Nat) : Int)) = false := by rw [decide_eq_false_iff_not]; (try simp only [se_len, se_ch, List.length_map]); omega
  refine LoopW.round TT_ok [0, 1, 4, 5, 7, 8, 9, 16] ?_
  conv => whnf
  repeat' first | exact rA _ | refine parkI ?_ | (refine And.intro ?_ ?_ <;> conv => whnf) | fail
  refine parkE (fun hc => ?_) (fun hc => ?_)
  ·exact (Bool.false_ne_true (hd.symm.trans hc)).elim
  ·clear hd
   conv => whnf
   have e := Option.some.inj r3
   subst e
   repeat' first | exact rA _ | exact clA _ | (refine And.intro ?_ ?_ <;> conv => whnf) | exact clG _ | (refine gand ?_ h; assumption) | exact clN _ | fail
 ·unfold slices_IndexFunc_Timer_c0 at b3
  have hd : decide (((k3 : Nat) : Int) < (((a0.map TmC).length : Nat) : Int)) = true := by rw [decide_eq_true_eq]; (try simp only [se_len, se_ch, List.length_map] at hk3); (try simp only [se_len, se_ch, List.length_map]); omega
  refine LoopW.round TT_ok [0, 1, 4, 5, 7, 8, 9, 16] ?_
  conv => whnf
  repeat' first | exact rA _ | refine parkI ?_ | (refine And.intro ?_ ?_ <;> conv => whnf) | fail
  refine parkE (fun hc => ?_) (fun hc => ?_)
  ·clear hd
   conv => whnf
   replace b3 := bindS b3
   obtain ⟨y3, hy3, b3⟩ := b3
   have c4 := hq1 x3 _ hy3
   repeat' first | exact rA _ | refine parkI ?_ | (refine ⟨_, (kixF (f := TmC) hx3), ?_⟩; conv => whnf) | (refine CallP.use c4 ?_; conv => whnf) | (refine frzB_call rfl (slN_nil hn1) ?_; conv => whnf) | (refine And.intro ?_ ?_ <;> conv => whnf) | fail
   refine parkE (fun hc => ?_) (fun hc => ?_)
   ·replace b3 := condT hc b3
    conv => whnf
    have e := Option.some.inj b3
    replace e := hret3 _ e.symm
    rw [e] at r3
    replace e := Option.some.inj r3
    subst e
    repeat' first | exact rA _ | exact clA _ | (refine And.intro ?_ ?_ <;> conv => whnf) | exact clG _ | (refine gand ?_ h; assumption) | exact clN _ | fail
   ·replace b3 := condF hc b3
    conv => whnf
    repeat' first | exact rA _ | refine parkI ?_ | (refine And.intro ?_ ?_ <;> conv => whnf) | fail
    have e := Option.some.inj b3
    refine LoopW.norm [(0, (LV.ro 2 (a0.map TmC))), (1, (LV.func (.func fn1) ff1 fc1)), (7, (I (((a0.map TmC).length : Nat) : Int))), (8, (I ((k3 + 1 : Nat) : Int)))] 0 [] ⟨rfl, rfl, rfl, (congrArg (LV.int .i64) (w64_nat _ (by omega))), trivial⟩ trivial blT rfl (K3 _ e.symm)
  ·exact (Bool.false_ne_true (hc.symm.trans hd)).elim

def wheel_Advance_1 (a0 : Tm) (q1 : Int) : Option Bool :=
 some (decide (q1 < a0.At))

theorem c_wheel_Advance_1 (a0 : Tm) (q1 : Int) (r : Bool) (h : wheel_Advance_1 a0 q1 = some r) : CallP Tryz.prog 63 [(LV.agg [(I a0.ID), (I a0.At)]), (LV.rptr [(I q1)])] (LV.bool r) := by
 unfold wheel_Advance_1 at h
 refine .intro nlA (.intro TT_ok Tryz.func63 rfl rfl [0, 1, 2, 3] rfl ?_)
 conv => whnf
 have e := Option.some.inj h
 subst e
 repeat' first | exact rA _ | exact clA _ | (refine And.intro ?_ ?_ <;> conv => whnf) | exact clG _ | (refine gand ?_ h; assumption) | exact clN _ | fail

def wheel_Advance (a0 : (List Tm)) (a1 : Int) : Option ((List Tm) × (List Tm) × Int) :=
 (wheel_Right a0).bind fun y1 =>
 (bif (bif (bif (!y1) then true else (decide (a1 < 0))) then true else (decide (1099511627776 < a1))) then
  some ([], [], 1)
 else
  (slices_IndexFunc_Timer a0 (fun x0_ => wheel_Advance_1 x0_ a1)).bind fun y3 =>
  (bif (decide (y3 < 0)) then
   grd ((0 : Int) ≤ ((a0.length : Nat) : Int) ∧ ((a0.length : Nat) : Int) ≤ ((a0.length : Nat) : Int)) <|
   grd ((0 : Int) ≤ ((a0.length : Nat) : Int) ∧ (((a0.length : Nat) : Int) : Int) ≤ ((a0.length : Nat) : Int) ∧ ((a0.length : Nat) : Int) ≤ ((a0.length : Nat) : Int)) <|
   some ((a0.drop (((a0.length : Nat) : Int) : Int).toNat), (a0.take (((a0.length : Nat) : Int) : Int).toNat), 0)
  else
   grd ((0 : Int) ≤ y3 ∧ y3 ≤ ((a0.length : Nat) : Int)) <|
   grd ((0 : Int) ≤ y3 ∧ (y3 : Int) ≤ y3 ∧ y3 ≤ ((a0.length : Nat) : Int)) <|
   some ((a0.drop (y3 : Int).toNat), (a0.take (y3 : Int).toNat), 0)))

theorem c_wheel_Advance (a0 : (List Tm)) (a1 : Int) (r : ((List Tm) × (List Tm) × Int)) (h : wheel_Advance a0 a1 = some r) : CallP Tryz.prog 29 [(LV.ro 2 (a0.map TmC)), (I a1)] (LV.tup [(LV.ro 2 (r.1.map TmC)), (LV.ro 2 (r.2.1.map TmC)), (I r.2.2)]) := by
 unfold wheel_Advance at h
 refine .intro nlA (.intro TT_ok Tryz.func29 rfl rfl [0, 1, 3, 4, 5, 6, 7, 18, 23] rfl ?_)
 conv => whnf
 replace h := bindS h
 obtain ⟨y1, hy1, h⟩ := h
 have c2 := c_wheel_Right a0 _ hy1
 repeat' first | exact rA _ | refine parkI ?_ | (refine CallP.use c2 ?_; conv => whnf) | (refine ⟨_, _, CallP.at c2, ?_⟩; conv => whnf) | (refine ⟨_, fun _ => c2, ?_⟩; conv => whnf) | (refine W.drawn TT_ok hmix1 rfl ?_; conv => whnf) | exact clA _ | (refine And.intro ?_ ?_ <;> conv => whnf) | exact clG _ | (refine gand ?_ h; assumption) | exact clN _ | fail
 refine parkE (fun hc => ?_) (fun hc => ?_)
 ·replace h := condT hc h
  conv => whnf
  have e := Option.some.inj h
  subst e
  repeat' first | exact rA _ | (refine W.drawn TT_ok hmix1 rfl ?_; conv => whnf) | exact clA _ | (refine And.intro ?_ ?_ <;> conv => whnf) | exact clG _ | (refine gand ?_ h; assumption) | exact clN _ | fail
 ·replace h := condF hc h
  conv => whnf
  replace h := bindS h
  obtain ⟨y3, hy3, h⟩ := h
  have c4 := c_slices_IndexFunc_Timer a0 63 [] [(LV.rptr [(I a1)])] (fun x0_ => wheel_Advance_1 x0_ a1) (fun x0_ r h => c_wheel_Advance_1 x0_ a1 r h) nlB _ hy3
  repeat' first | exact rA _ | refine parkI ?_ | (refine CallP.use c4 ?_; conv => whnf) | (refine ⟨_, _, CallP.at c4, ?_⟩; conv => whnf) | (refine ⟨_, fun _ => c4, ?_⟩; conv => whnf) | (refine W.drawn TT_ok hmix1 rfl ?_; conv => whnf) | exact clA _ | (refine And.intro ?_ ?_ <;> conv => whnf) | exact clG _ | (refine gand ?_ h; assumption) | exact clN _ | fail
  refine parkE (fun hc => ?_) (fun hc => ?_)
  ·replace h := condT hc h
   conv => whnf
   replace h := grdS h
   obtain ⟨g5, h⟩ := h
   replace g5 : (0 : Int) ≤ (((a0.map TmC).length : Nat) : Int) ∧ (((a0.map TmC).length : Nat) : Int) ≤ (((a0.map TmC).length : Nat) : Int) := by simpa only [se_len, se_ch, List.length_map] using g5
   replace h := grdS h
   obtain ⟨g6, h⟩ := h
   replace g6 : (0 : Int) ≤ (((a0.map TmC).length : Nat) : Int) ∧ ((((a0.map TmC).length : Nat) : Int) : Int) ≤ (((a0.map TmC).length : Nat) : Int) ∧ (((a0.map TmC).length : Nat) : Int) ≤ (((a0.map TmC).length : Nat) : Int) := by simpa only [se_len, se_ch, List.length_map] using g6
   have e := Option.some.inj h
   subst e
   repeat' first | exact rA _ | exact g5 | exact g6 | (refine W.drawn TT_ok hmix1 rfl ?_; conv => whnf) | exact clA _ | (refine And.intro ?_ ?_ <;> conv => whnf) | exact clG _ | (refine gand ?_ h; assumption) | exact clN _ | fail
  ·replace h := condF hc h
   conv => whnf
   replace h := grdS h
   obtain ⟨g7, h⟩ := h
   replace g7 : (0 : Int) ≤ y3 ∧ y3 ≤ (((a0.map TmC).length : Nat) : Int) := by simpa only [se_len, se_ch, List.length_map] using g7
   replace h := grdS h
   obtain ⟨g8, h⟩ := h
   replace g8 : (0 : Int) ≤ y3 ∧ (y3 : Int) ≤ y3 ∧ y3 ≤ (((a0.map TmC).length : Nat) : Int) := by simpa only [se_len, se_ch, List.length_map] using g8
   have e := Option.some.inj h
   subst e
   repeat' first | exact rA _ | exact g7 | exact g8 | (refine W.drawn TT_ok hmix1 rfl ?_; conv => whnf) | exact clA _ | (refine And.intro ?_ ?_ <;> conv => whnf) | exact clG _ | (refine gand ?_ h; assumption) | exact clN _ | fail

end Go.RX
