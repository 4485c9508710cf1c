/- Plain functions, and what says that the program's functions compute them. -/
import Derived.Test.YtljecfgfbebjiaaKd
set_option linter.unusedVariables false
set_option linter.unusedSimpArgs false
open Go Go.RX Go.Proofs
namespace Go.RX
set_option maxRecDepth 10000
set_option maxHeartbeats 4000000
attribute [local irreducible] CallW CallP LoopW W IntKind.wrap bitI
def law16_shaped_c0 (a1 : (List (List Int))) (k24 : Nat) (x24 : PlanT) (s24 : Unit) : Option (Step Bool Unit) :=
 (gix a1 ((k24 : Nat) : Int)).bind fun v7 =>
 (bif (!decide (((v7.length : Nat) : Int) = ((x24.Ports.length : Nat) : Int))) then
  some (.ret false)
 else
  some (.nxt ()))

def law16_shaped (a0 : LanT) (a1 : (List (List Int))) : Option Bool :=
 (bif (!decide (((a1.length : Nat) : Int) = ((a0.Plans.length : Nat) : Int))) then
  some false
 else
  aft (rangeL (law16_shaped_c0 a1) a0.Plans ()) fun s24 =>
  some true)

theorem c_law16_shaped (a0 : LanT) (a1 : (List (List Int))) (r : Bool) (h : law16_shaped a0 a1 = some r) : CallP Try.prog 12 [(LV.agg [(I a0.Segs), (LV.ro 2 (a0.Plans.map PlanT.cells)), (LV.ro 2 (a0.Hosts.map HostT.cells))]), (LV.ro 1 (a1.map (roC 1 iC)))] (LV.bool r) := by
 unfold law16_shaped at h
 refine .intro nlA (.intro TT_ok Try.func12 rfl rfl [0, 1, 2, 4, 5, 6, 12, 14, 15, 16, 17, 29] rfl ?_)
 conv => whnf
 repeat' first | exact rA _ | refine parkI ?_ | (refine W.drawn TT_ok hmix1 rfl ?_; conv => whnf) | exact clA _ | (refine And.intro ?_ ?_ <;> conv => whnf) | exact clG _ | (refine gand ?_ h; assumption) | exact clN _ | fail
 refine parkE (fun hc => ?_) (fun hc => ?_)
 ·replace h := condT (by first | exact hc | (simpa only [se_len, se_ch, List.length_map] using hc; done) | (have h0 : (!decide ((((a1.map (roC 1 iC)).length : Nat) : Int) = (((a0.Plans.map PlanT.cells).length : Nat) : Int))) = true := hc; simpa only [se_len, se_ch, List.length_map] using h0)) h
  conv => whnf
  have e := Option.some.inj h
  subst e
  repeat' first | exact rA _ | (refine W.drawn TT_ok hmix1 rfl ?_; conv => whnf) | exact clA _ | (refine And.intro ?_ ?_ <;> conv => whnf) | exact clG _ | (refine gand ?_ h; assumption) | exact clN _ | fail
 ·replace h := condF (by first | exact hc | (simpa only [se_len, se_ch, List.length_map] using hc; done) | (have h0 : (!decide ((((a1.map (roC 1 iC)).length : Nat) : Int) = (((a0.Plans.map PlanT.cells).length : Nat) : Int))) = false := hc; simpa only [se_len, se_ch, List.length_map] using h0)) h
  conv => whnf
  repeat' first | exact rA _ | refine parkI ?_ | (refine W.drawn TT_ok hmix1 rfl ?_; conv => whnf) | exact clA _ | (refine And.intro ?_ ?_ <;> conv => whnf) | exact clG _ | (refine gand ?_ h; assumption) | exact clN _ | fail
  replace h := aftS h
  obtain ⟨O24, hO24, r24⟩ := h
  refine LoopW.norm [(1, (LV.ro 1 (a1.map (roC 1 iC)))), (14, (LV.ro 2 (a0.Plans.map PlanT.cells))), (15, (I (((a0.Plans.map PlanT.cells).length : Nat) : Int))), (16, (I ((0 : Nat) : Int)))] 0 [] ⟨rfl, rfl, rfl, rfl, trivial⟩ trivial blT rfl ?_
  refine LoopW.forR (fun k24 s24 => [(1, (LV.ro 1 (a1.map (roC 1 iC)))), (14, (LV.ro 2 (a0.Plans.map PlanT.cells))), (15, (I (((a0.Plans.map PlanT.cells).length : Nat) : Int))), (16, (I ((k24 : Nat) : Int)))]) (fun s24 => ⟨0, []⟩) hO24 (fun hl24 s24 hs24 => ?_) (fun hl24 k24 x24 s24 o24 hk24 hx24 b24 K24 hret24 hbrk24 => ?_)
  ·rw [hs24] at r24
   dsimp only [aftM] at r24
   have hd : decide (((a0.Plans.length : Nat) : Int) < (((a0.Plans.map PlanT.cells).length : Nat) : Int)) = false := by rw [decide_eq_false_iff_not]; (try simp only [se_len, se_ch, List.length_map]); omega
   refine LoopW.round TT_ok [0, 1, 2, 4, 5, 6, 12, 14, 15, 16, 17, 29] ?_
   conv => whnf
   repeat' first | exact rA _ | refine parkI ?_ | (refine W.drawn TT_ok hmix1 rfl ?_; conv => whnf) | exact clA _ | (refine And.intro ?_ ?_ <;> conv => whnf) | exact clG _ | (refine gand ?_ h; assumption) | exact clN _ | fail
   refine parkE (fun hc => ?_) (fun hc => ?_)
   ·exact (Bool.false_ne_true (hd.symm.trans hc)).elim
   ·clear hd
    conv => whnf
    have e := Option.some.inj r24
    subst e
    repeat' first | exact rA _ | (refine W.drawn TT_ok hmix1 rfl ?_; conv => whnf) | exact clA _ | (refine And.intro ?_ ?_ <;> conv => whnf) | exact clG _ | (refine gand ?_ h; assumption) | exact clN _ | fail
  ·unfold law16_shaped_c0 at b24
   have hd : decide (((k24 : Nat) : Int) < (((a0.Plans.map PlanT.cells).length : Nat) : Int)) = true := by rw [decide_eq_true_eq]; (try simp only [se_len, se_ch, List.length_map] at hk24); (try simp only [se_len, se_ch, List.length_map]); omega
   refine LoopW.round TT_ok [0, 1, 2, 4, 5, 6, 12, 14, 15, 16, 17, 29] ?_
   conv => whnf
   repeat' first | exact rA _ | refine parkI ?_ | (refine W.drawn TT_ok hmix1 rfl ?_; conv => whnf) | exact clA _ | (refine And.intro ?_ ?_ <;> conv => whnf) | exact clG _ | (refine gand ?_ h; assumption) | exact clN _ | fail
   refine parkE (fun hc => ?_) (fun hc => ?_)
   ·clear hd
    conv => whnf
    replace b24 := bindS b24
    obtain ⟨v7, hv7, b24⟩ := b24
    have i8 := gixF (f := (roC 1 iC)) hv7
    repeat' first | exact rA _ | refine parkI ?_ | (refine ⟨_, (kixF (f := PlanT.cells) hx24), ?_⟩; conv => whnf) | (refine ⟨_, i8, ?_⟩; conv => whnf) | (refine W.drawn TT_ok hmix1 rfl ?_; conv => whnf) | exact clA _ | (refine And.intro ?_ ?_ <;> conv => whnf) | exact clG _ | (refine gand ?_ h; assumption) | exact clN _ | fail
    refine parkE (fun hc => ?_) (fun hc => ?_)
    ·replace b24 := condT (by first | exact hc | (simpa only [se_len, se_ch, List.length_map] using hc; done) | (have h0 : (!decide ((((v7.map iC).length : Nat) : Int) = (((x24.Ports.map LinkT.cells).length : Nat) : Int))) = true := hc; simpa only [se_len, se_ch, List.length_map] using h0)) b24
     conv => whnf
     have e := Option.some.inj b24
     replace e := hret24 _ e.symm
     rw [e] at r24
     replace e := Option.some.inj r24
     subst e
     repeat' first | exact rA _ | (refine W.drawn TT_ok hmix1 rfl ?_; conv => whnf) | exact clA _ | (refine And.intro ?_ ?_ <;> conv => whnf) | exact clG _ | (refine gand ?_ h; assumption) | exact clN _ | fail
    ·replace b24 := condF (by first | exact hc | (simpa only [se_len, se_ch, List.length_map] using hc; done) | (have h0 : (!decide ((((v7.map iC).length : Nat) : Int) = (((x24.Ports.map LinkT.cells).length : Nat) : Int))) = false := hc; simpa only [se_len, se_ch, List.length_map] using h0)) b24
     conv => whnf
     repeat' first | exact rA _ | refine parkI ?_ | (refine W.drawn TT_ok hmix1 rfl ?_; conv => whnf) | exact clA _ | (refine And.intro ?_ ?_ <;> conv => whnf) | exact clG _ | (refine gand ?_ h; assumption) | exact clN _ | fail
     have e := Option.some.inj b24
     refine LoopW.norm [(1, (LV.ro 1 (a1.map (roC 1 iC)))), (14, (LV.ro 2 (a0.Plans.map PlanT.cells))), (15, (I (((a0.Plans.map PlanT.cells).length : Nat) : Int))), (16, (I ((k24 + 1 : Nat) : Int)))] 0 [] ⟨rfl, rfl, rfl, (congrArg (LV.int .i64) (w64_nat _ (by omega))), trivial⟩ trivial blT rfl (K24 _ e.symm)
   ·exact (Bool.false_ne_true (hc.symm.trans hd)).elim

def law16_TreeRoots_c1 (y3 : ((List (List Int)) × Int)) (y11 : (A2_Int × Bool × Int)) (k26 : Nat) (x26 : A2_Int) (s26 : Unit) : Option (Step (Step Bool Unit) Unit) :=
 (gd (!(bif (bif (decide (x26.c0 < 0)) then true else (decide (((y3.1.length : Nat) : Int) ≤ x26.c0))) then true else (decide (x26.c1 < 0)))) (gix y3.1 x26.c0)).bind fun v15 =>
 (gd (!(bif (bif (bif (decide (x26.c0 < 0)) then true else (decide (((y3.1.length : Nat) : Int) ≤ x26.c0))) then true else (decide (x26.c1 < 0))) then true else (decide (((v15.length : Nat) : Int) ≤ x26.c1)))) (gix y3.1 x26.c0)).bind fun v17 =>
 (gd (!(bif (bif (bif (decide (x26.c0 < 0)) then true else (decide (((y3.1.length : Nat) : Int) ≤ x26.c0))) then true else (decide (x26.c1 < 0))) then true else (decide (((v15.length : Nat) : Int) ≤ x26.c1)))) (gix v17 x26.c1)).bind fun v19 =>
 (bif (bif (bif (bif (bif (decide (x26.c0 < 0)) then true else (decide (((y3.1.length : Nat) : Int) ≤ x26.c0))) then true else (decide (x26.c1 < 0))) then true else (decide (((v15.length : Nat) : Int) ≤ x26.c1))) then true else (!((decide (v19 = 1)) == ((decide (x26.c0 = y11.1.c0)) && ((decide (x26.c1 = y11.1.c1)) && true))))) then
  some (.ret (.ret false))
 else
  some (.nxt ()))

def law16_TreeRoots_c0 (y1 : LanT) (y3 : ((List (List Int)) × Int)) (k25 : Nat) (s25 : Unit) : Option (Step Bool Unit) :=
 (tree_Own y1 ((k25 : Nat) : Int)).bind fun y11 =>
 (lan_On y1 ((k25 : Nat) : Int)).bind fun y13 =>
 (bif (bif (bif (!decide (y11.2.2 = 0)) then true else (!decide (y13.2.2 = 0))) then true else (!(y11.2.1 == (decide (0 < ((y13.2.1.length : Nat) : Int)))))) then
  some (.ret false)
 else
  aft (rangeL (law16_TreeRoots_c1 y3 y11) y13.2.1 ()) fun s26 =>
  some (.nxt ()))

def law16_TreeRoots_c3 (y1 : LanT) (k27 : Nat) (y21 : (Int × Int × Int)) (k28 : Nat) (x28 : Int) (s28 : (Int × Int)) : Option (Step (Step Bool Unit) (Int × Int)) :=
 (gix y1.Plans ((k27 : Nat) : Int)).bind fun v23 =>
 (gix v23.Ports ((k28 : Nat) : Int)).bind fun v25 =>
 (bif v25.Up then
  (bif (!decide (x28 = 0)) then
   some (.nxt (s28.1, (IntKind.i64.wrap (s28.2 + 1))))
  else
   (tree_Own y1 v25.Seg).bind fun y27 =>
   (bif (bif (!decide (y27.2.2 = 0)) then true else (!y27.2.1)) then
    some (.ret (.ret false))
   else
    (tree_Best y1 y27.1.c0).bind fun y29 =>
    (bif (bif (bif (bif (!decide (y29.2.2 = 0)) then true else (!decide (y29.1 = y21.1))) then true else (!decide (y21.2.1 = (IntKind.i64.wrap (y29.2.1 + v25.Cost))))) then true else (decide (y27.1.c0 = ((k27 : Nat) : Int)))) then
     some (.ret (.ret false))
    else
     some (.nxt ((IntKind.i64.wrap (s28.1 + 1)), (IntKind.i64.wrap (s28.2 + 1)))))))
 else
  (bif (!decide (x28 = 0)) then
   some (.nxt (s28.1, s28.2))
  else
   (tree_Own y1 v25.Seg).bind fun y31 =>
   (bif (bif (!decide (y31.2.2 = 0)) then true else (!y31.2.1)) then
    some (.ret (.ret false))
   else
    (tree_Best y1 y31.1.c0).bind fun y33 =>
    (bif (bif (bif (bif (!decide (y33.2.2 = 0)) then true else (!decide (y33.1 = y21.1))) then true else (!decide (y21.2.1 = (IntKind.i64.wrap (y33.2.1 + v25.Cost))))) then true else (decide (y31.1.c0 = ((k27 : Nat) : Int)))) then
     some (.ret (.ret false))
    else
     some (.nxt ((IntKind.i64.wrap (s28.1 + 1)), s28.2))))))

def law16_TreeRoots_c2 (y1 : LanT) (k27 : Nat) (x27 : (List Int)) (s27 : Unit) : Option (Step Bool Unit) :=
 (tree_Best y1 ((k27 : Nat) : Int)).bind fun y21 =>
 (bif (!decide (y21.2.2 = 0)) then
  some (.ret false)
 else
  aft (rangeL (law16_TreeRoots_c3 y1 k27 y21) x27 (0, 0)) fun s28 =>
  (gix y1.Plans ((k27 : Nat) : Int)).bind fun v35 =>
  (bif (bif (bif (bif (bif (decide (y21.1 = v35.ID)) then (bif (!decide (s28.1 = 0)) then true else (!decide (y21.2.1 = 0))) else false) then true else (bif (!(decide (y21.1 = v35.ID))) then (!decide (s28.1 = 1)) else false)) then true else (decide (v35.ID < y21.1))) then true else (bif (decide (s28.2 = 0)) then (!(decide (y21.1 = v35.ID))) else false)) then
   some (.ret false)
  else
   some (.nxt ())))

def law16_TreeRoots (a0 : LanT) : Option Bool :=
 (law16_few a0).bind fun y1 =>
 (tree_Roles y1).bind fun y3 =>
 (bif (!decide (y3.2 = 0)) then
  (law16_alive ).bind fun y5 =>
  some (bif y5 then (decide (y3.2 = 1)) else false)
 else
  (law16_shaped y1 y3.1).bind fun y7 =>
  (gd (!(!y7)) (law16_alive )).bind fun y9 =>
  (bif (bif (!y7) then true else (!y9)) then
   some false
  else
   aft (rangeN (law16_TreeRoots_c0 y1 y3) y1.Segs ()) fun s25 =>
   aft (rangeL (law16_TreeRoots_c2 y1) y3.1 ()) fun s27 =>
   some true))

theorem c_law16_TreeRoots (a0 : LanT) (r : Bool) (h : law16_TreeRoots a0 = some r) : CallP Try.prog 4 [(LV.agg [(I a0.Segs), (LV.ro 2 (a0.Plans.map PlanT.cells)), (LV.ro 2 (a0.Hosts.map HostT.cells))])] (LV.bool r) := by
 unfold law16_TreeRoots at h
 refine .intro nlA (.intro TT_ok Try.func4 rfl rfl [0, 1, 2, 3, 4, 5, 6, 7, 8, 10, 11, 13, 14, 15, 16, 17, 18, 19, 20, 21, 22, 23, 24, 25, 26, 27, 28, 29, 38, 51, 53, 54, 55, 83, 84, 85, 86, 87, 131, 134, 135, 136, 137, 149, 150, 151, 152, 153, 166, 170, 194, 231, 275] rfl ?_)
 conv => whnf
 replace h := bindS h
 obtain ⟨y1, hy1, h⟩ := h
 have c2 := c_law16_few a0 _ hy1
 replace h := bindS h
 obtain ⟨y3, hy3, h⟩ := h
 have c4 := c_tree_Roles y1 _ hy3
 repeat' first | exact rA _ | refine parkI ?_ | (refine CallP.use c2 ?_; conv => whnf) | (refine ⟨_, _, CallP.at c2, ?_⟩; conv => whnf) | (refine ⟨_, fun _ => c2, ?_⟩; conv => whnf) | (refine CallP.use c4 ?_; conv => whnf) | (refine ⟨_, _, CallP.at c4, ?_⟩; conv => whnf) | (refine ⟨_, fun _ => c4, ?_⟩; conv => whnf) | (refine W.drawn TT_ok hmix1 rfl ?_; conv => whnf) | (refine W.drawnM (id := 35) 0 TT_ok hmix1 [0, 0, 0, 0, 0, 0, 0, 0, 0, 0, 0, 0, 0, 0, 0, 0, 0, 1, 2, 2] [1, 1, 1, 1, 1, 1, 1, 1, 1, 1, 1, 1, 1, 1, 2, 2, 1, 2, 2, 2] rfl ?_; conv => whnf) | exact clA _ | (refine And.intro ?_ ?_ <;> conv => whnf) | exact clG _ | (refine gand ?_ h; assumption) | exact clN _ | fail
 refine parkE (fun hc => ?_) (fun hc => ?_)
 ·replace h := condT hc h
  conv => whnf
  replace h := bindS h
  obtain ⟨y5, hy5, h⟩ := h
  have c6 := c_law16_alive  _ hy5
  have e := Option.some.inj h
  subst e
  repeat' first | exact rA _ | (refine CallP.use c6 ?_; conv => whnf) | (refine ⟨_, _, CallP.at c6, ?_⟩; conv => whnf) | (refine ⟨_, fun _ => c6, ?_⟩; conv => whnf) | (refine W.drawn TT_ok hmix1 rfl ?_; conv => whnf) | (refine W.drawnM (id := 35) 0 TT_ok hmix1 [0, 0, 0, 0, 0, 0, 0, 0, 0, 0, 0, 0, 0, 0, 0, 0, 0, 1, 2, 2] [1, 1, 1, 1, 1, 1, 1, 1, 1, 1, 1, 1, 1, 1, 2, 2, 1, 2, 2, 2] rfl ?_; conv => whnf) | exact clA _ | (refine And.intro ?_ ?_ <;> conv => whnf) | exact clG _ | (refine gand ?_ h; assumption) | exact clN _ | fail
 ·replace h := condF hc h
  conv => whnf
  replace h := bindS h
  obtain ⟨y7, hy7, h⟩ := h
  have c8 := c_law16_shaped y1 y3.1 _ hy7
  replace h := bindS h
  obtain ⟨y9, hy9, h⟩ := h
  have c10 := fun (hg : (!(!y7)) = true) => c_law16_alive  _ (gdS hg hy9)
  repeat' first | exact rA _ | refine parkI ?_ | (refine ⟨_, c10, ?_⟩; conv => whnf) | (refine CallP.use c8 ?_; conv => whnf) | (refine ⟨_, _, CallP.at c8, ?_⟩; conv => whnf) | (refine ⟨_, fun _ => c8, ?_⟩; conv => whnf) | (refine W.drawn TT_ok hmix1 rfl ?_; conv => whnf) | (refine W.drawnM (id := 35) 0 TT_ok hmix1 [0, 0, 0, 0, 0, 0, 0, 0, 0, 0, 0, 0, 0, 0, 0, 0, 0, 1, 2, 2] [1, 1, 1, 1, 1, 1, 1, 1, 1, 1, 1, 1, 1, 1, 2, 2, 1, 2, 2, 2] rfl ?_; conv => whnf) | exact clA _ | (refine And.intro ?_ ?_ <;> conv => whnf) | exact clG _ | (refine gand ?_ h; assumption) | exact clN _ | fail
  refine parkE (fun hc => ?_) (fun hc => ?_)
  ·replace h := condT hc h
   conv => whnf
   have e := Option.some.inj h
   subst e
   repeat' first | exact rA _ | (refine W.drawn TT_ok hmix1 rfl ?_; conv => whnf) | (refine W.drawnM (id := 35) 0 TT_ok hmix1 [0, 0, 0, 0, 0, 0, 0, 0, 0, 0, 0, 0, 0, 0, 0, 0, 0, 1, 2, 2] [1, 1, 1, 1, 1, 1, 1, 1, 1, 1, 1, 1, 1, 1, 2, 2, 1, 2, 2, 2] rfl ?_; conv => whnf) | exact clA _ | (refine And.intro ?_ ?_ <;> conv => whnf) | exact clG _ | (refine gand ?_ h; assumption) | exact clN _ | fail
  ·replace h := condF hc h
   conv => whnf
   repeat' first | exact rA _ | refine parkI ?_ | (refine W.drawn TT_ok hmix1 rfl ?_; conv => whnf) | (refine W.drawnM (id := 35) 0 TT_ok hmix1 [0, 0, 0, 0, 0, 0, 0, 0, 0, 0, 0, 0, 0, 0, 0, 0, 0, 1, 2, 2] [1, 1, 1, 1, 1, 1, 1, 1, 1, 1, 1, 1, 1, 1, 2, 2, 1, 2, 2, 2] rfl ?_; conv => whnf) | exact clA _ | (refine And.intro ?_ ?_ <;> conv => whnf) | exact clG _ | (refine gand ?_ h; assumption) | exact clN _ | fail
   replace h := aftS h
   obtain ⟨O25, hO25, r25⟩ := h
   refine LoopW.norm [(1, (LV.ptr 0 0 0)), (3, (LV.ro 1 (y3.1.map (roC 1 iC)))), (53, (I y1.Segs)), (54, (I ((0 : Nat) : Int)))] 1 [(0, (.row 25 3 [[(I y1.Segs), (LV.ro 2 (y1.Plans.map PlanT.cells)), (LV.ro 2 (y1.Hosts.map HostT.cells))]]))] ⟨rfl, rfl, rfl, rfl, trivial⟩ ⟨⟨rfl, rfl, blT⟩, trivial⟩ blT rfl ?_
   refine LoopW.forN (fun k25 s25 => [(1, (LV.ptr 0 0 0)), (3, (LV.ro 1 (y3.1.map (roC 1 iC)))), (53, (I y1.Segs)), (54, (I ((k25 : Nat) : Int)))]) (fun s25 => ⟨1, [(0, (.row 25 3 [[(I y1.Segs), (LV.ro 2 (y1.Plans.map PlanT.cells)), (LV.ro 2 (y1.Hosts.map HostT.cells))]]))]⟩) hO25 (fun hl25 s25 hs25 => ?_) (fun hl25 k25 s25 o25 hk25 b25 K25 hret25 hbrk25 => ?_)
   ·rw [hs25] at r25
    dsimp only [aftM] at r25
    have hd : decide ((((y1.Segs : Int).toNat : Nat) : Int) < y1.Segs) = false := by rw [decide_eq_false_iff_not]; (try simp only [se_len, se_ch, List.length_map]); omega
    refine LoopW.round TT_ok [0, 1, 2, 3, 4, 5, 6, 7, 8, 10, 11, 13, 14, 15, 16, 17, 18, 19, 20, 21, 22, 23, 24, 25, 26, 27, 28, 29, 38, 51, 53, 54, 55, 83, 84, 85, 86, 87, 131, 134, 135, 136, 137, 149, 150, 151, 152, 153, 166, 170, 194, 231, 275] ?_
    conv => whnf
    repeat' first | exact rA _ | refine parkI ?_ | (refine W.drawn TT_ok hmix1 rfl ?_; conv => whnf) | (refine W.drawnM (id := 35) 0 TT_ok hmix1 [0, 0, 0, 0, 0, 0, 0, 0, 0, 0, 0, 0, 0, 0, 0, 0, 0, 1, 2, 2] [1, 1, 1, 1, 1, 1, 1, 1, 1, 1, 1, 1, 1, 1, 2, 2, 1, 2, 2, 2] rfl ?_; conv => whnf) | exact clA _ | (refine And.intro ?_ ?_ <;> conv => whnf) | exact clG _ | (refine gand ?_ h; assumption) | exact clN _ | fail
    refine parkE (fun hc => ?_) (fun hc => ?_)
    ·exact (Bool.false_ne_true (hd.symm.trans hc)).elim
    ·clear hd
     conv => whnf
     repeat' first | exact rA _ | refine parkI ?_ | (refine W.drawn TT_ok hmix1 rfl ?_; conv => whnf) | (refine W.drawnM (id := 35) 0 TT_ok hmix1 [0, 0, 0, 0, 0, 0, 0, 0, 0, 0, 0, 0, 0, 0, 0, 0, 0, 1, 2, 2] [1, 1, 1, 1, 1, 1, 1, 1, 1, 1, 1, 1, 1, 1, 2, 2, 1, 2, 2, 2] rfl ?_; conv => whnf) | exact clA _ | (refine And.intro ?_ ?_ <;> conv => whnf) | exact clG _ | (refine gand ?_ h; assumption) | exact clN _ | fail
     replace r25 := aftS r25
     obtain ⟨O27, hO27, r27⟩ := r25
     refine LoopW.norm [(1, (LV.ptr 0 0 0)), (134, (LV.ro 1 (y3.1.map (roC 1 iC)))), (135, (I (((y3.1.map (roC 1 iC)).length : Nat) : Int))), (136, (I ((0 : Nat) : Int)))] 1 [(0, (.row 25 3 [[(I y1.Segs), (LV.ro 2 (y1.Plans.map PlanT.cells)), (LV.ro 2 (y1.Hosts.map HostT.cells))]]))] ⟨rfl, rfl, rfl, rfl, trivial⟩ ⟨⟨rfl, rfl, blT⟩, trivial⟩ blT rfl ?_
     refine LoopW.forR (fun k27 s27 => [(1, (LV.ptr 0 0 0)), (134, (LV.ro 1 (y3.1.map (roC 1 iC)))), (135, (I (((y3.1.map (roC 1 iC)).length : Nat) : Int))), (136, (I ((k27 : Nat) : Int)))]) (fun s27 => ⟨1, [(0, (.row 25 3 [[(I y1.Segs), (LV.ro 2 (y1.Plans.map PlanT.cells)), (LV.ro 2 (y1.Hosts.map HostT.cells))]]))]⟩) hO27 (fun hl27 s27 hs27 => ?_) (fun hl27 k27 x27 s27 o27 hk27 hx27 b27 K27 hret27 hbrk27 => ?_)
     ·rw [hs27] at r27
      dsimp only [aftM] at r27
      have hd : decide (((y3.1.length : Nat) : Int) < (((y3.1.map (roC 1 iC)).length : Nat) : Int)) = false := by rw [decide_eq_false_iff_not]; (try simp only [se_len, se_ch, List.length_map]); omega
      refine LoopW.round TT_ok [0, 1, 2, 3, 4, 5, 6, 7, 8, 10, 11, 13, 14, 15, 16, 17, 18, 19, 20, 21, 22, 23, 24, 25, 26, 27, 28, 29, 38, 51, 53, 54, 55, 83, 84, 85, 86, 87, 131, 134, 135, 136, 137, 149, 150, 151, 152, 153, 166, 170, 194, 231, 275] ?_
      conv => whnf
      repeat' first | exact rA _ | refine parkI ?_ | (refine W.drawn TT_ok hmix1 rfl ?_; conv => whnf) | (refine W.drawnM (id := 35) 0 TT_ok hmix1 [0, 0, 0, 0, 0, 0, 0, 0, 0, 0, 0, 0, 0, 0, 0, 0, 0, 1, 2, 2] [1, 1, 1, 1, 1, 1, 1, 1, 1, 1, 1, 1, 1, 1, 2, 2, 1, 2, 2, 2] rfl ?_; conv => whnf) | exact clA _ | (refine And.intro ?_ ?_ <;> conv => whnf) | exact clG _ | (refine gand ?_ h; assumption) | exact clN _ | fail
      refine parkE (fun hc => ?_) (fun hc => ?_)
      ·exact (Bool.false_ne_true (hd.symm.trans hc)).elim
      ·clear hd
       conv => whnf
       have e := Option.some.inj r27
       subst e
       repeat' first | exact rA _ | (refine W.drawn TT_ok hmix1 rfl ?_; conv => whnf) | (refine W.drawnM (id := 35) 0 TT_ok hmix1 [0, 0, 0, 0, 0, 0, 0, 0, 0, 0, 0, 0, 0, 0, 0, 0, 0, 1, 2, 2] [1, 1, 1, 1, 1, 1, 1, 1, 1, 1, 1, 1, 1, 1, 2, 2, 1, 2, 2, 2] rfl ?_; conv => whnf) | exact clA _ | (refine And.intro ?_ ?_ <;> conv => whnf) | exact clG _ | (refine gand ?_ h; assumption) | exact clN _ | fail
     ·unfold law16_TreeRoots_c2 at b27
      have hd : decide (((k27 : Nat) : Int) < (((y3.1.map (roC 1 iC)).length : Nat) : Int)) = true := by rw [decide_eq_true_eq]; (try simp only [se_len, se_ch, List.length_map] at hk27); (try simp only [se_len, se_ch, List.length_map]); omega
      refine LoopW.round TT_ok [0, 1, 2, 3, 4, 5, 6, 7, 8, 10, 11, 13, 14, 15, 16, 17, 18, 19, 20, 21, 22, 23, 24, 25, 26, 27, 28, 29, 38, 51, 53, 54, 55, 83, 84, 85, 86, 87, 131, 134, 135, 136, 137, 149, 150, 151, 152, 153, 166, 170, 194, 231, 275] ?_
      conv => whnf
      repeat' first | exact rA _ | refine parkI ?_ | (refine W.drawn TT_ok hmix1 rfl ?_; conv => whnf) | (refine W.drawnM (id := 35) 0 TT_ok hmix1 [0, 0, 0, 0, 0, 0, 0, 0, 0, 0, 0, 0, 0, 0, 0, 0, 0, 1, 2, 2] [1, 1, 1, 1, 1, 1, 1, 1, 1, 1, 1, 1, 1, 1, 2, 2, 1, 2, 2, 2] rfl ?_; conv => whnf) | exact clA _ | (refine And.intro ?_ ?_ <;> conv => whnf) | exact clG _ | (refine gand ?_ h; assumption) | exact clN _ | fail
      refine parkE (fun hc => ?_) (fun hc => ?_)
      ·clear hd
       conv => whnf
       replace b27 := bindS b27
       obtain ⟨y21, hy21, b27⟩ := b27
       have c22 := c_tree_Best y1 ((k27 : Nat) : Int) _ hy21
       repeat' first | exact rA _ | refine parkI ?_ | (refine ⟨_, (kixF (f := (roC 1 iC)) hx27), ?_⟩; conv => whnf) | (refine CallP.use c22 ?_; conv => whnf) | (refine ⟨_, _, CallP.at c22, ?_⟩; conv => whnf) | (refine ⟨_, fun _ => c22, ?_⟩; conv => whnf) | (refine W.drawn TT_ok hmix1 rfl ?_; conv => whnf) | (refine W.drawnM (id := 35) 0 TT_ok hmix1 [0, 0, 0, 0, 0, 0, 0, 0, 0, 0, 0, 0, 0, 0, 0, 0, 0, 1, 2, 2] [1, 1, 1, 1, 1, 1, 1, 1, 1, 1, 1, 1, 1, 1, 2, 2, 1, 2, 2, 2] rfl ?_; conv => whnf) | exact clA _ | (refine And.intro ?_ ?_ <;> conv => whnf) | exact clG _ | (refine gand ?_ h; assumption) | exact clN _ | fail
       refine parkE (fun hc => ?_) (fun hc => ?_)
       ·replace b27 := condT hc b27
        conv => whnf
        have e := Option.some.inj b27
        replace e := hret27 _ e.symm
        rw [e] at r27
        replace e := Option.some.inj r27
        subst e
        repeat' first | exact rA _ | (refine W.drawn TT_ok hmix1 rfl ?_; conv => whnf) | (refine W.drawnM (id := 35) 0 TT_ok hmix1 [0, 0, 0, 0, 0, 0, 0, 0, 0, 0, 0, 0, 0, 0, 0, 0, 0, 1, 2, 2] [1, 1, 1, 1, 1, 1, 1, 1, 1, 1, 1, 1, 1, 1, 2, 2, 1, 2, 2, 2] rfl ?_; conv => whnf) | exact clA _ | (refine And.intro ?_ ?_ <;> conv => whnf) | exact clG _ | (refine gand ?_ h; assumption) | exact clN _ | fail
       ·replace b27 := condF hc b27
        conv => whnf
        repeat' first | exact rA _ | refine parkI ?_ | (refine W.drawn TT_ok hmix1 rfl ?_; conv => whnf) | (refine W.drawnM (id := 35) 0 TT_ok hmix1 [0, 0, 0, 0, 0, 0, 0, 0, 0, 0, 0, 0, 0, 0, 0, 0, 0, 1, 2, 2] [1, 1, 1, 1, 1, 1, 1, 1, 1, 1, 1, 1, 1, 1, 2, 2, 1, 2, 2, 2] rfl ?_; conv => whnf) | exact clA _ | (refine And.intro ?_ ?_ <;> conv => whnf) | exact clG _ | (refine gand ?_ h; assumption) | exact clN _ | fail
        replace b27 := aftS b27
        obtain ⟨O28, hO28, r28⟩ := b27
        refine LoopW.norm [(1, (LV.ptr 0 0 0)), (14, (I ((k27 : Nat) : Int))), (16, (I y21.1)), (17, (I y21.2.1)), (19, (I (0, 0).1)), (20, (I (0, 0).2)), (134, (LV.ro 1 (y3.1.map (roC 1 iC)))), (135, (I (((y3.1.map (roC 1 iC)).length : Nat) : Int))), (136, (I ((k27 : Nat) : Int))), (150, (LV.ro 1 (x27.map iC))), (151, (I (((x27.map iC).length : Nat) : Int))), (152, (I ((0 : Nat) : Int)))] 1 [(0, (.row 25 3 [[(I y1.Segs), (LV.ro 2 (y1.Plans.map PlanT.cells)), (LV.ro 2 (y1.Hosts.map HostT.cells))]]))] ⟨rfl, rfl, rfl, rfl, (smT : ((I 0) : LV) = (I (0, 0).1)), (smT : ((I 0) : LV) = (I (0, 0).2)), rfl, rfl, rfl, rfl, rfl, rfl, trivial⟩ ⟨⟨rfl, rfl, blT⟩, trivial⟩ blT rfl ?_
        refine LoopW.forR (fun k28 s28 => [(1, (LV.ptr 0 0 0)), (14, (I ((k27 : Nat) : Int))), (16, (I y21.1)), (17, (I y21.2.1)), (19, (I s28.1)), (20, (I s28.2)), (134, (LV.ro 1 (y3.1.map (roC 1 iC)))), (135, (I (((y3.1.map (roC 1 iC)).length : Nat) : Int))), (136, (I ((k27 : Nat) : Int))), (150, (LV.ro 1 (x27.map iC))), (151, (I (((x27.map iC).length : Nat) : Int))), (152, (I ((k28 : Nat) : Int)))]) (fun s28 => ⟨1, [(0, (.row 25 3 [[(I y1.Segs), (LV.ro 2 (y1.Plans.map PlanT.cells)), (LV.ro 2 (y1.Hosts.map HostT.cells))]]))]⟩) hO28 (fun hl28 s28 hs28 => ?_) (fun hl28 k28 x28 s28 o28 hk28 hx28 b28 K28 hret28 hbrk28 => ?_)
        ·rw [hs28] at r28
         dsimp only [aftM] at r28
         have hd : decide (((x27.length : Nat) : Int) < (((x27.map iC).length : Nat) : Int)) = false := by rw [decide_eq_false_iff_not]; (try simp only [se_len, se_ch, List.length_map]); omega
         refine LoopW.round TT_ok [0, 1, 2, 3, 4, 5, 6, 7, 8, 10, 11, 13, 14, 15, 16, 17, 18, 19, 20, 21, 22, 23, 24, 25, 26, 27, 28, 29, 38, 51, 53, 54, 55, 83, 84, 85, 86, 87, 131, 134, 135, 136, 137, 149, 150, 151, 152, 153, 166, 170, 194, 231, 275] ?_
         conv => whnf
         repeat' first | exact rA _ | refine parkI ?_ | (refine W.drawn TT_ok hmix1 rfl ?_; conv => whnf) | (refine W.drawnM (id := 35) 0 TT_ok hmix1 [0, 0, 0, 0, 0, 0, 0, 0, 0, 0, 0, 0, 0, 0, 0, 0, 0, 1, 2, 2] [1, 1, 1, 1, 1, 1, 1, 1, 1, 1, 1, 1, 1, 1, 2, 2, 1, 2, 2, 2] rfl ?_; conv => whnf) | exact clA _ | (refine And.intro ?_ ?_ <;> conv => whnf) | exact clG _ | (refine gand ?_ h; assumption) | exact clN _ | fail
         refine parkE (fun hc => ?_) (fun hc => ?_)
         ·exact (Bool.false_ne_true (hd.symm.trans hc)).elim
         ·clear hd
          conv => whnf
          replace r28 := bindS r28
          obtain ⟨v35, hv35, r28⟩ := r28
          have i36 := gixF (f := PlanT.cells) hv35
          repeat' first | exact rA _ | refine parkI ?_ | (refine ⟨_, i36, ?_⟩; conv => whnf) | (refine ⟨_, (fun _ => i36), ?_⟩; conv => whnf) | (refine W.drawn TT_ok hmix1 rfl ?_; conv => whnf) | (refine W.drawnM (id := 35) 0 TT_ok hmix1 [0, 0, 0, 0, 0, 0, 0, 0, 0, 0, 0, 0, 0, 0, 0, 0, 0, 1, 2, 2] [1, 1, 1, 1, 1, 1, 1, 1, 1, 1, 1, 1, 1, 1, 2, 2, 1, 2, 2, 2] rfl ?_; conv => whnf) | exact clA _ | (refine And.intro ?_ ?_ <;> conv => whnf) | exact clG _ | (refine gand ?_ h; assumption) | exact clN _ | fail
          refine parkE (fun hc => ?_) (fun hc => ?_)
          ·replace r28 := condT hc r28
           conv => whnf
           have e := Option.some.inj r28
           replace e := hret27 _ e.symm
           rw [e] at r27
           replace e := Option.some.inj r27
           subst e
           repeat' first | exact rA _ | (refine W.drawn TT_ok hmix1 rfl ?_; conv => whnf) | (refine W.drawnM (id := 35) 0 TT_ok hmix1 [0, 0, 0, 0, 0, 0, 0, 0, 0, 0, 0, 0, 0, 0, 0, 0, 0, 1, 2, 2] [1, 1, 1, 1, 1, 1, 1, 1, 1, 1, 1, 1, 1, 1, 2, 2, 1, 2, 2, 2] rfl ?_; conv => whnf) | exact clA _ | (refine And.intro ?_ ?_ <;> conv => whnf) | exact clG _ | (refine gand ?_ h; assumption) | exact clN _ | fail
          ·replace r28 := condF hc r28
           conv => whnf
           repeat' first | exact rA _ | refine parkI ?_ | (refine W.drawn TT_ok hmix1 rfl ?_; conv => whnf) | (refine W.drawnM (id := 35) 0 TT_ok hmix1 [0, 0, 0, 0, 0, 0, 0, 0, 0, 0, 0, 0, 0, 0, 0, 0, 0, 1, 2, 2] [1, 1, 1, 1, 1, 1, 1, 1, 1, 1, 1, 1, 1, 1, 2, 2, 1, 2, 2, 2] rfl ?_; conv => whnf) | exact clA _ | (refine And.intro ?_ ?_ <;> conv => whnf) | exact clG _ | (refine gand ?_ h; assumption) | exact clN _ | fail
           have e := Option.some.inj r28
           refine LoopW.norm [(1, (LV.ptr 0 0 0)), (134, (LV.ro 1 (y3.1.map (roC 1 iC)))), (135, (I (((y3.1.map (roC 1 iC)).length : Nat) : Int))), (136, (I ((k27 + 1 : Nat) : Int)))] 1 [(0, (.row 25 3 [[(I y1.Segs), (LV.ro 2 (y1.Plans.map PlanT.cells)), (LV.ro 2 (y1.Hosts.map HostT.cells))]]))] ⟨rfl, rfl, rfl, (congrArg (LV.int .i64) (w64_nat _ (by omega))), trivial⟩ ⟨⟨rfl, rfl, blT⟩, trivial⟩ blT rfl (K27 _ e.symm)
        ·unfold law16_TreeRoots_c3 at b28
         have hd : decide (((k28 : Nat) : Int) < (((x27.map iC).length : Nat) : Int)) = true := by rw [decide_eq_true_eq]; (try simp only [se_len, se_ch, List.length_map] at hk28); (try simp only [se_len, se_ch, List.length_map]); omega
         refine LoopW.round TT_ok [0, 1, 2, 3, 4, 5, 6, 7, 8, 10, 11, 13, 14, 15, 16, 17, 18, 19, 20, 21, 22, 23, 24, 25, 26, 27, 28, 29, 38, 51, 53, 54, 55, 83, 84, 85, 86, 87, 131, 134, 135, 136, 137, 149, 150, 151, 152, 153, 166, 170, 194, 231, 275] ?_
         conv => whnf
         repeat' first | exact rA _ | refine parkI ?_ | (refine W.drawn TT_ok hmix1 rfl ?_; conv => whnf) | (refine W.drawnM (id := 35) 0 TT_ok hmix1 [0, 0, 0, 0, 0, 0, 0, 0, 0, 0, 0, 0, 0, 0, 0, 0, 0, 1, 2, 2] [1, 1, 1, 1, 1, 1, 1, 1, 1, 1, 1, 1, 1, 1, 2, 2, 1, 2, 2, 2] rfl ?_; conv => whnf) | exact clA _ | (refine And.intro ?_ ?_ <;> conv => whnf) | exact clG _ | (refine gand ?_ h; assumption) | exact clN _ | fail
         refine parkE (fun hc => ?_) (fun hc => ?_)
         ·clear hd
          conv => whnf
          replace b28 := bindS b28
          obtain ⟨v23, hv23, b28⟩ := b28
          have i24 := gixF (f := PlanT.cells) hv23
          replace b28 := bindS b28
          obtain ⟨v25, hv25, b28⟩ := b28
          have i26 := gixF (f := LinkT.cells) hv25
          repeat' first | exact rA _ | refine parkI ?_ | (refine ⟨_, (kixF (f := iC) hx28), ?_⟩; conv => whnf) | (refine ⟨_, i24, ?_⟩; conv => whnf) | (refine ⟨_, i26, ?_⟩; conv => whnf) | (refine W.drawn TT_ok hmix1 rfl ?_; conv => whnf) | (refine W.drawnM (id := 35) 0 TT_ok hmix1 [0, 0, 0, 0, 0, 0, 0, 0, 0, 0, 0, 0, 0, 0, 0, 0, 0, 1, 2, 2] [1, 1, 1, 1, 1, 1, 1, 1, 1, 1, 1, 1, 1, 1, 2, 2, 1, 2, 2, 2] rfl ?_; conv => whnf) | exact clA _ | (refine And.intro ?_ ?_ <;> conv => whnf) | exact clG _ | (refine gand ?_ h; assumption) | exact clN _ | fail
          refine parkE (fun hc => ?_) (fun hc => ?_)
          ·replace b28 := condT hc b28
           conv => whnf
           repeat' first | exact rA _ | refine parkI ?_ | (refine W.drawn TT_ok hmix1 rfl ?_; conv => whnf) | (refine W.drawnM (id := 35) 0 TT_ok hmix1 [0, 0, 0, 0, 0, 0, 0, 0, 0, 0, 0, 0, 0, 0, 0, 0, 0, 1, 2, 2] [1, 1, 1, 1, 1, 1, 1, 1, 1, 1, 1, 1, 1, 1, 2, 2, 1, 2, 2, 2] rfl ?_; conv => whnf) | exact clA _ | (refine And.intro ?_ ?_ <;> conv => whnf) | exact clG _ | (refine gand ?_ h; assumption) | exact clN _ | fail
           refine parkE (fun hc => ?_) (fun hc => ?_)
           ·replace b28 := condT hc b28
            conv => whnf
            repeat' first | exact rA _ | refine parkI ?_ | (refine W.drawn TT_ok hmix1 rfl ?_; conv => whnf) | (refine W.drawnM (id := 35) 0 TT_ok hmix1 [0, 0, 0, 0, 0, 0, 0, 0, 0, 0, 0, 0, 0, 0, 0, 0, 0, 1, 2, 2] [1, 1, 1, 1, 1, 1, 1, 1, 1, 1, 1, 1, 1, 1, 2, 2, 1, 2, 2, 2] rfl ?_; conv => whnf) | exact clA _ | (refine And.intro ?_ ?_ <;> conv => whnf) | exact clG _ | (refine gand ?_ h; assumption) | exact clN _ | fail
            have e := Option.some.inj b28
            refine LoopW.norm [(1, (LV.ptr 0 0 0)), (14, (I ((k27 : Nat) : Int))), (16, (I y21.1)), (17, (I y21.2.1)), (19, (I (s28.1, (IntKind.i64.wrap (s28.2 + 1))).1)), (20, (I (s28.1, (IntKind.i64.wrap (s28.2 + 1))).2)), (134, (LV.ro 1 (y3.1.map (roC 1 iC)))), (135, (I (((y3.1.map (roC 1 iC)).length : Nat) : Int))), (136, (I ((k27 : Nat) : Int))), (150, (LV.ro 1 (x27.map iC))), (151, (I (((x27.map iC).length : Nat) : Int))), (152, (I ((k28 + 1 : Nat) : Int)))] 1 [(0, (.row 25 3 [[(I y1.Segs), (LV.ro 2 (y1.Plans.map PlanT.cells)), (LV.ro 2 (y1.Hosts.map HostT.cells))]]))] ⟨rfl, rfl, rfl, rfl, (smT : ((I s28.1) : LV) = (I (s28.1, (IntKind.i64.wrap (s28.2 + 1))).1)), (smT : ((I (IntKind.i64.wrap (s28.2 + 1))) : LV) = (I (s28.1, (IntKind.i64.wrap (s28.2 + 1))).2)), rfl, rfl, rfl, rfl, rfl, (congrArg (LV.int .i64) (w64_nat _ (by omega))), trivial⟩ ⟨⟨rfl, rfl, blT⟩, trivial⟩ blT rfl (K28 _ e.symm)
           ·replace b28 := condF hc b28
            conv => whnf
            replace b28 := bindS b28
            obtain ⟨y27, hy27, b28⟩ := b28
            have c28 := c_tree_Own y1 v25.Seg _ hy27
            repeat' first | exact rA _ | refine parkI ?_ | (refine ⟨_, i24, ?_⟩; conv => whnf) | (refine ⟨_, i26, ?_⟩; conv => whnf) | (refine CallP.use c28 ?_; conv => whnf) | (refine ⟨_, _, CallP.at c28, ?_⟩; conv => whnf) | (refine ⟨_, fun _ => c28, ?_⟩; conv => whnf) | (refine W.drawn TT_ok hmix1 rfl ?_; conv => whnf) | (refine W.drawnM (id := 35) 0 TT_ok hmix1 [0, 0, 0, 0, 0, 0, 0, 0, 0, 0, 0, 0, 0, 0, 0, 0, 0, 1, 2, 2] [1, 1, 1, 1, 1, 1, 1, 1, 1, 1, 1, 1, 1, 1, 2, 2, 1, 2, 2, 2] rfl ?_; conv => whnf) | exact clA _ | (refine And.intro ?_ ?_ <;> conv => whnf) | exact clG _ | (refine gand ?_ h; assumption) | exact clN _ | fail
            refine parkE (fun hc => ?_) (fun hc => ?_)
            ·replace b28 := condT hc b28
             conv => whnf
             have e := Option.some.inj b28
             replace e := hret28 _ e.symm
             rw [e] at r28
             replace e := Option.some.inj r28
             replace e := hret27 _ e.symm
             rw [e] at r27
             replace e := Option.some.inj r27
             subst e
             repeat' first | exact rA _ | (refine W.drawn TT_ok hmix1 rfl ?_; conv => whnf) | (refine W.drawnM (id := 35) 0 TT_ok hmix1 [0, 0, 0, 0, 0, 0, 0, 0, 0, 0, 0, 0, 0, 0, 0, 0, 0, 1, 2, 2] [1, 1, 1, 1, 1, 1, 1, 1, 1, 1, 1, 1, 1, 1, 2, 2, 1, 2, 2, 2] rfl ?_; conv => whnf) | exact clA _ | (refine And.intro ?_ ?_ <;> conv => whnf) | exact clG _ | (refine gand ?_ h; assumption) | exact clN _ | fail
            ·replace b28 := condF hc b28
             conv => whnf
             replace b28 := bindS b28
             obtain ⟨y29, hy29, b28⟩ := b28
             have c30 := c_tree_Best y1 y27.1.c0 _ hy29
             repeat' first | exact rA _ | refine parkI ?_ | (refine ⟨_, (fun _ => i24), ?_⟩; conv => whnf) | (refine ⟨_, (fun _ => i26), ?_⟩; conv => whnf) | (refine CallP.use c30 ?_; conv => whnf) | (refine ⟨_, _, CallP.at c30, ?_⟩; conv => whnf) | (refine ⟨_, fun _ => c30, ?_⟩; conv => whnf) | exact (⟨by decide, by decide⟩ : (0 : Int) ≤ 0 ∧ (0 : Int) < 2) | exact fun _ => (⟨by decide, by decide⟩ : (0 : Int) ≤ 0 ∧ (0 : Int) < 2) | (refine W.drawn TT_ok hmix1 rfl ?_; conv => whnf) | (refine W.drawnM (id := 35) 0 TT_ok hmix1 [0, 0, 0, 0, 0, 0, 0, 0, 0, 0, 0, 0, 0, 0, 0, 0, 0, 1, 2, 2] [1, 1, 1, 1, 1, 1, 1, 1, 1, 1, 1, 1, 1, 1, 2, 2, 1, 2, 2, 2] rfl ?_; conv => whnf) | exact clA _ | (refine And.intro ?_ ?_ <;> conv => whnf) | exact clG _ | (refine gand ?_ h; assumption) | exact clN _ | fail
             refine parkE (fun hc => ?_) (fun hc => ?_)
             ·replace b28 := condT hc b28
              conv => whnf
              have e := Option.some.inj b28
              replace e := hret28 _ e.symm
              rw [e] at r28
              replace e := Option.some.inj r28
              replace e := hret27 _ e.symm
              rw [e] at r27
              replace e := Option.some.inj r27
              subst e
              repeat' first | exact rA _ | (refine W.drawn TT_ok hmix1 rfl ?_; conv => whnf) | (refine W.drawnM (id := 35) 0 TT_ok hmix1 [0, 0, 0, 0, 0, 0, 0, 0, 0, 0, 0, 0, 0, 0, 0, 0, 0, 1, 2, 2] [1, 1, 1, 1, 1, 1, 1, 1, 1, 1, 1, 1, 1, 1, 2, 2, 1, 2, 2, 2] rfl ?_; conv => whnf) | exact clA _ | (refine And.intro ?_ ?_ <;> conv => whnf) | exact clG _ | (refine gand ?_ h; assumption) | exact clN _ | fail
             ·replace b28 := condF hc b28
              conv => whnf
              repeat' first | exact rA _ | refine parkI ?_ | (refine W.drawn TT_ok hmix1 rfl ?_; conv => whnf) | (refine W.drawnM (id := 35) 0 TT_ok hmix1 [0, 0, 0, 0, 0, 0, 0, 0, 0, 0, 0, 0, 0, 0, 0, 0, 0, 1, 2, 2] [1, 1, 1, 1, 1, 1, 1, 1, 1, 1, 1, 1, 1, 1, 2, 2, 1, 2, 2, 2] rfl ?_; conv => whnf) | exact clA _ | (refine And.intro ?_ ?_ <;> conv => whnf) | exact clG _ | (refine gand ?_ h; assumption) | exact clN _ | fail
              have e := Option.some.inj b28
              refine LoopW.norm [(1, (LV.ptr 0 0 0)), (14, (I ((k27 : Nat) : Int))), (16, (I y21.1)), (17, (I y21.2.1)), (19, (I ((IntKind.i64.wrap (s28.1 + 1)), (IntKind.i64.wrap (s28.2 + 1))).1)), (20, (I ((IntKind.i64.wrap (s28.1 + 1)), (IntKind.i64.wrap (s28.2 + 1))).2)), (134, (LV.ro 1 (y3.1.map (roC 1 iC)))), (135, (I (((y3.1.map (roC 1 iC)).length : Nat) : Int))), (136, (I ((k27 : Nat) : Int))), (150, (LV.ro 1 (x27.map iC))), (151, (I (((x27.map iC).length : Nat) : Int))), (152, (I ((k28 + 1 : Nat) : Int)))] 1 [(0, (.row 25 3 [[(I y1.Segs), (LV.ro 2 (y1.Plans.map PlanT.cells)), (LV.ro 2 (y1.Hosts.map HostT.cells))]]))] ⟨rfl, rfl, rfl, rfl, (smT : ((I (IntKind.i64.wrap (s28.1 + 1))) : LV) = (I ((IntKind.i64.wrap (s28.1 + 1)), (IntKind.i64.wrap (s28.2 + 1))).1)), (smT : ((I (IntKind.i64.wrap (s28.2 + 1))) : LV) = (I ((IntKind.i64.wrap (s28.1 + 1)), (IntKind.i64.wrap (s28.2 + 1))).2)), rfl, rfl, rfl, rfl, rfl, (congrArg (LV.int .i64) (w64_nat _ (by omega))), trivial⟩ ⟨⟨rfl, rfl, blT⟩, trivial⟩ blT rfl (K28 _ e.symm)
          ·replace b28 := condF hc b28
           conv => whnf
           repeat' first | exact rA _ | refine parkI ?_ | (refine W.drawn TT_ok hmix1 rfl ?_; conv => whnf) | (refine W.drawnM (id := 35) 0 TT_ok hmix1 [0, 0, 0, 0, 0, 0, 0, 0, 0, 0, 0, 0, 0, 0, 0, 0, 0, 1, 2, 2] [1, 1, 1, 1, 1, 1, 1, 1, 1, 1, 1, 1, 1, 1, 2, 2, 1, 2, 2, 2] rfl ?_; conv => whnf) | exact clA _ | (refine And.intro ?_ ?_ <;> conv => whnf) | exact clG _ | (refine gand ?_ h; assumption) | exact clN _ | fail
           refine parkE (fun hc => ?_) (fun hc => ?_)
           ·replace b28 := condT hc b28
            conv => whnf
            repeat' first | exact rA _ | refine parkI ?_ | (refine W.drawn TT_ok hmix1 rfl ?_; conv => whnf) | (refine W.drawnM (id := 35) 0 TT_ok hmix1 [0, 0, 0, 0, 0, 0, 0, 0, 0, 0, 0, 0, 0, 0, 0, 0, 0, 1, 2, 2] [1, 1, 1, 1, 1, 1, 1, 1, 1, 1, 1, 1, 1, 1, 2, 2, 1, 2, 2, 2] rfl ?_; conv => whnf) | exact clA _ | (refine And.intro ?_ ?_ <;> conv => whnf) | exact clG _ | (refine gand ?_ h; assumption) | exact clN _ | fail
            have e := Option.some.inj b28
            refine LoopW.norm [(1, (LV.ptr 0 0 0)), (14, (I ((k27 : Nat) : Int))), (16, (I y21.1)), (17, (I y21.2.1)), (19, (I (s28.1, s28.2).1)), (20, (I (s28.1, s28.2).2)), (134, (LV.ro 1 (y3.1.map (roC 1 iC)))), (135, (I (((y3.1.map (roC 1 iC)).length : Nat) : Int))), (136, (I ((k27 : Nat) : Int))), (150, (LV.ro 1 (x27.map iC))), (151, (I (((x27.map iC).length : Nat) : Int))), (152, (I ((k28 + 1 : Nat) : Int)))] 1 [(0, (.row 25 3 [[(I y1.Segs), (LV.ro 2 (y1.Plans.map PlanT.cells)), (LV.ro 2 (y1.Hosts.map HostT.cells))]]))] ⟨rfl, rfl, rfl, rfl, (smT : ((I s28.1) : LV) = (I (s28.1, s28.2).1)), (smT : ((I s28.2) : LV) = (I (s28.1, s28.2).2)), rfl, rfl, rfl, rfl, rfl, (congrArg (LV.int .i64) (w64_nat _ (by omega))), trivial⟩ ⟨⟨rfl, rfl, blT⟩, trivial⟩ blT rfl (K28 _ e.symm)
           ·replace b28 := condF hc b28
            conv => whnf
            replace b28 := bindS b28
            obtain ⟨y31, hy31, b28⟩ := b28
            have c32 := c_tree_Own y1 v25.Seg _ hy31
            repeat' first | exact rA _ | refine parkI ?_ | (refine ⟨_, i24, ?_⟩; conv => whnf) | (refine ⟨_, i26, ?_⟩; conv => whnf) | (refine CallP.use c32 ?_; conv => whnf) | (refine ⟨_, _, CallP.at c32, ?_⟩; conv => whnf) | (refine ⟨_, fun _ => c32, ?_⟩; conv => whnf) | (refine W.drawn TT_ok hmix1 rfl ?_; conv => whnf) | (refine W.drawnM (id := 35) 0 TT_ok hmix1 [0, 0, 0, 0, 0, 0, 0, 0, 0, 0, 0, 0, 0, 0, 0, 0, 0, 1, 2, 2] [1, 1, 1, 1, 1, 1, 1, 1, 1, 1, 1, 1, 1, 1, 2, 2, 1, 2, 2, 2] rfl ?_; conv => whnf) | exact clA _ | (refine And.intro ?_ ?_ <;> conv => whnf) | exact clG _ | (refine gand ?_ h; assumption) | exact clN _ | fail
            refine parkE (fun hc => ?_) (fun hc => ?_)
            ·replace b28 := condT hc b28
             conv => whnf
             have e := Option.some.inj b28
             replace e := hret28 _ e.symm
             rw [e] at r28
             replace e := Option.some.inj r28
             replace e := hret27 _ e.symm
             rw [e] at r27
             replace e := Option.some.inj r27
             subst e
             repeat' first | exact rA _ | (refine W.drawn TT_ok hmix1 rfl ?_; conv => whnf) | (refine W.drawnM (id := 35) 0 TT_ok hmix1 [0, 0, 0, 0, 0, 0, 0, 0, 0, 0, 0, 0, 0, 0, 0, 0, 0, 1, 2, 2] [1, 1, 1, 1, 1, 1, 1, 1, 1, 1, 1, 1, 1, 1, 2, 2, 1, 2, 2, 2] rfl ?_; conv => whnf) | exact clA _ | (refine And.intro ?_ ?_ <;> conv => whnf) | exact clG _ | (refine gand ?_ h; assumption) | exact clN _ | fail
            ·replace b28 := condF hc b28
             conv => whnf
             replace b28 := bindS b28
             obtain ⟨y33, hy33, b28⟩ := b28
             have c34 := c_tree_Best y1 y31.1.c0 _ hy33
             repeat' first | exact rA _ | refine parkI ?_ | (refine ⟨_, (fun _ => i24), ?_⟩; conv => whnf) | (refine ⟨_, (fun _ => i26), ?_⟩; conv => whnf) | (refine CallP.use c34 ?_; conv => whnf) | (refine ⟨_, _, CallP.at c34, ?_⟩; conv => whnf) | (refine ⟨_, fun _ => c34, ?_⟩; conv => whnf) | exact (⟨by decide, by decide⟩ : (0 : Int) ≤ 0 ∧ (0 : Int) < 2) | exact fun _ => (⟨by decide, by decide⟩ : (0 : Int) ≤ 0 ∧ (0 : Int) < 2) | (refine W.drawn TT_ok hmix1 rfl ?_; conv => whnf) | (refine W.drawnM (id := 35) 0 TT_ok hmix1 [0, 0, 0, 0, 0, 0, 0, 0, 0, 0, 0, 0, 0, 0, 0, 0, 0, 1, 2, 2] [1, 1, 1, 1, 1, 1, 1, 1, 1, 1, 1, 1, 1, 1, 2, 2, 1, 2, 2, 2] rfl ?_; conv => whnf) | exact clA _ | (refine And.intro ?_ ?_ <;> conv => whnf) | exact clG _ | (refine gand ?_ h; assumption) | exact clN _ | fail
             refine parkE (fun hc => ?_) (fun hc => ?_)
             ·replace b28 := condT hc b28
              conv => whnf
              have e := Option.some.inj b28
              replace e := hret28 _ e.symm
              rw [e] at r28
              replace e := Option.some.inj r28
              replace e := hret27 _ e.symm
              rw [e] at r27
              replace e := Option.some.inj r27
              subst e
              repeat' first | exact rA _ | (refine W.drawn TT_ok hmix1 rfl ?_; conv => whnf) | (refine W.drawnM (id := 35) 0 TT_ok hmix1 [0, 0, 0, 0, 0, 0, 0, 0, 0, 0, 0, 0, 0, 0, 0, 0, 0, 1, 2, 2] [1, 1, 1, 1, 1, 1, 1, 1, 1, 1, 1, 1, 1, 1, 2, 2, 1, 2, 2, 2] rfl ?_; conv => whnf) | exact clA _ | (refine And.intro ?_ ?_ <;> conv => whnf) | exact clG _ | (refine gand ?_ h; assumption) | exact clN _ | fail
             ·replace b28 := condF hc b28
              conv => whnf
              repeat' first | exact rA _ | refine parkI ?_ | (refine W.drawn TT_ok hmix1 rfl ?_; conv => whnf) | (refine W.drawnM (id := 35) 0 TT_ok hmix1 [0, 0, 0, 0, 0, 0, 0, 0, 0, 0, 0, 0, 0, 0, 0, 0, 0, 1, 2, 2] [1, 1, 1, 1, 1, 1, 1, 1, 1, 1, 1, 1, 1, 1, 2, 2, 1, 2, 2, 2] rfl ?_; conv => whnf) | exact clA _ | (refine And.intro ?_ ?_ <;> conv => whnf) | exact clG _ | (refine gand ?_ h; assumption) | exact clN _ | fail
              have e := Option.some.inj b28
              refine LoopW.norm [(1, (LV.ptr 0 0 0)), (14, (I ((k27 : Nat) : Int))), (16, (I y21.1)), (17, (I y21.2.1)), (19, (I ((IntKind.i64.wrap (s28.1 + 1)), s28.2).1)), (20, (I ((IntKind.i64.wrap (s28.1 + 1)), s28.2).2)), (134, (LV.ro 1 (y3.1.map (roC 1 iC)))), (135, (I (((y3.1.map (roC 1 iC)).length : Nat) : Int))), (136, (I ((k27 : Nat) : Int))), (150, (LV.ro 1 (x27.map iC))), (151, (I (((x27.map iC).length : Nat) : Int))), (152, (I ((k28 + 1 : Nat) : Int)))] 1 [(0, (.row 25 3 [[(I y1.Segs), (LV.ro 2 (y1.Plans.map PlanT.cells)), (LV.ro 2 (y1.Hosts.map HostT.cells))]]))] ⟨rfl, rfl, rfl, rfl, (smT : ((I (IntKind.i64.wrap (s28.1 + 1))) : LV) = (I ((IntKind.i64.wrap (s28.1 + 1)), s28.2).1)), (smT : ((I s28.2) : LV) = (I ((IntKind.i64.wrap (s28.1 + 1)), s28.2).2)), rfl, rfl, rfl, rfl, rfl, (congrArg (LV.int .i64) (w64_nat _ (by omega))), trivial⟩ ⟨⟨rfl, rfl, blT⟩, trivial⟩ blT rfl (K28 _ e.symm)
         ·exact (Bool.false_ne_true (hc.symm.trans hd)).elim
      ·exact (Bool.false_ne_true (hc.symm.trans hd)).elim
   ·unfold law16_TreeRoots_c0 at b25
    have hd : decide (((k25 : Nat) : Int) < y1.Segs) = true := by rw [decide_eq_true_eq]; (try simp only [se_len, se_ch, List.length_map] at hk25); (try simp only [se_len, se_ch, List.length_map]); omega
    refine LoopW.round TT_ok [0, 1, 2, 3, 4, 5, 6, 7, 8, 10, 11, 13, 14, 15, 16, 17, 18, 19, 20, 21, 22, 23, 24, 25, 26, 27, 28, 29, 38, 51, 53, 54, 55, 83, 84, 85, 86, 87, 131, 134, 135, 136, 137, 149, 150, 151, 152, 153, 166, 170, 194, 231, 275] ?_
    conv => whnf
    repeat' first | exact rA _ | refine parkI ?_ | (refine W.drawn TT_ok hmix1 rfl ?_; conv => whnf) | (refine W.drawnM (id := 35) 0 TT_ok hmix1 [0, 0, 0, 0, 0, 0, 0, 0, 0, 0, 0, 0, 0, 0, 0, 0, 0, 1, 2, 2] [1, 1, 1, 1, 1, 1, 1, 1, 1, 1, 1, 1, 1, 1, 2, 2, 1, 2, 2, 2] rfl ?_; conv => whnf) | exact clA _ | (refine And.intro ?_ ?_ <;> conv => whnf) | exact clG _ | (refine gand ?_ h; assumption) | exact clN _ | fail
    refine parkE (fun hc => ?_) (fun hc => ?_)
    ·clear hd
     conv => whnf
     replace b25 := bindS b25
     obtain ⟨y11, hy11, b25⟩ := b25
     have c12 := c_tree_Own y1 ((k25 : Nat) : Int) _ hy11
     replace b25 := bindS b25
     obtain ⟨y13, hy13, b25⟩ := b25
     have c14 := c_lan_On y1 ((k25 : Nat) : Int) _ hy13
     repeat' first | exact rA _ | refine parkI ?_ | (refine CallP.use c12 ?_; conv => whnf) | (refine ⟨_, _, CallP.at c12, ?_⟩; conv => whnf) | (refine ⟨_, fun _ => c12, ?_⟩; conv => whnf) | (refine CallP.use c14 ?_; conv => whnf) | (refine ⟨_, _, CallP.at c14, ?_⟩; conv => whnf) | (refine ⟨_, fun _ => c14, ?_⟩; conv => whnf) | (refine W.drawn TT_ok hmix1 rfl ?_; conv => whnf) | (refine W.drawnM (id := 35) 0 TT_ok hmix1 [0, 0, 0, 0, 0, 0, 0, 0, 0, 0, 0, 0, 0, 0, 0, 0, 0, 1, 2, 2] [1, 1, 1, 1, 1, 1, 1, 1, 1, 1, 1, 1, 1, 1, 2, 2, 1, 2, 2, 2] rfl ?_; conv => whnf) | exact clA _ | (refine And.intro ?_ ?_ <;> conv => whnf) | exact clG _ | (refine gand ?_ h; assumption) | exact clN _ | fail
     refine parkE (fun hc => ?_) (fun hc => ?_)
     ·replace b25 := condT (by first | exact hc | (simpa only [se_len, se_ch, List.length_map] using hc; done) | (have h0 : (bif (bif (!decide (y11.2.2 = 0)) then true else (!decide (y13.2.2 = 0))) then true else (!(y11.2.1 == (decide (0 < (((y13.2.1.map A2_Int.cells).length : Nat) : Int)))))) = true := hc; simpa only [se_len, se_ch, List.length_map] using h0)) b25
      conv => whnf
      have e := Option.some.inj b25
      replace e := hret25 _ e.symm
      rw [e] at r25
      replace e := Option.some.inj r25
      subst e
      repeat' first | exact rA _ | (refine W.drawn TT_ok hmix1 rfl ?_; conv => whnf) | (refine W.drawnM (id := 35) 0 TT_ok hmix1 [0, 0, 0, 0, 0, 0, 0, 0, 0, 0, 0, 0, 0, 0, 0, 0, 0, 1, 2, 2] [1, 1, 1, 1, 1, 1, 1, 1, 1, 1, 1, 1, 1, 1, 2, 2, 1, 2, 2, 2] rfl ?_; conv => whnf) | exact clA _ | (refine And.intro ?_ ?_ <;> conv => whnf) | exact clG _ | (refine gand ?_ h; assumption) | exact clN _ | fail
     ·replace b25 := condF (by first | exact hc | (simpa only [se_len, se_ch, List.length_map] using hc; done) | (have h0 : (bif (bif (!decide (y11.2.2 = 0)) then true else (!decide (y13.2.2 = 0))) then true else (!(y11.2.1 == (decide (0 < (((y13.2.1.map A2_Int.cells).length : Nat) : Int)))))) = false := hc; simpa only [se_len, se_ch, List.length_map] using h0)) b25
      conv => whnf
      repeat' first | exact rA _ | refine parkI ?_ | (refine W.drawn TT_ok hmix1 rfl ?_; conv => whnf) | (refine W.drawnM (id := 35) 0 TT_ok hmix1 [0, 0, 0, 0, 0, 0, 0, 0, 0, 0, 0, 0, 0, 0, 0, 0, 0, 1, 2, 2] [1, 1, 1, 1, 1, 1, 1, 1, 1, 1, 1, 1, 1, 1, 2, 2, 1, 2, 2, 2] rfl ?_; conv => whnf) | exact clA _ | (refine And.intro ?_ ?_ <;> conv => whnf) | exact clG _ | (refine gand ?_ h; assumption) | exact clN _ | fail
      replace b25 := aftS b25
      obtain ⟨O26, hO26, r26⟩ := b25
      refine LoopW.norm [(1, (LV.ptr 0 0 0)), (3, (LV.ro 1 (y3.1.map (roC 1 iC)))), (6, (LV.ptr 1 0 0)), (53, (I y1.Segs)), (54, (I ((k25 : Nat) : Int))), (84, (LV.ro 2 (y13.2.1.map A2_Int.cells))), (85, (I (((y13.2.1.map A2_Int.cells).length : Nat) : Int))), (86, (I ((0 : Nat) : Int)))] 2 [(0, (.row 25 3 [[(I y1.Segs), (LV.ro 2 (y1.Plans.map PlanT.cells)), (LV.ro 2 (y1.Hosts.map HostT.cells))]])), (1, (.row 41 2 [[(I y11.1.c0), (I y11.1.c1)]]))] ⟨rfl, rfl, rfl, rfl, rfl, rfl, rfl, rfl, trivial⟩ ⟨⟨rfl, rfl, blT⟩, ⟨⟨rfl, rfl, blT⟩, trivial⟩⟩ blT rfl ?_
      refine LoopW.forR (fun k26 s26 => [(1, (LV.ptr 0 0 0)), (3, (LV.ro 1 (y3.1.map (roC 1 iC)))), (6, (LV.ptr 1 0 0)), (53, (I y1.Segs)), (54, (I ((k25 : Nat) : Int))), (84, (LV.ro 2 (y13.2.1.map A2_Int.cells))), (85, (I (((y13.2.1.map A2_Int.cells).length : Nat) : Int))), (86, (I ((k26 : Nat) : Int)))]) (fun s26 => ⟨2, [(0, (.row 25 3 [[(I y1.Segs), (LV.ro 2 (y1.Plans.map PlanT.cells)), (LV.ro 2 (y1.Hosts.map HostT.cells))]])), (1, (.row 41 2 [[(I y11.1.c0), (I y11.1.c1)]]))]⟩) hO26 (fun hl26 s26 hs26 => ?_) (fun hl26 k26 x26 s26 o26 hk26 hx26 b26 K26 hret26 hbrk26 => ?_)
      ·rw [hs26] at r26
       dsimp only [aftM] at r26
       have hd : decide (((y13.2.1.length : Nat) : Int) < (((y13.2.1.map A2_Int.cells).length : Nat) : Int)) = false := by rw [decide_eq_false_iff_not]; (try simp only [se_len, se_ch, List.length_map]); omega
       refine LoopW.round TT_ok [0, 1, 2, 3, 4, 5, 6, 7, 8, 10, 11, 13, 14, 15, 16, 17, 18, 19, 20, 21, 22, 23, 24, 25, 26, 27, 28, 29, 38, 51, 53, 54, 55, 83, 84, 85, 86, 87, 131, 134, 135, 136, 137, 149, 150, 151, 152, 153, 166, 170, 194, 231, 275] ?_
       conv => whnf
       repeat' first | exact rA _ | refine parkI ?_ | (refine W.drawn TT_ok hmix1 rfl ?_; conv => whnf) | (refine W.drawnM (id := 35) 0 TT_ok hmix1 [0, 0, 0, 0, 0, 0, 0, 0, 0, 0, 0, 0, 0, 0, 0, 0, 0, 1, 2, 2] [1, 1, 1, 1, 1, 1, 1, 1, 1, 1, 1, 1, 1, 1, 2, 2, 1, 2, 2, 2] rfl ?_; conv => whnf) | exact clA _ | (refine And.intro ?_ ?_ <;> conv => whnf) | exact clG _ | (refine gand ?_ h; assumption) | exact clN _ | fail
       refine parkE (fun hc => ?_) (fun hc => ?_)
       ·exact (Bool.false_ne_true (hd.symm.trans hc)).elim
       ·clear hd
        conv => whnf
        repeat' first | exact rA _ | refine parkI ?_ | (refine W.drawn TT_ok hmix1 rfl ?_; conv => whnf) | (refine W.drawnM (id := 35) 0 TT_ok hmix1 [0, 0, 0, 0, 0, 0, 0, 0, 0, 0, 0, 0, 0, 0, 0, 0, 0, 1, 2, 2] [1, 1, 1, 1, 1, 1, 1, 1, 1, 1, 1, 1, 1, 1, 2, 2, 1, 2, 2, 2] rfl ?_; conv => whnf) | exact clA _ | (refine And.intro ?_ ?_ <;> conv => whnf) | exact clG _ | (refine gand ?_ h; assumption) | exact clN _ | fail
        have e := Option.some.inj r26
        refine LoopW.norm [(1, (LV.ptr 0 0 0)), (3, (LV.ro 1 (y3.1.map (roC 1 iC)))), (53, (I y1.Segs)), (54, (I ((k25 + 1 : Nat) : Int)))] 1 [(0, (.row 25 3 [[(I y1.Segs), (LV.ro 2 (y1.Plans.map PlanT.cells)), (LV.ro 2 (y1.Hosts.map HostT.cells))]]))] ⟨rfl, rfl, rfl, (congrArg (LV.int .i64) (w64_nat _ (by omega))), trivial⟩ ⟨⟨rfl, rfl, blT⟩, trivial⟩ blT rfl (K25 _ e.symm)
      ·unfold law16_TreeRoots_c1 at b26
       have hd : decide (((k26 : Nat) : Int) < (((y13.2.1.map A2_Int.cells).length : Nat) : Int)) = true := by rw [decide_eq_true_eq]; (try simp only [se_len, se_ch, List.length_map] at hk26); (try simp only [se_len, se_ch, List.length_map]); omega
       refine LoopW.round TT_ok [0, 1, 2, 3, 4, 5, 6, 7, 8, 10, 11, 13, 14, 15, 16, 17, 18, 19, 20, 21, 22, 23, 24, 25, 26, 27, 28, 29, 38, 51, 53, 54, 55, 83, 84, 85, 86, 87, 131, 134, 135, 136, 137, 149, 150, 151, 152, 153, 166, 170, 194, 231, 275] ?_
       conv => whnf
       repeat' first | exact rA _ | refine parkI ?_ | (refine W.drawn TT_ok hmix1 rfl ?_; conv => whnf) | (refine W.drawnM (id := 35) 0 TT_ok hmix1 [0, 0, 0, 0, 0, 0, 0, 0, 0, 0, 0, 0, 0, 0, 0, 0, 0, 1, 2, 2] [1, 1, 1, 1, 1, 1, 1, 1, 1, 1, 1, 1, 1, 1, 2, 2, 1, 2, 2, 2] rfl ?_; conv => whnf) | exact clA _ | (refine And.intro ?_ ?_ <;> conv => whnf) | exact clG _ | (refine gand ?_ h; assumption) | exact clN _ | fail
       refine parkE (fun hc => ?_) (fun hc => ?_)
       ·clear hd
        conv => whnf
        replace b26 := bindS b26
        obtain ⟨v15, hv15, b26⟩ := b26
        have i16 : (!(bif (bif (decide (x26.c0 < 0)) then true else (decide ((((y3.1.map (roC 1 iC)).length : Nat) : Int) ≤ x26.c0))) then true else (decide (x26.c1 < 0)))) = true → (0 : Int) ≤ x26.c0 ∧ (y3.1.map (roC 1 iC))[(x26.c0 : Int).toNat]? = some [(LV.ro 1 (v15.map iC))] := by simpa only [se_map, se_len, se_ch, List.length_map] using (fun hg => gixF (f := (roC 1 iC)) (gdS hg hv15))
        replace b26 := bindS b26
        obtain ⟨v17, hv17, b26⟩ := b26
        have i18 : (!(bif (bif (bif (decide (x26.c0 < 0)) then true else (decide ((((y3.1.map (roC 1 iC)).length : Nat) : Int) ≤ x26.c0))) then true else (decide (x26.c1 < 0))) then true else (decide ((((v15.map iC).length : Nat) : Int) ≤ x26.c1)))) = true → (0 : Int) ≤ x26.c0 ∧ (y3.1.map (roC 1 iC))[(x26.c0 : Int).toNat]? = some [(LV.ro 1 (v17.map iC))] := by simpa only [se_map, se_len, se_ch, List.length_map] using (fun hg => gixF (f := (roC 1 iC)) (gdS hg hv17))
        replace b26 := bindS b26
        obtain ⟨v19, hv19, b26⟩ := b26
        have i20 : (!(bif (bif (bif (decide (x26.c0 < 0)) then true else (decide ((((y3.1.map (roC 1 iC)).length : Nat) : Int) ≤ x26.c0))) then true else (decide (x26.c1 < 0))) then true else (decide ((((v15.map iC).length : Nat) : Int) ≤ x26.c1)))) = true → (0 : Int) ≤ x26.c1 ∧ (v17.map iC)[(x26.c1 : Int).toNat]? = some [(I v19)] := by simpa only [se_map, se_len, se_ch, List.length_map] using (fun hg => gixF (f := iC) (gdS hg hv19))
        repeat' first | exact rA _ | refine parkI ?_ | (refine ⟨_, (kixF (f := A2_Int.cells) hx26), ?_⟩; conv => whnf) | (refine ⟨_, i16, ?_⟩; conv => whnf) | (refine ⟨_, i18, ?_⟩; conv => whnf) | (refine ⟨_, i20, ?_⟩; conv => whnf) | exact (⟨by decide, by decide⟩ : (0 : Int) ≤ 0 ∧ (0 : Int) < 2) | exact fun _ => (⟨by decide, by decide⟩ : (0 : Int) ≤ 0 ∧ (0 : Int) < 2) | exact fun _ => (⟨by decide, by decide⟩ : (0 : Int) ≤ 1 ∧ (1 : Int) < 2) | (refine W.drawn TT_ok hmix1 rfl ?_; conv => whnf) | (refine W.drawnM (id := 35) 0 TT_ok hmix1 [0, 0, 0, 0, 0, 0, 0, 0, 0, 0, 0, 0, 0, 0, 0, 0, 0, 1, 2, 2] [1, 1, 1, 1, 1, 1, 1, 1, 1, 1, 1, 1, 1, 1, 2, 2, 1, 2, 2, 2] rfl ?_; conv => whnf) | exact clA _ | (refine And.intro ?_ ?_ <;> conv => whnf) | exact clG _ | (refine gand ?_ h; assumption) | exact clN _ | fail
        refine parkE (fun hc => ?_) (fun hc => ?_)
        ·replace b26 := condT (by first | exact hc | (simpa only [se_len, se_ch, List.length_map] using hc; done) | (have h0 : (bif (bif (bif (bif (decide (x26.c0 < 0)) then true else (decide ((((y3.1.map (roC 1 iC)).length : Nat) : Int) ≤ x26.c0))) then true else (decide (x26.c1 < 0))) then true else (decide ((((v15.map iC).length : Nat) : Int) ≤ x26.c1))) then true else (!((decide (v19 = 1)) == ((decide (x26.c0 = y11.1.c0)) && ((decide (x26.c1 = y11.1.c1)) && true))))) = true := hc; simpa only [se_len, se_ch, List.length_map] using h0)) b26
         conv => whnf
         have e := Option.some.inj b26
         replace e := hret26 _ e.symm
         rw [e] at r26
         replace e := Option.some.inj r26
         replace e := hret25 _ e.symm
         rw [e] at r25
         replace e := Option.some.inj r25
         subst e
         repeat' first | exact rA _ | (refine W.drawn TT_ok hmix1 rfl ?_; conv => whnf) | (refine W.drawnM (id := 35) 0 TT_ok hmix1 [0, 0, 0, 0, 0, 0, 0, 0, 0, 0, 0, 0, 0, 0, 0, 0, 0, 1, 2, 2] [1, 1, 1, 1, 1, 1, 1, 1, 1, 1, 1, 1, 1, 1, 2, 2, 1, 2, 2, 2] rfl ?_; conv => whnf) | exact clA _ | (refine And.intro ?_ ?_ <;> conv => whnf) | exact clG _ | (refine gand ?_ h; assumption) | exact clN _ | fail
        ·replace b26 := condF (by first | exact hc | (simpa only [se_len, se_ch, List.length_map] using hc; done) | (have h0 : (bif (bif (bif (bif (decide (x26.c0 < 0)) then true else (decide ((((y3.1.map (roC 1 iC)).length : Nat) : Int) ≤ x26.c0))) then true else (decide (x26.c1 < 0))) then true else (decide ((((v15.map iC).length : Nat) : Int) ≤ x26.c1))) then true else (!((decide (v19 = 1)) == ((decide (x26.c0 = y11.1.c0)) && ((decide (x26.c1 = y11.1.c1)) && true))))) = false := hc; simpa only [se_len, se_ch, List.length_map] using h0)) b26
         conv => whnf
         repeat' first | exact rA _ | refine parkI ?_ | (refine W.drawn TT_ok hmix1 rfl ?_; conv => whnf) | (refine W.drawnM (id := 35) 0 TT_ok hmix1 [0, 0, 0, 0, 0, 0, 0, 0, 0, 0, 0, 0, 0, 0, 0, 0, 0, 1, 2, 2] [1, 1, 1, 1, 1, 1, 1, 1, 1, 1, 1, 1, 1, 1, 2, 2, 1, 2, 2, 2] rfl ?_; conv => whnf) | exact clA _ | (refine And.intro ?_ ?_ <;> conv => whnf) | exact clG _ | (refine gand ?_ h; assumption) | exact clN _ | fail
         have e := Option.some.inj b26
         refine LoopW.norm [(1, (LV.ptr 0 0 0)), (3, (LV.ro 1 (y3.1.map (roC 1 iC)))), (6, (LV.ptr 1 0 0)), (53, (I y1.Segs)), (54, (I ((k25 : Nat) : Int))), (84, (LV.ro 2 (y13.2.1.map A2_Int.cells))), (85, (I (((y13.2.1.map A2_Int.cells).length : Nat) : Int))), (86, (I ((k26 + 1 : Nat) : Int)))] 2 [(0, (.row 25 3 [[(I y1.Segs), (LV.ro 2 (y1.Plans.map PlanT.cells)), (LV.ro 2 (y1.Hosts.map HostT.cells))]])), (1, (.row 41 2 [[(I y11.1.c0), (I y11.1.c1)]]))] ⟨rfl, rfl, rfl, rfl, rfl, rfl, rfl, (congrArg (LV.int .i64) (w64_nat _ (by omega))), trivial⟩ ⟨⟨rfl, rfl, blT⟩, ⟨⟨rfl, rfl, blT⟩, trivial⟩⟩ blT rfl (K26 _ e.symm)
       ·exact (Bool.false_ne_true (hc.symm.trans hd)).elim
    ·exact (Bool.false_ne_true (hc.symm.trans hd)).elim

end Go.RX
