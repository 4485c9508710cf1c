/- Plain functions, and what says that the program's functions compute them. -/
import Derived.Test.YtljecfgfbebjiaaKf
import Derived.Test.YtljecfgfbebjiaaKe
set_option linter.unusedVariables false
set_option linter.unusedSimpArgs false
open Go Go.RX Go.Proofs
namespace Go.RX
set_option maxRecDepth 10000
set_option maxHeartbeats 4000000
attribute [local irreducible] CallW CallP LoopW W IntKind.wrap bitI
def ref15_twice_c1 (a0 : LanT) (k29 : Nat) (x29 : PlanT) (s30 : Int) : Option (Step (Step Bool Unit) Int) :=
 (bif (decide (s30 < ((k29 : Nat) : Int))) then
  (gix a0.Plans s30).bind fun v11 =>
  (bif (decide (x29.ID = v11.ID)) then
   some (.ret (.ret true))
  else
   some (.nxt (IntKind.i64.wrap (s30 + 1))))
 else
  some (.brk s30))

def ref15_twice_c0 (a0 : LanT) (k29 : Nat) (x29 : PlanT) (s29 : Unit) : Option (Step Bool Unit) :=
 aft (loopF 1000000 (ref15_twice_c1 a0 k29 x29) 0) fun s30 =>
 some (.nxt ())

def ref15_twice_c3 (a0 : LanT) (k31 : Nat) (x31 : HostT) (s32 : Int) : Option (Step (Step Bool Unit) Int) :=
 (bif (decide (s32 < ((k31 : Nat) : Int))) then
  (gix a0.Hosts s32).bind fun v13 =>
  (bif (decide (x31.Mac = v13.Mac)) then
   some (.ret (.ret true))
  else
   some (.nxt (IntKind.i64.wrap (s32 + 1))))
 else
  some (.brk s32))

def ref15_twice_c2 (a0 : LanT) (k31 : Nat) (x31 : HostT) (s31 : Unit) : Option (Step Bool Unit) :=
 aft (loopF 1000000 (ref15_twice_c3 a0 k31 x31) 0) fun s32 =>
 some (.nxt ())

def ref15_twice (a0 : LanT) : Option Bool :=
 aft (rangeL (ref15_twice_c0 a0) a0.Plans ()) fun s29 =>
 aft (rangeL (ref15_twice_c2 a0) a0.Hosts ()) fun s31 =>
 some false

theorem c_ref15_twice (a0 : LanT) (r : Bool) (h : ref15_twice a0 = some r) : CallP Try.prog 39 [(LV.agg [(I a0.Segs), (LV.ro 2 (a0.Plans.map PlanT.cells)), (LV.ro 2 (a0.Hosts.map HostT.cells))])] (LV.bool r) := by
 unfold ref15_twice at h
 refine .intro nlA (.intro TT_ok Try.func39 rfl rfl [0, 1, 2, 3, 4, 5, 6, 9, 10, 11, 15, 30, 34, 35, 36, 40, 55] rfl ?_)
 conv => whnf
 repeat' first | exact rA _ | refine parkI ?_ | (refine W.drawn TT_ok hmix1 rfl ?_; conv => whnf) | exact clA _ | (refine And.intro ?_ ?_ <;> conv => whnf) | exact clG _ | (refine gand ?_ h; assumption) | exact clN _ | fail
 replace h := aftS h
 obtain ⟨O29, hO29, r29⟩ := h
 refine LoopW.norm [(1, (LV.ptr 0 0 0)), (9, (I (((a0.Plans.map PlanT.cells).length : Nat) : Int))), (10, (I ((0 : Nat) : Int)))] 1 [(0, (.row 25 3 [[(I a0.Segs), (LV.ro 2 (a0.Plans.map PlanT.cells)), (LV.ro 2 (a0.Hosts.map HostT.cells))]]))] ⟨rfl, rfl, rfl, trivial⟩ ⟨⟨rfl, rfl, blT⟩, trivial⟩ blT rfl ?_
 refine LoopW.forR (fun k29 s29 => [(1, (LV.ptr 0 0 0)), (9, (I (((a0.Plans.map PlanT.cells).length : Nat) : Int))), (10, (I ((k29 : Nat) : Int)))]) (fun s29 => ⟨1, [(0, (.row 25 3 [[(I a0.Segs), (LV.ro 2 (a0.Plans.map PlanT.cells)), (LV.ro 2 (a0.Hosts.map HostT.cells))]]))]⟩) hO29 (fun hl29 s29 hs29 => ?_) (fun hl29 k29 x29 s29 o29 hk29 hx29 b29 K29 hret29 hbrk29 => ?_)
 ·rw [hs29] at r29
  dsimp only [aftM] at r29
  have hd : decide (((a0.Plans.length : Nat) : Int) < (((a0.Plans.map PlanT.cells).length : Nat) : Int)) = false := by rw [decide_eq_false_iff_not]; (try simp only [se_len, se_ch, List.length_map]); omega
  refine LoopW.round TT_ok [0, 1, 2, 3, 4, 5, 6, 9, 10, 11, 15, 30, 34, 35, 36, 40, 55] ?_
  conv => whnf
  repeat' first | exact rA _ | refine parkI ?_ | (refine W.drawn TT_ok hmix1 rfl ?_; conv => whnf) | exact clA _ | (refine And.intro ?_ ?_ <;> conv => whnf) | exact clG _ | (refine gand ?_ h; assumption) | exact clN _ | fail
  refine parkE (fun hc => ?_) (fun hc => ?_)
  ·exact (Bool.false_ne_true (hd.symm.trans hc)).elim
  ·clear hd
   conv => whnf
   repeat' first | exact rA _ | refine parkI ?_ | (refine W.drawn TT_ok hmix1 rfl ?_; conv => whnf) | exact clA _ | (refine And.intro ?_ ?_ <;> conv => whnf) | exact clG _ | (refine gand ?_ h; assumption) | exact clN _ | fail
   replace r29 := aftS r29
   obtain ⟨O31, hO31, r31⟩ := r29
   refine LoopW.norm [(1, (LV.ptr 0 0 0)), (34, (I (((a0.Hosts.map HostT.cells).length : Nat) : Int))), (35, (I ((0 : Nat) : Int)))] 1 [(0, (.row 25 3 [[(I a0.Segs), (LV.ro 2 (a0.Plans.map PlanT.cells)), (LV.ro 2 (a0.Hosts.map HostT.cells))]]))] ⟨rfl, rfl, rfl, trivial⟩ ⟨⟨rfl, rfl, blT⟩, trivial⟩ blT rfl ?_
   refine LoopW.forR (fun k31 s31 => [(1, (LV.ptr 0 0 0)), (34, (I (((a0.Hosts.map HostT.cells).length : Nat) : Int))), (35, (I ((k31 : Nat) : Int)))]) (fun s31 => ⟨1, [(0, (.row 25 3 [[(I a0.Segs), (LV.ro 2 (a0.Plans.map PlanT.cells)), (LV.ro 2 (a0.Hosts.map HostT.cells))]]))]⟩) hO31 (fun hl31 s31 hs31 => ?_) (fun hl31 k31 x31 s31 o31 hk31 hx31 b31 K31 hret31 hbrk31 => ?_)
   ·rw [hs31] at r31
    dsimp only [aftM] at r31
    have hd : decide (((a0.Hosts.length : Nat) : Int) < (((a0.Hosts.map HostT.cells).length : Nat) : Int)) = false := by rw [decide_eq_false_iff_not]; (try simp only [se_len, se_ch, List.length_map]); omega
    refine LoopW.round TT_ok [0, 1, 2, 3, 4, 5, 6, 9, 10, 11, 15, 30, 34, 35, 36, 40, 55] ?_
    conv => whnf
    repeat' first | exact rA _ | refine parkI ?_ | (refine W.drawn TT_ok hmix1 rfl ?_; conv => whnf) | exact clA _ | (refine And.intro ?_ ?_ <;> conv => whnf) | exact clG _ | (refine gand ?_ h; assumption) | exact clN _ | fail
    refine parkE (fun hc => ?_) (fun hc => ?_)
    ·exact (Bool.false_ne_true (hd.symm.trans hc)).elim
    ·clear hd
     conv => whnf
     have e := Option.some.inj r31
     subst e
     repeat' first | exact rA _ | (refine W.drawn TT_ok hmix1 rfl ?_; conv => whnf) | exact clA _ | (refine And.intro ?_ ?_ <;> conv => whnf) | exact clG _ | (refine gand ?_ h; assumption) | exact clN _ | fail
   ·unfold ref15_twice_c2 at b31
    have hd : decide (((k31 : Nat) : Int) < (((a0.Hosts.map HostT.cells).length : Nat) : Int)) = true := by rw [decide_eq_true_eq]; (try simp only [se_len, se_ch, List.length_map] at hk31); (try simp only [se_len, se_ch, List.length_map]); omega
    refine LoopW.round TT_ok [0, 1, 2, 3, 4, 5, 6, 9, 10, 11, 15, 30, 34, 35, 36, 40, 55] ?_
    conv => whnf
    repeat' first | exact rA _ | refine parkI ?_ | (refine W.drawn TT_ok hmix1 rfl ?_; conv => whnf) | exact clA _ | (refine And.intro ?_ ?_ <;> conv => whnf) | exact clG _ | (refine gand ?_ h; assumption) | exact clN _ | fail
    refine parkE (fun hc => ?_) (fun hc => ?_)
    ·clear hd
     conv => whnf
     repeat' first | exact rA _ | refine parkI ?_ | (refine W.drawn TT_ok hmix1 rfl ?_; conv => whnf) | exact clA _ | (refine And.intro ?_ ?_ <;> conv => whnf) | exact clG _ | (refine gand ?_ h; assumption) | exact clN _ | fail
     replace b31 := aftS b31
     obtain ⟨O32, hO32, r32⟩ := b31
     refine LoopW.norm [(1, (LV.ptr 0 0 0)), (5, (I ((k31 : Nat) : Int))), (6, (I 0)), (34, (I (((a0.Hosts.map HostT.cells).length : Nat) : Int))), (35, (I ((k31 : Nat) : Int)))] 1 [(0, (.row 25 3 [[(I a0.Segs), (LV.ro 2 (a0.Plans.map PlanT.cells)), (LV.ro 2 (a0.Hosts.map HostT.cells))]]))] ⟨rfl, rfl, rfl, rfl, rfl, trivial⟩ ⟨⟨rfl, rfl, blT⟩, trivial⟩ blT rfl ?_
     refine LoopW.forF (fun s32 => [(1, (LV.ptr 0 0 0)), (5, (I ((k31 : Nat) : Int))), (6, (I s32)), (34, (I (((a0.Hosts.map HostT.cells).length : Nat) : Int))), (35, (I ((k31 : Nat) : Int)))]) (fun s32 => ⟨1, [(0, (.row 25 3 [[(I a0.Segs), (LV.ro 2 (a0.Plans.map PlanT.cells)), (LV.ro 2 (a0.Hosts.map HostT.cells))]]))]⟩) hO32 (fun s32 o32 b32 K32 hret32 hbrk32 => ?_)
     unfold ref15_twice_c3 at b32
     refine LoopW.round TT_ok [0, 1, 2, 3, 4, 5, 6, 9, 10, 11, 15, 30, 34, 35, 36, 40, 55] ?_
     conv => whnf
     repeat' first | exact rA _ | refine parkI ?_ | (refine W.drawn TT_ok hmix1 rfl ?_; conv => whnf) | exact clA _ | (refine And.intro ?_ ?_ <;> conv => whnf) | exact clG _ | (refine gand ?_ h; assumption) | exact clN _ | fail
     refine parkE (fun hc => ?_) (fun hc => ?_)
     ·replace b32 := condT hc b32
      conv => whnf
      replace b32 := bindS b32
      obtain ⟨v13, hv13, b32⟩ := b32
      have i14 := gixF (f := HostT.cells) hv13
      repeat' first | exact rA _ | refine parkI ?_ | (refine ⟨_, (kixF (f := HostT.cells) hx31), ?_⟩; conv => whnf) | (refine ⟨_, i14, ?_⟩; conv => whnf) | (refine W.drawn TT_ok hmix1 rfl ?_; conv => whnf) | exact clA _ | (refine And.intro ?_ ?_ <;> conv => whnf) | exact clG _ | (refine gand ?_ h; assumption) | exact clN _ | fail
      refine parkE (fun hc => ?_) (fun hc => ?_)
      ·replace b32 := condT hc b32
       conv => whnf
       have e := Option.some.inj b32
       replace e := hret32 _ e.symm
       rw [e] at r32
       replace e := Option.some.inj r32
       replace e := hret31 _ e.symm
       rw [e] at r31
       replace e := Option.some.inj r31
       subst e
       repeat' first | exact rA _ | (refine W.drawn TT_ok hmix1 rfl ?_; conv => whnf) | exact clA _ | (refine And.intro ?_ ?_ <;> conv => whnf) | exact clG _ | (refine gand ?_ h; assumption) | exact clN _ | fail
      ·replace b32 := condF hc b32
       conv => whnf
       repeat' first | exact rA _ | refine parkI ?_ | (refine W.drawn TT_ok hmix1 rfl ?_; conv => whnf) | exact clA _ | (refine And.intro ?_ ?_ <;> conv => whnf) | exact clG _ | (refine gand ?_ h; assumption) | exact clN _ | fail
       have e := Option.some.inj b32
       refine LoopW.norm [(1, (LV.ptr 0 0 0)), (5, (I ((k31 : Nat) : Int))), (6, (I (IntKind.i64.wrap (s32 + 1)))), (34, (I (((a0.Hosts.map HostT.cells).length : Nat) : Int))), (35, (I ((k31 : Nat) : Int)))] 1 [(0, (.row 25 3 [[(I a0.Segs), (LV.ro 2 (a0.Plans.map PlanT.cells)), (LV.ro 2 (a0.Hosts.map HostT.cells))]]))] ⟨rfl, rfl, rfl, rfl, rfl, trivial⟩ ⟨⟨rfl, rfl, blT⟩, trivial⟩ blT rfl (K32 _ e.symm)
     ·replace b32 := condF hc b32
      conv => whnf
      have e := Option.some.inj b32
      replace e := hbrk32 _ e.symm
      rw [e] at r32
      dsimp only [aftM] at r32
      repeat' first | exact rA _ | refine parkI ?_ | (refine W.drawn TT_ok hmix1 rfl ?_; conv => whnf) | exact clA _ | (refine And.intro ?_ ?_ <;> conv => whnf) | exact clG _ | (refine gand ?_ h; assumption) | exact clN _ | fail
      have e := Option.some.inj r32
      refine LoopW.norm [(1, (LV.ptr 0 0 0)), (34, (I (((a0.Hosts.map HostT.cells).length : Nat) : Int))), (35, (I ((k31 + 1 : Nat) : Int)))] 1 [(0, (.row 25 3 [[(I a0.Segs), (LV.ro 2 (a0.Plans.map PlanT.cells)), (LV.ro 2 (a0.Hosts.map HostT.cells))]]))] ⟨rfl, rfl, (congrArg (LV.int .i64) (w64_nat _ (by omega))), trivial⟩ ⟨⟨rfl, rfl, blT⟩, trivial⟩ blT rfl (K31 _ e.symm)
    ·exact (Bool.false_ne_true (hc.symm.trans hd)).elim
 ·unfold ref15_twice_c0 at b29
  have hd : decide (((k29 : Nat) : Int) < (((a0.Plans.map PlanT.cells).length : Nat) : Int)) = true := by rw [decide_eq_true_eq]; (try simp only [se_len, se_ch, List.length_map] at hk29); (try simp only [se_len, se_ch, List.length_map]); omega
  refine LoopW.round TT_ok [0, 1, 2, 3, 4, 5, 6, 9, 10, 11, 15, 30, 34, 35, 36, 40, 55] ?_
  conv => whnf
  repeat' first | exact rA _ | refine parkI ?_ | (refine W.drawn TT_ok hmix1 rfl ?_; conv => whnf) | exact clA _ | (refine And.intro ?_ ?_ <;> conv => whnf) | exact clG _ | (refine gand ?_ h; assumption) | exact clN _ | fail
  refine parkE (fun hc => ?_) (fun hc => ?_)
  ·clear hd
   conv => whnf
   repeat' first | exact rA _ | refine parkI ?_ | (refine W.drawn TT_ok hmix1 rfl ?_; conv => whnf) | exact clA _ | (refine And.intro ?_ ?_ <;> conv => whnf) | exact clG _ | (refine gand ?_ h; assumption) | exact clN _ | fail
   replace b29 := aftS b29
   obtain ⟨O30, hO30, r30⟩ := b29
   refine LoopW.norm [(1, (LV.ptr 0 0 0)), (3, (I ((k29 : Nat) : Int))), (4, (I 0)), (9, (I (((a0.Plans.map PlanT.cells).length : Nat) : Int))), (10, (I ((k29 : Nat) : Int)))] 1 [(0, (.row 25 3 [[(I a0.Segs), (LV.ro 2 (a0.Plans.map PlanT.cells)), (LV.ro 2 (a0.Hosts.map HostT.cells))]]))] ⟨rfl, rfl, rfl, rfl, rfl, trivial⟩ ⟨⟨rfl, rfl, blT⟩, trivial⟩ blT rfl ?_
   refine LoopW.forF (fun s30 => [(1, (LV.ptr 0 0 0)), (3, (I ((k29 : Nat) : Int))), (4, (I s30)), (9, (I (((a0.Plans.map PlanT.cells).length : Nat) : Int))), (10, (I ((k29 : Nat) : Int)))]) (fun s30 => ⟨1, [(0, (.row 25 3 [[(I a0.Segs), (LV.ro 2 (a0.Plans.map PlanT.cells)), (LV.ro 2 (a0.Hosts.map HostT.cells))]]))]⟩) hO30 (fun s30 o30 b30 K30 hret30 hbrk30 => ?_)
   unfold ref15_twice_c1 at b30
   refine LoopW.round TT_ok [0, 1, 2, 3, 4, 5, 6, 9, 10, 11, 15, 30, 34, 35, 36, 40, 55] ?_
   conv => whnf
   repeat' first | exact rA _ | refine parkI ?_ | (refine W.drawn TT_ok hmix1 rfl ?_; conv => whnf) | exact clA _ | (refine And.intro ?_ ?_ <;> conv => whnf) | exact clG _ | (refine gand ?_ h; assumption) | exact clN _ | fail
   refine parkE (fun hc => ?_) (fun hc => ?_)
   ·replace b30 := condT hc b30
    conv => whnf
    replace b30 := bindS b30
    obtain ⟨v11, hv11, b30⟩ := b30
    have i12 := gixF (f := PlanT.cells) hv11
    repeat' first | exact rA _ | refine parkI ?_ | (refine ⟨_, (kixF (f := PlanT.cells) hx29), ?_⟩; conv => whnf) | (refine ⟨_, i12, ?_⟩; conv => whnf) | (refine W.drawn TT_ok hmix1 rfl ?_; conv => whnf) | exact clA _ | (refine And.intro ?_ ?_ <;> conv => whnf) | exact clG _ | (refine gand ?_ h; assumption) | exact clN _ | fail
    refine parkE (fun hc => ?_) (fun hc => ?_)
    ·replace b30 := condT hc b30
     conv => whnf
     have e := Option.some.inj b30
     replace e := hret30 _ e.symm
     rw [e] at r30
     replace e := Option.some.inj r30
     replace e := hret29 _ e.symm
     rw [e] at r29
     replace e := Option.some.inj r29
     subst e
     repeat' first | exact rA _ | (refine W.drawn TT_ok hmix1 rfl ?_; conv => whnf) | exact clA _ | (refine And.intro ?_ ?_ <;> conv => whnf) | exact clG _ | (refine gand ?_ h; assumption) | exact clN _ | fail
    ·replace b30 := condF hc b30
     conv => whnf
     repeat' first | exact rA _ | refine parkI ?_ | (refine W.drawn TT_ok hmix1 rfl ?_; conv => whnf) | exact clA _ | (refine And.intro ?_ ?_ <;> conv => whnf) | exact clG _ | (refine gand ?_ h; assumption) | exact clN _ | fail
     have e := Option.some.inj b30
     refine LoopW.norm [(1, (LV.ptr 0 0 0)), (3, (I ((k29 : Nat) : Int))), (4, (I (IntKind.i64.wrap (s30 + 1)))), (9, (I (((a0.Plans.map PlanT.cells).length : Nat) : Int))), (10, (I ((k29 : Nat) : Int)))] 1 [(0, (.row 25 3 [[(I a0.Segs), (LV.ro 2 (a0.Plans.map PlanT.cells)), (LV.ro 2 (a0.Hosts.map HostT.cells))]]))] ⟨rfl, rfl, rfl, rfl, rfl, trivial⟩ ⟨⟨rfl, rfl, blT⟩, trivial⟩ blT rfl (K30 _ e.symm)
   ·replace b30 := condF hc b30
    conv => whnf
    have e := Option.some.inj b30
    replace e := hbrk30 _ e.symm
    rw [e] at r30
    dsimp only [aftM] at r30
    repeat' first | exact rA _ | refine parkI ?_ | (refine W.drawn TT_ok hmix1 rfl ?_; conv => whnf) | exact clA _ | (refine And.intro ?_ ?_ <;> conv => whnf) | exact clG _ | (refine gand ?_ h; assumption) | exact clN _ | fail
    have e := Option.some.inj r30
    refine LoopW.norm [(1, (LV.ptr 0 0 0)), (9, (I (((a0.Plans.map PlanT.cells).length : Nat) : Int))), (10, (I ((k29 + 1 : Nat) : Int)))] 1 [(0, (.row 25 3 [[(I a0.Segs), (LV.ro 2 (a0.Plans.map PlanT.cells)), (LV.ro 2 (a0.Hosts.map HostT.cells))]]))] ⟨rfl, rfl, (congrArg (LV.int .i64) (w64_nat _ (by omega))), trivial⟩ ⟨⟨rfl, rfl, blT⟩, trivial⟩ blT rfl (K29 _ e.symm)
  ·exact (Bool.false_ne_true (hc.symm.trans hd)).elim

def ref15_plan_c0 (a1 : Int) (k34 : Nat) (x34 : LinkT) (s34 : Unit) : Option (Step Bool Unit) :=
 (bif (bif (bif (bif (decide (x34.Seg < 0)) then true else (decide (a1 ≤ x34.Seg))) then true else (decide (x34.Cost < 1))) then true else (decide (1000 < x34.Cost))) then
  some (.ret false)
 else
  some (.nxt ()))

def ref15_plan (a0 : PlanT) (a1 : Int) : Option Bool :=
 aft (rangeL (ref15_plan_c0 a1) a0.Ports ()) fun s34 =>
 some (bif (bif (bif (decide (0 ≤ a0.ID)) then (decide (a0.ID ≤ 65535)) else false) then (decide (1 ≤ ((a0.Ports.length : Nat) : Int))) else false) then (decide (((a0.Ports.length : Nat) : Int) ≤ 8)) else false)

theorem c_ref15_plan (a0 : PlanT) (a1 : Int) (r : Bool) (h : ref15_plan a0 a1 = some r) : CallP Try.prog 40 [(LV.agg [(I a0.ID), (LV.ro 3 (a0.Ports.map LinkT.cells))]), (I a1)] (LV.bool r) := by
 unfold ref15_plan at h
 refine .intro nlA (.intro TT_ok Try.func40 rfl rfl [0, 1, 2, 4, 6, 8, 9, 10, 11, 32] rfl ?_)
 conv => whnf
 repeat' first | exact rA _ | refine parkI ?_ | (refine And.intro ?_ ?_ <;> conv => whnf) | fail
 replace h := aftS h
 obtain ⟨O34, hO34, r34⟩ := h
 refine LoopW.norm [(1, (I a1)), (2, (LV.ptr 0 0 0)), (8, (LV.ro 3 (a0.Ports.map LinkT.cells))), (9, (I (((a0.Ports.map LinkT.cells).length : Nat) : Int))), (10, (I ((0 : Nat) : Int)))] 1 [(0, (.row 33 2 [[(I a0.ID), (LV.ro 3 (a0.Ports.map LinkT.cells))]]))] ⟨rfl, rfl, rfl, rfl, rfl, trivial⟩ ⟨⟨rfl, rfl, blT⟩, trivial⟩ blT rfl ?_
 refine LoopW.forR (fun k34 s34 => [(1, (I a1)), (2, (LV.ptr 0 0 0)), (8, (LV.ro 3 (a0.Ports.map LinkT.cells))), (9, (I (((a0.Ports.map LinkT.cells).length : Nat) : Int))), (10, (I ((k34 : Nat) : Int)))]) (fun s34 => ⟨1, [(0, (.row 33 2 [[(I a0.ID), (LV.ro 3 (a0.Ports.map LinkT.cells))]]))]⟩) hO34 (fun hl34 s34 hs34 => ?_) (fun hl34 k34 x34 s34 o34 hk34 hx34 b34 K34 hret34 hbrk34 => ?_)
 ·rw [hs34] at r34
  dsimp only [aftM] at r34
  have hd : decide (((a0.Ports.length : Nat) : Int) < (((a0.Ports.map LinkT.cells).length : Nat) : Int)) = false := by rw [decide_eq_false_iff_not]; (try simp only [se_len, se_ch, List.length_map]); omega
  refine LoopW.round TT_ok [0, 1, 2, 4, 6, 8, 9, 10, 11, 32] ?_
  conv => whnf
  repeat' first | exact rA _ | refine parkI ?_ | (refine And.intro ?_ ?_ <;> conv => whnf) | fail
  refine parkE (fun hc => ?_) (fun hc => ?_)
  ·exact (Bool.false_ne_true (hd.symm.trans hc)).elim
  ·clear hd
   conv => whnf
   have e := Option.some.inj r34
   subst e
   repeat' first | exact rA _ | exact clA _ | (refine And.intro ?_ ?_ <;> conv => whnf) | exact clG _ | (refine gand ?_ h; assumption) | exact clN _ | fail
 ·unfold ref15_plan_c0 at b34
  have hd : decide (((k34 : Nat) : Int) < (((a0.Ports.map LinkT.cells).length : Nat) : Int)) = true := by rw [decide_eq_true_eq]; (try simp only [se_len, se_ch, List.length_map] at hk34); (try simp only [se_len, se_ch, List.length_map]); omega
  refine LoopW.round TT_ok [0, 1, 2, 4, 6, 8, 9, 10, 11, 32] ?_
  conv => whnf
  repeat' first | exact rA _ | refine parkI ?_ | (refine And.intro ?_ ?_ <;> conv => whnf) | fail
  refine parkE (fun hc => ?_) (fun hc => ?_)
  ·clear hd
   conv => whnf
   repeat' first | exact rA _ | refine parkI ?_ | (refine ⟨_, (kixF (f := LinkT.cells) hx34), ?_⟩; conv => whnf) | exact clA _ | (refine And.intro ?_ ?_ <;> conv => whnf) | exact clG _ | (refine gand ?_ h; assumption) | fail
   refine parkE (fun hc => ?_) (fun hc => ?_)
   ·replace b34 := condT hc b34
    conv => whnf
    have e := Option.some.inj b34
    replace e := hret34 _ e.symm
    rw [e] at r34
    replace e := Option.some.inj r34
    subst e
    repeat' first | exact rA _ | exact clA _ | (refine And.intro ?_ ?_ <;> conv => whnf) | exact clG _ | (refine gand ?_ h; assumption) | exact clN _ | fail
   ·replace b34 := condF hc b34
    conv => whnf
    repeat' first | exact rA _ | refine parkI ?_ | (refine And.intro ?_ ?_ <;> conv => whnf) | fail
    have e := Option.some.inj b34
    refine LoopW.norm [(1, (I a1)), (2, (LV.ptr 0 0 0)), (8, (LV.ro 3 (a0.Ports.map LinkT.cells))), (9, (I (((a0.Ports.map LinkT.cells).length : Nat) : Int))), (10, (I ((k34 + 1 : Nat) : Int)))] 1 [(0, (.row 33 2 [[(I a0.ID), (LV.ro 3 (a0.Ports.map LinkT.cells))]]))] ⟨rfl, rfl, rfl, rfl, (congrArg (LV.int .i64) (w64_nat _ (by omega))), trivial⟩ ⟨⟨rfl, rfl, blT⟩, trivial⟩ blT rfl (K34 _ e.symm)
  ·exact (Bool.false_ne_true (hc.symm.trans hd)).elim

def ref01_Right (a0 : Int) : Option Bool :=
 some (bif (decide (0 ≤ a0)) then (decide (a0 < 281474976710656)) else false)

theorem c_ref01_Right (a0 : Int) (r : Bool) (h : ref01_Right a0 = some r) : CallP Try.prog 62 [(I a0)] (LV.bool r) := by
 unfold ref01_Right at h
 refine .intro nlA (.intro TT_ok Try.func62 rfl rfl [0, 2] rfl ?_)
 conv => whnf
 have e := Option.some.inj h
 subst e
 repeat' first | exact rA _ | exact clA _ | (refine And.intro ?_ ?_ <;> conv => whnf) | exact clG _ | (refine gand ?_ h; assumption) | exact clN _ | fail

def ref01_Class (a0 : Int) : Option Int :=
 (bif (decide ((IntKind.i64.wrap ((a0).tdiv 16)) = 103282638848)) then
  some 2
 else
  (bif (decide ((((IntKind.i64.wrap ((a0).tdiv 1099511627776))).tmod 2) = 1)) then
   some 1
  else
   some 0))

theorem c_ref01_Class (a0 : Int) (r : Int) (h : ref01_Class a0 = some r) : CallP Try.prog 63 [(I a0)] (I r) := by
 unfold ref01_Class at h
 refine .intro nlA (.intro TT_ok Try.func63 rfl rfl [0, 2, 5, 9] rfl ?_)
 conv => whnf
 repeat' first | exact rA _ | refine parkI ?_ | exact (by decide : ((16 : Int) ≠ 0)) | (refine And.intro ?_ ?_ <;> conv => whnf) | fail
 refine parkE (fun hc => ?_) (fun hc => ?_)
 ·replace h := condT hc h
  conv => whnf
  have e := Option.some.inj h
  subst e
  repeat' first | exact rA _ | exact clA _ | (refine And.intro ?_ ?_ <;> conv => whnf) | exact clG _ | (refine gand ?_ h; assumption) | exact clN _ | fail
 ·replace h := condF hc h
  conv => whnf
  repeat' first | exact rA _ | refine parkI ?_ | exact (by decide : ((1099511627776 : Int) ≠ 0)) | exact (by decide : ((2 : Int) ≠ 0)) | (refine And.intro ?_ ?_ <;> conv => whnf) | fail
  refine parkE (fun hc => ?_) (fun hc => ?_)
  ·replace h := condT hc h
   conv => whnf
   have e := Option.some.inj h
   subst e
   repeat' first | exact rA _ | exact clA _ | (refine And.intro ?_ ?_ <;> conv => whnf) | exact clG _ | (refine gand ?_ h; assumption) | exact clN _ | fail
  ·replace h := condF hc h
   conv => whnf
   have e := Option.some.inj h
   subst e
   repeat' first | exact rA _ | exact clA _ | (refine And.intro ?_ ?_ <;> conv => whnf) | exact clG _ | (refine gand ?_ h; assumption) | exact clN _ | fail

def ref08_Mac (a0 : Int) : Option Bool :=
 (ref01_Right a0).bind fun y15 =>
 (gd y15 (ref01_Class a0)).bind fun y17 =>
 some (bif y15 then (decide (y17 = 0)) else false)

theorem c_ref08_Mac (a0 : Int) (r : Bool) (h : ref08_Mac a0 = some r) : CallP Try.prog 41 [(I a0)] (LV.bool r) := by
 unfold ref08_Mac at h
 refine .intro nlA (.intro TT_ok Try.func41 rfl rfl [0, 2] rfl ?_)
 conv => whnf
 replace h := bindS h
 obtain ⟨y15, hy15, h⟩ := h
 have c16 := c_ref01_Right a0 _ hy15
 replace h := bindS h
 obtain ⟨y17, hy17, h⟩ := h
 have c18 := fun (hg : y15 = true) => c_ref01_Class a0 _ (gdS hg hy17)
 have e := Option.some.inj h
 subst e
 repeat' first | exact rA _ | (refine ⟨_, c18, ?_⟩; conv => whnf) | (refine CallP.use c16 ?_; conv => whnf) | exact clA _ | (refine And.intro ?_ ?_ <;> conv => whnf) | exact clG _ | (refine gand ?_ h; assumption) | exact clN _ | fail

def ref15_Right_c0 (a0 : LanT) (k33 : Nat) (x33 : PlanT) (s33 : Unit) : Option (Step Bool Unit) :=
 (ref15_plan x33 a0.Segs).bind fun y13 =>
 (bif (!y13) then
  some (.ret false)
 else
  some (.nxt ()))

def ref15_Right_c1 (a0 : LanT) (k35 : Nat) (x35 : HostT) (s35 : Unit) : Option (Step Bool Unit) :=
 (ref08_Mac x35.Mac).bind fun y15 =>
 (bif (bif (bif (!y15) then true else (decide (x35.Seg < 0))) then true else (decide (a0.Segs ≤ x35.Seg))) then
  some (.ret false)
 else
  some (.nxt ()))

def ref15_Right (a0 : LanT) : Option Bool :=
 (gd (!(bif (bif (bif (decide (a0.Segs < 1)) then true else (decide (8 < a0.Segs))) then true else (decide (6 < ((a0.Plans.length : Nat) : Int)))) then true else (decide (8 < ((a0.Hosts.length : Nat) : Int))))) (ref15_twice a0)).bind fun y11 =>
 (bif (bif (bif (bif (bif (decide (a0.Segs < 1)) then true else (decide (8 < a0.Segs))) then true else (decide (6 < ((a0.Plans.length : Nat) : Int)))) then true else (decide (8 < ((a0.Hosts.length : Nat) : Int)))) then true else y11) then
  some false
 else
  aft (rangeL (ref15_Right_c0 a0) a0.Plans ()) fun s33 =>
  aft (rangeL (ref15_Right_c1 a0) a0.Hosts ()) fun s35 =>
  some true)

theorem c_ref15_Right (a0 : LanT) (r : Bool) (h : ref15_Right a0 = some r) : CallP Try.prog 16 [(LV.agg [(I a0.Segs), (LV.ro 2 (a0.Plans.map PlanT.cells)), (LV.ro 2 (a0.Hosts.map HostT.cells))])] (LV.bool r) := by
 unfold ref15_Right at h
 refine .intro nlA (.intro TT_ok Try.func16 rfl rfl [0, 1, 2, 4, 6, 30, 32, 33, 34, 35, 42, 45, 46, 47, 48, 66] rfl ?_)
 conv => whnf
 replace h := bindS h
 obtain ⟨y11, hy11, h⟩ := h
 have c12 := fun (hg : (!(bif (bif (bif (decide (a0.Segs < 1)) then true else (decide (8 < a0.Segs))) then true else (decide (6 < (((a0.Plans.map PlanT.cells).length : Nat) : Int)))) then true else (decide (8 < (((a0.Hosts.map HostT.cells).length : Nat) : Int))))) = true) => c_ref15_twice a0 _ (gdS (show (!(bif (bif (bif (decide (a0.Segs < 1)) then true else (decide (8 < a0.Segs))) then true else (decide (6 < ((a0.Plans.length : Nat) : Int)))) then true else (decide (8 < ((a0.Hosts.length : Nat) : Int))))) = true by simpa only [se_len, se_ch, List.length_map] using hg) hy11)
 repeat' first | exact rA _ | refine parkI ?_ | (refine ⟨_, c12, ?_⟩; conv => whnf) | exact clA _ | (refine And.intro ?_ ?_ <;> conv => whnf) | exact clG _ | (refine gand ?_ h; assumption) | fail
 refine parkE (fun hc => ?_) (fun hc => ?_)
 ·replace h := condT (by first | exact hc | (simpa only [se_len, se_ch, List.length_map] using hc; done) | (have h0 : (bif (bif (bif (bif (decide (a0.Segs < 1)) then true else (decide (8 < a0.Segs))) then true else (decide (6 < (((a0.Plans.map PlanT.cells).length : Nat) : Int)))) then true else (decide (8 < (((a0.Hosts.map HostT.cells).length : Nat) : Int)))) then true else y11) = true := hc; simpa only [se_len, se_ch, List.length_map] using h0)) h
  conv => whnf
  have e := Option.some.inj h
  subst e
  repeat' first | exact rA _ | exact clA _ | (refine And.intro ?_ ?_ <;> conv => whnf) | exact clG _ | (refine gand ?_ h; assumption) | exact clN _ | fail
 ·replace h := condF (by first | exact hc | (simpa only [se_len, se_ch, List.length_map] using hc; done) | (have h0 : (bif (bif (bif (bif (decide (a0.Segs < 1)) then true else (decide (8 < a0.Segs))) then true else (decide (6 < (((a0.Plans.map PlanT.cells).length : Nat) : Int)))) then true else (decide (8 < (((a0.Hosts.map HostT.cells).length : Nat) : Int)))) then true else y11) = false := hc; simpa only [se_len, se_ch, List.length_map] using h0)) h
  conv => whnf
  repeat' first | exact rA _ | refine parkI ?_ | (refine And.intro ?_ ?_ <;> conv => whnf) | fail
  replace h := aftS h
  obtain ⟨O33, hO33, r33⟩ := h
  refine LoopW.norm [(1, (LV.ptr 0 0 0)), (32, (LV.ro 2 (a0.Plans.map PlanT.cells))), (33, (I (((a0.Plans.map PlanT.cells).length : Nat) : Int))), (34, (I ((0 : Nat) : Int)))] 1 [(0, (.row 25 3 [[(I a0.Segs), (LV.ro 2 (a0.Plans.map PlanT.cells)), (LV.ro 2 (a0.Hosts.map HostT.cells))]]))] ⟨rfl, rfl, rfl, rfl, trivial⟩ ⟨⟨rfl, rfl, blT⟩, trivial⟩ blT rfl ?_
  refine LoopW.forR (fun k33 s33 => [(1, (LV.ptr 0 0 0)), (32, (LV.ro 2 (a0.Plans.map PlanT.cells))), (33, (I (((a0.Plans.map PlanT.cells).length : Nat) : Int))), (34, (I ((k33 : Nat) : Int)))]) (fun s33 => ⟨1, [(0, (.row 25 3 [[(I a0.Segs), (LV.ro 2 (a0.Plans.map PlanT.cells)), (LV.ro 2 (a0.Hosts.map HostT.cells))]]))]⟩) hO33 (fun hl33 s33 hs33 => ?_) (fun hl33 k33 x33 s33 o33 hk33 hx33 b33 K33 hret33 hbrk33 => ?_)
  ·rw [hs33] at r33
   dsimp only [aftM] at r33
   have hd : decide (((a0.Plans.length : Nat) : Int) < (((a0.Plans.map PlanT.cells).length : Nat) : Int)) = false := by rw [decide_eq_false_iff_not]; (try simp only [se_len, se_ch, List.length_map]); omega
   refine LoopW.round TT_ok [0, 1, 2, 4, 6, 30, 32, 33, 34, 35, 42, 45, 46, 47, 48, 66] ?_
   conv => whnf
   repeat' first | exact rA _ | refine parkI ?_ | (refine And.intro ?_ ?_ <;> conv => whnf) | fail
   refine parkE (fun hc => ?_) (fun hc => ?_)
   ·exact (Bool.false_ne_true (hd.symm.trans hc)).elim
   ·clear hd
    conv => whnf
    repeat' first | exact rA _ | refine parkI ?_ | (refine And.intro ?_ ?_ <;> conv => whnf) | fail
    replace r33 := aftS r33
    obtain ⟨O35, hO35, r35⟩ := r33
    refine LoopW.norm [(1, (LV.ptr 0 0 0)), (45, (LV.ro 2 (a0.Hosts.map HostT.cells))), (46, (I (((a0.Hosts.map HostT.cells).length : Nat) : Int))), (47, (I ((0 : Nat) : Int)))] 1 [(0, (.row 25 3 [[(I a0.Segs), (LV.ro 2 (a0.Plans.map PlanT.cells)), (LV.ro 2 (a0.Hosts.map HostT.cells))]]))] ⟨rfl, rfl, rfl, rfl, trivial⟩ ⟨⟨rfl, rfl, blT⟩, trivial⟩ blT rfl ?_
    refine LoopW.forR (fun k35 s35 => [(1, (LV.ptr 0 0 0)), (45, (LV.ro 2 (a0.Hosts.map HostT.cells))), (46, (I (((a0.Hosts.map HostT.cells).length : Nat) : Int))), (47, (I ((k35 : Nat) : Int)))]) (fun s35 => ⟨1, [(0, (.row 25 3 [[(I a0.Segs), (LV.ro 2 (a0.Plans.map PlanT.cells)), (LV.ro 2 (a0.Hosts.map HostT.cells))]]))]⟩) hO35 (fun hl35 s35 hs35 => ?_) (fun hl35 k35 x35 s35 o35 hk35 hx35 b35 K35 hret35 hbrk35 => ?_)
    ·rw [hs35] at r35
     dsimp only [aftM] at r35
     have hd : decide (((a0.Hosts.length : Nat) : Int) < (((a0.Hosts.map HostT.cells).length : Nat) : Int)) = false := by rw [decide_eq_false_iff_not]; (try simp only [se_len, se_ch, List.length_map]); omega
     refine LoopW.round TT_ok [0, 1, 2, 4, 6, 30, 32, 33, 34, 35, 42, 45, 46, 47, 48, 66] ?_
     conv => whnf
     repeat' first | exact rA _ | refine parkI ?_ | (refine And.intro ?_ ?_ <;> conv => whnf) | fail
     refine parkE (fun hc => ?_) (fun hc => ?_)
     ·exact (Bool.false_ne_true (hd.symm.trans hc)).elim
     ·clear hd
      conv => whnf
      have e := Option.some.inj r35
      subst e
      repeat' first | exact rA _ | exact clA _ | (refine And.intro ?_ ?_ <;> conv => whnf) | exact clG _ | (refine gand ?_ h; assumption) | exact clN _ | fail
    ·unfold ref15_Right_c1 at b35
     have hd : decide (((k35 : Nat) : Int) < (((a0.Hosts.map HostT.cells).length : Nat) : Int)) = true := by rw [decide_eq_true_eq]; (try simp only [se_len, se_ch, List.length_map] at hk35); (try simp only [se_len, se_ch, List.length_map]); omega
     refine LoopW.round TT_ok [0, 1, 2, 4, 6, 30, 32, 33, 34, 35, 42, 45, 46, 47, 48, 66] ?_
     conv => whnf
     repeat' first | exact rA _ | refine parkI ?_ | (refine And.intro ?_ ?_ <;> conv => whnf) | fail
     refine parkE (fun hc => ?_) (fun hc => ?_)
     ·clear hd
      conv => whnf
      replace b35 := bindS b35
      obtain ⟨y15, hy15, b35⟩ := b35
      have c16 := c_ref08_Mac x35.Mac _ hy15
      repeat' first | exact rA _ | refine parkI ?_ | (refine ⟨_, (kixF (f := HostT.cells) hx35), ?_⟩; conv => whnf) | (refine CallP.use c16 ?_; conv => whnf) | exact clA _ | (refine And.intro ?_ ?_ <;> conv => whnf) | exact clG _ | (refine gand ?_ h; assumption) | fail
      refine parkE (fun hc => ?_) (fun hc => ?_)
      ·replace b35 := condT hc b35
       conv => whnf
       have e := Option.some.inj b35
       replace e := hret35 _ e.symm
       rw [e] at r35
       replace e := Option.some.inj r35
       subst e
       repeat' first | exact rA _ | exact clA _ | (refine And.intro ?_ ?_ <;> conv => whnf) | exact clG _ | (refine gand ?_ h; assumption) | exact clN _ | fail
      ·replace b35 := condF hc b35
       conv => whnf
       repeat' first | exact rA _ | refine parkI ?_ | (refine And.intro ?_ ?_ <;> conv => whnf) | fail
       have e := Option.some.inj b35
       refine LoopW.norm [(1, (LV.ptr 0 0 0)), (45, (LV.ro 2 (a0.Hosts.map HostT.cells))), (46, (I (((a0.Hosts.map HostT.cells).length : Nat) : Int))), (47, (I ((k35 + 1 : Nat) : Int)))] 1 [(0, (.row 25 3 [[(I a0.Segs), (LV.ro 2 (a0.Plans.map PlanT.cells)), (LV.ro 2 (a0.Hosts.map HostT.cells))]]))] ⟨rfl, rfl, rfl, (congrArg (LV.int .i64) (w64_nat _ (by omega))), trivial⟩ ⟨⟨rfl, rfl, blT⟩, trivial⟩ blT rfl (K35 _ e.symm)
     ·exact (Bool.false_ne_true (hc.symm.trans hd)).elim
  ·unfold ref15_Right_c0 at b33
   have hd : decide (((k33 : Nat) : Int) < (((a0.Plans.map PlanT.cells).length : Nat) : Int)) = true := by rw [decide_eq_true_eq]; (try simp only [se_len, se_ch, List.length_map] at hk33); (try simp only [se_len, se_ch, List.length_map]); omega
   refine LoopW.round TT_ok [0, 1, 2, 4, 6, 30, 32, 33, 34, 35, 42, 45, 46, 47, 48, 66] ?_
   conv => whnf
   repeat' first | exact rA _ | refine parkI ?_ | (refine And.intro ?_ ?_ <;> conv => whnf) | fail
   refine parkE (fun hc => ?_) (fun hc => ?_)
   ·clear hd
    conv => whnf
    replace b33 := bindS b33
    obtain ⟨y13, hy13, b33⟩ := b33
    have c14 := c_ref15_plan x33 a0.Segs _ hy13
    repeat' first | exact rA _ | refine parkI ?_ | (refine ⟨_, (kixF (f := PlanT.cells) hx33), ?_⟩; conv => whnf) | (refine CallP.use c14 ?_; conv => whnf) | (refine And.intro ?_ ?_ <;> conv => whnf) | fail
    refine parkE (fun hc => ?_) (fun hc => ?_)
    ·replace b33 := condT hc b33
     conv => whnf
     have e := Option.some.inj b33
     replace e := hret33 _ e.symm
     rw [e] at r33
     replace e := Option.some.inj r33
     subst e
     repeat' first | exact rA _ | exact clA _ | (refine And.intro ?_ ?_ <;> conv => whnf) | exact clG _ | (refine gand ?_ h; assumption) | exact clN _ | fail
    ·replace b33 := condF hc b33
     conv => whnf
     repeat' first | exact rA _ | refine parkI ?_ | (refine And.intro ?_ ?_ <;> conv => whnf) | fail
     have e := Option.some.inj b33
     refine LoopW.norm [(1, (LV.ptr 0 0 0)), (32, (LV.ro 2 (a0.Plans.map PlanT.cells))), (33, (I (((a0.Plans.map PlanT.cells).length : Nat) : Int))), (34, (I ((k33 + 1 : Nat) : Int)))] 1 [(0, (.row 25 3 [[(I a0.Segs), (LV.ro 2 (a0.Plans.map PlanT.cells)), (LV.ro 2 (a0.Hosts.map HostT.cells))]]))] ⟨rfl, rfl, rfl, (congrArg (LV.int .i64) (w64_nat _ (by omega))), trivial⟩ ⟨⟨rfl, rfl, blT⟩, trivial⟩ blT rfl (K33 _ e.symm)
   ·exact (Bool.false_ne_true (hc.symm.trans hd)).elim

def ref16_joins_c0 (a1 : Int) (k41 : Nat) (x41 : LinkT) (s41 : Unit) : Option (Step Bool Unit) :=
 (bif (bif x41.Up then (decide (x41.Seg = a1)) else false) then
  some (.ret true)
 else
  some (.nxt ()))

def ref16_joins (a0 : PlanT) (a1 : Int) : Option Bool :=
 aft (rangeL (ref16_joins_c0 a1) a0.Ports ()) fun s41 =>
 some false

theorem c_ref16_joins (a0 : PlanT) (a1 : Int) (r : Bool) (h : ref16_joins a0 a1 = some r) : CallP Try.prog 65 [(LV.agg [(I a0.ID), (LV.ro 3 (a0.Ports.map LinkT.cells))]), (I a1)] (LV.bool r) := by
 unfold ref16_joins at h
 refine .intro nlA (.intro TT_ok Try.func65 rfl rfl [0, 1, 2, 4, 6, 8, 9, 10, 11, 21] rfl ?_)
 conv => whnf
 repeat' first | exact rA _ | refine parkI ?_ | (refine And.intro ?_ ?_ <;> conv => whnf) | fail
 replace h := aftS h
 obtain ⟨O41, hO41, r41⟩ := h
 refine LoopW.norm [(1, (I a1)), (8, (LV.ro 3 (a0.Ports.map LinkT.cells))), (9, (I (((a0.Ports.map LinkT.cells).length : Nat) : Int))), (10, (I ((0 : Nat) : Int)))] 0 [] ⟨rfl, rfl, rfl, rfl, trivial⟩ trivial blT rfl ?_
 refine LoopW.forR (fun k41 s41 => [(1, (I a1)), (8, (LV.ro 3 (a0.Ports.map LinkT.cells))), (9, (I (((a0.Ports.map LinkT.cells).length : Nat) : Int))), (10, (I ((k41 : Nat) : Int)))]) (fun s41 => ⟨0, []⟩) hO41 (fun hl41 s41 hs41 => ?_) (fun hl41 k41 x41 s41 o41 hk41 hx41 b41 K41 hret41 hbrk41 => ?_)
 ·rw [hs41] at r41
  dsimp only [aftM] at r41
  have hd : decide (((a0.Ports.length : Nat) : Int) < (((a0.Ports.map LinkT.cells).length : Nat) : Int)) = false := by rw [decide_eq_false_iff_not]; (try simp only [se_len, se_ch, List.length_map]); omega
  refine LoopW.round TT_ok [0, 1, 2, 4, 6, 8, 9, 10, 11, 21] ?_
  conv => whnf
  repeat' first | exact rA _ | refine parkI ?_ | (refine And.intro ?_ ?_ <;> conv => whnf) | fail
  refine parkE (fun hc => ?_) (fun hc => ?_)
  ·exact (Bool.false_ne_true (hd.symm.trans hc)).elim
  ·clear hd
   conv => whnf
   have e := Option.some.inj r41
   subst e
   repeat' first | exact rA _ | exact clA _ | (refine And.intro ?_ ?_ <;> conv => whnf) | exact clG _ | (refine gand ?_ h; assumption) | exact clN _ | fail
 ·unfold ref16_joins_c0 at b41
  have hd : decide (((k41 : Nat) : Int) < (((a0.Ports.map LinkT.cells).length : Nat) : Int)) = true := by rw [decide_eq_true_eq]; (try simp only [se_len, se_ch, List.length_map] at hk41); (try simp only [se_len, se_ch, List.length_map]); omega
  refine LoopW.round TT_ok [0, 1, 2, 4, 6, 8, 9, 10, 11, 21] ?_
  conv => whnf
  repeat' first | exact rA _ | refine parkI ?_ | (refine And.intro ?_ ?_ <;> conv => whnf) | fail
  refine parkE (fun hc => ?_) (fun hc => ?_)
  ·clear hd
   conv => whnf
   repeat' first | exact rA _ | refine parkI ?_ | (refine ⟨_, (kixF (f := LinkT.cells) hx41), ?_⟩; conv => whnf) | exact clA _ | (refine And.intro ?_ ?_ <;> conv => whnf) | exact clG _ | (refine gand ?_ h; assumption) | fail
   refine parkE (fun hc => ?_) (fun hc => ?_)
   ·replace b41 := condT hc b41
    conv => whnf
    have e := Option.some.inj b41
    replace e := hret41 _ e.symm
    rw [e] at r41
    replace e := Option.some.inj r41
    subst e
    repeat' first | exact rA _ | exact clA _ | (refine And.intro ?_ ?_ <;> conv => whnf) | exact clG _ | (refine gand ?_ h; assumption) | exact clN _ | fail
   ·replace b41 := condF hc b41
    conv => whnf
    repeat' first | exact rA _ | refine parkI ?_ | (refine And.intro ?_ ?_ <;> conv => whnf) | fail
    have e := Option.some.inj b41
    refine LoopW.norm [(1, (I a1)), (8, (LV.ro 3 (a0.Ports.map LinkT.cells))), (9, (I (((a0.Ports.map LinkT.cells).length : Nat) : Int))), (10, (I ((k41 + 1 : Nat) : Int)))] 0 [] ⟨rfl, rfl, rfl, (congrArg (LV.int .i64) (w64_nat _ (by omega))), trivial⟩ trivial blT rfl (K41 _ e.symm)
  ·exact (Bool.false_ne_true (hc.symm.trans hd)).elim

def ref16_better (a0 : footwayref16_BT) (a1 : footwayref16_BT) : Option Bool :=
 some (bif (decide (a0.Root < a1.Root)) then true else (bif (decide (a0.Root = a1.Root)) then (decide (a0.Cost < a1.Cost)) else false))

theorem c_ref16_better (a0 : footwayref16_BT) (a1 : footwayref16_BT) (r : Bool) (h : ref16_better a0 a1 = some r) : CallP Try.prog 66 [(LV.agg [(I a0.Root), (I a0.Cost)]), (LV.agg [(I a1.Root), (I a1.Cost)])] (LV.bool r) := by
 unfold ref16_better at h
 refine .intro nlA (.intro TT_ok Try.func66 rfl rfl [0, 1, 2, 3, 4] rfl ?_)
 conv => whnf
 have e := Option.some.inj h
 subst e
 repeat' first | exact rA _ | exact clA _ | (refine And.intro ?_ ?_ <;> conv => whnf) | exact clG _ | (refine gand ?_ h; assumption) | exact clN _ | fail

def ref16_near_c1 (a1 : (List footwayref16_BT)) (a2 : Int) (x39 : LinkT) (k40 : Nat) (x40 : PlanT) (s40 : footwayref16_BT) : Option (Step (Step footwayref16_BT footwayref16_BT) footwayref16_BT) :=
 (gix a1 ((k40 : Nat) : Int)).bind fun v20 =>
 (gd (bif (!decide (((k40 : Nat) : Int) = a2)) then x39.Up else false) (ref16_joins x40 x39.Seg)).bind fun y22 =>
 (gd (bif (bif (!decide (((k40 : Nat) : Int) = a2)) then x39.Up else false) then y22 else false) (ref16_better (⟨v20.Root, (IntKind.i64.wrap (v20.Cost + x39.Cost))⟩ : footwayref16_BT) s40)).bind fun y24 =>
 (bif (bif (bif (bif (!decide (((k40 : Nat) : Int) = a2)) then x39.Up else false) then y22 else false) then y24 else false) then
  some (.nxt (⟨v20.Root, (IntKind.i64.wrap (v20.Cost + x39.Cost))⟩ : footwayref16_BT))
 else
  some (.nxt s40))

def ref16_near_c0 (a0 : LanT) (a1 : (List footwayref16_BT)) (a2 : Int) (k39 : Nat) (x39 : LinkT) (s39 : footwayref16_BT) : Option (Step footwayref16_BT footwayref16_BT) :=
 aft (rangeL (ref16_near_c1 a1 a2 x39) a0.Plans s39) fun s40 =>
 some (.nxt s40)

def ref16_near (a0 : LanT) (a1 : (List footwayref16_BT)) (a2 : Int) : Option footwayref16_BT :=
 (gix a1 a2).bind fun v16 =>
 (gix a0.Plans a2).bind fun v18 =>
 aft (rangeL (ref16_near_c0 a0 a1 a2) v18.Ports v16) fun s39 =>
 some s39

theorem c_ref16_near (a0 : LanT) (a1 : (List footwayref16_BT)) (a2 : Int) (r : footwayref16_BT) (h : ref16_near a0 a1 a2 = some r) : CallP Try.prog 43 [(LV.agg [(I a0.Segs), (LV.ro 2 (a0.Plans.map PlanT.cells)), (LV.ro 2 (a0.Hosts.map HostT.cells))]), (LV.ro 2 (a1.map footwayref16_BT.cells)), (I a2)] (LV.agg [(I r.Root), (I r.Cost)]) := by
 unfold ref16_near at h
 refine .intro nlA (.intro TT_ok Try.func43 rfl rfl [0, 1, 2, 3, 6, 7, 9, 10, 11, 12, 22, 23, 24, 25, 29, 30, 31, 32, 67] rfl ?_)
 conv => whnf
 replace h := bindS h
 obtain ⟨v16, hv16, h⟩ := h
 have i17 := gixF (f := footwayref16_BT.cells) hv16
 replace h := bindS h
 obtain ⟨v18, hv18, h⟩ := h
 have i19 := gixF (f := PlanT.cells) hv18
 repeat' first | exact rA _ | refine parkI ?_ | (refine ⟨_, i17, ?_⟩; conv => whnf) | (refine ⟨_, i19, ?_⟩; conv => whnf) | (refine W.drawnM (id := 8) 0 TT_ok hmix1 [0, 0, 0, 0, 0, 0, 0, 0, 0, 0, 0, 0, 0, 0, 0, 1] [1, 1, 1, 1, 1, 1, 1, 1, 1, 1, 1, 1, 1, 1, 1, 2] rfl ?_; conv => whnf) | exact clA _ | (refine And.intro ?_ ?_ <;> conv => whnf) | exact clG _ | (refine gand ?_ h; assumption) | exact clN _ | fail
 replace h := aftS h
 obtain ⟨O39, hO39, r39⟩ := h
 refine LoopW.norm [(1, (LV.ro 2 (a1.map footwayref16_BT.cells))), (2, (I a2)), (3, (LV.ptr 0 0 0)), (6, (LV.ptr 1 0 0)), (7, (LV.ptr 2 0 0)), (22, (LV.ro 3 (v18.Ports.map LinkT.cells))), (23, (I (((v18.Ports.map LinkT.cells).length : Nat) : Int))), (24, (I ((0 : Nat) : Int)))] 3 [(0, (.row 25 3 [[(I a0.Segs), (LV.ro 2 (a0.Plans.map PlanT.cells)), (LV.ro 2 (a0.Hosts.map HostT.cells))]])), (1, (.row 56 2 [[(I 0), (I 0)]])), (2, (.row 56 2 [[(I v16.Root), (I v16.Cost)]]))] ⟨rfl, rfl, rfl, rfl, rfl, rfl, rfl, rfl, trivial⟩ ⟨⟨rfl, rfl, blT⟩, ⟨⟨rfl, rfl, blT⟩, ⟨⟨rfl, rfl, blT⟩, trivial⟩⟩⟩ blT rfl ?_
 refine LoopW.forR (fun k39 s39 => [(1, (LV.ro 2 (a1.map footwayref16_BT.cells))), (2, (I a2)), (3, (LV.ptr 0 0 0)), (6, (LV.ptr 1 0 0)), (7, (LV.ptr 2 0 0)), (22, (LV.ro 3 (v18.Ports.map LinkT.cells))), (23, (I (((v18.Ports.map LinkT.cells).length : Nat) : Int))), (24, (I ((k39 : Nat) : Int)))]) (fun s39 => ⟨3, [(0, (.row 25 3 [[(I a0.Segs), (LV.ro 2 (a0.Plans.map PlanT.cells)), (LV.ro 2 (a0.Hosts.map HostT.cells))]])), (1, (.row 56 2 [[(I 0), (I 0)]])), (2, (.row 56 2 [[(I s39.Root), (I s39.Cost)]]))]⟩) hO39 (fun hl39 s39 hs39 => ?_) (fun hl39 k39 x39 s39 o39 hk39 hx39 b39 K39 hret39 hbrk39 => ?_)
 ·rw [hs39] at r39
  dsimp only [aftM] at r39
  have hd : decide (((v18.Ports.length : Nat) : Int) < (((v18.Ports.map LinkT.cells).length : Nat) : Int)) = false := by rw [decide_eq_false_iff_not]; (try simp only [se_len, se_ch, List.length_map]); omega
  refine LoopW.round TT_ok [0, 1, 2, 3, 6, 7, 9, 10, 11, 12, 22, 23, 24, 25, 29, 30, 31, 32, 67] ?_
  conv => whnf
  repeat' first | exact rA _ | refine parkI ?_ | (refine W.drawnM (id := 8) 0 TT_ok hmix1 [0, 0, 0, 0, 0, 0, 0, 0, 0, 0, 0, 0, 0, 0, 0, 1] [1, 1, 1, 1, 1, 1, 1, 1, 1, 1, 1, 1, 1, 1, 1, 2] rfl ?_; conv => whnf) | exact clA _ | (refine And.intro ?_ ?_ <;> conv => whnf) | exact clG _ | (refine gand ?_ h; assumption) | exact clN _ | fail
  refine parkE (fun hc => ?_) (fun hc => ?_)
  ·exact (Bool.false_ne_true (hd.symm.trans hc)).elim
  ·clear hd
   conv => whnf
   have e := Option.some.inj r39
   subst e
   repeat' first | exact rA _ | (refine W.drawnM (id := 8) 0 TT_ok hmix1 [0, 0, 0, 0, 0, 0, 0, 0, 0, 0, 0, 0, 0, 0, 0, 1] [1, 1, 1, 1, 1, 1, 1, 1, 1, 1, 1, 1, 1, 1, 1, 2] rfl ?_; conv => whnf) | exact clA _ | (refine And.intro ?_ ?_ <;> conv => whnf) | exact clG _ | (refine gand ?_ h; assumption) | exact clN _ | fail
 ·unfold ref16_near_c0 at b39
  have hd : decide (((k39 : Nat) : Int) < (((v18.Ports.map LinkT.cells).length : Nat) : Int)) = true := by rw [decide_eq_true_eq]; (try simp only [se_len, se_ch, List.length_map] at hk39); (try simp only [se_len, se_ch, List.length_map]); omega
  refine LoopW.round TT_ok [0, 1, 2, 3, 6, 7, 9, 10, 11, 12, 22, 23, 24, 25, 29, 30, 31, 32, 67] ?_
  conv => whnf
  repeat' first | exact rA _ | refine parkI ?_ | (refine W.drawnM (id := 8) 0 TT_ok hmix1 [0, 0, 0, 0, 0, 0, 0, 0, 0, 0, 0, 0, 0, 0, 0, 1] [1, 1, 1, 1, 1, 1, 1, 1, 1, 1, 1, 1, 1, 1, 1, 2] rfl ?_; conv => whnf) | exact clA _ | (refine And.intro ?_ ?_ <;> conv => whnf) | exact clG _ | (refine gand ?_ h; assumption) | exact clN _ | fail
  refine parkE (fun hc => ?_) (fun hc => ?_)
  ·clear hd
   conv => whnf
   repeat' first | exact rA _ | refine parkI ?_ | (refine ⟨_, (kixF (f := LinkT.cells) hx39), ?_⟩; conv => whnf) | (refine W.drawnM (id := 8) 0 TT_ok hmix1 [0, 0, 0, 0, 0, 0, 0, 0, 0, 0, 0, 0, 0, 0, 0, 1] [1, 1, 1, 1, 1, 1, 1, 1, 1, 1, 1, 1, 1, 1, 1, 2] rfl ?_; conv => whnf) | exact clA _ | (refine And.intro ?_ ?_ <;> conv => whnf) | exact clG _ | (refine gand ?_ h; assumption) | exact clN _ | fail
   replace b39 := aftS b39
   obtain ⟨O40, hO40, r40⟩ := b39
   refine LoopW.norm [(1, (LV.ro 2 (a1.map footwayref16_BT.cells))), (2, (I a2)), (3, (LV.ptr 0 0 0)), (6, (LV.ptr 1 0 0)), (7, (LV.ptr 2 0 0)), (9, (LV.ptr 3 0 0)), (22, (LV.ro 3 (v18.Ports.map LinkT.cells))), (23, (I (((v18.Ports.map LinkT.cells).length : Nat) : Int))), (24, (I ((k39 : Nat) : Int))), (29, (LV.ro 2 (a0.Plans.map PlanT.cells))), (30, (I (((a0.Plans.map PlanT.cells).length : Nat) : Int))), (31, (I ((0 : Nat) : Int)))] 4 [(0, (.row 25 3 [[(I a0.Segs), (LV.ro 2 (a0.Plans.map PlanT.cells)), (LV.ro 2 (a0.Hosts.map HostT.cells))]])), (1, (.row 56 2 [[(I 0), (I 0)]])), (2, (.row 56 2 [[(I s39.Root), (I s39.Cost)]])), (3, (.row 35 3 [[(I x39.Seg), (I x39.Cost), (LV.bool x39.Up)]]))] ⟨rfl, rfl, rfl, rfl, rfl, rfl, rfl, rfl, rfl, rfl, rfl, rfl, trivial⟩ ⟨⟨rfl, rfl, blT⟩, ⟨⟨rfl, rfl, blT⟩, ⟨⟨rfl, rfl, blT⟩, ⟨⟨rfl, rfl, blT⟩, trivial⟩⟩⟩⟩ blT rfl ?_
   refine LoopW.forR (fun k40 s40 => [(1, (LV.ro 2 (a1.map footwayref16_BT.cells))), (2, (I a2)), (3, (LV.ptr 0 0 0)), (6, (LV.ptr 1 0 0)), (7, (LV.ptr 2 0 0)), (9, (LV.ptr 3 0 0)), (22, (LV.ro 3 (v18.Ports.map LinkT.cells))), (23, (I (((v18.Ports.map LinkT.cells).length : Nat) : Int))), (24, (I ((k39 : Nat) : Int))), (29, (LV.ro 2 (a0.Plans.map PlanT.cells))), (30, (I (((a0.Plans.map PlanT.cells).length : Nat) : Int))), (31, (I ((k40 : Nat) : Int)))]) (fun s40 => ⟨4, [(0, (.row 25 3 [[(I a0.Segs), (LV.ro 2 (a0.Plans.map PlanT.cells)), (LV.ro 2 (a0.Hosts.map HostT.cells))]])), (1, (.row 56 2 [[(I 0), (I 0)]])), (2, (.row 56 2 [[(I s40.Root), (I s40.Cost)]])), (3, (.row 35 3 [[(I x39.Seg), (I x39.Cost), (LV.bool x39.Up)]]))]⟩) hO40 (fun hl40 s40 hs40 => ?_) (fun hl40 k40 x40 s40 o40 hk40 hx40 b40 K40 hret40 hbrk40 => ?_)
   ·rw [hs40] at r40
    dsimp only [aftM] at r40
    have hd : decide (((a0.Plans.length : Nat) : Int) < (((a0.Plans.map PlanT.cells).length : Nat) : Int)) = false := by rw [decide_eq_false_iff_not]; (try simp only [se_len, se_ch, List.length_map]); omega
    refine LoopW.round TT_ok [0, 1, 2, 3, 6, 7, 9, 10, 11, 12, 22, 23, 24, 25, 29, 30, 31, 32, 67] ?_
    conv => whnf
    repeat' first | exact rA _ | refine parkI ?_ | (refine W.drawnM (id := 8) 0 TT_ok hmix1 [0, 0, 0, 0, 0, 0, 0, 0, 0, 0, 0, 0, 0, 0, 0, 1] [1, 1, 1, 1, 1, 1, 1, 1, 1, 1, 1, 1, 1, 1, 1, 2] rfl ?_; conv => whnf) | exact clA _ | (refine And.intro ?_ ?_ <;> conv => whnf) | exact clG _ | (refine gand ?_ h; assumption) | exact clN _ | fail
    refine parkE (fun hc => ?_) (fun hc => ?_)
    ·exact (Bool.false_ne_true (hd.symm.trans hc)).elim
    ·clear hd
     conv => whnf
     repeat' first | exact rA _ | refine parkI ?_ | (refine W.drawnM (id := 8) 0 TT_ok hmix1 [0, 0, 0, 0, 0, 0, 0, 0, 0, 0, 0, 0, 0, 0, 0, 1] [1, 1, 1, 1, 1, 1, 1, 1, 1, 1, 1, 1, 1, 1, 1, 2] rfl ?_; conv => whnf) | exact clA _ | (refine And.intro ?_ ?_ <;> conv => whnf) | exact clG _ | (refine gand ?_ h; assumption) | exact clN _ | fail
     have e := Option.some.inj r40
     refine LoopW.norm [(1, (LV.ro 2 (a1.map footwayref16_BT.cells))), (2, (I a2)), (3, (LV.ptr 0 0 0)), (6, (LV.ptr 1 0 0)), (7, (LV.ptr 2 0 0)), (22, (LV.ro 3 (v18.Ports.map LinkT.cells))), (23, (I (((v18.Ports.map LinkT.cells).length : Nat) : Int))), (24, (I ((k39 + 1 : Nat) : Int)))] 3 [(0, (.row 25 3 [[(I a0.Segs), (LV.ro 2 (a0.Plans.map PlanT.cells)), (LV.ro 2 (a0.Hosts.map HostT.cells))]])), (1, (.row 56 2 [[(I 0), (I 0)]])), (2, (.row 56 2 [[(I s40.Root), (I s40.Cost)]]))] ⟨rfl, rfl, rfl, rfl, rfl, rfl, rfl, (congrArg (LV.int .i64) (w64_nat _ (by omega))), trivial⟩ ⟨⟨rfl, rfl, blT⟩, ⟨⟨rfl, rfl, blT⟩, ⟨⟨rfl, rfl, blT⟩, trivial⟩⟩⟩ blT rfl (K39 _ e.symm)
   ·unfold ref16_near_c1 at b40
    have hd : decide (((k40 : Nat) : Int) < (((a0.Plans.map PlanT.cells).length : Nat) : Int)) = true := by rw [decide_eq_true_eq]; (try simp only [se_len, se_ch, List.length_map] at hk40); (try simp only [se_len, se_ch, List.length_map]); omega
    refine LoopW.round TT_ok [0, 1, 2, 3, 6, 7, 9, 10, 11, 12, 22, 23, 24, 25, 29, 30, 31, 32, 67] ?_
    conv => whnf
    repeat' first | exact rA _ | refine parkI ?_ | (refine W.drawnM (id := 8) 0 TT_ok hmix1 [0, 0, 0, 0, 0, 0, 0, 0, 0, 0, 0, 0, 0, 0, 0, 1] [1, 1, 1, 1, 1, 1, 1, 1, 1, 1, 1, 1, 1, 1, 1, 2] rfl ?_; conv => whnf) | exact clA _ | (refine And.intro ?_ ?_ <;> conv => whnf) | exact clG _ | (refine gand ?_ h; assumption) | exact clN _ | fail
    refine parkE (fun hc => ?_) (fun hc => ?_)
    ·clear hd
     conv => whnf
     replace b40 := bindS b40
     obtain ⟨v20, hv20, b40⟩ := b40
     have i21 := gixF (f := footwayref16_BT.cells) hv20
     replace b40 := bindS b40
     obtain ⟨y22, hy22, b40⟩ := b40
     have c23 := fun (hg : (bif (!decide (((k40 : Nat) : Int) = a2)) then x39.Up else false) = true) => c_ref16_joins x40 x39.Seg _ (gdS hg hy22)
     replace b40 := bindS b40
     obtain ⟨y24, hy24, b40⟩ := b40
     have c25 : (bif (bif (!decide (((k40 : Nat) : Int) = a2)) then x39.Up else false) then y22 else false) = true → CallP Try.prog 66 [(LV.agg [(I v20.Root), (I (IntKind.i64.wrap (v20.Cost + x39.Cost)))]), (LV.agg [(I s40.Root), (I s40.Cost)])] (LV.bool y24) := by first | exact fun (hg : (bif (bif (!decide (((k40 : Nat) : Int) = a2)) then x39.Up else false) then y22 else false) = true) => c_ref16_better (⟨v20.Root, (IntKind.i64.wrap (v20.Cost + x39.Cost))⟩ : footwayref16_BT) s40 _ (gdS hg hy24) | (simpa only [se_map, se_byL, se_len, se_ch, List.length_map] using fun (hg : (bif (bif (!decide (((k40 : Nat) : Int) = a2)) then x39.Up else false) then y22 else false) = true) => c_ref16_better (⟨v20.Root, (IntKind.i64.wrap (v20.Cost + x39.Cost))⟩ : footwayref16_BT) s40 _ (gdS hg hy24))
     repeat' first | exact rA _ | refine parkI ?_ | (refine ⟨_, (kixF (f := PlanT.cells) hx40), ?_⟩; conv => whnf) | (refine ⟨_, i21, ?_⟩; conv => whnf) | (refine ⟨_, c23, ?_⟩; conv => whnf) | (refine ⟨_, c25, ?_⟩; conv => whnf) | (refine W.drawnM (id := 8) 0 TT_ok hmix1 [0, 0, 0, 0, 0, 0, 0, 0, 0, 0, 0, 0, 0, 0, 0, 1] [1, 1, 1, 1, 1, 1, 1, 1, 1, 1, 1, 1, 1, 1, 1, 2] rfl ?_; conv => whnf) | exact clA _ | (refine And.intro ?_ ?_ <;> conv => whnf) | exact clG _ | (refine gand ?_ h; assumption) | exact clN _ | fail
     refine parkE (fun hc => ?_) (fun hc => ?_)
     ·replace b40 := condT hc b40
      conv => whnf
      repeat' first | exact rA _ | refine parkI ?_ | (refine W.drawnM (id := 8) 0 TT_ok hmix1 [0, 0, 0, 0, 0, 0, 0, 0, 0, 0, 0, 0, 0, 0, 0, 1] [1, 1, 1, 1, 1, 1, 1, 1, 1, 1, 1, 1, 1, 1, 1, 2] rfl ?_; conv => whnf) | exact clA _ | (refine And.intro ?_ ?_ <;> conv => whnf) | exact clG _ | (refine gand ?_ h; assumption) | exact clN _ | fail
      have e := Option.some.inj b40
      refine LoopW.norm [(1, (LV.ro 2 (a1.map footwayref16_BT.cells))), (2, (I a2)), (3, (LV.ptr 0 0 0)), (6, (LV.ptr 1 0 0)), (7, (LV.ptr 2 0 0)), (9, (LV.ptr 3 0 0)), (22, (LV.ro 3 (v18.Ports.map LinkT.cells))), (23, (I (((v18.Ports.map LinkT.cells).length : Nat) : Int))), (24, (I ((k39 : Nat) : Int))), (29, (LV.ro 2 (a0.Plans.map PlanT.cells))), (30, (I (((a0.Plans.map PlanT.cells).length : Nat) : Int))), (31, (I ((k40 + 1 : Nat) : Int)))] 4 [(0, (.row 25 3 [[(I a0.Segs), (LV.ro 2 (a0.Plans.map PlanT.cells)), (LV.ro 2 (a0.Hosts.map HostT.cells))]])), (1, (.row 56 2 [[(I 0), (I 0)]])), (2, (.row 56 2 [[(I (⟨v20.Root, (IntKind.i64.wrap (v20.Cost + x39.Cost))⟩ : footwayref16_BT).Root), (I (⟨v20.Root, (IntKind.i64.wrap (v20.Cost + x39.Cost))⟩ : footwayref16_BT).Cost)]])), (3, (.row 35 3 [[(I x39.Seg), (I x39.Cost), (LV.bool x39.Up)]]))] ⟨rfl, rfl, rfl, rfl, rfl, rfl, rfl, rfl, rfl, rfl, rfl, (congrArg (LV.int .i64) (w64_nat _ (by omega))), trivial⟩ ⟨⟨rfl, rfl, blT⟩, ⟨⟨rfl, rfl, blT⟩, ⟨⟨(congrArg (fun q => some (Blk.row 56 2 q)) (by first | (simp only [se_map, se_byL, se_len, se_ch, List.length_map]; done) | (simp only [se_map, se_byL, se_len, se_ch, List.length_map, footwayref16_BT.cells]; done) : ([[(I v20.Root), (I (IntKind.i64.wrap (v20.Cost + x39.Cost)))]] : List (List LV)) = [[(I (⟨v20.Root, (IntKind.i64.wrap (v20.Cost + x39.Cost))⟩ : footwayref16_BT).Root), (I (⟨v20.Root, (IntKind.i64.wrap (v20.Cost + x39.Cost))⟩ : footwayref16_BT).Cost)]])), rfl, blT⟩, ⟨⟨rfl, rfl, blT⟩, trivial⟩⟩⟩⟩ blT rfl (K40 _ e.symm)
     ·replace b40 := condF hc b40
      conv => whnf
      repeat' first | exact rA _ | refine parkI ?_ | (refine W.drawnM (id := 8) 0 TT_ok hmix1 [0, 0, 0, 0, 0, 0, 0, 0, 0, 0, 0, 0, 0, 0, 0, 1] [1, 1, 1, 1, 1, 1, 1, 1, 1, 1, 1, 1, 1, 1, 1, 2] rfl ?_; conv => whnf) | exact clA _ | (refine And.intro ?_ ?_ <;> conv => whnf) | exact clG _ | (refine gand ?_ h; assumption) | exact clN _ | fail
      have e := Option.some.inj b40
      refine LoopW.norm [(1, (LV.ro 2 (a1.map footwayref16_BT.cells))), (2, (I a2)), (3, (LV.ptr 0 0 0)), (6, (LV.ptr 1 0 0)), (7, (LV.ptr 2 0 0)), (9, (LV.ptr 3 0 0)), (22, (LV.ro 3 (v18.Ports.map LinkT.cells))), (23, (I (((v18.Ports.map LinkT.cells).length : Nat) : Int))), (24, (I ((k39 : Nat) : Int))), (29, (LV.ro 2 (a0.Plans.map PlanT.cells))), (30, (I (((a0.Plans.map PlanT.cells).length : Nat) : Int))), (31, (I ((k40 + 1 : Nat) : Int)))] 4 [(0, (.row 25 3 [[(I a0.Segs), (LV.ro 2 (a0.Plans.map PlanT.cells)), (LV.ro 2 (a0.Hosts.map HostT.cells))]])), (1, (.row 56 2 [[(I 0), (I 0)]])), (2, (.row 56 2 [[(I s40.Root), (I s40.Cost)]])), (3, (.row 35 3 [[(I x39.Seg), (I x39.Cost), (LV.bool x39.Up)]]))] ⟨rfl, rfl, rfl, rfl, rfl, rfl, rfl, rfl, rfl, rfl, rfl, (congrArg (LV.int .i64) (w64_nat _ (by omega))), trivial⟩ ⟨⟨rfl, rfl, blT⟩, ⟨⟨rfl, rfl, blT⟩, ⟨⟨rfl, rfl, blT⟩, ⟨⟨rfl, rfl, blT⟩, trivial⟩⟩⟩⟩ blT rfl (K40 _ e.symm)
    ·exact (Bool.false_ne_true (hc.symm.trans hd)).elim
  ·exact (Bool.false_ne_true (hc.symm.trans hd)).elim

def ref16_Bests_c0  (k36 : Nat) (x36 : PlanT) (s36 : (List footwayref16_BT)) : Option (Step (List footwayref16_BT) (List footwayref16_BT)) :=
 grd (fits ((s36 ++ ([(⟨x36.ID, 0⟩ : footwayref16_BT)] : (List footwayref16_BT))) : List footwayref16_BT).length 16) <|
 some (.nxt (s36 ++ ([(⟨x36.ID, 0⟩ : footwayref16_BT)] : (List footwayref16_BT))))

def ref16_Bests_c2 (a0 : LanT) (s37 : (List footwayref16_BT)) (k38 : Nat) (x38 : PlanT) (s38 : (List footwayref16_BT)) : Option (Step (Step (List footwayref16_BT) (List footwayref16_BT)) (List footwayref16_BT)) :=
 (ref16_near a0 s37 ((k38 : Nat) : Int)).bind fun y16 =>
 grd (fits ((s38 ++ ([y16] : (List footwayref16_BT))) : List footwayref16_BT).length 16) <|
 some (.nxt (s38 ++ ([y16] : (List footwayref16_BT))))

def ref16_Bests_c1 (a0 : LanT) (k37 : Nat) (x37 : PlanT) (s37 : (List footwayref16_BT)) : Option (Step (List footwayref16_BT) (List footwayref16_BT)) :=
 aft (rangeL (ref16_Bests_c2 a0 s37) a0.Plans ([] : (List footwayref16_BT))) fun s38 =>
 some (.nxt s38)

def ref16_Bests (a0 : LanT) : Option (List footwayref16_BT) :=
 aft (rangeL (ref16_Bests_c0 ) a0.Plans ([] : (List footwayref16_BT))) fun s36 =>
 aft (rangeL (ref16_Bests_c1 a0) a0.Plans s36) fun s37 =>
 some s37

theorem cf_ref16_Bests (a0 : LanT) (r : (List footwayref16_BT)) (h : ref16_Bests a0 = some r) : CallF Try.prog 19 [(LV.agg [(I a0.Segs), (LV.ro 2 (a0.Plans.map PlanT.cells)), (LV.ro 2 (a0.Hosts.map HostT.cells))])] 56 2 (r.map footwayref16_BT.cells) := by
 unfold ref16_Bests at h
 refine CallF.of (NLss_map' _) (CallW.intro TT_ok Try.func19 rfl rfl [0, 1, 2, 3, 5, 6, 7, 10, 11, 12, 13, 25, 26, 27, 31, 32, 33] rfl ?_)
 conv => whnf
 repeat' first | exact rA _ | refine parkI ?_ | (refine And.intro ?_ ?_ <;> conv => whnf) | fail
 replace h := aftS h
 obtain ⟨O36, hO36, r36⟩ := h
 refine LoopW.norm [(1, (LV.ptr 0 0 0)), (3, (LV.sl 1 0 (([] : (List footwayref16_BT)).map footwayref16_BT.cells).length)), (10, (LV.ro 2 (a0.Plans.map PlanT.cells))), (11, (I (((a0.Plans.map PlanT.cells).length : Nat) : Int))), (12, (I ((0 : Nat) : Int)))] 2 [(0, (.row 25 3 [[(I a0.Segs), (LV.ro 2 (a0.Plans.map PlanT.cells)), (LV.ro 2 (a0.Hosts.map HostT.cells))]])), (1, (.row 56 2 (([] : (List footwayref16_BT)).map footwayref16_BT.cells)))] ⟨rfl, (by exact congrArg (LV.sl 1 0) (clL _ : 0 = (([] : (List footwayref16_BT)).map footwayref16_BT.cells).length)), rfl, rfl, rfl, trivial⟩ ⟨⟨rfl, rfl, blT⟩, ⟨⟨(congrArg (fun q => some (Blk.row 56 2 q)) (smT : (([] : List (List LV)) : List (List LV)) = (([] : (List footwayref16_BT)).map footwayref16_BT.cells))), rfl, NLss_bel (NLss_map' _)⟩, trivial⟩⟩ blT rfl ?_
 refine LoopW.forR (fun k36 s36 => [(1, (LV.ptr 0 0 0)), (3, (LV.sl 1 0 (s36.map footwayref16_BT.cells).length)), (10, (LV.ro 2 (a0.Plans.map PlanT.cells))), (11, (I (((a0.Plans.map PlanT.cells).length : Nat) : Int))), (12, (I ((k36 : Nat) : Int)))]) (fun s36 => ⟨2, [(0, (.row 25 3 [[(I a0.Segs), (LV.ro 2 (a0.Plans.map PlanT.cells)), (LV.ro 2 (a0.Hosts.map HostT.cells))]])), (1, (.row 56 2 (s36.map footwayref16_BT.cells)))]⟩) hO36 (fun hl36 s36 hs36 => ?_) (fun hl36 k36 x36 s36 o36 hk36 hx36 b36 K36 hret36 hbrk36 => ?_)
 ·rw [hs36] at r36
  dsimp only [aftM] at r36
  have hd : decide (((a0.Plans.length : Nat) : Int) < (((a0.Plans.map PlanT.cells).length : Nat) : Int)) = false := by rw [decide_eq_false_iff_not]; (try simp only [se_len, se_ch, List.length_map]); omega
  refine LoopW.round TT_ok [0, 1, 2, 3, 5, 6, 7, 10, 11, 12, 13, 25, 26, 27, 31, 32, 33] ?_
  conv => whnf
  repeat' first | exact rA _ | refine parkI ?_ | (refine And.intro ?_ ?_ <;> conv => whnf) | fail
  refine parkE (fun hc => ?_) (fun hc => ?_)
  ·exact (Bool.false_ne_true (hd.symm.trans hc)).elim
  ·clear hd
   conv => whnf
   repeat' first | exact rA _ | refine parkI ?_ | (refine And.intro ?_ ?_ <;> conv => whnf) | fail
   replace r36 := aftS r36
   obtain ⟨O37, hO37, r37⟩ := r36
   refine LoopW.norm [(1, (LV.ptr 0 0 0)), (3, (LV.sl 1 0 (s36.map footwayref16_BT.cells).length)), (25, (I (((a0.Plans.map PlanT.cells).length : Nat) : Int))), (26, (I ((0 : Nat) : Int)))] 2 [(0, (.row 25 3 [[(I a0.Segs), (LV.ro 2 (a0.Plans.map PlanT.cells)), (LV.ro 2 (a0.Hosts.map HostT.cells))]])), (1, (.row 56 2 (s36.map footwayref16_BT.cells)))] ⟨rfl, rfl, rfl, rfl, trivial⟩ ⟨⟨rfl, rfl, blT⟩, ⟨⟨rfl, rfl, NLss_bel (NLss_map' _)⟩, trivial⟩⟩ blT rfl ?_
   refine LoopW.forR (fun k37 s37 => [(1, (LV.ptr 0 0 0)), (3, (LV.sl 1 0 (s37.map footwayref16_BT.cells).length)), (25, (I (((a0.Plans.map PlanT.cells).length : Nat) : Int))), (26, (I ((k37 : Nat) : Int)))]) (fun s37 => ⟨2, [(0, (.row 25 3 [[(I a0.Segs), (LV.ro 2 (a0.Plans.map PlanT.cells)), (LV.ro 2 (a0.Hosts.map HostT.cells))]])), (1, (.row 56 2 (s37.map footwayref16_BT.cells)))]⟩) hO37 (fun hl37 s37 hs37 => ?_) (fun hl37 k37 x37 s37 o37 hk37 hx37 b37 K37 hret37 hbrk37 => ?_)
   ·rw [hs37] at r37
    dsimp only [aftM] at r37
    have hd : decide (((a0.Plans.length : Nat) : Int) < (((a0.Plans.map PlanT.cells).length : Nat) : Int)) = false := by rw [decide_eq_false_iff_not]; (try simp only [se_len, se_ch, List.length_map]); omega
    refine LoopW.round TT_ok [0, 1, 2, 3, 5, 6, 7, 10, 11, 12, 13, 25, 26, 27, 31, 32, 33] ?_
    conv => whnf
    repeat' first | exact rA _ | refine parkI ?_ | (refine And.intro ?_ ?_ <;> conv => whnf) | fail
    refine parkE (fun hc => ?_) (fun hc => ?_)
    ·exact (Bool.false_ne_true (hd.symm.trans hc)).elim
    ·clear hd
     conv => whnf
     have e := Option.some.inj r37
     subst e
     repeat' first | exact rA _ | exact Or.inr ⟨_, rfl, congrArg (fun q => some (Blk.row 56 2 q)) rfl⟩ | exact clA _ | (refine And.intro ?_ ?_ <;> conv => whnf) | exact clG _ | (refine gand ?_ h; assumption) | exact clN _ | fail
   ·unfold ref16_Bests_c1 at b37
    have hd : decide (((k37 : Nat) : Int) < (((a0.Plans.map PlanT.cells).length : Nat) : Int)) = true := by rw [decide_eq_true_eq]; (try simp only [se_len, se_ch, List.length_map] at hk37); (try simp only [se_len, se_ch, List.length_map]); omega
    refine LoopW.round TT_ok [0, 1, 2, 3, 5, 6, 7, 10, 11, 12, 13, 25, 26, 27, 31, 32, 33] ?_
    conv => whnf
    repeat' first | exact rA _ | refine parkI ?_ | (refine And.intro ?_ ?_ <;> conv => whnf) | fail
    refine parkE (fun hc => ?_) (fun hc => ?_)
    ·clear hd
     conv => whnf
     repeat' first | exact rA _ | refine parkI ?_ | exact clA _ | (refine And.intro ?_ ?_ <;> conv => whnf) | exact clN _ | fail
     replace b37 := aftS b37
     obtain ⟨O38, hO38, r38⟩ := b37
     refine LoopW.frz [1] ?_
     conv => whnf
     repeat' first | exact rA _ | refine parkI ?_ | exact clA _ | (refine And.intro ?_ ?_ <;> conv => whnf) | exact clN _ | fail
     refine LoopW.norm [(1, (LV.ptr 0 0 0)), (3, (LV.ro 2 (s37.map footwayref16_BT.cells))), (6, (LV.sl 2 0 (([] : (List footwayref16_BT)).map footwayref16_BT.cells).length)), (25, (I (((a0.Plans.map PlanT.cells).length : Nat) : Int))), (26, (I ((k37 : Nat) : Int))), (31, (I (((a0.Plans.map PlanT.cells).length : Nat) : Int))), (32, (I ((0 : Nat) : Int)))] 3 [(0, (.row 25 3 [[(I a0.Segs), (LV.ro 2 (a0.Plans.map PlanT.cells)), (LV.ro 2 (a0.Hosts.map HostT.cells))]])), (2, (.row 56 2 (([] : (List footwayref16_BT)).map footwayref16_BT.cells)))] ⟨rfl, rfl, (by exact congrArg (LV.sl 2 0) (clL _ : 0 = (([] : (List footwayref16_BT)).map footwayref16_BT.cells).length)), rfl, rfl, rfl, rfl, trivial⟩ ⟨⟨rfl, rfl, blT⟩, ⟨⟨(congrArg (fun q => some (Blk.row 56 2 q)) (smT : (([] : List (List LV)) : List (List LV)) = (([] : (List footwayref16_BT)).map footwayref16_BT.cells))), rfl, NLss_bel (NLss_map' _)⟩, trivial⟩⟩ blT rfl ?_
     refine LoopW.forR (fun k38 s38 => [(1, (LV.ptr 0 0 0)), (3, (LV.ro 2 (s37.map footwayref16_BT.cells))), (6, (LV.sl 2 0 (s38.map footwayref16_BT.cells).length)), (25, (I (((a0.Plans.map PlanT.cells).length : Nat) : Int))), (26, (I ((k37 : Nat) : Int))), (31, (I (((a0.Plans.map PlanT.cells).length : Nat) : Int))), (32, (I ((k38 : Nat) : Int)))]) (fun s38 => ⟨3, [(0, (.row 25 3 [[(I a0.Segs), (LV.ro 2 (a0.Plans.map PlanT.cells)), (LV.ro 2 (a0.Hosts.map HostT.cells))]])), (2, (.row 56 2 (s38.map footwayref16_BT.cells)))]⟩) hO38 (fun hl38 s38 hs38 => ?_) (fun hl38 k38 x38 s38 o38 hk38 hx38 b38 K38 hret38 hbrk38 => ?_)
     ·rw [hs38] at r38
      dsimp only [aftM] at r38
      have hd : decide (((a0.Plans.length : Nat) : Int) < (((a0.Plans.map PlanT.cells).length : Nat) : Int)) = false := by rw [decide_eq_false_iff_not]; (try simp only [se_len, se_ch, List.length_map]); omega
      refine LoopW.round TT_ok [0, 1, 2, 3, 5, 6, 7, 10, 11, 12, 13, 25, 26, 27, 31, 32, 33] ?_
      conv => whnf
      repeat' first | exact rA _ | refine parkI ?_ | (refine And.intro ?_ ?_ <;> conv => whnf) | fail
      refine parkE (fun hc => ?_) (fun hc => ?_)
      ·exact (Bool.false_ne_true (hd.symm.trans hc)).elim
      ·clear hd
       conv => whnf
       repeat' first | exact rA _ | refine parkI ?_ | (refine And.intro ?_ ?_ <;> conv => whnf) | fail
       have e := Option.some.inj r38
       refine LoopW.ren [(0, 0), (2, 1)] [(1, (LV.ptr 0 0 0)), (3, (LV.sl 1 0 (s38.map footwayref16_BT.cells).length)), (25, (I (((a0.Plans.map PlanT.cells).length : Nat) : Int))), (26, (I ((k37 + 1 : Nat) : Int)))] 2 [(0, (.row 25 3 [[(I a0.Segs), (LV.ro 2 (a0.Plans.map PlanT.cells)), (LV.ro 2 (a0.Hosts.map HostT.cells))]])), (1, (.row 56 2 (s38.map footwayref16_BT.cells)))] rfl ⟨rfl, rfl, rfl, (congrArg (LV.int .i64) (w64_nat _ (by omega))), trivial⟩ ⟨⟨rfl, rfl, .inl ⟨rfl, nlT⟩⟩, rfl, rfl, ⟨⟨rfl, rfl, .inl ⟨rfl, nlT⟩⟩, rfl, rfl, trivial⟩⟩ rfl (K37 _ e.symm)
     ·unfold ref16_Bests_c2 at b38
      have hd : decide (((k38 : Nat) : Int) < (((a0.Plans.map PlanT.cells).length : Nat) : Int)) = true := by rw [decide_eq_true_eq]; (try simp only [se_len, se_ch, List.length_map] at hk38); (try simp only [se_len, se_ch, List.length_map]); omega
      refine LoopW.round TT_ok [0, 1, 2, 3, 5, 6, 7, 10, 11, 12, 13, 25, 26, 27, 31, 32, 33] ?_
      conv => whnf
      repeat' first | exact rA _ | refine parkI ?_ | (refine And.intro ?_ ?_ <;> conv => whnf) | fail
      refine parkE (fun hc => ?_) (fun hc => ?_)
      ·clear hd
       conv => whnf
       replace b38 := bindS b38
       obtain ⟨y16, hy16, b38⟩ := b38
       have c17 := c_ref16_near a0 s37 ((k38 : Nat) : Int) _ hy16
       replace b38 := grdS b38
       obtain ⟨g18, b38⟩ := b38
       replace g18 : fits (((s38.map footwayref16_BT.cells) ++ [[(I y16.Root), (I y16.Cost)]])).length 16 := by simpa only [se_len, se_ch, List.length_map] using g18
       repeat' first | exact rA _ | refine parkI ?_ | exact g18 | (refine CallP.use c17 ?_; conv => whnf) | exact clA _ | (refine And.intro ?_ ?_ <;> conv => whnf) | exact clN _ | fail
       have e := Option.some.inj b38
       refine LoopW.ren [(0, 0), (4, 2)] [(1, (LV.ptr 0 0 0)), (3, (LV.ro 2 (s37.map footwayref16_BT.cells))), (6, (LV.sl 2 0 ((s38 ++ ([y16] : (List footwayref16_BT))).map footwayref16_BT.cells).length)), (25, (I (((a0.Plans.map PlanT.cells).length : Nat) : Int))), (26, (I ((k37 : Nat) : Int))), (31, (I (((a0.Plans.map PlanT.cells).length : Nat) : Int))), (32, (I ((k38 + 1 : Nat) : Int)))] 3 [(0, (.row 25 3 [[(I a0.Segs), (LV.ro 2 (a0.Plans.map PlanT.cells)), (LV.ro 2 (a0.Hosts.map HostT.cells))]])), (2, (.row 56 2 ((s38 ++ ([y16] : (List footwayref16_BT))).map footwayref16_BT.cells)))] rfl ⟨rfl, rfl, (by exact congrArg (LV.sl 2 0) (clL _ : (((s38.map footwayref16_BT.cells) ++ [[(I y16.Root), (I y16.Cost)]])).length = ((s38 ++ ([y16] : (List footwayref16_BT))).map footwayref16_BT.cells).length)), rfl, rfl, rfl, (congrArg (LV.int .i64) (w64_nat _ (by omega))), trivial⟩ ⟨⟨rfl, rfl, .inl ⟨rfl, nlT⟩⟩, rfl, rfl, ⟨⟨rfl, rfl, .inl ⟨(smT : (((s38.map footwayref16_BT.cells) ++ [[(I y16.Root), (I y16.Cost)]]) : List (List LV)) = ((s38 ++ ([y16] : (List footwayref16_BT))).map footwayref16_BT.cells)), nlT⟩⟩, rfl, rfl, trivial⟩⟩ rfl (K38 _ e.symm)
      ·exact (Bool.false_ne_true (hc.symm.trans hd)).elim
    ·exact (Bool.false_ne_true (hc.symm.trans hd)).elim
 ·unfold ref16_Bests_c0 at b36
  have hd : decide (((k36 : Nat) : Int) < (((a0.Plans.map PlanT.cells).length : Nat) : Int)) = true := by rw [decide_eq_true_eq]; (try simp only [se_len, se_ch, List.length_map] at hk36); (try simp only [se_len, se_ch, List.length_map]); omega
  refine LoopW.round TT_ok [0, 1, 2, 3, 5, 6, 7, 10, 11, 12, 13, 25, 26, 27, 31, 32, 33] ?_
  conv => whnf
  repeat' first | exact rA _ | refine parkI ?_ | (refine And.intro ?_ ?_ <;> conv => whnf) | fail
  refine parkE (fun hc => ?_) (fun hc => ?_)
  ·clear hd
   conv => whnf
   replace b36 := grdS b36
   obtain ⟨g15, b36⟩ := b36
   replace g15 : fits (((s36.map footwayref16_BT.cells) ++ [[(I x36.ID), (I 0)]])).length 16 := by simpa only [se_len, se_ch, List.length_map] using g15
   repeat' first | exact rA _ | refine parkI ?_ | (refine ⟨_, (kixF (f := PlanT.cells) hx36), ?_⟩; conv => whnf) | exact g15 | exact clA _ | (refine And.intro ?_ ?_ <;> conv => whnf) | exact clN _ | fail
   have e := Option.some.inj b36
   refine LoopW.ren [(0, 0), (4, 1)] [(1, (LV.ptr 0 0 0)), (3, (LV.sl 1 0 ((s36 ++ ([(⟨x36.ID, 0⟩ : footwayref16_BT)] : (List footwayref16_BT))).map footwayref16_BT.cells).length)), (10, (LV.ro 2 (a0.Plans.map PlanT.cells))), (11, (I (((a0.Plans.map PlanT.cells).length : Nat) : Int))), (12, (I ((k36 + 1 : Nat) : Int)))] 2 [(0, (.row 25 3 [[(I a0.Segs), (LV.ro 2 (a0.Plans.map PlanT.cells)), (LV.ro 2 (a0.Hosts.map HostT.cells))]])), (1, (.row 56 2 ((s36 ++ ([(⟨x36.ID, 0⟩ : footwayref16_BT)] : (List footwayref16_BT))).map footwayref16_BT.cells)))] rfl ⟨rfl, (by exact congrArg (LV.sl 1 0) (clL _ : (((s36.map footwayref16_BT.cells) ++ [[(I x36.ID), (I 0)]])).length = ((s36 ++ ([(⟨x36.ID, 0⟩ : footwayref16_BT)] : (List footwayref16_BT))).map footwayref16_BT.cells).length)), rfl, rfl, (congrArg (LV.int .i64) (w64_nat _ (by omega))), trivial⟩ ⟨⟨rfl, rfl, .inl ⟨rfl, nlT⟩⟩, rfl, rfl, ⟨⟨rfl, rfl, .inl ⟨(by first | (simp only [se_map, se_byL, se_len, se_ch, List.length_map]; done) | (simp only [se_map, se_byL, se_len, se_ch, List.length_map, footwayref16_BT.cells]; done) : (((s36.map footwayref16_BT.cells) ++ [[(I x36.ID), (I 0)]]) : List (List LV)) = ((s36 ++ ([(⟨x36.ID, 0⟩ : footwayref16_BT)] : (List footwayref16_BT))).map footwayref16_BT.cells)), nlT⟩⟩, rfl, rfl, trivial⟩⟩ rfl (K36 _ e.symm)
  ·exact (Bool.false_ne_true (hc.symm.trans hd)).elim

theorem c_ref16_Bests (a0 : LanT) (r : (List footwayref16_BT)) (h : ref16_Bests a0 = some r) : CallP Try.prog 19 [(LV.agg [(I a0.Segs), (LV.ro 2 (a0.Plans.map PlanT.cells)), (LV.ro 2 (a0.Hosts.map HostT.cells))])] (LV.ro 2 (r.map footwayref16_BT.cells)) := by
 exact CallF.toP (cf_ref16_Bests a0 r h) nlA (NLss_map' _)

def ref15_Ports_c1 (a1 : Int) (k41 : Nat) (k42 : Nat) (x42 : LinkT) (s42 : (List A2_Int)) : Option (Step (Step (List A2_Int) (List A2_Int)) (List A2_Int)) :=
 (bif (bif x42.Up then (decide (x42.Seg = a1)) else false) then
  grd (fits ((s42 ++ ([(⟨((k41 : Nat) : Int), ((k42 : Nat) : Int)⟩ : A2_Int)] : (List A2_Int))) : List A2_Int).length 16) <|
  some (.nxt (s42 ++ ([(⟨((k41 : Nat) : Int), ((k42 : Nat) : Int)⟩ : A2_Int)] : (List A2_Int))))
 else
  some (.nxt s42))

def ref15_Ports_c0 (a1 : Int) (k41 : Nat) (x41 : PlanT) (s41 : (List A2_Int)) : Option (Step (List A2_Int) (List A2_Int)) :=
 aft (rangeL (ref15_Ports_c1 a1 k41) x41.Ports s41) fun s42 =>
 some (.nxt s42)

def ref15_Ports (a0 : LanT) (a1 : Int) : Option (List A2_Int) :=
 aft (rangeL (ref15_Ports_c0 a1) a0.Plans ([] : (List A2_Int))) fun s41 =>
 some s41

theorem cf_ref15_Ports (a0 : LanT) (a1 : Int) (r : (List A2_Int)) (h : ref15_Ports a0 a1 = some r) : CallF Try.prog 67 [(LV.agg [(I a0.Segs), (LV.ro 2 (a0.Plans.map PlanT.cells)), (LV.ro 2 (a0.Hosts.map HostT.cells))]), (I a1)] 41 2 (r.map A2_Int.cells) := by
 unfold ref15_Ports at h
 refine CallF.of (NLss_map' _) (CallW.intro TT_ok Try.func67 rfl rfl [0, 1, 2, 4, 5, 6, 7, 8, 9, 12, 13, 14, 15, 20, 21, 22, 23, 34] rfl ?_)
 conv => whnf
 repeat' first | exact rA _ | refine parkI ?_ | (refine And.intro ?_ ?_ <;> conv => whnf) | fail
 replace h := aftS h
 obtain ⟨O41, hO41, r41⟩ := h
 refine LoopW.norm [(1, (I a1)), (5, (LV.sl 1 0 (([] : (List A2_Int)).map A2_Int.cells).length)), (12, (LV.ro 2 (a0.Plans.map PlanT.cells))), (13, (I (((a0.Plans.map PlanT.cells).length : Nat) : Int))), (14, (I ((0 : Nat) : Int)))] 2 [(1, (.row 41 2 (([] : (List A2_Int)).map A2_Int.cells)))] ⟨rfl, (by exact congrArg (LV.sl 1 0) (clL _ : 0 = (([] : (List A2_Int)).map A2_Int.cells).length)), rfl, rfl, rfl, trivial⟩ ⟨⟨(congrArg (fun q => some (Blk.row 41 2 q)) (smT : (([] : List (List LV)) : List (List LV)) = (([] : (List A2_Int)).map A2_Int.cells))), rfl, NLss_bel (NLss_map' _)⟩, trivial⟩ blT rfl ?_
 refine LoopW.forR (fun k41 s41 => [(1, (I a1)), (5, (LV.sl 1 0 (s41.map A2_Int.cells).length)), (12, (LV.ro 2 (a0.Plans.map PlanT.cells))), (13, (I (((a0.Plans.map PlanT.cells).length : Nat) : Int))), (14, (I ((k41 : Nat) : Int)))]) (fun s41 => ⟨2, [(1, (.row 41 2 (s41.map A2_Int.cells)))]⟩) hO41 (fun hl41 s41 hs41 => ?_) (fun hl41 k41 x41 s41 o41 hk41 hx41 b41 K41 hret41 hbrk41 => ?_)
 ·rw [hs41] at r41
  dsimp only [aftM] at r41
  have hd : decide (((a0.Plans.length : Nat) : Int) < (((a0.Plans.map PlanT.cells).length : Nat) : Int)) = false := by rw [decide_eq_false_iff_not]; (try simp only [se_len, se_ch, List.length_map]); omega
  refine LoopW.round TT_ok [0, 1, 2, 4, 5, 6, 7, 8, 9, 12, 13, 14, 15, 20, 21, 22, 23, 34] ?_
  conv => whnf
  repeat' first | exact rA _ | refine parkI ?_ | (refine And.intro ?_ ?_ <;> conv => whnf) | fail
  refine parkE (fun hc => ?_) (fun hc => ?_)
  ·exact (Bool.false_ne_true (hd.symm.trans hc)).elim
  ·clear hd
   conv => whnf
   have e := Option.some.inj r41
   subst e
   repeat' first | exact rA _ | exact Or.inr ⟨_, rfl, congrArg (fun q => some (Blk.row 41 2 q)) rfl⟩ | exact clA _ | (refine And.intro ?_ ?_ <;> conv => whnf) | exact clG _ | (refine gand ?_ h; assumption) | exact clN _ | fail
 ·unfold ref15_Ports_c0 at b41
  have hd : decide (((k41 : Nat) : Int) < (((a0.Plans.map PlanT.cells).length : Nat) : Int)) = true := by rw [decide_eq_true_eq]; (try simp only [se_len, se_ch, List.length_map] at hk41); (try simp only [se_len, se_ch, List.length_map]); omega
  refine LoopW.round TT_ok [0, 1, 2, 4, 5, 6, 7, 8, 9, 12, 13, 14, 15, 20, 21, 22, 23, 34] ?_
  conv => whnf
  repeat' first | exact rA _ | refine parkI ?_ | (refine And.intro ?_ ?_ <;> conv => whnf) | fail
  refine parkE (fun hc => ?_) (fun hc => ?_)
  ·clear hd
   conv => whnf
   repeat' first | exact rA _ | refine parkI ?_ | (refine ⟨_, (kixF (f := PlanT.cells) hx41), ?_⟩; conv => whnf) | (refine And.intro ?_ ?_ <;> conv => whnf) | fail
   replace b41 := aftS b41
   obtain ⟨O42, hO42, r42⟩ := b41
   refine LoopW.norm [(1, (I a1)), (5, (LV.sl 1 0 (s41.map A2_Int.cells).length)), (6, (I ((k41 : Nat) : Int))), (12, (LV.ro 2 (a0.Plans.map PlanT.cells))), (13, (I (((a0.Plans.map PlanT.cells).length : Nat) : Int))), (14, (I ((k41 : Nat) : Int))), (20, (LV.ro 3 (x41.Ports.map LinkT.cells))), (21, (I (((x41.Ports.map LinkT.cells).length : Nat) : Int))), (22, (I ((0 : Nat) : Int)))] 2 [(1, (.row 41 2 (s41.map A2_Int.cells)))] ⟨rfl, rfl, rfl, rfl, rfl, rfl, rfl, rfl, rfl, trivial⟩ ⟨⟨rfl, rfl, NLss_bel (NLss_map' _)⟩, trivial⟩ blT rfl ?_
   refine LoopW.forR (fun k42 s42 => [(1, (I a1)), (5, (LV.sl 1 0 (s42.map A2_Int.cells).length)), (6, (I ((k41 : Nat) : Int))), (12, (LV.ro 2 (a0.Plans.map PlanT.cells))), (13, (I (((a0.Plans.map PlanT.cells).length : Nat) : Int))), (14, (I ((k41 : Nat) : Int))), (20, (LV.ro 3 (x41.Ports.map LinkT.cells))), (21, (I (((x41.Ports.map LinkT.cells).length : Nat) : Int))), (22, (I ((k42 : Nat) : Int)))]) (fun s42 => ⟨2, [(1, (.row 41 2 (s42.map A2_Int.cells)))]⟩) hO42 (fun hl42 s42 hs42 => ?_) (fun hl42 k42 x42 s42 o42 hk42 hx42 b42 K42 hret42 hbrk42 => ?_)
   ·rw [hs42] at r42
    dsimp only [aftM] at r42
    have hd : decide (((x41.Ports.length : Nat) : Int) < (((x41.Ports.map LinkT.cells).length : Nat) : Int)) = false := by rw [decide_eq_false_iff_not]; (try simp only [se_len, se_ch, List.length_map]); omega
    refine LoopW.round TT_ok [0, 1, 2, 4, 5, 6, 7, 8, 9, 12, 13, 14, 15, 20, 21, 22, 23, 34] ?_
    conv => whnf
    repeat' first | exact rA _ | refine parkI ?_ | (refine And.intro ?_ ?_ <;> conv => whnf) | fail
    refine parkE (fun hc => ?_) (fun hc => ?_)
    ·exact (Bool.false_ne_true (hd.symm.trans hc)).elim
    ·clear hd
     conv => whnf
     repeat' first | exact rA _ | refine parkI ?_ | (refine And.intro ?_ ?_ <;> conv => whnf) | fail
     have e := Option.some.inj r42
     refine LoopW.norm [(1, (I a1)), (5, (LV.sl 1 0 (s42.map A2_Int.cells).length)), (12, (LV.ro 2 (a0.Plans.map PlanT.cells))), (13, (I (((a0.Plans.map PlanT.cells).length : Nat) : Int))), (14, (I ((k41 + 1 : Nat) : Int)))] 2 [(1, (.row 41 2 (s42.map A2_Int.cells)))] ⟨rfl, rfl, rfl, rfl, (congrArg (LV.int .i64) (w64_nat _ (by omega))), trivial⟩ ⟨⟨rfl, rfl, NLss_bel (NLss_map' _)⟩, trivial⟩ blT rfl (K41 _ e.symm)
   ·unfold ref15_Ports_c1 at b42
    have hd : decide (((k42 : Nat) : Int) < (((x41.Ports.map LinkT.cells).length : Nat) : Int)) = true := by rw [decide_eq_true_eq]; (try simp only [se_len, se_ch, List.length_map] at hk42); (try simp only [se_len, se_ch, List.length_map]); omega
    refine LoopW.round TT_ok [0, 1, 2, 4, 5, 6, 7, 8, 9, 12, 13, 14, 15, 20, 21, 22, 23, 34] ?_
    conv => whnf
    repeat' first | exact rA _ | refine parkI ?_ | (refine And.intro ?_ ?_ <;> conv => whnf) | fail
    refine parkE (fun hc => ?_) (fun hc => ?_)
    ·clear hd
     conv => whnf
     repeat' first | exact rA _ | refine parkI ?_ | (refine ⟨_, (kixF (f := LinkT.cells) hx42), ?_⟩; conv => whnf) | exact clA _ | (refine And.intro ?_ ?_ <;> conv => whnf) | exact clG _ | (refine gand ?_ h; assumption) | fail
     refine parkE (fun hc => ?_) (fun hc => ?_)
     ·replace b42 := condT hc b42
      conv => whnf
      replace b42 := grdS b42
      obtain ⟨g21, b42⟩ := b42
      replace g21 : fits (((s42.map A2_Int.cells) ++ [[(I ((k41 : Nat) : Int)), (I ((k42 : Nat) : Int))]])).length 16 := by simpa only [se_len, se_ch, List.length_map] using g21
      repeat' first | exact rA _ | refine parkI ?_ | exact g21 | exact clA _ | (refine And.intro ?_ ?_ <;> conv => whnf) | exact clN _ | fail
      have e := Option.some.inj b42
      refine LoopW.ren [(4, 1)] [(1, (I a1)), (5, (LV.sl 1 0 ((s42 ++ ([(⟨((k41 : Nat) : Int), ((k42 : Nat) : Int)⟩ : A2_Int)] : (List A2_Int))).map A2_Int.cells).length)), (6, (I ((k41 : Nat) : Int))), (12, (LV.ro 2 (a0.Plans.map PlanT.cells))), (13, (I (((a0.Plans.map PlanT.cells).length : Nat) : Int))), (14, (I ((k41 : Nat) : Int))), (20, (LV.ro 3 (x41.Ports.map LinkT.cells))), (21, (I (((x41.Ports.map LinkT.cells).length : Nat) : Int))), (22, (I ((k42 + 1 : Nat) : Int)))] 2 [(1, (.row 41 2 ((s42 ++ ([(⟨((k41 : Nat) : Int), ((k42 : Nat) : Int)⟩ : A2_Int)] : (List A2_Int))).map A2_Int.cells)))] rfl ⟨rfl, (by exact congrArg (LV.sl 1 0) (clL _ : (((s42.map A2_Int.cells) ++ [[(I ((k41 : Nat) : Int)), (I ((k42 : Nat) : Int))]])).length = ((s42 ++ ([(⟨((k41 : Nat) : Int), ((k42 : Nat) : Int)⟩ : A2_Int)] : (List A2_Int))).map A2_Int.cells).length)), rfl, rfl, rfl, rfl, rfl, rfl, (congrArg (LV.int .i64) (w64_nat _ (by omega))), trivial⟩ ⟨⟨rfl, rfl, .inl ⟨(smT : (((s42.map A2_Int.cells) ++ [[(I ((k41 : Nat) : Int)), (I ((k42 : Nat) : Int))]]) : List (List LV)) = ((s42 ++ ([(⟨((k41 : Nat) : Int), ((k42 : Nat) : Int)⟩ : A2_Int)] : (List A2_Int))).map A2_Int.cells)), nlT⟩⟩, rfl, rfl, trivial⟩ rfl (K42 _ e.symm)
     ·replace b42 := condF hc b42
      conv => whnf
      repeat' first | exact rA _ | refine parkI ?_ | (refine And.intro ?_ ?_ <;> conv => whnf) | fail
      have e := Option.some.inj b42
      refine LoopW.norm [(1, (I a1)), (5, (LV.sl 1 0 (s42.map A2_Int.cells).length)), (6, (I ((k41 : Nat) : Int))), (12, (LV.ro 2 (a0.Plans.map PlanT.cells))), (13, (I (((a0.Plans.map PlanT.cells).length : Nat) : Int))), (14, (I ((k41 : Nat) : Int))), (20, (LV.ro 3 (x41.Ports.map LinkT.cells))), (21, (I (((x41.Ports.map LinkT.cells).length : Nat) : Int))), (22, (I ((k42 + 1 : Nat) : Int)))] 2 [(1, (.row 41 2 (s42.map A2_Int.cells)))] ⟨rfl, rfl, rfl, rfl, rfl, rfl, rfl, rfl, (congrArg (LV.int .i64) (w64_nat _ (by omega))), trivial⟩ ⟨⟨rfl, rfl, NLss_bel (NLss_map' _)⟩, trivial⟩ blT rfl (K42 _ e.symm)
    ·exact (Bool.false_ne_true (hc.symm.trans hd)).elim
  ·exact (Bool.false_ne_true (hc.symm.trans hd)).elim

theorem c_ref15_Ports (a0 : LanT) (a1 : Int) (r : (List A2_Int)) (h : ref15_Ports a0 a1 = some r) : CallP Try.prog 67 [(LV.agg [(I a0.Segs), (LV.ro 2 (a0.Plans.map PlanT.cells)), (LV.ro 2 (a0.Hosts.map HostT.cells))]), (I a1)] (LV.ro 2 (r.map A2_Int.cells)) := by
 exact CallF.toP (cf_ref15_Ports a0 a1 r h) nlA (NLss_map' _)

def ref16_told (a0 : LanT) (a1 : (List footwayref16_BT)) (a2 : Int) (a3 : Int) : Option VecT :=
 (gix a1 a2).bind fun v26 =>
 (gix a0.Plans a2).bind fun v28 =>
 some (⟨v26.Root, v26.Cost, v28.ID, a3⟩ : VecT)

theorem c_ref16_told (a0 : LanT) (a1 : (List footwayref16_BT)) (a2 : Int) (a3 : Int) (r : VecT) (h : ref16_told a0 a1 a2 a3 = some r) : CallP Try.prog 69 [(LV.agg [(I a0.Segs), (LV.ro 2 (a0.Plans.map PlanT.cells)), (LV.ro 2 (a0.Hosts.map HostT.cells))]), (LV.ro 2 (a1.map footwayref16_BT.cells)), (I a2), (I a3)] (LV.agg [(I r.Root), (I r.Cost), (I r.Bridge), (I r.Port)]) := by
 unfold ref16_told at h
 refine .intro nlA (.intro TT_ok Try.func69 rfl rfl [0, 1, 2, 3, 4, 8] rfl ?_)
 conv => whnf
 replace h := bindS h
 obtain ⟨v26, hv26, h⟩ := h
 have i27 := gixF (f := footwayref16_BT.cells) hv26
 replace h := bindS h
 obtain ⟨v28, hv28, h⟩ := h
 have i29 := gixF (f := PlanT.cells) hv28
 have e := Option.some.inj h
 subst e
 repeat' first | exact rA _ | (refine ⟨_, i27, ?_⟩; conv => whnf) | (refine ⟨_, i29, ?_⟩; conv => whnf) | (refine W.drawnM (id := 1) 0 TT_ok hmix1 [0, 0, 0, 0, 0, 0, 0, 0, 0, 0, 0, 0, 0, 0, 0, 0, 0, 0, 0] [0, 0, 0, 0, 0, 0, 0, 0, 0, 0, 0, 0, 0, 0, 0, 0, 0, 0, 1] rfl ?_; conv => whnf) | exact clA _ | (refine And.intro ?_ ?_ <;> conv => whnf) | exact clG _ | (refine gand ?_ h; assumption) | exact clN _ | fail

def ref04_Better (a0 : VecT) (a1 : VecT) : Option Bool :=
 (bif (!decide (a0.Root = a1.Root)) then
  some (decide (a0.Root < a1.Root))
 else
  (bif (!decide (a0.Cost = a1.Cost)) then
   some (decide (a0.Cost < a1.Cost))
  else
   (bif (!decide (a0.Bridge = a1.Bridge)) then
    some (decide (a0.Bridge < a1.Bridge))
   else
    some (decide (a0.Port < a1.Port)))))

theorem c_ref04_Better (a0 : VecT) (a1 : VecT) (r : Bool) (h : ref04_Better a0 a1 = some r) : CallP Try.prog 68 [(LV.agg [(I a0.Root), (I a0.Cost), (I a0.Bridge), (I a0.Port)]), (LV.agg [(I a1.Root), (I a1.Cost), (I a1.Bridge), (I a1.Port)])] (LV.bool r) := by
 unfold ref04_Better at h
 refine .intro nlA (.intro TT_ok Try.func68 rfl rfl [0, 1, 2, 3, 4, 9, 19, 29] rfl ?_)
 conv => whnf
 repeat' first | exact rA _ | refine parkI ?_ | (refine And.intro ?_ ?_ <;> conv => whnf) | fail
 refine parkE (fun hc => ?_) (fun hc => ?_)
 ·replace h := condT hc h
  conv => whnf
  have e := Option.some.inj h
  subst e
  repeat' first | exact rA _ | exact clA _ | (refine And.intro ?_ ?_ <;> conv => whnf) | exact clG _ | (refine gand ?_ h; assumption) | exact clN _ | fail
 ·replace h := condF hc h
  conv => whnf
  repeat' first | exact rA _ | refine parkI ?_ | (refine And.intro ?_ ?_ <;> conv => whnf) | fail
  refine parkE (fun hc => ?_) (fun hc => ?_)
  ·replace h := condT hc h
   conv => whnf
   have e := Option.some.inj h
   subst e
   repeat' first | exact rA _ | exact clA _ | (refine And.intro ?_ ?_ <;> conv => whnf) | exact clG _ | (refine gand ?_ h; assumption) | exact clN _ | fail
  ·replace h := condF hc h
   conv => whnf
   repeat' first | exact rA _ | refine parkI ?_ | (refine And.intro ?_ ?_ <;> conv => whnf) | fail
   refine parkE (fun hc => ?_) (fun hc => ?_)
   ·replace h := condT hc h
    conv => whnf
    have e := Option.some.inj h
    subst e
    repeat' first | exact rA _ | exact clA _ | (refine And.intro ?_ ?_ <;> conv => whnf) | exact clG _ | (refine gand ?_ h; assumption) | exact clN _ | fail
   ·replace h := condF hc h
    conv => whnf
    have e := Option.some.inj h
    subst e
    repeat' first | exact rA _ | exact clA _ | (refine And.intro ?_ ?_ <;> conv => whnf) | exact clG _ | (refine gand ?_ h; assumption) | exact clN _ | fail

def ref16_own_c0 (a0 : LanT) (a1 : (List footwayref16_BT)) (y21 : (List A2_Int)) (k43 : Nat) (s43 : (Bool × A2_Int)) : Option (Step (A2_Int × Bool) (Bool × A2_Int)) :=
 grd ((0 : Int) ≤ ((k43 : Nat) : Int) ∧ ((k43 : Nat) : Int) < ((y21.length : Nat) : Int)) <|
 (gixN y21 (((k43 : Nat) : Int) : Int).toNat).bind fun v24 =>
 (gd (!(!s43.1)) (ref16_told a0 a1 v24.c0 v24.c1)).bind fun y26 =>
 (gd (!(!s43.1)) (ref16_told a0 a1 s43.2.c0 s43.2.c1)).bind fun y28 =>
 (gd (!(!s43.1)) (ref04_Better y26 y28)).bind fun y30 =>
 (bif (bif (!s43.1) then true else y30) then
  some (.nxt (true, v24))
 else
  some (.nxt (s43.1, s43.2)))

def ref16_own (a0 : LanT) (a1 : (List footwayref16_BT)) (a2 : Int) : Option (A2_Int × Bool) :=
 (ref15_Ports a0 a2).bind fun y21 =>
 aft (rangeN (ref16_own_c0 a0 a1 y21) ((y21.length : Nat) : Int) (false, (⟨0, 0⟩ : A2_Int))) fun s43 =>
 some (s43.2, s43.1)

theorem c_ref16_own (a0 : LanT) (a1 : (List footwayref16_BT)) (a2 : Int) (r : (A2_Int × Bool)) (h : ref16_own a0 a1 a2 = some r) : CallP Try.prog 44 [(LV.agg [(I a0.Segs), (LV.ro 2 (a0.Plans.map PlanT.cells)), (LV.ro 2 (a0.Hosts.map HostT.cells))]), (LV.ro 2 (a1.map footwayref16_BT.cells)), (I a2)] (LV.tup [(LV.agg [(I r.1.c0), (I r.1.c1)]), (LV.bool r.2)]) := by
 unfold ref16_own at h
 refine .intro nlA (.intro TT_ok Try.func44 rfl rfl [0, 1, 2, 3, 6, 7, 8, 9, 11, 15, 16, 17, 18, 39] rfl ?_)
 conv => whnf
 replace h := bindS h
 obtain ⟨y21, hy21, h⟩ := h
 have c22 := cf_ref15_Ports a0 a2 _ hy21
 repeat' first | exact rA _ | refine parkI ?_ | (refine CallW.done (CallF.at c22 nlA (NLss_map' _)) ?_; conv => whnf) | (refine ⟨_, _, CallF.at c22 nlA (NLss_map' _), ?_⟩; conv => whnf) | (refine W.drawn TT_ok hmix1 rfl ?_; conv => whnf) | exact clA _ | (refine And.intro ?_ ?_ <;> conv => whnf) | exact clG _ | (refine gand ?_ h; assumption) | exact clN _ | fail
 replace h := aftS h
 obtain ⟨O43, hO43, r43⟩ := h
 refine LoopW.norm [(1, (LV.ro 2 (a1.map footwayref16_BT.cells))), (3, (LV.ptr 0 0 0)), (6, (LV.ptr 1 0 0)), (8, (LV.ptr 2 0 0)), (9, (LV.bool (false, (⟨0, 0⟩ : A2_Int)).1)), (15, (LV.sl 3 0 (y21.map A2_Int.cells).length)), (16, (I (((y21.map A2_Int.cells).length : Nat) : Int))), (17, (I ((0 : Nat) : Int)))] 4 [(0, (.row 25 3 [[(I a0.Segs), (LV.ro 2 (a0.Plans.map PlanT.cells)), (LV.ro 2 (a0.Hosts.map HostT.cells))]])), (1, (.row 41 2 [[(I 0), (I 0)]])), (2, (.row 41 2 [[(I (false, (⟨0, 0⟩ : A2_Int)).2.c0), (I (false, (⟨0, 0⟩ : A2_Int)).2.c1)]])), (3, (.row 41 2 (y21.map A2_Int.cells)))] ⟨rfl, rfl, rfl, rfl, (smT : ((LV.bool false) : LV) = (LV.bool (false, (⟨0, 0⟩ : A2_Int)).1)), rfl, rfl, rfl, trivial⟩ ⟨⟨rfl, rfl, blT⟩, ⟨⟨rfl, rfl, blT⟩, ⟨⟨(congrArg (fun q => some (Blk.row 41 2 q)) (smT : ([[(I 0), (I 0)]] : List (List LV)) = [[(I (false, (⟨0, 0⟩ : A2_Int)).2.c0), (I (false, (⟨0, 0⟩ : A2_Int)).2.c1)]])), rfl, blT⟩, ⟨⟨rfl, rfl, NLss_bel (NLss_map' _)⟩, trivial⟩⟩⟩⟩ blT rfl ?_
 refine LoopW.forN (fun k43 s43 => [(1, (LV.ro 2 (a1.map footwayref16_BT.cells))), (3, (LV.ptr 0 0 0)), (6, (LV.ptr 1 0 0)), (8, (LV.ptr 2 0 0)), (9, (LV.bool s43.1)), (15, (LV.sl 3 0 (y21.map A2_Int.cells).length)), (16, (I (((y21.map A2_Int.cells).length : Nat) : Int))), (17, (I ((k43 : Nat) : Int)))]) (fun s43 => ⟨4, [(0, (.row 25 3 [[(I a0.Segs), (LV.ro 2 (a0.Plans.map PlanT.cells)), (LV.ro 2 (a0.Hosts.map HostT.cells))]])), (1, (.row 41 2 [[(I 0), (I 0)]])), (2, (.row 41 2 [[(I s43.2.c0), (I s43.2.c1)]])), (3, (.row 41 2 (y21.map A2_Int.cells)))]⟩) hO43 (fun hl43 s43 hs43 => ?_) (fun hl43 k43 s43 o43 hk43 b43 K43 hret43 hbrk43 => ?_)
 ·rw [hs43] at r43
  dsimp only [aftM] at r43
  have hd : decide ((((((y21.length : Nat) : Int) : Int).toNat : Nat) : Int) < (((y21.map A2_Int.cells).length : Nat) : Int)) = false := by rw [decide_eq_false_iff_not]; (try simp only [se_len, se_ch, List.length_map]); omega
  refine LoopW.round TT_ok [0, 1, 2, 3, 6, 7, 8, 9, 11, 15, 16, 17, 18, 39] ?_
  conv => whnf
  repeat' first | exact rA _ | refine parkI ?_ | (refine W.drawn TT_ok hmix1 rfl ?_; conv => whnf) | exact clA _ | (refine And.intro ?_ ?_ <;> conv => whnf) | exact clG _ | (refine gand ?_ h; assumption) | exact clN _ | fail
  refine parkE (fun hc => ?_) (fun hc => ?_)
  ·exact (Bool.false_ne_true (hd.symm.trans hc)).elim
  ·clear hd
   conv => whnf
   have e := Option.some.inj r43
   subst e
   repeat' first | exact rA _ | (refine W.drawn TT_ok hmix1 rfl ?_; conv => whnf) | exact clA _ | (refine And.intro ?_ ?_ <;> conv => whnf) | exact clG _ | (refine gand ?_ h; assumption) | exact clN _ | fail
 ·unfold ref16_own_c0 at b43
  have hd : decide (((k43 : Nat) : Int) < (((y21.map A2_Int.cells).length : Nat) : Int)) = true := by rw [decide_eq_true_eq]; (try simp only [se_len, se_ch, List.length_map] at hk43); (try simp only [se_len, se_ch, List.length_map]); omega
  refine LoopW.round TT_ok [0, 1, 2, 3, 6, 7, 8, 9, 11, 15, 16, 17, 18, 39] ?_
  conv => whnf
  repeat' first | exact rA _ | refine parkI ?_ | (refine W.drawn TT_ok hmix1 rfl ?_; conv => whnf) | exact clA _ | (refine And.intro ?_ ?_ <;> conv => whnf) | exact clG _ | (refine gand ?_ h; assumption) | exact clN _ | fail
  refine parkE (fun hc => ?_) (fun hc => ?_)
  ·clear hd
   conv => whnf
   replace b43 := grdS b43
   obtain ⟨g23, b43⟩ := b43
   replace g23 : (0 : Int) ≤ ((k43 : Nat) : Int) ∧ ((k43 : Nat) : Int) < (((y21.map A2_Int.cells).length : Nat) : Int) := by simpa only [se_len, se_ch, List.length_map] using g23
   replace b43 := bindS b43
   obtain ⟨v24, hv24, b43⟩ := b43
   have i25 : nth (y21.map A2_Int.cells) (0 + ((((k43 : Nat) : Int) : Int).toNat)) = some [(I v24.c0), (I v24.c1)] := by simpa only [se_map, se_len, se_ch, List.length_map, nth_eq, Nat.zero_add, List.getElem?_map] using gixNF (f := A2_Int.cells) hv24
   replace b43 := bindS b43
   obtain ⟨y26, hy26, b43⟩ := b43
   have c27 := fun (hg : (!(!s43.1)) = true) => c_ref16_told a0 a1 v24.c0 v24.c1 _ (gdS hg hy26)
   replace b43 := bindS b43
   obtain ⟨y28, hy28, b43⟩ := b43
   have c29 := fun (hg : (!(!s43.1)) = true) => c_ref16_told a0 a1 s43.2.c0 s43.2.c1 _ (gdS hg hy28)
   replace b43 := bindS b43
   obtain ⟨y30, hy30, b43⟩ := b43
   have c31 := fun (hg : (!(!s43.1)) = true) => c_ref04_Better y26 y28 _ (gdS hg hy30)
   repeat' first | exact rA _ | refine parkI ?_ | (refine ⟨_, c27, ?_⟩; conv => whnf) | (refine ⟨_, c29, ?_⟩; conv => whnf) | (refine ⟨_, c31, ?_⟩; conv => whnf) | exact g23 | (rw [i25]; conv => whnf) | exact fun _ => (⟨by decide, by decide⟩ : (0 : Int) ≤ 0 ∧ (0 : Int) < 2) | exact fun _ => (⟨by decide, by decide⟩ : (0 : Int) ≤ 1 ∧ (1 : Int) < 2) | (refine W.drawn TT_ok hmix1 rfl ?_; conv => whnf) | exact clA _ | (refine And.intro ?_ ?_ <;> conv => whnf) | exact clG _ | (refine gand ?_ h; assumption) | exact clN _ | fail
   refine parkE (fun hc => ?_) (fun hc => ?_)
   ·replace b43 := condT hc b43
    conv => whnf
    repeat' first | exact rA _ | refine parkI ?_ | (refine W.drawn TT_ok hmix1 rfl ?_; conv => whnf) | exact clA _ | (refine And.intro ?_ ?_ <;> conv => whnf) | exact clG _ | (refine gand ?_ h; assumption) | exact clN _ | fail
    have e := Option.some.inj b43
    refine LoopW.norm [(1, (LV.ro 2 (a1.map footwayref16_BT.cells))), (3, (LV.ptr 0 0 0)), (6, (LV.ptr 1 0 0)), (8, (LV.ptr 2 0 0)), (9, (LV.bool (true, v24).1)), (15, (LV.sl 3 0 (y21.map A2_Int.cells).length)), (16, (I (((y21.map A2_Int.cells).length : Nat) : Int))), (17, (I ((k43 + 1 : Nat) : Int)))] 4 [(0, (.row 25 3 [[(I a0.Segs), (LV.ro 2 (a0.Plans.map PlanT.cells)), (LV.ro 2 (a0.Hosts.map HostT.cells))]])), (1, (.row 41 2 [[(I 0), (I 0)]])), (2, (.row 41 2 [[(I (true, v24).2.c0), (I (true, v24).2.c1)]])), (3, (.row 41 2 (y21.map A2_Int.cells)))] ⟨rfl, rfl, rfl, rfl, (smT : ((LV.bool true) : LV) = (LV.bool (true, v24).1)), rfl, rfl, (congrArg (LV.int .i64) (w64_nat _ (by omega))), trivial⟩ ⟨⟨rfl, rfl, blT⟩, ⟨⟨rfl, rfl, blT⟩, ⟨⟨(congrArg (fun q => some (Blk.row 41 2 q)) (smT : ([[(I v24.c0), (I v24.c1)]] : List (List LV)) = [[(I (true, v24).2.c0), (I (true, v24).2.c1)]])), rfl, blT⟩, ⟨⟨rfl, rfl, NLss_bel (NLss_map' _)⟩, trivial⟩⟩⟩⟩ blT rfl (K43 _ e.symm)
   ·replace b43 := condF hc b43
    conv => whnf
    repeat' first | exact rA _ | refine parkI ?_ | (refine W.drawn TT_ok hmix1 rfl ?_; conv => whnf) | exact clA _ | (refine And.intro ?_ ?_ <;> conv => whnf) | exact clG _ | (refine gand ?_ h; assumption) | exact clN _ | fail
    have e := Option.some.inj b43
    refine LoopW.norm [(1, (LV.ro 2 (a1.map footwayref16_BT.cells))), (3, (LV.ptr 0 0 0)), (6, (LV.ptr 1 0 0)), (8, (LV.ptr 2 0 0)), (9, (LV.bool (s43.1, s43.2).1)), (15, (LV.sl 3 0 (y21.map A2_Int.cells).length)), (16, (I (((y21.map A2_Int.cells).length : Nat) : Int))), (17, (I ((k43 + 1 : Nat) : Int)))] 4 [(0, (.row 25 3 [[(I a0.Segs), (LV.ro 2 (a0.Plans.map PlanT.cells)), (LV.ro 2 (a0.Hosts.map HostT.cells))]])), (1, (.row 41 2 [[(I 0), (I 0)]])), (2, (.row 41 2 [[(I (s43.1, s43.2).2.c0), (I (s43.1, s43.2).2.c1)]])), (3, (.row 41 2 (y21.map A2_Int.cells)))] ⟨rfl, rfl, rfl, rfl, (smT : ((LV.bool s43.1) : LV) = (LV.bool (s43.1, s43.2).1)), rfl, rfl, (congrArg (LV.int .i64) (w64_nat _ (by omega))), trivial⟩ ⟨⟨rfl, rfl, blT⟩, ⟨⟨rfl, rfl, blT⟩, ⟨⟨(congrArg (fun q => some (Blk.row 41 2 q)) (smT : ([[(I s43.2.c0), (I s43.2.c1)]] : List (List LV)) = [[(I (s43.1, s43.2).2.c0), (I (s43.1, s43.2).2.c1)]])), rfl, blT⟩, ⟨⟨rfl, rfl, NLss_bel (NLss_map' _)⟩, trivial⟩⟩⟩⟩ blT rfl (K43 _ e.symm)
  ·exact (Bool.false_ne_true (hc.symm.trans hd)).elim

def ref04_Far (a0 : VecT) (a1 : Int) : Option VecT :=
 some (⟨a0.Root, (mn (IntKind.i64.wrap (a0.Cost + a1)) 2147483647), a0.Bridge, a0.Port⟩ : VecT)

theorem c_ref04_Far (a0 : VecT) (a1 : Int) (r : VecT) (h : ref04_Far a0 a1 = some r) : CallP Try.prog 86 [(LV.agg [(I a0.Root), (I a0.Cost), (I a0.Bridge), (I a0.Port)]), (I a1)] (LV.agg [(I r.Root), (I r.Cost), (I r.Bridge), (I r.Port)]) := by
 unfold ref04_Far at h
 refine .intro nlA (.intro TT_ok Try.func86 rfl rfl [0, 1, 2, 4] rfl ?_)
 conv => whnf
 have e := Option.some.inj h
 subst e
 repeat' first | exact rA _ | exact clA _ | (refine And.intro ?_ ?_ <;> conv => whnf) | exact clG _ | (refine gand ?_ h; assumption) | exact clN _ | fail

def ref16_root_c0 (a0 : LanT) (a1 : (List footwayref16_BT)) (a2 : Int) (k44 : Nat) (x44 : LinkT) (s44 : (Int × VecT)) : Option (Step Int (Int × VecT)) :=
 (ref16_own a0 a1 x44.Seg).bind fun y25 =>
 (bif (bif (!x44.Up) then true else (decide (y25.1.c0 = a2))) then
  some (.nxt (s44.1, s44.2))
 else
  (ref16_told a0 a1 y25.1.c0 y25.1.c1).bind fun y27 =>
  (ref04_Far y27 x44.Cost).bind fun y29 =>
  (gix a1 a2).bind fun v31 =>
  (gd (bif (bif (decide (y29.Root = v31.Root)) then (decide (y29.Cost = v31.Cost)) else false) then (!(decide (s44.1 < 0))) else false) (ref04_Better y29 s44.2)).bind fun y33 =>
  (bif (bif (bif (decide (y29.Root = v31.Root)) then (decide (y29.Cost = v31.Cost)) else false) then (bif (decide (s44.1 < 0)) then true else y33) else false) then
   some (.nxt (((k44 : Nat) : Int), y29))
  else
   some (.nxt (s44.1, s44.2))))

def ref16_root (a0 : LanT) (a1 : (List footwayref16_BT)) (a2 : Int) : Option Int :=
 (gix a0.Plans a2).bind fun v23 =>
 aft (rangeL (ref16_root_c0 a0 a1 a2) v23.Ports ((-1), (⟨0, 0, 0, 0⟩ : VecT))) fun s44 =>
 (gix a1 a2).bind fun v35 =>
 (gix a0.Plans a2).bind fun v37 =>
 (bif (decide (v35.Root = v37.ID)) then
  some (-1)
 else
  some s44.1)

theorem c_ref16_root (a0 : LanT) (a1 : (List footwayref16_BT)) (a2 : Int) (r : Int) (h : ref16_root a0 a1 a2 = some r) : CallP Try.prog 64 [(LV.agg [(I a0.Segs), (LV.ro 2 (a0.Plans.map PlanT.cells)), (LV.ro 2 (a0.Hosts.map HostT.cells))]), (LV.ro 2 (a1.map footwayref16_BT.cells)), (I a2)] (I r) := by
 unfold ref16_root at h
 refine .intro nlA (.intro TT_ok Try.func64 rfl rfl [0, 1, 2, 3, 6, 7, 8, 9, 10, 11, 13, 20, 21, 22, 23, 43, 80, 95] rfl ?_)
 conv => whnf
 replace h := bindS h
 obtain ⟨v23, hv23, h⟩ := h
 have i24 := gixF (f := PlanT.cells) hv23
 repeat' first | exact rA _ | refine parkI ?_ | (refine ⟨_, i24, ?_⟩; conv => whnf) | (refine W.drawn TT_ok hmix1 rfl ?_; conv => whnf) | (refine W.drawnM (id := 8) 0 TT_ok hmix1 [0, 0, 0, 0, 0, 0, 0, 0, 0, 0, 0, 1] [1, 1, 1, 1, 1, 1, 1, 1, 1, 1, 1, 2] rfl ?_; conv => whnf) | exact clA _ | (refine And.intro ?_ ?_ <;> conv => whnf) | exact clG _ | (refine gand ?_ h; assumption) | exact clN _ | fail
 replace h := aftS h
 obtain ⟨O44, hO44, r44⟩ := h
 refine LoopW.norm [(1, (LV.ro 2 (a1.map footwayref16_BT.cells))), (2, (I a2)), (3, (LV.ptr 0 0 0)), (7, (I ((-1), (⟨0, 0, 0, 0⟩ : VecT)).1)), (8, (LV.ptr 1 0 0)), (20, (LV.ro 3 (v23.Ports.map LinkT.cells))), (21, (I (((v23.Ports.map LinkT.cells).length : Nat) : Int))), (22, (I ((0 : Nat) : Int)))] 2 [(0, (.row 25 3 [[(I a0.Segs), (LV.ro 2 (a0.Plans.map PlanT.cells)), (LV.ro 2 (a0.Hosts.map HostT.cells))]])), (1, (.row 108 4 [[(I ((-1), (⟨0, 0, 0, 0⟩ : VecT)).2.Root), (I ((-1), (⟨0, 0, 0, 0⟩ : VecT)).2.Cost), (I ((-1), (⟨0, 0, 0, 0⟩ : VecT)).2.Bridge), (I ((-1), (⟨0, 0, 0, 0⟩ : VecT)).2.Port)]]))] ⟨rfl, rfl, rfl, (by first | (simp only [se_map, se_byL, se_len, se_ch, List.length_map]; done) | (simp only [se_map, se_byL, se_len, se_ch, List.length_map, VecT.cells]; done) : ((I (-1)) : LV) = (I ((-1), (⟨0, 0, 0, 0⟩ : VecT)).1)), rfl, rfl, rfl, rfl, trivial⟩ ⟨⟨rfl, rfl, blT⟩, ⟨⟨(congrArg (fun q => some (Blk.row 108 4 q)) (by first | (simp only [se_map, se_byL, se_len, se_ch, List.length_map]; done) | (simp only [se_map, se_byL, se_len, se_ch, List.length_map, VecT.cells]; done) : ([[(I 0), (I 0), (I 0), (I 0)]] : List (List LV)) = [[(I ((-1), (⟨0, 0, 0, 0⟩ : VecT)).2.Root), (I ((-1), (⟨0, 0, 0, 0⟩ : VecT)).2.Cost), (I ((-1), (⟨0, 0, 0, 0⟩ : VecT)).2.Bridge), (I ((-1), (⟨0, 0, 0, 0⟩ : VecT)).2.Port)]])), rfl, blT⟩, trivial⟩⟩ blT rfl ?_
 refine LoopW.forR (fun k44 s44 => [(1, (LV.ro 2 (a1.map footwayref16_BT.cells))), (2, (I a2)), (3, (LV.ptr 0 0 0)), (7, (I s44.1)), (8, (LV.ptr 1 0 0)), (20, (LV.ro 3 (v23.Ports.map LinkT.cells))), (21, (I (((v23.Ports.map LinkT.cells).length : Nat) : Int))), (22, (I ((k44 : Nat) : Int)))]) (fun s44 => ⟨2, [(0, (.row 25 3 [[(I a0.Segs), (LV.ro 2 (a0.Plans.map PlanT.cells)), (LV.ro 2 (a0.Hosts.map HostT.cells))]])), (1, (.row 108 4 [[(I s44.2.Root), (I s44.2.Cost), (I s44.2.Bridge), (I s44.2.Port)]]))]⟩) hO44 (fun hl44 s44 hs44 => ?_) (fun hl44 k44 x44 s44 o44 hk44 hx44 b44 K44 hret44 hbrk44 => ?_)
 ·rw [hs44] at r44
  dsimp only [aftM] at r44
  have hd : decide (((v23.Ports.length : Nat) : Int) < (((v23.Ports.map LinkT.cells).length : Nat) : Int)) = false := by rw [decide_eq_false_iff_not]; (try simp only [se_len, se_ch, List.length_map]); omega
  refine LoopW.round TT_ok [0, 1, 2, 3, 6, 7, 8, 9, 10, 11, 13, 20, 21, 22, 23, 43, 80, 95] ?_
  conv => whnf
  repeat' first | exact rA _ | refine parkI ?_ | (refine W.drawn TT_ok hmix1 rfl ?_; conv => whnf) | (refine W.drawnM (id := 8) 0 TT_ok hmix1 [0, 0, 0, 0, 0, 0, 0, 0, 0, 0, 0, 1] [1, 1, 1, 1, 1, 1, 1, 1, 1, 1, 1, 2] rfl ?_; conv => whnf) | exact clA _ | (refine And.intro ?_ ?_ <;> conv => whnf) | exact clG _ | (refine gand ?_ h; assumption) | exact clN _ | fail
  refine parkE (fun hc => ?_) (fun hc => ?_)
  ·exact (Bool.false_ne_true (hd.symm.trans hc)).elim
  ·clear hd
   conv => whnf
   replace r44 := bindS r44
   obtain ⟨v35, hv35, r44⟩ := r44
   have i36 := gixF (f := footwayref16_BT.cells) hv35
   replace r44 := bindS r44
   obtain ⟨v37, hv37, r44⟩ := r44
   have i38 := gixF (f := PlanT.cells) hv37
   repeat' first | exact rA _ | refine parkI ?_ | (refine ⟨_, i36, ?_⟩; conv => whnf) | (refine ⟨_, i38, ?_⟩; conv => whnf) | (refine W.drawn TT_ok hmix1 rfl ?_; conv => whnf) | (refine W.drawnM (id := 8) 0 TT_ok hmix1 [0, 0, 0, 0, 0, 0, 0, 0, 0, 0, 0, 1] [1, 1, 1, 1, 1, 1, 1, 1, 1, 1, 1, 2] rfl ?_; conv => whnf) | exact clA _ | (refine And.intro ?_ ?_ <;> conv => whnf) | exact clG _ | (refine gand ?_ h; assumption) | exact clN _ | fail
   refine parkE (fun hc => ?_) (fun hc => ?_)
   ·replace r44 := condT hc r44
    conv => whnf
    have e := Option.some.inj r44
    subst e
    repeat' first | exact rA _ | (refine W.drawn TT_ok hmix1 rfl ?_; conv => whnf) | (refine W.drawnM (id := 8) 0 TT_ok hmix1 [0, 0, 0, 0, 0, 0, 0, 0, 0, 0, 0, 1] [1, 1, 1, 1, 1, 1, 1, 1, 1, 1, 1, 2] rfl ?_; conv => whnf) | exact clA _ | (refine And.intro ?_ ?_ <;> conv => whnf) | exact clG _ | (refine gand ?_ h; assumption) | exact clN _ | fail
   ·replace r44 := condF hc r44
    conv => whnf
    have e := Option.some.inj r44
    subst e
    repeat' first | exact rA _ | (refine W.drawn TT_ok hmix1 rfl ?_; conv => whnf) | (refine W.drawnM (id := 8) 0 TT_ok hmix1 [0, 0, 0, 0, 0, 0, 0, 0, 0, 0, 0, 1] [1, 1, 1, 1, 1, 1, 1, 1, 1, 1, 1, 2] rfl ?_; conv => whnf) | exact clA _ | (refine And.intro ?_ ?_ <;> conv => whnf) | exact clG _ | (refine gand ?_ h; assumption) | exact clN _ | fail
 ·unfold ref16_root_c0 at b44
  have hd : decide (((k44 : Nat) : Int) < (((v23.Ports.map LinkT.cells).length : Nat) : Int)) = true := by rw [decide_eq_true_eq]; (try simp only [se_len, se_ch, List.length_map] at hk44); (try simp only [se_len, se_ch, List.length_map]); omega
  refine LoopW.round TT_ok [0, 1, 2, 3, 6, 7, 8, 9, 10, 11, 13, 20, 21, 22, 23, 43, 80, 95] ?_
  conv => whnf
  repeat' first | exact rA _ | refine parkI ?_ | (refine W.drawn TT_ok hmix1 rfl ?_; conv => whnf) | (refine W.drawnM (id := 8) 0 TT_ok hmix1 [0, 0, 0, 0, 0, 0, 0, 0, 0, 0, 0, 1] [1, 1, 1, 1, 1, 1, 1, 1, 1, 1, 1, 2] rfl ?_; conv => whnf) | exact clA _ | (refine And.intro ?_ ?_ <;> conv => whnf) | exact clG _ | (refine gand ?_ h; assumption) | exact clN _ | fail
  refine parkE (fun hc => ?_) (fun hc => ?_)
  ·clear hd
   conv => whnf
   replace b44 := bindS b44
   obtain ⟨y25, hy25, b44⟩ := b44
   have c26 := c_ref16_own a0 a1 x44.Seg _ hy25
   repeat' first | exact rA _ | refine parkI ?_ | (refine ⟨_, (kixF (f := LinkT.cells) hx44), ?_⟩; conv => whnf) | (refine CallP.use c26 ?_; conv => whnf) | (refine ⟨_, _, CallP.at c26, ?_⟩; conv => whnf) | (refine ⟨_, fun _ => c26, ?_⟩; conv => whnf) | exact fun _ => (⟨by decide, by decide⟩ : (0 : Int) ≤ 0 ∧ (0 : Int) < 2) | (refine W.drawn TT_ok hmix1 rfl ?_; conv => whnf) | (refine W.drawnM (id := 8) 0 TT_ok hmix1 [0, 0, 0, 0, 0, 0, 0, 0, 0, 0, 0, 1] [1, 1, 1, 1, 1, 1, 1, 1, 1, 1, 1, 2] rfl ?_; conv => whnf) | exact clA _ | (refine And.intro ?_ ?_ <;> conv => whnf) | exact clG _ | (refine gand ?_ h; assumption) | exact clN _ | fail
   refine parkE (fun hc => ?_) (fun hc => ?_)
   ·replace b44 := condT hc b44
    conv => whnf
    repeat' first | exact rA _ | refine parkI ?_ | (refine W.drawn TT_ok hmix1 rfl ?_; conv => whnf) | (refine W.drawnM (id := 8) 0 TT_ok hmix1 [0, 0, 0, 0, 0, 0, 0, 0, 0, 0, 0, 1] [1, 1, 1, 1, 1, 1, 1, 1, 1, 1, 1, 2] rfl ?_; conv => whnf) | exact clA _ | (refine And.intro ?_ ?_ <;> conv => whnf) | exact clG _ | (refine gand ?_ h; assumption) | exact clN _ | fail
    have e := Option.some.inj b44
    refine LoopW.norm [(1, (LV.ro 2 (a1.map footwayref16_BT.cells))), (2, (I a2)), (3, (LV.ptr 0 0 0)), (7, (I (s44.1, s44.2).1)), (8, (LV.ptr 1 0 0)), (20, (LV.ro 3 (v23.Ports.map LinkT.cells))), (21, (I (((v23.Ports.map LinkT.cells).length : Nat) : Int))), (22, (I ((k44 + 1 : Nat) : Int)))] 2 [(0, (.row 25 3 [[(I a0.Segs), (LV.ro 2 (a0.Plans.map PlanT.cells)), (LV.ro 2 (a0.Hosts.map HostT.cells))]])), (1, (.row 108 4 [[(I (s44.1, s44.2).2.Root), (I (s44.1, s44.2).2.Cost), (I (s44.1, s44.2).2.Bridge), (I (s44.1, s44.2).2.Port)]]))] ⟨rfl, rfl, rfl, (smT : ((I s44.1) : LV) = (I (s44.1, s44.2).1)), rfl, rfl, rfl, (congrArg (LV.int .i64) (w64_nat _ (by omega))), trivial⟩ ⟨⟨rfl, rfl, blT⟩, ⟨⟨(congrArg (fun q => some (Blk.row 108 4 q)) (smT : ([[(I s44.2.Root), (I s44.2.Cost), (I s44.2.Bridge), (I s44.2.Port)]] : List (List LV)) = [[(I (s44.1, s44.2).2.Root), (I (s44.1, s44.2).2.Cost), (I (s44.1, s44.2).2.Bridge), (I (s44.1, s44.2).2.Port)]])), rfl, blT⟩, trivial⟩⟩ blT rfl (K44 _ e.symm)
   ·replace b44 := condF hc b44
    conv => whnf
    replace b44 := bindS b44
    obtain ⟨y27, hy27, b44⟩ := b44
    have c28 := c_ref16_told a0 a1 y25.1.c0 y25.1.c1 _ hy27
    replace b44 := bindS b44
    obtain ⟨y29, hy29, b44⟩ := b44
    have c30 := c_ref04_Far y27 x44.Cost _ hy29
    replace b44 := bindS b44
    obtain ⟨v31, hv31, b44⟩ := b44
    have i32 := gixF (f := footwayref16_BT.cells) hv31
    replace b44 := bindS b44
    obtain ⟨y33, hy33, b44⟩ := b44
    have c34 := fun (hg : (bif (bif (decide (y29.Root = v31.Root)) then (decide (y29.Cost = v31.Cost)) else false) then (!(decide (s44.1 < 0))) else false) = true) => c_ref04_Better y29 s44.2 _ (gdS hg hy33)
    repeat' first | exact rA _ | refine parkI ?_ | (refine ⟨_, i32, ?_⟩; conv => whnf) | (refine ⟨_, (fun _ => i32), ?_⟩; conv => whnf) | (refine ⟨_, c34, ?_⟩; conv => whnf) | (refine CallP.use c28 ?_; conv => whnf) | (refine ⟨_, _, CallP.at c28, ?_⟩; conv => whnf) | (refine ⟨_, fun _ => c28, ?_⟩; conv => whnf) | (refine CallP.use c30 ?_; conv => whnf) | (refine ⟨_, _, CallP.at c30, ?_⟩; conv => whnf) | (refine ⟨_, fun _ => c30, ?_⟩; conv => whnf) | exact (⟨by decide, by decide⟩ : (0 : Int) ≤ 0 ∧ (0 : Int) < 2) | exact (⟨by decide, by decide⟩ : (0 : Int) ≤ 1 ∧ (1 : Int) < 2) | (refine W.drawn TT_ok hmix1 rfl ?_; conv => whnf) | (refine W.drawnM (id := 8) 0 TT_ok hmix1 [0, 0, 0, 0, 0, 0, 0, 0, 0, 0, 0, 1] [1, 1, 1, 1, 1, 1, 1, 1, 1, 1, 1, 2] rfl ?_; conv => whnf) | exact clA _ | (refine And.intro ?_ ?_ <;> conv => whnf) | exact clG _ | (refine gand ?_ h; assumption) | exact clN _ | fail
    refine parkE (fun hc => ?_) (fun hc => ?_)
    ·replace b44 := condT hc b44
     conv => whnf
     repeat' first | exact rA _ | refine parkI ?_ | (refine W.drawn TT_ok hmix1 rfl ?_; conv => whnf) | (refine W.drawnM (id := 8) 0 TT_ok hmix1 [0, 0, 0, 0, 0, 0, 0, 0, 0, 0, 0, 1] [1, 1, 1, 1, 1, 1, 1, 1, 1, 1, 1, 2] rfl ?_; conv => whnf) | exact clA _ | (refine And.intro ?_ ?_ <;> conv => whnf) | exact clG _ | (refine gand ?_ h; assumption) | exact clN _ | fail
     have e := Option.some.inj b44
     refine LoopW.norm [(1, (LV.ro 2 (a1.map footwayref16_BT.cells))), (2, (I a2)), (3, (LV.ptr 0 0 0)), (7, (I (((k44 : Nat) : Int), y29).1)), (8, (LV.ptr 1 0 0)), (20, (LV.ro 3 (v23.Ports.map LinkT.cells))), (21, (I (((v23.Ports.map LinkT.cells).length : Nat) : Int))), (22, (I ((k44 + 1 : Nat) : Int)))] 2 [(0, (.row 25 3 [[(I a0.Segs), (LV.ro 2 (a0.Plans.map PlanT.cells)), (LV.ro 2 (a0.Hosts.map HostT.cells))]])), (1, (.row 108 4 [[(I (((k44 : Nat) : Int), y29).2.Root), (I (((k44 : Nat) : Int), y29).2.Cost), (I (((k44 : Nat) : Int), y29).2.Bridge), (I (((k44 : Nat) : Int), y29).2.Port)]]))] ⟨rfl, rfl, rfl, (smT : ((I ((k44 : Nat) : Int)) : LV) = (I (((k44 : Nat) : Int), y29).1)), rfl, rfl, rfl, (congrArg (LV.int .i64) (w64_nat _ (by omega))), trivial⟩ ⟨⟨rfl, rfl, blT⟩, ⟨⟨(congrArg (fun q => some (Blk.row 108 4 q)) (smT : ([[(I y29.Root), (I y29.Cost), (I y29.Bridge), (I y29.Port)]] : List (List LV)) = [[(I (((k44 : Nat) : Int), y29).2.Root), (I (((k44 : Nat) : Int), y29).2.Cost), (I (((k44 : Nat) : Int), y29).2.Bridge), (I (((k44 : Nat) : Int), y29).2.Port)]])), rfl, blT⟩, trivial⟩⟩ blT rfl (K44 _ e.symm)
    ·replace b44 := condF hc b44
     conv => whnf
     repeat' first | exact rA _ | refine parkI ?_ | (refine W.drawn TT_ok hmix1 rfl ?_; conv => whnf) | (refine W.drawnM (id := 8) 0 TT_ok hmix1 [0, 0, 0, 0, 0, 0, 0, 0, 0, 0, 0, 1] [1, 1, 1, 1, 1, 1, 1, 1, 1, 1, 1, 2] rfl ?_; conv => whnf) | exact clA _ | (refine And.intro ?_ ?_ <;> conv => whnf) | exact clG _ | (refine gand ?_ h; assumption) | exact clN _ | fail
     have e := Option.some.inj b44
     refine LoopW.norm [(1, (LV.ro 2 (a1.map footwayref16_BT.cells))), (2, (I a2)), (3, (LV.ptr 0 0 0)), (7, (I (s44.1, s44.2).1)), (8, (LV.ptr 1 0 0)), (20, (LV.ro 3 (v23.Ports.map LinkT.cells))), (21, (I (((v23.Ports.map LinkT.cells).length : Nat) : Int))), (22, (I ((k44 + 1 : Nat) : Int)))] 2 [(0, (.row 25 3 [[(I a0.Segs), (LV.ro 2 (a0.Plans.map PlanT.cells)), (LV.ro 2 (a0.Hosts.map HostT.cells))]])), (1, (.row 108 4 [[(I (s44.1, s44.2).2.Root), (I (s44.1, s44.2).2.Cost), (I (s44.1, s44.2).2.Bridge), (I (s44.1, s44.2).2.Port)]]))] ⟨rfl, rfl, rfl, (smT : ((I s44.1) : LV) = (I (s44.1, s44.2).1)), rfl, rfl, rfl, (congrArg (LV.int .i64) (w64_nat _ (by omega))), trivial⟩ ⟨⟨rfl, rfl, blT⟩, ⟨⟨(congrArg (fun q => some (Blk.row 108 4 q)) (smT : ([[(I s44.2.Root), (I s44.2.Cost), (I s44.2.Bridge), (I s44.2.Port)]] : List (List LV)) = [[(I (s44.1, s44.2).2.Root), (I (s44.1, s44.2).2.Cost), (I (s44.1, s44.2).2.Bridge), (I (s44.1, s44.2).2.Port)]])), rfl, blT⟩, trivial⟩⟩ blT rfl (K44 _ e.symm)
  ·exact (Bool.false_ne_true (hc.symm.trans hd)).elim

def ref16_role (a0 : LanT) (a1 : (List footwayref16_BT)) (a2 : Int) (a3 : Int) : Option Int :=
 (gix a0.Plans a2).bind fun v17 =>
 (gix v17.Ports a3).bind fun v19 =>
 (bif (!v19.Up) then
  some 3
 else
  (ref16_own a0 a1 v19.Seg).bind fun y21 =>
  (bif (bif (decide (y21.1.c0 = a2)) then (decide (y21.1.c1 = a3)) else false) then
   some 1
  else
   (ref16_root a0 a1 a2).bind fun y23 =>
   (bif (decide (a3 = y23)) then
    some 0
   else
    some 2)))

theorem c_ref16_role (a0 : LanT) (a1 : (List footwayref16_BT)) (a2 : Int) (a3 : Int) (r : Int) (h : ref16_role a0 a1 a2 a3 = some r) : CallP Try.prog 42 [(LV.agg [(I a0.Segs), (LV.ro 2 (a0.Plans.map PlanT.cells)), (LV.ro 2 (a0.Hosts.map HostT.cells))]), (LV.ro 2 (a1.map footwayref16_BT.cells)), (I a2), (I a3)] (I r) := by
 unfold ref16_role at h
 refine .intro nlA (.intro TT_ok Try.func42 rfl rfl [0, 1, 2, 3, 4, 8, 9, 10, 23, 41, 47] rfl ?_)
 conv => whnf
 replace h := bindS h
 obtain ⟨v17, hv17, h⟩ := h
 have i18 := gixF (f := PlanT.cells) hv17
 replace h := bindS h
 obtain ⟨v19, hv19, h⟩ := h
 have i20 := gixF (f := LinkT.cells) hv19
 repeat' first | exact rA _ | refine parkI ?_ | (refine ⟨_, i18, ?_⟩; conv => whnf) | (refine ⟨_, i20, ?_⟩; conv => whnf) | (refine And.intro ?_ ?_ <;> conv => whnf) | fail
 refine parkE (fun hc => ?_) (fun hc => ?_)
 ·replace h := condT hc h
  conv => whnf
  have e := Option.some.inj h
  subst e
  repeat' first | exact rA _ | exact clA _ | (refine And.intro ?_ ?_ <;> conv => whnf) | exact clG _ | (refine gand ?_ h; assumption) | exact clN _ | fail
 ·replace h := condF hc h
  conv => whnf
  replace h := bindS h
  obtain ⟨y21, hy21, h⟩ := h
  have c22 := c_ref16_own a0 a1 v19.Seg _ hy21
  repeat' first | exact rA _ | refine parkI ?_ | (refine CallP.use c22 ?_; conv => whnf) | exact (⟨by decide, by decide⟩ : (0 : Int) ≤ 0 ∧ (0 : Int) < 2) | exact fun _ => (⟨by decide, by decide⟩ : (0 : Int) ≤ 1 ∧ (1 : Int) < 2) | exact clA _ | (refine And.intro ?_ ?_ <;> conv => whnf) | exact clG _ | (refine gand ?_ h; assumption) | fail
  refine parkE (fun hc => ?_) (fun hc => ?_)
  ·replace h := condT hc h
   conv => whnf
   have e := Option.some.inj h
   subst e
   repeat' first | exact rA _ | exact clA _ | (refine And.intro ?_ ?_ <;> conv => whnf) | exact clG _ | (refine gand ?_ h; assumption) | exact clN _ | fail
  ·replace h := condF hc h
   conv => whnf
   replace h := bindS h
   obtain ⟨y23, hy23, h⟩ := h
   have c24 := c_ref16_root a0 a1 a2 _ hy23
   repeat' first | exact rA _ | refine parkI ?_ | (refine CallP.use c24 ?_; conv => whnf) | (refine And.intro ?_ ?_ <;> conv => whnf) | fail
   refine parkE (fun hc => ?_) (fun hc => ?_)
   ·replace h := condT hc h
    conv => whnf
    have e := Option.some.inj h
    subst e
    repeat' first | exact rA _ | exact clA _ | (refine And.intro ?_ ?_ <;> conv => whnf) | exact clG _ | (refine gand ?_ h; assumption) | exact clN _ | fail
   ·replace h := condF hc h
    conv => whnf
    have e := Option.some.inj h
    subst e
    repeat' first | exact rA _ | exact clA _ | (refine And.intro ?_ ?_ <;> conv => whnf) | exact clG _ | (refine gand ?_ h; assumption) | exact clN _ | fail

def ref16_Roles_c1 (a0 : LanT) (y15 : (List footwayref16_BT)) (k36 : Nat) (k37 : Nat) (x37 : LinkT) (s37 : (List Int)) : Option (Step (Step (List (List Int)) (List (List Int))) (List Int)) :=
 (ref16_role a0 y15 ((k36 : Nat) : Int) ((k37 : Nat) : Int)).bind fun y17 =>
 grd (fits ((s37 ++ ([y17] : (List Int))) : List Int).length 8) <|
 some (.nxt (s37 ++ ([y17] : (List Int))))

def ref16_Roles_c0 (a0 : LanT) (y15 : (List footwayref16_BT)) (k36 : Nat) (x36 : PlanT) (s36 : (List (List Int))) : Option (Step (List (List Int)) (List (List Int))) :=
 aft (rangeL (ref16_Roles_c1 a0 y15 k36) x36.Ports ([] : (List Int))) fun s37 =>
 grd (fits ((s36 ++ ([s37] : (List (List Int)))) : List (List Int)).length 24) <|
 some (.nxt (s36 ++ ([s37] : (List (List Int)))))

def ref16_Roles (a0 : LanT) : Option (List (List Int)) :=
 (ref16_Bests a0).bind fun y15 =>
 aft (rangeL (ref16_Roles_c0 a0 y15) a0.Plans ([] : (List (List Int)))) fun s36 =>
 some s36

theorem cf_ref16_Roles (a0 : LanT) (r : (List (List Int))) (h : ref16_Roles a0 = some r) : CallF Try.prog 17 [(LV.agg [(I a0.Segs), (LV.ro 2 (a0.Plans.map PlanT.cells)), (LV.ro 2 (a0.Hosts.map HostT.cells))])] 47 1 (r.map (roC 1 iC)) := by
 unfold ref16_Roles at h
 refine CallF.of (NLss_map' _) (CallW.intro TT_ok Try.func17 rfl rfl [0, 1, 2, 3, 4, 5, 6, 7, 8, 13, 14, 15, 16, 23, 24, 25] rfl ?_)
 conv => whnf
 replace h := bindS h
 obtain ⟨y15, hy15, h⟩ := h
 have c16 := cf_ref16_Bests a0 _ hy15
 repeat' first | exact rA _ | refine parkI ?_ | (refine CallW.done (CallF.at c16 nlA (NLss_map' _)) ?_; conv => whnf) | (refine ⟨_, _, CallF.at c16 nlA (NLss_map' _), ?_⟩; conv => whnf) | exact clA _ | (refine And.intro ?_ ?_ <;> conv => whnf) | exact clN _ | fail
 replace h := aftS h
 obtain ⟨O36, hO36, r36⟩ := h
 refine LoopW.frz [1] ?_
 conv => whnf
 repeat' first | exact rA _ | refine parkI ?_ | exact clA _ | (refine And.intro ?_ ?_ <;> conv => whnf) | exact clN _ | fail
 refine LoopW.norm [(1, (LV.ptr 0 0 0)), (3, (LV.ro 2 (y15.map footwayref16_BT.cells))), (4, (LV.sl 2 0 (([] : (List (List Int))).map (roC 1 iC)).length)), (13, (LV.ro 2 (a0.Plans.map PlanT.cells))), (14, (I (((a0.Plans.map PlanT.cells).length : Nat) : Int))), (15, (I ((0 : Nat) : Int)))] 3 [(0, (.row 25 3 [[(I a0.Segs), (LV.ro 2 (a0.Plans.map PlanT.cells)), (LV.ro 2 (a0.Hosts.map HostT.cells))]])), (2, (.row 47 1 (([] : (List (List Int))).map (roC 1 iC))))] ⟨rfl, rfl, (by exact congrArg (LV.sl 2 0) (clL _ : 0 = (([] : (List (List Int))).map (roC 1 iC)).length)), rfl, rfl, rfl, trivial⟩ ⟨⟨rfl, rfl, blT⟩, ⟨⟨(congrArg (fun q => some (Blk.row 47 1 q)) (by first | (simp only [se_map, se_byL, se_len, se_ch, List.length_map]; done) | (simp only [se_map, se_byL, se_len, se_ch, List.length_map, roC]; done) : (([] : List (List LV)) : List (List LV)) = (([] : (List (List Int))).map (roC 1 iC)))), rfl, NLss_bel (NLss_map' _)⟩, trivial⟩⟩ blT rfl ?_
 refine LoopW.forR (fun k36 s36 => [(1, (LV.ptr 0 0 0)), (3, (LV.ro 2 (y15.map footwayref16_BT.cells))), (4, (LV.sl 2 0 (s36.map (roC 1 iC)).length)), (13, (LV.ro 2 (a0.Plans.map PlanT.cells))), (14, (I (((a0.Plans.map PlanT.cells).length : Nat) : Int))), (15, (I ((k36 : Nat) : Int)))]) (fun s36 => ⟨3, [(0, (.row 25 3 [[(I a0.Segs), (LV.ro 2 (a0.Plans.map PlanT.cells)), (LV.ro 2 (a0.Hosts.map HostT.cells))]])), (2, (.row 47 1 (s36.map (roC 1 iC))))]⟩) hO36 (fun hl36 s36 hs36 => ?_) (fun hl36 k36 x36 s36 o36 hk36 hx36 b36 K36 hret36 hbrk36 => ?_)
 ·rw [hs36] at r36
  dsimp only [aftM] at r36
  have hd : decide (((a0.Plans.length : Nat) : Int) < (((a0.Plans.map PlanT.cells).length : Nat) : Int)) = false := by rw [decide_eq_false_iff_not]; (try simp only [se_len, se_ch, List.length_map]); omega
  refine LoopW.round TT_ok [0, 1, 2, 3, 4, 5, 6, 7, 8, 13, 14, 15, 16, 23, 24, 25] ?_
  conv => whnf
  repeat' first | exact rA _ | refine parkI ?_ | (refine And.intro ?_ ?_ <;> conv => whnf) | fail
  refine parkE (fun hc => ?_) (fun hc => ?_)
  ·exact (Bool.false_ne_true (hd.symm.trans hc)).elim
  ·clear hd
   conv => whnf
   have e := Option.some.inj r36
   subst e
   repeat' first | exact rA _ | exact Or.inr ⟨_, rfl, congrArg (fun q => some (Blk.row 47 1 q)) rfl⟩ | exact clA _ | (refine And.intro ?_ ?_ <;> conv => whnf) | exact clG _ | (refine gand ?_ h; assumption) | exact clN _ | fail
 ·unfold ref16_Roles_c0 at b36
  have hd : decide (((k36 : Nat) : Int) < (((a0.Plans.map PlanT.cells).length : Nat) : Int)) = true := by rw [decide_eq_true_eq]; (try simp only [se_len, se_ch, List.length_map] at hk36); (try simp only [se_len, se_ch, List.length_map]); omega
  refine LoopW.round TT_ok [0, 1, 2, 3, 4, 5, 6, 7, 8, 13, 14, 15, 16, 23, 24, 25] ?_
  conv => whnf
  repeat' first | exact rA _ | refine parkI ?_ | (refine And.intro ?_ ?_ <;> conv => whnf) | fail
  refine parkE (fun hc => ?_) (fun hc => ?_)
  ·clear hd
   conv => whnf
   repeat' first | exact rA _ | refine parkI ?_ | (refine ⟨_, (kixF (f := PlanT.cells) hx36), ?_⟩; conv => whnf) | (refine And.intro ?_ ?_ <;> conv => whnf) | fail
   replace b36 := aftS b36
   obtain ⟨O37, hO37, r37⟩ := b36
   refine LoopW.norm [(1, (LV.ptr 0 0 0)), (3, (LV.ro 2 (y15.map footwayref16_BT.cells))), (4, (LV.sl 2 0 (s36.map (roC 1 iC)).length)), (5, (I ((k36 : Nat) : Int))), (7, (LV.sl 4 0 (([] : (List Int)).map iC).length)), (13, (LV.ro 2 (a0.Plans.map PlanT.cells))), (14, (I (((a0.Plans.map PlanT.cells).length : Nat) : Int))), (15, (I ((k36 : Nat) : Int))), (23, (I (((x36.Ports.map LinkT.cells).length : Nat) : Int))), (24, (I ((0 : Nat) : Int)))] 5 [(0, (.row 25 3 [[(I a0.Segs), (LV.ro 2 (a0.Plans.map PlanT.cells)), (LV.ro 2 (a0.Hosts.map HostT.cells))]])), (2, (.row 47 1 (s36.map (roC 1 iC)))), (4, (.row 3 1 (([] : (List Int)).map iC)))] ⟨rfl, rfl, rfl, rfl, (by exact congrArg (LV.sl 4 0) (clL _ : 0 = (([] : (List Int)).map iC).length)), rfl, rfl, rfl, rfl, rfl, trivial⟩ ⟨⟨rfl, rfl, blT⟩, ⟨⟨rfl, rfl, NLss_bel (NLss_map' _)⟩, ⟨⟨(congrArg (fun q => some (Blk.row 3 1 q)) (smT : (([] : List (List LV)) : List (List LV)) = (([] : (List Int)).map iC))), rfl, NLss_bel (NLss_map' _)⟩, trivial⟩⟩⟩ blT rfl ?_
   refine LoopW.forR (fun k37 s37 => [(1, (LV.ptr 0 0 0)), (3, (LV.ro 2 (y15.map footwayref16_BT.cells))), (4, (LV.sl 2 0 (s36.map (roC 1 iC)).length)), (5, (I ((k36 : Nat) : Int))), (7, (LV.sl 4 0 (s37.map iC).length)), (13, (LV.ro 2 (a0.Plans.map PlanT.cells))), (14, (I (((a0.Plans.map PlanT.cells).length : Nat) : Int))), (15, (I ((k36 : Nat) : Int))), (23, (I (((x36.Ports.map LinkT.cells).length : Nat) : Int))), (24, (I ((k37 : Nat) : Int)))]) (fun s37 => ⟨5, [(0, (.row 25 3 [[(I a0.Segs), (LV.ro 2 (a0.Plans.map PlanT.cells)), (LV.ro 2 (a0.Hosts.map HostT.cells))]])), (2, (.row 47 1 (s36.map (roC 1 iC)))), (4, (.row 3 1 (s37.map iC)))]⟩) hO37 (fun hl37 s37 hs37 => ?_) (fun hl37 k37 x37 s37 o37 hk37 hx37 b37 K37 hret37 hbrk37 => ?_)
   ·rw [hs37] at r37
    dsimp only [aftM] at r37
    have hd : decide (((x36.Ports.length : Nat) : Int) < (((x36.Ports.map LinkT.cells).length : Nat) : Int)) = false := by rw [decide_eq_false_iff_not]; (try simp only [se_len, se_ch, List.length_map]); omega
    refine LoopW.round TT_ok [0, 1, 2, 3, 4, 5, 6, 7, 8, 13, 14, 15, 16, 23, 24, 25] ?_
    conv => whnf
    repeat' first | exact rA _ | refine parkI ?_ | (refine And.intro ?_ ?_ <;> conv => whnf) | fail
    refine parkE (fun hc => ?_) (fun hc => ?_)
    ·exact (Bool.false_ne_true (hd.symm.trans hc)).elim
    ·clear hd
     conv => whnf
     replace r37 := grdS r37
     obtain ⟨g20, r37⟩ := r37
     replace g20 : fits (((s36.map (roC 1 iC)) ++ [[(LV.ro 1 (s37.map iC))]])).length 24 := by simpa only [se_len, se_ch, List.length_map] using g20
     repeat' first | exact rA _ | refine parkI ?_ | exact g20 | exact clA _ | (refine And.intro ?_ ?_ <;> conv => whnf) | exact clN _ | fail
     have e := Option.some.inj r37
     refine LoopW.ren [(0, 0), (6, 2)] [(1, (LV.ptr 0 0 0)), (3, (LV.ro 2 (y15.map footwayref16_BT.cells))), (4, (LV.sl 2 0 ((s36 ++ ([s37] : (List (List Int)))).map (roC 1 iC)).length)), (13, (LV.ro 2 (a0.Plans.map PlanT.cells))), (14, (I (((a0.Plans.map PlanT.cells).length : Nat) : Int))), (15, (I ((k36 + 1 : Nat) : Int)))] 3 [(0, (.row 25 3 [[(I a0.Segs), (LV.ro 2 (a0.Plans.map PlanT.cells)), (LV.ro 2 (a0.Hosts.map HostT.cells))]])), (2, (.row 47 1 ((s36 ++ ([s37] : (List (List Int)))).map (roC 1 iC))))] rfl ⟨rfl, rfl, (by exact congrArg (LV.sl 2 0) (clL _ : (((s36.map (roC 1 iC)) ++ [[(LV.ro 1 (s37.map iC))]])).length = ((s36 ++ ([s37] : (List (List Int)))).map (roC 1 iC)).length)), rfl, rfl, (congrArg (LV.int .i64) (w64_nat _ (by omega))), trivial⟩ ⟨⟨rfl, rfl, .inl ⟨rfl, nlT⟩⟩, rfl, rfl, ⟨⟨rfl, rfl, .inl ⟨(by first | (simp only [se_map, se_byL, se_len, se_ch, List.length_map]; done) | (simp only [se_map, se_byL, se_len, se_ch, List.length_map, roC]; done) : (((s36.map (roC 1 iC)) ++ [[(LV.ro 1 (s37.map iC))]]) : List (List LV)) = ((s36 ++ ([s37] : (List (List Int)))).map (roC 1 iC))), nlT⟩⟩, rfl, rfl, trivial⟩⟩ rfl (K36 _ e.symm)
   ·unfold ref16_Roles_c1 at b37
    have hd : decide (((k37 : Nat) : Int) < (((x36.Ports.map LinkT.cells).length : Nat) : Int)) = true := by rw [decide_eq_true_eq]; (try simp only [se_len, se_ch, List.length_map] at hk37); (try simp only [se_len, se_ch, List.length_map]); omega
    refine LoopW.round TT_ok [0, 1, 2, 3, 4, 5, 6, 7, 8, 13, 14, 15, 16, 23, 24, 25] ?_
    conv => whnf
    repeat' first | exact rA _ | refine parkI ?_ | (refine And.intro ?_ ?_ <;> conv => whnf) | fail
    refine parkE (fun hc => ?_) (fun hc => ?_)
    ·clear hd
     conv => whnf
     replace b37 := bindS b37
     obtain ⟨y17, hy17, b37⟩ := b37
     have c18 := c_ref16_role a0 y15 ((k36 : Nat) : Int) ((k37 : Nat) : Int) _ hy17
     replace b37 := grdS b37
     obtain ⟨g19, b37⟩ := b37
     replace g19 : fits (((s37.map iC) ++ [[(I y17)]])).length 8 := by simpa only [se_len, se_ch, List.length_map] using g19
     repeat' first | exact rA _ | refine parkI ?_ | exact g19 | (refine CallP.use c18 ?_; conv => whnf) | exact clA _ | (refine And.intro ?_ ?_ <;> conv => whnf) | exact clN _ | fail
     have e := Option.some.inj b37
     refine LoopW.ren [(0, 0), (2, 2), (6, 4)] [(1, (LV.ptr 0 0 0)), (3, (LV.ro 2 (y15.map footwayref16_BT.cells))), (4, (LV.sl 2 0 (s36.map (roC 1 iC)).length)), (5, (I ((k36 : Nat) : Int))), (7, (LV.sl 4 0 ((s37 ++ ([y17] : (List Int))).map iC).length)), (13, (LV.ro 2 (a0.Plans.map PlanT.cells))), (14, (I (((a0.Plans.map PlanT.cells).length : Nat) : Int))), (15, (I ((k36 : Nat) : Int))), (23, (I (((x36.Ports.map LinkT.cells).length : Nat) : Int))), (24, (I ((k37 + 1 : Nat) : Int)))] 5 [(0, (.row 25 3 [[(I a0.Segs), (LV.ro 2 (a0.Plans.map PlanT.cells)), (LV.ro 2 (a0.Hosts.map HostT.cells))]])), (2, (.row 47 1 (s36.map (roC 1 iC)))), (4, (.row 3 1 ((s37 ++ ([y17] : (List Int))).map iC)))] rfl ⟨rfl, rfl, rfl, rfl, (by exact congrArg (LV.sl 4 0) (clL _ : (((s37.map iC) ++ [[(I y17)]])).length = ((s37 ++ ([y17] : (List Int))).map iC).length)), rfl, rfl, rfl, rfl, (congrArg (LV.int .i64) (w64_nat _ (by omega))), trivial⟩ ⟨⟨rfl, rfl, .inl ⟨rfl, nlT⟩⟩, rfl, rfl, ⟨⟨rfl, rfl, .inl ⟨rfl, nlT⟩⟩, rfl, rfl, ⟨⟨rfl, rfl, .inl ⟨(smT : (((s37.map iC) ++ [[(I y17)]]) : List (List LV)) = ((s37 ++ ([y17] : (List Int))).map iC)), nlT⟩⟩, rfl, rfl, trivial⟩⟩⟩ rfl (K37 _ e.symm)
    ·exact (Bool.false_ne_true (hc.symm.trans hd)).elim
  ·exact (Bool.false_ne_true (hc.symm.trans hd)).elim

theorem c_ref16_Roles (a0 : LanT) (r : (List (List Int))) (h : ref16_Roles a0 = some r) : CallP Try.prog 17 [(LV.agg [(I a0.Segs), (LV.ro 2 (a0.Plans.map PlanT.cells)), (LV.ro 2 (a0.Hosts.map HostT.cells))])] (LV.ro 1 (r.map (roC 1 iC))) := by
 exact CallF.toP (cf_ref16_Roles a0 r h) nlA (NLss_map' _)

def ref16_Own (a0 : LanT) (a1 : Int) : Option (A2_Int × Bool) :=
 (ref16_Bests a0).bind fun y27 =>
 (ref16_own a0 y27 a1).bind fun y29 =>
 some (y29.1, y29.2)

theorem c_ref16_Own (a0 : LanT) (a1 : Int) (r : (A2_Int × Bool)) (h : ref16_Own a0 a1 = some r) : CallP Try.prog 20 [(LV.agg [(I a0.Segs), (LV.ro 2 (a0.Plans.map PlanT.cells)), (LV.ro 2 (a0.Hosts.map HostT.cells))]), (I a1)] (LV.tup [(LV.agg [(I r.1.c0), (I r.1.c1)]), (LV.bool r.2)]) := by
 unfold ref16_Own at h
 refine .intro nlA (.intro TT_ok Try.func20 rfl rfl [0, 1, 2, 4, 5] rfl ?_)
 conv => whnf
 replace h := bindS h
 obtain ⟨y27, hy27, h⟩ := h
 have c28 := c_ref16_Bests a0 _ hy27
 replace h := bindS h
 obtain ⟨y29, hy29, h⟩ := h
 have c30 := c_ref16_own a0 y27 a1 _ hy29
 have e := Option.some.inj h
 subst e
 repeat' first | exact rA _ | (refine CallP.use c28 ?_; conv => whnf) | (refine ⟨_, _, CallP.at c28, ?_⟩; conv => whnf) | (refine ⟨_, fun _ => c28, ?_⟩; conv => whnf) | (refine CallP.use c30 ?_; conv => whnf) | (refine ⟨_, _, CallP.at c30, ?_⟩; conv => whnf) | (refine ⟨_, fun _ => c30, ?_⟩; conv => whnf) | (refine W.drawnM (id := 1) 0 TT_ok hmix1 [0, 0, 0, 0, 0, 0, 0, 0, 1] [0, 0, 0, 0, 0, 0, 0, 1, 1] rfl ?_; conv => whnf) | exact clA _ | (refine And.intro ?_ ?_ <;> conv => whnf) | exact clG _ | (refine gand ?_ h; assumption) | exact clN _ | fail

def law16_TreeTells_c1 (y9 : ((List (List Bool)) × Int)) (k38 : Nat) (k39 : Nat) (x39 : Int) (s39 : Unit) : Option (Step (Step Bool Unit) Unit) :=
 (gix y9.1 ((k38 : Nat) : Int)).bind fun v23 =>
 (gix v23 ((k39 : Nat) : Int)).bind fun v25 =>
 (bif (!(v25 == (bif (decide (x39 = 0)) then true else (decide (x39 = 1))))) then
  some (.ret (.ret false))
 else
  some (.nxt ()))

def law16_TreeTells_c0 (y9 : ((List (List Bool)) × Int)) (k38 : Nat) (x38 : (List Int)) (s38 : Unit) : Option (Step Bool Unit) :=
 (gix y9.1 ((k38 : Nat) : Int)).bind fun v21 =>
 (bif (!decide (((v21.length : Nat) : Int) = ((x38.length : Nat) : Int))) then
  some (.ret false)
 else
  aft (rangeL (law16_TreeTells_c1 y9 k38) x38 ()) fun s39 =>
  some (.nxt ()))

def law16_TreeTells_c3 (y9 : ((List (List Bool)) × Int)) (k41 : Nat) (k42 : Nat) (x42 : Int) (s42 : Unit) : Option (Step (Step Bool Unit) Unit) :=
 (gix y9.1 ((k41 : Nat) : Int)).bind fun v24 =>
 (gix v24 ((k42 : Nat) : Int)).bind fun v26 =>
 (bif (!(v26 == (bif (decide (x42 = 0)) then true else (decide (x42 = 1))))) then
  some (.ret (.ret false))
 else
  some (.nxt ()))

def law16_TreeTells_c2 (y9 : ((List (List Bool)) × Int)) (y15 : (List (List Int))) (k41 : Nat) (s41 : Unit) : Option (Step Bool Unit) :=
 grd ((0 : Int) ≤ ((k41 : Nat) : Int) ∧ ((k41 : Nat) : Int) < ((y15.length : Nat) : Int)) <|
 (gixN y15 (((k41 : Nat) : Int) : Int).toNat).bind fun v20 =>
 (gix y9.1 ((k41 : Nat) : Int)).bind fun v22 =>
 (bif (!decide (((v22.length : Nat) : Int) = ((v20.length : Nat) : Int))) then
  some (.ret false)
 else
  aft (rangeL (law16_TreeTells_c3 y9 k41) v20 ()) fun s42 =>
  some (.nxt ()))

def law16_TreeTells (a0 : LanT) (a1 : Int) (a2 : Int) : Option Bool :=
 (law16_few a0).bind fun y1 =>
 (tree_Best y1 a1).bind fun y3 =>
 (tree_Roles y1).bind fun y5 =>
 (tree_Own y1 a2).bind fun y7 =>
 (tree_Open y1).bind fun y9 =>
 (ref15_Right y1).bind fun y11 =>
 (bif (!y11) then
  (law16_alive ).bind fun y13 =>
  some (bif (bif (bif (bif (bif (bif (bif (bif (bif (bif y13 then (decide (y3.2.2 = 1)) else false) then (decide (y5.2 = 1)) else false) then (decide (y7.2.2 = 1)) else false) then (decide (y9.2 = 1)) else false) then (decide (y3.1 = 0)) else false) then (decide (y3.2.1 = 0)) else false) then (decide (((y5.1.length : Nat) : Int) = 0)) else false) then ((decide (y7.1.c0 = 0)) && ((decide (y7.1.c1 = 0)) && true)) else false) then (!y7.2.1) else false) then (decide (((y9.1.length : Nat) : Int) = 0)) else false)
 else
  (ref16_Roles y1).bind fun y15 =>
  (bif (!(bif (!decide (y5.2 = 0)) then true else (!decide (y9.2 = 0)))) then
   (ref16_Same y5.1 y15).bind fun y17 =>
   (gd (!(bif (bif (bif (!decide (y5.2 = 0)) then true else (!decide (y9.2 = 0))) then true else (!y17)) then true else (!decide (((y9.1.length : Nat) : Int) = ((y15.length : Nat) : Int))))) (law16_alive )).bind fun y19 =>
   (bif (bif (bif (bif (bif (!decide (y5.2 = 0)) then true else (!decide (y9.2 = 0))) then true else (!y17)) then true else (!decide (((y9.1.length : Nat) : Int) = ((y15.length : Nat) : Int)))) then true else (!y19)) then
    some false
   else
    aft (rangeL (law16_TreeTells_c0 y9) y15 ()) fun s38 =>
    (bif (bif (decide (a1 < 0)) then true else (decide (((y1.Plans.length : Nat) : Int) ≤ a1))) then
     (bif (bif (bif (!decide (y3.2.2 = 3)) then true else (!decide (y3.1 = 0))) then true else (!decide (y3.2.1 = 0))) then
      some false
     else
      (bif (bif (decide (a2 < 0)) then true else (decide (y1.Segs ≤ a2))) then
       some (bif (bif (decide (y7.2.2 = 3)) then (!y7.2.1) else false) then ((decide (y7.1.c0 = 0)) && ((decide (y7.1.c1 = 0)) && true)) else false)
      else
       (ref16_Own y1 a2).bind fun y27 =>
       some (bif (bif (decide (y7.2.2 = 0)) then ((decide (y7.1.c0 = y27.1.c0)) && ((decide (y7.1.c1 = y27.1.c1)) && true)) else false) then (y7.2.1 == y27.2) else false)))
    else
     (ref16_Bests y1).bind fun y29 =>
     grd ((0 : Int) ≤ a1 ∧ a1 < ((y29.length : Nat) : Int)) <|
     (gixN y29 (a1 : Int).toNat).bind fun v32 =>
     (bif (bif (bif (!decide (y3.2.2 = 0)) then true else (!decide (y3.1 = v32.Root))) then true else (!decide (y3.2.1 = v32.Cost))) then
      some false
     else
      (bif (bif (decide (a2 < 0)) then true else (decide (y1.Segs ≤ a2))) then
       some (bif (bif (decide (y7.2.2 = 3)) then (!y7.2.1) else false) then ((decide (y7.1.c0 = 0)) && ((decide (y7.1.c1 = 0)) && true)) else false)
      else
       (ref16_Own y1 a2).bind fun y34 =>
       some (bif (bif (decide (y7.2.2 = 0)) then ((decide (y7.1.c0 = y34.1.c0)) && ((decide (y7.1.c1 = y34.1.c1)) && true)) else false) then (y7.2.1 == y34.2) else false)))))
  else
   (gd (!(bif true then true else (!decide (((y9.1.length : Nat) : Int) = ((y15.length : Nat) : Int))))) (law16_alive )).bind fun y17 =>
   (bif (bif (bif true then true else (!decide (((y9.1.length : Nat) : Int) = ((y15.length : Nat) : Int)))) then true else (!y17)) then
    some false
   else
    aft (rangeN (law16_TreeTells_c2 y9 y15) ((y15.length : Nat) : Int) ()) fun s41 =>
    (bif (bif (decide (a1 < 0)) then true else (decide (((y1.Plans.length : Nat) : Int) ≤ a1))) then
     (bif (bif (bif (!decide (y3.2.2 = 3)) then true else (!decide (y3.1 = 0))) then true else (!decide (y3.2.1 = 0))) then
      some false
     else
      (bif (bif (decide (a2 < 0)) then true else (decide (y1.Segs ≤ a2))) then
       some (bif (bif (decide (y7.2.2 = 3)) then (!y7.2.1) else false) then ((decide (y7.1.c0 = 0)) && ((decide (y7.1.c1 = 0)) && true)) else false)
      else
       (ref16_Own y1 a2).bind fun y28 =>
       some (bif (bif (decide (y7.2.2 = 0)) then ((decide (y7.1.c0 = y28.1.c0)) && ((decide (y7.1.c1 = y28.1.c1)) && true)) else false) then (y7.2.1 == y28.2) else false)))
    else
     (ref16_Bests y1).bind fun y30 =>
     grd ((0 : Int) ≤ a1 ∧ a1 < ((y30.length : Nat) : Int)) <|
     (gixN y30 (a1 : Int).toNat).bind fun v33 =>
     (bif (bif (bif (!decide (y3.2.2 = 0)) then true else (!decide (y3.1 = v33.Root))) then true else (!decide (y3.2.1 = v33.Cost))) then
      some false
     else
      (bif (bif (decide (a2 < 0)) then true else (decide (y1.Segs ≤ a2))) then
       some (bif (bif (decide (y7.2.2 = 3)) then (!y7.2.1) else false) then ((decide (y7.1.c0 = 0)) && ((decide (y7.1.c1 = 0)) && true)) else false)
      else
       (ref16_Own y1 a2).bind fun y35 =>
       some (bif (bif (decide (y7.2.2 = 0)) then ((decide (y7.1.c0 = y35.1.c0)) && ((decide (y7.1.c1 = y35.1.c1)) && true)) else false) then (y7.2.1 == y35.2) else false)))))))

theorem c_law16_TreeTells (a0 : LanT) (a1 : Int) (a2 : Int) (r : Bool) (h : law16_TreeTells a0 a1 a2 = some r) : CallP Try.prog 5 [(LV.agg [(I a0.Segs), (LV.ro 2 (a0.Plans.map PlanT.cells)), (LV.ro 2 (a0.Hosts.map HostT.cells))]), (I a1), (I a2)] (LV.bool r) := by
 unfold law16_TreeTells at h
 refine .intro nlA (.intro TT_ok Try.func5 rfl rfl [0, 1, 2, 3, 6, 7, 8, 9, 10, 11, 12, 13, 14, 15, 16, 17, 18, 19, 20, 21, 22, 23, 24, 53, 122, 123, 124, 125, 126, 137, 138, 139, 140, 141, 158, 169, 179, 198, 206] rfl ?_)
 conv => whnf
 replace h := bindS h
 obtain ⟨y1, hy1, h⟩ := h
 have c2 := c_law16_few a0 _ hy1
 replace h := bindS h
 obtain ⟨y3, hy3, h⟩ := h
 have c4 := c_tree_Best y1 a1 _ hy3
 replace h := bindS h
 obtain ⟨y5, hy5, h⟩ := h
 have c6 := c_tree_Roles y1 _ hy5
 replace h := bindS h
 obtain ⟨y7, hy7, h⟩ := h
 have c8 := c_tree_Own y1 a2 _ hy7
 replace h := bindS h
 obtain ⟨y9, hy9, h⟩ := h
 have c10 := c_tree_Open y1 _ hy9
 replace h := bindS h
 obtain ⟨y11, hy11, h⟩ := h
 have c12 := c_ref15_Right y1 _ hy11
 repeat' first | exact rA _ | refine parkI ?_ | (refine CallP.use c2 ?_; conv => whnf) | (refine CallP.use c4 ?_; conv => whnf) | (refine CallP.use c6 ?_; conv => whnf) | (refine CallP.use c8 ?_; conv => whnf) | (refine CallP.use c10 ?_; conv => whnf) | (refine CallP.use c12 ?_; conv => whnf) | (refine And.intro ?_ ?_ <;> conv => whnf) | fail
 refine parkE (fun hc => ?_) (fun hc => ?_)
 ·replace h := condT hc h
  conv => whnf
  replace h := bindS h
  obtain ⟨y13, hy13, h⟩ := h
  have c14 := c_law16_alive  _ hy13
  have e := Option.some.inj h
  subst e
  repeat' first | exact rA _ | (refine CallP.use c14 ?_; conv => whnf) | exact clA _ | (refine And.intro ?_ ?_ <;> conv => whnf) | exact clG _ | (refine gand ?_ h; assumption) | exact clN _ | fail
 ·replace h := condF hc h
  conv => whnf
  replace h := bindS h
  obtain ⟨y15, hy15, h⟩ := h
  have c16 := cf_ref16_Roles y1 _ hy15
  repeat' first | exact rA _ | refine parkI ?_ | (refine CallW.done (CallF.at c16 nlA (NLss_map' _)) ?_; conv => whnf) | (refine ⟨_, _, CallF.at c16 nlA (NLss_map' _), ?_⟩; conv => whnf) | exact clA _ | (refine And.intro ?_ ?_ <;> conv => whnf) | exact clG _ | (refine gand ?_ h; assumption) | fail
  refine parkE (fun hg1_ => ?_) (fun hg1_ => ?_)
  ·replace h := condT (by first | exact hg1_ | simpa only [se_len, se_ch, List.length_map] using hg1_) h
   conv => whnf
   replace h := bindS h
   obtain ⟨y17, hy17, h⟩ := h
   have c18 := c_ref16_Same y5.1 y15 _ hy17
   replace h := bindS h
   obtain ⟨y19, hy19, h⟩ := h
   have c20 := fun (hg : (!(bif (bif (bif (!decide (y5.2 = 0)) then true else (!decide (y9.2 = 0))) then true else (!y17)) then true else (!decide ((((y9.1.map (roC 1 bC)).length : Nat) : Int) = (((y15.map (roC 1 iC)).length : Nat) : Int))))) = true) => c_law16_alive  _ (gdS (show (!(bif (bif (bif (!decide (y5.2 = 0)) then true else (!decide (y9.2 = 0))) then true else (!y17)) then true else (!decide (((y9.1.length : Nat) : Int) = ((y15.length : Nat) : Int))))) = true by simpa only [se_len, se_ch, List.length_map] using hg) hy19)
   repeat' first | exact rA _ | refine parkI ?_ | (refine ⟨_, c20, ?_⟩; conv => whnf) | (refine CallP.use c18 ?_; conv => whnf) | exact clA _ | (refine And.intro ?_ ?_ <;> conv => whnf) | exact clG _ | (refine gand ?_ h; assumption) | exact clN _ | (intro hq_; conv => whnf) | fail
   refine parkE (fun hc => ?_) (fun hc => ?_)
   ·replace h := condT (by first | exact hc | (simpa only [se_len, se_ch, List.length_map] using hc; done) | (have h0 : (bif (bif (bif (bif (!decide (y5.2 = 0)) then true else (!decide (y9.2 = 0))) then true else (!y17)) then true else (!decide ((((y9.1.map (roC 1 bC)).length : Nat) : Int) = (((y15.map (roC 1 iC)).length : Nat) : Int)))) then true else (!y19)) = true := hc; simpa only [se_len, se_ch, List.length_map] using h0)) h
    conv => whnf
    have e := Option.some.inj h
    subst e
    repeat' first | exact rA _ | exact clA _ | (refine And.intro ?_ ?_ <;> conv => whnf) | exact clG _ | (refine gand ?_ h; assumption) | exact clN _ | (intro hq_; conv => whnf) | fail
   ·replace h := condF (by first | exact hc | (simpa only [se_len, se_ch, List.length_map] using hc; done) | (have h0 : (bif (bif (bif (bif (!decide (y5.2 = 0)) then true else (!decide (y9.2 = 0))) then true else (!y17)) then true else (!decide ((((y9.1.map (roC 1 bC)).length : Nat) : Int) = (((y15.map (roC 1 iC)).length : Nat) : Int)))) then true else (!y19)) = false := hc; simpa only [se_len, se_ch, List.length_map] using h0)) h
    conv => whnf
    repeat' first | exact rA _ | refine parkI ?_ | (refine And.intro ?_ ?_ <;> conv => whnf) | (intro hq_; conv => whnf) | fail
    replace h := aftS h
    obtain ⟨O38, hO38, r38⟩ := h
    refine LoopW.norm [(1, (I a1)), (2, (I a2)), (3, (LV.ptr 0 0 0)), (7, (I y3.1)), (8, (I y3.2.1)), (9, (I y3.2.2)), (12, (LV.ptr 1 0 0)), (13, (LV.bool y7.2.1)), (14, (I y7.2.2)), (15, (LV.ro 1 (y9.1.map (roC 1 bC)))), (123, (LV.ro 1 (y15.map (roC 1 iC)))), (124, (I (((y15.map (roC 1 iC)).length : Nat) : Int))), (125, (I ((0 : Nat) : Int)))] 2 [(0, (.row 25 3 [[(I y1.Segs), (LV.ro 2 (y1.Plans.map PlanT.cells)), (LV.ro 2 (y1.Hosts.map HostT.cells))]])), (1, (.row 41 2 [[(I y7.1.c0), (I y7.1.c1)]]))] ⟨rfl, rfl, rfl, rfl, rfl, rfl, rfl, rfl, rfl, rfl, rfl, rfl, rfl, trivial⟩ ⟨⟨rfl, rfl, blT⟩, ⟨⟨rfl, rfl, blT⟩, trivial⟩⟩ blT rfl ?_
    refine LoopW.forR (fun k38 s38 => [(1, (I a1)), (2, (I a2)), (3, (LV.ptr 0 0 0)), (7, (I y3.1)), (8, (I y3.2.1)), (9, (I y3.2.2)), (12, (LV.ptr 1 0 0)), (13, (LV.bool y7.2.1)), (14, (I y7.2.2)), (15, (LV.ro 1 (y9.1.map (roC 1 bC)))), (123, (LV.ro 1 (y15.map (roC 1 iC)))), (124, (I (((y15.map (roC 1 iC)).length : Nat) : Int))), (125, (I ((k38 : Nat) : Int)))]) (fun s38 => ⟨2, [(0, (.row 25 3 [[(I y1.Segs), (LV.ro 2 (y1.Plans.map PlanT.cells)), (LV.ro 2 (y1.Hosts.map HostT.cells))]])), (1, (.row 41 2 [[(I y7.1.c0), (I y7.1.c1)]]))]⟩) hO38 (fun hl38 s38 hs38 => ?_) (fun hl38 k38 x38 s38 o38 hk38 hx38 b38 K38 hret38 hbrk38 => ?_)
    ·rw [hs38] at r38
     dsimp only [aftM] at r38
     have hd : decide (((y15.length : Nat) : Int) < (((y15.map (roC 1 iC)).length : Nat) : Int)) = false := by rw [decide_eq_false_iff_not]; (try simp only [se_len, se_ch, List.length_map]); omega
     refine LoopW.round TT_ok [0, 1, 2, 3, 6, 7, 8, 9, 10, 11, 12, 13, 14, 15, 16, 17, 18, 19, 20, 21, 22, 23, 24, 53, 122, 123, 124, 125, 126, 137, 138, 139, 140, 141, 158, 169, 179, 198, 206] ?_
     conv => whnf
     repeat' first | exact rA _ | refine parkI ?_ | (refine And.intro ?_ ?_ <;> conv => whnf) | fail
     refine parkE (fun hc => ?_) (fun hc => ?_)
     ·exact (Bool.false_ne_true (hd.symm.trans hc)).elim
     ·clear hd
      conv => whnf
      repeat' first | exact rA _ | refine parkI ?_ | exact clA _ | (refine And.intro ?_ ?_ <;> conv => whnf) | exact clG _ | (refine gand ?_ h; assumption) | fail
      refine parkE (fun hc => ?_) (fun hc => ?_)
      ·replace r38 := condT (by first | exact hc | (simpa only [se_len, se_ch, List.length_map] using hc; done) | (have h0 : (bif (decide (a1 < 0)) then true else (decide ((((y1.Plans.map PlanT.cells).length : Nat) : Int) ≤ a1))) = true := hc; simpa only [se_len, se_ch, List.length_map] using h0)) r38
       conv => whnf
       repeat' first | exact rA _ | refine parkI ?_ | exact clA _ | (refine And.intro ?_ ?_ <;> conv => whnf) | exact clG _ | (refine gand ?_ h; assumption) | fail
       refine parkE (fun hc => ?_) (fun hc => ?_)
       ·replace r38 := condT hc r38
        conv => whnf
        have e := Option.some.inj r38
        subst e
        repeat' first | exact rA _ | exact clA _ | (refine And.intro ?_ ?_ <;> conv => whnf) | exact clG _ | (refine gand ?_ h; assumption) | exact clN _ | fail
       ·replace r38 := condF hc r38
        conv => whnf
        repeat' first | exact rA _ | refine parkI ?_ | exact clA _ | (refine And.intro ?_ ?_ <;> conv => whnf) | exact clG _ | (refine gand ?_ h; assumption) | fail
        refine parkE (fun hc => ?_) (fun hc => ?_)
        ·replace r38 := condT hc r38
         conv => whnf
         have e := Option.some.inj r38
         subst e
         repeat' first | exact rA _ | exact clA _ | (refine And.intro ?_ ?_ <;> conv => whnf) | exact clG _ | (refine gand ?_ h; assumption) | exact clN _ | fail
        ·replace r38 := condF hc r38
         conv => whnf
         replace r38 := bindS r38
         obtain ⟨y27, hy27, r38⟩ := r38
         have c28 := c_ref16_Own y1 a2 _ hy27
         have e := Option.some.inj r38
         subst e
         repeat' first | exact rA _ | (refine CallP.use c28 ?_; conv => whnf) | exact clA _ | (refine And.intro ?_ ?_ <;> conv => whnf) | exact clG _ | (refine gand ?_ h; assumption) | exact clN _ | fail
      ·replace r38 := condF (by first | exact hc | (simpa only [se_len, se_ch, List.length_map] using hc; done) | (have h0 : (bif (decide (a1 < 0)) then true else (decide ((((y1.Plans.map PlanT.cells).length : Nat) : Int) ≤ a1))) = false := hc; simpa only [se_len, se_ch, List.length_map] using h0)) r38
       conv => whnf
       replace r38 := bindS r38
       obtain ⟨y29, hy29, r38⟩ := r38
       have c30 := cf_ref16_Bests y1 _ hy29
       replace r38 := grdS r38
       obtain ⟨g31, r38⟩ := r38
       replace g31 : (0 : Int) ≤ a1 ∧ a1 < (((y29.map footwayref16_BT.cells).length : Nat) : Int) := by simpa only [se_len, se_ch, List.length_map] using g31
       replace r38 := bindS r38
       obtain ⟨v32, hv32, r38⟩ := r38
       have i33 : nth (y29.map footwayref16_BT.cells) (0 + ((a1 : Int).toNat)) = some [(I v32.Root), (I v32.Cost)] := by simpa only [se_map, se_len, se_ch, List.length_map, nth_eq, Nat.zero_add, List.getElem?_map] using gixNF (f := footwayref16_BT.cells) hv32
       repeat' first | exact rA _ | refine parkI ?_ | exact g31 | (refine CallW.done (CallF.at c30 nlA (NLss_map' _)) ?_; conv => whnf) | (refine ⟨_, _, CallF.at c30 nlA (NLss_map' _), ?_⟩; conv => whnf) | (rw [i33]; conv => whnf) | exact clA _ | (refine And.intro ?_ ?_ <;> conv => whnf) | exact clG _ | (refine gand ?_ h; assumption) | fail
       refine parkE (fun hc => ?_) (fun hc => ?_)
       ·replace r38 := condT hc r38
        conv => whnf
        have e := Option.some.inj r38
        subst e
        repeat' first | exact rA _ | exact clA _ | (refine And.intro ?_ ?_ <;> conv => whnf) | exact clG _ | (refine gand ?_ h; assumption) | exact clN _ | fail
       ·replace r38 := condF hc r38
        conv => whnf
        repeat' first | exact rA _ | refine parkI ?_ | exact clA _ | (refine And.intro ?_ ?_ <;> conv => whnf) | exact clG _ | (refine gand ?_ h; assumption) | fail
        refine parkE (fun hc => ?_) (fun hc => ?_)
        ·replace r38 := condT hc r38
         conv => whnf
         have e := Option.some.inj r38
         subst e
         repeat' first | exact rA _ | exact clA _ | (refine And.intro ?_ ?_ <;> conv => whnf) | exact clG _ | (refine gand ?_ h; assumption) | exact clN _ | fail
        ·replace r38 := condF hc r38
         conv => whnf
         replace r38 := bindS r38
         obtain ⟨y34, hy34, r38⟩ := r38
         have c35 := c_ref16_Own y1 a2 _ hy34
         have e := Option.some.inj r38
         subst e
         repeat' first | exact rA _ | (refine CallP.use c35 ?_; conv => whnf) | exact clA _ | (refine And.intro ?_ ?_ <;> conv => whnf) | exact clG _ | (refine gand ?_ h; assumption) | exact clN _ | fail
    ·unfold law16_TreeTells_c0 at b38
     have hd : decide (((k38 : Nat) : Int) < (((y15.map (roC 1 iC)).length : Nat) : Int)) = true := by rw [decide_eq_true_eq]; (try simp only [se_len, se_ch, List.length_map] at hk38); (try simp only [se_len, se_ch, List.length_map]); omega
     refine LoopW.round TT_ok [0, 1, 2, 3, 6, 7, 8, 9, 10, 11, 12, 13, 14, 15, 16, 17, 18, 19, 20, 21, 22, 23, 24, 53, 122, 123, 124, 125, 126, 137, 138, 139, 140, 141, 158, 169, 179, 198, 206] ?_
     conv => whnf
     repeat' first | exact rA _ | refine parkI ?_ | (refine And.intro ?_ ?_ <;> conv => whnf) | fail
     refine parkE (fun hc => ?_) (fun hc => ?_)
     ·clear hd
      conv => whnf
      replace b38 := bindS b38
      obtain ⟨v21, hv21, b38⟩ := b38
      have i22 := gixF (f := (roC 1 bC)) hv21
      repeat' first | exact rA _ | refine parkI ?_ | (refine ⟨_, (kixF (f := (roC 1 iC)) hx38), ?_⟩; conv => whnf) | (refine ⟨_, i22, ?_⟩; conv => whnf) | (refine And.intro ?_ ?_ <;> conv => whnf) | fail
      refine parkE (fun hc => ?_) (fun hc => ?_)
      ·replace b38 := condT (by first | exact hc | (simpa only [se_len, se_ch, List.length_map] using hc; done) | (have h0 : (!decide ((((v21.map bC).length : Nat) : Int) = (((x38.map iC).length : Nat) : Int))) = true := hc; simpa only [se_len, se_ch, List.length_map] using h0)) b38
       conv => whnf
       have e := Option.some.inj b38
       replace e := hret38 _ e.symm
       rw [e] at r38
       replace e := Option.some.inj r38
       subst e
       repeat' first | exact rA _ | exact clA _ | (refine And.intro ?_ ?_ <;> conv => whnf) | exact clG _ | (refine gand ?_ h; assumption) | exact clN _ | fail
      ·replace b38 := condF (by first | exact hc | (simpa only [se_len, se_ch, List.length_map] using hc; done) | (have h0 : (!decide ((((v21.map bC).length : Nat) : Int) = (((x38.map iC).length : Nat) : Int))) = false := hc; simpa only [se_len, se_ch, List.length_map] using h0)) b38
       conv => whnf
       repeat' first | exact rA _ | refine parkI ?_ | (refine And.intro ?_ ?_ <;> conv => whnf) | fail
       replace b38 := aftS b38
       obtain ⟨O39, hO39, r39⟩ := b38
       refine LoopW.norm [(1, (I a1)), (2, (I a2)), (3, (LV.ptr 0 0 0)), (7, (I y3.1)), (8, (I y3.2.1)), (9, (I y3.2.2)), (12, (LV.ptr 1 0 0)), (13, (LV.bool y7.2.1)), (14, (I y7.2.2)), (15, (LV.ro 1 (y9.1.map (roC 1 bC)))), (18, (I ((k38 : Nat) : Int))), (123, (LV.ro 1 (y15.map (roC 1 iC)))), (124, (I (((y15.map (roC 1 iC)).length : Nat) : Int))), (125, (I ((k38 : Nat) : Int))), (138, (LV.ro 1 (x38.map iC))), (139, (I (((x38.map iC).length : Nat) : Int))), (140, (I ((0 : Nat) : Int)))] 2 [(0, (.row 25 3 [[(I y1.Segs), (LV.ro 2 (y1.Plans.map PlanT.cells)), (LV.ro 2 (y1.Hosts.map HostT.cells))]])), (1, (.row 41 2 [[(I y7.1.c0), (I y7.1.c1)]]))] ⟨rfl, rfl, rfl, rfl, rfl, rfl, rfl, rfl, rfl, rfl, rfl, rfl, rfl, rfl, rfl, rfl, rfl, trivial⟩ ⟨⟨rfl, rfl, blT⟩, ⟨⟨rfl, rfl, blT⟩, trivial⟩⟩ blT rfl ?_
       refine LoopW.forR (fun k39 s39 => [(1, (I a1)), (2, (I a2)), (3, (LV.ptr 0 0 0)), (7, (I y3.1)), (8, (I y3.2.1)), (9, (I y3.2.2)), (12, (LV.ptr 1 0 0)), (13, (LV.bool y7.2.1)), (14, (I y7.2.2)), (15, (LV.ro 1 (y9.1.map (roC 1 bC)))), (18, (I ((k38 : Nat) : Int))), (123, (LV.ro 1 (y15.map (roC 1 iC)))), (124, (I (((y15.map (roC 1 iC)).length : Nat) : Int))), (125, (I ((k38 : Nat) : Int))), (138, (LV.ro 1 (x38.map iC))), (139, (I (((x38.map iC).length : Nat) : Int))), (140, (I ((k39 : Nat) : Int)))]) (fun s39 => ⟨2, [(0, (.row 25 3 [[(I y1.Segs), (LV.ro 2 (y1.Plans.map PlanT.cells)), (LV.ro 2 (y1.Hosts.map HostT.cells))]])), (1, (.row 41 2 [[(I y7.1.c0), (I y7.1.c1)]]))]⟩) hO39 (fun hl39 s39 hs39 => ?_) (fun hl39 k39 x39 s39 o39 hk39 hx39 b39 K39 hret39 hbrk39 => ?_)
       ·rw [hs39] at r39
        dsimp only [aftM] at r39
        have hd : decide (((x38.length : Nat) : Int) < (((x38.map iC).length : Nat) : Int)) = false := by rw [decide_eq_false_iff_not]; (try simp only [se_len, se_ch, List.length_map]); omega
        refine LoopW.round TT_ok [0, 1, 2, 3, 6, 7, 8, 9, 10, 11, 12, 13, 14, 15, 16, 17, 18, 19, 20, 21, 22, 23, 24, 53, 122, 123, 124, 125, 126, 137, 138, 139, 140, 141, 158, 169, 179, 198, 206] ?_
        conv => whnf
        repeat' first | exact rA _ | refine parkI ?_ | (refine And.intro ?_ ?_ <;> conv => whnf) | fail
        refine parkE (fun hc => ?_) (fun hc => ?_)
        ·exact (Bool.false_ne_true (hd.symm.trans hc)).elim
        ·clear hd
         conv => whnf
         repeat' first | exact rA _ | refine parkI ?_ | (refine And.intro ?_ ?_ <;> conv => whnf) | fail
         have e := Option.some.inj r39
         refine LoopW.norm [(1, (I a1)), (2, (I a2)), (3, (LV.ptr 0 0 0)), (7, (I y3.1)), (8, (I y3.2.1)), (9, (I y3.2.2)), (12, (LV.ptr 1 0 0)), (13, (LV.bool y7.2.1)), (14, (I y7.2.2)), (15, (LV.ro 1 (y9.1.map (roC 1 bC)))), (123, (LV.ro 1 (y15.map (roC 1 iC)))), (124, (I (((y15.map (roC 1 iC)).length : Nat) : Int))), (125, (I ((k38 + 1 : Nat) : Int)))] 2 [(0, (.row 25 3 [[(I y1.Segs), (LV.ro 2 (y1.Plans.map PlanT.cells)), (LV.ro 2 (y1.Hosts.map HostT.cells))]])), (1, (.row 41 2 [[(I y7.1.c0), (I y7.1.c1)]]))] ⟨rfl, rfl, rfl, rfl, rfl, rfl, rfl, rfl, rfl, rfl, rfl, rfl, (congrArg (LV.int .i64) (w64_nat _ (by omega))), trivial⟩ ⟨⟨rfl, rfl, blT⟩, ⟨⟨rfl, rfl, blT⟩, trivial⟩⟩ blT rfl (K38 _ e.symm)
       ·unfold law16_TreeTells_c1 at b39
        have hd : decide (((k39 : Nat) : Int) < (((x38.map iC).length : Nat) : Int)) = true := by rw [decide_eq_true_eq]; (try simp only [se_len, se_ch, List.length_map] at hk39); (try simp only [se_len, se_ch, List.length_map]); omega
        refine LoopW.round TT_ok [0, 1, 2, 3, 6, 7, 8, 9, 10, 11, 12, 13, 14, 15, 16, 17, 18, 19, 20, 21, 22, 23, 24, 53, 122, 123, 124, 125, 126, 137, 138, 139, 140, 141, 158, 169, 179, 198, 206] ?_
        conv => whnf
        repeat' first | exact rA _ | refine parkI ?_ | (refine And.intro ?_ ?_ <;> conv => whnf) | fail
        refine parkE (fun hc => ?_) (fun hc => ?_)
        ·clear hd
         conv => whnf
         replace b39 := bindS b39
         obtain ⟨v23, hv23, b39⟩ := b39
         have i24 := gixF (f := (roC 1 bC)) hv23
         replace b39 := bindS b39
         obtain ⟨v25, hv25, b39⟩ := b39
         have i26 := gixF (f := bC) hv25
         repeat' first | exact rA _ | refine parkI ?_ | (refine ⟨_, (kixF (f := iC) hx39), ?_⟩; conv => whnf) | (refine ⟨_, i24, ?_⟩; conv => whnf) | (refine ⟨_, i26, ?_⟩; conv => whnf) | exact clA _ | (refine And.intro ?_ ?_ <;> conv => whnf) | exact clG _ | (refine gand ?_ h; assumption) | fail
         refine parkE (fun hc => ?_) (fun hc => ?_)
         ·replace b39 := condT hc b39
          conv => whnf
          have e := Option.some.inj b39
          replace e := hret39 _ e.symm
          rw [e] at r39
          replace e := Option.some.inj r39
          replace e := hret38 _ e.symm
          rw [e] at r38
          replace e := Option.some.inj r38
          subst e
          repeat' first | exact rA _ | exact clA _ | (refine And.intro ?_ ?_ <;> conv => whnf) | exact clG _ | (refine gand ?_ h; assumption) | exact clN _ | fail
         ·replace b39 := condF hc b39
          conv => whnf
          repeat' first | exact rA _ | refine parkI ?_ | (refine And.intro ?_ ?_ <;> conv => whnf) | fail
          have e := Option.some.inj b39
          refine LoopW.norm [(1, (I a1)), (2, (I a2)), (3, (LV.ptr 0 0 0)), (7, (I y3.1)), (8, (I y3.2.1)), (9, (I y3.2.2)), (12, (LV.ptr 1 0 0)), (13, (LV.bool y7.2.1)), (14, (I y7.2.2)), (15, (LV.ro 1 (y9.1.map (roC 1 bC)))), (18, (I ((k38 : Nat) : Int))), (123, (LV.ro 1 (y15.map (roC 1 iC)))), (124, (I (((y15.map (roC 1 iC)).length : Nat) : Int))), (125, (I ((k38 : Nat) : Int))), (138, (LV.ro 1 (x38.map iC))), (139, (I (((x38.map iC).length : Nat) : Int))), (140, (I ((k39 + 1 : Nat) : Int)))] 2 [(0, (.row 25 3 [[(I y1.Segs), (LV.ro 2 (y1.Plans.map PlanT.cells)), (LV.ro 2 (y1.Hosts.map HostT.cells))]])), (1, (.row 41 2 [[(I y7.1.c0), (I y7.1.c1)]]))] ⟨rfl, rfl, rfl, rfl, rfl, rfl, rfl, rfl, rfl, rfl, rfl, rfl, rfl, rfl, rfl, rfl, (congrArg (LV.int .i64) (w64_nat _ (by omega))), trivial⟩ ⟨⟨rfl, rfl, blT⟩, ⟨⟨rfl, rfl, blT⟩, trivial⟩⟩ blT rfl (K39 _ e.symm)
        ·exact (Bool.false_ne_true (hc.symm.trans hd)).elim
     ·exact (Bool.false_ne_true (hc.symm.trans hd)).elim
  ·replace h := condF (by first | exact hg1_ | simpa only [se_len, se_ch, List.length_map] using hg1_) h
   conv => whnf
   replace h := bindS h
   obtain ⟨y17, hy17, h⟩ := h
   have c18 := fun (hg : (!(bif true then true else (!decide ((((y9.1.map (roC 1 bC)).length : Nat) : Int) = (((y15.map (roC 1 iC)).length : Nat) : Int))))) = true) => c_law16_alive  _ (gdS (show (!(bif true then true else (!decide (((y9.1.length : Nat) : Int) = ((y15.length : Nat) : Int))))) = true by simpa only [se_len, se_ch, List.length_map] using hg) hy17)
   repeat' first | exact rA _ | refine parkI ?_ | (refine ⟨_, c18, ?_⟩; conv => whnf) | exact (by first | exact hg1_ | simpa using hg1_ : _ = false) | exact (Bool.of_not_eq_false (fun q => by rw [q] at hg1_; cases hg1_)) | (refine ⟨?_, True.intro⟩; first | exact hg1_ | exact (Bool.of_not_eq_false (fun q => by rw [q] at hg1_; cases hg1_))) | exact clA _ | (refine And.intro ?_ ?_ <;> conv => whnf) | exact clG _ | (refine gand ?_ h; assumption) | (intro hq_; conv => whnf) | fail
   refine parkE (fun hc => ?_) (fun hc => ?_)
   ·replace h := condT (by first | exact hc | (simpa only [se_len, se_ch, List.length_map] using hc; done) | (have h0 : (bif (bif true then true else (!decide ((((y9.1.map (roC 1 bC)).length : Nat) : Int) = (((y15.map (roC 1 iC)).length : Nat) : Int)))) then true else (!y17)) = true := hc; simpa only [se_len, se_ch, List.length_map] using h0)) h
    conv => whnf
    have e := Option.some.inj h
    subst e
    repeat' first | exact rA _ | exact clA _ | (refine And.intro ?_ ?_ <;> conv => whnf) | exact clG _ | (refine gand ?_ h; assumption) | exact clN _ | (intro hq_; conv => whnf) | fail
   ·replace h := condF (by first | exact hc | (simpa only [se_len, se_ch, List.length_map] using hc; done) | (have h0 : (bif (bif true then true else (!decide ((((y9.1.map (roC 1 bC)).length : Nat) : Int) = (((y15.map (roC 1 iC)).length : Nat) : Int)))) then true else (!y17)) = false := hc; simpa only [se_len, se_ch, List.length_map] using h0)) h
    conv => whnf
    repeat' first | exact rA _ | refine parkI ?_ | (refine And.intro ?_ ?_ <;> conv => whnf) | (intro hq_; conv => whnf) | fail
    replace h := aftS h
    obtain ⟨O41, hO41, r41⟩ := h
    refine LoopW.norm [(1, (I a1)), (2, (I a2)), (3, (LV.ptr 0 0 0)), (7, (I y3.1)), (8, (I y3.2.1)), (9, (I y3.2.2)), (12, (LV.ptr 1 0 0)), (13, (LV.bool y7.2.1)), (14, (I y7.2.2)), (15, (LV.ro 1 (y9.1.map (roC 1 bC)))), (123, (LV.sl 2 0 (y15.map (roC 1 iC)).length)), (124, (I (((y15.map (roC 1 iC)).length : Nat) : Int))), (125, (I ((0 : Nat) : Int)))] 3 [(0, (.row 25 3 [[(I y1.Segs), (LV.ro 2 (y1.Plans.map PlanT.cells)), (LV.ro 2 (y1.Hosts.map HostT.cells))]])), (1, (.row 41 2 [[(I y7.1.c0), (I y7.1.c1)]])), (2, (.row 47 1 (y15.map (roC 1 iC))))] ⟨rfl, rfl, rfl, rfl, rfl, rfl, rfl, rfl, rfl, rfl, rfl, rfl, rfl, trivial⟩ ⟨⟨rfl, rfl, blT⟩, ⟨⟨rfl, rfl, blT⟩, ⟨⟨rfl, rfl, NLss_bel (NLss_map' _)⟩, trivial⟩⟩⟩ blT rfl ?_
    refine LoopW.forN (fun k41 s41 => [(1, (I a1)), (2, (I a2)), (3, (LV.ptr 0 0 0)), (7, (I y3.1)), (8, (I y3.2.1)), (9, (I y3.2.2)), (12, (LV.ptr 1 0 0)), (13, (LV.bool y7.2.1)), (14, (I y7.2.2)), (15, (LV.ro 1 (y9.1.map (roC 1 bC)))), (123, (LV.sl 2 0 (y15.map (roC 1 iC)).length)), (124, (I (((y15.map (roC 1 iC)).length : Nat) : Int))), (125, (I ((k41 : Nat) : Int)))]) (fun s41 => ⟨3, [(0, (.row 25 3 [[(I y1.Segs), (LV.ro 2 (y1.Plans.map PlanT.cells)), (LV.ro 2 (y1.Hosts.map HostT.cells))]])), (1, (.row 41 2 [[(I y7.1.c0), (I y7.1.c1)]])), (2, (.row 47 1 (y15.map (roC 1 iC))))]⟩) hO41 (fun hl41 s41 hs41 => ?_) (fun hl41 k41 s41 o41 hk41 b41 K41 hret41 hbrk41 => ?_)
    ·rw [hs41] at r41
     dsimp only [aftM] at r41
     have hd : decide ((((((y15.length : Nat) : Int) : Int).toNat : Nat) : Int) < (((y15.map (roC 1 iC)).length : Nat) : Int)) = false := by rw [decide_eq_false_iff_not]; (try simp only [se_len, se_ch, List.length_map]); omega
     refine LoopW.round TT_ok [0, 1, 2, 3, 6, 7, 8, 9, 10, 11, 12, 13, 14, 15, 16, 17, 18, 19, 20, 21, 22, 23, 24, 53, 122, 123, 124, 125, 126, 137, 138, 139, 140, 141, 158, 169, 179, 198, 206] ?_
     conv => whnf
     repeat' first | exact rA _ | refine parkI ?_ | (refine And.intro ?_ ?_ <;> conv => whnf) | fail
     refine parkE (fun hc => ?_) (fun hc => ?_)
     ·exact (Bool.false_ne_true (hd.symm.trans hc)).elim
     ·clear hd
      conv => whnf
      repeat' first | exact rA _ | refine parkI ?_ | exact clA _ | (refine And.intro ?_ ?_ <;> conv => whnf) | exact clG _ | (refine gand ?_ h; assumption) | fail
    ·unfold law16_TreeTells_c2 at b41
     have hd : decide (((k41 : Nat) : Int) < (((y15.map (roC 1 iC)).length : Nat) : Int)) = true := by rw [decide_eq_true_eq]; (try simp only [se_len, se_ch, List.length_map] at hk41); (try simp only [se_len, se_ch, List.length_map]); omega
     refine LoopW.round TT_ok [0, 1, 2, 3, 6, 7, 8, 9, 10, 11, 12, 13, 14, 15, 16, 17, 18, 19, 20, 21, 22, 23, 24, 53, 122, 123, 124, 125, 126, 137, 138, 139, 140, 141, 158, 169, 179, 198, 206] ?_
     conv => whnf
     repeat' first | exact rA _ | refine parkI ?_ | (refine And.intro ?_ ?_ <;> conv => whnf) | fail
     refine parkE (fun hc => ?_) (fun hc => ?_)
     ·clear hd
      conv => whnf
      replace b41 := grdS b41
      obtain ⟨g19, b41⟩ := b41
      replace g19 : (0 : Int) ≤ ((k41 : Nat) : Int) ∧ ((k41 : Nat) : Int) < (((y15.map (roC 1 iC)).length : Nat) : Int) := by simpa only [se_len, se_ch, List.length_map] using g19
      replace b41 := bindS b41
      obtain ⟨v20, hv20, b41⟩ := b41
      have i21 : nth (y15.map (roC 1 iC)) (0 + ((((k41 : Nat) : Int) : Int).toNat)) = some [(LV.ro 1 (v20.map iC))] := by simpa only [se_map, se_len, se_ch, List.length_map, nth_eq, Nat.zero_add, List.getElem?_map] using gixNF (f := (roC 1 iC)) hv20
      replace b41 := bindS b41
      obtain ⟨v22, hv22, b41⟩ := b41
      have i23 := gixF (f := (roC 1 bC)) hv22
      repeat' first | exact rA _ | refine parkI ?_ | (refine ⟨_, i23, ?_⟩; conv => whnf) | exact g19 | (rw [i21]; conv => whnf) | (refine And.intro ?_ ?_ <;> conv => whnf) | fail
      refine parkE (fun hc => ?_) (fun hc => ?_)
      ·replace b41 := condT (by first | exact hc | (simpa only [se_len, se_ch, List.length_map] using hc; done) | (have h0 : (!decide ((((v22.map bC).length : Nat) : Int) = (((v20.map iC).length : Nat) : Int))) = true := hc; simpa only [se_len, se_ch, List.length_map] using h0)) b41
       conv => whnf
       have e := Option.some.inj b41
       replace e := hret41 _ e.symm
       rw [e] at r41
       replace e := Option.some.inj r41
       subst e
       repeat' first | exact rA _ | exact clA _ | (refine And.intro ?_ ?_ <;> conv => whnf) | exact clG _ | (refine gand ?_ h; assumption) | exact clN _ | fail
      ·replace b41 := condF (by first | exact hc | (simpa only [se_len, se_ch, List.length_map] using hc; done) | (have h0 : (!decide ((((v22.map bC).length : Nat) : Int) = (((v20.map iC).length : Nat) : Int))) = false := hc; simpa only [se_len, se_ch, List.length_map] using h0)) b41
       conv => whnf
       repeat' first | exact rA _ | refine parkI ?_ | (refine And.intro ?_ ?_ <;> conv => whnf) | fail
       replace b41 := aftS b41
       obtain ⟨O42, hO42, r42⟩ := b41
       refine LoopW.norm [(1, (I a1)), (2, (I a2)), (3, (LV.ptr 0 0 0)), (7, (I y3.1)), (8, (I y3.2.1)), (9, (I y3.2.2)), (12, (LV.ptr 1 0 0)), (13, (LV.bool y7.2.1)), (14, (I y7.2.2)), (15, (LV.ro 1 (y9.1.map (roC 1 bC)))), (18, (I ((k41 : Nat) : Int))), (123, (LV.sl 2 0 (y15.map (roC 1 iC)).length)), (124, (I (((y15.map (roC 1 iC)).length : Nat) : Int))), (125, (I ((k41 : Nat) : Int))), (138, (LV.ro 1 (v20.map iC))), (139, (I (((v20.map iC).length : Nat) : Int))), (140, (I ((0 : Nat) : Int)))] 3 [(0, (.row 25 3 [[(I y1.Segs), (LV.ro 2 (y1.Plans.map PlanT.cells)), (LV.ro 2 (y1.Hosts.map HostT.cells))]])), (1, (.row 41 2 [[(I y7.1.c0), (I y7.1.c1)]])), (2, (.row 47 1 (y15.map (roC 1 iC))))] ⟨rfl, rfl, rfl, rfl, rfl, rfl, rfl, rfl, rfl, rfl, rfl, rfl, rfl, rfl, rfl, rfl, rfl, trivial⟩ ⟨⟨rfl, rfl, blT⟩, ⟨⟨rfl, rfl, blT⟩, ⟨⟨rfl, rfl, NLss_bel (NLss_map' _)⟩, trivial⟩⟩⟩ blT rfl ?_
       refine LoopW.forR (fun k42 s42 => [(1, (I a1)), (2, (I a2)), (3, (LV.ptr 0 0 0)), (7, (I y3.1)), (8, (I y3.2.1)), (9, (I y3.2.2)), (12, (LV.ptr 1 0 0)), (13, (LV.bool y7.2.1)), (14, (I y7.2.2)), (15, (LV.ro 1 (y9.1.map (roC 1 bC)))), (18, (I ((k41 : Nat) : Int))), (123, (LV.sl 2 0 (y15.map (roC 1 iC)).length)), (124, (I (((y15.map (roC 1 iC)).length : Nat) : Int))), (125, (I ((k41 : Nat) : Int))), (138, (LV.ro 1 (v20.map iC))), (139, (I (((v20.map iC).length : Nat) : Int))), (140, (I ((k42 : Nat) : Int)))]) (fun s42 => ⟨3, [(0, (.row 25 3 [[(I y1.Segs), (LV.ro 2 (y1.Plans.map PlanT.cells)), (LV.ro 2 (y1.Hosts.map HostT.cells))]])), (1, (.row 41 2 [[(I y7.1.c0), (I y7.1.c1)]])), (2, (.row 47 1 (y15.map (roC 1 iC))))]⟩) hO42 (fun hl42 s42 hs42 => ?_) (fun hl42 k42 x42 s42 o42 hk42 hx42 b42 K42 hret42 hbrk42 => ?_)
       ·rw [hs42] at r42
        dsimp only [aftM] at r42
        have hd : decide (((v20.length : Nat) : Int) < (((v20.map iC).length : Nat) : Int)) = false := by rw [decide_eq_false_iff_not]; (try simp only [se_len, se_ch, List.length_map]); omega
        refine LoopW.round TT_ok [0, 1, 2, 3, 6, 7, 8, 9, 10, 11, 12, 13, 14, 15, 16, 17, 18, 19, 20, 21, 22, 23, 24, 53, 122, 123, 124, 125, 126, 137, 138, 139, 140, 141, 158, 169, 179, 198, 206] ?_
        conv => whnf
        repeat' first | exact rA _ | refine parkI ?_ | (refine And.intro ?_ ?_ <;> conv => whnf) | fail
        refine parkE (fun hc => ?_) (fun hc => ?_)
        ·exact (Bool.false_ne_true (hd.symm.trans hc)).elim
        ·clear hd
         conv => whnf
         repeat' first | exact rA _ | refine parkI ?_ | (refine And.intro ?_ ?_ <;> conv => whnf) | fail
         have e := Option.some.inj r42
         refine LoopW.norm [(1, (I a1)), (2, (I a2)), (3, (LV.ptr 0 0 0)), (7, (I y3.1)), (8, (I y3.2.1)), (9, (I y3.2.2)), (12, (LV.ptr 1 0 0)), (13, (LV.bool y7.2.1)), (14, (I y7.2.2)), (15, (LV.ro 1 (y9.1.map (roC 1 bC)))), (123, (LV.sl 2 0 (y15.map (roC 1 iC)).length)), (124, (I (((y15.map (roC 1 iC)).length : Nat) : Int))), (125, (I ((k41 + 1 : Nat) : Int)))] 3 [(0, (.row 25 3 [[(I y1.Segs), (LV.ro 2 (y1.Plans.map PlanT.cells)), (LV.ro 2 (y1.Hosts.map HostT.cells))]])), (1, (.row 41 2 [[(I y7.1.c0), (I y7.1.c1)]])), (2, (.row 47 1 (y15.map (roC 1 iC))))] ⟨rfl, rfl, rfl, rfl, rfl, rfl, rfl, rfl, rfl, rfl, rfl, rfl, (congrArg (LV.int .i64) (w64_nat _ (by omega))), trivial⟩ ⟨⟨rfl, rfl, blT⟩, ⟨⟨rfl, rfl, blT⟩, ⟨⟨rfl, rfl, NLss_bel (NLss_map' _)⟩, trivial⟩⟩⟩ blT rfl (K41 _ e.symm)
       ·unfold law16_TreeTells_c3 at b42
        have hd : decide (((k42 : Nat) : Int) < (((v20.map iC).length : Nat) : Int)) = true := by rw [decide_eq_true_eq]; (try simp only [se_len, se_ch, List.length_map] at hk42); (try simp only [se_len, se_ch, List.length_map]); omega
        refine LoopW.round TT_ok [0, 1, 2, 3, 6, 7, 8, 9, 10, 11, 12, 13, 14, 15, 16, 17, 18, 19, 20, 21, 22, 23, 24, 53, 122, 123, 124, 125, 126, 137, 138, 139, 140, 141, 158, 169, 179, 198, 206] ?_
        conv => whnf
        repeat' first | exact rA _ | refine parkI ?_ | (refine And.intro ?_ ?_ <;> conv => whnf) | fail
        refine parkE (fun hc => ?_) (fun hc => ?_)
        ·clear hd
         conv => whnf
         replace b42 := bindS b42
         obtain ⟨v24, hv24, b42⟩ := b42
         have i25 := gixF (f := (roC 1 bC)) hv24
         replace b42 := bindS b42
         obtain ⟨v26, hv26, b42⟩ := b42
         have i27 := gixF (f := bC) hv26
         repeat' first | exact rA _ | refine parkI ?_ | (refine ⟨_, (kixF (f := iC) hx42), ?_⟩; conv => whnf) | (refine ⟨_, i25, ?_⟩; conv => whnf) | (refine ⟨_, i27, ?_⟩; conv => whnf) | exact clA _ | (refine And.intro ?_ ?_ <;> conv => whnf) | exact clG _ | (refine gand ?_ h; assumption) | fail
        ·exact (Bool.false_ne_true (hc.symm.trans hd)).elim
     ·exact (Bool.false_ne_true (hc.symm.trans hd)).elim

end Go.RX
