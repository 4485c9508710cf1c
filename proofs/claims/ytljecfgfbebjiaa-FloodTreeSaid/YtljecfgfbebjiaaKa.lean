/- Plain functions, and what says that the program's functions compute them. -/
import Derived.Test.YtljecfgfbebjiaaSeb
import Derived.Test.YtljecfgfbebjiaaRXE
set_option linter.unusedVariables false
set_option linter.unusedSimpArgs false
open Go Go.RX Go.Proofs
namespace Go.RX
set_option maxRecDepth 10000
set_option maxHeartbeats 4000000
attribute [local irreducible] CallW CallP LoopW W IntKind.wrap bitI
def lan_in (a0 : Int) (a1 : Int) (a2 : Int) : Option Bool :=
 some (bif (decide (a1 ≤ a0)) then (decide (a0 ≤ a2)) else false)

theorem c_lan_in (a0 : Int) (a1 : Int) (a2 : Int) (r : Bool) (h : lan_in a0 a1 a2 = some r) : CallP Try.prog 53 [(I a0), (I a1), (I a2)] (LV.bool r) := by
 unfold lan_in at h
 refine .intro nlA (.intro TT_ok Try.func53 rfl rfl [0, 1, 2, 6] rfl ?_)
 conv => whnf
 have e := Option.some.inj h
 subst e
 repeat' first | exact rA _ | exact clA _ | (refine And.intro ?_ ?_ <;> conv => whnf) | exact clG _ | (refine gand ?_ h; assumption) | exact clN _ | fail

theorem ke_3 (a b : Int) : eqL TT 8 3 (I a) (I b) = some (decide (a = b)) := rfl

def slices_IndexFunc_Link_c0 (q1 : (LinkT → Option Bool)) (k2 : Nat) (x2 : LinkT) (s2 : Unit) : Option (Step Int Unit) :=
 (q1 x2).bind fun y7 =>
 (bif y7 then
  some (.ret ((k2 : Nat) : Int))
 else
  some (.nxt ()))

def slices_IndexFunc_Link (a0 : (List LinkT)) (q1 : (LinkT → Option Bool)) : Option Int :=
 aft (rangeL (slices_IndexFunc_Link_c0 q1) a0 ()) fun s2 =>
 some (-1)

theorem c_slices_IndexFunc_Link (a0 : (List LinkT)) (fn1 : Nat) (ff1 fc1 : List LV) (q1 : (LinkT → Option Bool)) (hq1 : ∀ (x0 : LinkT) (r : Bool), q1 x0 = some r → CallP Try.prog fn1 (ff1 ++ [(LV.agg [(I x0.Seg), (I x0.Cost), (LV.bool x0.Up)])] ++ fc1) (LV.bool r)) (hn1 : NLs ff1 ∧ NLs fc1) (r : Int) (h : slices_IndexFunc_Link a0 q1 = some r) : CallP Try.prog 88 [(LV.ro 3 (a0.map LinkT.cells)), (LV.func (.func fn1) ff1 fc1)] (I r) := by
 have hnA1 := hn1.1
 have hnB1 := hn1.2
 unfold slices_IndexFunc_Link at h
 refine .intro nlA (.intro TT_ok Try.func88 rfl rfl [0, 1, 4, 5, 7, 8, 9, 16] rfl ?_)
 conv => whnf
 repeat' first | exact rA _ | refine parkI ?_ | (refine And.intro ?_ ?_ <;> conv => whnf) | fail
 replace h := aftS h
 obtain ⟨O2, hO2, r2⟩ := h
 refine LoopW.norm [(0, (LV.ro 3 (a0.map LinkT.cells))), (1, (LV.func (.func fn1) ff1 fc1)), (7, (I (((a0.map LinkT.cells).length : Nat) : Int))), (8, (I ((0 : Nat) : Int)))] 0 [] ⟨rfl, rfl, rfl, rfl, trivial⟩ trivial blT rfl ?_
 refine LoopW.forR (fun k2 s2 => [(0, (LV.ro 3 (a0.map LinkT.cells))), (1, (LV.func (.func fn1) ff1 fc1)), (7, (I (((a0.map LinkT.cells).length : Nat) : Int))), (8, (I ((k2 : Nat) : Int)))]) (fun s2 => ⟨0, []⟩) hO2 (fun hl2 s2 hs2 => ?_) (fun hl2 k2 x2 s2 o2 hk2 hx2 b2 K2 hret2 hbrk2 => ?_)
 ·rw [hs2] at r2
  dsimp only [aftM] at r2
  have hd : decide (((a0.length : Nat) : Int) < (((a0.map LinkT.cells).length : Nat) : Int)) = false := by rw [decide_eq_false_iff_not]; (try simp only [se_len, se_ch, List.length_map]); omega
  refine LoopW.round TT_ok [0, 1, 4, 5, 7, 8, 9, 16] ?_
  conv => whnf
  repeat' first | exact rA _ | refine parkI ?_ | (refine And.intro ?_ ?_ <;> conv => whnf) | fail
  refine parkE (fun hc => ?_) (fun hc => ?_)
  ·exact (Bool.false_ne_true (hd.symm.trans hc)).elim
  ·clear hd
   conv => whnf
   have e := Option.some.inj r2
   subst e
   repeat' first | exact rA _ | exact clA _ | (refine And.intro ?_ ?_ <;> conv => whnf) | exact clG _ | (refine gand ?_ h; assumption) | exact clN _ | fail
 ·unfold slices_IndexFunc_Link_c0 at b2
  have hd : decide (((k2 : Nat) : Int) < (((a0.map LinkT.cells).length : Nat) : Int)) = true := by rw [decide_eq_true_eq]; (try simp only [se_len, se_ch, List.length_map] at hk2); (try simp only [se_len, se_ch, List.length_map]); omega
  refine LoopW.round TT_ok [0, 1, 4, 5, 7, 8, 9, 16] ?_
  conv => whnf
  repeat' first | exact rA _ | refine parkI ?_ | (refine And.intro ?_ ?_ <;> conv => whnf) | fail
  refine parkE (fun hc => ?_) (fun hc => ?_)
  ·clear hd
   conv => whnf
   replace b2 := bindS b2
   obtain ⟨y7, hy7, b2⟩ := b2
   have c8 := hq1 x2 _ hy7
   repeat' first | exact rA _ | refine parkI ?_ | (refine ⟨_, (kixF (f := LinkT.cells) hx2), ?_⟩; conv => whnf) | (refine CallP.use c8 ?_; conv => whnf) | (refine frzB_call rfl (slN_nil hn1) ?_; conv => whnf) | (refine And.intro ?_ ?_ <;> conv => whnf) | fail
   refine parkE (fun hc => ?_) (fun hc => ?_)
   ·replace b2 := condT hc b2
    conv => whnf
    have e := Option.some.inj b2
    replace e := hret2 _ e.symm
    rw [e] at r2
    replace e := Option.some.inj r2
    subst e
    repeat' first | exact rA _ | exact clA _ | (refine And.intro ?_ ?_ <;> conv => whnf) | exact clG _ | (refine gand ?_ h; assumption) | exact clN _ | fail
   ·replace b2 := condF hc b2
    conv => whnf
    repeat' first | exact rA _ | refine parkI ?_ | (refine And.intro ?_ ?_ <;> conv => whnf) | fail
    have e := Option.some.inj b2
    refine LoopW.norm [(0, (LV.ro 3 (a0.map LinkT.cells))), (1, (LV.func (.func fn1) ff1 fc1)), (7, (I (((a0.map LinkT.cells).length : Nat) : Int))), (8, (I ((k2 + 1 : Nat) : Int)))] 0 [] ⟨rfl, rfl, rfl, (congrArg (LV.int .i64) (w64_nat _ (by omega))), trivial⟩ trivial blT rfl (K2 _ e.symm)
  ·exact (Bool.false_ne_true (hc.symm.trans hd)).elim

def slices_ContainsFunc_Link (a0 : (List LinkT)) (q1 : (LinkT → Option Bool)) : Option Bool :=
 (slices_IndexFunc_Link a0 q1).bind fun y8 =>
 some (decide (0 ≤ y8))

theorem c_slices_ContainsFunc_Link (a0 : (List LinkT)) (fn1 : Nat) (ff1 fc1 : List LV) (q1 : (LinkT → Option Bool)) (hq1 : ∀ (x0 : LinkT) (r : Bool), q1 x0 = some r → CallP Try.prog fn1 (ff1 ++ [(LV.agg [(I x0.Seg), (I x0.Cost), (LV.bool x0.Up)])] ++ fc1) (LV.bool r)) (hn1 : NLs ff1 ∧ NLs fc1) (r : Bool) (h : slices_ContainsFunc_Link a0 q1 = some r) : CallP Try.prog 72 [(LV.ro 3 (a0.map LinkT.cells)), (LV.func (.func fn1) ff1 fc1)] (LV.bool r) := by
 have hnA1 := hn1.1
 have hnB1 := hn1.2
 unfold slices_ContainsFunc_Link at h
 refine .intro nlA (.intro TT_ok Try.func72 rfl rfl [0, 1, 4] rfl ?_)
 conv => whnf
 have n7 : slNs [(LV.ro 3 (a0.map LinkT.cells)), (LV.func (.func fn1) ff1 fc1)] = [] := slNs_nil nlA
 replace h := bindS h
 obtain ⟨y8, hy8, h⟩ := h
 have c9 := c_slices_IndexFunc_Link a0 fn1 ff1 fc1 q1 hq1 hn1 _ hy8
 have e := Option.some.inj h
 subst e
 repeat' first | exact rA _ | (refine CallP.use c9 ?_; conv => whnf) | (refine frzB_call n7 rfl ?_; conv => whnf) | (refine frz_nil n7 ?_; conv => whnf) | exact clA _ | (refine And.intro ?_ ?_ <;> conv => whnf) | exact clG _ | (refine gand ?_ h; assumption) | exact clN _ | fail

def lan_isPlan_1 (a0 : LinkT) (q1 : Int) : Option Bool :=
 (lan_in a0.Seg 0 (IntKind.i64.wrap (q1 - 1))).bind fun y7 =>
 (gd (!(!y7)) (lan_in a0.Cost 1 1000)).bind fun y9 =>
 some (bif (!y7) then true else (!y9))

theorem c_lan_isPlan_1 (a0 : LinkT) (q1 : Int) (r : Bool) (h : lan_isPlan_1 a0 q1 = some r) : CallP Try.prog 78 [(LV.agg [(I a0.Seg), (I a0.Cost), (LV.bool a0.Up)]), (LV.rptr [(I q1)])] (LV.bool r) := by
 unfold lan_isPlan_1 at h
 refine .intro nlA (.intro TT_ok Try.func78 rfl rfl [0, 1, 2, 3] rfl ?_)
 conv => whnf
 replace h := bindS h
 obtain ⟨y7, hy7, h⟩ := h
 have c8 := c_lan_in a0.Seg 0 (IntKind.i64.wrap (q1 - 1)) _ hy7
 replace h := bindS h
 obtain ⟨y9, hy9, h⟩ := h
 have c10 := fun (hg : (!(!y7)) = true) => c_lan_in a0.Cost 1 1000 _ (gdS hg hy9)
 have e := Option.some.inj h
 subst e
 repeat' first | exact rA _ | (refine ⟨_, c10, ?_⟩; conv => whnf) | (refine CallP.use c8 ?_; conv => whnf) | exact clA _ | (refine And.intro ?_ ?_ <;> conv => whnf) | exact clG _ | (refine gand ?_ h; assumption) | exact clN _ | fail

def lan_isPlan (a0 : PlanT) (a1 : Int) : Option Bool :=
 (lan_in a0.ID 0 65535).bind fun y3 =>
 (gd y3 (lan_in ((a0.Ports.length : Nat) : Int) 1 8)).bind fun y5 =>
 (bif (bif y3 then y5 else false) then
  (slices_ContainsFunc_Link a0.Ports (fun x0_ => lan_isPlan_1 x0_ a1)).bind fun y7 =>
  some (bif (bif y3 then y5 else false) then (!y7) else false)
 else
  some false)

theorem c_lan_isPlan (a0 : PlanT) (a1 : Int) (r : Bool) (h : lan_isPlan a0 a1 = some r) : CallP Try.prog 54 [(LV.agg [(I a0.ID), (LV.ro 3 (a0.Ports.map LinkT.cells))]), (I a1)] (LV.bool r) := by
 unfold lan_isPlan at h
 refine .intro nlA (.intro TT_ok Try.func54 rfl rfl [0, 1, 2, 3, 4, 5] rfl ?_)
 conv => whnf
 replace h := bindS h
 obtain ⟨y3, hy3, h⟩ := h
 have c4 := c_lan_in a0.ID 0 65535 _ hy3
 replace h := bindS h
 obtain ⟨y5, hy5, h⟩ := h
 have c6 : y3 = true → CallP Try.prog 53 [(I (((a0.Ports.map LinkT.cells).length : Nat) : Int)), (I 1), (I 8)] (LV.bool y5) := by first | exact fun (hg : y3 = true) => c_lan_in ((a0.Ports.length : Nat) : Int) 1 8 _ (gdS hg hy5) | (simpa only [se_map, se_byL, se_len, se_ch, List.length_map] using fun (hg : y3 = true) => c_lan_in ((a0.Ports.length : Nat) : Int) 1 8 _ (gdS hg hy5))
 repeat' first | exact rA _ | refine parkI ?_ | (refine ⟨_, c6, ?_⟩; conv => whnf) | (refine CallP.use c4 ?_; conv => whnf) | exact clA _ | (refine And.intro ?_ ?_ <;> conv => whnf) | exact clG _ | (refine gand ?_ h; assumption) | fail
 refine parkE (fun hg1_ => ?_) (fun hg1_ => ?_)
 ·replace h := condT (by first | exact hg1_ | simpa only [se_len, se_ch, List.length_map] using hg1_) h
  conv => whnf
  replace h := bindS h
  obtain ⟨y7, hy7, h⟩ := h
  have c8 := c_slices_ContainsFunc_Link a0.Ports 78 [] [(LV.rptr [(I a1)])] (fun x0_ => lan_isPlan_1 x0_ a1) (fun x0_ r h => c_lan_isPlan_1 x0_ a1 r h) nlB _ hy7
  have e := Option.some.inj h
  subst e
  repeat' first | exact rA _ | (refine CallP.use c8 ?_; conv => whnf) | exact clA _ | (refine And.intro ?_ ?_ <;> conv => whnf) | exact clG _ | (refine gand ?_ h; assumption) | exact clN _ | (intro hq_; conv => whnf) | fail
 ·replace h := condF (by first | exact hg1_ | simpa only [se_len, se_ch, List.length_map] using hg1_) h
  conv => whnf
  have e := Option.some.inj h
  subst e
  repeat' first | exact rA _ | exact (by first | exact hg1_ | simpa using hg1_ : _ = false) | (refine ⟨?_, True.intro⟩; first | exact hg1_ | (simpa using hg1_; done)) | exact clA _ | (refine And.intro ?_ ?_ <;> conv => whnf) | exact clG _ | (refine gand ?_ h; assumption) | exact clN _ | (intro hq_; conv => whnf) | fail

def mac_Right (a0 : Int) : Option Bool :=
 some (bif (decide (0 ≤ a0)) then (decide (a0 ≤ 281474976710655)) else false)

theorem c_mac_Right (a0 : Int) (r : Bool) (h : mac_Right a0 = some r) : CallP Try.prog 79 [(I a0)] (LV.bool r) := by
 unfold mac_Right at h
 refine .intro nlA (.intro TT_ok Try.func79 rfl rfl [0, 2] rfl ?_)
 conv => whnf
 have e := Option.some.inj h
 subst e
 repeat' first | exact rA _ | exact clA _ | (refine And.intro ?_ ?_ <;> conv => whnf) | exact clG _ | (refine gand ?_ h; assumption) | exact clN _ | fail

def mac_Class (a0 : Int) : Option (Int × Int) :=
 (mac_Right a0).bind fun y6 =>
 (bif (!y6) then
  some (0, 1)
 else
  (bif (decide ((bitI .andNot IntKind.i64 a0 15) = 1652522221568)) then
   some (2, 0)
  else
   some ((bitI .and IntKind.i64 ((a0).fdiv (2 ^ (min (40 : Int).toNat 64))) 1), 0)))

theorem c_mac_Class (a0 : Int) (r : (Int × Int)) (h : mac_Class a0 = some r) : CallP Try.prog 55 [(I a0)] (LV.tup [(I r.1), (I r.2)]) := by
 unfold mac_Class at h
 refine .intro nlA (.intro TT_ok Try.func55 rfl rfl [0, 2, 3, 4, 8] rfl ?_)
 conv => whnf
 replace h := bindS h
 obtain ⟨y6, hy6, h⟩ := h
 have c7 := c_mac_Right a0 _ hy6
 repeat' first | exact rA _ | refine parkI ?_ | (refine CallP.use c7 ?_; conv => whnf) | (refine And.intro ?_ ?_ <;> conv => whnf) | fail
 refine parkE (fun hc => ?_) (fun hc => ?_)
 ·replace h := condT hc h
  conv => whnf
  have e := Option.some.inj h
  subst e
  repeat' first | exact rA _ | exact clA _ | (refine And.intro ?_ ?_ <;> conv => whnf) | exact clG _ | (refine gand ?_ h; assumption) | exact clN _ | fail
 ·replace h := condF hc h
  conv => whnf
  repeat' first | exact rA _ | refine parkI ?_ | (refine And.intro ?_ ?_ <;> conv => whnf) | fail
  refine parkE (fun hc => ?_) (fun hc => ?_)
  ·replace h := condT hc h
   conv => whnf
   have e := Option.some.inj h
   subst e
   repeat' first | exact rA _ | exact clA _ | (refine And.intro ?_ ?_ <;> conv => whnf) | exact clG _ | (refine gand ?_ h; assumption) | exact clN _ | fail
  ·replace h := condF hc h
   conv => whnf
   have e := Option.some.inj h
   subst e
   repeat' first | exact rA _ | exact (by decide : (0 : Int) ≤ 40) | exact clA _ | (refine And.intro ?_ ?_ <;> conv => whnf) | exact clG _ | (refine gand ?_ h; assumption) | exact clN _ | fail

def lan_Right_c0 (a0 : LanT) (k1 : Nat) (x1 : PlanT) (s1 : (List (Int × Int))) : Option (Step Bool (List (Int × Int))) :=
 (gd (!(decide (1 < (IntKind.i64.wrap ((mget s1 x1.ID 0) + 1))))) (lan_isPlan x1 a0.Segs)).bind fun y3 =>
 (bif (bif (decide (1 < (IntKind.i64.wrap ((mget s1 x1.ID 0) + 1)))) then true else (!y3)) then
  some (.ret false)
 else
  some (.nxt (mput s1 x1.ID (IntKind.i64.wrap ((mget s1 x1.ID 0) + 1)))))

def lan_Right_c1 (a0 : LanT) (k3 : Nat) (x3 : HostT) (s3 : (List (Int × Int))) : Option (Step Bool (List (Int × Int))) :=
 (mac_Class x3.Mac).bind fun y6 =>
 (gd (!(bif (bif (decide (1 < (IntKind.i64.wrap ((mget s3 x3.Mac 0) + 1)))) then true else (!decide (y6.2 = 0))) then true else (!decide (y6.1 = 0)))) (lan_in x3.Seg 0 (IntKind.i64.wrap (a0.Segs - 1)))).bind fun y8 =>
 (bif (bif (bif (bif (decide (1 < (IntKind.i64.wrap ((mget s3 x3.Mac 0) + 1)))) then true else (!decide (y6.2 = 0))) then true else (!decide (y6.1 = 0))) then true else (!y8)) then
  some (.ret false)
 else
  some (.nxt (mput s3 x3.Mac (IntKind.i64.wrap ((mget s3 x3.Mac 0) + 1)))))

def lan_Right (a0 : LanT) : Option Bool :=
 (lan_in a0.Segs 1 8).bind fun y1 =>
 (bif (bif (bif (!y1) then true else (decide (6 < ((a0.Plans.length : Nat) : Int)))) then true else (decide (8 < ((a0.Hosts.length : Nat) : Int)))) then
  some false
 else
  aft (rangeL (lan_Right_c0 a0) a0.Plans ([] : List (Int × Int))) fun s1 =>
  aft (rangeL (lan_Right_c1 a0) a0.Hosts ([] : List (Int × Int))) fun s3 =>
  some true)

theorem c_lan_Right (a0 : LanT) (r : Bool) (h : lan_Right a0 = some r) : CallP Try.prog 31 [(LV.agg [(I a0.Segs), (LV.ro 2 (a0.Plans.map PlanT.cells)), (LV.ro 2 (a0.Hosts.map HostT.cells))])] (LV.bool r) := by
 unfold lan_Right at h
 refine .intro nlA (.intro TT_ok Try.func31 rfl rfl [0, 1, 2, 3, 4, 6, 8, 9, 10, 26, 30, 31, 32, 33, 52, 55, 56, 57, 58, 93] rfl ?_)
 conv => whnf
 replace h := bindS h
 obtain ⟨y1, hy1, h⟩ := h
 have c2 := c_lan_in a0.Segs 1 8 _ hy1
 repeat' first | exact rA _ | refine parkI ?_ | (refine CallP.use c2 ?_; conv => whnf) | exact clA _ | (refine And.intro ?_ ?_ <;> conv => whnf) | exact clG _ | (refine gand ?_ h; assumption) | fail
 refine parkE (fun hc => ?_) (fun hc => ?_)
 ·replace h := condT (by first | exact hc | (simpa only [se_len, se_ch, List.length_map] using hc; done) | (have h0 : (bif (bif (!y1) then true else (decide (6 < (((a0.Plans.map PlanT.cells).length : Nat) : Int)))) then true else (decide (8 < (((a0.Hosts.map HostT.cells).length : Nat) : Int)))) = true := hc; simpa only [se_len, se_ch, List.length_map] using h0)) h
  conv => whnf
  have e := Option.some.inj h
  subst e
  repeat' first | exact rA _ | exact clA _ | (refine And.intro ?_ ?_ <;> conv => whnf) | exact clG _ | (refine gand ?_ h; assumption) | exact clN _ | fail
 ·replace h := condF (by first | exact hc | (simpa only [se_len, se_ch, List.length_map] using hc; done) | (have h0 : (bif (bif (!y1) then true else (decide (6 < (((a0.Plans.map PlanT.cells).length : Nat) : Int)))) then true else (decide (8 < (((a0.Hosts.map HostT.cells).length : Nat) : Int)))) = false := hc; simpa only [se_len, se_ch, List.length_map] using h0)) h
  conv => whnf
  repeat' first | exact rA _ | refine parkI ?_ | (refine And.intro ?_ ?_ <;> conv => whnf) | fail
  replace h := aftS h
  obtain ⟨O1, hO1, r1⟩ := h
  refine LoopW.norm [(1, (LV.ptr 0 0 0)), (3, (LV.map 1)), (4, (LV.map 2)), (30, (LV.ro 2 (a0.Plans.map PlanT.cells))), (31, (I (((a0.Plans.map PlanT.cells).length : Nat) : Int))), (32, (I ((0 : Nat) : Int)))] 3 [(0, (.row 25 3 [[(I a0.Segs), (LV.ro 2 (a0.Plans.map PlanT.cells)), (LV.ro 2 (a0.Hosts.map HostT.cells))]])), (1, (.mp (([] : List (Int × Int)).map (mpC I I)))), (2, (.mp ([] : List (LV × LV))))] ⟨rfl, rfl, rfl, rfl, rfl, rfl, trivial⟩ ⟨⟨rfl, rfl, blT⟩, ⟨⟨(congrArg (fun q => some (Blk.mp q)) (by simp only [se_mp] : (([] : List (LV × LV)) : List (LV × LV)) = (([] : List (Int × Int)).map (mpC I I)))), rfl, bel_mp (f := I) (g := I) (fun _ => by repeat' first | exact True.intro | refine ⟨?_, ?_⟩) (fun _ => by repeat' first | exact True.intro | refine ⟨?_, ?_⟩) _ _⟩, ⟨⟨rfl, rfl, (by intro p hp; cases hp)⟩, trivial⟩⟩⟩ blT rfl ?_
  refine LoopW.forR (fun k1 s1 => [(1, (LV.ptr 0 0 0)), (3, (LV.map 1)), (4, (LV.map 2)), (30, (LV.ro 2 (a0.Plans.map PlanT.cells))), (31, (I (((a0.Plans.map PlanT.cells).length : Nat) : Int))), (32, (I ((k1 : Nat) : Int)))]) (fun s1 => ⟨3, [(0, (.row 25 3 [[(I a0.Segs), (LV.ro 2 (a0.Plans.map PlanT.cells)), (LV.ro 2 (a0.Hosts.map HostT.cells))]])), (1, (.mp (s1.map (mpC I I)))), (2, (.mp ([] : List (LV × LV))))]⟩) hO1 (fun hl1 s1 hs1 => ?_) (fun hl1 k1 x1 s1 o1 hk1 hx1 b1 K1 hret1 hbrk1 => ?_)
  ·rw [hs1] at r1
   dsimp only [aftM] at r1
   have hd : decide (((a0.Plans.length : Nat) : Int) < (((a0.Plans.map PlanT.cells).length : Nat) : Int)) = false := by rw [decide_eq_false_iff_not]; (try simp only [se_len, se_ch, List.length_map]); omega
   refine LoopW.round TT_ok [0, 1, 2, 3, 4, 6, 8, 9, 10, 26, 30, 31, 32, 33, 52, 55, 56, 57, 58, 93] ?_
   conv => whnf
   repeat' first | exact rA _ | refine parkI ?_ | (refine And.intro ?_ ?_ <;> conv => whnf) | fail
   refine parkE (fun hc => ?_) (fun hc => ?_)
   ·exact (Bool.false_ne_true (hd.symm.trans hc)).elim
   ·clear hd
    conv => whnf
    repeat' first | exact rA _ | refine parkI ?_ | (refine And.intro ?_ ?_ <;> conv => whnf) | fail
    replace r1 := aftS r1
    obtain ⟨O3, hO3, r3⟩ := r1
    refine LoopW.norm [(1, (LV.ptr 0 0 0)), (4, (LV.map 2)), (55, (LV.ro 2 (a0.Hosts.map HostT.cells))), (56, (I (((a0.Hosts.map HostT.cells).length : Nat) : Int))), (57, (I ((0 : Nat) : Int)))] 3 [(0, (.row 25 3 [[(I a0.Segs), (LV.ro 2 (a0.Plans.map PlanT.cells)), (LV.ro 2 (a0.Hosts.map HostT.cells))]])), (2, (.mp (([] : List (Int × Int)).map (mpC I I))))] ⟨rfl, rfl, rfl, rfl, rfl, trivial⟩ ⟨⟨rfl, rfl, blT⟩, ⟨⟨(congrArg (fun q => some (Blk.mp q)) (by simp only [se_mp] : (([] : List (LV × LV)) : List (LV × LV)) = (([] : List (Int × Int)).map (mpC I I)))), rfl, bel_mp (f := I) (g := I) (fun _ => by repeat' first | exact True.intro | refine ⟨?_, ?_⟩) (fun _ => by repeat' first | exact True.intro | refine ⟨?_, ?_⟩) _ _⟩, trivial⟩⟩ blT rfl ?_
    refine LoopW.forR (fun k3 s3 => [(1, (LV.ptr 0 0 0)), (4, (LV.map 2)), (55, (LV.ro 2 (a0.Hosts.map HostT.cells))), (56, (I (((a0.Hosts.map HostT.cells).length : Nat) : Int))), (57, (I ((k3 : Nat) : Int)))]) (fun s3 => ⟨3, [(0, (.row 25 3 [[(I a0.Segs), (LV.ro 2 (a0.Plans.map PlanT.cells)), (LV.ro 2 (a0.Hosts.map HostT.cells))]])), (2, (.mp (s3.map (mpC I I))))]⟩) hO3 (fun hl3 s3 hs3 => ?_) (fun hl3 k3 x3 s3 o3 hk3 hx3 b3 K3 hret3 hbrk3 => ?_)
    ·rw [hs3] at r3
     dsimp only [aftM] at r3
     have hd : decide (((a0.Hosts.length : Nat) : Int) < (((a0.Hosts.map HostT.cells).length : Nat) : Int)) = false := by rw [decide_eq_false_iff_not]; (try simp only [se_len, se_ch, List.length_map]); omega
     refine LoopW.round TT_ok [0, 1, 2, 3, 4, 6, 8, 9, 10, 26, 30, 31, 32, 33, 52, 55, 56, 57, 58, 93] ?_
     conv => whnf
     repeat' first | exact rA _ | refine parkI ?_ | (refine And.intro ?_ ?_ <;> conv => whnf) | fail
     refine parkE (fun hc => ?_) (fun hc => ?_)
     ·exact (Bool.false_ne_true (hd.symm.trans hc)).elim
     ·clear hd
      conv => whnf
      have e := Option.some.inj r3
      subst e
      repeat' first | exact rA _ | exact clA _ | (refine And.intro ?_ ?_ <;> conv => whnf) | exact clG _ | (refine gand ?_ h; assumption) | exact clN _ | fail
    ·unfold lan_Right_c1 at b3
     have hd : decide (((k3 : Nat) : Int) < (((a0.Hosts.map HostT.cells).length : Nat) : Int)) = true := by rw [decide_eq_true_eq]; (try simp only [se_len, se_ch, List.length_map] at hk3); (try simp only [se_len, se_ch, List.length_map]); omega
     refine LoopW.round TT_ok [0, 1, 2, 3, 4, 6, 8, 9, 10, 26, 30, 31, 32, 33, 52, 55, 56, 57, 58, 93] ?_
     conv => whnf
     repeat' first | exact rA _ | refine parkI ?_ | (refine And.intro ?_ ?_ <;> conv => whnf) | fail
     refine parkE (fun hc => ?_) (fun hc => ?_)
     ·clear hd
      conv => whnf
      replace b3 := bindS b3
      obtain ⟨y6, hy6, b3⟩ := b3
      have c7 := c_mac_Class x3.Mac _ hy6
      rcases m3_ : mfind s3 x3.Mac with _ | ⟨w3_, u3_⟩
      ·try simp only [mget_none m3_, mput_none m3_, mhas_none m3_, mget_mput] at b3
       have f8 : Finds TT 3 ((s3.map (mpC I I)) ++ [((I x3.Mac), (I (IntKind.i64.wrap (0 + 1))))]) (I x3.Mac) (some (s3.length, (I (IntKind.i64.wrap (0 + 1))))) := by simpa only [se_mp] using finds_some (f := I) (g := I) ke_3 (mfind_app m3_ (IntKind.i64.wrap (0 + 1)))
       replace b3 := bindS b3
       obtain ⟨y9, hy9, b3⟩ := b3
       have c10 := fun (hg : (!(bif (bif (decide (1 < (IntKind.i64.wrap (0 + 1)))) then true else (!decide (y6.2 = 0))) then true else (!decide (y6.1 = 0)))) = true) => c_lan_in x3.Seg 0 (IntKind.i64.wrap (a0.Segs - 1)) _ (gdS hg hy9)
       repeat' first | exact rA _ | refine parkI ?_ | (refine ⟨_, (kixF (f := HostT.cells) hx3), ?_⟩; conv => whnf) | (refine ⟨_, (finds_none (g := I) ke_3 m3_), ?_⟩; conv => whnf) | (refine ⟨_, f8, ?_⟩; conv => whnf) | (refine ⟨_, c10, ?_⟩; conv => whnf) | (refine CallP.use c7 ?_; conv => whnf) | exact clA _ | (refine And.intro ?_ ?_ <;> conv => whnf) | exact clG _ | (refine gand ?_ h; assumption) | fail
       refine parkE (fun hc => ?_) (fun hc => ?_)
       ·replace b3 := condT hc b3
        conv => whnf
        have e := Option.some.inj b3
        replace e := hret3 _ e.symm
        rw [e] at r3
        replace e := Option.some.inj r3
        subst e
        repeat' first | exact rA _ | exact clA _ | (refine And.intro ?_ ?_ <;> conv => whnf) | exact clG _ | (refine gand ?_ h; assumption) | exact clN _ | fail
       ·replace b3 := condF hc b3
        conv => whnf
        repeat' first | exact rA _ | refine parkI ?_ | (refine And.intro ?_ ?_ <;> conv => whnf) | fail
        have e := Option.some.inj b3
        refine LoopW.norm [(1, (LV.ptr 0 0 0)), (4, (LV.map 2)), (55, (LV.ro 2 (a0.Hosts.map HostT.cells))), (56, (I (((a0.Hosts.map HostT.cells).length : Nat) : Int))), (57, (I ((k3 + 1 : Nat) : Int)))] 3 [(0, (.row 25 3 [[(I a0.Segs), (LV.ro 2 (a0.Plans.map PlanT.cells)), (LV.ro 2 (a0.Hosts.map HostT.cells))]])), (2, (.mp ((s3 ++ [(x3.Mac, (IntKind.i64.wrap (0 + 1)))]).map (mpC I I))))] ⟨rfl, rfl, rfl, rfl, (congrArg (LV.int .i64) (w64_nat _ (by omega))), trivial⟩ ⟨⟨rfl, rfl, blT⟩, ⟨⟨(congrArg (fun q => some (Blk.mp q)) (by simp only [se_mp] : (((s3.map (mpC I I)) ++ [((I x3.Mac), (I (IntKind.i64.wrap (0 + 1))))]) : List (LV × LV)) = ((s3 ++ [(x3.Mac, (IntKind.i64.wrap (0 + 1)))]).map (mpC I I)))), rfl, bel_mp (f := I) (g := I) (fun _ => by repeat' first | exact True.intro | refine ⟨?_, ?_⟩) (fun _ => by repeat' first | exact True.intro | refine ⟨?_, ?_⟩) _ _⟩, trivial⟩⟩ blT rfl (K3 _ e.symm)
      ·try simp only [mget_some m3_, mput_some m3_, mhas_some m3_, mget_mput] at b3
       have f8 : Finds TT 3 (setN (s3.map (mpC I I)) w3_ ((I x3.Mac), (I (IntKind.i64.wrap (u3_ + 1))))) (I x3.Mac) (some (w3_, (I (IntKind.i64.wrap (u3_ + 1))))) := by simpa only [se_mp] using finds_some (f := I) (g := I) ke_3 (mfind_set m3_ (IntKind.i64.wrap (u3_ + 1)))
       replace b3 := bindS b3
       obtain ⟨y9, hy9, b3⟩ := b3
       have c10 := fun (hg : (!(bif (bif (decide (1 < (IntKind.i64.wrap (u3_ + 1)))) then true else (!decide (y6.2 = 0))) then true else (!decide (y6.1 = 0)))) = true) => c_lan_in x3.Seg 0 (IntKind.i64.wrap (a0.Segs - 1)) _ (gdS hg hy9)
       repeat' first | exact rA _ | refine parkI ?_ | (refine ⟨_, (kixF (f := HostT.cells) hx3), ?_⟩; conv => whnf) | (refine ⟨_, (finds_some (g := I) ke_3 m3_), ?_⟩; conv => whnf) | (refine ⟨_, f8, ?_⟩; conv => whnf) | (refine ⟨_, c10, ?_⟩; conv => whnf) | (refine CallP.use c7 ?_; conv => whnf) | exact clA _ | (refine And.intro ?_ ?_ <;> conv => whnf) | exact clG _ | (refine gand ?_ h; assumption) | fail
       refine parkE (fun hc => ?_) (fun hc => ?_)
       ·replace b3 := condT hc b3
        conv => whnf
        have e := Option.some.inj b3
        replace e := hret3 _ e.symm
        rw [e] at r3
        replace e := Option.some.inj r3
        subst e
        repeat' first | exact rA _ | exact clA _ | (refine And.intro ?_ ?_ <;> conv => whnf) | exact clG _ | (refine gand ?_ h; assumption) | exact clN _ | fail
       ·replace b3 := condF hc b3
        conv => whnf
        repeat' first | exact rA _ | refine parkI ?_ | (refine And.intro ?_ ?_ <;> conv => whnf) | fail
        have e := Option.some.inj b3
        refine LoopW.norm [(1, (LV.ptr 0 0 0)), (4, (LV.map 2)), (55, (LV.ro 2 (a0.Hosts.map HostT.cells))), (56, (I (((a0.Hosts.map HostT.cells).length : Nat) : Int))), (57, (I ((k3 + 1 : Nat) : Int)))] 3 [(0, (.row 25 3 [[(I a0.Segs), (LV.ro 2 (a0.Plans.map PlanT.cells)), (LV.ro 2 (a0.Hosts.map HostT.cells))]])), (2, (.mp ((s3.set w3_ (x3.Mac, (IntKind.i64.wrap (u3_ + 1)))).map (mpC I I))))] ⟨rfl, rfl, rfl, rfl, (congrArg (LV.int .i64) (w64_nat _ (by omega))), trivial⟩ ⟨⟨rfl, rfl, blT⟩, ⟨⟨(congrArg (fun q => some (Blk.mp q)) (by simp only [se_mp] : ((setN (s3.map (mpC I I)) w3_ ((I x3.Mac), (I (IntKind.i64.wrap (u3_ + 1))))) : List (LV × LV)) = ((s3.set w3_ (x3.Mac, (IntKind.i64.wrap (u3_ + 1)))).map (mpC I I)))), rfl, bel_mp (f := I) (g := I) (fun _ => by repeat' first | exact True.intro | refine ⟨?_, ?_⟩) (fun _ => by repeat' first | exact True.intro | refine ⟨?_, ?_⟩) _ _⟩, trivial⟩⟩ blT rfl (K3 _ e.symm)
     ·exact (Bool.false_ne_true (hc.symm.trans hd)).elim
  ·unfold lan_Right_c0 at b1
   have hd : decide (((k1 : Nat) : Int) < (((a0.Plans.map PlanT.cells).length : Nat) : Int)) = true := by rw [decide_eq_true_eq]; (try simp only [se_len, se_ch, List.length_map] at hk1); (try simp only [se_len, se_ch, List.length_map]); omega
   refine LoopW.round TT_ok [0, 1, 2, 3, 4, 6, 8, 9, 10, 26, 30, 31, 32, 33, 52, 55, 56, 57, 58, 93] ?_
   conv => whnf
   repeat' first | exact rA _ | refine parkI ?_ | (refine And.intro ?_ ?_ <;> conv => whnf) | fail
   refine parkE (fun hc => ?_) (fun hc => ?_)
   ·clear hd
    conv => whnf
    rcases m2_ : mfind s1 x1.ID with _ | ⟨w2_, u2_⟩
    ·try simp only [mget_none m2_, mput_none m2_, mhas_none m2_, mget_mput] at b1
     have f3 : Finds TT 3 ((s1.map (mpC I I)) ++ [((I x1.ID), (I (IntKind.i64.wrap (0 + 1))))]) (I x1.ID) (some (s1.length, (I (IntKind.i64.wrap (0 + 1))))) := by simpa only [se_mp] using finds_some (f := I) (g := I) ke_3 (mfind_app m2_ (IntKind.i64.wrap (0 + 1)))
     replace b1 := bindS b1
     obtain ⟨y4, hy4, b1⟩ := b1
     have c5 := fun (hg : (!(decide (1 < (IntKind.i64.wrap (0 + 1))))) = true) => c_lan_isPlan x1 a0.Segs _ (gdS hg hy4)
     repeat' first | exact rA _ | refine parkI ?_ | (refine ⟨_, (kixF (f := PlanT.cells) hx1), ?_⟩; conv => whnf) | (refine ⟨_, (finds_none (g := I) ke_3 m2_), ?_⟩; conv => whnf) | (refine ⟨_, f3, ?_⟩; conv => whnf) | (refine ⟨_, c5, ?_⟩; conv => whnf) | exact clA _ | (refine And.intro ?_ ?_ <;> conv => whnf) | exact clG _ | (refine gand ?_ h; assumption) | fail
     refine parkE (fun hc => ?_) (fun hc => ?_)
     ·replace b1 := condT hc b1
      conv => whnf
      have e := Option.some.inj b1
      replace e := hret1 _ e.symm
      rw [e] at r1
      replace e := Option.some.inj r1
      subst e
      repeat' first | exact rA _ | exact clA _ | (refine And.intro ?_ ?_ <;> conv => whnf) | exact clG _ | (refine gand ?_ h; assumption) | exact clN _ | fail
     ·replace b1 := condF hc b1
      conv => whnf
      repeat' first | exact rA _ | refine parkI ?_ | (refine And.intro ?_ ?_ <;> conv => whnf) | fail
      have e := Option.some.inj b1
      refine LoopW.norm [(1, (LV.ptr 0 0 0)), (3, (LV.map 1)), (4, (LV.map 2)), (30, (LV.ro 2 (a0.Plans.map PlanT.cells))), (31, (I (((a0.Plans.map PlanT.cells).length : Nat) : Int))), (32, (I ((k1 + 1 : Nat) : Int)))] 3 [(0, (.row 25 3 [[(I a0.Segs), (LV.ro 2 (a0.Plans.map PlanT.cells)), (LV.ro 2 (a0.Hosts.map HostT.cells))]])), (1, (.mp ((s1 ++ [(x1.ID, (IntKind.i64.wrap (0 + 1)))]).map (mpC I I)))), (2, (.mp ([] : List (LV × LV))))] ⟨rfl, rfl, rfl, rfl, rfl, (congrArg (LV.int .i64) (w64_nat _ (by omega))), trivial⟩ ⟨⟨rfl, rfl, blT⟩, ⟨⟨(congrArg (fun q => some (Blk.mp q)) (by simp only [se_mp] : (((s1.map (mpC I I)) ++ [((I x1.ID), (I (IntKind.i64.wrap (0 + 1))))]) : List (LV × LV)) = ((s1 ++ [(x1.ID, (IntKind.i64.wrap (0 + 1)))]).map (mpC I I)))), rfl, bel_mp (f := I) (g := I) (fun _ => by repeat' first | exact True.intro | refine ⟨?_, ?_⟩) (fun _ => by repeat' first | exact True.intro | refine ⟨?_, ?_⟩) _ _⟩, ⟨⟨rfl, rfl, (by intro p hp; cases hp)⟩, trivial⟩⟩⟩ blT rfl (K1 _ e.symm)
    ·try simp only [mget_some m2_, mput_some m2_, mhas_some m2_, mget_mput] at b1
     have f3 : Finds TT 3 (setN (s1.map (mpC I I)) w2_ ((I x1.ID), (I (IntKind.i64.wrap (u2_ + 1))))) (I x1.ID) (some (w2_, (I (IntKind.i64.wrap (u2_ + 1))))) := by simpa only [se_mp] using finds_some (f := I) (g := I) ke_3 (mfind_set m2_ (IntKind.i64.wrap (u2_ + 1)))
     replace b1 := bindS b1
     obtain ⟨y4, hy4, b1⟩ := b1
     have c5 := fun (hg : (!(decide (1 < (IntKind.i64.wrap (u2_ + 1))))) = true) => c_lan_isPlan x1 a0.Segs _ (gdS hg hy4)
     repeat' first | exact rA _ | refine parkI ?_ | (refine ⟨_, (kixF (f := PlanT.cells) hx1), ?_⟩; conv => whnf) | (refine ⟨_, (finds_some (g := I) ke_3 m2_), ?_⟩; conv => whnf) | (refine ⟨_, f3, ?_⟩; conv => whnf) | (refine ⟨_, c5, ?_⟩; conv => whnf) | exact clA _ | (refine And.intro ?_ ?_ <;> conv => whnf) | exact clG _ | (refine gand ?_ h; assumption) | fail
     refine parkE (fun hc => ?_) (fun hc => ?_)
     ·replace b1 := condT hc b1
      conv => whnf
      have e := Option.some.inj b1
      replace e := hret1 _ e.symm
      rw [e] at r1
      replace e := Option.some.inj r1
      subst e
      repeat' first | exact rA _ | exact clA _ | (refine And.intro ?_ ?_ <;> conv => whnf) | exact clG _ | (refine gand ?_ h; assumption) | exact clN _ | fail
     ·replace b1 := condF hc b1
      conv => whnf
      repeat' first | exact rA _ | refine parkI ?_ | (refine And.intro ?_ ?_ <;> conv => whnf) | fail
      have e := Option.some.inj b1
      refine LoopW.norm [(1, (LV.ptr 0 0 0)), (3, (LV.map 1)), (4, (LV.map 2)), (30, (LV.ro 2 (a0.Plans.map PlanT.cells))), (31, (I (((a0.Plans.map PlanT.cells).length : Nat) : Int))), (32, (I ((k1 + 1 : Nat) : Int)))] 3 [(0, (.row 25 3 [[(I a0.Segs), (LV.ro 2 (a0.Plans.map PlanT.cells)), (LV.ro 2 (a0.Hosts.map HostT.cells))]])), (1, (.mp ((s1.set w2_ (x1.ID, (IntKind.i64.wrap (u2_ + 1)))).map (mpC I I)))), (2, (.mp ([] : List (LV × LV))))] ⟨rfl, rfl, rfl, rfl, rfl, (congrArg (LV.int .i64) (w64_nat _ (by omega))), trivial⟩ ⟨⟨rfl, rfl, blT⟩, ⟨⟨(congrArg (fun q => some (Blk.mp q)) (by simp only [se_mp] : ((setN (s1.map (mpC I I)) w2_ ((I x1.ID), (I (IntKind.i64.wrap (u2_ + 1))))) : List (LV × LV)) = ((s1.set w2_ (x1.ID, (IntKind.i64.wrap (u2_ + 1)))).map (mpC I I)))), rfl, bel_mp (f := I) (g := I) (fun _ => by repeat' first | exact True.intro | refine ⟨?_, ?_⟩) (fun _ => by repeat' first | exact True.intro | refine ⟨?_, ?_⟩) _ _⟩, ⟨⟨rfl, rfl, (by intro p hp; cases hp)⟩, trivial⟩⟩⟩ blT rfl (K1 _ e.symm)
   ·exact (Bool.false_ne_true (hc.symm.trans hd)).elim

def lan_may (a0 : LanT) (a1 : Int) : Option Int :=
 (lan_Right a0).bind fun y1 =>
 (bif (!y1) then
  some 1
 else
  (lan_in a1 0 (IntKind.i64.wrap (a0.Segs - 1))).bind fun y3 =>
  (bif (!y3) then
   some 3
  else
   some 0))

theorem c_lan_may (a0 : LanT) (a1 : Int) (r : Int) (h : lan_may a0 a1 = some r) : CallP Try.prog 35 [(LV.agg [(I a0.Segs), (LV.ro 2 (a0.Plans.map PlanT.cells)), (LV.ro 2 (a0.Hosts.map HostT.cells))]), (I a1)] (I r) := by
 unfold lan_may at h
 refine .intro nlA (.intro TT_ok Try.func35 rfl rfl [0, 1, 2, 4, 5, 9] rfl ?_)
 conv => whnf
 replace h := bindS h
 obtain ⟨y1, hy1, h⟩ := h
 have c2 := c_lan_Right a0 _ hy1
 repeat' first | exact rA _ | refine parkI ?_ | (refine CallP.use c2 ?_; conv => whnf) | (refine And.intro ?_ ?_ <;> conv => whnf) | fail
 refine parkE (fun hc => ?_) (fun hc => ?_)
 ·replace h := condT hc h
  conv => whnf
  have e := Option.some.inj h
  subst e
  repeat' first | exact rA _ | exact clA _ | (refine And.intro ?_ ?_ <;> conv => whnf) | exact clG _ | (refine gand ?_ h; assumption) | exact clN _ | fail
 ·replace h := condF hc h
  conv => whnf
  replace h := bindS h
  obtain ⟨y3, hy3, h⟩ := h
  have c4 := c_lan_in a1 0 (IntKind.i64.wrap (a0.Segs - 1)) _ hy3
  repeat' first | exact rA _ | refine parkI ?_ | (refine CallP.use c4 ?_; conv => whnf) | (refine And.intro ?_ ?_ <;> conv => whnf) | fail
  refine parkE (fun hc => ?_) (fun hc => ?_)
  ·replace h := condT hc h
   conv => whnf
   have e := Option.some.inj h
   subst e
   repeat' first | exact rA _ | exact clA _ | (refine And.intro ?_ ?_ <;> conv => whnf) | exact clG _ | (refine gand ?_ h; assumption) | exact clN _ | fail
  ·replace h := condF hc h
   conv => whnf
   have e := Option.some.inj h
   subst e
   repeat' first | exact rA _ | exact clA _ | (refine And.intro ?_ ?_ <;> conv => whnf) | exact clG _ | (refine gand ?_ h; assumption) | exact clN _ | fail

def slices_Clone_Host (a0 : (List HostT)) : Option (List HostT) :=
 grd (fits a0.length 16) <|
 some a0

theorem cf_slices_Clone_Host (a0 : (List HostT)) (r : (List HostT)) (h : slices_Clone_Host a0 = some r) : CallF Try.prog 37 [(LV.ro 2 (a0.map HostT.cells))] 80 2 (r.map HostT.cells) := by
 unfold slices_Clone_Host at h
 replace h := grdS h
 obtain ⟨g, h⟩ := h
 obtain rfl := Option.some.inj h
 have f1 : fits (([] : List (List LV)) ++ a0.map HostT.cells).length 16 := by rw [List.nil_append, List.length_map]; exact g
 refine CallF.of (NLss_map' _) (CallW.intro TT_ok Try.func37 rfl rfl [0, 2, 4] rfl ?_)
 conv => whnf
 repeat' first | with_reducible rfl | with_reducible exact True.intro | refine parkI ?_ | exact f1 | exact Or.inl ⟨rfl, by assumption⟩ | exact Or.inr ⟨_, rfl, rfl⟩ | exact (rfl : (_ : Nat) = _) | (refine And.intro ?_ ?_ <;> conv => whnf) | (intro h; conv => whnf) | (refine parkE (fun hc => ?_) (fun hc => ?_) <;> first | exact (Bool.false_ne_true hc).elim | exact (Bool.false_ne_true hc.symm).elim | conv => whnf) | fail

theorem c_slices_Clone_Host (a0 : (List HostT)) (r : (List HostT)) (h : slices_Clone_Host a0 = some r) : CallP Try.prog 37 [(LV.ro 2 (a0.map HostT.cells))] (LV.ro 2 (r.map HostT.cells)) :=
 CallF.toP (cf_slices_Clone_Host a0 r h) ⟨trivial, trivial⟩ (NLss_map' _)

def slices_IndexFunc_Host_c0 (q1 : (HostT → Option Bool)) (k6 : Nat) (x6 : HostT) (s6 : Unit) : Option (Step Int Unit) :=
 (q1 x6).bind fun y6 =>
 (bif y6 then
  some (.ret ((k6 : Nat) : Int))
 else
  some (.nxt ()))

def slices_IndexFunc_Host (a0 : (List HostT)) (q1 : (HostT → Option Bool)) : Option Int :=
 aft (rangeL (slices_IndexFunc_Host_c0 q1) a0 ()) fun s6 =>
 some (-1)

theorem c_slices_IndexFunc_Host (a0 : (List HostT)) (fn1 : Nat) (ff1 fc1 : List LV) (q1 : (HostT → Option Bool)) (hq1 : ∀ (x0 : HostT) (r : Bool), q1 x0 = some r → CallP Try.prog fn1 (ff1 ++ [(LV.agg [(I x0.Mac), (I x0.Seg)])] ++ fc1) (LV.bool r)) (hn1 : NLs ff1 ∧ NLs fc1) (r : Int) (h : slices_IndexFunc_Host a0 q1 = some r) : CallP Try.prog 61 [(LV.ro 2 (a0.map HostT.cells)), (LV.func (.func fn1) ff1 fc1)] (I r) := by
 have hnA1 := hn1.1
 have hnB1 := hn1.2
 unfold slices_IndexFunc_Host at h
 refine .intro nlA (.intro TT_ok Try.func61 rfl rfl [0, 1, 4, 5, 7, 8, 9, 16] rfl ?_)
 conv => whnf
 repeat' first | exact rA _ | refine parkI ?_ | (refine And.intro ?_ ?_ <;> conv => whnf) | fail
 replace h := aftS h
 obtain ⟨O6, hO6, r6⟩ := h
 refine LoopW.norm [(0, (LV.ro 2 (a0.map HostT.cells))), (1, (LV.func (.func fn1) ff1 fc1)), (7, (I (((a0.map HostT.cells).length : Nat) : Int))), (8, (I ((0 : Nat) : Int)))] 0 [] ⟨rfl, rfl, rfl, rfl, trivial⟩ trivial blT rfl ?_
 refine LoopW.forR (fun k6 s6 => [(0, (LV.ro 2 (a0.map HostT.cells))), (1, (LV.func (.func fn1) ff1 fc1)), (7, (I (((a0.map HostT.cells).length : Nat) : Int))), (8, (I ((k6 : Nat) : Int)))]) (fun s6 => ⟨0, []⟩) hO6 (fun hl6 s6 hs6 => ?_) (fun hl6 k6 x6 s6 o6 hk6 hx6 b6 K6 hret6 hbrk6 => ?_)
 ·rw [hs6] at r6
  dsimp only [aftM] at r6
  have hd : decide (((a0.length : Nat) : Int) < (((a0.map HostT.cells).length : Nat) : Int)) = false := by rw [decide_eq_false_iff_not]; (try simp only [se_len, se_ch, List.length_map]); omega
  refine LoopW.round TT_ok [0, 1, 4, 5, 7, 8, 9, 16] ?_
  conv => whnf
  repeat' first | exact rA _ | refine parkI ?_ | (refine And.intro ?_ ?_ <;> conv => whnf) | fail
  refine parkE (fun hc => ?_) (fun hc => ?_)
  ·exact (Bool.false_ne_true (hd.symm.trans hc)).elim
  ·clear hd
   conv => whnf
   have e := Option.some.inj r6
   subst e
   repeat' first | exact rA _ | exact clA _ | (refine And.intro ?_ ?_ <;> conv => whnf) | exact clG _ | (refine gand ?_ h; assumption) | exact clN _ | fail
 ·unfold slices_IndexFunc_Host_c0 at b6
  have hd : decide (((k6 : Nat) : Int) < (((a0.map HostT.cells).length : Nat) : Int)) = true := by rw [decide_eq_true_eq]; (try simp only [se_len, se_ch, List.length_map] at hk6); (try simp only [se_len, se_ch, List.length_map]); omega
  refine LoopW.round TT_ok [0, 1, 4, 5, 7, 8, 9, 16] ?_
  conv => whnf
  repeat' first | exact rA _ | refine parkI ?_ | (refine And.intro ?_ ?_ <;> conv => whnf) | fail
  refine parkE (fun hc => ?_) (fun hc => ?_)
  ·clear hd
   conv => whnf
   replace b6 := bindS b6
   obtain ⟨y6, hy6, b6⟩ := b6
   have c7 := hq1 x6 _ hy6
   repeat' first | exact rA _ | refine parkI ?_ | (refine ⟨_, (kixF (f := HostT.cells) hx6), ?_⟩; conv => whnf) | (refine CallP.use c7 ?_; conv => whnf) | (refine frzB_call rfl (slN_nil hn1) ?_; conv => whnf) | (refine And.intro ?_ ?_ <;> conv => whnf) | fail
   refine parkE (fun hc => ?_) (fun hc => ?_)
   ·replace b6 := condT hc b6
    conv => whnf
    have e := Option.some.inj b6
    replace e := hret6 _ e.symm
    rw [e] at r6
    replace e := Option.some.inj r6
    subst e
    repeat' first | exact rA _ | exact clA _ | (refine And.intro ?_ ?_ <;> conv => whnf) | exact clG _ | (refine gand ?_ h; assumption) | exact clN _ | fail
   ·replace b6 := condF hc b6
    conv => whnf
    repeat' first | exact rA _ | refine parkI ?_ | (refine And.intro ?_ ?_ <;> conv => whnf) | fail
    have e := Option.some.inj b6
    refine LoopW.norm [(0, (LV.ro 2 (a0.map HostT.cells))), (1, (LV.func (.func fn1) ff1 fc1)), (7, (I (((a0.map HostT.cells).length : Nat) : Int))), (8, (I ((k6 + 1 : Nat) : Int)))] 0 [] ⟨rfl, rfl, rfl, (congrArg (LV.int .i64) (w64_nat _ (by omega))), trivial⟩ trivial blT rfl (K6 _ e.symm)
  ·exact (Bool.false_ne_true (hc.symm.trans hd)).elim

def slices_DeleteFunc_Host_c0 (q1 : (HostT → Option Bool)) (s7 : (Int × Int × (List HostT))) : Option (Step (List HostT) (Int × Int × (List HostT))) :=
 (bif (decide (s7.2.1 < ((s7.2.2.length : Nat) : Int))) then
  grd ((0 : Int) ≤ s7.2.1 ∧ s7.2.1 < ((s7.2.2.length : Nat) : Int)) <|
  (gixN s7.2.2 (s7.2.1 : Int).toNat).bind fun v10 =>
  (q1 v10).bind fun y12 =>
  (bif (!y12) then
   grd ((0 : Int) ≤ s7.1 ∧ s7.1 < ((s7.2.2.length : Nat) : Int)) <|
   (gixN s7.2.2 (s7.1 : Int).toNat).bind fun v15 =>
   some (.nxt ((IntKind.i64.wrap (s7.1 + 1)), (IntKind.i64.wrap (s7.2.1 + 1)), (s7.2.2.set (s7.1 : Int).toNat v10)))
  else
   some (.nxt (s7.1, (IntKind.i64.wrap (s7.2.1 + 1)), s7.2.2)))
 else
  some (.brk (s7.1, s7.2.1, s7.2.2)))

def slices_DeleteFunc_Host (a0 : (List HostT)) (q1 : (HostT → Option Bool)) : Option (List HostT) :=
 (slices_IndexFunc_Host a0 q1).bind fun y7 =>
 (bif (decide (y7 = (-1))) then
  some a0
 else
  aft (loopF 1000000 (slices_DeleteFunc_Host_c0 q1) (y7, (IntKind.i64.wrap (y7 + 1)), a0)) fun s7 =>
  grd ((0 : Int) ≤ s7.1 ∧ s7.1 < ((s7.2.2.length : Nat) : Int)) <|
  grd ((0 : Int) ≤ s7.1 ∧ s7.1 ≤ ((s7.2.2.length : Nat) : Int)) <|
  some (s7.2.2.take (s7.1 : Int).toNat))

theorem w_slices_DeleteFunc_Host (a0 : (List HostT)) (fn1 : Nat) (ff1 fc1 : List LV) (q1 : (HostT → Option Bool)) (hq1 : ∀ (x0 : HostT) (r : Bool), q1 x0 = some r → CallP Try.prog fn1 (ff1 ++ [(LV.agg [(I x0.Mac), (I x0.Seg)])] ++ fc1) (LV.bool r)) (hn1 : NLs ff1 ∧ NLs fc1) (r : (List HostT)) (h : slices_DeleteFunc_Host a0 q1 = some r) : CallW Try.prog 36 [(LV.sl 0 0 (a0.map HostT.cells).length), (LV.func (.func fn1) ff1 fc1)] ⟨1, [(0, (.row 80 2 (a0.map HostT.cells)))]⟩ (fun lv H' => lv = (LV.sl 0 0 (r.map HostT.cells).length) ∧ H' = ⟨1, [(0, (.row 80 2 (r.map HostT.cells)))]⟩) := by
 have hnA1 := hn1.1
 have hnB1 := hn1.2
 unfold slices_DeleteFunc_Host at h
 refine CallW.shrink (CallW.intro TT_ok Try.func36 rfl rfl [0, 1, 4, 5, 6, 7, 12, 19, 29, 1000061] rfl ?_)
 conv => whnf
 have n6 : slNs [(LV.ro 2 (a0.map HostT.cells)), (LV.func (.func fn1) ff1 fc1)] = [] := slNs_nil nlA
 replace h := bindS h
 obtain ⟨y7, hy7, h⟩ := h
 have c8 := c_slices_IndexFunc_Host a0 fn1 ff1 fc1 q1 hq1 hn1 _ hy7
 repeat' first | exact rA _ | refine parkI ?_ | (refine frzB_call n6 rfl ?_; conv => whnf) | (refine frz_nil n6 ?_; conv => whnf) | (refine CallW.done (CallP.lendG c8 nlB (show Lents _ [(LV.sl 0 0 (a0.map HostT.cells).length), (LV.func (.func fn1) ff1 fc1)] [(LV.ro 2 (a0.map HostT.cells)), (LV.func (.func fn1) ff1 fc1)] from ⟨Lent.sl rfl lnT, .of nlA, True.intro⟩)) ?_; conv => whnf) | (refine And.intro ?_ ?_ <;> conv => whnf) | fail
 refine parkE (fun hc => ?_) (fun hc => ?_)
 ·replace h := condT hc h
  conv => whnf
  have e := Option.some.inj h
  subst e
  repeat' first | exact rA _ | exact ⟨[(0, (.row 80 2 (a0.map HostT.cells)))], ⟨⟨rfl, rfl, NLss_bel (NLss_map' _)⟩, trivial⟩, blT, rfl, rfl⟩ | exact clA _ | (refine And.intro ?_ ?_ <;> conv => whnf) | exact clG _ | (refine gand ?_ h; assumption) | exact clN _ | fail
 ·replace h := condF hc h
  conv => whnf
  repeat' first | exact rA _ | refine parkI ?_ | (refine And.intro ?_ ?_ <;> conv => whnf) | fail
  replace h := aftS h
  obtain ⟨O7, hO7, r7⟩ := h
  refine LoopW.norm [(0, (LV.sl 0 0 ((y7, (IntKind.i64.wrap (y7 + 1)), a0).2.2.map HostT.cells).length)), (1, (LV.func (.func fn1) ff1 fc1)), (5, (I (y7, (IntKind.i64.wrap (y7 + 1)), a0).1)), (6, (I (y7, (IntKind.i64.wrap (y7 + 1)), a0).2.1))] 1 [(0, (.row 80 2 ((y7, (IntKind.i64.wrap (y7 + 1)), a0).2.2.map HostT.cells)))] ⟨(by exact congrArg (LV.sl 0 0) (clL _ : (a0.map HostT.cells).length = ((y7, (IntKind.i64.wrap (y7 + 1)), a0).2.2.map HostT.cells).length)), rfl, (smT : ((I y7) : LV) = (I (y7, (IntKind.i64.wrap (y7 + 1)), a0).1)), (smT : ((I (IntKind.i64.wrap (y7 + 1))) : LV) = (I (y7, (IntKind.i64.wrap (y7 + 1)), a0).2.1)), trivial⟩ ⟨⟨(congrArg (fun q => some (Blk.row 80 2 q)) (smT : ((a0.map HostT.cells) : List (List LV)) = ((y7, (IntKind.i64.wrap (y7 + 1)), a0).2.2.map HostT.cells))), rfl, NLss_bel (NLss_map' _)⟩, trivial⟩ blT rfl ?_
  refine LoopW.forF (fun s7 => [(0, (LV.sl 0 0 (s7.2.2.map HostT.cells).length)), (1, (LV.func (.func fn1) ff1 fc1)), (5, (I s7.1)), (6, (I s7.2.1))]) (fun s7 => ⟨1, [(0, (.row 80 2 (s7.2.2.map HostT.cells)))]⟩) hO7 (fun s7 o7 b7 K7 hret7 hbrk7 => ?_)
  unfold slices_DeleteFunc_Host_c0 at b7
  refine LoopW.round TT_ok [0, 1, 4, 5, 6, 7, 12, 19, 29, 1000061] ?_
  conv => whnf
  repeat' first | exact rA _ | refine parkI ?_ | (refine And.intro ?_ ?_ <;> conv => whnf) | fail
  refine parkE (fun hc => ?_) (fun hc => ?_)
  ·replace b7 := condT (by first | exact hc | (simpa only [se_len, se_ch, List.length_map] using hc; done) | (have h0 : (decide (s7.2.1 < (((s7.2.2.map HostT.cells).length : Nat) : Int))) = true := hc; simpa only [se_len, se_ch, List.length_map] using h0)) b7
   conv => whnf
   replace b7 := grdS b7
   obtain ⟨g9, b7⟩ := b7
   replace g9 : (0 : Int) ≤ s7.2.1 ∧ s7.2.1 < (((s7.2.2.map HostT.cells).length : Nat) : Int) := by simpa only [se_len, se_ch, List.length_map] using g9
   replace b7 := bindS b7
   obtain ⟨v10, hv10, b7⟩ := b7
   have i11 : nth (s7.2.2.map HostT.cells) (0 + ((s7.2.1 : Int).toNat)) = some [(I v10.Mac), (I v10.Seg)] := by simpa only [se_map, se_len, se_ch, List.length_map, nth_eq, Nat.zero_add, List.getElem?_map] using gixNF (f := HostT.cells) hv10
   replace b7 := bindS b7
   obtain ⟨y12, hy12, b7⟩ := b7
   have c13 := hq1 v10 _ hy12
   repeat' first | exact rA _ | refine parkI ?_ | exact g9 | (refine CallP.use c13 ?_; conv => whnf) | (rw [i11]; conv => whnf) | (refine frzB_call rfl (slN_nil hn1) ?_; conv => whnf) | (refine And.intro ?_ ?_ <;> conv => whnf) | fail
   refine parkE (fun hc => ?_) (fun hc => ?_)
   ·replace b7 := condT hc b7
    conv => whnf
    replace b7 := grdS b7
    obtain ⟨g14, b7⟩ := b7
    replace g14 : (0 : Int) ≤ s7.1 ∧ s7.1 < (((s7.2.2.map HostT.cells).length : Nat) : Int) := by simpa only [se_len, se_ch, List.length_map] using g14
    replace b7 := bindS b7
    obtain ⟨v15, hv15, b7⟩ := b7
    have i16 : nth (s7.2.2.map HostT.cells) (0 + ((s7.1 : Int).toNat)) = some [(I v15.Mac), (I v15.Seg)] := by simpa only [se_map, se_len, se_ch, List.length_map, nth_eq, Nat.zero_add, List.getElem?_map] using gixNF (f := HostT.cells) hv15
    repeat' first | exact rA _ | refine parkI ?_ | exact g14 | (rw [i16]; conv => whnf) | (refine And.intro ?_ ?_ <;> conv => whnf) | fail
    have e := Option.some.inj b7
    refine LoopW.norm [(0, (LV.sl 0 0 (((IntKind.i64.wrap (s7.1 + 1)), (IntKind.i64.wrap (s7.2.1 + 1)), (s7.2.2.set (s7.1 : Int).toNat v10)).2.2.map HostT.cells).length)), (1, (LV.func (.func fn1) ff1 fc1)), (5, (I ((IntKind.i64.wrap (s7.1 + 1)), (IntKind.i64.wrap (s7.2.1 + 1)), (s7.2.2.set (s7.1 : Int).toNat v10)).1)), (6, (I ((IntKind.i64.wrap (s7.1 + 1)), (IntKind.i64.wrap (s7.2.1 + 1)), (s7.2.2.set (s7.1 : Int).toNat v10)).2.1))] 1 [(0, (.row 80 2 (((IntKind.i64.wrap (s7.1 + 1)), (IntKind.i64.wrap (s7.2.1 + 1)), (s7.2.2.set (s7.1 : Int).toNat v10)).2.2.map HostT.cells)))] ⟨(by exact congrArg (LV.sl 0 0) (clL _ : (s7.2.2.map HostT.cells).length = (((IntKind.i64.wrap (s7.1 + 1)), (IntKind.i64.wrap (s7.2.1 + 1)), (s7.2.2.set (s7.1 : Int).toNat v10)).2.2.map HostT.cells).length)), rfl, (smT : ((I (IntKind.i64.wrap (s7.1 + 1))) : LV) = (I ((IntKind.i64.wrap (s7.1 + 1)), (IntKind.i64.wrap (s7.2.1 + 1)), (s7.2.2.set (s7.1 : Int).toNat v10)).1)), (smT : ((I (IntKind.i64.wrap (s7.2.1 + 1))) : LV) = (I ((IntKind.i64.wrap (s7.1 + 1)), (IntKind.i64.wrap (s7.2.1 + 1)), (s7.2.2.set (s7.1 : Int).toNat v10)).2.1)), trivial⟩ ⟨⟨(congrArg (fun q => some (Blk.row 80 2 q)) (smT : ((setN (s7.2.2.map HostT.cells) (0 + ((s7.1 : Int).toNat)) [(I v10.Mac), (I v10.Seg)]) : List (List LV)) = (((IntKind.i64.wrap (s7.1 + 1)), (IntKind.i64.wrap (s7.2.1 + 1)), (s7.2.2.set (s7.1 : Int).toNat v10)).2.2.map HostT.cells))), rfl, NLss_bel (NLss_map' _)⟩, trivial⟩ blT rfl (K7 _ e.symm)
   ·replace b7 := condF hc b7
    conv => whnf
    repeat' first | exact rA _ | refine parkI ?_ | (refine And.intro ?_ ?_ <;> conv => whnf) | fail
    have e := Option.some.inj b7
    refine LoopW.norm [(0, (LV.sl 0 0 ((s7.1, (IntKind.i64.wrap (s7.2.1 + 1)), s7.2.2).2.2.map HostT.cells).length)), (1, (LV.func (.func fn1) ff1 fc1)), (5, (I (s7.1, (IntKind.i64.wrap (s7.2.1 + 1)), s7.2.2).1)), (6, (I (s7.1, (IntKind.i64.wrap (s7.2.1 + 1)), s7.2.2).2.1))] 1 [(0, (.row 80 2 ((s7.1, (IntKind.i64.wrap (s7.2.1 + 1)), s7.2.2).2.2.map HostT.cells)))] ⟨(by exact congrArg (LV.sl 0 0) (clL _ : (s7.2.2.map HostT.cells).length = ((s7.1, (IntKind.i64.wrap (s7.2.1 + 1)), s7.2.2).2.2.map HostT.cells).length)), rfl, (smT : ((I s7.1) : LV) = (I (s7.1, (IntKind.i64.wrap (s7.2.1 + 1)), s7.2.2).1)), (smT : ((I (IntKind.i64.wrap (s7.2.1 + 1))) : LV) = (I (s7.1, (IntKind.i64.wrap (s7.2.1 + 1)), s7.2.2).2.1)), trivial⟩ ⟨⟨(congrArg (fun q => some (Blk.row 80 2 q)) (smT : ((s7.2.2.map HostT.cells) : List (List LV)) = ((s7.1, (IntKind.i64.wrap (s7.2.1 + 1)), s7.2.2).2.2.map HostT.cells))), rfl, NLss_bel (NLss_map' _)⟩, trivial⟩ blT rfl (K7 _ e.symm)
  ·replace b7 := condF (by first | exact hc | (simpa only [se_len, se_ch, List.length_map] using hc; done) | (have h0 : (decide (s7.2.1 < (((s7.2.2.map HostT.cells).length : Nat) : Int))) = false := hc; simpa only [se_len, se_ch, List.length_map] using h0)) b7
   conv => whnf
   have e := Option.some.inj b7
   replace e := hbrk7 _ e.symm
   rw [e] at r7
   dsimp only [aftM] at r7
   replace r7 := grdS r7
   obtain ⟨g17, r7⟩ := r7
   replace g17 : (0 : Int) ≤ s7.1 ∧ s7.1 < (((s7.2.2.map HostT.cells).length : Nat) : Int) := by simpa only [se_len, se_ch, List.length_map] using g17
   have l18 : (0 + (s7.1 : Int).toNat) + ((s7.2.2.map HostT.cells).length - (s7.1 : Int).toNat) = (s7.2.2.map HostT.cells).length := by (try simp only [se_len, se_ch, List.length_map]); (try simp only [se_len, se_ch, List.length_map] at *); omega
   replace r7 := grdS r7
   obtain ⟨g19, r7⟩ := r7
   replace g19 : (0 : Int) ≤ s7.1 ∧ s7.1 ≤ (((s7.2.2.map HostT.cells).length : Nat) : Int) := by simpa only [se_len, se_ch, List.length_map] using g19
   have e := Option.some.inj r7
   subst e
   repeat' first | exact rA _ | exact ⟨[(0, (.row 80 2 ((s7.2.2.take (s7.1 : Int).toNat).map HostT.cells)))], ⟨⟨(congrArg (fun q => some (Blk.row 80 2 q)) (by first | (simp only [se_map, se_byL, se_len, se_ch, List.length_map]; done) | (simp only [se_map, se_byL, se_len, se_ch, List.length_map, Nat.zero_add]; done) : (((s7.2.2.map HostT.cells).take (0 + (s7.1 : Int).toNat)) : List (List LV)) = ((s7.2.2.take (s7.1 : Int).toNat).map HostT.cells))), rfl, NLss_bel (NLss_map' _)⟩, trivial⟩, blT, (congrArg (LV.sl 0 0) (by (try simp only [se_map, se_byL, se_len, se_ch, List.length_map]); first | done | rfl | omega | (simp only [se_len, se_ch, List.length_map] at *; omega) : (s7.1 : Int).toNat = ((s7.2.2.take (s7.1 : Int).toNat).map HostT.cells).length)), rfl⟩ | exact g17 | exact g19 | exact l18 | exact clA _ | (refine And.intro ?_ ?_ <;> conv => whnf) | exact clG _ | (refine gand ?_ h; assumption) | exact clN _ | fail

def lan_On_1 (a0 : HostT) (q1 : Int) : Option Bool :=
 some (!decide (a0.Seg = q1))

theorem c_lan_On_1 (a0 : HostT) (q1 : Int) (r : Bool) (h : lan_On_1 a0 q1 = some r) : CallP Try.prog 38 [(LV.agg [(I a0.Mac), (I a0.Seg)]), (LV.rptr [(I q1)])] (LV.bool r) := by
 unfold lan_On_1 at h
 refine .intro nlA (.intro TT_ok Try.func38 rfl rfl [0, 1, 2, 3] rfl ?_)
 conv => whnf
 have e := Option.some.inj h
 subst e
 repeat' first | exact rA _ | exact clA _ | (refine And.intro ?_ ?_ <;> conv => whnf) | exact clG _ | (refine gand ?_ h; assumption) | exact clN _ | fail

def lan_On_c1 (a1 : Int) (k4 : Nat) (k5 : Nat) (x5 : LinkT) (s5 : (List A2_Int)) : Option (Step (Step ((List HostT) × (List A2_Int) × Int) (List A2_Int)) (List A2_Int)) :=
 (bif (bif x5.Up then (decide (x5.Seg = a1)) else false) then
  grd (fits ((s5 ++ ([(⟨((k4 : Nat) : Int), ((k5 : Nat) : Int)⟩ : A2_Int)] : (List A2_Int))) : List A2_Int).length 16) <|
  some (.nxt (s5 ++ ([(⟨((k4 : Nat) : Int), ((k5 : Nat) : Int)⟩ : A2_Int)] : (List A2_Int))))
 else
  some (.nxt s5))

def lan_On_c0 (a1 : Int) (k4 : Nat) (x4 : PlanT) (s4 : (List A2_Int)) : Option (Step ((List HostT) × (List A2_Int) × Int) (List A2_Int)) :=
 aft (rangeL (lan_On_c1 a1 k4) x4.Ports s4) fun s5 =>
 some (.nxt s5)

def lan_On (a0 : LanT) (a1 : Int) : Option ((List HostT) × (List A2_Int) × Int) :=
 (lan_may a0 a1).bind fun y1 =>
 (bif (!decide (y1 = 0)) then
  some ([], [], y1)
 else
  aft (rangeL (lan_On_c0 a1) a0.Plans ([] : (List A2_Int))) fun s4 =>
  (slices_Clone_Host a0.Hosts).bind fun y4 =>
  (slices_DeleteFunc_Host y4 (fun x0_ => lan_On_1 x0_ a1)).bind fun y6 =>
  some (y6, s4, 0))

theorem c_lan_On (a0 : LanT) (a1 : Int) (r : ((List HostT) × (List A2_Int) × Int)) (h : lan_On a0 a1 = some r) : CallP Try.prog 14 [(LV.agg [(I a0.Segs), (LV.ro 2 (a0.Plans.map PlanT.cells)), (LV.ro 2 (a0.Hosts.map HostT.cells))]), (I a1)] (LV.tup [(LV.ro 2 (r.1.map HostT.cells)), (LV.ro 2 (r.2.1.map A2_Int.cells)), (I r.2.2)]) := by
 unfold lan_On at h
 refine .intro nlA (.intro TT_ok Try.func14 rfl rfl [0, 1, 2, 3, 4, 5, 6, 7, 8, 9, 10, 11, 12, 13, 18, 21, 22, 23, 24, 29, 30, 31, 32, 43, 1000036, 2000036] rfl ?_)
 conv => whnf
 replace h := bindS h
 obtain ⟨y1, hy1, h⟩ := h
 have c2 := c_lan_may a0 a1 _ hy1
 repeat' first | exact rA _ | refine parkI ?_ | (refine CallP.use c2 ?_; conv => whnf) | (refine And.intro ?_ ?_ <;> conv => whnf) | fail
 refine parkE (fun hc => ?_) (fun hc => ?_)
 ·replace h := condT hc h
  conv => whnf
  have e := Option.some.inj h
  subst e
  repeat' first | exact rA _ | exact clA _ | (refine And.intro ?_ ?_ <;> conv => whnf) | exact clG _ | (refine gand ?_ h; assumption) | exact clN _ | fail
 ·replace h := condF hc h
  conv => whnf
  repeat' first | exact rA _ | refine parkI ?_ | (refine And.intro ?_ ?_ <;> conv => whnf) | fail
  replace h := aftS h
  obtain ⟨O4, hO4, r4⟩ := h
  refine LoopW.virt 8 41 2 rfl ?_
  refine LoopW.norm [(2, (LV.ptr 0 0 0)), (3, (LV.ptr 1 0 0)), (8, (LV.sl 2 0 (([] : (List A2_Int)).map A2_Int.cells).length)), (21, (LV.ro 2 (a0.Plans.map PlanT.cells))), (22, (I (((a0.Plans.map PlanT.cells).length : Nat) : Int))), (23, (I ((0 : Nat) : Int)))] 3 [(0, (.row 25 3 [[(I a0.Segs), (LV.ro 2 (a0.Plans.map PlanT.cells)), (LV.ro 2 (a0.Hosts.map HostT.cells))]])), (1, (.row 3 1 [[(I a1)]])), (2, (.row 41 2 (([] : (List A2_Int)).map A2_Int.cells)))] ⟨rfl, rfl, (by exact congrArg (LV.sl 2 0) (clL _ : 0 = (([] : (List A2_Int)).map A2_Int.cells).length)), rfl, rfl, rfl, trivial⟩ ⟨⟨rfl, rfl, blT⟩, ⟨⟨rfl, rfl, blT⟩, ⟨⟨(congrArg (fun q => some (Blk.row 41 2 q)) (smT : ([] : List (List LV)) = (([] : (List A2_Int)).map A2_Int.cells))), rfl, NLss_bel (NLss_map' _)⟩, trivial⟩⟩⟩ blT rfl ?_
  refine LoopW.forR (fun k4 s4 => [(2, (LV.ptr 0 0 0)), (3, (LV.ptr 1 0 0)), (8, (LV.sl 2 0 (s4.map A2_Int.cells).length)), (21, (LV.ro 2 (a0.Plans.map PlanT.cells))), (22, (I (((a0.Plans.map PlanT.cells).length : Nat) : Int))), (23, (I ((k4 : Nat) : Int)))]) (fun s4 => ⟨3, [(0, (.row 25 3 [[(I a0.Segs), (LV.ro 2 (a0.Plans.map PlanT.cells)), (LV.ro 2 (a0.Hosts.map HostT.cells))]])), (1, (.row 3 1 [[(I a1)]])), (2, (.row 41 2 (s4.map A2_Int.cells)))]⟩) hO4 (fun hl4 s4 hs4 => ?_) (fun hl4 k4 x4 s4 o4 hk4 hx4 b4 K4 hret4 hbrk4 => ?_)
  ·rw [hs4] at r4
   dsimp only [aftM] at r4
   have hd : decide (((a0.Plans.length : Nat) : Int) < (((a0.Plans.map PlanT.cells).length : Nat) : Int)) = false := by rw [decide_eq_false_iff_not]; (try simp only [se_len, se_ch, List.length_map]); omega
   refine LoopW.round TT_ok [0, 1, 2, 3, 4, 5, 6, 7, 8, 9, 10, 11, 12, 13, 18, 21, 22, 23, 24, 29, 30, 31, 32, 43, 1000036, 2000036] ?_
   conv => whnf
   repeat' first | exact rA _ | refine parkI ?_ | (refine And.intro ?_ ?_ <;> conv => whnf) | fail
   refine parkE (fun hc => ?_) (fun hc => ?_)
   ·exact (Bool.false_ne_true (hd.symm.trans hc)).elim
   ·clear hd
    conv => whnf
    replace r4 := bindS r4
    obtain ⟨y4, hy4, r4⟩ := r4
    have c5 := cf_slices_Clone_Host a0.Hosts _ hy4
    replace r4 := bindS r4
    obtain ⟨y6, hy6, r4⟩ := r4
    have c7 := w_slices_DeleteFunc_Host y4 38 [] [(LV.rptr [(I a1)])] (fun x0_ => lan_On_1 x0_ a1) (fun x0_ r h => c_lan_On_1 x0_ a1 r h) nlB _ hy6
    have e := Option.some.inj r4
    subst e
    repeat' first | exact rA _ | (refine CallW.done (CallF.at c5 nlA (NLss_map' _)) ?_; conv => whnf) | (refine ⟨_, _, CallF.at c5 nlA (NLss_map' _), ?_⟩; conv => whnf) | (refine CallW.frame (nx2 := 4) (l2 := [(3, (.row 80 2 (y6.map HostT.cells)))]) [(3, 0)] [(0, 3)] c7 rfl rfl ⟨⟨rfl, rfl, .inl ⟨rfl, nlT⟩⟩, rfl, rfl, trivial⟩ rfl rfl ⟨⟨rfl, rfl, .inl ⟨rfl, nlT⟩⟩, rfl, rfl, trivial⟩ ?_; conv => whnf) | exact clA _ | (refine And.intro ?_ ?_ <;> conv => whnf) | exact clG _ | (refine gand ?_ h; assumption) | exact clN _ | fail
  ·unfold lan_On_c0 at b4
   have hd : decide (((k4 : Nat) : Int) < (((a0.Plans.map PlanT.cells).length : Nat) : Int)) = true := by rw [decide_eq_true_eq]; (try simp only [se_len, se_ch, List.length_map] at hk4); (try simp only [se_len, se_ch, List.length_map]); omega
   refine LoopW.round TT_ok [0, 1, 2, 3, 4, 5, 6, 7, 8, 9, 10, 11, 12, 13, 18, 21, 22, 23, 24, 29, 30, 31, 32, 43, 1000036, 2000036] ?_
   conv => whnf
   repeat' first | exact rA _ | refine parkI ?_ | (refine And.intro ?_ ?_ <;> conv => whnf) | fail
   refine parkE (fun hc => ?_) (fun hc => ?_)
   ·clear hd
    conv => whnf
    repeat' first | exact rA _ | refine parkI ?_ | (refine ⟨_, (kixF (f := PlanT.cells) hx4), ?_⟩; conv => whnf) | (refine And.intro ?_ ?_ <;> conv => whnf) | fail
    replace b4 := aftS b4
    obtain ⟨O5, hO5, r5⟩ := b4
    refine LoopW.norm [(2, (LV.ptr 0 0 0)), (3, (LV.ptr 1 0 0)), (8, (LV.sl 2 0 (s4.map A2_Int.cells).length)), (9, (I ((k4 : Nat) : Int))), (21, (LV.ro 2 (a0.Plans.map PlanT.cells))), (22, (I (((a0.Plans.map PlanT.cells).length : Nat) : Int))), (23, (I ((k4 : Nat) : Int))), (29, (LV.ro 3 (x4.Ports.map LinkT.cells))), (30, (I (((x4.Ports.map LinkT.cells).length : Nat) : Int))), (31, (I ((0 : Nat) : Int)))] 3 [(0, (.row 25 3 [[(I a0.Segs), (LV.ro 2 (a0.Plans.map PlanT.cells)), (LV.ro 2 (a0.Hosts.map HostT.cells))]])), (1, (.row 3 1 [[(I a1)]])), (2, (.row 41 2 (s4.map A2_Int.cells)))] ⟨rfl, rfl, rfl, rfl, rfl, rfl, rfl, rfl, rfl, rfl, trivial⟩ ⟨⟨rfl, rfl, blT⟩, ⟨⟨rfl, rfl, blT⟩, ⟨⟨rfl, rfl, NLss_bel (NLss_map' _)⟩, trivial⟩⟩⟩ blT rfl ?_
    refine LoopW.forR (fun k5 s5 => [(2, (LV.ptr 0 0 0)), (3, (LV.ptr 1 0 0)), (8, (LV.sl 2 0 (s5.map A2_Int.cells).length)), (9, (I ((k4 : Nat) : Int))), (21, (LV.ro 2 (a0.Plans.map PlanT.cells))), (22, (I (((a0.Plans.map PlanT.cells).length : Nat) : Int))), (23, (I ((k4 : Nat) : Int))), (29, (LV.ro 3 (x4.Ports.map LinkT.cells))), (30, (I (((x4.Ports.map LinkT.cells).length : Nat) : Int))), (31, (I ((k5 : Nat) : Int)))]) (fun s5 => ⟨3, [(0, (.row 25 3 [[(I a0.Segs), (LV.ro 2 (a0.Plans.map PlanT.cells)), (LV.ro 2 (a0.Hosts.map HostT.cells))]])), (1, (.row 3 1 [[(I a1)]])), (2, (.row 41 2 (s5.map A2_Int.cells)))]⟩) hO5 (fun hl5 s5 hs5 => ?_) (fun hl5 k5 x5 s5 o5 hk5 hx5 b5 K5 hret5 hbrk5 => ?_)
    ·rw [hs5] at r5
     dsimp only [aftM] at r5
     have hd : decide (((x4.Ports.length : Nat) : Int) < (((x4.Ports.map LinkT.cells).length : Nat) : Int)) = false := by rw [decide_eq_false_iff_not]; (try simp only [se_len, se_ch, List.length_map]); omega
     refine LoopW.round TT_ok [0, 1, 2, 3, 4, 5, 6, 7, 8, 9, 10, 11, 12, 13, 18, 21, 22, 23, 24, 29, 30, 31, 32, 43, 1000036, 2000036] ?_
     conv => whnf
     repeat' first | exact rA _ | refine parkI ?_ | (refine And.intro ?_ ?_ <;> conv => whnf) | fail
     refine parkE (fun hc => ?_) (fun hc => ?_)
     ·exact (Bool.false_ne_true (hd.symm.trans hc)).elim
     ·clear hd
      conv => whnf
      repeat' first | exact rA _ | refine parkI ?_ | (refine And.intro ?_ ?_ <;> conv => whnf) | fail
      have e := Option.some.inj r5
      refine LoopW.norm [(2, (LV.ptr 0 0 0)), (3, (LV.ptr 1 0 0)), (8, (LV.sl 2 0 (s5.map A2_Int.cells).length)), (21, (LV.ro 2 (a0.Plans.map PlanT.cells))), (22, (I (((a0.Plans.map PlanT.cells).length : Nat) : Int))), (23, (I ((k4 + 1 : Nat) : Int)))] 3 [(0, (.row 25 3 [[(I a0.Segs), (LV.ro 2 (a0.Plans.map PlanT.cells)), (LV.ro 2 (a0.Hosts.map HostT.cells))]])), (1, (.row 3 1 [[(I a1)]])), (2, (.row 41 2 (s5.map A2_Int.cells)))] ⟨rfl, rfl, rfl, rfl, rfl, (congrArg (LV.int .i64) (w64_nat _ (by omega))), trivial⟩ ⟨⟨rfl, rfl, blT⟩, ⟨⟨rfl, rfl, blT⟩, ⟨⟨rfl, rfl, NLss_bel (NLss_map' _)⟩, trivial⟩⟩⟩ blT rfl (K4 _ e.symm)
    ·unfold lan_On_c1 at b5
     have hd : decide (((k5 : Nat) : Int) < (((x4.Ports.map LinkT.cells).length : Nat) : Int)) = true := by rw [decide_eq_true_eq]; (try simp only [se_len, se_ch, List.length_map] at hk5); (try simp only [se_len, se_ch, List.length_map]); omega
     refine LoopW.round TT_ok [0, 1, 2, 3, 4, 5, 6, 7, 8, 9, 10, 11, 12, 13, 18, 21, 22, 23, 24, 29, 30, 31, 32, 43, 1000036, 2000036] ?_
     conv => whnf
     repeat' first | exact rA _ | refine parkI ?_ | (refine And.intro ?_ ?_ <;> conv => whnf) | fail
     refine parkE (fun hc => ?_) (fun hc => ?_)
     ·clear hd
      conv => whnf
      repeat' first | exact rA _ | refine parkI ?_ | (refine ⟨_, (kixF (f := LinkT.cells) hx5), ?_⟩; conv => whnf) | exact clA _ | (refine And.intro ?_ ?_ <;> conv => whnf) | exact clG _ | (refine gand ?_ h; assumption) | fail
      refine parkE (fun hc => ?_) (fun hc => ?_)
      ·replace b5 := condT hc b5
       conv => whnf
       replace b5 := grdS b5
       obtain ⟨g3, b5⟩ := b5
       replace g3 : fits (((s5.map A2_Int.cells) ++ [[(I ((k4 : Nat) : Int)), (I ((k5 : Nat) : Int))]])).length 16 := by simpa only [se_len, se_ch, List.length_map] using g3
       repeat' first | exact rA _ | refine parkI ?_ | exact g3 | exact clA _ | (refine And.intro ?_ ?_ <;> conv => whnf) | exact clN _ | fail
       have e := Option.some.inj b5
       refine LoopW.ren [(0, 0), (1, 1), (5, 2)] [(2, (LV.ptr 0 0 0)), (3, (LV.ptr 1 0 0)), (8, (LV.sl 2 0 ((s5 ++ ([(⟨((k4 : Nat) : Int), ((k5 : Nat) : Int)⟩ : A2_Int)] : (List A2_Int))).map A2_Int.cells).length)), (9, (I ((k4 : Nat) : Int))), (21, (LV.ro 2 (a0.Plans.map PlanT.cells))), (22, (I (((a0.Plans.map PlanT.cells).length : Nat) : Int))), (23, (I ((k4 : Nat) : Int))), (29, (LV.ro 3 (x4.Ports.map LinkT.cells))), (30, (I (((x4.Ports.map LinkT.cells).length : Nat) : Int))), (31, (I ((k5 + 1 : Nat) : Int)))] 3 [(0, (.row 25 3 [[(I a0.Segs), (LV.ro 2 (a0.Plans.map PlanT.cells)), (LV.ro 2 (a0.Hosts.map HostT.cells))]])), (1, (.row 3 1 [[(I a1)]])), (2, (.row 41 2 ((s5 ++ ([(⟨((k4 : Nat) : Int), ((k5 : Nat) : Int)⟩ : A2_Int)] : (List A2_Int))).map A2_Int.cells)))] rfl ⟨rfl, rfl, (by exact congrArg (LV.sl 2 0) (clL _ : (((s5.map A2_Int.cells) ++ [[(I ((k4 : Nat) : Int)), (I ((k5 : Nat) : Int))]])).length = ((s5 ++ ([(⟨((k4 : Nat) : Int), ((k5 : Nat) : Int)⟩ : A2_Int)] : (List A2_Int))).map A2_Int.cells).length)), rfl, rfl, rfl, rfl, rfl, rfl, (congrArg (LV.int .i64) (w64_nat _ (by omega))), trivial⟩ ⟨⟨rfl, rfl, .inl ⟨rfl, nlT⟩⟩, rfl, rfl, ⟨⟨rfl, rfl, .inl ⟨rfl, nlT⟩⟩, rfl, rfl, ⟨⟨rfl, rfl, .inl ⟨(smT : (((s5.map A2_Int.cells) ++ [[(I ((k4 : Nat) : Int)), (I ((k5 : Nat) : Int))]]) : List (List LV)) = ((s5 ++ ([(⟨((k4 : Nat) : Int), ((k5 : Nat) : Int)⟩ : A2_Int)] : (List A2_Int))).map A2_Int.cells)), nlT⟩⟩, rfl, rfl, trivial⟩⟩⟩ rfl (K5 _ e.symm)
      ·replace b5 := condF hc b5
       conv => whnf
       repeat' first | exact rA _ | refine parkI ?_ | (refine And.intro ?_ ?_ <;> conv => whnf) | fail
       have e := Option.some.inj b5
       refine LoopW.norm [(2, (LV.ptr 0 0 0)), (3, (LV.ptr 1 0 0)), (8, (LV.sl 2 0 (s5.map A2_Int.cells).length)), (9, (I ((k4 : Nat) : Int))), (21, (LV.ro 2 (a0.Plans.map PlanT.cells))), (22, (I (((a0.Plans.map PlanT.cells).length : Nat) : Int))), (23, (I ((k4 : Nat) : Int))), (29, (LV.ro 3 (x4.Ports.map LinkT.cells))), (30, (I (((x4.Ports.map LinkT.cells).length : Nat) : Int))), (31, (I ((k5 + 1 : Nat) : Int)))] 3 [(0, (.row 25 3 [[(I a0.Segs), (LV.ro 2 (a0.Plans.map PlanT.cells)), (LV.ro 2 (a0.Hosts.map HostT.cells))]])), (1, (.row 3 1 [[(I a1)]])), (2, (.row 41 2 (s5.map A2_Int.cells)))] ⟨rfl, rfl, rfl, rfl, rfl, rfl, rfl, rfl, rfl, (congrArg (LV.int .i64) (w64_nat _ (by omega))), trivial⟩ ⟨⟨rfl, rfl, blT⟩, ⟨⟨rfl, rfl, blT⟩, ⟨⟨rfl, rfl, NLss_bel (NLss_map' _)⟩, trivial⟩⟩⟩ blT rfl (K5 _ e.symm)
     ·exact (Bool.false_ne_true (hc.symm.trans hd)).elim
   ·exact (Bool.false_ne_true (hc.symm.trans hd)).elim

end Go.RX
