/- Plain functions, and what says that the program's functions compute them. -/
import Derived.Test.YtknjenjjhdhemaaSrt
set_option linter.unusedVariables false
set_option linter.unusedSimpArgs false
open Go Go.RX Go.Proofs
namespace Go.RX
set_option maxRecDepth 10000
set_option maxHeartbeats 4000000
attribute [local irreducible] CallW CallP LoopW W IntKind.wrap bitI
def lan_in (a0 : Int) (a1 : Int) (a2 : Int) : Option Bool :=
  some (bif (decide (a1 ≤ a0)) then (decide (a0 ≤ a2)) else false)

theorem c_lan_in (a0 : Int) (a1 : Int) (a2 : Int) (r : Bool) (h : lan_in a0 a1 a2 = some r) : CallP Try.prog 93 [(I a0), (I a1), (I a2)] (LV.bool r) := by
  unfold lan_in at h
  refine .intro nlA (.intro TT_ok Try.func93 rfl rfl [0, 1, 2, 6] rfl ?_)
  conv => whnf
  have e := Option.some.inj h
  subst e
  repeat' first | with_reducible rfl | with_reducible exact True.intro | with_reducible assumption | exact clA _ | (refine And.intro ?_ ?_ <;> conv => whnf) | exact clG _ | (refine gand ?_ h; assumption) | exact clN _ | fail

theorem ke_3 (a b : Int) : eqL TT 8 3 (I a) (I b) = some (decide (a = b)) := rfl

def slices_IndexFunc_Link_c0 (q1 : (LinkT → Option Bool)) (k2 : Nat) (x2 : LinkT) (s2 : Unit) : Option (Step Int Unit) :=
  (q1 x2).bind fun y7 =>
  (bif y7 then
    some (.ret ((k2 : Nat) : Int))
  else
    some (.nxt ()))

def slices_IndexFunc_Link (a0 : (List LinkT)) (q1 : (LinkT → Option Bool)) : Option Int :=
  aft (rangeL (slices_IndexFunc_Link_c0 q1) a0 ()) fun s2 =>
  some (-1)

theorem c_slices_IndexFunc_Link (a0 : (List LinkT)) (fn1 : Nat) (ff1 fc1 : List LV) (q1 : (LinkT → Option Bool)) (hq1 : ∀ (x0 : LinkT) (r : Bool), q1 x0 = some r → CallP Try.prog fn1 (ff1 ++ [(LV.agg [(I x0.Seg), (I x0.Cost), (LV.bool x0.Up)])] ++ fc1) (LV.bool r)) (hn1 : NLs ff1 ∧ NLs fc1) (r : Int) (h : slices_IndexFunc_Link a0 q1 = some r) : CallP Try.prog 149 [(LV.ro 3 (a0.map LinkT.cells)), (LV.func (.func fn1) ff1 fc1)] (I r) := by
  have hnA1 := hn1.1
  have hnB1 := hn1.2
  unfold slices_IndexFunc_Link at h
  refine .intro nlA (.intro TT_ok Try.func149 rfl rfl [0, 1, 4, 5, 7, 8, 9, 16] rfl ?_)
  conv => whnf
  repeat' first | with_reducible rfl | with_reducible exact True.intro | with_reducible assumption | refine parkI ?_ | (refine And.intro ?_ ?_ <;> conv => whnf) | fail
  replace h := aftS h
  obtain ⟨O2, hO2, r2⟩ := h
  refine LoopW.norm [(0, (LV.ro 3 (a0.map LinkT.cells))), (1, (LV.func (.func fn1) ff1 fc1)), (7, (I (((a0.map LinkT.cells).length : Nat) : Int))), (8, (I ((0 : Nat) : Int)))] 0 [] ⟨rfl, rfl, rfl, rfl, trivial⟩ trivial blT rfl ?_
  refine LoopW.forR (fun k2 s2 => [(0, (LV.ro 3 (a0.map LinkT.cells))), (1, (LV.func (.func fn1) ff1 fc1)), (7, (I (((a0.map LinkT.cells).length : Nat) : Int))), (8, (I ((k2 : Nat) : Int)))]) (fun s2 => ⟨0, []⟩) hO2 (fun hl2 s2 hs2 => ?_) (fun hl2 k2 x2 s2 o2 hk2 hx2 b2 K2 hret2 hbrk2 => ?_)
  · rw [hs2] at r2
    dsimp only [aftM] at r2
    have hd : decide (((a0.length : Nat) : Int) < (((a0.map LinkT.cells).length : Nat) : Int)) = false := by rw [decide_eq_false_iff_not]; (try simp only [se_len, se_ch, List.length_map]); omega
    refine LoopW.round TT_ok [0, 1, 4, 5, 7, 8, 9, 16] ?_
    conv => whnf
    repeat' first | with_reducible rfl | with_reducible exact True.intro | with_reducible assumption | refine parkI ?_ | (refine And.intro ?_ ?_ <;> conv => whnf) | fail
    refine parkE (fun hc => ?_) (fun hc => ?_)
    · exact (Bool.false_ne_true (hd.symm.trans hc)).elim
    · clear hd
      conv => whnf
      have e := Option.some.inj r2
      subst e
      repeat' first | with_reducible rfl | with_reducible exact True.intro | with_reducible assumption | exact clA _ | (refine And.intro ?_ ?_ <;> conv => whnf) | exact clG _ | (refine gand ?_ h; assumption) | exact clN _ | fail
  · unfold slices_IndexFunc_Link_c0 at b2
    have hd : decide (((k2 : Nat) : Int) < (((a0.map LinkT.cells).length : Nat) : Int)) = true := by rw [decide_eq_true_eq]; (try simp only [se_len, se_ch, List.length_map] at hk2); (try simp only [se_len, se_ch, List.length_map]); omega
    refine LoopW.round TT_ok [0, 1, 4, 5, 7, 8, 9, 16] ?_
    conv => whnf
    repeat' first | with_reducible rfl | with_reducible exact True.intro | with_reducible assumption | refine parkI ?_ | (refine And.intro ?_ ?_ <;> conv => whnf) | fail
    refine parkE (fun hc => ?_) (fun hc => ?_)
    · clear hd
      conv => whnf
      replace b2 := bindS b2
      obtain ⟨y7, hy7, b2⟩ := b2
      have c8 := hq1 x2 _ hy7
      repeat' first | with_reducible rfl | with_reducible exact True.intro | with_reducible assumption | refine parkI ?_ | (refine ⟨_, (kixF (f := LinkT.cells) hx2), ?_⟩; conv => whnf) | (refine CallP.use c8 ?_; conv => whnf) | (refine frzB_call rfl (slN_nil hn1) ?_; conv => whnf) | (refine And.intro ?_ ?_ <;> conv => whnf) | fail
      refine parkE (fun hc => ?_) (fun hc => ?_)
      · replace b2 := condT hc b2
        conv => whnf
        have e := Option.some.inj b2
        replace e := hret2 _ e.symm
        rw [e] at r2
        replace e := Option.some.inj r2
        subst e
        repeat' first | with_reducible rfl | with_reducible exact True.intro | with_reducible assumption | exact clA _ | (refine And.intro ?_ ?_ <;> conv => whnf) | exact clG _ | (refine gand ?_ h; assumption) | exact clN _ | fail
      · replace b2 := condF hc b2
        conv => whnf
        repeat' first | with_reducible rfl | with_reducible exact True.intro | with_reducible assumption | refine parkI ?_ | (refine And.intro ?_ ?_ <;> conv => whnf) | fail
        have e := Option.some.inj b2
        refine LoopW.norm [(0, (LV.ro 3 (a0.map LinkT.cells))), (1, (LV.func (.func fn1) ff1 fc1)), (7, (I (((a0.map LinkT.cells).length : Nat) : Int))), (8, (I ((k2 + 1 : Nat) : Int)))] 0 [] ⟨rfl, rfl, rfl, (congrArg (LV.int .i64) (w64_nat _ (by omega))), trivial⟩ trivial blT rfl (K2 _ e.symm)
    · exact (Bool.false_ne_true (hc.symm.trans hd)).elim

def slices_ContainsFunc_Link (a0 : (List LinkT)) (q1 : (LinkT → Option Bool)) : Option Bool :=
  (slices_IndexFunc_Link a0 q1).bind fun y8 =>
  some (decide (0 ≤ y8))

theorem c_slices_ContainsFunc_Link (a0 : (List LinkT)) (fn1 : Nat) (ff1 fc1 : List LV) (q1 : (LinkT → Option Bool)) (hq1 : ∀ (x0 : LinkT) (r : Bool), q1 x0 = some r → CallP Try.prog fn1 (ff1 ++ [(LV.agg [(I x0.Seg), (I x0.Cost), (LV.bool x0.Up)])] ++ fc1) (LV.bool r)) (hn1 : NLs ff1 ∧ NLs fc1) (r : Bool) (h : slices_ContainsFunc_Link a0 q1 = some r) : CallP Try.prog 121 [(LV.ro 3 (a0.map LinkT.cells)), (LV.func (.func fn1) ff1 fc1)] (LV.bool r) := by
  have hnA1 := hn1.1
  have hnB1 := hn1.2
  unfold slices_ContainsFunc_Link at h
  refine .intro nlA (.intro TT_ok Try.func121 rfl rfl [0, 1, 4] rfl ?_)
  conv => whnf
  have n7 : slNs [(LV.ro 3 (a0.map LinkT.cells)), (LV.func (.func fn1) ff1 fc1)] = [] := slNs_nil nlA
  replace h := bindS h
  obtain ⟨y8, hy8, h⟩ := h
  have c9 := c_slices_IndexFunc_Link a0 fn1 ff1 fc1 q1 hq1 hn1 _ hy8
  have e := Option.some.inj h
  subst e
  repeat' first | with_reducible rfl | with_reducible exact True.intro | with_reducible assumption | (refine CallP.use c9 ?_; conv => whnf) | (refine frzB_call n7 rfl ?_; conv => whnf) | (refine frz_nil n7 ?_; conv => whnf) | exact clA _ | (refine And.intro ?_ ?_ <;> conv => whnf) | exact clG _ | (refine gand ?_ h; assumption) | exact clN _ | fail

def lan_isPlan_1 (a0 : LinkT) (q1 : Int) : Option Bool :=
  (lan_in a0.Seg 0 (IntKind.i64.wrap (q1 - 1))).bind fun y7 =>
  (gd (!(!y7)) (lan_in a0.Cost 1 1000)).bind fun y9 =>
  some (bif (!y7) then true else (!y9))

theorem c_lan_isPlan_1 (a0 : LinkT) (q1 : Int) (r : Bool) (h : lan_isPlan_1 a0 q1 = some r) : CallP Try.prog 120 [(LV.agg [(I a0.Seg), (I a0.Cost), (LV.bool a0.Up)]), (LV.rptr [(I q1)])] (LV.bool r) := by
  unfold lan_isPlan_1 at h
  refine .intro nlA (.intro TT_ok Try.func120 rfl rfl [0, 1, 2, 3] rfl ?_)
  conv => whnf
  replace h := bindS h
  obtain ⟨y7, hy7, h⟩ := h
  have c8 := c_lan_in a0.Seg 0 (IntKind.i64.wrap (q1 - 1)) _ hy7
  replace h := bindS h
  obtain ⟨y9, hy9, h⟩ := h
  have c10 := fun (hg : (!(!y7)) = true) => c_lan_in a0.Cost 1 1000 _ (gdS hg hy9)
  have e := Option.some.inj h
  subst e
  repeat' first | with_reducible rfl | with_reducible exact True.intro | with_reducible assumption | (refine ⟨_, c10, ?_⟩; conv => whnf) | (refine CallP.use c8 ?_; conv => whnf) | exact clA _ | (refine And.intro ?_ ?_ <;> conv => whnf) | exact clG _ | (refine gand ?_ h; assumption) | exact clN _ | fail

def lan_isPlan (a0 : PlanT) (a1 : Int) : Option Bool :=
  (lan_in a0.ID 0 65535).bind fun y3 =>
  (gd y3 (lan_in ((a0.Ports.length : Nat) : Int) 1 8)).bind fun y5 =>
  (bif (bif y3 then y5 else false) then
    (slices_ContainsFunc_Link a0.Ports (fun x0_ => lan_isPlan_1 x0_ a1)).bind fun y7 =>
    some (bif (bif y3 then y5 else false) then (!y7) else false)
  else
    some false)

theorem c_lan_isPlan (a0 : PlanT) (a1 : Int) (r : Bool) (h : lan_isPlan a0 a1 = some r) : CallP Try.prog 94 [(LV.agg [(I a0.ID), (LV.ro 3 (a0.Ports.map LinkT.cells))]), (I a1)] (LV.bool r) := by
  unfold lan_isPlan at h
  refine .intro nlA (.intro TT_ok Try.func94 rfl rfl [0, 1, 2, 3, 4, 5] rfl ?_)
  conv => whnf
  replace h := bindS h
  obtain ⟨y3, hy3, h⟩ := h
  have c4 := c_lan_in a0.ID 0 65535 _ hy3
  replace h := bindS h
  obtain ⟨y5, hy5, h⟩ := h
  have c6 : y3 = true → CallP Try.prog 93 [(I (((a0.Ports.map LinkT.cells).length : Nat) : Int)), (I 1), (I 8)] (LV.bool y5) := by first | exact fun (hg : y3 = true) => c_lan_in ((a0.Ports.length : Nat) : Int) 1 8 _ (gdS hg hy5) | (simpa only [se_map, se_byL, se_len, se_ch, List.length_map] using fun (hg : y3 = true) => c_lan_in ((a0.Ports.length : Nat) : Int) 1 8 _ (gdS hg hy5))
  repeat' first | with_reducible rfl | with_reducible exact True.intro | with_reducible assumption | refine parkI ?_ | (refine ⟨_, c6, ?_⟩; conv => whnf) | (refine CallP.use c4 ?_; conv => whnf) | exact clA _ | (refine And.intro ?_ ?_ <;> conv => whnf) | exact clG _ | (refine gand ?_ h; assumption) | fail
  refine parkE (fun hg1_ => ?_) (fun hg1_ => ?_)
  · replace h := condT (by first | exact hg1_ | simpa only [se_len, se_ch, List.length_map] using hg1_) h
    conv => whnf
    replace h := bindS h
    obtain ⟨y7, hy7, h⟩ := h
    have c8 := c_slices_ContainsFunc_Link a0.Ports 120 [] [(LV.rptr [(I a1)])] (fun x0_ => lan_isPlan_1 x0_ a1) (fun x0_ r h => c_lan_isPlan_1 x0_ a1 r h) nlB _ hy7
    have e := Option.some.inj h
    subst e
    repeat' first | with_reducible rfl | with_reducible exact True.intro | with_reducible assumption | (refine CallP.use c8 ?_; conv => whnf) | exact clA _ | (refine And.intro ?_ ?_ <;> conv => whnf) | exact clG _ | (refine gand ?_ h; assumption) | exact clN _ | (intro hq_; conv => whnf) | fail
  · replace h := condF (by first | exact hg1_ | simpa only [se_len, se_ch, List.length_map] using hg1_) h
    conv => whnf
    have e := Option.some.inj h
    subst e
    repeat' first | with_reducible rfl | with_reducible exact True.intro | with_reducible assumption | exact (by first | exact hg1_ | simpa using hg1_ : _ = false) | (refine ⟨?_, True.intro⟩; first | exact hg1_ | (simpa using hg1_; done)) | exact clA _ | (refine And.intro ?_ ?_ <;> conv => whnf) | exact clG _ | (refine gand ?_ h; assumption) | exact clN _ | (intro hq_; conv => whnf) | fail

def mac_Right (a0 : Int) : Option Bool :=
  some (bif (decide (0 ≤ a0)) then (decide (a0 ≤ 281474976710655)) else false)

theorem c_mac_Right (a0 : Int) (r : Bool) (h : mac_Right a0 = some r) : CallP Try.prog 122 [(I a0)] (LV.bool r) := by
  unfold mac_Right at h
  refine .intro nlA (.intro TT_ok Try.func122 rfl rfl [0, 2] rfl ?_)
  conv => whnf
  have e := Option.some.inj h
  subst e
  repeat' first | with_reducible rfl | with_reducible exact True.intro | with_reducible assumption | exact clA _ | (refine And.intro ?_ ?_ <;> conv => whnf) | exact clG _ | (refine gand ?_ h; assumption) | exact clN _ | fail

def mac_Class (a0 : Int) : Option (Int × Int) :=
  (mac_Right a0).bind fun y6 =>
  (bif (!y6) then
    some (0, 1)
  else
    (bif (decide ((bitI .andNot IntKind.i64 a0 15) = 1652522221568)) then
      some (2, 0)
    else
      some ((bitI .and IntKind.i64 ((a0).fdiv (2 ^ (min (40 : Int).toNat 64))) 1), 0)))

theorem c_mac_Class (a0 : Int) (r : (Int × Int)) (h : mac_Class a0 = some r) : CallP Try.prog 95 [(I a0)] (LV.tup [(I r.1), (I r.2)]) := by
  unfold mac_Class at h
  refine .intro nlA (.intro TT_ok Try.func95 rfl rfl [0, 2, 3, 4, 8] rfl ?_)
  conv => whnf
  replace h := bindS h
  obtain ⟨y6, hy6, h⟩ := h
  have c7 := c_mac_Right a0 _ hy6
  repeat' first | with_reducible rfl | with_reducible exact True.intro | with_reducible assumption | refine parkI ?_ | (refine CallP.use c7 ?_; conv => whnf) | (refine And.intro ?_ ?_ <;> conv => whnf) | fail
  refine parkE (fun hc => ?_) (fun hc => ?_)
  · replace h := condT hc h
    conv => whnf
    have e := Option.some.inj h
    subst e
    repeat' first | with_reducible rfl | with_reducible exact True.intro | with_reducible assumption | exact clA _ | (refine And.intro ?_ ?_ <;> conv => whnf) | exact clG _ | (refine gand ?_ h; assumption) | exact clN _ | fail
  · replace h := condF hc h
    conv => whnf
    repeat' first | with_reducible rfl | with_reducible exact True.intro | with_reducible assumption | refine parkI ?_ | (refine And.intro ?_ ?_ <;> conv => whnf) | fail
    refine parkE (fun hc => ?_) (fun hc => ?_)
    · replace h := condT hc h
      conv => whnf
      have e := Option.some.inj h
      subst e
      repeat' first | with_reducible rfl | with_reducible exact True.intro | with_reducible assumption | exact clA _ | (refine And.intro ?_ ?_ <;> conv => whnf) | exact clG _ | (refine gand ?_ h; assumption) | exact clN _ | fail
    · replace h := condF hc h
      conv => whnf
      have e := Option.some.inj h
      subst e
      repeat' first | with_reducible rfl | with_reducible exact True.intro | with_reducible assumption | exact (by decide : (0 : Int) ≤ 40) | exact clA _ | (refine And.intro ?_ ?_ <;> conv => whnf) | exact clG _ | (refine gand ?_ h; assumption) | exact clN _ | fail

def lan_Right_c0 (a0 : LanT) (k1 : Nat) (x1 : PlanT) (s1 : (List (Int × Int))) : Option (Step Bool (List (Int × Int))) :=
  (gd (!(decide (1 < (IntKind.i64.wrap ((mget s1 x1.ID 0) + 1))))) (lan_isPlan x1 a0.Segs)).bind fun y3 =>
  (bif (bif (decide (1 < (IntKind.i64.wrap ((mget s1 x1.ID 0) + 1)))) then true else (!y3)) then
    some (.ret false)
  else
    some (.nxt (mput s1 x1.ID (IntKind.i64.wrap ((mget s1 x1.ID 0) + 1)))))

def lan_Right_c1 (a0 : LanT) (k3 : Nat) (x3 : HostT) (s3 : (List (Int × Int))) : Option (Step Bool (List (Int × Int))) :=
  (mac_Class x3.Mac).bind fun y6 =>
  (gd (!(bif (bif (decide (1 < (IntKind.i64.wrap ((mget s3 x3.Mac 0) + 1)))) then true else (!decide (y6.2 = 0))) then true else (!decide (y6.1 = 0)))) (lan_in x3.Seg 0 (IntKind.i64.wrap (a0.Segs - 1)))).bind fun y8 =>
  (bif (bif (bif (bif (decide (1 < (IntKind.i64.wrap ((mget s3 x3.Mac 0) + 1)))) then true else (!decide (y6.2 = 0))) then true else (!decide (y6.1 = 0))) then true else (!y8)) then
    some (.ret false)
  else
    some (.nxt (mput s3 x3.Mac (IntKind.i64.wrap ((mget s3 x3.Mac 0) + 1)))))

def lan_Right (a0 : LanT) : Option Bool :=
  (lan_in a0.Segs 1 8).bind fun y1 =>
  (bif (bif (bif (!y1) then true else (decide (6 < ((a0.Plans.length : Nat) : Int)))) then true else (decide (8 < ((a0.Hosts.length : Nat) : Int)))) then
    some false
  else
    aft (rangeL (lan_Right_c0 a0) a0.Plans ([] : List (Int × Int))) fun s1 =>
    aft (rangeL (lan_Right_c1 a0) a0.Hosts ([] : List (Int × Int))) fun s3 =>
    some true)

theorem c_lan_Right (a0 : LanT) (r : Bool) (h : lan_Right a0 = some r) : CallP Try.prog 59 [(LV.agg [(I a0.Segs), (LV.ro 2 (a0.Plans.map PlanT.cells)), (LV.ro 2 (a0.Hosts.map HostT.cells))])] (LV.bool r) := by
  unfold lan_Right at h
  refine .intro nlA (.intro TT_ok Try.func59 rfl rfl [0, 1, 2, 3, 4, 6, 8, 9, 10, 26, 30, 31, 32, 33, 52, 55, 56, 57, 58, 93] rfl ?_)
  conv => whnf
  replace h := bindS h
  obtain ⟨y1, hy1, h⟩ := h
  have c2 := c_lan_in a0.Segs 1 8 _ hy1
  repeat' first | with_reducible rfl | with_reducible exact True.intro | with_reducible assumption | refine parkI ?_ | (refine CallP.use c2 ?_; conv => whnf) | exact clA _ | (refine And.intro ?_ ?_ <;> conv => whnf) | exact clG _ | (refine gand ?_ h; assumption) | fail
  refine parkE (fun hc => ?_) (fun hc => ?_)
  · replace h := condT (by first | exact hc | (simpa only [se_len, se_ch, List.length_map] using hc; done) | (have h0 : (bif (bif (!y1) then true else (decide (6 < (((a0.Plans.map PlanT.cells).length : Nat) : Int)))) then true else (decide (8 < (((a0.Hosts.map HostT.cells).length : Nat) : Int)))) = true := hc; simpa only [se_len, se_ch, List.length_map] using h0)) h
    conv => whnf
    have e := Option.some.inj h
    subst e
    repeat' first | with_reducible rfl | with_reducible exact True.intro | with_reducible assumption | exact clA _ | (refine And.intro ?_ ?_ <;> conv => whnf) | exact clG _ | (refine gand ?_ h; assumption) | exact clN _ | fail
  · replace h := condF (by first | exact hc | (simpa only [se_len, se_ch, List.length_map] using hc; done) | (have h0 : (bif (bif (!y1) then true else (decide (6 < (((a0.Plans.map PlanT.cells).length : Nat) : Int)))) then true else (decide (8 < (((a0.Hosts.map HostT.cells).length : Nat) : Int)))) = false := hc; simpa only [se_len, se_ch, List.length_map] using h0)) h
    conv => whnf
    repeat' first | with_reducible rfl | with_reducible exact True.intro | with_reducible assumption | refine parkI ?_ | (refine And.intro ?_ ?_ <;> conv => whnf) | fail
    replace h := aftS h
    obtain ⟨O1, hO1, r1⟩ := h
    refine LoopW.norm [(1, (LV.ptr 0 0 0)), (3, (LV.map 1)), (4, (LV.map 2)), (30, (LV.ro 2 (a0.Plans.map PlanT.cells))), (31, (I (((a0.Plans.map PlanT.cells).length : Nat) : Int))), (32, (I ((0 : Nat) : Int)))] 3 [(0, (.row 47 3 [[(I a0.Segs), (LV.ro 2 (a0.Plans.map PlanT.cells)), (LV.ro 2 (a0.Hosts.map HostT.cells))]])), (1, (.mp (([] : List (Int × Int)).map (mpC I I)))), (2, (.mp ([] : List (LV × LV))))] ⟨rfl, rfl, rfl, rfl, rfl, rfl, trivial⟩ ⟨⟨rfl, rfl, blT⟩, ⟨⟨(congrArg (fun q => some (Blk.mp q)) (by simp only [se_mp] : (([] : List (LV × LV)) : List (LV × LV)) = (([] : List (Int × Int)).map (mpC I I)))), rfl, bel_mp (f := I) (g := I) (fun _ => by repeat' first | exact True.intro | refine ⟨?_, ?_⟩) (fun _ => by repeat' first | exact True.intro | refine ⟨?_, ?_⟩) _ _⟩, ⟨⟨rfl, rfl, (by intro p hp; cases hp)⟩, trivial⟩⟩⟩ blT rfl ?_
    refine LoopW.forR (fun k1 s1 => [(1, (LV.ptr 0 0 0)), (3, (LV.map 1)), (4, (LV.map 2)), (30, (LV.ro 2 (a0.Plans.map PlanT.cells))), (31, (I (((a0.Plans.map PlanT.cells).length : Nat) : Int))), (32, (I ((k1 : Nat) : Int)))]) (fun s1 => ⟨3, [(0, (.row 47 3 [[(I a0.Segs), (LV.ro 2 (a0.Plans.map PlanT.cells)), (LV.ro 2 (a0.Hosts.map HostT.cells))]])), (1, (.mp (s1.map (mpC I I)))), (2, (.mp ([] : List (LV × LV))))]⟩) hO1 (fun hl1 s1 hs1 => ?_) (fun hl1 k1 x1 s1 o1 hk1 hx1 b1 K1 hret1 hbrk1 => ?_)
    · rw [hs1] at r1
      dsimp only [aftM] at r1
      have hd : decide (((a0.Plans.length : Nat) : Int) < (((a0.Plans.map PlanT.cells).length : Nat) : Int)) = false := by rw [decide_eq_false_iff_not]; (try simp only [se_len, se_ch, List.length_map]); omega
      refine LoopW.round TT_ok [0, 1, 2, 3, 4, 6, 8, 9, 10, 26, 30, 31, 32, 33, 52, 55, 56, 57, 58, 93] ?_
      conv => whnf
      repeat' first | with_reducible rfl | with_reducible exact True.intro | with_reducible assumption | refine parkI ?_ | (refine And.intro ?_ ?_ <;> conv => whnf) | fail
      refine parkE (fun hc => ?_) (fun hc => ?_)
      · exact (Bool.false_ne_true (hd.symm.trans hc)).elim
      · clear hd
        conv => whnf
        repeat' first | with_reducible rfl | with_reducible exact True.intro | with_reducible assumption | refine parkI ?_ | (refine And.intro ?_ ?_ <;> conv => whnf) | fail
        replace r1 := aftS r1
        obtain ⟨O3, hO3, r3⟩ := r1
        refine LoopW.norm [(1, (LV.ptr 0 0 0)), (4, (LV.map 2)), (55, (LV.ro 2 (a0.Hosts.map HostT.cells))), (56, (I (((a0.Hosts.map HostT.cells).length : Nat) : Int))), (57, (I ((0 : Nat) : Int)))] 3 [(0, (.row 47 3 [[(I a0.Segs), (LV.ro 2 (a0.Plans.map PlanT.cells)), (LV.ro 2 (a0.Hosts.map HostT.cells))]])), (2, (.mp (([] : List (Int × Int)).map (mpC I I))))] ⟨rfl, rfl, rfl, rfl, rfl, trivial⟩ ⟨⟨rfl, rfl, blT⟩, ⟨⟨(congrArg (fun q => some (Blk.mp q)) (by simp only [se_mp] : (([] : List (LV × LV)) : List (LV × LV)) = (([] : List (Int × Int)).map (mpC I I)))), rfl, bel_mp (f := I) (g := I) (fun _ => by repeat' first | exact True.intro | refine ⟨?_, ?_⟩) (fun _ => by repeat' first | exact True.intro | refine ⟨?_, ?_⟩) _ _⟩, trivial⟩⟩ blT rfl ?_
        refine LoopW.forR (fun k3 s3 => [(1, (LV.ptr 0 0 0)), (4, (LV.map 2)), (55, (LV.ro 2 (a0.Hosts.map HostT.cells))), (56, (I (((a0.Hosts.map HostT.cells).length : Nat) : Int))), (57, (I ((k3 : Nat) : Int)))]) (fun s3 => ⟨3, [(0, (.row 47 3 [[(I a0.Segs), (LV.ro 2 (a0.Plans.map PlanT.cells)), (LV.ro 2 (a0.Hosts.map HostT.cells))]])), (2, (.mp (s3.map (mpC I I))))]⟩) hO3 (fun hl3 s3 hs3 => ?_) (fun hl3 k3 x3 s3 o3 hk3 hx3 b3 K3 hret3 hbrk3 => ?_)
        · rw [hs3] at r3
          dsimp only [aftM] at r3
          have hd : decide (((a0.Hosts.length : Nat) : Int) < (((a0.Hosts.map HostT.cells).length : Nat) : Int)) = false := by rw [decide_eq_false_iff_not]; (try simp only [se_len, se_ch, List.length_map]); omega
          refine LoopW.round TT_ok [0, 1, 2, 3, 4, 6, 8, 9, 10, 26, 30, 31, 32, 33, 52, 55, 56, 57, 58, 93] ?_
          conv => whnf
          repeat' first | with_reducible rfl | with_reducible exact True.intro | with_reducible assumption | refine parkI ?_ | (refine And.intro ?_ ?_ <;> conv => whnf) | fail
          refine parkE (fun hc => ?_) (fun hc => ?_)
          · exact (Bool.false_ne_true (hd.symm.trans hc)).elim
          · clear hd
            conv => whnf
            have e := Option.some.inj r3
            subst e
            repeat' first | with_reducible rfl | with_reducible exact True.intro | with_reducible assumption | exact clA _ | (refine And.intro ?_ ?_ <;> conv => whnf) | exact clG _ | (refine gand ?_ h; assumption) | exact clN _ | fail
        · unfold lan_Right_c1 at b3
          have hd : decide (((k3 : Nat) : Int) < (((a0.Hosts.map HostT.cells).length : Nat) : Int)) = true := by rw [decide_eq_true_eq]; (try simp only [se_len, se_ch, List.length_map] at hk3); (try simp only [se_len, se_ch, List.length_map]); omega
          refine LoopW.round TT_ok [0, 1, 2, 3, 4, 6, 8, 9, 10, 26, 30, 31, 32, 33, 52, 55, 56, 57, 58, 93] ?_
          conv => whnf
          repeat' first | with_reducible rfl | with_reducible exact True.intro | with_reducible assumption | refine parkI ?_ | (refine And.intro ?_ ?_ <;> conv => whnf) | fail
          refine parkE (fun hc => ?_) (fun hc => ?_)
          · clear hd
            conv => whnf
            replace b3 := bindS b3
            obtain ⟨y6, hy6, b3⟩ := b3
            have c7 := c_mac_Class x3.Mac _ hy6
            rcases m3_ : mfind s3 x3.Mac with _ | ⟨w3_, u3_⟩
            · try simp only [mget_none m3_, mput_none m3_, mhas_none m3_, mget_mput] at b3
              have f8 : Finds TT 3 ((s3.map (mpC I I)) ++ [((I x3.Mac), (I (IntKind.i64.wrap (0 + 1))))]) (I x3.Mac) (some (s3.length, (I (IntKind.i64.wrap (0 + 1))))) := by simpa only [se_mp] using finds_some (f := I) (g := I) ke_3 (mfind_app m3_ (IntKind.i64.wrap (0 + 1)))
              replace b3 := bindS b3
              obtain ⟨y9, hy9, b3⟩ := b3
              have c10 := fun (hg : (!(bif (bif (decide (1 < (IntKind.i64.wrap (0 + 1)))) then true else (!decide (y6.2 = 0))) then true else (!decide (y6.1 = 0)))) = true) => c_lan_in x3.Seg 0 (IntKind.i64.wrap (a0.Segs - 1)) _ (gdS hg hy9)
              repeat' first | with_reducible rfl | with_reducible exact True.intro | with_reducible assumption | refine parkI ?_ | (refine ⟨_, (kixF (f := HostT.cells) hx3), ?_⟩; conv => whnf) | (refine ⟨_, (finds_none (g := I) ke_3 m3_), ?_⟩; conv => whnf) | (refine ⟨_, f8, ?_⟩; conv => whnf) | (refine ⟨_, c10, ?_⟩; conv => whnf) | (refine CallP.use c7 ?_; conv => whnf) | exact clA _ | (refine And.intro ?_ ?_ <;> conv => whnf) | exact clG _ | (refine gand ?_ h; assumption) | fail
              refine parkE (fun hc => ?_) (fun hc => ?_)
              · replace b3 := condT hc b3
                conv => whnf
                have e := Option.some.inj b3
                replace e := hret3 _ e.symm
                rw [e] at r3
                replace e := Option.some.inj r3
                subst e
                repeat' first | with_reducible rfl | with_reducible exact True.intro | with_reducible assumption | exact clA _ | (refine And.intro ?_ ?_ <;> conv => whnf) | exact clG _ | (refine gand ?_ h; assumption) | exact clN _ | fail
              · replace b3 := condF hc b3
                conv => whnf
                repeat' first | with_reducible rfl | with_reducible exact True.intro | with_reducible assumption | refine parkI ?_ | (refine And.intro ?_ ?_ <;> conv => whnf) | fail
                have e := Option.some.inj b3
                refine LoopW.norm [(1, (LV.ptr 0 0 0)), (4, (LV.map 2)), (55, (LV.ro 2 (a0.Hosts.map HostT.cells))), (56, (I (((a0.Hosts.map HostT.cells).length : Nat) : Int))), (57, (I ((k3 + 1 : Nat) : Int)))] 3 [(0, (.row 47 3 [[(I a0.Segs), (LV.ro 2 (a0.Plans.map PlanT.cells)), (LV.ro 2 (a0.Hosts.map HostT.cells))]])), (2, (.mp ((s3 ++ [(x3.Mac, (IntKind.i64.wrap (0 + 1)))]).map (mpC I I))))] ⟨rfl, rfl, rfl, rfl, (congrArg (LV.int .i64) (w64_nat _ (by omega))), trivial⟩ ⟨⟨rfl, rfl, blT⟩, ⟨⟨(congrArg (fun q => some (Blk.mp q)) (by simp only [se_mp] : (((s3.map (mpC I I)) ++ [((I x3.Mac), (I (IntKind.i64.wrap (0 + 1))))]) : List (LV × LV)) = ((s3 ++ [(x3.Mac, (IntKind.i64.wrap (0 + 1)))]).map (mpC I I)))), rfl, bel_mp (f := I) (g := I) (fun _ => by repeat' first | exact True.intro | refine ⟨?_, ?_⟩) (fun _ => by repeat' first | exact True.intro | refine ⟨?_, ?_⟩) _ _⟩, trivial⟩⟩ blT rfl (K3 _ e.symm)
            · try simp only [mget_some m3_, mput_some m3_, mhas_some m3_, mget_mput] at b3
              have f8 : Finds TT 3 (setN (s3.map (mpC I I)) w3_ ((I x3.Mac), (I (IntKind.i64.wrap (u3_ + 1))))) (I x3.Mac) (some (w3_, (I (IntKind.i64.wrap (u3_ + 1))))) := by simpa only [se_mp] using finds_some (f := I) (g := I) ke_3 (mfind_set m3_ (IntKind.i64.wrap (u3_ + 1)))
              replace b3 := bindS b3
              obtain ⟨y9, hy9, b3⟩ := b3
              have c10 := fun (hg : (!(bif (bif (decide (1 < (IntKind.i64.wrap (u3_ + 1)))) then true else (!decide (y6.2 = 0))) then true else (!decide (y6.1 = 0)))) = true) => c_lan_in x3.Seg 0 (IntKind.i64.wrap (a0.Segs - 1)) _ (gdS hg hy9)
              repeat' first | with_reducible rfl | with_reducible exact True.intro | with_reducible assumption | refine parkI ?_ | (refine ⟨_, (kixF (f := HostT.cells) hx3), ?_⟩; conv => whnf) | (refine ⟨_, (finds_some (g := I) ke_3 m3_), ?_⟩; conv => whnf) | (refine ⟨_, f8, ?_⟩; conv => whnf) | (refine ⟨_, c10, ?_⟩; conv => whnf) | (refine CallP.use c7 ?_; conv => whnf) | exact clA _ | (refine And.intro ?_ ?_ <;> conv => whnf) | exact clG _ | (refine gand ?_ h; assumption) | fail
              refine parkE (fun hc => ?_) (fun hc => ?_)
              · replace b3 := condT hc b3
                conv => whnf
                have e := Option.some.inj b3
                replace e := hret3 _ e.symm
                rw [e] at r3
                replace e := Option.some.inj r3
                subst e
                repeat' first | with_reducible rfl | with_reducible exact True.intro | with_reducible assumption | exact clA _ | (refine And.intro ?_ ?_ <;> conv => whnf) | exact clG _ | (refine gand ?_ h; assumption) | exact clN _ | fail
              · replace b3 := condF hc b3
                conv => whnf
                repeat' first | with_reducible rfl | with_reducible exact True.intro | with_reducible assumption | refine parkI ?_ | (refine And.intro ?_ ?_ <;> conv => whnf) | fail
                have e := Option.some.inj b3
                refine LoopW.norm [(1, (LV.ptr 0 0 0)), (4, (LV.map 2)), (55, (LV.ro 2 (a0.Hosts.map HostT.cells))), (56, (I (((a0.Hosts.map HostT.cells).length : Nat) : Int))), (57, (I ((k3 + 1 : Nat) : Int)))] 3 [(0, (.row 47 3 [[(I a0.Segs), (LV.ro 2 (a0.Plans.map PlanT.cells)), (LV.ro 2 (a0.Hosts.map HostT.cells))]])), (2, (.mp ((s3.set w3_ (x3.Mac, (IntKind.i64.wrap (u3_ + 1)))).map (mpC I I))))] ⟨rfl, rfl, rfl, rfl, (congrArg (LV.int .i64) (w64_nat _ (by omega))), trivial⟩ ⟨⟨rfl, rfl, blT⟩, ⟨⟨(congrArg (fun q => some (Blk.mp q)) (by simp only [se_mp] : ((setN (s3.map (mpC I I)) w3_ ((I x3.Mac), (I (IntKind.i64.wrap (u3_ + 1))))) : List (LV × LV)) = ((s3.set w3_ (x3.Mac, (IntKind.i64.wrap (u3_ + 1)))).map (mpC I I)))), rfl, bel_mp (f := I) (g := I) (fun _ => by repeat' first | exact True.intro | refine ⟨?_, ?_⟩) (fun _ => by repeat' first | exact True.intro | refine ⟨?_, ?_⟩) _ _⟩, trivial⟩⟩ blT rfl (K3 _ e.symm)
          · exact (Bool.false_ne_true (hc.symm.trans hd)).elim
    · unfold lan_Right_c0 at b1
      have hd : decide (((k1 : Nat) : Int) < (((a0.Plans.map PlanT.cells).length : Nat) : Int)) = true := by rw [decide_eq_true_eq]; (try simp only [se_len, se_ch, List.length_map] at hk1); (try simp only [se_len, se_ch, List.length_map]); omega
      refine LoopW.round TT_ok [0, 1, 2, 3, 4, 6, 8, 9, 10, 26, 30, 31, 32, 33, 52, 55, 56, 57, 58, 93] ?_
      conv => whnf
      repeat' first | with_reducible rfl | with_reducible exact True.intro | with_reducible assumption | refine parkI ?_ | (refine And.intro ?_ ?_ <;> conv => whnf) | fail
      refine parkE (fun hc => ?_) (fun hc => ?_)
      · clear hd
        conv => whnf
        rcases m2_ : mfind s1 x1.ID with _ | ⟨w2_, u2_⟩
        · try simp only [mget_none m2_, mput_none m2_, mhas_none m2_, mget_mput] at b1
          have f3 : Finds TT 3 ((s1.map (mpC I I)) ++ [((I x1.ID), (I (IntKind.i64.wrap (0 + 1))))]) (I x1.ID) (some (s1.length, (I (IntKind.i64.wrap (0 + 1))))) := by simpa only [se_mp] using finds_some (f := I) (g := I) ke_3 (mfind_app m2_ (IntKind.i64.wrap (0 + 1)))
          replace b1 := bindS b1
          obtain ⟨y4, hy4, b1⟩ := b1
          have c5 := fun (hg : (!(decide (1 < (IntKind.i64.wrap (0 + 1))))) = true) => c_lan_isPlan x1 a0.Segs _ (gdS hg hy4)
          repeat' first | with_reducible rfl | with_reducible exact True.intro | with_reducible assumption | refine parkI ?_ | (refine ⟨_, (kixF (f := PlanT.cells) hx1), ?_⟩; conv => whnf) | (refine ⟨_, (finds_none (g := I) ke_3 m2_), ?_⟩; conv => whnf) | (refine ⟨_, f3, ?_⟩; conv => whnf) | (refine ⟨_, c5, ?_⟩; conv => whnf) | exact clA _ | (refine And.intro ?_ ?_ <;> conv => whnf) | exact clG _ | (refine gand ?_ h; assumption) | fail
          refine parkE (fun hc => ?_) (fun hc => ?_)
          · replace b1 := condT hc b1
            conv => whnf
            have e := Option.some.inj b1
            replace e := hret1 _ e.symm
            rw [e] at r1
            replace e := Option.some.inj r1
            subst e
            repeat' first | with_reducible rfl | with_reducible exact True.intro | with_reducible assumption | exact clA _ | (refine And.intro ?_ ?_ <;> conv => whnf) | exact clG _ | (refine gand ?_ h; assumption) | exact clN _ | fail
          · replace b1 := condF hc b1
            conv => whnf
            repeat' first | with_reducible rfl | with_reducible exact True.intro | with_reducible assumption | refine parkI ?_ | (refine And.intro ?_ ?_ <;> conv => whnf) | fail
            have e := Option.some.inj b1
            refine LoopW.norm [(1, (LV.ptr 0 0 0)), (3, (LV.map 1)), (4, (LV.map 2)), (30, (LV.ro 2 (a0.Plans.map PlanT.cells))), (31, (I (((a0.Plans.map PlanT.cells).length : Nat) : Int))), (32, (I ((k1 + 1 : Nat) : Int)))] 3 [(0, (.row 47 3 [[(I a0.Segs), (LV.ro 2 (a0.Plans.map PlanT.cells)), (LV.ro 2 (a0.Hosts.map HostT.cells))]])), (1, (.mp ((s1 ++ [(x1.ID, (IntKind.i64.wrap (0 + 1)))]).map (mpC I I)))), (2, (.mp ([] : List (LV × LV))))] ⟨rfl, rfl, rfl, rfl, rfl, (congrArg (LV.int .i64) (w64_nat _ (by omega))), trivial⟩ ⟨⟨rfl, rfl, blT⟩, ⟨⟨(congrArg (fun q => some (Blk.mp q)) (by simp only [se_mp] : (((s1.map (mpC I I)) ++ [((I x1.ID), (I (IntKind.i64.wrap (0 + 1))))]) : List (LV × LV)) = ((s1 ++ [(x1.ID, (IntKind.i64.wrap (0 + 1)))]).map (mpC I I)))), rfl, bel_mp (f := I) (g := I) (fun _ => by repeat' first | exact True.intro | refine ⟨?_, ?_⟩) (fun _ => by repeat' first | exact True.intro | refine ⟨?_, ?_⟩) _ _⟩, ⟨⟨rfl, rfl, (by intro p hp; cases hp)⟩, trivial⟩⟩⟩ blT rfl (K1 _ e.symm)
        · try simp only [mget_some m2_, mput_some m2_, mhas_some m2_, mget_mput] at b1
          have f3 : Finds TT 3 (setN (s1.map (mpC I I)) w2_ ((I x1.ID), (I (IntKind.i64.wrap (u2_ + 1))))) (I x1.ID) (some (w2_, (I (IntKind.i64.wrap (u2_ + 1))))) := by simpa only [se_mp] using finds_some (f := I) (g := I) ke_3 (mfind_set m2_ (IntKind.i64.wrap (u2_ + 1)))
          replace b1 := bindS b1
          obtain ⟨y4, hy4, b1⟩ := b1
          have c5 := fun (hg : (!(decide (1 < (IntKind.i64.wrap (u2_ + 1))))) = true) => c_lan_isPlan x1 a0.Segs _ (gdS hg hy4)
          repeat' first | with_reducible rfl | with_reducible exact True.intro | with_reducible assumption | refine parkI ?_ | (refine ⟨_, (kixF (f := PlanT.cells) hx1), ?_⟩; conv => whnf) | (refine ⟨_, (finds_some (g := I) ke_3 m2_), ?_⟩; conv => whnf) | (refine ⟨_, f3, ?_⟩; conv => whnf) | (refine ⟨_, c5, ?_⟩; conv => whnf) | exact clA _ | (refine And.intro ?_ ?_ <;> conv => whnf) | exact clG _ | (refine gand ?_ h; assumption) | fail
          refine parkE (fun hc => ?_) (fun hc => ?_)
          · replace b1 := condT hc b1
            conv => whnf
            have e := Option.some.inj b1
            replace e := hret1 _ e.symm
            rw [e] at r1
            replace e := Option.some.inj r1
            subst e
            repeat' first | with_reducible rfl | with_reducible exact True.intro | with_reducible assumption | exact clA _ | (refine And.intro ?_ ?_ <;> conv => whnf) | exact clG _ | (refine gand ?_ h; assumption) | exact clN _ | fail
          · replace b1 := condF hc b1
            conv => whnf
            repeat' first | with_reducible rfl | with_reducible exact True.intro | with_reducible assumption | refine parkI ?_ | (refine And.intro ?_ ?_ <;> conv => whnf) | fail
            have e := Option.some.inj b1
            refine LoopW.norm [(1, (LV.ptr 0 0 0)), (3, (LV.map 1)), (4, (LV.map 2)), (30, (LV.ro 2 (a0.Plans.map PlanT.cells))), (31, (I (((a0.Plans.map PlanT.cells).length : Nat) : Int))), (32, (I ((k1 + 1 : Nat) : Int)))] 3 [(0, (.row 47 3 [[(I a0.Segs), (LV.ro 2 (a0.Plans.map PlanT.cells)), (LV.ro 2 (a0.Hosts.map HostT.cells))]])), (1, (.mp ((s1.set w2_ (x1.ID, (IntKind.i64.wrap (u2_ + 1)))).map (mpC I I)))), (2, (.mp ([] : List (LV × LV))))] ⟨rfl, rfl, rfl, rfl, rfl, (congrArg (LV.int .i64) (w64_nat _ (by omega))), trivial⟩ ⟨⟨rfl, rfl, blT⟩, ⟨⟨(congrArg (fun q => some (Blk.mp q)) (by simp only [se_mp] : ((setN (s1.map (mpC I I)) w2_ ((I x1.ID), (I (IntKind.i64.wrap (u2_ + 1))))) : List (LV × LV)) = ((s1.set w2_ (x1.ID, (IntKind.i64.wrap (u2_ + 1)))).map (mpC I I)))), rfl, bel_mp (f := I) (g := I) (fun _ => by repeat' first | exact True.intro | refine ⟨?_, ?_⟩) (fun _ => by repeat' first | exact True.intro | refine ⟨?_, ?_⟩) _ _⟩, ⟨⟨rfl, rfl, (by intro p hp; cases hp)⟩, trivial⟩⟩⟩ blT rfl (K1 _ e.symm)
      · exact (Bool.false_ne_true (hc.symm.trans hd)).elim

def slices_IndexFunc_int_c0 (q1 : (Int → Option Bool)) (k5 : Nat) (x5 : Int) (s5 : Unit) : Option (Step Int Unit) :=
  (q1 x5).bind fun y5 =>
  (bif y5 then
    some (.ret ((k5 : Nat) : Int))
  else
    some (.nxt ()))

def slices_IndexFunc_int (a0 : (List Int)) (q1 : (Int → Option Bool)) : Option Int :=
  aft (rangeL (slices_IndexFunc_int_c0 q1) a0 ()) fun s5 =>
  some (-1)

theorem c_slices_IndexFunc_int (a0 : (List Int)) (fn1 : Nat) (ff1 fc1 : List LV) (q1 : (Int → Option Bool)) (hq1 : ∀ (x0 : Int) (r : Bool), q1 x0 = some r → CallP Try.prog fn1 (ff1 ++ [(I x0)] ++ fc1) (LV.bool r)) (hn1 : NLs ff1 ∧ NLs fc1) (r : Int) (h : slices_IndexFunc_int a0 q1 = some r) : CallP Try.prog 143 [(LV.ro 1 (a0.map iC)), (LV.func (.func fn1) ff1 fc1)] (I r) := by
  have hnA1 := hn1.1
  have hnB1 := hn1.2
  unfold slices_IndexFunc_int at h
  refine .intro nlA (.intro TT_ok Try.func143 rfl rfl [0, 1, 4, 5, 7, 8, 9, 16] rfl ?_)
  conv => whnf
  repeat' first | with_reducible rfl | with_reducible exact True.intro | with_reducible assumption | refine parkI ?_ | (refine And.intro ?_ ?_ <;> conv => whnf) | fail
  replace h := aftS h
  obtain ⟨O5, hO5, r5⟩ := h
  refine LoopW.norm [(0, (LV.ro 1 (a0.map iC))), (1, (LV.func (.func fn1) ff1 fc1)), (7, (I (((a0.map iC).length : Nat) : Int))), (8, (I ((0 : Nat) : Int)))] 0 [] ⟨rfl, rfl, rfl, rfl, trivial⟩ trivial blT rfl ?_
  refine LoopW.forR (fun k5 s5 => [(0, (LV.ro 1 (a0.map iC))), (1, (LV.func (.func fn1) ff1 fc1)), (7, (I (((a0.map iC).length : Nat) : Int))), (8, (I ((k5 : Nat) : Int)))]) (fun s5 => ⟨0, []⟩) hO5 (fun hl5 s5 hs5 => ?_) (fun hl5 k5 x5 s5 o5 hk5 hx5 b5 K5 hret5 hbrk5 => ?_)
  · rw [hs5] at r5
    dsimp only [aftM] at r5
    have hd : decide (((a0.length : Nat) : Int) < (((a0.map iC).length : Nat) : Int)) = false := by rw [decide_eq_false_iff_not]; (try simp only [se_len, se_ch, List.length_map]); omega
    refine LoopW.round TT_ok [0, 1, 4, 5, 7, 8, 9, 16] ?_
    conv => whnf
    repeat' first | with_reducible rfl | with_reducible exact True.intro | with_reducible assumption | refine parkI ?_ | (refine And.intro ?_ ?_ <;> conv => whnf) | fail
    refine parkE (fun hc => ?_) (fun hc => ?_)
    · exact (Bool.false_ne_true (hd.symm.trans hc)).elim
    · clear hd
      conv => whnf
      have e := Option.some.inj r5
      subst e
      repeat' first | with_reducible rfl | with_reducible exact True.intro | with_reducible assumption | exact clA _ | (refine And.intro ?_ ?_ <;> conv => whnf) | exact clG _ | (refine gand ?_ h; assumption) | exact clN _ | fail
  · unfold slices_IndexFunc_int_c0 at b5
    have hd : decide (((k5 : Nat) : Int) < (((a0.map iC).length : Nat) : Int)) = true := by rw [decide_eq_true_eq]; (try simp only [se_len, se_ch, List.length_map] at hk5); (try simp only [se_len, se_ch, List.length_map]); omega
    refine LoopW.round TT_ok [0, 1, 4, 5, 7, 8, 9, 16] ?_
    conv => whnf
    repeat' first | with_reducible rfl | with_reducible exact True.intro | with_reducible assumption | refine parkI ?_ | (refine And.intro ?_ ?_ <;> conv => whnf) | fail
    refine parkE (fun hc => ?_) (fun hc => ?_)
    · clear hd
      conv => whnf
      replace b5 := bindS b5
      obtain ⟨y5, hy5, b5⟩ := b5
      have c6 := hq1 x5 _ hy5
      repeat' first | with_reducible rfl | with_reducible exact True.intro | with_reducible assumption | refine parkI ?_ | (refine ⟨_, (kixF (f := iC) hx5), ?_⟩; conv => whnf) | (refine CallP.use c6 ?_; conv => whnf) | (refine frzB_call rfl (slN_nil hn1) ?_; conv => whnf) | (refine And.intro ?_ ?_ <;> conv => whnf) | fail
      refine parkE (fun hc => ?_) (fun hc => ?_)
      · replace b5 := condT hc b5
        conv => whnf
        have e := Option.some.inj b5
        replace e := hret5 _ e.symm
        rw [e] at r5
        replace e := Option.some.inj r5
        subst e
        repeat' first | with_reducible rfl | with_reducible exact True.intro | with_reducible assumption | exact clA _ | (refine And.intro ?_ ?_ <;> conv => whnf) | exact clG _ | (refine gand ?_ h; assumption) | exact clN _ | fail
      · replace b5 := condF hc b5
        conv => whnf
        repeat' first | with_reducible rfl | with_reducible exact True.intro | with_reducible assumption | refine parkI ?_ | (refine And.intro ?_ ?_ <;> conv => whnf) | fail
        have e := Option.some.inj b5
        refine LoopW.norm [(0, (LV.ro 1 (a0.map iC))), (1, (LV.func (.func fn1) ff1 fc1)), (7, (I (((a0.map iC).length : Nat) : Int))), (8, (I ((k5 + 1 : Nat) : Int)))] 0 [] ⟨rfl, rfl, rfl, (congrArg (LV.int .i64) (w64_nat _ (by omega))), trivial⟩ trivial blT rfl (K5 _ e.symm)
    · exact (Bool.false_ne_true (hc.symm.trans hd)).elim

def slices_ContainsFunc_int (a0 : (List Int)) (q1 : (Int → Option Bool)) : Option Bool :=
  (slices_IndexFunc_int a0 q1).bind fun y6 =>
  some (decide (0 ≤ y6))

theorem c_slices_ContainsFunc_int (a0 : (List Int)) (fn1 : Nat) (ff1 fc1 : List LV) (q1 : (Int → Option Bool)) (hq1 : ∀ (x0 : Int) (r : Bool), q1 x0 = some r → CallP Try.prog fn1 (ff1 ++ [(I x0)] ++ fc1) (LV.bool r)) (hn1 : NLs ff1 ∧ NLs fc1) (r : Bool) (h : slices_ContainsFunc_int a0 q1 = some r) : CallP Try.prog 116 [(LV.ro 1 (a0.map iC)), (LV.func (.func fn1) ff1 fc1)] (LV.bool r) := by
  have hnA1 := hn1.1
  have hnB1 := hn1.2
  unfold slices_ContainsFunc_int at h
  refine .intro nlA (.intro TT_ok Try.func116 rfl rfl [0, 1, 4] rfl ?_)
  conv => whnf
  have n5 : slNs [(LV.ro 1 (a0.map iC)), (LV.func (.func fn1) ff1 fc1)] = [] := slNs_nil nlA
  replace h := bindS h
  obtain ⟨y6, hy6, h⟩ := h
  have c7 := c_slices_IndexFunc_int a0 fn1 ff1 fc1 q1 hq1 hn1 _ hy6
  have e := Option.some.inj h
  subst e
  repeat' first | with_reducible rfl | with_reducible exact True.intro | with_reducible assumption | (refine CallP.use c7 ?_; conv => whnf) | (refine frzB_call n5 rfl ?_; conv => whnf) | (refine frz_nil n5 ?_; conv => whnf) | exact clA _ | (refine And.intro ?_ ?_ <;> conv => whnf) | exact clG _ | (refine gand ?_ h; assumption) | exact clN _ | fail

def flood_may_1 (a0 : Int) (q1 : LanT) : Option Bool :=
  some (bif (decide (a0 < 0)) then true else (decide (q1.Segs ≤ a0)))

theorem c_flood_may_1 (a0 : Int) (q1 : LanT) (r : Bool) (h : flood_may_1 a0 q1 = some r) : CallP Try.prog 117 [(I a0), (LV.rptr [(I q1.Segs), (LV.ro 2 (q1.Plans.map PlanT.cells)), (LV.ro 2 (q1.Hosts.map HostT.cells))])] (LV.bool r) := by
  unfold flood_may_1 at h
  refine .intro nlA (.intro TT_ok Try.func117 rfl rfl [0, 1, 3] rfl ?_)
  conv => whnf
  have e := Option.some.inj h
  subst e
  repeat' first | with_reducible rfl | with_reducible exact True.intro | with_reducible assumption | exact clA _ | (refine And.intro ?_ ?_ <;> conv => whnf) | exact clG _ | (refine gand ?_ h; assumption) | exact clN _ | fail

def flood_may_c0 (a1 : (List (List Bool))) (k4 : Nat) (x4 : PlanT) (s4 : Unit) : Option (Step Int Unit) :=
  (gix a1 ((k4 : Nat) : Int)).bind fun v3 =>
  (bif (!decide (((v3.length : Nat) : Int) = ((x4.Ports.length : Nat) : Int))) then
    some (.ret 1)
  else
    some (.nxt ()))

def flood_may (a0 : LanT) (a1 : (List (List Bool))) (a2 : (List Int)) : Option Int :=
  (lan_Right a0).bind fun y1 =>
  (bif (bif (!y1) then true else (!decide (((a1.length : Nat) : Int) = ((a0.Plans.length : Nat) : Int)))) then
    some 1
  else
    aft (rangeL (flood_may_c0 a1) a0.Plans ()) fun s4 =>
    (slices_ContainsFunc_int a2 (fun x0_ => flood_may_1 x0_ a0)).bind fun y5 =>
    (bif y5 then
      some 3
    else
      some 0))

theorem c_flood_may (a0 : LanT) (a1 : (List (List Bool))) (a2 : (List Int)) (r : Int) (h : flood_may a0 a1 a2 = some r) : CallP Try.prog 90 [(LV.agg [(I a0.Segs), (LV.ro 2 (a0.Plans.map PlanT.cells)), (LV.ro 2 (a0.Hosts.map HostT.cells))]), (LV.ro 1 (a1.map (roC 1 bC))), (LV.ro 1 (a2.map iC))] (I r) := by
  unfold flood_may at h
  refine .intro nlA (.intro TT_ok Try.func90 rfl rfl [0, 1, 2, 3, 6, 7, 8, 19, 21, 22, 23, 24, 36, 40] rfl ?_)
  conv => whnf
  replace h := bindS h
  obtain ⟨y1, hy1, h⟩ := h
  have c2 := c_lan_Right a0 _ hy1
  repeat' first | with_reducible rfl | with_reducible exact True.intro | with_reducible assumption | refine parkI ?_ | (refine CallP.use c2 ?_; conv => whnf) | (refine ⟨_, _, CallP.at c2, ?_⟩; conv => whnf) | (refine ⟨_, fun _ => c2, ?_⟩; conv => whnf) | (refine W.drawn TT_ok hmix1 rfl ?_; conv => whnf) | exact clA _ | (refine And.intro ?_ ?_ <;> conv => whnf) | exact clG _ | (refine gand ?_ h; assumption) | exact clN _ | fail
  refine parkE (fun hc => ?_) (fun hc => ?_)
  · replace h := condT (by first | exact hc | (simpa only [se_len, se_ch, List.length_map] using hc; done) | (have h0 : (bif (!y1) then true else (!decide ((((a1.map (roC 1 bC)).length : Nat) : Int) = (((a0.Plans.map PlanT.cells).length : Nat) : Int)))) = true := hc; simpa only [se_len, se_ch, List.length_map] using h0)) h
    conv => whnf
    have e := Option.some.inj h
    subst e
    repeat' first | with_reducible rfl | with_reducible exact True.intro | with_reducible assumption | (refine W.drawn TT_ok hmix1 rfl ?_; conv => whnf) | exact clA _ | (refine And.intro ?_ ?_ <;> conv => whnf) | exact clG _ | (refine gand ?_ h; assumption) | exact clN _ | fail
  · replace h := condF (by first | exact hc | (simpa only [se_len, se_ch, List.length_map] using hc; done) | (have h0 : (bif (!y1) then true else (!decide ((((a1.map (roC 1 bC)).length : Nat) : Int) = (((a0.Plans.map PlanT.cells).length : Nat) : Int)))) = false := hc; simpa only [se_len, se_ch, List.length_map] using h0)) h
    conv => whnf
    repeat' first | with_reducible rfl | with_reducible exact True.intro | with_reducible assumption | refine parkI ?_ | (refine W.drawn TT_ok hmix1 rfl ?_; conv => whnf) | exact clA _ | (refine And.intro ?_ ?_ <;> conv => whnf) | exact clG _ | (refine gand ?_ h; assumption) | exact clN _ | fail
    replace h := aftS h
    obtain ⟨O4, hO4, r4⟩ := h
    refine LoopW.norm [(1, (LV.ro 1 (a1.map (roC 1 bC)))), (2, (LV.ro 1 (a2.map iC))), (3, (LV.ptr 0 0 0)), (21, (LV.ro 2 (a0.Plans.map PlanT.cells))), (22, (I (((a0.Plans.map PlanT.cells).length : Nat) : Int))), (23, (I ((0 : Nat) : Int)))] 1 [(0, (.row 47 3 [[(I a0.Segs), (LV.ro 2 (a0.Plans.map PlanT.cells)), (LV.ro 2 (a0.Hosts.map HostT.cells))]]))] ⟨rfl, rfl, rfl, rfl, rfl, rfl, trivial⟩ ⟨⟨rfl, rfl, blT⟩, trivial⟩ blT rfl ?_
    refine LoopW.forR (fun k4 s4 => [(1, (LV.ro 1 (a1.map (roC 1 bC)))), (2, (LV.ro 1 (a2.map iC))), (3, (LV.ptr 0 0 0)), (21, (LV.ro 2 (a0.Plans.map PlanT.cells))), (22, (I (((a0.Plans.map PlanT.cells).length : Nat) : Int))), (23, (I ((k4 : Nat) : Int)))]) (fun s4 => ⟨1, [(0, (.row 47 3 [[(I a0.Segs), (LV.ro 2 (a0.Plans.map PlanT.cells)), (LV.ro 2 (a0.Hosts.map HostT.cells))]]))]⟩) hO4 (fun hl4 s4 hs4 => ?_) (fun hl4 k4 x4 s4 o4 hk4 hx4 b4 K4 hret4 hbrk4 => ?_)
    · rw [hs4] at r4
      dsimp only [aftM] at r4
      have hd : decide (((a0.Plans.length : Nat) : Int) < (((a0.Plans.map PlanT.cells).length : Nat) : Int)) = false := by rw [decide_eq_false_iff_not]; (try simp only [se_len, se_ch, List.length_map]); omega
      refine LoopW.round TT_ok [0, 1, 2, 3, 6, 7, 8, 19, 21, 22, 23, 24, 36, 40] ?_
      conv => whnf
      repeat' first | with_reducible rfl | with_reducible exact True.intro | with_reducible assumption | refine parkI ?_ | (refine W.drawn TT_ok hmix1 rfl ?_; conv => whnf) | exact clA _ | (refine And.intro ?_ ?_ <;> conv => whnf) | exact clG _ | (refine gand ?_ h; assumption) | exact clN _ | fail
      refine parkE (fun hc => ?_) (fun hc => ?_)
      · exact (Bool.false_ne_true (hd.symm.trans hc)).elim
      · clear hd
        conv => whnf
        replace r4 := bindS r4
        obtain ⟨y5, hy5, r4⟩ := r4
        have c6 := c_slices_ContainsFunc_int a2 117 [] [(LV.rptr [(I a0.Segs), (LV.ro 2 (a0.Plans.map PlanT.cells)), (LV.ro 2 (a0.Hosts.map HostT.cells))])] (fun x0_ => flood_may_1 x0_ a0) (fun x0_ r h => c_flood_may_1 x0_ a0 r h) nlB _ hy5
        repeat' first | with_reducible rfl | with_reducible exact True.intro | with_reducible assumption | refine parkI ?_ | (refine CallP.use c6 ?_; conv => whnf) | (refine ⟨_, _, CallP.at c6, ?_⟩; conv => whnf) | (refine ⟨_, fun _ => c6, ?_⟩; conv => whnf) | (refine W.drawn TT_ok hmix1 rfl ?_; conv => whnf) | exact clA _ | (refine And.intro ?_ ?_ <;> conv => whnf) | exact clG _ | (refine gand ?_ h; assumption) | exact clN _ | fail
        refine parkE (fun hc => ?_) (fun hc => ?_)
        · replace r4 := condT hc r4
          conv => whnf
          have e := Option.some.inj r4
          subst e
          repeat' first | with_reducible rfl | with_reducible exact True.intro | with_reducible assumption | (refine W.drawn TT_ok hmix1 rfl ?_; conv => whnf) | exact clA _ | (refine And.intro ?_ ?_ <;> conv => whnf) | exact clG _ | (refine gand ?_ h; assumption) | exact clN _ | fail
        · replace r4 := condF hc r4
          conv => whnf
          have e := Option.some.inj r4
          subst e
          repeat' first | with_reducible rfl | with_reducible exact True.intro | with_reducible assumption | (refine W.drawn TT_ok hmix1 rfl ?_; conv => whnf) | exact clA _ | (refine And.intro ?_ ?_ <;> conv => whnf) | exact clG _ | (refine gand ?_ h; assumption) | exact clN _ | fail
    · unfold flood_may_c0 at b4
      have hd : decide (((k4 : Nat) : Int) < (((a0.Plans.map PlanT.cells).length : Nat) : Int)) = true := by rw [decide_eq_true_eq]; (try simp only [se_len, se_ch, List.length_map] at hk4); (try simp only [se_len, se_ch, List.length_map]); omega
      refine LoopW.round TT_ok [0, 1, 2, 3, 6, 7, 8, 19, 21, 22, 23, 24, 36, 40] ?_
      conv => whnf
      repeat' first | with_reducible rfl | with_reducible exact True.intro | with_reducible assumption | refine parkI ?_ | (refine W.drawn TT_ok hmix1 rfl ?_; conv => whnf) | exact clA _ | (refine And.intro ?_ ?_ <;> conv => whnf) | exact clG _ | (refine gand ?_ h; assumption) | exact clN _ | fail
      refine parkE (fun hc => ?_) (fun hc => ?_)
      · clear hd
        conv => whnf
        replace b4 := bindS b4
        obtain ⟨v3, hv3, b4⟩ := b4
        have i4 := gixF (f := (roC 1 bC)) hv3
        repeat' first | with_reducible rfl | with_reducible exact True.intro | with_reducible assumption | refine parkI ?_ | (refine ⟨_, (kixF (f := PlanT.cells) hx4), ?_⟩; conv => whnf) | (refine ⟨_, i4, ?_⟩; conv => whnf) | (refine W.drawn TT_ok hmix1 rfl ?_; conv => whnf) | exact clA _ | (refine And.intro ?_ ?_ <;> conv => whnf) | exact clG _ | (refine gand ?_ h; assumption) | exact clN _ | fail
        refine parkE (fun hc => ?_) (fun hc => ?_)
        · replace b4 := condT (by first | exact hc | (simpa only [se_len, se_ch, List.length_map] using hc; done) | (have h0 : (!decide ((((v3.map bC).length : Nat) : Int) = (((x4.Ports.map LinkT.cells).length : Nat) : Int))) = true := hc; simpa only [se_len, se_ch, List.length_map] using h0)) b4
          conv => whnf
          have e := Option.some.inj b4
          replace e := hret4 _ e.symm
          rw [e] at r4
          replace e := Option.some.inj r4
          subst e
          repeat' first | with_reducible rfl | with_reducible exact True.intro | with_reducible assumption | (refine W.drawn TT_ok hmix1 rfl ?_; conv => whnf) | exact clA _ | (refine And.intro ?_ ?_ <;> conv => whnf) | exact clG _ | (refine gand ?_ h; assumption) | exact clN _ | fail
        · replace b4 := condF (by first | exact hc | (simpa only [se_len, se_ch, List.length_map] using hc; done) | (have h0 : (!decide ((((v3.map bC).length : Nat) : Int) = (((x4.Ports.map LinkT.cells).length : Nat) : Int))) = false := hc; simpa only [se_len, se_ch, List.length_map] using h0)) b4
          conv => whnf
          repeat' first | with_reducible rfl | with_reducible exact True.intro | with_reducible assumption | refine parkI ?_ | (refine W.drawn TT_ok hmix1 rfl ?_; conv => whnf) | exact clA _ | (refine And.intro ?_ ?_ <;> conv => whnf) | exact clG _ | (refine gand ?_ h; assumption) | exact clN _ | fail
          have e := Option.some.inj b4
          refine LoopW.norm [(1, (LV.ro 1 (a1.map (roC 1 bC)))), (2, (LV.ro 1 (a2.map iC))), (3, (LV.ptr 0 0 0)), (21, (LV.ro 2 (a0.Plans.map PlanT.cells))), (22, (I (((a0.Plans.map PlanT.cells).length : Nat) : Int))), (23, (I ((k4 + 1 : Nat) : Int)))] 1 [(0, (.row 47 3 [[(I a0.Segs), (LV.ro 2 (a0.Plans.map PlanT.cells)), (LV.ro 2 (a0.Hosts.map HostT.cells))]]))] ⟨rfl, rfl, rfl, rfl, rfl, (congrArg (LV.int .i64) (w64_nat _ (by omega))), trivial⟩ ⟨⟨rfl, rfl, blT⟩, trivial⟩ blT rfl (K4 _ e.symm)
      · exact (Bool.false_ne_true (hc.symm.trans hd)).elim

def math_bits_Mul64 (a0 : Int) (a1 : Int) : Option (Int × Int) :=
  some ((IntKind.u64.wrap ((IntKind.u64.wrap ((IntKind.u64.wrap (((a0).fdiv (2 ^ (min (32 : Int).toNat 64))) * ((a1).fdiv (2 ^ (min (32 : Int).toNat 64))))) + (((IntKind.u64.wrap ((IntKind.u64.wrap (((a0).fdiv (2 ^ (min (32 : Int).toNat 64))) * (bitI .and IntKind.u64 a1 4294967295))) + (((IntKind.u64.wrap ((bitI .and IntKind.u64 a0 4294967295) * (bitI .and IntKind.u64 a1 4294967295)))).fdiv (2 ^ (min (32 : Int).toNat 64)))))).fdiv (2 ^ (min (32 : Int).toNat 64))))) + (((IntKind.u64.wrap ((bitI .and IntKind.u64 (IntKind.u64.wrap ((IntKind.u64.wrap (((a0).fdiv (2 ^ (min (32 : Int).toNat 64))) * (bitI .and IntKind.u64 a1 4294967295))) + (((IntKind.u64.wrap ((bitI .and IntKind.u64 a0 4294967295) * (bitI .and IntKind.u64 a1 4294967295)))).fdiv (2 ^ (min (32 : Int).toNat 64))))) 4294967295) + (IntKind.u64.wrap ((bitI .and IntKind.u64 a0 4294967295) * ((a1).fdiv (2 ^ (min (32 : Int).toNat 64)))))))).fdiv (2 ^ (min (32 : Int).toNat 64))))), (IntKind.u64.wrap (a0 * a1)))

theorem c_math_bits_Mul64 (a0 : Int) (a1 : Int) (r : (Int × Int)) (h : math_bits_Mul64 a0 a1 = some r) : CallP Try.prog 161 [(LV.int .u64 a0), (LV.int .u64 a1)] (LV.tup [(LV.int .u64 r.1), (LV.int .u64 r.2)]) := by
  unfold math_bits_Mul64 at h
  refine .intro nlA (.intro TT_ok Try.func161 rfl rfl [0, 1, 4, 5, 6, 7, 8, 9, 10, 11, 12, 13] rfl ?_)
  conv => whnf
  have e := Option.some.inj h
  subst e
  repeat' first | with_reducible rfl | with_reducible exact True.intro | with_reducible assumption | exact (by decide : (0 : Int) ≤ 32) | exact (by decide : (0 : Int) ≤ 32) | exact (by decide : (0 : Int) ≤ 32) | exact (by decide : (0 : Int) ≤ 32) | exact (by decide : (0 : Int) ≤ 32) | exact clA _ | (refine And.intro ?_ ?_ <;> conv => whnf) | exact clG _ | (refine gand ?_ h; assumption) | exact clN _ | fail

def math_bits_Mul (a0 : Int) (a1 : Int) : Option (Int × Int) :=
  (math_bits_Mul64 a0 a1).bind fun y3 =>
  some (y3.1, y3.2)

theorem c_math_bits_Mul (a0 : Int) (a1 : Int) (r : (Int × Int)) (h : math_bits_Mul a0 a1 = some r) : CallP Try.prog 144 [(LV.int .u64 a0), (LV.int .u64 a1)] (LV.tup [(LV.int .u64 r.1), (LV.int .u64 r.2)]) := by
  unfold math_bits_Mul at h
  refine .intro nlA (.intro TT_ok Try.func144 rfl rfl [0, 1, 4, 5, 6, 7, 8, 9] rfl ?_)
  conv => whnf
  repeat' first | with_reducible rfl | with_reducible exact True.intro | with_reducible assumption | refine parkI ?_ | (refine And.intro ?_ ?_ <;> conv => whnf) | fail
  refine parkE (fun hc => ?_) (fun hc => ?_)
  · exact (Bool.false_ne_true (((rfl : false = false)).symm.trans hc)).elim
  · conv => whnf
    replace h := bindS h
    obtain ⟨y3, hy3, h⟩ := h
    have c4 := c_math_bits_Mul64 a0 a1 _ hy3
    have e := Option.some.inj h
    subst e
    repeat' first | with_reducible rfl | with_reducible exact True.intro | with_reducible assumption | (refine CallP.use c4 ?_; conv => whnf) | exact clA _ | (refine And.intro ?_ ?_ <;> conv => whnf) | exact clG _ | (refine gand ?_ h; assumption) | exact clN _ | fail

def slices_Repeat_int_c0  (s6 : (Int × (List Int))) : Option (Step (List Int) (Int × (List Int))) :=
  (bif (decide (s6.1 < ((s6.2.length : Nat) : Int))) then
    grd ((0 : Int) ≤ s6.1 ∧ s6.1 < ((s6.2.length : Nat) : Int)) <|
    grd ((0 : Int) ≤ s6.1 ∧ s6.1 ≤ ((s6.2.length : Nat) : Int)) <|
    some (.nxt ((IntKind.i64.wrap (s6.1 + ((min (s6.1 : Int).toNat (s6.2.length - (s6.1 : Int).toNat) : Nat) : Int))), (s6.2.take (s6.1 : Int).toNat ++ s6.2.take (min (s6.1 : Int).toNat (s6.2.length - (s6.1 : Int).toNat)) ++ s6.2.drop ((s6.1 : Int).toNat + min (s6.1 : Int).toNat (s6.2.length - (s6.1 : Int).toNat)))))
  else
    some (.brk (s6.1, s6.2)))

def slices_Repeat_int (a0 : (List Int)) (a1 : Int) : Option (List Int) :=
  (bif (decide (a1 < 0)) then
    none
  else
    (math_bits_Mul (IntKind.u64.wrap ((a0.length : Nat) : Int)) (IntKind.u64.wrap a1)).bind fun y3 =>
    (bif (bif (decide (0 < y3.1)) then true else (decide (9223372036854775807 < y3.2))) then
      none
    else
      grd ((0 : Int) ≤ (IntKind.i64.wrap y3.2) ∧ (IntKind.i64.wrap y3.2) ≤ (IntKind.i64.wrap y3.2) ∧ fits ((IntKind.i64.wrap y3.2)).toNat 8) <|
      aft (loopF 1000000 (slices_Repeat_int_c0 ) (((min a0.length (List.replicate ((IntKind.i64.wrap y3.2)).toNat 0).length : Nat) : Int), (a0.take (List.replicate ((IntKind.i64.wrap y3.2)).toNat 0).length ++ (List.replicate ((IntKind.i64.wrap y3.2)).toNat 0).drop a0.length))) fun s6 =>
      some s6.2))

theorem cf_slices_Repeat_int (a0 : (List Int)) (a1 : Int) (r : (List Int)) (h : slices_Repeat_int a0 a1 = some r) : CallF Try.prog 118 [(LV.ro 1 (a0.map iC)), (I a1)] 3 1 (r.map iC) := by
  unfold slices_Repeat_int at h
  refine CallF.of (NLss_map' _) (CallW.intro TT_ok Try.func118 rfl rfl [0, 1, 4, 5, 6, 7, 8, 10, 26, 37] rfl ?_)
  conv => whnf
  repeat' first | with_reducible rfl | with_reducible exact True.intro | with_reducible assumption | refine parkI ?_ | (refine W.drawnM (id := 9) 0 TT_ok hmix1 [0, 0, 0, 0, 0, 0, 0, 0, 1, 1] [1, 0, 0, 0, 0, 0, 0, 1, 1, 1] rfl ?_; conv => whnf) | exact clA _ | (refine And.intro ?_ ?_ <;> conv => whnf) | exact clG _ | (refine gand ?_ h; assumption) | exact clN _ | fail
  refine parkE (fun hc => ?_) (fun hc => ?_)
  · replace h := condT hc h
    conv => whnf
    cases h
  · replace h := condF hc h
    conv => whnf
    replace h := bindS h
    obtain ⟨y3, hy3, h⟩ := h
    have c4 : CallP Try.prog 144 [(LV.int .u64 (IntKind.u64.wrap (((a0.map iC).length : Nat) : Int))), (LV.int .u64 (IntKind.u64.wrap a1))] (LV.tup [(LV.int .u64 y3.1), (LV.int .u64 y3.2)]) := by first | exact c_math_bits_Mul (IntKind.u64.wrap ((a0.length : Nat) : Int)) (IntKind.u64.wrap a1) _ hy3 | (simpa only [se_map, se_byL, se_len, se_ch, List.length_map] using c_math_bits_Mul (IntKind.u64.wrap ((a0.length : Nat) : Int)) (IntKind.u64.wrap a1) _ hy3)
    repeat' first | with_reducible rfl | with_reducible exact True.intro | with_reducible assumption | refine parkI ?_ | (refine CallP.use c4 ?_; conv => whnf) | (refine ⟨_, _, CallP.at c4, ?_⟩; conv => whnf) | (refine ⟨_, fun _ => c4, ?_⟩; conv => whnf) | (refine W.drawnM (id := 9) 0 TT_ok hmix1 [0, 0, 0, 0, 0, 0, 0, 0, 1, 1] [1, 0, 0, 0, 0, 0, 0, 1, 1, 1] rfl ?_; conv => whnf) | exact clA _ | (refine And.intro ?_ ?_ <;> conv => whnf) | exact clG _ | (refine gand ?_ h; assumption) | exact clN _ | fail
    refine parkE (fun hc => ?_) (fun hc => ?_)
    · replace h := condT hc h
      conv => whnf
      cases h
    · replace h := condF hc h
      conv => whnf
      replace h := grdS h
      obtain ⟨g5, h⟩ := h
      repeat' first | with_reducible rfl | with_reducible exact True.intro | with_reducible assumption | refine parkI ?_ | exact g5 | (refine W.drawnM (id := 9) 0 TT_ok hmix1 [0, 0, 0, 0, 0, 0, 0, 0, 1, 1] [1, 0, 0, 0, 0, 0, 0, 1, 1, 1] rfl ?_; conv => whnf) | exact clA _ | (refine And.intro ?_ ?_ <;> conv => whnf) | exact clG _ | (refine gand ?_ h; assumption) | exact clN _ | fail
      replace h := aftS h
      obtain ⟨O6, hO6, r6⟩ := h
      refine LoopW.norm [(7, (LV.sl 0 0 ((((min a0.length (List.replicate ((IntKind.i64.wrap y3.2)).toNat 0).length : Nat) : Int), (a0.take (List.replicate ((IntKind.i64.wrap y3.2)).toNat 0).length ++ (List.replicate ((IntKind.i64.wrap y3.2)).toNat 0).drop a0.length)).2.map iC).length)), (8, (I (((min a0.length (List.replicate ((IntKind.i64.wrap y3.2)).toNat 0).length : Nat) : Int), (a0.take (List.replicate ((IntKind.i64.wrap y3.2)).toNat 0).length ++ (List.replicate ((IntKind.i64.wrap y3.2)).toNat 0).drop a0.length)).1))] 1 [(0, (.row 3 1 ((((min a0.length (List.replicate ((IntKind.i64.wrap y3.2)).toNat 0).length : Nat) : Int), (a0.take (List.replicate ((IntKind.i64.wrap y3.2)).toNat 0).length ++ (List.replicate ((IntKind.i64.wrap y3.2)).toNat 0).drop a0.length)).2.map iC)))] ⟨(by exact congrArg (LV.sl 0 0) (clL _ : ((IntKind.i64.wrap y3.2)).toNat = ((((min a0.length (List.replicate ((IntKind.i64.wrap y3.2)).toNat 0).length : Nat) : Int), (a0.take (List.replicate ((IntKind.i64.wrap y3.2)).toNat 0).length ++ (List.replicate ((IntKind.i64.wrap y3.2)).toNat 0).drop a0.length)).2.map iC).length)), (smT : ((I ((min (a0.map iC).length (List.replicate ((IntKind.i64.wrap y3.2)).toNat [(I 0)]).length : Nat) : Int)) : LV) = (I (((min a0.length (List.replicate ((IntKind.i64.wrap y3.2)).toNat 0).length : Nat) : Int), (a0.take (List.replicate ((IntKind.i64.wrap y3.2)).toNat 0).length ++ (List.replicate ((IntKind.i64.wrap y3.2)).toNat 0).drop a0.length)).1)), trivial⟩ ⟨⟨(by first | exact (congrArg (fun q => some (Blk.row 3 1 q)) (smT : (((a0.map iC).take (List.replicate ((IntKind.i64.wrap y3.2)).toNat [(I 0)]).length ++ (List.replicate ((IntKind.i64.wrap y3.2)).toNat [(I 0)]).drop (a0.map iC).length) : List (List LV)) = ((((min a0.length (List.replicate ((IntKind.i64.wrap y3.2)).toNat 0).length : Nat) : Int), (a0.take (List.replicate ((IntKind.i64.wrap y3.2)).toNat 0).length ++ (List.replicate ((IntKind.i64.wrap y3.2)).toNat 0).drop a0.length)).2.map iC))) | exact Eq.trans (b := some (Blk.row 3 1 ((a0.map iC).take (List.replicate ((IntKind.i64.wrap y3.2)).toNat [(I 0)]).length ++ (List.replicate ((IntKind.i64.wrap y3.2)).toNat [(I 0)]).drop (a0.map iC).length))) rfl (congrArg (fun q => some (Blk.row 3 1 q)) (smT : (((a0.map iC).take (List.replicate ((IntKind.i64.wrap y3.2)).toNat [(I 0)]).length ++ (List.replicate ((IntKind.i64.wrap y3.2)).toNat [(I 0)]).drop (a0.map iC).length) : List (List LV)) = ((((min a0.length (List.replicate ((IntKind.i64.wrap y3.2)).toNat 0).length : Nat) : Int), (a0.take (List.replicate ((IntKind.i64.wrap y3.2)).toNat 0).length ++ (List.replicate ((IntKind.i64.wrap y3.2)).toNat 0).drop a0.length)).2.map iC)))), rfl, NLss_bel nlT⟩, trivial⟩ blT rfl ?_
      refine LoopW.forF (fun s6 => [(7, (LV.sl 0 0 (s6.2.map iC).length)), (8, (I s6.1))]) (fun s6 => ⟨1, [(0, (.row 3 1 (s6.2.map iC)))]⟩) hO6 (fun s6 o6 b6 K6 hret6 hbrk6 => ?_)
      unfold slices_Repeat_int_c0 at b6
      refine LoopW.round TT_ok [0, 1, 4, 5, 6, 7, 8, 10, 26, 37] ?_
      conv => whnf
      repeat' first | with_reducible rfl | with_reducible exact True.intro | with_reducible assumption | refine parkI ?_ | (refine W.drawnM (id := 9) 0 TT_ok hmix1 [0, 0, 0, 0, 0, 0, 0, 0, 1, 1] [1, 0, 0, 0, 0, 0, 0, 1, 1, 1] rfl ?_; conv => whnf) | exact clA _ | (refine And.intro ?_ ?_ <;> conv => whnf) | exact clG _ | (refine gand ?_ h; assumption) | exact clN _ | fail
      refine parkE (fun hc => ?_) (fun hc => ?_)
      · replace b6 := condT (by first | exact hc | (simpa only [se_len, se_ch, List.length_map] using hc; done) | (have h0 : (decide (s6.1 < (((s6.2.map iC).length : Nat) : Int))) = true := hc; simpa only [se_len, se_ch, List.length_map] using h0)) b6
        conv => whnf
        replace b6 := grdS b6
        obtain ⟨g6, b6⟩ := b6
        replace g6 : (0 : Int) ≤ s6.1 ∧ s6.1 < (((s6.2.map iC).length : Nat) : Int) := by simpa only [se_len, se_ch, List.length_map] using g6
        replace b6 := grdS b6
        obtain ⟨g7, b6⟩ := b6
        replace g7 : (0 : Int) ≤ s6.1 ∧ s6.1 ≤ (((s6.2.map iC).length : Nat) : Int) := by simpa only [se_len, se_ch, List.length_map] using g7
        have l8 : (0 + (s6.1 : Int).toNat) + ((s6.2.map iC).length - (s6.1 : Int).toNat) = (s6.2.map iC).length := by (try simp only [se_len, se_ch, List.length_map]); (try simp only [se_len, se_ch, List.length_map] at *); omega
        have l9 : (s6.1 : Int).toNat ≤ (s6.2.map iC).length := by (try simp only [se_len, se_ch, List.length_map]); (try simp only [se_len, se_ch, List.length_map] at *); omega
        repeat' first | with_reducible rfl | with_reducible exact True.intro | with_reducible assumption | refine parkI ?_ | exact g6 | exact g7 | exact l8 | exact l9 | (refine W.drawnM (id := 9) 0 TT_ok hmix1 [0, 0, 0, 0, 0, 0, 0, 0, 1, 1] [1, 0, 0, 0, 0, 0, 0, 1, 1, 1] rfl ?_; conv => whnf) | exact clA _ | (refine And.intro ?_ ?_ <;> conv => whnf) | exact clG _ | (refine gand ?_ h; assumption) | exact clN _ | fail
        have e := Option.some.inj b6
        refine LoopW.norm [(7, (LV.sl 0 0 (((IntKind.i64.wrap (s6.1 + ((min (s6.1 : Int).toNat (s6.2.length - (s6.1 : Int).toNat) : Nat) : Int))), (s6.2.take (s6.1 : Int).toNat ++ s6.2.take (min (s6.1 : Int).toNat (s6.2.length - (s6.1 : Int).toNat)) ++ s6.2.drop ((s6.1 : Int).toNat + min (s6.1 : Int).toNat (s6.2.length - (s6.1 : Int).toNat)))).2.map iC).length)), (8, (I ((IntKind.i64.wrap (s6.1 + ((min (s6.1 : Int).toNat (s6.2.length - (s6.1 : Int).toNat) : Nat) : Int))), (s6.2.take (s6.1 : Int).toNat ++ s6.2.take (min (s6.1 : Int).toNat (s6.2.length - (s6.1 : Int).toNat)) ++ s6.2.drop ((s6.1 : Int).toNat + min (s6.1 : Int).toNat (s6.2.length - (s6.1 : Int).toNat)))).1))] 1 [(0, (.row 3 1 (((IntKind.i64.wrap (s6.1 + ((min (s6.1 : Int).toNat (s6.2.length - (s6.1 : Int).toNat) : Nat) : Int))), (s6.2.take (s6.1 : Int).toNat ++ s6.2.take (min (s6.1 : Int).toNat (s6.2.length - (s6.1 : Int).toNat)) ++ s6.2.drop ((s6.1 : Int).toNat + min (s6.1 : Int).toNat (s6.2.length - (s6.1 : Int).toNat)))).2.map iC)))] ⟨(by exact congrArg (LV.sl 0 0) (clL _ : (s6.2.map iC).length = (((IntKind.i64.wrap (s6.1 + ((min (s6.1 : Int).toNat (s6.2.length - (s6.1 : Int).toNat) : Nat) : Int))), (s6.2.take (s6.1 : Int).toNat ++ s6.2.take (min (s6.1 : Int).toNat (s6.2.length - (s6.1 : Int).toNat)) ++ s6.2.drop ((s6.1 : Int).toNat + min (s6.1 : Int).toNat (s6.2.length - (s6.1 : Int).toNat)))).2.map iC).length)), (smT : ((I (IntKind.i64.wrap (s6.1 + ((min (s6.1 : Int).toNat ((s6.2.map iC).length - (s6.1 : Int).toNat) : Nat) : Int)))) : LV) = (I ((IntKind.i64.wrap (s6.1 + ((min (s6.1 : Int).toNat (s6.2.length - (s6.1 : Int).toNat) : Nat) : Int))), (s6.2.take (s6.1 : Int).toNat ++ s6.2.take (min (s6.1 : Int).toNat (s6.2.length - (s6.1 : Int).toNat)) ++ s6.2.drop ((s6.1 : Int).toNat + min (s6.1 : Int).toNat (s6.2.length - (s6.1 : Int).toNat)))).1)), trivial⟩ ⟨⟨(by first | exact (congrArg (fun q => some (Blk.row 3 1 q)) (by first | (simp only [se_map, se_byL, se_len, se_ch, List.length_map]; done) | (simp only [se_map, se_byL, se_len, se_ch, List.length_map, Nat.zero_add]; done) : (((s6.2.map iC).take (0 + (s6.1 : Int).toNat) ++ (s6.2.map iC).take (min (s6.1 : Int).toNat ((s6.2.map iC).length - (s6.1 : Int).toNat)) ++ (s6.2.map iC).drop ((0 + (s6.1 : Int).toNat) + min (s6.1 : Int).toNat ((s6.2.map iC).length - (s6.1 : Int).toNat))) : List (List LV)) = (((IntKind.i64.wrap (s6.1 + ((min (s6.1 : Int).toNat (s6.2.length - (s6.1 : Int).toNat) : Nat) : Int))), (s6.2.take (s6.1 : Int).toNat ++ s6.2.take (min (s6.1 : Int).toNat (s6.2.length - (s6.1 : Int).toNat)) ++ s6.2.drop ((s6.1 : Int).toNat + min (s6.1 : Int).toNat (s6.2.length - (s6.1 : Int).toNat)))).2.map iC))) | exact Eq.trans (b := some (Blk.row 3 1 ((s6.2.map iC).take (0 + (s6.1 : Int).toNat) ++ (s6.2.map iC).take (min (s6.1 : Int).toNat ((s6.2.map iC).length - (s6.1 : Int).toNat)) ++ (s6.2.map iC).drop ((0 + (s6.1 : Int).toNat) + min (s6.1 : Int).toNat ((s6.2.map iC).length - (s6.1 : Int).toNat))))) rfl (congrArg (fun q => some (Blk.row 3 1 q)) (by first | (simp only [se_map, se_byL, se_len, se_ch, List.length_map]; done) | (simp only [se_map, se_byL, se_len, se_ch, List.length_map, Nat.zero_add]; done) : (((s6.2.map iC).take (0 + (s6.1 : Int).toNat) ++ (s6.2.map iC).take (min (s6.1 : Int).toNat ((s6.2.map iC).length - (s6.1 : Int).toNat)) ++ (s6.2.map iC).drop ((0 + (s6.1 : Int).toNat) + min (s6.1 : Int).toNat ((s6.2.map iC).length - (s6.1 : Int).toNat))) : List (List LV)) = (((IntKind.i64.wrap (s6.1 + ((min (s6.1 : Int).toNat (s6.2.length - (s6.1 : Int).toNat) : Nat) : Int))), (s6.2.take (s6.1 : Int).toNat ++ s6.2.take (min (s6.1 : Int).toNat (s6.2.length - (s6.1 : Int).toNat)) ++ s6.2.drop ((s6.1 : Int).toNat + min (s6.1 : Int).toNat (s6.2.length - (s6.1 : Int).toNat)))).2.map iC)))), rfl, NLss_bel nlT⟩, trivial⟩ blT rfl (K6 _ e.symm)
      · replace b6 := condF (by first | exact hc | (simpa only [se_len, se_ch, List.length_map] using hc; done) | (have h0 : (decide (s6.1 < (((s6.2.map iC).length : Nat) : Int))) = false := hc; simpa only [se_len, se_ch, List.length_map] using h0)) b6
        conv => whnf
        have e := Option.some.inj b6
        replace e := hbrk6 _ e.symm
        rw [e] at r6
        dsimp only [aftM] at r6
        have e := Option.some.inj r6
        subst e
        repeat' first | with_reducible rfl | with_reducible exact True.intro | with_reducible assumption | exact Or.inr ⟨_, rfl, congrArg (fun q => some (Blk.row 3 1 q)) rfl⟩ | (refine W.drawnM (id := 9) 0 TT_ok hmix1 [0, 0, 0, 0, 0, 0, 0, 0, 1, 1] [1, 0, 0, 0, 0, 0, 0, 1, 1, 1] rfl ?_; conv => whnf) | exact clA _ | (refine And.intro ?_ ?_ <;> conv => whnf) | exact clG _ | (refine gand ?_ h; assumption) | exact clN _ | fail

theorem c_slices_Repeat_int (a0 : (List Int)) (a1 : Int) (r : (List Int)) (h : slices_Repeat_int a0 a1 = some r) : CallP Try.prog 118 [(LV.ro 1 (a0.map iC)), (I a1)] (LV.ro 1 (r.map iC)) := by
  exact CallF.toP (cf_slices_Repeat_int a0 a1 r h) nlA (NLss_map' _)

def flood_opens_c0 (a1 : (List (List Bool))) (a2 : Int) (k8 : Nat) (x8 : LinkT) (s8 : (List Int)) : Option (Step (List Int) (List Int)) :=
  (gd x8.Up (gix a1 a2)).bind fun v10 =>
  (gd x8.Up (gix v10 ((k8 : Nat) : Int))).bind fun v12 =>
  (bif (bif x8.Up then v12 else false) then
    grd (fits ((s8 ++ ([x8.Seg] : (List Int))) : List Int).length 8) <|
    some (.nxt (s8 ++ ([x8.Seg] : (List Int))))
  else
    some (.nxt s8))

def flood_opens (a0 : LanT) (a1 : (List (List Bool))) (a2 : Int) : Option (List Int) :=
  (gix a0.Plans a2).bind fun v8 =>
  aft (rangeL (flood_opens_c0 a1 a2) v8.Ports ([] : (List Int))) fun s8 =>
  some s8

theorem cf_flood_opens (a0 : LanT) (a1 : (List (List Bool))) (a2 : Int) (r : (List Int)) (h : flood_opens a0 a1 a2 = some r) : CallF Try.prog 145 [(LV.agg [(I a0.Segs), (LV.ro 2 (a0.Plans.map PlanT.cells)), (LV.ro 2 (a0.Hosts.map HostT.cells))]), (LV.ro 1 (a1.map (roC 1 bC))), (I a2)] 3 1 (r.map iC) := by
  unfold flood_opens at h
  refine CallF.of (NLss_map' _) (CallW.intro TT_ok Try.func145 rfl rfl [0, 1, 2, 3, 6, 7, 8, 9, 15, 16, 17, 18, 32] rfl ?_)
  conv => whnf
  replace h := bindS h
  obtain ⟨v8, hv8, h⟩ := h
  have i9 := gixF (f := PlanT.cells) hv8
  repeat' first | with_reducible rfl | with_reducible exact True.intro | with_reducible assumption | refine parkI ?_ | (refine ⟨_, i9, ?_⟩; conv => whnf) | (refine And.intro ?_ ?_ <;> conv => whnf) | fail
  replace h := aftS h
  obtain ⟨O8, hO8, r8⟩ := h
  refine LoopW.virt 7 3 1 rfl ?_
  refine LoopW.norm [(1, (LV.ro 1 (a1.map (roC 1 bC)))), (2, (I a2)), (7, (LV.sl 1 0 (([] : (List Int)).map iC).length)), (15, (LV.ro 3 (v8.Ports.map LinkT.cells))), (16, (I (((v8.Ports.map LinkT.cells).length : Nat) : Int))), (17, (I ((0 : Nat) : Int)))] 2 [(1, (.row 3 1 (([] : (List Int)).map iC)))] ⟨rfl, rfl, (by exact congrArg (LV.sl 1 0) (clL _ : 0 = (([] : (List Int)).map iC).length)), rfl, rfl, rfl, trivial⟩ ⟨⟨(congrArg (fun q => some (Blk.row 3 1 q)) (smT : ([] : List (List LV)) = (([] : (List Int)).map iC))), rfl, NLss_bel (NLss_map' _)⟩, trivial⟩ blT rfl ?_
  refine LoopW.forR (fun k8 s8 => [(1, (LV.ro 1 (a1.map (roC 1 bC)))), (2, (I a2)), (7, (LV.sl 1 0 (s8.map iC).length)), (15, (LV.ro 3 (v8.Ports.map LinkT.cells))), (16, (I (((v8.Ports.map LinkT.cells).length : Nat) : Int))), (17, (I ((k8 : Nat) : Int)))]) (fun s8 => ⟨2, [(1, (.row 3 1 (s8.map iC)))]⟩) hO8 (fun hl8 s8 hs8 => ?_) (fun hl8 k8 x8 s8 o8 hk8 hx8 b8 K8 hret8 hbrk8 => ?_)
  · rw [hs8] at r8
    dsimp only [aftM] at r8
    have hd : decide (((v8.Ports.length : Nat) : Int) < (((v8.Ports.map LinkT.cells).length : Nat) : Int)) = false := by rw [decide_eq_false_iff_not]; (try simp only [se_len, se_ch, List.length_map]); omega
    refine LoopW.round TT_ok [0, 1, 2, 3, 6, 7, 8, 9, 15, 16, 17, 18, 32] ?_
    conv => whnf
    repeat' first | with_reducible rfl | with_reducible exact True.intro | with_reducible assumption | refine parkI ?_ | (refine And.intro ?_ ?_ <;> conv => whnf) | fail
    refine parkE (fun hc => ?_) (fun hc => ?_)
    · exact (Bool.false_ne_true (hd.symm.trans hc)).elim
    · clear hd
      conv => whnf
      have e := Option.some.inj r8
      subst e
      repeat' first | with_reducible rfl | with_reducible exact True.intro | with_reducible assumption | exact Or.inr ⟨_, rfl, congrArg (fun q => some (Blk.row 3 1 q)) rfl⟩ | exact clA _ | (refine And.intro ?_ ?_ <;> conv => whnf) | exact clG _ | (refine gand ?_ h; assumption) | exact clN _ | fail
  · unfold flood_opens_c0 at b8
    have hd : decide (((k8 : Nat) : Int) < (((v8.Ports.map LinkT.cells).length : Nat) : Int)) = true := by rw [decide_eq_true_eq]; (try simp only [se_len, se_ch, List.length_map] at hk8); (try simp only [se_len, se_ch, List.length_map]); omega
    refine LoopW.round TT_ok [0, 1, 2, 3, 6, 7, 8, 9, 15, 16, 17, 18, 32] ?_
    conv => whnf
    repeat' first | with_reducible rfl | with_reducible exact True.intro | with_reducible assumption | refine parkI ?_ | (refine And.intro ?_ ?_ <;> conv => whnf) | fail
    refine parkE (fun hc => ?_) (fun hc => ?_)
    · clear hd
      conv => whnf
      replace b8 := bindS b8
      obtain ⟨v10, hv10, b8⟩ := b8
      have i11 := fun hg => gixF (f := (roC 1 bC)) (gdS hg hv10)
      replace b8 := bindS b8
      obtain ⟨v12, hv12, b8⟩ := b8
      have i13 := fun hg => gixF (f := bC) (gdS hg hv12)
      repeat' first | with_reducible rfl | with_reducible exact True.intro | with_reducible assumption | refine parkI ?_ | (refine ⟨_, (kixF (f := LinkT.cells) hx8), ?_⟩; conv => whnf) | (refine ⟨_, i11, ?_⟩; conv => whnf) | (refine ⟨_, i13, ?_⟩; conv => whnf) | exact clA _ | (refine And.intro ?_ ?_ <;> conv => whnf) | exact clG _ | (refine gand ?_ h; assumption) | fail
      refine parkE (fun hc => ?_) (fun hc => ?_)
      · replace b8 := condT hc b8
        conv => whnf
        replace b8 := grdS b8
        obtain ⟨g14, b8⟩ := b8
        replace g14 : fits (((s8.map iC) ++ [[(I x8.Seg)]])).length 8 := by simpa only [se_len, se_ch, List.length_map] using g14
        repeat' first | with_reducible rfl | with_reducible exact True.intro | with_reducible assumption | refine parkI ?_ | exact g14 | exact clA _ | (refine And.intro ?_ ?_ <;> conv => whnf) | exact clN _ | fail
        have e := Option.some.inj b8
        refine LoopW.ren [(4, 1)] [(1, (LV.ro 1 (a1.map (roC 1 bC)))), (2, (I a2)), (7, (LV.sl 1 0 ((s8 ++ ([x8.Seg] : (List Int))).map iC).length)), (15, (LV.ro 3 (v8.Ports.map LinkT.cells))), (16, (I (((v8.Ports.map LinkT.cells).length : Nat) : Int))), (17, (I ((k8 + 1 : Nat) : Int)))] 2 [(1, (.row 3 1 ((s8 ++ ([x8.Seg] : (List Int))).map iC)))] rfl ⟨rfl, rfl, (by exact congrArg (LV.sl 1 0) (clL _ : (((s8.map iC) ++ [[(I x8.Seg)]])).length = ((s8 ++ ([x8.Seg] : (List Int))).map iC).length)), rfl, rfl, (congrArg (LV.int .i64) (w64_nat _ (by omega))), trivial⟩ ⟨⟨rfl, rfl, .inl ⟨(smT : (((s8.map iC) ++ [[(I x8.Seg)]]) : List (List LV)) = ((s8 ++ ([x8.Seg] : (List Int))).map iC)), nlT⟩⟩, rfl, rfl, trivial⟩ rfl (K8 _ e.symm)
      · replace b8 := condF hc b8
        conv => whnf
        repeat' first | with_reducible rfl | with_reducible exact True.intro | with_reducible assumption | refine parkI ?_ | (refine And.intro ?_ ?_ <;> conv => whnf) | fail
        have e := Option.some.inj b8
        refine LoopW.norm [(1, (LV.ro 1 (a1.map (roC 1 bC)))), (2, (I a2)), (7, (LV.sl 1 0 (s8.map iC).length)), (15, (LV.ro 3 (v8.Ports.map LinkT.cells))), (16, (I (((v8.Ports.map LinkT.cells).length : Nat) : Int))), (17, (I ((k8 + 1 : Nat) : Int)))] 2 [(1, (.row 3 1 (s8.map iC)))] ⟨rfl, rfl, rfl, rfl, rfl, (congrArg (LV.int .i64) (w64_nat _ (by omega))), trivial⟩ ⟨⟨rfl, rfl, NLss_bel (NLss_map' _)⟩, trivial⟩ blT rfl (K8 _ e.symm)
    · exact (Bool.false_ne_true (hc.symm.trans hd)).elim

theorem c_flood_opens (a0 : LanT) (a1 : (List (List Bool))) (a2 : Int) (r : (List Int)) (h : flood_opens a0 a1 a2 = some r) : CallP Try.prog 145 [(LV.agg [(I a0.Segs), (LV.ro 2 (a0.Plans.map PlanT.cells)), (LV.ro 2 (a0.Hosts.map HostT.cells))]), (LV.ro 1 (a1.map (roC 1 bC))), (I a2)] (LV.ro 1 (r.map iC)) := by
  exact CallF.toP (cf_flood_opens a0 a1 a2 r h) nlA (NLss_map' _)

def flood_neighbours_c0 (a0 : LanT) (a1 : (List (List Bool))) (k7 : Nat) (x7 : PlanT) (s7 : (List (List Int))) : Option (Step (List (List Int)) (List (List Int))) :=
  (flood_opens a0 a1 ((k7 : Nat) : Int)).bind fun y8 =>
  grd (fits ((s7 ++ ([y8] : (List (List Int)))) : List (List Int)).length 24) <|
  some (.nxt (s7 ++ ([y8] : (List (List Int)))))

def flood_neighbours (a0 : LanT) (a1 : (List (List Bool))) : Option (List (List Int)) :=
  aft (rangeL (flood_neighbours_c0 a0 a1) a0.Plans ([] : List (List Int))) fun s7 =>
  some s7

theorem c_flood_neighbours (a0 : LanT) (a1 : (List (List Bool))) (r : (List (List Int))) (h : flood_neighbours a0 a1 = some r) : CallP Try.prog 119 [(LV.agg [(I a0.Segs), (LV.ro 2 (a0.Plans.map PlanT.cells)), (LV.ro 2 (a0.Hosts.map HostT.cells))]), (LV.ro 1 (a1.map (roC 1 bC)))] (LV.func (.func 146) [] [(LV.rptr [(LV.ro 1 (r.map (roC 1 iC)))])]) := by
  unfold flood_neighbours at h
  refine .intro nlA (.intro TT_ok Try.func119 rfl rfl [0, 1, 2, 4, 5, 6, 9, 10, 11] rfl ?_)
  conv => whnf
  repeat' first | with_reducible rfl | with_reducible exact True.intro | with_reducible assumption | refine parkI ?_ | (refine W.drawnM (id := 5) 0 TT_ok hmix1 [0, 0, 0, 0, 0, 0, 1, 2] [1, 0, 0, 0, 0, 1, 2, 3] rfl ?_; conv => whnf) | exact clA _ | (refine And.intro ?_ ?_ <;> conv => whnf) | exact clG _ | (refine gand ?_ h; assumption) | exact clN _ | fail
  replace h := aftS h
  obtain ⟨O7, hO7, r7⟩ := h
  refine LoopW.virtB 1 179 53 1 rfl rfl ?_
  refine LoopW.norm [(1, (LV.ro 1 (a1.map (roC 1 bC)))), (2, (LV.ptr 0 0 0)), (5, (LV.ptr 1 0 0)), (9, (I (((a0.Plans.map PlanT.cells).length : Nat) : Int))), (10, (I ((0 : Nat) : Int)))] 3 [(0, (.row 47 3 [[(I a0.Segs), (LV.ro 2 (a0.Plans.map PlanT.cells)), (LV.ro 2 (a0.Hosts.map HostT.cells))]])), (1, (.row 179 1 [[(LV.sl 2 0 (([] : List (List Int)).map (roC 1 iC)).length)]])), (2, (.row 53 1 (([] : List (List Int)).map (roC 1 iC))))] ⟨rfl, rfl, rfl, rfl, rfl, trivial⟩ ⟨⟨rfl, rfl, blT⟩, ⟨⟨(congrArg (fun q => some (Blk.row 179 1 q)) (by first | (simp only [se_map, se_byL, se_len, se_ch, List.length_map]; done) | (simp only [se_map, se_byL, se_len, se_ch, List.length_map, roC]; done) : ([[(LV.sl 2 0 0)]] : List (List LV)) = [[(LV.sl 2 0 (([] : List (List Int)).map (roC 1 iC)).length)]])), rfl, blT⟩, ⟨⟨(congrArg (fun q => some (Blk.row 53 1 q)) (by first | (simp only [se_map, se_byL, se_len, se_ch, List.length_map]; done) | (simp only [se_map, se_byL, se_len, se_ch, List.length_map, roC]; done) : ([] : List (List LV)) = (([] : List (List Int)).map (roC 1 iC)))), rfl, NLss_bel (NLss_map' _)⟩, trivial⟩⟩⟩ blT rfl ?_
  refine LoopW.forR (fun k7 s7 => [(1, (LV.ro 1 (a1.map (roC 1 bC)))), (2, (LV.ptr 0 0 0)), (5, (LV.ptr 1 0 0)), (9, (I (((a0.Plans.map PlanT.cells).length : Nat) : Int))), (10, (I ((k7 : Nat) : Int)))]) (fun s7 => ⟨3, [(0, (.row 47 3 [[(I a0.Segs), (LV.ro 2 (a0.Plans.map PlanT.cells)), (LV.ro 2 (a0.Hosts.map HostT.cells))]])), (1, (.row 179 1 [[(LV.sl 2 0 (s7.map (roC 1 iC)).length)]])), (2, (.row 53 1 (s7.map (roC 1 iC))))]⟩) hO7 (fun hl7 s7 hs7 => ?_) (fun hl7 k7 x7 s7 o7 hk7 hx7 b7 K7 hret7 hbrk7 => ?_)
  · rw [hs7] at r7
    dsimp only [aftM] at r7
    have hd : decide (((a0.Plans.length : Nat) : Int) < (((a0.Plans.map PlanT.cells).length : Nat) : Int)) = false := by rw [decide_eq_false_iff_not]; (try simp only [se_len, se_ch, List.length_map]); omega
    refine LoopW.round TT_ok [0, 1, 2, 4, 5, 6, 9, 10, 11] ?_
    conv => whnf
    repeat' first | with_reducible rfl | with_reducible exact True.intro | with_reducible assumption | refine parkI ?_ | (refine W.drawnM (id := 5) 0 TT_ok hmix1 [0, 0, 0, 0, 0, 0, 1, 2] [1, 0, 0, 0, 0, 1, 2, 3] rfl ?_; conv => whnf) | exact clA _ | (refine And.intro ?_ ?_ <;> conv => whnf) | exact clG _ | (refine gand ?_ h; assumption) | exact clN _ | fail
    refine parkE (fun hc => ?_) (fun hc => ?_)
    · exact (Bool.false_ne_true (hd.symm.trans hc)).elim
    · clear hd
      conv => whnf
      have e := Option.some.inj r7
      subst e
      repeat' first | with_reducible rfl | with_reducible exact True.intro | with_reducible assumption | (refine W.drawnM (id := 5) 0 TT_ok hmix1 [0, 0, 0, 0, 0, 0, 1, 2] [1, 0, 0, 0, 0, 1, 2, 3] rfl ?_; conv => whnf) | exact clA _ | (refine And.intro ?_ ?_ <;> conv => whnf) | exact clG _ | (refine gand ?_ h; assumption) | exact clN _ | fail
  · unfold flood_neighbours_c0 at b7
    have hd : decide (((k7 : Nat) : Int) < (((a0.Plans.map PlanT.cells).length : Nat) : Int)) = true := by rw [decide_eq_true_eq]; (try simp only [se_len, se_ch, List.length_map] at hk7); (try simp only [se_len, se_ch, List.length_map]); omega
    refine LoopW.round TT_ok [0, 1, 2, 4, 5, 6, 9, 10, 11] ?_
    conv => whnf
    repeat' first | with_reducible rfl | with_reducible exact True.intro | with_reducible assumption | refine parkI ?_ | (refine W.drawnM (id := 5) 0 TT_ok hmix1 [0, 0, 0, 0, 0, 0, 1, 2] [1, 0, 0, 0, 0, 1, 2, 3] rfl ?_; conv => whnf) | exact clA _ | (refine And.intro ?_ ?_ <;> conv => whnf) | exact clG _ | (refine gand ?_ h; assumption) | exact clN _ | fail
    refine parkE (fun hc => ?_) (fun hc => ?_)
    · clear hd
      conv => whnf
      replace b7 := bindS b7
      obtain ⟨y8, hy8, b7⟩ := b7
      have c9 := c_flood_opens a0 a1 ((k7 : Nat) : Int) _ hy8
      replace b7 := grdS b7
      obtain ⟨g10, b7⟩ := b7
      replace g10 : fits (((s7.map (roC 1 iC)) ++ [[(LV.ro 1 (y8.map iC))]])).length 24 := by simpa only [se_len, se_ch, List.length_map] using g10
      repeat' first | with_reducible rfl | with_reducible exact True.intro | with_reducible assumption | refine parkI ?_ | exact g10 | (refine CallP.use c9 ?_; conv => whnf) | (refine ⟨_, _, CallP.at c9, ?_⟩; conv => whnf) | (refine ⟨_, fun _ => c9, ?_⟩; conv => whnf) | (refine W.drawnM (id := 5) 0 TT_ok hmix1 [0, 0, 0, 0, 0, 0, 1, 2] [1, 0, 0, 0, 0, 1, 2, 3] rfl ?_; conv => whnf) | exact clA _ | (refine And.intro ?_ ?_ <;> conv => whnf) | exact clG _ | (refine gand ?_ h; assumption) | exact clN _ | fail
      have e := Option.some.inj b7
      refine LoopW.ren [(0, 0), (1, 1), (4, 2)] [(1, (LV.ro 1 (a1.map (roC 1 bC)))), (2, (LV.ptr 0 0 0)), (5, (LV.ptr 1 0 0)), (9, (I (((a0.Plans.map PlanT.cells).length : Nat) : Int))), (10, (I ((k7 + 1 : Nat) : Int)))] 3 [(0, (.row 47 3 [[(I a0.Segs), (LV.ro 2 (a0.Plans.map PlanT.cells)), (LV.ro 2 (a0.Hosts.map HostT.cells))]])), (1, (.row 179 1 [[(LV.sl 2 0 ((s7 ++ ([y8] : (List (List Int)))).map (roC 1 iC)).length)]])), (2, (.row 53 1 ((s7 ++ ([y8] : (List (List Int)))).map (roC 1 iC))))] rfl ⟨rfl, rfl, rfl, rfl, (congrArg (LV.int .i64) (w64_nat _ (by omega))), trivial⟩ ⟨⟨rfl, rfl, .inl ⟨rfl, nlT⟩⟩, rfl, rfl, ⟨⟨rfl, rfl, .inr (by first | exact rfl | (show ([[(LV.sl 2 0 (((s7.map (roC 1 iC)) ++ [[(LV.ro 1 (y8.map iC))]])).length)]] : List (List LV)) = [[(LV.sl 2 0 ((s7 ++ ([y8] : (List (List Int)))).map (roC 1 iC)).length)]]; simp only [se_map, se_byL, se_len, se_ch, List.length_map]))⟩, rfl, rfl, ⟨⟨rfl, rfl, .inl ⟨(by first | (simp only [se_map, se_byL, se_len, se_ch, List.length_map]; done) | (simp only [se_map, se_byL, se_len, se_ch, List.length_map, roC]; done) : (((s7.map (roC 1 iC)) ++ [[(LV.ro 1 (y8.map iC))]]) : List (List LV)) = ((s7 ++ ([y8] : (List (List Int)))).map (roC 1 iC))), nlT⟩⟩, rfl, rfl, trivial⟩⟩⟩ rfl (K7 _ e.symm)
    · exact (Bool.false_ne_true (hc.symm.trans hd)).elim

def slices_Index_int_c0 (a1 : Int) (k11 : Nat) (x11 : Int) (s11 : Unit) : Option (Step Int Unit) :=
  (bif (decide (a1 = x11)) then
    some (.ret ((k11 : Nat) : Int))
  else
    some (.nxt ()))

def slices_Index_int (a0 : (List Int)) (a1 : Int) : Option Int :=
  aft (rangeL (slices_Index_int_c0 a1) a0 ()) fun s11 =>
  some (-1)

theorem c_slices_Index_int (a0 : (List Int)) (a1 : Int) (r : Int) (h : slices_Index_int a0 a1 = some r) : CallP Try.prog 92 [(LV.ro 1 (a0.map iC)), (I a1)] (I r) := by
  unfold slices_Index_int at h
  refine .intro nlA (.intro TT_ok Try.func92 rfl rfl [0, 1, 4, 5, 7, 8, 9, 16] rfl ?_)
  conv => whnf
  repeat' first | with_reducible rfl | with_reducible exact True.intro | with_reducible assumption | refine parkI ?_ | (refine And.intro ?_ ?_ <;> conv => whnf) | fail
  replace h := aftS h
  obtain ⟨O11, hO11, r11⟩ := h
  refine LoopW.norm [(0, (LV.ro 1 (a0.map iC))), (1, (I a1)), (7, (I (((a0.map iC).length : Nat) : Int))), (8, (I ((0 : Nat) : Int)))] 0 [] ⟨rfl, rfl, rfl, rfl, trivial⟩ trivial blT rfl ?_
  refine LoopW.forR (fun k11 s11 => [(0, (LV.ro 1 (a0.map iC))), (1, (I a1)), (7, (I (((a0.map iC).length : Nat) : Int))), (8, (I ((k11 : Nat) : Int)))]) (fun s11 => ⟨0, []⟩) hO11 (fun hl11 s11 hs11 => ?_) (fun hl11 k11 x11 s11 o11 hk11 hx11 b11 K11 hret11 hbrk11 => ?_)
  · rw [hs11] at r11
    dsimp only [aftM] at r11
    have hd : decide (((a0.length : Nat) : Int) < (((a0.map iC).length : Nat) : Int)) = false := by rw [decide_eq_false_iff_not]; (try simp only [se_len, se_ch, List.length_map]); omega
    refine LoopW.round TT_ok [0, 1, 4, 5, 7, 8, 9, 16] ?_
    conv => whnf
    repeat' first | with_reducible rfl | with_reducible exact True.intro | with_reducible assumption | refine parkI ?_ | (refine And.intro ?_ ?_ <;> conv => whnf) | fail
    refine parkE (fun hc => ?_) (fun hc => ?_)
    · exact (Bool.false_ne_true (hd.symm.trans hc)).elim
    · clear hd
      conv => whnf
      have e := Option.some.inj r11
      subst e
      repeat' first | with_reducible rfl | with_reducible exact True.intro | with_reducible assumption | exact clA _ | (refine And.intro ?_ ?_ <;> conv => whnf) | exact clG _ | (refine gand ?_ h; assumption) | exact clN _ | fail
  · unfold slices_Index_int_c0 at b11
    have hd : decide (((k11 : Nat) : Int) < (((a0.map iC).length : Nat) : Int)) = true := by rw [decide_eq_true_eq]; (try simp only [se_len, se_ch, List.length_map] at hk11); (try simp only [se_len, se_ch, List.length_map]); omega
    refine LoopW.round TT_ok [0, 1, 4, 5, 7, 8, 9, 16] ?_
    conv => whnf
    repeat' first | with_reducible rfl | with_reducible exact True.intro | with_reducible assumption | refine parkI ?_ | (refine And.intro ?_ ?_ <;> conv => whnf) | fail
    refine parkE (fun hc => ?_) (fun hc => ?_)
    · clear hd
      conv => whnf
      repeat' first | with_reducible rfl | with_reducible exact True.intro | with_reducible assumption | refine parkI ?_ | (refine ⟨_, (kixF (f := iC) hx11), ?_⟩; conv => whnf) | (refine And.intro ?_ ?_ <;> conv => whnf) | fail
      refine parkE (fun hc => ?_) (fun hc => ?_)
      · replace b11 := condT hc b11
        conv => whnf
        have e := Option.some.inj b11
        replace e := hret11 _ e.symm
        rw [e] at r11
        replace e := Option.some.inj r11
        subst e
        repeat' first | with_reducible rfl | with_reducible exact True.intro | with_reducible assumption | exact clA _ | (refine And.intro ?_ ?_ <;> conv => whnf) | exact clG _ | (refine gand ?_ h; assumption) | exact clN _ | fail
      · replace b11 := condF hc b11
        conv => whnf
        repeat' first | with_reducible rfl | with_reducible exact True.intro | with_reducible assumption | refine parkI ?_ | (refine And.intro ?_ ?_ <;> conv => whnf) | fail
        have e := Option.some.inj b11
        refine LoopW.norm [(0, (LV.ro 1 (a0.map iC))), (1, (I a1)), (7, (I (((a0.map iC).length : Nat) : Int))), (8, (I ((k11 + 1 : Nat) : Int)))] 0 [] ⟨rfl, rfl, rfl, (congrArg (LV.int .i64) (w64_nat _ (by omega))), trivial⟩ trivial blT rfl (K11 _ e.symm)
    · exact (Bool.false_ne_true (hc.symm.trans hd)).elim

def slices_Contains_int (a0 : (List Int)) (a1 : Int) : Option Bool :=
  (slices_Index_int a0 a1).bind fun y13 =>
  some (decide (0 ≤ y13))

theorem c_slices_Contains_int (a0 : (List Int)) (a1 : Int) (r : Bool) (h : slices_Contains_int a0 a1 = some r) : CallP Try.prog 58 [(LV.ro 1 (a0.map iC)), (I a1)] (LV.bool r) := by
  unfold slices_Contains_int at h
  refine .intro nlA (.intro TT_ok Try.func58 rfl rfl [0, 1, 4] rfl ?_)
  conv => whnf
  replace h := bindS h
  obtain ⟨y13, hy13, h⟩ := h
  have c14 := c_slices_Index_int a0 a1 _ hy13
  have e := Option.some.inj h
  subst e
  repeat' first | with_reducible rfl | with_reducible exact True.intro | with_reducible assumption | (refine CallP.use c14 ?_; conv => whnf) | exact clA _ | (refine And.intro ?_ ?_ <;> conv => whnf) | exact clG _ | (refine gand ?_ h; assumption) | exact clN _ | fail

def slices_Compact_int_c1 (s12 : (Int × (List Int))) (s13 : (Int × Int × (List Int))) : Option (Step (Step (List Int) (Int × (List Int))) (Int × Int × (List Int))) :=
  (bif (decide (s13.2.1 < (((s13.2.2.length - (s12.1 : Int).toNat) : Nat) : Int))) then
    grd ((0 : Int) ≤ s13.2.1 ∧ s13.2.1 < (((s13.2.2.length - (s12.1 : Int).toNat) : Nat) : Int)) <|
    (gixN s13.2.2 ((s12.1 : Int).toNat + (s13.2.1 : Int).toNat)).bind fun v27 =>
    grd ((0 : Int) ≤ (IntKind.i64.wrap (s13.2.1 - 1)) ∧ (IntKind.i64.wrap (s13.2.1 - 1)) < (((s13.2.2.length - (s12.1 : Int).toNat) : Nat) : Int)) <|
    (gixN s13.2.2 ((s12.1 : Int).toNat + ((IntKind.i64.wrap (s13.2.1 - 1)) : Int).toNat)).bind fun v30 =>
    (bif (!decide (v27 = v30)) then
      grd ((0 : Int) ≤ s13.2.1 ∧ s13.2.1 < (((s13.2.2.length - (s12.1 : Int).toNat) : Nat) : Int)) <|
      grd ((0 : Int) ≤ s13.1 ∧ s13.1 < ((s13.2.2.length : Nat) : Int)) <|
      (gixN s13.2.2 (s13.1 : Int).toNat).bind fun v34 =>
      some (.nxt ((IntKind.i64.wrap (s13.1 + 1)), (IntKind.i64.wrap (s13.2.1 + 1)), (s13.2.2.set (s13.1 : Int).toNat v27)))
    else
      some (.nxt (s13.1, (IntKind.i64.wrap (s13.2.1 + 1)), s13.2.2)))
  else
    some (.brk (s13.1, s13.2.1, s13.2.2)))

def slices_Compact_int_c0  (s12 : (Int × (List Int))) : Option (Step (List Int) (Int × (List Int))) :=
  (bif (decide (s12.1 < ((s12.2.length : Nat) : Int))) then
    grd ((0 : Int) ≤ s12.1 ∧ s12.1 < ((s12.2.length : Nat) : Int)) <|
    (gixN s12.2 (s12.1 : Int).toNat).bind fun v20 =>
    grd ((0 : Int) ≤ (IntKind.i64.wrap (s12.1 - 1)) ∧ (IntKind.i64.wrap (s12.1 - 1)) < ((s12.2.length : Nat) : Int)) <|
    (gixN s12.2 ((IntKind.i64.wrap (s12.1 - 1)) : Int).toNat).bind fun v23 =>
    (bif (decide (v20 = v23)) then
      grd ((0 : Int) ≤ s12.1 ∧ s12.1 < ((s12.2.length : Nat) : Int)) <|
      aft (loopF 1000000 (slices_Compact_int_c1 s12) (s12.1, 1, s12.2)) fun s13 =>
      grd ((0 : Int) ≤ s13.1 ∧ s13.1 < ((s13.2.2.length : Nat) : Int)) <|
      grd ((0 : Int) ≤ s13.1 ∧ s13.1 ≤ ((s13.2.2.length : Nat) : Int)) <|
      some (.ret (s13.2.2.take (s13.1 : Int).toNat))
    else
      some (.nxt ((IntKind.i64.wrap (s12.1 + 1)), s12.2)))
  else
    some (.brk (s12.1, s12.2)))

def slices_Compact_int (a0 : (List Int)) : Option (List Int) :=
  (bif (decide (((a0.length : Nat) : Int) < 2)) then
    some a0
  else
    aft (loopF 1000000 (slices_Compact_int_c0 ) (1, a0)) fun s12 =>
    some s12.2)

theorem w_slices_Compact_int (a0 : (List Int)) (r : (List Int)) (h : slices_Compact_int a0 = some r) : CallW Try.prog 148 [(LV.sl 0 0 (a0.map iC).length)] ⟨1, [(0, (.row 3 1 (a0.map iC)))]⟩ (fun lv H' => lv = (LV.sl 0 0 (r.map iC).length) ∧ H' = ⟨1, [(0, (.row 3 1 (r.map iC)))]⟩) := by
  unfold slices_Compact_int at h
  refine CallW.shrink (CallW.intro TT_ok Try.func148 rfl rfl [0, 2, 3, 4, 5, 8, 13, 25, 32, 44] rfl ?_)
  conv => whnf
  repeat' first | with_reducible rfl | with_reducible exact True.intro | with_reducible assumption | refine parkI ?_ | (refine W.drawn TT_ok hmix1 rfl ?_; conv => whnf) | exact clA _ | (refine And.intro ?_ ?_ <;> conv => whnf) | exact clG _ | (refine gand ?_ h; assumption) | exact clN _ | fail
  refine parkE (fun hc => ?_) (fun hc => ?_)
  · replace h := condT (by first | exact hc | (simpa only [se_len, se_ch, List.length_map] using hc; done) | (have h0 : (decide ((((a0.map iC).length : Nat) : Int) < 2)) = true := hc; simpa only [se_len, se_ch, List.length_map] using h0)) h
    conv => whnf
    have e := Option.some.inj h
    subst e
    repeat' first | with_reducible rfl | with_reducible exact True.intro | with_reducible assumption | exact ⟨[(0, (.row 3 1 (a0.map iC)))], ⟨⟨rfl, rfl, NLss_bel (NLss_map' _)⟩, trivial⟩, blT, rfl, rfl⟩ | (refine W.drawn TT_ok hmix1 rfl ?_; conv => whnf) | exact clA _ | (refine And.intro ?_ ?_ <;> conv => whnf) | exact clG _ | (refine gand ?_ h; assumption) | exact clN _ | fail
  · replace h := condF (by first | exact hc | (simpa only [se_len, se_ch, List.length_map] using hc; done) | (have h0 : (decide ((((a0.map iC).length : Nat) : Int) < 2)) = false := hc; simpa only [se_len, se_ch, List.length_map] using h0)) h
    conv => whnf
    repeat' first | with_reducible rfl | with_reducible exact True.intro | with_reducible assumption | refine parkI ?_ | (refine W.drawn TT_ok hmix1 rfl ?_; conv => whnf) | exact clA _ | (refine And.intro ?_ ?_ <;> conv => whnf) | exact clG _ | (refine gand ?_ h; assumption) | exact clN _ | fail
    replace h := aftS h
    obtain ⟨O12, hO12, r12⟩ := h
    refine LoopW.norm [(0, (LV.sl 0 0 ((1, a0).2.map iC).length)), (3, (I (1, a0).1))] 1 [(0, (.row 3 1 ((1, a0).2.map iC)))] ⟨(by exact congrArg (LV.sl 0 0) (clL _ : (a0.map iC).length = ((1, a0).2.map iC).length)), (smT : ((I 1) : LV) = (I (1, a0).1)), trivial⟩ ⟨⟨(congrArg (fun q => some (Blk.row 3 1 q)) (smT : ((a0.map iC) : List (List LV)) = ((1, a0).2.map iC))), rfl, NLss_bel (NLss_map' _)⟩, trivial⟩ blT rfl ?_
    refine LoopW.forF (fun s12 => [(0, (LV.sl 0 0 (s12.2.map iC).length)), (3, (I s12.1))]) (fun s12 => ⟨1, [(0, (.row 3 1 (s12.2.map iC)))]⟩) hO12 (fun s12 o12 b12 K12 hret12 hbrk12 => ?_)
    unfold slices_Compact_int_c0 at b12
    refine LoopW.round TT_ok [0, 2, 3, 4, 5, 8, 13, 25, 32, 44] ?_
    conv => whnf
    repeat' first | with_reducible rfl | with_reducible exact True.intro | with_reducible assumption | refine parkI ?_ | (refine W.drawn TT_ok hmix1 rfl ?_; conv => whnf) | exact clA _ | (refine And.intro ?_ ?_ <;> conv => whnf) | exact clG _ | (refine gand ?_ h; assumption) | exact clN _ | fail
    refine parkE (fun hc => ?_) (fun hc => ?_)
    · replace b12 := condT (by first | exact hc | (simpa only [se_len, se_ch, List.length_map] using hc; done) | (have h0 : (decide (s12.1 < (((s12.2.map iC).length : Nat) : Int))) = true := hc; simpa only [se_len, se_ch, List.length_map] using h0)) b12
      conv => whnf
      replace b12 := grdS b12
      obtain ⟨g19, b12⟩ := b12
      replace g19 : (0 : Int) ≤ s12.1 ∧ s12.1 < (((s12.2.map iC).length : Nat) : Int) := by simpa only [se_len, se_ch, List.length_map] using g19
      replace b12 := bindS b12
      obtain ⟨v20, hv20, b12⟩ := b12
      have i21 : nth (s12.2.map iC) (0 + ((s12.1 : Int).toNat)) = some [(I v20)] := by simpa only [se_map, se_len, se_ch, List.length_map, nth_eq, Nat.zero_add, List.getElem?_map] using gixNF (f := iC) hv20
      replace b12 := grdS b12
      obtain ⟨g22, b12⟩ := b12
      replace g22 : (0 : Int) ≤ (IntKind.i64.wrap (s12.1 - 1)) ∧ (IntKind.i64.wrap (s12.1 - 1)) < (((s12.2.map iC).length : Nat) : Int) := by simpa only [se_len, se_ch, List.length_map] using g22
      replace b12 := bindS b12
      obtain ⟨v23, hv23, b12⟩ := b12
      have i24 : nth (s12.2.map iC) (0 + (((IntKind.i64.wrap (s12.1 - 1)) : Int).toNat)) = some [(I v23)] := by simpa only [se_map, se_len, se_ch, List.length_map, nth_eq, Nat.zero_add, List.getElem?_map] using gixNF (f := iC) hv23
      repeat' first | with_reducible rfl | with_reducible exact True.intro | with_reducible assumption | refine parkI ?_ | exact g19 | exact g22 | (rw [i21]; conv => whnf) | (rw [i24]; conv => whnf) | (refine W.drawn TT_ok hmix1 rfl ?_; conv => whnf) | exact clA _ | (refine And.intro ?_ ?_ <;> conv => whnf) | exact clG _ | (refine gand ?_ h; assumption) | exact clN _ | fail
      refine parkE (fun hc => ?_) (fun hc => ?_)
      · replace b12 := condT hc b12
        conv => whnf
        replace b12 := grdS b12
        obtain ⟨g25, b12⟩ := b12
        replace g25 : (0 : Int) ≤ s12.1 ∧ s12.1 < (((s12.2.map iC).length : Nat) : Int) := by simpa only [se_len, se_ch, List.length_map] using g25
        repeat' first | with_reducible rfl | with_reducible exact True.intro | with_reducible assumption | refine parkI ?_ | exact g25 | (refine W.drawn TT_ok hmix1 rfl ?_; conv => whnf) | exact clA _ | (refine And.intro ?_ ?_ <;> conv => whnf) | exact clG _ | (refine gand ?_ h; assumption) | exact clN _ | fail
        replace b12 := aftS b12
        obtain ⟨O13, hO13, r13⟩ := b12
        refine LoopW.norm [(0, (LV.sl 0 0 ((s12.1, 1, s12.2).2.2.map iC).length)), (3, (I (s12.1, 1, s12.2).1)), (4, (LV.sl 0 (0 + (s12.1 : Int).toNat) (((s12.1, 1, s12.2).2.2.map iC).length - (s12.1 : Int).toNat))), (5, (I (s12.1, 1, s12.2).2.1))] 1 [(0, (.row 3 1 ((s12.1, 1, s12.2).2.2.map iC)))] ⟨(by exact congrArg (LV.sl 0 0) (clL _ : (s12.2.map iC).length = ((s12.1, 1, s12.2).2.2.map iC).length)), (smT : ((I s12.1) : LV) = (I (s12.1, 1, s12.2).1)), (smT : ((LV.sl 0 (0 + (s12.1 : Int).toNat) ((s12.2.map iC).length - (s12.1 : Int).toNat)) : LV) = (LV.sl 0 (0 + (s12.1 : Int).toNat) (((s12.1, 1, s12.2).2.2.map iC).length - (s12.1 : Int).toNat))), (smT : ((I 1) : LV) = (I (s12.1, 1, s12.2).2.1)), trivial⟩ ⟨⟨(congrArg (fun q => some (Blk.row 3 1 q)) (smT : ((s12.2.map iC) : List (List LV)) = ((s12.1, 1, s12.2).2.2.map iC))), rfl, NLss_bel (NLss_map' _)⟩, trivial⟩ blT rfl ?_
        refine LoopW.forF (fun s13 => [(0, (LV.sl 0 0 (s13.2.2.map iC).length)), (3, (I s13.1)), (4, (LV.sl 0 (0 + (s12.1 : Int).toNat) ((s13.2.2.map iC).length - (s12.1 : Int).toNat))), (5, (I s13.2.1))]) (fun s13 => ⟨1, [(0, (.row 3 1 (s13.2.2.map iC)))]⟩) hO13 (fun s13 o13 b13 K13 hret13 hbrk13 => ?_)
        unfold slices_Compact_int_c1 at b13
        refine LoopW.round TT_ok [0, 2, 3, 4, 5, 8, 13, 25, 32, 44] ?_
        conv => whnf
        repeat' first | with_reducible rfl | with_reducible exact True.intro | with_reducible assumption | refine parkI ?_ | (refine W.drawn TT_ok hmix1 rfl ?_; conv => whnf) | exact clA _ | (refine And.intro ?_ ?_ <;> conv => whnf) | exact clG _ | (refine gand ?_ h; assumption) | exact clN _ | fail
        refine parkE (fun hc => ?_) (fun hc => ?_)
        · replace b13 := condT (by first | exact hc | (simpa only [se_len, se_ch, List.length_map] using hc; done) | (have h0 : (decide (s13.2.1 < ((((s13.2.2.map iC).length - (s12.1 : Int).toNat) : Nat) : Int))) = true := hc; simpa only [se_len, se_ch, List.length_map] using h0)) b13
          conv => whnf
          replace b13 := grdS b13
          obtain ⟨g26, b13⟩ := b13
          replace g26 : (0 : Int) ≤ s13.2.1 ∧ s13.2.1 < ((((s13.2.2.map iC).length - (s12.1 : Int).toNat) : Nat) : Int) := by simpa only [se_len, se_ch, List.length_map] using g26
          replace b13 := bindS b13
          obtain ⟨v27, hv27, b13⟩ := b13
          have i28 : nth (s13.2.2.map iC) ((0 + (s12.1 : Int).toNat) + ((s13.2.1 : Int).toNat)) = some [(I v27)] := by simpa only [se_map, se_len, se_ch, List.length_map, nth_eq, Nat.zero_add, List.getElem?_map] using gixNF (f := iC) hv27
          replace b13 := grdS b13
          obtain ⟨g29, b13⟩ := b13
          replace g29 : (0 : Int) ≤ (IntKind.i64.wrap (s13.2.1 - 1)) ∧ (IntKind.i64.wrap (s13.2.1 - 1)) < ((((s13.2.2.map iC).length - (s12.1 : Int).toNat) : Nat) : Int) := by simpa only [se_len, se_ch, List.length_map] using g29
          replace b13 := bindS b13
          obtain ⟨v30, hv30, b13⟩ := b13
          have i31 : nth (s13.2.2.map iC) ((0 + (s12.1 : Int).toNat) + (((IntKind.i64.wrap (s13.2.1 - 1)) : Int).toNat)) = some [(I v30)] := by simpa only [se_map, se_len, se_ch, List.length_map, nth_eq, Nat.zero_add, List.getElem?_map] using gixNF (f := iC) hv30
          repeat' first | with_reducible rfl | with_reducible exact True.intro | with_reducible assumption | refine parkI ?_ | exact g26 | exact g29 | (rw [i28]; conv => whnf) | (rw [i31]; conv => whnf) | (refine W.drawn TT_ok hmix1 rfl ?_; conv => whnf) | exact clA _ | (refine And.intro ?_ ?_ <;> conv => whnf) | exact clG _ | (refine gand ?_ h; assumption) | exact clN _ | fail
          refine parkE (fun hc => ?_) (fun hc => ?_)
          · replace b13 := condT hc b13
            conv => whnf
            replace b13 := grdS b13
            obtain ⟨g32, b13⟩ := b13
            replace g32 : (0 : Int) ≤ s13.2.1 ∧ s13.2.1 < ((((s13.2.2.map iC).length - (s12.1 : Int).toNat) : Nat) : Int) := by simpa only [se_len, se_ch, List.length_map] using g32
            replace b13 := grdS b13
            obtain ⟨g33, b13⟩ := b13
            replace g33 : (0 : Int) ≤ s13.1 ∧ s13.1 < (((s13.2.2.map iC).length : Nat) : Int) := by simpa only [se_len, se_ch, List.length_map] using g33
            replace b13 := bindS b13
            obtain ⟨v34, hv34, b13⟩ := b13
            have i35 : nth (s13.2.2.map iC) (0 + ((s13.1 : Int).toNat)) = some [(I v34)] := by simpa only [se_map, se_len, se_ch, List.length_map, nth_eq, Nat.zero_add, List.getElem?_map] using gixNF (f := iC) hv34
            repeat' first | with_reducible rfl | with_reducible exact True.intro | with_reducible assumption | refine parkI ?_ | exact g32 | exact g33 | (rw [i28]; conv => whnf) | (rw [i35]; conv => whnf) | (refine W.drawn TT_ok hmix1 rfl ?_; conv => whnf) | exact clA _ | (refine And.intro ?_ ?_ <;> conv => whnf) | exact clG _ | (refine gand ?_ h; assumption) | exact clN _ | fail
            have e := Option.some.inj b13
            refine LoopW.norm [(0, (LV.sl 0 0 (((IntKind.i64.wrap (s13.1 + 1)), (IntKind.i64.wrap (s13.2.1 + 1)), (s13.2.2.set (s13.1 : Int).toNat v27)).2.2.map iC).length)), (3, (I ((IntKind.i64.wrap (s13.1 + 1)), (IntKind.i64.wrap (s13.2.1 + 1)), (s13.2.2.set (s13.1 : Int).toNat v27)).1)), (4, (LV.sl 0 (0 + (s12.1 : Int).toNat) ((((IntKind.i64.wrap (s13.1 + 1)), (IntKind.i64.wrap (s13.2.1 + 1)), (s13.2.2.set (s13.1 : Int).toNat v27)).2.2.map iC).length - (s12.1 : Int).toNat))), (5, (I ((IntKind.i64.wrap (s13.1 + 1)), (IntKind.i64.wrap (s13.2.1 + 1)), (s13.2.2.set (s13.1 : Int).toNat v27)).2.1))] 1 [(0, (.row 3 1 (((IntKind.i64.wrap (s13.1 + 1)), (IntKind.i64.wrap (s13.2.1 + 1)), (s13.2.2.set (s13.1 : Int).toNat v27)).2.2.map iC)))] ⟨(by exact congrArg (LV.sl 0 0) (clL _ : (s13.2.2.map iC).length = (((IntKind.i64.wrap (s13.1 + 1)), (IntKind.i64.wrap (s13.2.1 + 1)), (s13.2.2.set (s13.1 : Int).toNat v27)).2.2.map iC).length)), (smT : ((I (IntKind.i64.wrap (s13.1 + 1))) : LV) = (I ((IntKind.i64.wrap (s13.1 + 1)), (IntKind.i64.wrap (s13.2.1 + 1)), (s13.2.2.set (s13.1 : Int).toNat v27)).1)), (smT : ((LV.sl 0 (0 + (s12.1 : Int).toNat) ((s13.2.2.map iC).length - (s12.1 : Int).toNat)) : LV) = (LV.sl 0 (0 + (s12.1 : Int).toNat) ((((IntKind.i64.wrap (s13.1 + 1)), (IntKind.i64.wrap (s13.2.1 + 1)), (s13.2.2.set (s13.1 : Int).toNat v27)).2.2.map iC).length - (s12.1 : Int).toNat))), (smT : ((I (IntKind.i64.wrap (s13.2.1 + 1))) : LV) = (I ((IntKind.i64.wrap (s13.1 + 1)), (IntKind.i64.wrap (s13.2.1 + 1)), (s13.2.2.set (s13.1 : Int).toNat v27)).2.1)), trivial⟩ ⟨⟨(congrArg (fun q => some (Blk.row 3 1 q)) (smT : ((setN (s13.2.2.map iC) (0 + ((s13.1 : Int).toNat)) [(I v27)]) : List (List LV)) = (((IntKind.i64.wrap (s13.1 + 1)), (IntKind.i64.wrap (s13.2.1 + 1)), (s13.2.2.set (s13.1 : Int).toNat v27)).2.2.map iC))), rfl, NLss_bel (NLss_map' _)⟩, trivial⟩ blT rfl (K13 _ e.symm)
          · replace b13 := condF hc b13
            conv => whnf
            repeat' first | with_reducible rfl | with_reducible exact True.intro | with_reducible assumption | refine parkI ?_ | (refine W.drawn TT_ok hmix1 rfl ?_; conv => whnf) | exact clA _ | (refine And.intro ?_ ?_ <;> conv => whnf) | exact clG _ | (refine gand ?_ h; assumption) | exact clN _ | fail
            have e := Option.some.inj b13
            refine LoopW.norm [(0, (LV.sl 0 0 ((s13.1, (IntKind.i64.wrap (s13.2.1 + 1)), s13.2.2).2.2.map iC).length)), (3, (I (s13.1, (IntKind.i64.wrap (s13.2.1 + 1)), s13.2.2).1)), (4, (LV.sl 0 (0 + (s12.1 : Int).toNat) (((s13.1, (IntKind.i64.wrap (s13.2.1 + 1)), s13.2.2).2.2.map iC).length - (s12.1 : Int).toNat))), (5, (I (s13.1, (IntKind.i64.wrap (s13.2.1 + 1)), s13.2.2).2.1))] 1 [(0, (.row 3 1 ((s13.1, (IntKind.i64.wrap (s13.2.1 + 1)), s13.2.2).2.2.map iC)))] ⟨(by exact congrArg (LV.sl 0 0) (clL _ : (s13.2.2.map iC).length = ((s13.1, (IntKind.i64.wrap (s13.2.1 + 1)), s13.2.2).2.2.map iC).length)), (smT : ((I s13.1) : LV) = (I (s13.1, (IntKind.i64.wrap (s13.2.1 + 1)), s13.2.2).1)), (smT : ((LV.sl 0 (0 + (s12.1 : Int).toNat) ((s13.2.2.map iC).length - (s12.1 : Int).toNat)) : LV) = (LV.sl 0 (0 + (s12.1 : Int).toNat) (((s13.1, (IntKind.i64.wrap (s13.2.1 + 1)), s13.2.2).2.2.map iC).length - (s12.1 : Int).toNat))), (smT : ((I (IntKind.i64.wrap (s13.2.1 + 1))) : LV) = (I (s13.1, (IntKind.i64.wrap (s13.2.1 + 1)), s13.2.2).2.1)), trivial⟩ ⟨⟨(congrArg (fun q => some (Blk.row 3 1 q)) (smT : ((s13.2.2.map iC) : List (List LV)) = ((s13.1, (IntKind.i64.wrap (s13.2.1 + 1)), s13.2.2).2.2.map iC))), rfl, NLss_bel (NLss_map' _)⟩, trivial⟩ blT rfl (K13 _ e.symm)
        · replace b13 := condF (by first | exact hc | (simpa only [se_len, se_ch, List.length_map] using hc; done) | (have h0 : (decide (s13.2.1 < ((((s13.2.2.map iC).length - (s12.1 : Int).toNat) : Nat) : Int))) = false := hc; simpa only [se_len, se_ch, List.length_map] using h0)) b13
          conv => whnf
          have e := Option.some.inj b13
          replace e := hbrk13 _ e.symm
          rw [e] at r13
          dsimp only [aftM] at r13
          replace r13 := grdS r13
          obtain ⟨g36, r13⟩ := r13
          replace g36 : (0 : Int) ≤ s13.1 ∧ s13.1 < (((s13.2.2.map iC).length : Nat) : Int) := by simpa only [se_len, se_ch, List.length_map] using g36
          have l37 : (0 + (s13.1 : Int).toNat) + ((s13.2.2.map iC).length - (s13.1 : Int).toNat) = (s13.2.2.map iC).length := by (try simp only [se_len, se_ch, List.length_map]); (try simp only [se_len, se_ch, List.length_map] at *); omega
          replace r13 := grdS r13
          obtain ⟨g38, r13⟩ := r13
          replace g38 : (0 : Int) ≤ s13.1 ∧ s13.1 ≤ (((s13.2.2.map iC).length : Nat) : Int) := by simpa only [se_len, se_ch, List.length_map] using g38
          have e := Option.some.inj r13
          replace e := hret12 _ e.symm
          rw [e] at r12
          replace e := Option.some.inj r12
          subst e
          repeat' first | with_reducible rfl | with_reducible exact True.intro | with_reducible assumption | exact ⟨[(0, (.row 3 1 ((s13.2.2.take (s13.1 : Int).toNat).map iC)))], ⟨⟨(congrArg (fun q => some (Blk.row 3 1 q)) (by first | (simp only [se_map, se_byL, se_len, se_ch, List.length_map]; done) | (simp only [se_map, se_byL, se_len, se_ch, List.length_map, Nat.zero_add]; done) : (((s13.2.2.map iC).take (0 + (s13.1 : Int).toNat)) : List (List LV)) = ((s13.2.2.take (s13.1 : Int).toNat).map iC))), rfl, NLss_bel (NLss_map' _)⟩, trivial⟩, blT, (congrArg (LV.sl 0 0) (by (try simp only [se_map, se_byL, se_len, se_ch, List.length_map]); first | done | rfl | omega | (simp only [se_len, se_ch, List.length_map] at *; omega) : (s13.1 : Int).toNat = ((s13.2.2.take (s13.1 : Int).toNat).map iC).length)), rfl⟩ | exact g36 | exact g38 | exact l37 | (refine W.drawn TT_ok hmix1 rfl ?_; conv => whnf) | exact clA _ | (refine And.intro ?_ ?_ <;> conv => whnf) | exact clG _ | (refine gand ?_ h; assumption) | exact clN _ | fail
      · replace b12 := condF hc b12
        conv => whnf
        repeat' first | with_reducible rfl | with_reducible exact True.intro | with_reducible assumption | refine parkI ?_ | (refine W.drawn TT_ok hmix1 rfl ?_; conv => whnf) | exact clA _ | (refine And.intro ?_ ?_ <;> conv => whnf) | exact clG _ | (refine gand ?_ h; assumption) | exact clN _ | fail
        have e := Option.some.inj b12
        refine LoopW.norm [(0, (LV.sl 0 0 (((IntKind.i64.wrap (s12.1 + 1)), s12.2).2.map iC).length)), (3, (I ((IntKind.i64.wrap (s12.1 + 1)), s12.2).1))] 1 [(0, (.row 3 1 (((IntKind.i64.wrap (s12.1 + 1)), s12.2).2.map iC)))] ⟨(by exact congrArg (LV.sl 0 0) (clL _ : (s12.2.map iC).length = (((IntKind.i64.wrap (s12.1 + 1)), s12.2).2.map iC).length)), (smT : ((I (IntKind.i64.wrap (s12.1 + 1))) : LV) = (I ((IntKind.i64.wrap (s12.1 + 1)), s12.2).1)), trivial⟩ ⟨⟨(congrArg (fun q => some (Blk.row 3 1 q)) (smT : ((s12.2.map iC) : List (List LV)) = (((IntKind.i64.wrap (s12.1 + 1)), s12.2).2.map iC))), rfl, NLss_bel (NLss_map' _)⟩, trivial⟩ blT rfl (K12 _ e.symm)
    · replace b12 := condF (by first | exact hc | (simpa only [se_len, se_ch, List.length_map] using hc; done) | (have h0 : (decide (s12.1 < (((s12.2.map iC).length : Nat) : Int))) = false := hc; simpa only [se_len, se_ch, List.length_map] using h0)) b12
      conv => whnf
      have e := Option.some.inj b12
      replace e := hbrk12 _ e.symm
      rw [e] at r12
      dsimp only [aftM] at r12
      have e := Option.some.inj r12
      subst e
      repeat' first | with_reducible rfl | with_reducible exact True.intro | with_reducible assumption | exact ⟨[(0, (.row 3 1 (s12.2.map iC)))], ⟨⟨rfl, rfl, NLss_bel (NLss_map' _)⟩, trivial⟩, blT, rfl, rfl⟩ | (refine W.drawn TT_ok hmix1 rfl ?_; conv => whnf) | exact clA _ | (refine And.intro ?_ ?_ <;> conv => whnf) | exact clG _ | (refine gand ?_ h; assumption) | exact clN _ | fail

def flood_neighbours_1_c0 (a0 : Int) (k10 : Nat) (x10 : (List Int)) (s10 : (List Int)) : Option (Step (List Int) (List Int)) :=
  (slices_Contains_int x10 a0).bind fun y13 =>
  (bif y13 then
    grd (fits ((s10 ++ x10) : List Int).length 8) <|
    some (.nxt (s10 ++ x10))
  else
    some (.nxt s10))

def flood_neighbours_1 (a0 : Int) (q1 : (List (List Int))) : Option (List Int) :=
  aft (rangeL (flood_neighbours_1_c0 a0) q1 ([] : (List Int))) fun s10 =>
  (slices_Sort_int s10).bind fun y16 =>
  (slices_Compact_int y16).bind fun y19 =>
  some y19

theorem cf_flood_neighbours_1 (a0 : Int) (q1 : (List (List Int))) (r : (List Int)) (h : flood_neighbours_1 a0 q1 = some r) : CallF Try.prog 146 [(I a0), (LV.rptr [(LV.ro 1 (q1.map (roC 1 iC)))])] 3 1 (r.map iC) := by
  unfold flood_neighbours_1 at h
  refine CallF.of (NLss_map' _) (CallW.intro TT_ok Try.func146 rfl rfl [0, 1, 3, 4, 6, 7, 8, 9, 10, 15, 1000147, 1000148, 2000147, 2000148] rfl ?_)
  conv => whnf
  repeat' first | with_reducible rfl | with_reducible exact True.intro | with_reducible assumption | refine parkI ?_ | (refine And.intro ?_ ?_ <;> conv => whnf) | fail
  replace h := aftS h
  obtain ⟨O10, hO10, r10⟩ := h
  refine LoopW.virt 4 3 1 rfl ?_
  refine LoopW.norm [(0, (I a0)), (4, (LV.sl 0 0 (([] : (List Int)).map iC).length)), (7, (LV.ro 1 (q1.map (roC 1 iC)))), (8, (I (((q1.map (roC 1 iC)).length : Nat) : Int))), (9, (I ((0 : Nat) : Int)))] 1 [(0, (.row 3 1 (([] : (List Int)).map iC)))] ⟨rfl, (by exact congrArg (LV.sl 0 0) (clL _ : 0 = (([] : (List Int)).map iC).length)), rfl, rfl, rfl, trivial⟩ ⟨⟨(congrArg (fun q => some (Blk.row 3 1 q)) (smT : ([] : List (List LV)) = (([] : (List Int)).map iC))), rfl, NLss_bel (NLss_map' _)⟩, trivial⟩ blT rfl ?_
  refine LoopW.forR (fun k10 s10 => [(0, (I a0)), (4, (LV.sl 0 0 (s10.map iC).length)), (7, (LV.ro 1 (q1.map (roC 1 iC)))), (8, (I (((q1.map (roC 1 iC)).length : Nat) : Int))), (9, (I ((k10 : Nat) : Int)))]) (fun s10 => ⟨1, [(0, (.row 3 1 (s10.map iC)))]⟩) hO10 (fun hl10 s10 hs10 => ?_) (fun hl10 k10 x10 s10 o10 hk10 hx10 b10 K10 hret10 hbrk10 => ?_)
  · rw [hs10] at r10
    dsimp only [aftM] at r10
    have hd : decide (((q1.length : Nat) : Int) < (((q1.map (roC 1 iC)).length : Nat) : Int)) = false := by rw [decide_eq_false_iff_not]; (try simp only [se_len, se_ch, List.length_map]); omega
    refine LoopW.round TT_ok [0, 1, 3, 4, 6, 7, 8, 9, 10, 15, 1000147, 1000148, 2000147, 2000148] ?_
    conv => whnf
    repeat' first | with_reducible rfl | with_reducible exact True.intro | with_reducible assumption | refine parkI ?_ | (refine And.intro ?_ ?_ <;> conv => whnf) | fail
    refine parkE (fun hc => ?_) (fun hc => ?_)
    · exact (Bool.false_ne_true (hd.symm.trans hc)).elim
    · clear hd
      conv => whnf
      replace r10 := bindS r10
      obtain ⟨y16, hy16, r10⟩ := r10
      have c17 := w_slices_Sort_int s10 _ hy16
      have l18 := slices_Sort_int_len hy16
      replace r10 := bindS r10
      obtain ⟨y19, hy19, r10⟩ := r10
      have c20 := w_slices_Compact_int y16 _ hy19
      have l21 : (y16.map iC).length = (s10.map iC).length := by (try simp only [se_map, se_byL, se_len, se_ch, List.length_map]); first | done | omega | (simp only [se_len, se_ch, List.length_map] at *; omega)
      rw [l21] at c20
      have e := Option.some.inj r10
      subst e
      repeat' first | with_reducible rfl | with_reducible exact True.intro | with_reducible assumption | (refine CallW.frame (nx2 := 1) (l2 := [(0, (.row 3 1 (y16.map iC)))]) [(0, 0)] [(0, 0)] c17 rfl rfl ⟨⟨rfl, rfl, .inl ⟨rfl, nlT⟩⟩, rfl, rfl, trivial⟩ rfl rfl ⟨⟨rfl, rfl, .inl ⟨rfl, nlT⟩⟩, rfl, rfl, trivial⟩ ?_; conv => whnf) | (refine CallW.frame (nx2 := 1) (l2 := [(0, (.row 3 1 (y19.map iC)))]) [(0, 0)] [(0, 0)] c20 rfl rfl ⟨⟨rfl, rfl, .inl ⟨rfl, nlT⟩⟩, rfl, rfl, trivial⟩ rfl rfl ⟨⟨rfl, rfl, .inl ⟨rfl, nlT⟩⟩, rfl, rfl, trivial⟩ ?_; conv => whnf) | exact Or.inr ⟨_, rfl, congrArg (fun q => some (Blk.row 3 1 q)) rfl⟩ | exact clA _ | (refine And.intro ?_ ?_ <;> conv => whnf) | exact clG _ | (refine gand ?_ h; assumption) | exact clN _ | fail
  · unfold flood_neighbours_1_c0 at b10
    have hd : decide (((k10 : Nat) : Int) < (((q1.map (roC 1 iC)).length : Nat) : Int)) = true := by rw [decide_eq_true_eq]; (try simp only [se_len, se_ch, List.length_map] at hk10); (try simp only [se_len, se_ch, List.length_map]); omega
    refine LoopW.round TT_ok [0, 1, 3, 4, 6, 7, 8, 9, 10, 15, 1000147, 1000148, 2000147, 2000148] ?_
    conv => whnf
    repeat' first | with_reducible rfl | with_reducible exact True.intro | with_reducible assumption | refine parkI ?_ | (refine And.intro ?_ ?_ <;> conv => whnf) | fail
    refine parkE (fun hc => ?_) (fun hc => ?_)
    · clear hd
      conv => whnf
      replace b10 := bindS b10
      obtain ⟨y13, hy13, b10⟩ := b10
      have c14 := c_slices_Contains_int x10 a0 _ hy13
      repeat' first | with_reducible rfl | with_reducible exact True.intro | with_reducible assumption | refine parkI ?_ | (refine ⟨_, (kixF (f := (roC 1 iC)) hx10), ?_⟩; conv => whnf) | (refine CallP.use c14 ?_; conv => whnf) | (refine And.intro ?_ ?_ <;> conv => whnf) | fail
      refine parkE (fun hc => ?_) (fun hc => ?_)
      · replace b10 := condT hc b10
        conv => whnf
        replace b10 := grdS b10
        obtain ⟨g15, b10⟩ := b10
        replace g15 : fits (((s10.map iC) ++ (x10.map iC))).length 8 := by simpa only [se_len, se_ch, List.length_map] using g15
        repeat' first | with_reducible rfl | with_reducible exact True.intro | with_reducible assumption | refine parkI ?_ | exact g15 | exact clA _ | (refine And.intro ?_ ?_ <;> conv => whnf) | exact clN _ | fail
        have e := Option.some.inj b10
        refine LoopW.ren [(1, 0)] [(0, (I a0)), (4, (LV.sl 0 0 ((s10 ++ x10).map iC).length)), (7, (LV.ro 1 (q1.map (roC 1 iC)))), (8, (I (((q1.map (roC 1 iC)).length : Nat) : Int))), (9, (I ((k10 + 1 : Nat) : Int)))] 1 [(0, (.row 3 1 ((s10 ++ x10).map iC)))] rfl ⟨rfl, (by exact congrArg (LV.sl 0 0) (clL _ : (((s10.map iC) ++ (x10.map iC))).length = ((s10 ++ x10).map iC).length)), rfl, rfl, (congrArg (LV.int .i64) (w64_nat _ (by omega))), trivial⟩ ⟨⟨rfl, rfl, .inl ⟨(smT : (((s10.map iC) ++ (x10.map iC)) : List (List LV)) = ((s10 ++ x10).map iC)), nlT⟩⟩, rfl, rfl, trivial⟩ rfl (K10 _ e.symm)
      · replace b10 := condF hc b10
        conv => whnf
        repeat' first | with_reducible rfl | with_reducible exact True.intro | with_reducible assumption | refine parkI ?_ | (refine And.intro ?_ ?_ <;> conv => whnf) | fail
        have e := Option.some.inj b10
        refine LoopW.norm [(0, (I a0)), (4, (LV.sl 0 0 (s10.map iC).length)), (7, (LV.ro 1 (q1.map (roC 1 iC)))), (8, (I (((q1.map (roC 1 iC)).length : Nat) : Int))), (9, (I ((k10 + 1 : Nat) : Int)))] 1 [(0, (.row 3 1 (s10.map iC)))] ⟨rfl, rfl, rfl, rfl, (congrArg (LV.int .i64) (w64_nat _ (by omega))), trivial⟩ ⟨⟨rfl, rfl, NLss_bel (NLss_map' _)⟩, trivial⟩ blT rfl (K10 _ e.symm)
    · exact (Bool.false_ne_true (hc.symm.trans hd)).elim

theorem c_flood_neighbours_1 (a0 : Int) (q1 : (List (List Int))) (r : (List Int)) (h : flood_neighbours_1 a0 q1 = some r) : CallP Try.prog 146 [(I a0), (LV.rptr [(LV.ro 1 (q1.map (roC 1 iC)))])] (LV.ro 1 (r.map iC)) := by
  exact CallF.toP (cf_flood_neighbours_1 a0 q1 r h) nlA (NLss_map' _)

def flood_steps_c1 (s6 : ((List Int) × Int × (List Int))) (y13 : (List Int)) (k7 : Nat) (s7 : ((List Int) × (List Int))) : Option (Step (Step (List Int) ((List Int) × Int × (List Int))) ((List Int) × (List Int))) :=
  grd ((0 : Int) ≤ ((k7 : Nat) : Int) ∧ ((k7 : Nat) : Int) < ((y13.length : Nat) : Int)) <|
  (gixN y13 (((k7 : Nat) : Int) : Int).toNat).bind fun v16 =>
  grd ((0 : Int) ≤ v16 ∧ v16 < ((s7.2.length : Nat) : Int)) <|
  (gixN s7.2 (v16 : Int).toNat).bind fun v19 =>
  (bif (decide (v19 < 0)) then
    grd ((0 : Int) ≤ s6.2.1 ∧ s6.2.1 < ((s7.1.length : Nat) : Int)) <|
    (gixN s7.1 (s6.2.1 : Int).toNat).bind fun v22 =>
    grd ((0 : Int) ≤ v22 ∧ v22 < ((s7.2.length : Nat) : Int)) <|
    (gixN s7.2 (v22 : Int).toNat).bind fun v25 =>
    grd ((0 : Int) ≤ v16 ∧ v16 < ((s7.2.length : Nat) : Int)) <|
    grd (fits ((s7.1 ++ ([v16] : (List Int))) : List Int).length 8) <|
    some (.nxt ((s7.1 ++ ([v16] : (List Int))), (s7.2.set (v16 : Int).toNat (IntKind.i64.wrap (v25 + 1)))))
  else
    some (.nxt (s7.1, s7.2)))

def flood_steps_c0 (y8 : (List (List Int))) (s6 : ((List Int) × Int × (List Int))) : Option (Step (List Int) ((List Int) × Int × (List Int))) :=
  (bif (decide (s6.2.1 < ((s6.1.length : Nat) : Int))) then
    grd ((0 : Int) ≤ s6.2.1 ∧ s6.2.1 < ((s6.1.length : Nat) : Int)) <|
    (gixN s6.1 (s6.2.1 : Int).toNat).bind fun v11 =>
    (flood_neighbours_1 v11 y8).bind fun y13 =>
    aft (rangeN (flood_steps_c1 s6 y13) ((y13.length : Nat) : Int) (s6.1, s6.2.2)) fun s7 =>
    some (.nxt (s7.1, (IntKind.i64.wrap (s6.2.1 + 1)), s7.2))
  else
    some (.brk (s6.1, s6.2.1, s6.2.2)))

def flood_steps (a0 : LanT) (a1 : (List (List Bool))) (a2 : Int) : Option (List Int) :=
  (slices_Repeat_int ([(-1)] : (List Int)) a0.Segs).bind fun y3 =>
  grd ((0 : Int) ≤ a2 ∧ a2 < ((y3.length : Nat) : Int)) <|
  (gixN y3 (a2 : Int).toNat).bind fun v6 =>
  (flood_neighbours a0 a1).bind fun y8 =>
  aft (loopF 1000000 (flood_steps_c0 y8) (([a2] : (List Int)), 0, (y3.set (a2 : Int).toNat 0))) fun s6 =>
  some s6.2.2

theorem cf_flood_steps (a0 : LanT) (a1 : (List (List Bool))) (a2 : Int) (r : (List Int)) (h : flood_steps a0 a1 a2 = some r) : CallF Try.prog 91 [(LV.agg [(I a0.Segs), (LV.ro 2 (a0.Plans.map PlanT.cells)), (LV.ro 2 (a0.Hosts.map HostT.cells))]), (LV.ro 1 (a1.map (roC 1 bC))), (I a2)] 3 1 (r.map iC) := by
  unfold flood_steps at h
  refine CallF.of (NLss_map' _) (CallW.intro TT_ok Try.func91 rfl rfl [0, 1, 2, 3, 6, 7, 8, 9, 10, 12, 28, 36, 37, 38, 39, 46] rfl ?_)
  conv => whnf
  replace h := bindS h
  obtain ⟨y3, hy3, h⟩ := h
  have c4 : CallF Try.prog 118 [(LV.ro 1 [[(I (-1))]]), (I a0.Segs)] 3 1 (y3.map iC) := by first | exact cf_slices_Repeat_int ([(-1)] : (List Int)) a0.Segs _ hy3 | (simpa only [se_map, se_byL, se_len, se_ch, List.length_map] using cf_slices_Repeat_int ([(-1)] : (List Int)) a0.Segs _ hy3)
  replace h := grdS h
  obtain ⟨g5, h⟩ := h
  replace g5 : (0 : Int) ≤ a2 ∧ a2 < (((y3.map iC).length : Nat) : Int) := by simpa only [se_len, se_ch, List.length_map] using g5
  replace h := bindS h
  obtain ⟨v6, hv6, h⟩ := h
  have i7 : nth (y3.map iC) (0 + ((a2 : Int).toNat)) = some [(I v6)] := by simpa only [se_map, se_len, se_ch, List.length_map, nth_eq, Nat.zero_add, List.getElem?_map] using gixNF (f := iC) hv6
  replace h := bindS h
  obtain ⟨y8, hy8, h⟩ := h
  have c9 := c_flood_neighbours a0 a1 _ hy8
  repeat' first | with_reducible rfl | with_reducible exact True.intro | with_reducible assumption | refine parkI ?_ | exact g5 | (refine CallP.use c9 ?_; conv => whnf) | (refine CallW.done (CallF.at c4 nlA (NLss_map' _)) ?_; conv => whnf) | (refine ⟨_, _, CallF.at c4 nlA (NLss_map' _), ?_⟩; conv => whnf) | (rw [i7]; conv => whnf) | exact clA _ | (refine And.intro ?_ ?_ <;> conv => whnf) | exact clN _ | fail
  replace h := aftS h
  obtain ⟨O6, hO6, r6⟩ := h
  refine LoopW.norm [(7, (LV.sl 2 0 ((([a2] : (List Int)), 0, (y3.set (a2 : Int).toNat 0)).2.2.map iC).length)), (8, (LV.func (.func 146) [] [(LV.rptr [(LV.ro 1 (y8.map (roC 1 iC)))])])), (9, (LV.sl 3 0 ((([a2] : (List Int)), 0, (y3.set (a2 : Int).toNat 0)).1.map iC).length)), (10, (I (([a2] : (List Int)), 0, (y3.set (a2 : Int).toNat 0)).2.1))] 4 [(2, (.row 3 1 ((([a2] : (List Int)), 0, (y3.set (a2 : Int).toNat 0)).2.2.map iC))), (3, (.row 3 1 ((([a2] : (List Int)), 0, (y3.set (a2 : Int).toNat 0)).1.map iC)))] ⟨(by exact congrArg (LV.sl 2 0) (clL _ : (y3.map iC).length = ((([a2] : (List Int)), 0, (y3.set (a2 : Int).toNat 0)).2.2.map iC).length)), rfl, (by exact congrArg (LV.sl 3 0) (clL _ : 1 = ((([a2] : (List Int)), 0, (y3.set (a2 : Int).toNat 0)).1.map iC).length)), (smT : ((I 0) : LV) = (I (([a2] : (List Int)), 0, (y3.set (a2 : Int).toNat 0)).2.1)), trivial⟩ ⟨⟨(congrArg (fun q => some (Blk.row 3 1 q)) (smT : ((setN (y3.map iC) (0 + ((a2 : Int).toNat)) [(I 0)]) : List (List LV)) = ((([a2] : (List Int)), 0, (y3.set (a2 : Int).toNat 0)).2.2.map iC))), rfl, NLss_bel (NLss_map' _)⟩, ⟨⟨(congrArg (fun q => some (Blk.row 3 1 q)) (smT : ([[(I a2)]] : List (List LV)) = ((([a2] : (List Int)), 0, (y3.set (a2 : Int).toNat 0)).1.map iC))), rfl, NLss_bel (NLss_map' _)⟩, trivial⟩⟩ blT rfl ?_
  refine LoopW.forF (fun s6 => [(7, (LV.sl 2 0 (s6.2.2.map iC).length)), (8, (LV.func (.func 146) [] [(LV.rptr [(LV.ro 1 (y8.map (roC 1 iC)))])])), (9, (LV.sl 3 0 (s6.1.map iC).length)), (10, (I s6.2.1))]) (fun s6 => ⟨4, [(2, (.row 3 1 (s6.2.2.map iC))), (3, (.row 3 1 (s6.1.map iC)))]⟩) hO6 (fun s6 o6 b6 K6 hret6 hbrk6 => ?_)
  unfold flood_steps_c0 at b6
  refine LoopW.round TT_ok [0, 1, 2, 3, 6, 7, 8, 9, 10, 12, 28, 36, 37, 38, 39, 46] ?_
  conv => whnf
  repeat' first | with_reducible rfl | with_reducible exact True.intro | with_reducible assumption | refine parkI ?_ | (refine And.intro ?_ ?_ <;> conv => whnf) | fail
  refine parkE (fun hc => ?_) (fun hc => ?_)
  · replace b6 := condT (by first | exact hc | (simpa only [se_len, se_ch, List.length_map] using hc; done) | (have h0 : (decide (s6.2.1 < (((s6.1.map iC).length : Nat) : Int))) = true := hc; simpa only [se_len, se_ch, List.length_map] using h0)) b6
    conv => whnf
    replace b6 := grdS b6
    obtain ⟨g10, b6⟩ := b6
    replace g10 : (0 : Int) ≤ s6.2.1 ∧ s6.2.1 < (((s6.1.map iC).length : Nat) : Int) := by simpa only [se_len, se_ch, List.length_map] using g10
    replace b6 := bindS b6
    obtain ⟨v11, hv11, b6⟩ := b6
    have i12 : nth (s6.1.map iC) (0 + ((s6.2.1 : Int).toNat)) = some [(I v11)] := by simpa only [se_map, se_len, se_ch, List.length_map, nth_eq, Nat.zero_add, List.getElem?_map] using gixNF (f := iC) hv11
    replace b6 := bindS b6
    obtain ⟨y13, hy13, b6⟩ := b6
    have c14 : CallF Try.prog 146 [(I v11), (LV.rptr [(LV.ro 1 (y8.map (roC 1 iC)))])] 3 1 (y13.map iC) := by first | exact cf_flood_neighbours_1 v11 y8 _ hy13 | (simpa only [se_map, se_byL, se_len, se_ch, List.length_map] using cf_flood_neighbours_1 v11 y8 _ hy13)
    repeat' first | with_reducible rfl | with_reducible exact True.intro | with_reducible assumption | refine parkI ?_ | exact g10 | (rw [i12]; conv => whnf) | (refine CallW.done (CallF.at c14 nlA (NLss_map' _)) ?_; conv => whnf) | (refine ⟨_, _, CallF.at c14 nlA (NLss_map' _), ?_⟩; conv => whnf) | (refine And.intro ?_ ?_ <;> conv => whnf) | fail
    replace b6 := aftS b6
    obtain ⟨O7, hO7, r7⟩ := b6
    refine LoopW.norm [(7, (LV.sl 2 0 ((s6.1, s6.2.2).2.map iC).length)), (8, (LV.func (.func 146) [] [(LV.rptr [(LV.ro 1 (y8.map (roC 1 iC)))])])), (9, (LV.sl 3 0 ((s6.1, s6.2.2).1.map iC).length)), (10, (I s6.2.1)), (36, (LV.sl 4 0 (y13.map iC).length)), (37, (I (((y13.map iC).length : Nat) : Int))), (38, (I ((0 : Nat) : Int)))] 5 [(2, (.row 3 1 ((s6.1, s6.2.2).2.map iC))), (3, (.row 3 1 ((s6.1, s6.2.2).1.map iC))), (4, (.row 3 1 (y13.map iC)))] ⟨(by exact congrArg (LV.sl 2 0) (clL _ : (s6.2.2.map iC).length = ((s6.1, s6.2.2).2.map iC).length)), rfl, (by exact congrArg (LV.sl 3 0) (clL _ : (s6.1.map iC).length = ((s6.1, s6.2.2).1.map iC).length)), rfl, rfl, rfl, rfl, trivial⟩ ⟨⟨(congrArg (fun q => some (Blk.row 3 1 q)) (smT : ((s6.2.2.map iC) : List (List LV)) = ((s6.1, s6.2.2).2.map iC))), rfl, NLss_bel (NLss_map' _)⟩, ⟨⟨(congrArg (fun q => some (Blk.row 3 1 q)) (smT : ((s6.1.map iC) : List (List LV)) = ((s6.1, s6.2.2).1.map iC))), rfl, NLss_bel (NLss_map' _)⟩, ⟨⟨rfl, rfl, NLss_bel (NLss_map' _)⟩, trivial⟩⟩⟩ blT rfl ?_
    refine LoopW.forN (fun k7 s7 => [(7, (LV.sl 2 0 (s7.2.map iC).length)), (8, (LV.func (.func 146) [] [(LV.rptr [(LV.ro 1 (y8.map (roC 1 iC)))])])), (9, (LV.sl 3 0 (s7.1.map iC).length)), (10, (I s6.2.1)), (36, (LV.sl 4 0 (y13.map iC).length)), (37, (I (((y13.map iC).length : Nat) : Int))), (38, (I ((k7 : Nat) : Int)))]) (fun s7 => ⟨5, [(2, (.row 3 1 (s7.2.map iC))), (3, (.row 3 1 (s7.1.map iC))), (4, (.row 3 1 (y13.map iC)))]⟩) hO7 (fun hl7 s7 hs7 => ?_) (fun hl7 k7 s7 o7 hk7 b7 K7 hret7 hbrk7 => ?_)
    · rw [hs7] at r7
      dsimp only [aftM] at r7
      have hd : decide ((((((y13.length : Nat) : Int) : Int).toNat : Nat) : Int) < (((y13.map iC).length : Nat) : Int)) = false := by rw [decide_eq_false_iff_not]; (try simp only [se_len, se_ch, List.length_map]); omega
      refine LoopW.round TT_ok [0, 1, 2, 3, 6, 7, 8, 9, 10, 12, 28, 36, 37, 38, 39, 46] ?_
      conv => whnf
      repeat' first | with_reducible rfl | with_reducible exact True.intro | with_reducible assumption | refine parkI ?_ | (refine And.intro ?_ ?_ <;> conv => whnf) | fail
      refine parkE (fun hc => ?_) (fun hc => ?_)
      · exact (Bool.false_ne_true (hd.symm.trans hc)).elim
      · clear hd
        conv => whnf
        repeat' first | with_reducible rfl | with_reducible exact True.intro | with_reducible assumption | refine parkI ?_ | (refine And.intro ?_ ?_ <;> conv => whnf) | fail
        have e := Option.some.inj r7
        refine LoopW.norm [(7, (LV.sl 2 0 ((s7.1, (IntKind.i64.wrap (s6.2.1 + 1)), s7.2).2.2.map iC).length)), (8, (LV.func (.func 146) [] [(LV.rptr [(LV.ro 1 (y8.map (roC 1 iC)))])])), (9, (LV.sl 3 0 ((s7.1, (IntKind.i64.wrap (s6.2.1 + 1)), s7.2).1.map iC).length)), (10, (I (s7.1, (IntKind.i64.wrap (s6.2.1 + 1)), s7.2).2.1))] 4 [(2, (.row 3 1 ((s7.1, (IntKind.i64.wrap (s6.2.1 + 1)), s7.2).2.2.map iC))), (3, (.row 3 1 ((s7.1, (IntKind.i64.wrap (s6.2.1 + 1)), s7.2).1.map iC)))] ⟨(by exact congrArg (LV.sl 2 0) (clL _ : (s7.2.map iC).length = ((s7.1, (IntKind.i64.wrap (s6.2.1 + 1)), s7.2).2.2.map iC).length)), rfl, (by exact congrArg (LV.sl 3 0) (clL _ : (s7.1.map iC).length = ((s7.1, (IntKind.i64.wrap (s6.2.1 + 1)), s7.2).1.map iC).length)), (smT : ((I (IntKind.i64.wrap (s6.2.1 + 1))) : LV) = (I (s7.1, (IntKind.i64.wrap (s6.2.1 + 1)), s7.2).2.1)), trivial⟩ ⟨⟨(congrArg (fun q => some (Blk.row 3 1 q)) (smT : ((s7.2.map iC) : List (List LV)) = ((s7.1, (IntKind.i64.wrap (s6.2.1 + 1)), s7.2).2.2.map iC))), rfl, NLss_bel (NLss_map' _)⟩, ⟨⟨(congrArg (fun q => some (Blk.row 3 1 q)) (smT : ((s7.1.map iC) : List (List LV)) = ((s7.1, (IntKind.i64.wrap (s6.2.1 + 1)), s7.2).1.map iC))), rfl, NLss_bel (NLss_map' _)⟩, trivial⟩⟩ blT rfl (K6 _ e.symm)
    · unfold flood_steps_c1 at b7
      have hd : decide (((k7 : Nat) : Int) < (((y13.map iC).length : Nat) : Int)) = true := by rw [decide_eq_true_eq]; (try simp only [se_len, se_ch, List.length_map] at hk7); (try simp only [se_len, se_ch, List.length_map]); omega
      refine LoopW.round TT_ok [0, 1, 2, 3, 6, 7, 8, 9, 10, 12, 28, 36, 37, 38, 39, 46] ?_
      conv => whnf
      repeat' first | with_reducible rfl | with_reducible exact True.intro | with_reducible assumption | refine parkI ?_ | (refine And.intro ?_ ?_ <;> conv => whnf) | fail
      refine parkE (fun hc => ?_) (fun hc => ?_)
      · clear hd
        conv => whnf
        replace b7 := grdS b7
        obtain ⟨g15, b7⟩ := b7
        replace g15 : (0 : Int) ≤ ((k7 : Nat) : Int) ∧ ((k7 : Nat) : Int) < (((y13.map iC).length : Nat) : Int) := by simpa only [se_len, se_ch, List.length_map] using g15
        replace b7 := bindS b7
        obtain ⟨v16, hv16, b7⟩ := b7
        have i17 : nth (y13.map iC) (0 + ((((k7 : Nat) : Int) : Int).toNat)) = some [(I v16)] := by simpa only [se_map, se_len, se_ch, List.length_map, nth_eq, Nat.zero_add, List.getElem?_map] using gixNF (f := iC) hv16
        replace b7 := grdS b7
        obtain ⟨g18, b7⟩ := b7
        replace g18 : (0 : Int) ≤ v16 ∧ v16 < (((s7.2.map iC).length : Nat) : Int) := by simpa only [se_len, se_ch, List.length_map] using g18
        replace b7 := bindS b7
        obtain ⟨v19, hv19, b7⟩ := b7
        have i20 : nth (s7.2.map iC) (0 + ((v16 : Int).toNat)) = some [(I v19)] := by simpa only [se_map, se_len, se_ch, List.length_map, nth_eq, Nat.zero_add, List.getElem?_map] using gixNF (f := iC) hv19
        repeat' first | with_reducible rfl | with_reducible exact True.intro | with_reducible assumption | refine parkI ?_ | exact g15 | exact g18 | (rw [i17]; conv => whnf) | (rw [i20]; conv => whnf) | (refine And.intro ?_ ?_ <;> conv => whnf) | fail
        refine parkE (fun hc => ?_) (fun hc => ?_)
        · replace b7 := condT hc b7
          conv => whnf
          replace b7 := grdS b7
          obtain ⟨g21, b7⟩ := b7
          replace g21 : (0 : Int) ≤ s6.2.1 ∧ s6.2.1 < (((s7.1.map iC).length : Nat) : Int) := by simpa only [se_len, se_ch, List.length_map] using g21
          replace b7 := bindS b7
          obtain ⟨v22, hv22, b7⟩ := b7
          have i23 : nth (s7.1.map iC) (0 + ((s6.2.1 : Int).toNat)) = some [(I v22)] := by simpa only [se_map, se_len, se_ch, List.length_map, nth_eq, Nat.zero_add, List.getElem?_map] using gixNF (f := iC) hv22
          replace b7 := grdS b7
          obtain ⟨g24, b7⟩ := b7
          replace g24 : (0 : Int) ≤ v22 ∧ v22 < (((s7.2.map iC).length : Nat) : Int) := by simpa only [se_len, se_ch, List.length_map] using g24
          replace b7 := bindS b7
          obtain ⟨v25, hv25, b7⟩ := b7
          have i26 : nth (s7.2.map iC) (0 + ((v22 : Int).toNat)) = some [(I v25)] := by simpa only [se_map, se_len, se_ch, List.length_map, nth_eq, Nat.zero_add, List.getElem?_map] using gixNF (f := iC) hv25
          replace b7 := grdS b7
          obtain ⟨g27, b7⟩ := b7
          replace g27 : (0 : Int) ≤ v16 ∧ v16 < (((s7.2.map iC).length : Nat) : Int) := by simpa only [se_len, se_ch, List.length_map] using g27
          replace b7 := grdS b7
          obtain ⟨g28, b7⟩ := b7
          replace g28 : fits (((s7.1.map iC) ++ [[(I v16)]])).length 8 := by simpa only [se_len, se_ch, List.length_map] using g28
          repeat' first | with_reducible rfl | with_reducible exact True.intro | with_reducible assumption | refine parkI ?_ | exact g21 | exact g24 | exact g27 | exact g28 | (rw [i23]; conv => whnf) | (rw [i26]; conv => whnf) | (rw [i20]; conv => whnf) | exact clA _ | (refine And.intro ?_ ?_ <;> conv => whnf) | exact clN _ | fail
          have e := Option.some.inj b7
          refine LoopW.ren [(2, 2), (6, 3), (4, 4)] [(7, (LV.sl 2 0 (((s7.1 ++ ([v16] : (List Int))), (s7.2.set (v16 : Int).toNat (IntKind.i64.wrap (v25 + 1)))).2.map iC).length)), (8, (LV.func (.func 146) [] [(LV.rptr [(LV.ro 1 (y8.map (roC 1 iC)))])])), (9, (LV.sl 3 0 (((s7.1 ++ ([v16] : (List Int))), (s7.2.set (v16 : Int).toNat (IntKind.i64.wrap (v25 + 1)))).1.map iC).length)), (10, (I s6.2.1)), (36, (LV.sl 4 0 (y13.map iC).length)), (37, (I (((y13.map iC).length : Nat) : Int))), (38, (I ((k7 + 1 : Nat) : Int)))] 5 [(2, (.row 3 1 (((s7.1 ++ ([v16] : (List Int))), (s7.2.set (v16 : Int).toNat (IntKind.i64.wrap (v25 + 1)))).2.map iC))), (3, (.row 3 1 (((s7.1 ++ ([v16] : (List Int))), (s7.2.set (v16 : Int).toNat (IntKind.i64.wrap (v25 + 1)))).1.map iC))), (4, (.row 3 1 (y13.map iC)))] rfl ⟨(by exact congrArg (LV.sl 2 0) (clL _ : (s7.2.map iC).length = (((s7.1 ++ ([v16] : (List Int))), (s7.2.set (v16 : Int).toNat (IntKind.i64.wrap (v25 + 1)))).2.map iC).length)), rfl, (by exact congrArg (LV.sl 3 0) (clL _ : (((s7.1.map iC) ++ [[(I v16)]])).length = (((s7.1 ++ ([v16] : (List Int))), (s7.2.set (v16 : Int).toNat (IntKind.i64.wrap (v25 + 1)))).1.map iC).length)), rfl, rfl, rfl, (congrArg (LV.int .i64) (w64_nat _ (by omega))), trivial⟩ ⟨⟨rfl, rfl, .inl ⟨(smT : ((setN (s7.2.map iC) (0 + ((v16 : Int).toNat)) [(I (IntKind.i64.wrap (v25 + 1)))]) : List (List LV)) = (((s7.1 ++ ([v16] : (List Int))), (s7.2.set (v16 : Int).toNat (IntKind.i64.wrap (v25 + 1)))).2.map iC)), nlT⟩⟩, rfl, rfl, ⟨⟨rfl, rfl, .inl ⟨(smT : (((s7.1.map iC) ++ [[(I v16)]]) : List (List LV)) = (((s7.1 ++ ([v16] : (List Int))), (s7.2.set (v16 : Int).toNat (IntKind.i64.wrap (v25 + 1)))).1.map iC)), nlT⟩⟩, rfl, rfl, ⟨⟨rfl, rfl, .inl ⟨rfl, nlT⟩⟩, rfl, rfl, trivial⟩⟩⟩ rfl (K7 _ e.symm)
        · replace b7 := condF hc b7
          conv => whnf
          repeat' first | with_reducible rfl | with_reducible exact True.intro | with_reducible assumption | refine parkI ?_ | (refine And.intro ?_ ?_ <;> conv => whnf) | fail
          have e := Option.some.inj b7
          refine LoopW.norm [(7, (LV.sl 2 0 ((s7.1, s7.2).2.map iC).length)), (8, (LV.func (.func 146) [] [(LV.rptr [(LV.ro 1 (y8.map (roC 1 iC)))])])), (9, (LV.sl 3 0 ((s7.1, s7.2).1.map iC).length)), (10, (I s6.2.1)), (36, (LV.sl 4 0 (y13.map iC).length)), (37, (I (((y13.map iC).length : Nat) : Int))), (38, (I ((k7 + 1 : Nat) : Int)))] 5 [(2, (.row 3 1 ((s7.1, s7.2).2.map iC))), (3, (.row 3 1 ((s7.1, s7.2).1.map iC))), (4, (.row 3 1 (y13.map iC)))] ⟨(by exact congrArg (LV.sl 2 0) (clL _ : (s7.2.map iC).length = ((s7.1, s7.2).2.map iC).length)), rfl, (by exact congrArg (LV.sl 3 0) (clL _ : (s7.1.map iC).length = ((s7.1, s7.2).1.map iC).length)), rfl, rfl, rfl, (congrArg (LV.int .i64) (w64_nat _ (by omega))), trivial⟩ ⟨⟨(congrArg (fun q => some (Blk.row 3 1 q)) (smT : ((s7.2.map iC) : List (List LV)) = ((s7.1, s7.2).2.map iC))), rfl, NLss_bel (NLss_map' _)⟩, ⟨⟨(congrArg (fun q => some (Blk.row 3 1 q)) (smT : ((s7.1.map iC) : List (List LV)) = ((s7.1, s7.2).1.map iC))), rfl, NLss_bel (NLss_map' _)⟩, ⟨⟨rfl, rfl, NLss_bel (NLss_map' _)⟩, trivial⟩⟩⟩ blT rfl (K7 _ e.symm)
      · exact (Bool.false_ne_true (hc.symm.trans hd)).elim
  · replace b6 := condF (by first | exact hc | (simpa only [se_len, se_ch, List.length_map] using hc; done) | (have h0 : (decide (s6.2.1 < (((s6.1.map iC).length : Nat) : Int))) = false := hc; simpa only [se_len, se_ch, List.length_map] using h0)) b6
    conv => whnf
    have e := Option.some.inj b6
    replace e := hbrk6 _ e.symm
    rw [e] at r6
    dsimp only [aftM] at r6
    have e := Option.some.inj r6
    subst e
    repeat' first | with_reducible rfl | with_reducible exact True.intro | with_reducible assumption | exact Or.inr ⟨_, rfl, congrArg (fun q => some (Blk.row 3 1 q)) rfl⟩ | exact clA _ | (refine And.intro ?_ ?_ <;> conv => whnf) | exact clG _ | (refine gand ?_ h; assumption) | exact clN _ | fail

theorem c_flood_steps (a0 : LanT) (a1 : (List (List Bool))) (a2 : Int) (r : (List Int)) (h : flood_steps a0 a1 a2 = some r) : CallP Try.prog 91 [(LV.agg [(I a0.Segs), (LV.ro 2 (a0.Plans.map PlanT.cells)), (LV.ro 2 (a0.Hosts.map HostT.cells))]), (LV.ro 1 (a1.map (roC 1 bC))), (I a2)] (LV.ro 1 (r.map iC)) := by
  exact CallF.toP (cf_flood_steps a0 a1 a2 r h) nlA (NLss_map' _)

def flood_Reach_c0 (y3 : (List Int)) (k8 : Nat) (s8 : (List Int)) : Option (Step ((List Int) × Int) (List Int)) :=
  grd ((0 : Int) ≤ ((k8 : Nat) : Int) ∧ ((k8 : Nat) : Int) < ((y3.length : Nat) : Int)) <|
  (gixN y3 (((k8 : Nat) : Int) : Int).toNat).bind fun v6 =>
  (bif (decide (0 ≤ v6)) then
    grd (fits ((s8 ++ ([((k8 : Nat) : Int)] : (List Int))) : List Int).length 8) <|
    some (.nxt (s8 ++ ([((k8 : Nat) : Int)] : (List Int))))
  else
    some (.nxt s8))

def flood_Reach (a0 : LanT) (a1 : (List (List Bool))) (a2 : Int) : Option ((List Int) × Int) :=
  (flood_may a0 a1 ([a2] : (List Int))).bind fun y1 =>
  (bif (!decide (y1 = 0)) then
    some ([], y1)
  else
    (flood_steps a0 a1 a2).bind fun y3 =>
    aft (rangeN (flood_Reach_c0 y3) a0.Segs ([] : (List Int))) fun s8 =>
    some (s8, 0))

theorem c_flood_Reach (a0 : LanT) (a1 : (List (List Bool))) (a2 : Int) (r : ((List Int) × Int)) (h : flood_Reach a0 a1 a2 = some r) : CallP Try.prog 57 [(LV.agg [(I a0.Segs), (LV.ro 2 (a0.Plans.map PlanT.cells)), (LV.ro 2 (a0.Hosts.map HostT.cells))]), (LV.ro 1 (a1.map (roC 1 bC))), (I a2)] (LV.tup [(LV.ro 1 (r.1.map iC)), (I r.2)]) := by
  unfold flood_Reach at h
  refine .intro nlA (.intro TT_ok Try.func57 rfl rfl [0, 1, 2, 3, 6, 7, 8, 9, 10, 11, 18, 25, 26, 27, 33] rfl ?_)
  conv => whnf
  replace h := bindS h
  obtain ⟨y1, hy1, h⟩ := h
  have c2 : CallP Try.prog 90 [(LV.agg [(I a0.Segs), (LV.ro 2 (a0.Plans.map PlanT.cells)), (LV.ro 2 (a0.Hosts.map HostT.cells))]), (LV.ro 1 (a1.map (roC 1 bC))), (LV.ro 1 [[(I a2)]])] (I y1) := by first | exact c_flood_may a0 a1 ([a2] : (List Int)) _ hy1 | (simpa only [se_map, se_byL, se_len, se_ch, List.length_map] using c_flood_may a0 a1 ([a2] : (List Int)) _ hy1)
  repeat' first | with_reducible rfl | with_reducible exact True.intro | with_reducible assumption | refine parkI ?_ | (refine CallP.use c2 ?_; conv => whnf) | exact clA _ | (refine And.intro ?_ ?_ <;> conv => whnf) | exact clN _ | fail
  refine parkE (fun hc => ?_) (fun hc => ?_)
  · replace h := condT hc h
    conv => whnf
    have e := Option.some.inj h
    subst e
    repeat' first | with_reducible rfl | with_reducible exact True.intro | with_reducible assumption | exact clA _ | (refine And.intro ?_ ?_ <;> conv => whnf) | exact clG _ | (refine gand ?_ h; assumption) | exact clN _ | fail
  · replace h := condF hc h
    conv => whnf
    replace h := bindS h
    obtain ⟨y3, hy3, h⟩ := h
    have c4 := cf_flood_steps a0 a1 a2 _ hy3
    repeat' first | with_reducible rfl | with_reducible exact True.intro | with_reducible assumption | refine parkI ?_ | (refine CallW.done (CallF.at c4 nlA (NLss_map' _)) ?_; conv => whnf) | (refine ⟨_, _, CallF.at c4 nlA (NLss_map' _), ?_⟩; conv => whnf) | (refine And.intro ?_ ?_ <;> conv => whnf) | fail
    replace h := aftS h
    obtain ⟨O8, hO8, r8⟩ := h
    refine LoopW.virt 9 3 1 rfl ?_
    refine LoopW.norm [(9, (LV.sl 3 0 (([] : (List Int)).map iC).length)), (10, (LV.sl 2 0 (y3.map iC).length)), (25, (I a0.Segs)), (26, (I ((0 : Nat) : Int)))] 4 [(3, (.row 3 1 (([] : (List Int)).map iC))), (2, (.row 3 1 (y3.map iC)))] ⟨(by exact congrArg (LV.sl 3 0) (clL _ : 0 = (([] : (List Int)).map iC).length)), rfl, rfl, rfl, trivial⟩ ⟨⟨(congrArg (fun q => some (Blk.row 3 1 q)) (smT : ([] : List (List LV)) = (([] : (List Int)).map iC))), rfl, NLss_bel (NLss_map' _)⟩, ⟨⟨rfl, rfl, NLss_bel (NLss_map' _)⟩, trivial⟩⟩ blT rfl ?_
    refine LoopW.forN (fun k8 s8 => [(9, (LV.sl 3 0 (s8.map iC).length)), (10, (LV.sl 2 0 (y3.map iC).length)), (25, (I a0.Segs)), (26, (I ((k8 : Nat) : Int)))]) (fun s8 => ⟨4, [(3, (.row 3 1 (s8.map iC))), (2, (.row 3 1 (y3.map iC)))]⟩) hO8 (fun hl8 s8 hs8 => ?_) (fun hl8 k8 s8 o8 hk8 b8 K8 hret8 hbrk8 => ?_)
    · rw [hs8] at r8
      dsimp only [aftM] at r8
      have hd : decide ((((a0.Segs : Int).toNat : Nat) : Int) < a0.Segs) = false := by rw [decide_eq_false_iff_not]; (try simp only [se_len, se_ch, List.length_map]); omega
      refine LoopW.round TT_ok [0, 1, 2, 3, 6, 7, 8, 9, 10, 11, 18, 25, 26, 27, 33] ?_
      conv => whnf
      repeat' first | with_reducible rfl | with_reducible exact True.intro | with_reducible assumption | refine parkI ?_ | (refine And.intro ?_ ?_ <;> conv => whnf) | fail
      refine parkE (fun hc => ?_) (fun hc => ?_)
      · exact (Bool.false_ne_true (hd.symm.trans hc)).elim
      · clear hd
        conv => whnf
        have e := Option.some.inj r8
        subst e
        repeat' first | with_reducible rfl | with_reducible exact True.intro | with_reducible assumption | exact clA _ | (refine And.intro ?_ ?_ <;> conv => whnf) | exact clG _ | (refine gand ?_ h; assumption) | exact clN _ | fail
    · unfold flood_Reach_c0 at b8
      have hd : decide (((k8 : Nat) : Int) < a0.Segs) = true := by rw [decide_eq_true_eq]; (try simp only [se_len, se_ch, List.length_map] at hk8); (try simp only [se_len, se_ch, List.length_map]); omega
      refine LoopW.round TT_ok [0, 1, 2, 3, 6, 7, 8, 9, 10, 11, 18, 25, 26, 27, 33] ?_
      conv => whnf
      repeat' first | with_reducible rfl | with_reducible exact True.intro | with_reducible assumption | refine parkI ?_ | (refine And.intro ?_ ?_ <;> conv => whnf) | fail
      refine parkE (fun hc => ?_) (fun hc => ?_)
      · clear hd
        conv => whnf
        replace b8 := grdS b8
        obtain ⟨g5, b8⟩ := b8
        replace g5 : (0 : Int) ≤ ((k8 : Nat) : Int) ∧ ((k8 : Nat) : Int) < (((y3.map iC).length : Nat) : Int) := by simpa only [se_len, se_ch, List.length_map] using g5
        replace b8 := bindS b8
        obtain ⟨v6, hv6, b8⟩ := b8
        have i7 : nth (y3.map iC) (0 + ((((k8 : Nat) : Int) : Int).toNat)) = some [(I v6)] := by simpa only [se_map, se_len, se_ch, List.length_map, nth_eq, Nat.zero_add, List.getElem?_map] using gixNF (f := iC) hv6
        repeat' first | with_reducible rfl | with_reducible exact True.intro | with_reducible assumption | refine parkI ?_ | exact g5 | (rw [i7]; conv => whnf) | (refine And.intro ?_ ?_ <;> conv => whnf) | fail
        refine parkE (fun hc => ?_) (fun hc => ?_)
        · replace b8 := condT hc b8
          conv => whnf
          replace b8 := grdS b8
          obtain ⟨g8, b8⟩ := b8
          replace g8 : fits (((s8.map iC) ++ [[(I ((k8 : Nat) : Int))]])).length 8 := by simpa only [se_len, se_ch, List.length_map] using g8
          repeat' first | with_reducible rfl | with_reducible exact True.intro | with_reducible assumption | refine parkI ?_ | exact g8 | exact clA _ | (refine And.intro ?_ ?_ <;> conv => whnf) | exact clN _ | fail
          have e := Option.some.inj b8
          refine LoopW.ren [(5, 3), (2, 2)] [(9, (LV.sl 3 0 ((s8 ++ ([((k8 : Nat) : Int)] : (List Int))).map iC).length)), (10, (LV.sl 2 0 (y3.map iC).length)), (25, (I a0.Segs)), (26, (I ((k8 + 1 : Nat) : Int)))] 4 [(3, (.row 3 1 ((s8 ++ ([((k8 : Nat) : Int)] : (List Int))).map iC))), (2, (.row 3 1 (y3.map iC)))] rfl ⟨(by exact congrArg (LV.sl 3 0) (clL _ : (((s8.map iC) ++ [[(I ((k8 : Nat) : Int))]])).length = ((s8 ++ ([((k8 : Nat) : Int)] : (List Int))).map iC).length)), rfl, rfl, (congrArg (LV.int .i64) (w64_nat _ (by omega))), trivial⟩ ⟨⟨rfl, rfl, .inl ⟨(smT : (((s8.map iC) ++ [[(I ((k8 : Nat) : Int))]]) : List (List LV)) = ((s8 ++ ([((k8 : Nat) : Int)] : (List Int))).map iC)), nlT⟩⟩, rfl, rfl, ⟨⟨rfl, rfl, .inl ⟨rfl, nlT⟩⟩, rfl, rfl, trivial⟩⟩ rfl (K8 _ e.symm)
        · replace b8 := condF hc b8
          conv => whnf
          repeat' first | with_reducible rfl | with_reducible exact True.intro | with_reducible assumption | refine parkI ?_ | (refine And.intro ?_ ?_ <;> conv => whnf) | fail
          have e := Option.some.inj b8
          refine LoopW.norm [(9, (LV.sl 3 0 (s8.map iC).length)), (10, (LV.sl 2 0 (y3.map iC).length)), (25, (I a0.Segs)), (26, (I ((k8 + 1 : Nat) : Int)))] 4 [(3, (.row 3 1 (s8.map iC))), (2, (.row 3 1 (y3.map iC)))] ⟨rfl, rfl, rfl, (congrArg (LV.int .i64) (w64_nat _ (by omega))), trivial⟩ ⟨⟨rfl, rfl, NLss_bel (NLss_map' _)⟩, ⟨⟨rfl, rfl, NLss_bel (NLss_map' _)⟩, trivial⟩⟩ blT rfl (K8 _ e.symm)
      · exact (Bool.false_ne_true (hc.symm.trans hd)).elim

end Go.RX
